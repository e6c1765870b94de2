import Derived.Test.YtcjapjnhejenaaaDoorHtD
/-! http: clean, digits -/
namespace Garner
theorem digN_snoc (l : Bs) (x : UInt8) (n : Nat) : digN (l ++ [x]) n = min (10 * digN l n + (x.toNat + 208) % 256) 1099511627776 := by unfold digN; rw [List.foldl_append]; rfl
theorem digN_le : ∀ (l : Bs) (n : Nat), n ≤ 1099511627776 → digN l n ≤ 1099511627776
  | [], _, h => h
  | _ :: l, _, _ => digN_le l _ (Nat.min_le_right _ _)
end Garner
namespace Go.Proofs.YtcjapjnhejenaaaDoor
open Go.RowKit Garner

set_option maxRecDepth 100000 in
set_option maxHeartbeats 2000000 in
theorem vClean (s : ByteArray) (w : World) (hs : s.size ≤ 9223372036854775000) :
    Calls Tryd.prog 31 #[.string s] w fun e w' => e = .returned (.bool (cleanP s.data.toList)) ∧ Below w.heap.size w w' := by
  obtain ⟨c, w1, hconv, hb1, hsz, hcap, hrow⟩ := conv_bytes s w
  obtain ⟨l, hl⟩ : ∃ l, s.data.toList = l := ⟨_, rfl⟩
  have hll : l.length = s.size := by rw [← hl, Lib.size_eq]
  rw [hl] at hrow ⊢
  obtain ⟨n, hn⟩ : ∃ n, s.size = n := ⟨_, rfl⟩
  rw [hn] at hconv hrow hs hll
  clear hl
  go_enter Tryd.func31, Tryd.ntmps31
  go_wp2
  go_loopw [8] (fun i wr => ∃ k : Nat, k ≤ n ∧ i = .int .i64 k ∧ wr = w1 ∧ Hid ((l.take k).all cleanB = true)) (fun i _ => n - (intOf i).toNat)
  case atStart => exact ⟨0, Nat.zero_le _, rfl, rfl, Lib.hid rfl⟩
  case round =>
    obtain ⟨k, hk, rfl, rfl, hall⟩ := hrel
    have w2 : IntKind.i64.wrap ((k : Int) + 1) = (k : Int) + 1 := by rw [IntKind.wrap_i64]; omega
    by_cases hlt : k < n
    · have z1 : (k : Int) < (n : Int) := by omega
      obtain ⟨x, hx⟩ : ∃ x : UInt8, l[k]? = some x := ⟨_, List.getElem?_eq_getElem (by omega)⟩
      have hcell : wr.cell? ⟨w.heap.size, k, none⟩ = some (.int .u8 (x.toNat : Int)) := by
        obtain ⟨b, off, e, -, hc⟩ := hrow.2 (by omega)
        simp only [Option.some.injEq, Addr.mk.injEq, and_true] at e
        obtain ⟨rfl, rfl⟩ := e
        have := hc k (bv x) (by rw [List.getElem?_map, hx]; rfl)
        simpa [bv] using this
      have good : cleanB x = true → Hid ((l.take (k + 1)).all cleanB = true) := fun h => Lib.hid (by rw [all_take hx, hall.out, h]; rfl)
      have bad : cleanB x = false → cleanP l = false := fun h => all_false hx h
      have hgood := Lib.hid good; clear good
      have hbad := Lib.hid bad; clear bad
      have Hx := Lib.hid hx; clear hx
      by_cases a1 : x.toNat < 32
      · have b1 : (x.toNat : Int) < 32 := by omega
        by_cases a2 : x.toNat = 9
        · have b2 : (x.toNat : Int) = 9 := by omega
          go_wp2
          exact ⟨⟨k + 1, by omega, by simp, by simp, hgood.out (by unfold cleanB; rw [a2]; decide)⟩, by simp [intOf]; omega⟩
        · have b2 : ¬ (x.toNat : Int) = 9 := by omega
          go_wp2
          go_ret
          exact ⟨by rw [hbad.out (by unfold cleanB; simp [a1, a2])]; rfl, hb1⟩
      · have b1 : ¬ (x.toNat : Int) < 32 := by omega
        by_cases a2 : x.toNat = 127
        · have b2 : (x.toNat : Int) = 127 := by omega
          go_wp2
          go_ret
          exact ⟨by rw [hbad.out (by unfold cleanB; simp [a2])]; rfl, hb1⟩
        · have b2 : ¬ (x.toNat : Int) = 127 := by omega
          go_wp2
          exact ⟨⟨k + 1, by omega, by simp, by simp, hgood.out (by unfold cleanB; simp [a1, a2])⟩, by simp [intOf]; omega⟩
    · have z1 : ¬ (k : Int) < (n : Int) := by omega
      obtain rfl : k = n := by omega
      have hm := hall.out
      rw [List.take_of_length_le (by omega)] at hm
      have Hm := Lib.hid hm; clear hm
      go_wp2
      go_ret
      exact ⟨by rw [show cleanP l = true from Hm.out]; rfl, hb1⟩
set_option maxRecDepth 100000 in
set_option maxHeartbeats 2000000 in
theorem vDigits (s : ByteArray) (ok : Bool) (w : World) (hs : s.size ≤ 9223372036854775000) :
    Calls Tryd.prog 33 #[.string s, .bool ok] w fun e w' => e = .returned (.tuple #[.int .i64 (digN s.data.toList 0 : Nat), .bool (digitsP s.data.toList ok).2]) ∧ Below w.heap.size w w' := by
  obtain ⟨c, w1, hconv, hb1, hsz, hcap, hrow⟩ := conv_bytes s w
  obtain ⟨l, hl⟩ : ∃ l, s.data.toList = l := ⟨_, rfl⟩
  have hll : l.length = s.size := by rw [← hl, Lib.size_eq]
  rw [hl] at hrow ⊢
  obtain ⟨n, hn⟩ : ∃ n, s.size = n := ⟨_, rfl⟩
  rw [hn] at hconv hrow hs hll
  obtain ⟨N, hN⟩ : ∃ N, N = digN l 0 := ⟨_, rfl⟩
  obtain ⟨R, hR⟩ : ∃ R, R = (digitsP l ok).2 := ⟨_, rfl⟩
  rw [← hN, ← hR]
  have HN := Lib.hid hN; clear hN
  have HR := Lib.hid hR; clear hR
  clear hl
  go_enter Tryd.func33, Tryd.ntmps33
  go_wp2
  go_loopw [1, 6, 12] (fun o v i wr => ∃ (k m : Nat) (o' : Bool), k ≤ n ∧ i = .int .i64 k ∧ v = .int .i64 m ∧ m ≤ 1099511627776 ∧ o = .bool o' ∧ wr = w1 ∧ Hid (m = digN (l.take k) 0) ∧ Hid (o' = (ok && (l.take k).all digB))) (fun _ _ i _ => n - (intOf i).toNat)
  case atStart => exact ⟨0, 0, ok, Nat.zero_le _, rfl, rfl, by omega, rfl, rfl, Lib.hid rfl, Lib.hid (by simp)⟩
  case round =>
    obtain ⟨k, m, o', hk, rfl, rfl, hm, rfl, rfl, hmm, hoo⟩ := hrel
    have w2 : IntKind.i64.wrap ((k : Int) + 1) = (k : Int) + 1 := by rw [IntKind.wrap_i64]; omega
    by_cases hlt : k < n
    · have z1 : (k : Int) < (n : Int) := by omega
      obtain ⟨x, hx⟩ : ∃ x : UInt8, l[k]? = some x := ⟨_, List.getElem?_eq_getElem (by omega)⟩
      have hcell : wr.cell? ⟨w.heap.size, k, none⟩ = some (.int .u8 (x.toNat : Int)) := by
        obtain ⟨b, off, e, -, hc⟩ := hrow.2 (by omega)
        simp only [Option.some.injEq, Addr.mk.injEq, and_true] at e
        obtain ⟨rfl, rfl⟩ := e
        have := hc k (bv x) (by rw [List.getElem?_map, hx]; rfl)
        simpa [bv] using this
      have hxl : x.toNat < 256 := x.toNat_lt
      obtain ⟨d, hd⟩ : ∃ d, d = (x.toNat + 208) % 256 := ⟨_, rfl⟩
      have w3 : IntKind.u8.wrap ((x.toNat : Int) - 48) = (d : Int) := by rw [IntKind.wrap_u8]; omega
      have hd2 : d < 256 := by omega
      have w4 : IntKind.i64.wrap (d : Int) = (d : Int) := by rw [IntKind.wrap_i64]; omega
      have w5 : IntKind.i64.wrap (10 * (m : Int)) = 10 * (m : Int) := by rw [IntKind.wrap_i64]; omega
      have w6 : IntKind.i64.wrap (10 * (m : Int) + (d : Int)) = 10 * (m : Int) + (d : Int) := by rw [IntKind.wrap_i64]; omega
      obtain ⟨m2, hm2⟩ : ∃ m2, m2 = min (10 * m + d) 1099511627776 := ⟨_, rfl⟩
      have w7 : Hid ((if (1099511627776 : Int) < 10 * (m : Int) + (d : Int) then (1099511627776 : Int) else 10 * (m : Int) + (d : Int)) = (m2 : Int)) := Lib.hid (by split <;> omega)
      have nextm : Hid (m2 = digN (l.take (k + 1)) 0) := Lib.hid (by rw [List.take_add_one, hx, Option.toList_some, digN_snoc, ← hmm.out, ← hd, hm2])
      have hm2' : m2 ≤ 1099511627776 := by omega
      have nexto : Hid ((ok && (l.take (k + 1)).all digB) = (o' && digB x)) := Lib.hid (by rw [all_take hx, hoo.out, Bool.and_assoc])
      have Hx := Lib.hid hx; clear hx
      have Hd := Lib.hid hd; clear hd
      have Hm2 := Lib.hid hm2; clear hm2
      have fin : ∀ o2 : Bool, (o' && digB x) = o2 → Hid (o2 = (ok && (l.take (k + 1)).all digB)) := fun o2 h => Lib.hid (by rw [nexto.out, h])
      have Fin := Lib.hid fin; clear fin
      have meas : n - (k + 1) < n - k := by omega
      cases o' with
      | false =>
        go_wp2
        exact ⟨⟨k + 1, m2, false, by omega, by simp, by simp; exact w7.out, hm2', by simp, by simp, nextm, Fin.out false rfl⟩, by simp [intOf]; omega⟩
      | true =>
        by_cases a1 : 48 ≤ x.toNat
        · have b1 : (48 : Int) ≤ x.toNat := by omega
          by_cases a2 : x.toNat ≤ 57
          · have b2 : (x.toNat : Int) ≤ 57 := by omega
            go_wp2
            exact ⟨⟨k + 1, m2, true, by omega, by simp, by simp; exact w7.out, hm2', by simp, by simp, nextm, Fin.out true (by unfold digB; simp [a1, a2])⟩, by simp [intOf]; omega⟩
          · have b2 : ¬ (x.toNat : Int) ≤ 57 := by omega
            go_wp2
            exact ⟨⟨k + 1, m2, false, by omega, by simp, by simp; exact w7.out, hm2', by simp, by simp, nextm, Fin.out false (by unfold digB; simp [a1, a2])⟩, by simp [intOf]; omega⟩
        · have b1 : ¬ (48 : Int) ≤ x.toNat := by omega
          go_wp2
          exact ⟨⟨k + 1, m2, false, by omega, by simp, by simp; exact w7.out, hm2', by simp, by simp, nextm, Fin.out false (by unfold digB; simp [a1])⟩, by simp [intOf]; omega⟩
    · have z1 : ¬ (k : Int) < (n : Int) := by omega
      obtain rfl : k = n := by omega
      have e1 := hmm.out
      have e2 := hoo.out
      rw [List.take_of_length_le (by omega)] at e1 e2
      have hRR : R = (o' && decide (1 ≤ k ∧ k ≤ 10)) := by rw [HR.out, e2]; unfold digitsP; rw [hll]
      have hNN : N = m := by rw [HN.out, e1]
      have h1 := Lib.hid hRR; clear hRR
      have h2 := Lib.hid hNN; clear hNN
      clear e1 e2
      have hfin : ∀ r : Bool, (o' && decide (1 ≤ k ∧ k ≤ 10)) = r → R = r := fun r h => h1.out.trans h
      have Hfin := Lib.hid hfin; clear hfin
      cases o' with
      | false =>
        go_wp2
        refine bodyPost_ret (v := .tuple #[.int .i64 (N : Nat), .bool R]) ?_ rfl ⟨rfl, hb1⟩
        have := Hfin.out false rfl
        simp [results, Tryd.results33, go_sem, h2.out, this]
      | true =>
        by_cases a1 : 1 ≤ k
        · have b1 : (1 : Int) ≤ k := by omega
          by_cases a2 : k ≤ 10
          · have b2 : (k : Int) ≤ 10 := by omega
            go_wp2
            refine bodyPost_ret (v := .tuple #[.int .i64 (N : Nat), .bool R]) ?_ rfl ⟨rfl, hb1⟩
            have := Hfin.out true (by simp [a1, a2])
            simp [results, Tryd.results33, go_sem, h2.out, this]
          · have b2 : ¬ (k : Int) ≤ 10 := by omega
            go_wp2
            refine bodyPost_ret (v := .tuple #[.int .i64 (N : Nat), .bool R]) ?_ rfl ⟨rfl, hb1⟩
            have := Hfin.out false (by simp [a2])
            simp [results, Tryd.results33, go_sem, h2.out, this]
        · have b1 : ¬ (1 : Int) ≤ k := by omega
          go_wp2
          refine bodyPost_ret (v := .tuple #[.int .i64 (N : Nat), .bool R]) ?_ rfl ⟨rfl, hb1⟩
          have := Hfin.out false (by simp [a1])
          simp [results, Tryd.results33, go_sem, h2.out, this]
end Go.Proofs.YtcjapjnhejenaaaDoor
