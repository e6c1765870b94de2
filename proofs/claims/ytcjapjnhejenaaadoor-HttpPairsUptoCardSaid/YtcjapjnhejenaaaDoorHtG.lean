import Derived.Test.YtcjapjnhejenaaaDoorHtF
/-! http: token (printed by gen_htg.py) -/
namespace Go.Proofs.YtcjapjnhejenaaaDoor
open Go.RowKit Go.Shelf Garner

theorem cTok (x : UInt8) (w : World) (hL : Lt w) : Calls Tryd.prog 53 #[.string { data := #[33, 35, 36, 37, 38, 39, 42, 43, 45, 46, 94, 95, 96, 124, 126] }, .string (Utf8.encode (x.toNat : Int))] w fun e w' => e = .returned (.bool (tokSet.contains x)) ∧ w' = w := by
  obtain ⟨m, hm⟩ := hL.m
  refine (Tryd.strings_Contains { data := #[33, 35, 36, 37, 38, 39, 42, 43, 45, 46, 94, 95, 96, 124, 126] } (Utf8.encode (x.toNat : Int)) m w (by decide) hm).mono ?_
  rintro e w' ⟨rfl, hd⟩
  have h := tok_contains ⟨x.toNat, x.toNat_lt⟩
  simp only [UInt8.ofNat_toNat] at h
  refine ⟨?_, hd⟩
  rw [← h]
  rfl
set_option maxRecDepth 100000 in
set_option maxHeartbeats 4000000 in
theorem vToken (l : Bs) (w : World) (hL : Lt w) (hs : l.length ≤ 9223372036854775000) :
    Calls Tryd.prog 30 #[str l] w fun e w' => e = .returned (.bool (tokenP l)) ∧ Below w.heap.size w w' := by
  obtain ⟨c, w1, hconv, hb1, hsz, hcap, hrow⟩ := conv_bytes ⟨l.toArray⟩ w
  have hL1 := hL.below hb1
  rw [str_list] at hrow
  rw [str_size] at hconv hrow hcap
  obtain ⟨n, hn⟩ : ∃ n, l.length = n := ⟨_, rfl⟩
  rw [hn] at hconv hrow hs hcap
  obtain ⟨R, hR⟩ : ∃ R, R = tokenP l := ⟨_, rfl⟩
  rw [← hR]
  have HR := Lib.hid hR; clear hR
  have Hn := Lib.hid hn; clear hn
  unfold str
  obtain ⟨sv, hsv⟩ : ∃ sv : ByteArray, sv = ⟨l.toArray⟩ := ⟨_, rfl⟩
  rw [← hsv] at hconv ⊢
  have Hsv := Lib.hid hsv; clear hsv
  go_enter Tryd.func30, Tryd.ntmps30
  go_wp2
  go_loopw [8] (fun i wr => ∃ k : Nat, k ≤ n ∧ i = .int .i64 k ∧ wr = w1 ∧ Hid ((l.take k).all tokB = true)) (fun i _ => n - (intOf i).toNat)
  case atStart => exact ⟨0, Nat.zero_le _, rfl, rfl, Lib.hid rfl⟩
  case round =>
    obtain ⟨k, hk, rfl, rfl, hall⟩ := hrel
    have w2 : IntKind.i64.wrap ((k : Int) + 1) = (k : Int) + 1 := by rw [IntKind.wrap_i64]; omega
    by_cases hlt : k < n
    · have z1 : (k : Int) < (n : Int) := by omega
      obtain ⟨x, hx⟩ : ∃ x : UInt8, l[k]? = some x := ⟨_, List.getElem?_eq_getElem (by have := Hn.out; omega)⟩
      have hcell : wr.cell? ⟨w.heap.size, k, none⟩ = some (.int .u8 (x.toNat : Int)) := by
        obtain ⟨b, off, e, -, hc⟩ := hrow.2 (by omega)
        simp only [Option.some.injEq, Addr.mk.injEq, and_true] at e
        obtain ⟨rfl, rfl⟩ := e
        have := hc k (bv x) (by rw [List.getElem?_map, hx]; rfl)
        simpa [bv] using this
      have good : tokB x = true → Hid ((l.take (k + 1)).all tokB = true) := fun h => Lib.hid (by rw [all_take hx, hall.out, h]; rfl)
      have bad : tokB x = false → R = false := fun h => by rw [HR.out]; unfold tokenP; rw [all_false hx h]; rfl
      have hgood := Lib.hid good; clear good
      have hbad := Lib.hid bad; clear bad
      have Hx := Lib.hid hx; clear hx
      have hor := or32_bits x
      have hxl : x.toNat < 256 := x.toNat_lt
      have w3 : IntKind.i32.wrap (x.toNat : Int) = (x.toNat : Int) := by rw [IntKind.wrap_i32]; omega
      have htok := cTok x wr hL1
      obtain ⟨t, ht⟩ : ∃ t, t = tokSet.contains x := ⟨_, rfl⟩
      rw [← ht] at htok
      obtain ⟨o, ho⟩ : ∃ o, o = or32 x.toNat := ⟨_, rfl⟩
      rw [← ho] at hor
      have htb : tokB x = ((decide (48 ≤ x.toNat) && decide (x.toNat ≤ 57)) || (decide (97 ≤ o) && decide (o ≤ 122)) || t) := by rw [ht, ho]; rfl
      have Htb := Lib.hid htb; clear htb ht ho
      by_cases a1 : 48 ≤ x.toNat
      · have b1 : ¬ (x.toNat : Int) < 48 := by omega
        by_cases a2 : x.toNat ≤ 57
        · have b2 : ¬ (57 : Int) < x.toNat := by omega
          go_wp2
          exact ⟨⟨k + 1, by omega, by simp, by simp, hgood.out (by rw [Htb.out]; simp [a1, a2])⟩, by simp [intOf]; omega⟩
        · have b2 : (57 : Int) < x.toNat := by omega
          by_cases d1 : 97 ≤ o
          · have e1 : ¬ (o : Int) < 97 := by omega
            by_cases d2 : o ≤ 122
            · have e2 : ¬ (122 : Int) < o := by omega
              go_wp2
              exact ⟨⟨k + 1, by omega, by simp, by simp, hgood.out (by rw [Htb.out]; simp [a2, d1, d2])⟩, by simp [intOf]; omega⟩
            · have e2 : (122 : Int) < o := by omega
              go_wp2_with fail
              refine htok.mono ?_
              rintro e w' ⟨rfl, rfl⟩
              cases t with
              | true =>
                go_wp2
                exact ⟨⟨k + 1, by omega, by simp, by simp, hgood.out (by rw [Htb.out]; simp [a2, d2])⟩, by simp [intOf]; omega⟩
              | false =>
                go_wp2
                go_ret
                exact ⟨by rw [hbad.out (by rw [Htb.out]; simp [a2, d2])]; rfl, hb1⟩
          · have e1 : (o : Int) < 97 := by omega
            go_wp2_with fail
            refine htok.mono ?_
            rintro e w' ⟨rfl, rfl⟩
            cases t with
            | true =>
              go_wp2
              exact ⟨⟨k + 1, by omega, by simp, by simp, hgood.out (by rw [Htb.out]; simp [a2, d1])⟩, by simp [intOf]; omega⟩
            | false =>
              go_wp2
              go_ret
              exact ⟨by rw [hbad.out (by rw [Htb.out]; simp [a2, d1])]; rfl, hb1⟩
      · have b1 : (x.toNat : Int) < 48 := by omega
        by_cases d1 : 97 ≤ o
        · have e1 : ¬ (o : Int) < 97 := by omega
          by_cases d2 : o ≤ 122
          · have e2 : ¬ (122 : Int) < o := by omega
            go_wp2
            exact ⟨⟨k + 1, by omega, by simp, by simp, hgood.out (by rw [Htb.out]; simp [a1, d1, d2])⟩, by simp [intOf]; omega⟩
          · have e2 : (122 : Int) < o := by omega
            go_wp2_with fail
            refine htok.mono ?_
            rintro e w' ⟨rfl, rfl⟩
            cases t with
            | true =>
              go_wp2
              exact ⟨⟨k + 1, by omega, by simp, by simp, hgood.out (by rw [Htb.out]; simp [a1, d2])⟩, by simp [intOf]; omega⟩
            | false =>
              go_wp2
              go_ret
              exact ⟨by rw [hbad.out (by rw [Htb.out]; simp [a1, d2])]; rfl, hb1⟩
        · have e1 : (o : Int) < 97 := by omega
          go_wp2_with fail
          refine htok.mono ?_
          rintro e w' ⟨rfl, rfl⟩
          cases t with
          | true =>
            go_wp2
            exact ⟨⟨k + 1, by omega, by simp, by simp, hgood.out (by rw [Htb.out]; simp [a1, d1])⟩, by simp [intOf]; omega⟩
          | false =>
            go_wp2
            go_ret
            exact ⟨by rw [hbad.out (by rw [Htb.out]; simp [a1, d1])]; rfl, hb1⟩
    · have z1 : ¬ (k : Int) < (n : Int) := by omega
      obtain rfl : k = n := by omega
      have hm := hall.out
      rw [List.take_of_length_le (by have := Hn.out; omega)] at hm
      have hRR : R = !l.isEmpty := by rw [HR.out]; unfold tokenP; rw [hm]; rfl
      have HRR := Lib.hid hRR; clear hRR hm
      by_cases hsv : sv = { data := #[] }
      · have hl0 : l = [] := by
          have := Hsv.out
          rw [hsv] at this
          have h2 := congrArg (fun b : ByteArray => b.data.toList) this
          simpa using h2.symm
        have HL := Lib.hid hl0; clear hl0
        go_wp2
        go_ret
        exact ⟨by rw [HRR.out, HL.out]; simp, hb1⟩
      · have hl0 : l ≠ [] := fun h => hsv (by rw [Hsv.out, h])
        have HL := Lib.hid hl0; clear hl0
        go_wp2
        go_ret
        refine ⟨?_, hb1⟩
        have h2 := HL.out
        cases l with
        | nil => exact absurd rfl h2
        | cons x r =>
          have h3 : ¬ sv.toList = [] := by rw [Lib.toList_data, Hsv.out]; simp
          rw [HRR.out]
          simp [h3]
end Go.Proofs.YtcjapjnhejenaaaDoor
