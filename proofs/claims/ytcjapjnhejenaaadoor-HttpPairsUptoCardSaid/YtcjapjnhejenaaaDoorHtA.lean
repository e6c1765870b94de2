import Derived.Test.YtcjapjnhejenaaaDoorHtQ
import Derived.Test.YtcjapjnhejenaaaDoorSkip
import Derived.BigRegion
import Derived.Lib.ConvBytes
import Derived.Deep.CutBlock
import Derived.Deep.DeepCutAuto
import Derived.StillTailTactics
import Derived.Deep.RegionHeld3
import Derived.Laws.OwnMore

/-! http: the small functions over bytes -/
namespace Go.Proofs.YtcjapjnhejenaaaDoor
open Go.RowKit Garner

theorem or32_all : ∀ b : Fin 256, b.val ||| 32 = or32 b.val := by decide +kernel
theorem or32_bits (c : UInt8) : bits .or .u8 (c.toNat : Int) 32 = (or32 c.toNat : Int) := by
  have h := or32_all ⟨c.toNat, c.toNat_lt⟩
  simp only at h
  rw [show (32 : Int) = ((32 : Nat) : Int) by rfl, u8_or_nat _ _ c.toNat_lt (by omega), h]
theorem or32_lt (c : UInt8) : or32 c.toNat < 256 := by
  have h := or32_all ⟨c.toNat, c.toNat_lt⟩
  simp only at h
  rw [← h]
  exact Nat.or_lt_two_pow (n := 8) c.toNat_lt (by omega)
set_option maxHeartbeats 1000000 in
theorem vHex (c : UInt8) (w : World) : Calls Tryd.prog 56 #[bv c] w fun e w' => e = .returned (.int .i64 (hexP c)) ∧ w' = w := by
  have hor := or32_bits c
  have hlt := c.toNat_lt
  have hlt2 := or32_lt c
  unfold bv
  obtain ⟨n, hn⟩ : ∃ n, n = c.toNat := ⟨_, rfl⟩
  obtain ⟨m, hm⟩ : ∃ m, m = or32 c.toNat := ⟨_, rfl⟩
  have hx : hexP c = if 48 ≤ n ∧ n ≤ 57 then (n : Int) - 48 else if 97 ≤ m ∧ m ≤ 102 then (m : Int) - 87 else -1 := by rw [hn, hm]; rfl
  rw [hx]
  rw [← hm] at hor hlt2
  rw [← hn] at hlt hor ⊢
  clear hn hm hx
  by_cases a : 48 ≤ n ∧ n ≤ 57
  · rw [if_pos a]
    have b1 : (48 : Int) ≤ n := by omega
    have b2 : (n : Int) ≤ 57 := by omega
    have w1 : IntKind.u8.wrap ((n : Int) - 48) = (n : Int) - 48 := by rw [IntKind.wrap_u8]; omega
    have w2 : IntKind.i64.wrap ((n : Int) - 48) = (n : Int) - 48 := by rw [IntKind.wrap_i64]; omega
    go_enter Tryd.func56, Tryd.ntmps56
    go_wp2
    go_ret
    exact ⟨rfl, rfl⟩
  · rw [if_neg a]
    by_cases b : 97 ≤ m ∧ m ≤ 102
    · rw [if_pos b]
      have b1 : (97 : Int) ≤ m := by omega
      have b2 : (m : Int) ≤ 102 := by omega
      have w1 : IntKind.u8.wrap ((m : Int) - 97) = (m : Int) - 97 := by rw [IntKind.wrap_u8]; omega
      have w2 : IntKind.i64.wrap ((m : Int) - 97) = (m : Int) - 97 := by rw [IntKind.wrap_i64]; omega
      have w3 : IntKind.i64.wrap ((m : Int) - 97 + 10) = (m : Int) - 87 := by rw [IntKind.wrap_i64]; omega
      by_cases c1 : 48 ≤ n
      · have c2 : (48 : Int) ≤ n := by omega
        have c3 : ¬ (n : Int) ≤ 57 := by omega
        go_enter Tryd.func56, Tryd.ntmps56
        go_wp2
        go_ret
        exact ⟨rfl, rfl⟩
      · have c2 : ¬ (48 : Int) ≤ n := by omega
        go_enter Tryd.func56, Tryd.ntmps56
        go_wp2
        go_ret
        exact ⟨rfl, rfl⟩
    · rw [if_neg b]
      by_cases b1 : 97 ≤ m
      · have b2 : (97 : Int) ≤ m := by omega
        have b3 : ¬ (m : Int) ≤ 102 := by omega
        by_cases c1 : 48 ≤ n
        · have c2 : (48 : Int) ≤ n := by omega
          have c3 : ¬ (n : Int) ≤ 57 := by omega
          go_enter Tryd.func56, Tryd.ntmps56
          go_wp2
          go_ret
          exact ⟨rfl, rfl⟩
        · have c2 : ¬ (48 : Int) ≤ n := by omega
          go_enter Tryd.func56, Tryd.ntmps56
          go_wp2
          go_ret
          exact ⟨rfl, rfl⟩
      · have b2 : ¬ (97 : Int) ≤ m := by omega
        by_cases c1 : 48 ≤ n
        · have c2 : (48 : Int) ≤ n := by omega
          have c3 : ¬ (n : Int) ≤ 57 := by omega
          go_enter Tryd.func56, Tryd.ntmps56
          go_wp2
          go_ret
          exact ⟨rfl, rfl⟩
        · have c2 : ¬ (48 : Int) ≤ n := by omega
          go_enter Tryd.func56, Tryd.ntmps56
          go_wp2
          go_ret
          exact ⟨rfl, rfl⟩
set_option maxHeartbeats 2000000 in
/-- expect: do these bytes come next? -/
theorem vExpect (b : Bs) (A : Option Addr) (c B at_ : Nat) (want : ByteArray) (w : World) (hr : Bytes w B A b.length b) (hl : b.length ≤ 140737488355328) (hat : at_ ≤ b.length) (hw : want.size ≤ 100) :
    Calls Tryd.prog 35 #[.slice A b.length c, .int .i64 at_, .string want] w fun e w' => e = .returned (.int .i64 (expectP (b.drop at_) want.data.toList)) ∧ ∃ q, w' = w.drewN q := by
  obtain ⟨ANS, hANS⟩ : ∃ ANS, expectP (b.drop at_) want.data.toList = ANS := ⟨_, rfl⟩
  rw [hANS]
  go_enter Tryd.func35, Tryd.ntmps35
  go_wp2
  go_loopw [10] (fun i wr => ∃ k : Nat, k ≤ want.size ∧ i = .int .i64 k ∧ expectP (b.drop (at_ + k)) (want.data.toList.drop k) = ANS ∧ ∃ q, wr = w.drewN q) (fun i _ => want.size - (intOf i).toNat)
  case atStart => exact ⟨0, Nat.zero_le _, rfl, hANS, 0, rfl⟩
  case round =>
    obtain ⟨k, hk, rfl, hans, q, rfl⟩ := hrel
    have hwl : want.data.toList.length = want.size := (Lib.size_eq want).symm
    have w1 : IntKind.i64.wrap ((at_ : Int) + (k : Int)) = ((at_ + k : Nat) : Int) := by rw [IntKind.wrap_i64]; omega
    have w2 : IntKind.i64.wrap ((k : Int) + 1) = (k : Int) + 1 := by rw [IntKind.wrap_i64]; omega
    by_cases hlt : k < want.size
    · have z1 : (k : Int) < (want.size : Int) := by omega
      by_cases hin : at_ + k < b.length
      · have z2 : ¬ (b.length : Int) ≤ ((at_ + k : Nat) : Int) := by omega
        obtain ⟨bk, off, rfl, -, hc⟩ := hr.at_ (k := at_ + k) hin
        obtain ⟨i, hi⟩ : ∃ i, i = at_ + k := ⟨_, rfl⟩
        obtain ⟨x, hx⟩ : ∃ x : UInt8, b[at_ + k] = x := ⟨_, rfl⟩
        obtain ⟨y, hy⟩ : ∃ y : UInt8, want[k]'hlt = y := ⟨_, rfl⟩
        have hcell : ∀ n, (w.drewN n).cell? ⟨bk, off + i, none⟩ = some (.int .u8 (x.toNat : Int)) := fun n => by
          have := hc (at_ + k) (by simpa using hin)
          rw [hi]
          simpa [bv, hx] using this
        rw [← hi] at w1 z2
        have z3 : (i : Int) < (b.length : Int) := by omega
        have z4 : (k : Int) < (want.size : Int) := by omega
        have hstep : expectP (b.drop i) (want.data.toList.drop k) = if x = y then expectP (b.drop (i + 1)) (want.data.toList.drop (k + 1)) else 60 := by
          rw [hi, List.drop_eq_getElem_cons (by omega), List.drop_eq_getElem_cons (by omega : k < want.data.toList.length), hx]
          have : want.data.toList[k] = y := by rw [← hy]; rfl
          rw [this]
          rfl
        rw [hi] at hstep
        have Hi := Lib.hid hi
        clear hc hx hi
        by_cases hxy : x = y
        · rw [if_pos hxy] at hstep
          have hyz : (y.toNat : Int) = (x.toNat : Int) := by rw [hxy]
          go_upto_region 6 with fail
          go_region
          all_goals go_wp2
          exact ⟨⟨k + 1, by omega, by simp, by rw [← hans, hstep]; rfl, q + 1, rfl⟩, by simp [intOf]; omega⟩
        · rw [if_neg hxy] at hstep
          have hyz : ¬ (x.toNat : Int) = (y.toNat : Int) := fun e => hxy (UInt8.toNat_inj.1 (by omega))
          go_upto_region 6 with fail
          go_region
          all_goals go_wp2
          go_ret
          refine ⟨?_, q + 1, rfl⟩
          rw [← hans, hstep]
          rfl
      · have z2 : (b.length : Int) ≤ ((at_ + k : Nat) : Int) := by omega
        go_wp2
        go_ret
        refine ⟨?_, q, rfl⟩
        rw [← hans, List.drop_eq_nil_of_le (by omega), List.drop_eq_getElem_cons (by omega)]
        rfl
    · have z1 : ¬ (k : Int) < (want.size : Int) := by omega
      go_wp2
      go_ret
      refine ⟨?_, q, rfl⟩
      rw [← hans, List.drop_eq_nil_of_le (by omega : want.data.toList.length ≤ k)]
      cases b.drop (at_ + k) <;> rfl
/-- []byte(s): a new row of its bytes -/
theorem conv_bytes (s : ByteArray) (w : World) : ∃ c w1, (convert 9 22 (.string s)).run Tryd.prog w = .ok (.slice (some ⟨w.heap.size, 0, none⟩) s.size c) w1 ∧ Below w.heap.size w w1 ∧ w1.heap.size = w.heap.size + 1 ∧
    s.size ≤ c ∧ Bytes w1 (w.heap.size + 1) (some ⟨w.heap.size, 0, none⟩) s.size s.data.toList := by
  refine ⟨_, _, Lib.run_convert_string_bytes w 9 22 5 s Tryd.underlying9 Tryd.underlying22 Tryd.underlying5, ?_, Lib.bytesWorld_size _ _ _, grownCap_ge .., ?_⟩
  · exact ⟨rfl, rfl, rfl, by rw [Lib.bytesWorld_size]; omega, fun j hj => Lib.bytesWorld_at_old _ _ _ _ hj⟩
  · refine ⟨by rw [List.length_map, ← Lib.size_eq, Nat.mul_one], fun _ => ⟨w.heap.size, 0, rfl, by omega, fun j u hu => ?_⟩⟩
    rw [List.getElem?_map] at hu
    cases hj : s.data.toList[j]? with
    | none => rw [hj] at hu; cases hu
    | some x =>
      rw [hj] at hu
      have hlt := (List.getElem?_eq_some_iff.1 hj).1
      rw [Nat.zero_add, Lib.bytesWorld_cell w _ s j (by rw [Lib.size_eq]; exact hlt), ← hu]
      simp [bv, List.getD, hj]
theorem all_take {p : UInt8 → Bool} {l : Bs} {k : Nat} {x : UInt8} (hx : l[k]? = some x) : (l.take (k + 1)).all p = ((l.take k).all p && p x) := by
  rw [List.take_add_one, hx]; simp
theorem all_false {p : UInt8 → Bool} {l : Bs} {k : Nat} {x : UInt8} (hx : l[k]? = some x) (hp : p x = false) : l.all p = false := by
  rw [List.all_eq_false]
  exact ⟨x, List.mem_of_getElem? hx, by simp [hp]⟩
set_option maxHeartbeats 2000000 in
theorem vMethod (s : ByteArray) (w : World) (hs : s.size ≤ 9223372036854775000) :
    Calls Tryd.prog 27 #[.string s] w fun e w' => e = .returned (.bool (methodP s.data.toList)) ∧ Below w.heap.size w w' := by
  obtain ⟨c, w1, hconv, hb1, hsz, hcap, hrow⟩ := conv_bytes s w
  obtain ⟨l, hl⟩ : ∃ l, s.data.toList = l := ⟨_, rfl⟩
  have hll : l.length = s.size := by rw [← hl, Lib.size_eq]
  rw [hl] at hrow ⊢
  obtain ⟨n, hn⟩ : ∃ n, s.size = n := ⟨_, rfl⟩
  rw [hn] at hconv hrow hs hll
  clear hl
  go_enter Tryd.func27, Tryd.ntmps27
  go_wp2
  go_loopw [8] (fun i wr => ∃ k : Nat, k ≤ n ∧ i = .int .i64 k ∧ wr = w1 ∧ (l.take k).all (fun c => decide (65 ≤ c.toNat ∧ c.toNat ≤ 90)) = true) (fun i _ => n - (intOf i).toNat)
  case atStart => exact ⟨0, Nat.zero_le _, rfl, rfl, rfl⟩
  case round =>
    obtain ⟨k, hk, rfl, rfl, hall⟩ := hrel
    have w2 : IntKind.i64.wrap ((k : Int) + 1) = (k : Int) + 1 := by rw [IntKind.wrap_i64]; omega
    by_cases hlt : k < n
    · have z1 : (k : Int) < (n : Int) := by omega
      obtain ⟨x, hx⟩ : ∃ x : UInt8, l[k]? = some x := ⟨_, List.getElem?_eq_getElem (by omega)⟩
      have hcell : wr.cell? ⟨w.heap.size, k, none⟩ = some (.int .u8 (x.toNat : Int)) := by
        obtain ⟨b, off, e, -, hc⟩ := hrow.2 (by omega)
        simp only [Option.some.injEq, Addr.mk.injEq, and_true] at e
        obtain ⟨rfl, rfl⟩ := e
        have := hc k (bv x) (by rw [List.getElem?_map, hx]; rfl)
        simpa [bv] using this
      by_cases a1 : 65 ≤ x.toNat
      · have b1 : ¬ (x.toNat : Int) < 65 := by omega
        by_cases a2 : x.toNat ≤ 90
        · have b2 : ¬ (90 : Int) < x.toNat := by omega
          go_wp2
          exact ⟨⟨k + 1, by omega, by simp, by simp, by rw [all_take hx, hall]; simp; omega⟩, by simp [intOf]; omega⟩
        · have b2 : (90 : Int) < x.toNat := by omega
          go_wp2
          go_ret
          refine ⟨?_, hb1⟩
          unfold methodP
          rw [all_false hx (by simp; omega)]
          rfl
      · have b1 : (x.toNat : Int) < 65 := by omega
        go_wp2
        go_ret
        refine ⟨?_, hb1⟩
        unfold methodP
        rw [all_false hx (by simp; omega)]
        rfl
    · have z1 : ¬ (k : Int) < (n : Int) := by omega
      obtain rfl : k = n := by omega
      rw [List.take_of_length_le (by omega)] at hall
      have hm : methodP l = decide (0 < k ∧ k ≤ 16) := by unfold methodP; rw [hall, hll]; rfl
      have Hm := Lib.hid hm; clear hm
      by_cases a1 : 0 < k
      · have b1 : (0 : Int) < k := by omega
        by_cases a2 : k ≤ 16
        · have b2 : (k : Int) ≤ 16 := by omega
          go_wp2
          go_ret
          exact ⟨by rw [Hm.out]; simp [a1, a2], hb1⟩
        · have b2 : ¬ (k : Int) ≤ 16 := by omega
          go_wp2
          go_ret
          exact ⟨by rw [Hm.out]; simp [a1, a2], hb1⟩
      · have b1 : ¬ (0 : Int) < k := by omega
        go_wp2
        go_ret
        exact ⟨by rw [Hm.out]; simp [a1], hb1⟩
end Go.Proofs.YtcjapjnhejenaaaDoor
