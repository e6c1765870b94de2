import Derived.Test.YtmalkgakdmghiaaPa13
import Derived.Test.YtmalkgakdmghiaaPa09
import Derived.Laws.OwnMore
import Derived.Deep.CutBlock
import Derived.Deep.DeepCutAuto
import Derived.StillTailTactics
import Derived.Deep.RegionHeld3
/-! layer 3: bits laid -/
namespace Go.Proofs.Ytmalkgakdmghiaa
open Go.RowKit Garner

/-- a cell of a row of one's own written -/
theorem own_setC {w : World} {B : Nat} {e : TypeId} {sz n c q j : Nat} {xs : List Value} {u : Value} (h : w.ownsRow B e sz (.slice (some ⟨q, 0, none⟩) n c) n xs) : (w.setCell ⟨q, j, none⟩ u).ownsRow B e sz (.slice (some ⟨q, 0, none⟩) n c) n (xs.set j u) := by
  obtain ⟨h1, h2⟩ := h
  refine ⟨by rw [List.length_set]; exact h1, ?_⟩
  rcases h2 with ⟨e1, _⟩ | ⟨g, cap, cur, e1, hB, hh, hc, hm, hs, hp⟩
  · cases e1
  · injection e1 with e2 e3 e4
    simp only [Option.some.injEq, Addr.mk.injEq, and_true] at e2
    subst e2; subst e4
    refine Or.inr ⟨q, c, cur.set! j u, rfl, hB, ?_, hc, hm, by simpa using hs, ?_⟩
    · simp [World.setCell, Array.getElem?_modify, hh]
    · simp only [Array.set!_eq_setIfInBounds, Array.toList_setIfInBounds, List.take_set, hp]
theorem set_bit (pre b : Bs) (p : Nat) (v : Bool) (hp : p / 8 < b.length) (z : Int) (hz : z = (((b[p / 8]?.getD 0).toNat ||| (if v then 2 ^ (p % 8) else 0) : Nat) : Int)) :
    ((pre ++ b).map bv).set (pre.length + p / 8) (.int .u8 z) = (pre ++ setBit b p v).map bv := by
  subst hz
  rw [List.map_append, List.map_append, List.set_append_right _ _ (by simp), List.length_map, Nat.add_sub_cancel_left]
  congr 1
  unfold setBit
  apply List.ext_getElem
  · simp
  · intro i h1 h2
    rw [List.getElem_set, List.getElem_map, List.getElem_map, List.getElem_modify]
    by_cases e : p / 8 = i
    · subst e
      rw [if_pos rfl, if_pos rfl]
      unfold bv
      rw [ofNat_toNat or_lt, List.getElem?_eq_getElem hp]; rfl
    · rw [if_neg e, if_neg e]

theorem put_bit (cc x m r : Nat) (hc : cc < 256) (hx : x < 18446744073709551616) (hr : r < 8) :
    bits .or .u8 (cc : Int) (bits .and .u64 ((x : Int) / 2 ^ m) 1 % 256 * 2 ^ min r 8 % 256) = ((cc ||| (if x.testBit m then 2 ^ r else 0) : Nat) : Int) := by
  have h1 : x / 2 ^ m < 18446744073709551616 := Nat.lt_of_le_of_lt (Nat.div_le_self _ _) hx
  have e1 : ((x : Int) / 2 ^ m) = ((x / 2 ^ m : Nat) : Int) := by rw [Int.natCast_ediv]; simp
  have h8 : (2 : Nat) ^ r < 256 := by
    have := Nat.pow_lt_pow_right (a := 2) (by omega) hr
    omega
  have hb : (x / 2 ^ m) &&& 1 = if x.testBit m then 1 else 0 := by
    rw [Nat.and_one_is_mod, Nat.testBit_eq_decide_div_mod_eq]
    generalize x / 2 ^ m = z
    rcases Nat.mod_two_eq_zero_or_one z with h | h <;> simp [h]
  have e2 : bits .and .u64 ((x : Int) / 2 ^ m) 1 = (((if x.testBit m then 1 else 0) : Nat) : Int) := by
    rw [e1, show (1 : Int) = ((1 : Nat) : Int) by rfl, bits_and_u64_nat _ _ h1 (by omega), hb]
  rw [e2, Nat.min_eq_left (by omega)]
  have e3 : ((((if x.testBit m then 1 else 0) : Nat) : Int) % 256 * 2 ^ r) % 256 = (((if x.testBit m then 2 ^ r else 0) : Nat) : Int) := by
    have e4 : ((2 : Int) ^ r) = ((2 ^ r : Nat) : Int) := by simp
    cases x.testBit m
    · simp
    · rw [e4]; generalize 2 ^ r = z at *; simp; omega
  rw [e3, u8_or_nat _ _ hc (by split <;> omega)]

set_option maxRecDepth 100000 in
set_option maxHeartbeats 4000000 in
theorem vPkPut (pre b : Bs) (q c B : Nat) (w : World) (a x k : Nat) (za zk zx : Int) (hza : za = (a : Int)) (hzk : zk = (k : Int)) (hzx : zx = (x : Int)) (hx : (x : Int) < 18446744073709551616)
    (hown : OwnB w B (.slice (some ⟨q, 0, none⟩) (pre.length + b.length) c) (pre ++ b)) (hk : k ≤ 64) (ha : a + k ≤ 8 * b.length) (hl : pre.length + b.length ≤ 140737488355328) :
    Calls Try.prog 31 #[.slice (some ⟨q, pre.length, none⟩) b.length (c - pre.length), .int .i64 za, .int .i64 zk, .int .u64 zx] w fun e w' => e = .returned (.tuple #[]) ∧ OwnB w' B (.slice (some ⟨q, 0, none⟩) (pre.length + b.length) c) (pre ++ putN b a x k) ∧ But [q] w w' := by
  subst hza hzk hzx
  go_enter Try.func31, Try.ntmps31
  go_wp2
  go_loopw [10] (fun i wr => ∃ m : Nat, m ≤ k ∧ i = .int .i64 m ∧ OwnB wr B (.slice (some ⟨q, 0, none⟩) (pre.length + b.length) c) (pre ++ putN b a x m) ∧ But [q] w wr) (fun i _ => k - (intOf i).toNat)
  case atStart => exact ⟨0, Nat.zero_le _, rfl, hown, But.refl _ _⟩
  case round =>
    obtain ⟨m, hm, rfl, ho, hb⟩ := hrel
    by_cases hlt : m < k
    · have hfz : ∀ j, wr.frozen? ⟨q, j, none⟩ = false := fun j => World.ownsRow.frozenAt (by
        have := ho; unfold OwnB at this; rw [List.length_append, putN_len] at this; exact this) j
      obtain ⟨A, c', e1, hrow⟩ := ho.shape
      obtain ⟨b', off, e2, hlt2, hcell⟩ := hrow.at_ (k := pre.length + (a + m) / 8) (by rw [List.length_append, putN_len]; omega)
      have e3 := e1; rw [e2] at e3
      injection e3 with e4 e5 e6
      injection e4 with e4; injection e4 with e7 e8
      subst e7; subst e8
      have hc0 : wr.cell? ⟨q, pre.length + (a + m) / 8, none⟩ = some (.int .u8 (((putN b a x m)[(a + m) / 8]?.getD 0).toNat : Int)) := by
        have := hcell (pre.length + (a + m) / 8) (by rw [List.length_map, List.length_append, putN_len]; omega)
        rw [Nat.zero_add] at this
        rw [this, List.getElem?_eq_getElem (by rw [putN_len]; omega), List.getElem_map, List.getElem_append_right (by omega)]
        simp [bv]
      clear hcell e1 e2 hrow e5 e6
      obtain ⟨t, ht⟩ : ∃ t, t = (a + m) / 8 := ⟨_, rfl⟩
      obtain ⟨r, hr⟩ : ∃ r, r = (a + m) % 8 := ⟨_, rfl⟩
      obtain ⟨z, hz⟩ : ∃ z : Int, z = (a : Int) + m := ⟨_, rfl⟩
      have w1 : IntKind.i64.wrap ((a : Int) + m) = z := by rw [IntKind.wrap_i64]; omega
      have w2 : IntKind.i64.wrap (z.tdiv 8) = (t : Int) := by
        have h5 : z.tdiv 8 = (t : Int) := by rw [Int.tdiv_eq_ediv_of_nonneg (by omega)]; omega
        rw [h5, IntKind.wrap_i64]; omega
      have w3 : z.tmod 8 = (r : Int) := by rw [Int.tmod_eq_emod_of_nonneg (by omega)]; omega
      have t0 : (0 : Int) ≤ (t : Int) := by omega
      have t1 : (t : Int) < (b.length : Int) := by omega
      have r0 : (0 : Int) ≤ (r : Int) := by omega
      rw [← ht] at hc0
      obtain ⟨cc, hcc⟩ : ∃ cc : Nat, cc = ((putN b a x m)[t]?.getD 0).toNat := ⟨_, rfl⟩
      rw [← hcc] at hc0
      have Hz := Lib.hid hz; clear hz
      have Ht := Lib.hid ht; clear ht
      have Hr := Lib.hid hr; clear hr
      have Hcc := Lib.hid hcc; clear hcc
      go_upto_region 3 with fail
      have hS0 : Below wr.heap.size wr wr.drew := (Below.refl _ _).drew
      have y0 : ∀ w', Below wr.heap.size wr w' → w'.cell? ⟨q, pre.length + t, none⟩ = some (.int .u8 (cc : Int)) := fun w' h => (h.cell (p := ⟨q, pre.length + t, none⟩) hlt2).trans hc0
      have hc0' : wr.drew.cell? ⟨q, pre.length + t, none⟩ = some (.int .u8 (cc : Int)) := hc0
      have hfz' : wr.drew.frozen? ⟨q, pre.length + t, none⟩ = false := hfz _
      refine wp_region_N (fun w' => Below wr.heap.size wr w') 19 (by kernel_rfl) ?_
      apply wpAnyN_takeL 0 (by kernel_rfl) rfl (fun _ _ _ h => h) (by kernel_rfl) hS0
      · intro w' hS'
        go_simp; exact ⟨rfl, rfl⟩
      (try simp only [Act.put]); (try simp only [List.setIfInBounds_toArray]); (try simp only [List.set])
      apply wpAnyN_takeL 1 (by kernel_rfl) rfl (fun _ _ _ h => h) (by kernel_rfl) hS0
      · intro w' hS'
        go_simp; exact ⟨rfl, rfl⟩
      (try simp only [Act.put]); (try simp only [List.setIfInBounds_toArray]); (try simp only [List.set])
      apply wpAnyN_takeL 2 (by kernel_rfl) rfl (fun _ _ _ h => h) (by kernel_rfl) hS0
      · intro w' hS'
        go_simp; exact ⟨rfl, rfl⟩
      (try simp only [Act.put]); (try simp only [List.setIfInBounds_toArray]); (try simp only [List.set])
      apply wpAnyN_takeL 3 (by kernel_rfl) rfl (fun _ _ _ h => h) (by kernel_rfl) hS0
      · intro w' hS'
        go_simp; exact ⟨rfl, rfl⟩
      (try simp only [Act.put]); (try simp only [List.setIfInBounds_toArray]); (try simp only [List.set])
      apply wpAnyN_takeL 4 (by kernel_rfl) rfl (fun _ _ _ h => h) (by kernel_rfl) hS0
      · intro w' hS'
        go_simp; exact ⟨rfl, rfl⟩
      (try simp only [Act.put]); (try simp only [List.setIfInBounds_toArray]); (try simp only [List.set])
      apply wpAnyN_takeL 5 (by kernel_rfl) rfl (fun _ _ _ h => h) (by kernel_rfl) hS0
      · intro w' hS'
        go_simp; exact ⟨rfl, rfl⟩
      (try simp only [Act.put]); (try simp only [List.setIfInBounds_toArray]); (try simp only [List.set])
      apply wpAnyN_takeL 6 (by kernel_rfl) rfl (fun _ _ _ h => h) (by kernel_rfl) hS0
      · intro w' hS'
        go_simp; exact ⟨rfl, rfl⟩
      (try simp only [Act.put]); (try simp only [List.setIfInBounds_toArray]); (try simp only [List.set])
      apply wpAnyN_takeL 7 (by kernel_rfl) rfl (fun _ _ _ h => h) (by kernel_rfl) hS0
      · intro w' hS'
        go_simp; exact ⟨rfl, rfl⟩
      (try simp only [Act.put]); (try simp only [List.setIfInBounds_toArray]); (try simp only [List.set])
      apply wpAnyN_takeL 8 (by kernel_rfl) rfl (fun _ _ _ h => h) (by kernel_rfl) hS0
      · intro w' hS'
        go_simp; exact ⟨rfl, rfl⟩
      (try simp only [Act.put]); (try simp only [List.setIfInBounds_toArray]); (try simp only [List.set])
      apply wpAnyN_takeL 9 (by kernel_rfl) rfl (fun _ _ _ h => h) (by kernel_rfl) hS0
      · intro w' hS'
        go_simp; exact ⟨rfl, rfl⟩
      (try simp only [Act.put]); (try simp only [List.setIfInBounds_toArray]); (try simp only [List.set])
      apply wpAnyN_takeL 10 (by kernel_rfl) rfl (fun _ _ _ h => h) (by kernel_rfl) hS0
      · intro w' hS'
        go_simp; exact ⟨rfl, rfl⟩
      (try simp only [Act.put]); (try simp only [List.setIfInBounds_toArray]); (try simp only [List.set])
      apply wpAnyN_takeL 11 (by kernel_rfl) rfl (fun _ _ _ h => h) (by kernel_rfl) hS0
      · intro w' hS'
        go_simp; exact ⟨rfl, rfl⟩
      (try simp only [Act.put]); (try simp only [List.setIfInBounds_toArray]); (try simp only [List.set])
      apply wpAnyN_takeL 12 (by kernel_rfl) rfl (fun _ _ _ h => h) (by kernel_rfl) hS0
      · intro w' hS'
        go_simp; exact ⟨rfl, rfl⟩
      (try simp only [Act.put]); (try simp only [List.setIfInBounds_toArray]); (try simp only [List.set])
      apply wpAnyN_takeL 13 (by kernel_rfl) rfl (fun _ _ _ h => h) (by kernel_rfl) hS0
      · intro w' hS'
        go_simp; exact ⟨rfl, rfl⟩
      (try simp only [Act.put]); (try simp only [List.setIfInBounds_toArray]); (try simp only [List.set])
      apply wpAnyN_takeL 14 (by kernel_rfl) rfl (fun _ _ _ h => h) (by kernel_rfl) hS0
      · intro w' hS'
        go_simp; exact ⟨rfl, rfl⟩
      (try simp only [Act.put]); (try simp only [List.setIfInBounds_toArray]); (try simp only [List.set])
      apply wpAnyN_takeL 15 (by kernel_rfl) rfl (fun _ _ _ h => h) (by kernel_rfl) hS0
      · intro w' hS'
        go_simp; exact ⟨rfl, rfl⟩
      (try simp only [Act.put]); (try simp only [List.setIfInBounds_toArray]); (try simp only [List.set])
      apply wpAnyN_takeL 16 (by kernel_rfl) rfl (fun _ _ _ h => h) (by kernel_rfl) hS0
      · intro w' hS'
        go_simp; exact ⟨rfl, rfl⟩
      (try simp only [Act.put]); (try simp only [List.setIfInBounds_toArray]); (try simp only [List.set])
      apply wpAnyN_takeL 17 (by kernel_rfl) rfl (fun _ _ _ h => h) (by kernel_rfl) hS0
      · intro w' hS'
        go_simp; exact ⟨rfl, rfl⟩
      (try simp only [Act.put]); (try simp only [List.setIfInBounds_toArray]); (try simp only [List.set])
      apply wpAnyN_takeL 18 (by kernel_rfl) rfl (fun _ _ _ h => h) (by kernel_rfl) hS0
      · intro w' hS'
        go_simp; exact ⟨rfl, rfl⟩
      (try simp only [Act.put]); (try simp only [List.setIfInBounds_toArray]); (try simp only [List.set])
      refine wpAnyN_runL 19 (by kernel_rfl) rfl (by kernel_rfl) (fun K hK => ?_)
      go_simp
      refine hK _ _ (fun h => absurd rfl h) ?_
      clear hK K
      (try simp only [Act.put])
      refine wpAnyN_done (by kernel_rfl) ?_ _
      go_wp2
      have hz := Hz.out; have ht := Ht.out; have hr := Hr.out; have hcc := Hcc.out
      subst ht
      rw [put_bit cc x m r (by rw [hcc]; exact UInt8.toNat_lt _) (by omega) (by omega)]
      refine ⟨⟨m + 1, by omega, rfl, ?_, (hb.setCell (by simp) _).drew⟩, by simp [intOf]; omega⟩
      have h7 : (a + m) / 8 < (putN b a x m).length := by rw [putN_len]; omega
      have h8 := own_setC (j := pre.length + (a + m) / 8) (u := .int .u8 ((cc ||| (if x.testBit m then 2 ^ r else 0) : Nat) : Int)) (by
        have := ho; unfold OwnB at this; rw [List.length_append, putN_len] at this; exact this)
      rw [set_bit pre (putN b a x m) (a + m) (x.testBit m) h7 _ (by rw [hcc, hr])] at h8
      unfold OwnB
      rw [List.length_append, putN_len]
      exact h8
    · go_wp2
      go_end0
      have : m = k := by omega
      subst this
      exact ⟨rfl, ho, hb⟩
end Go.Proofs.Ytmalkgakdmghiaa
