import Derived.Test.YtmcacicopgckmaaGreatDoorLn48
import Derived.Test.YtmcacicopgckmaaGreatDoorLn18
/-! layer 21: awake -/
namespace Go.Proofs.YtmcacicopgckmaaGreatDoor
open Go.RowKit Garner
theorem needsE_of {p : Bs} {rs : List Nat} {L : List Bs} (h1 : ¬ 128 < p.length) (hv : Lib.validD p = true) (hr : runesP p = rs) (h : (match readR rs with | .ok t => some (litT t) | .error _ => none) = some L) : needsE p = .ok (onceR L) := by
  unfold needsE rexpP
  rw [if_neg h1, if_neg (by rw [hv]; decide), hr]
  cases hd : readR rs with
  | error k => rw [hd] at h; cases h
  | ok t =>
    rw [hd] at h
    injection h with h
    show Except.ok (needsP t) = _
    rw [needsP, h, onceR_eq]
theorem wordsE_of {p : Bs} {L : List Bs} (h : needsE p = .ok L) : wordsE p = .ok (onceR (L.flatMap fun x => onceR (innerT x))) := by
  unfold wordsE
  rw [h]
  have e : (fun x => onceR (innerT x)) = innerP := by funext x; rw [onceR_eq]; rfl
  rw [e, onceR_eq]
theorem aw21_a : needsE [101, 114, 114, 40, 111, 114, 41, 63, 58, 32, 46, 42, 100, 98] = .ok [[58, 32], [100, 98], [101, 114, 114]] := by
  rw [needsE_of (rs := [101, 114, 114, 40, 111, 114, 41, 63, 58, 32, 46, 42, 100, 98]) (L := [[101, 114, 114], [58, 32], [100, 98]]) (by decide) (by kernel_rfl) (by kernel_rfl) (by kernel_rfl)]
  kernel_rfl
theorem aw21_c : needsE [120, 32, 117, 115, 101, 114, 61, 91, 48, 45, 57, 93, 43, 32] = .ok [[32], [120, 32, 117, 115, 101, 114, 61]] := by
  rw [needsE_of (rs := [120, 32, 117, 115, 101, 114, 61, 91, 48, 45, 57, 93, 43, 32]) (L := [[120, 32, 117, 115, 101, 114, 61], [32]]) (by decide) (by kernel_rfl) (by kernel_rfl) (by kernel_rfl)]
  kernel_rfl
theorem aw21_b : wordsE [120, 32, 117, 115, 101, 114, 61, 91, 48, 45, 57, 93, 43, 32] = .ok [[117, 115, 101, 114]] := by
  rw [wordsE_of aw21_c]
  kernel_rfl
set_option maxRecDepth 100000 in
set_option maxHeartbeats 8000000 in
theorem vAwake21 (w : World) (hL : Lt w) : Calls Tryz.prog 8 #[] w fun e w' => e = .returned (.bool true) ∧ Below w.heap.size w w' := by
  have h1 := vNeeds _ w hL (by rw [show ([101, 114, 114, 40, 111, 114, 41, 63, 58, 32, 46, 42, 100, 98] : Bs).length = 14 from rfl]; decide)
  rw [aw21_a] at h1
  have H1 := Lib.hid h1; have HL := Lib.hid hL
  clear h1 hL
  go_enter Tryz.func8, Tryz.ntmps8
  go_wp2_with fail
  refine H1.out.mono ?_
  rintro e w1 ⟨hb1, v1, rfl, o1⟩
  obtain ⟨A1, c1, rfl, -⟩ := own_form o1
  have h2 := vWords _ w1 (HL.out.below hb1) (by rw [show ([120, 32, 117, 115, 101, 114, 61, 91, 48, 45, 57, 93, 43, 32] : Bs).length = 14 from rfl]; decide)
  rw [aw21_b] at h2
  have H2 := Lib.hid h2; have HB1 := Lib.hid hb1; have O1 := Lib.hid o1
  clear h2 hb1 o1
  go_wp2_with fail
  refine H2.out.mono ?_
  rintro e w2 ⟨hb2, v2, rfl, o2⟩
  obtain ⟨A2, c2, rfl, -⟩ := own_form o2
  have hw2 := HB1.out.trans (hb2.mono HB1.out.size)
  have O12 := Lib.hid (own_below O1.out hb2); have O2 := Lib.hid o2; have HW2 := Lib.hid hw2
  clear hb2 o2 hw2
  have hs1 := HB1.out.size
  have r1 := Row.of_own O12.out
  obtain ⟨X, hX⟩ : ∃ X, X = w2.alloc (.cells #[.string ⟨#[58, 32]⟩, .string ⟨#[100, 98]⟩, .string ⟨#[101, 114, 114]⟩] 9) := ⟨_, rfl⟩
  have hbX : Below w2.heap.size w2 X := by rw [hX]; exact (Below.refl _ _).alloc (Nat.le_refl _) _
  have rX : Row X X.heap.size 1 (some ⟨w2.heap.size, 0, none⟩) 3 ([[58, 32], [100, 98], [101, 114, 114]].map strV) := by
    have h := row_new w2 9 ([[58, 32], [100, 98], [101, 114, 114]].map strV)
    have e : X.heap.size = w2.heap.size + 1 := by rw [hX]; simp
    rw [e, hX]
    exact h
  have s1 := vSame7 [[58, 32], [100, 98], [101, 114, 114]] [[58, 32], [100, 98], [101, 114, 114]] A1 (some ⟨w2.heap.size, 0, none⟩) 3 3 c1 3 X.heap.size X rfl rfl (Row.of_own (own_below O12.out hbX)) rX (Nat.le_refl _) (by omega)
  rw [decide_eq_true rfl] at s1
  have S1 := Lib.hid s1; have HBX := Lib.hid hbX; have HWX := Lib.hid (HW2.out.trans (hbX.mono HW2.out.size))
  clear s1 hbX rX r1 H1 H2
  go_wp2_with (rw [← hX]; with_reducible refine S1.out.mono ?_; rintro e w3 ⟨rfl, hb3⟩; clear hX)
  have hb23 : Below w2.heap.size w2 w3 := HBX.out.trans (hb3.mono HBX.out.size)
  obtain ⟨Y, hY⟩ : ∃ Y, Y = w3.alloc (.cells #[.string ⟨#[117, 115, 101, 114]⟩] 9) := ⟨_, rfl⟩
  have hbY : Below w3.heap.size w3 Y := by rw [hY]; exact (Below.refl _ _).alloc (Nat.le_refl _) _
  have rY : Row Y Y.heap.size 1 (some ⟨w3.heap.size, 0, none⟩) 1 ([[117, 115, 101, 114]].map strV) := by
    have h := row_new w3 9 ([[117, 115, 101, 114]].map strV)
    have e : Y.heap.size = w3.heap.size + 1 := by rw [hY]; simp
    rw [e, hY]
    exact h
  have s2 := vSame7 [[117, 115, 101, 114]] [[117, 115, 101, 114]] A2 (some ⟨w3.heap.size, 0, none⟩) 1 1 c2 1 Y.heap.size Y rfl rfl (Row.of_own (own_below (own_below O2.out hb23) hbY)) rY (Nat.le_refl _) (by omega)
  rw [decide_eq_true rfl] at s2
  have hw3 := HW2.out.trans (hb23.mono HW2.out.size)
  have S2 := Lib.hid s2; have HWY := Lib.hid (hw3.trans (hbY.mono hw3.size))
  clear s2 hbY rY hb23 hb3 hw3
  rw [← hY]
  with_reducible refine S2.out.mono ?_
  rintro e w4 ⟨rfl, hb4⟩
  clear hY
  go_wp2
  go_ret
  exact ⟨rfl, HWY.out.trans (hb4.mono HWY.out.size)⟩
end Go.Proofs.YtmcacicopgckmaaGreatDoor

