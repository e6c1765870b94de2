import Derived.Test.YtkojmgnbmnjmmaaDoorNl48
import Derived.Test.YtkojmgnbmnjmmaaDoorNl27
/-! layer 21: awake -/
namespace Go.Proofs.YtkojmgnbmnjmmaaDoor
open Go.RowKit Garner
theorem needsE_of {p : Bs} {rs : List Nat} {L : List Bs} (h1 : ¬ 128 < p.length) (hv : Lib.validD p = true) (hr : runesP p = rs) (h : (match readR rs with | .ok t => some (litT t) | .error _ => none) = some L) : needsE p = .ok (onceR L) := by
  unfold needsE rexpP
  rw [if_neg h1, if_neg (by rw [hv]; decide), hr]
  cases hd : readR rs with
  | error k => rw [hd] at h; cases h
  | ok t =>
    rw [hd] at h
    injection h with h
    show Except.ok (needsP t) = _
    rw [needsP, h, onceR_eq]
theorem wordsE_of {p : Bs} {L : List Bs} (h : needsE p = .ok L) : wordsE p = .ok (onceR (L.flatMap fun x => onceR (innerT x))) := by
  unfold wordsE
  rw [h]
  have e : (fun x => onceR (innerT x)) = innerP := by funext x; rw [onceR_eq]; rfl
  rw [e, onceR_eq]
theorem aw21_a : needsE [101, 114, 114, 40, 111, 114, 41, 63, 58, 32, 46, 42, 100, 98] = .ok [[58, 32], [100, 98], [101, 114, 114]] := by
  rw [needsE_of (rs := [101, 114, 114, 40, 111, 114, 41, 63, 58, 32, 46, 42, 100, 98]) (L := [[101, 114, 114], [58, 32], [100, 98]]) (by decide) (by kernel_rfl) (by kernel_rfl) (by kernel_rfl)]
  kernel_rfl
theorem aw21_c : needsE [120, 32, 117, 115, 101, 114, 61, 91, 48, 45, 57, 93, 43, 32] = .ok [[32], [120, 32, 117, 115, 101, 114, 61]] := by
  rw [needsE_of (rs := [120, 32, 117, 115, 101, 114, 61, 91, 48, 45, 57, 93, 43, 32]) (L := [[120, 32, 117, 115, 101, 114, 61], [32]]) (by decide) (by kernel_rfl) (by kernel_rfl) (by kernel_rfl)]
  kernel_rfl
theorem aw21_b : wordsE [120, 32, 117, 115, 101, 114, 61, 91, 48, 45, 57, 93, 43, 32] = .ok [[117, 115, 101, 114]] := by
  rw [wordsE_of aw21_c]
  kernel_rfl
set_option maxRecDepth 100000 in
set_option maxHeartbeats 8000000 in
theorem vAwake21 (w : World) (hL : Lt w) : Calls Tryd.prog 10 #[] w fun e w' => e = .returned (.bool true) ∧ Below w.heap.size w w' := by
  have h1 := vNeeds _ w hL (by rw [show ([101, 114, 114, 40, 111, 114, 41, 63, 58, 32, 46, 42, 100, 98] : Bs).length = 14 from rfl]; decide)
  rw [aw21_a] at h1
  have H1 := Lib.hid h1; have HL := Lib.hid hL
  clear h1 hL
  go_enter Tryd.func10, Tryd.ntmps10
  go_wp2_with fail
  refine H1.out.mono ?_
  rintro e w1 ⟨hb1, v1, rfl, o1⟩
  obtain ⟨A1, c1, rfl, -⟩ := own_form o1
  have h2 := vWords _ w1 (HL.out.below hb1) (by rw [show ([120, 32, 117, 115, 101, 114, 61, 91, 48, 45, 57, 93, 43, 32] : Bs).length = 14 from rfl]; decide)
  rw [aw21_b] at h2
  have H2 := Lib.hid h2; have HB1 := Lib.hid hb1; have O1 := Lib.hid o1
  clear h2 hb1 o1
  go_wp2_with fail
  refine H2.out.mono ?_
  rintro e w2 ⟨hb2, v2, rfl, o2⟩
  obtain ⟨A2, c2, rfl, -⟩ := own_form o2
  have hw2 := HB1.out.trans (hb2.mono HB1.out.size)
  have O12 := Lib.hid (own_below O1.out hb2); have O2 := Lib.hid o2; have HW2 := Lib.hid hw2
  clear hb2 o2 hw2
  have hs1 := HB1.out.size
  have r1 := Row.of_own O12.out
  obtain ⟨X, hX⟩ : ∃ X, X = w2.alloc (.cells #[.string ⟨#[58, 32]⟩, .string ⟨#[100, 98]⟩, .string ⟨#[101, 114, 114]⟩] 9) := ⟨_, rfl⟩
  have hbX : Below w2.heap.size w2 X := by rw [hX]; exact (Below.refl _ _).alloc (Nat.le_refl _) _
  have rX : Row X X.heap.size 1 (some ⟨w2.heap.size, 0, none⟩) 3 ([[58, 32], [100, 98], [101, 114, 114]].map strV) := by
    have h := row_new w2 9 ([[58, 32], [100, 98], [101, 114, 114]].map strV)
    have e : X.heap.size = w2.heap.size + 1 := by rw [hX]; simp
    rw [e, hX]
    exact h
  have s1 := vSame7 [[58, 32], [100, 98], [101, 114, 114]] [[58, 32], [100, 98], [101, 114, 114]] A1 (some ⟨w2.heap.size, 0, none⟩) 3 3 c1 3 X.heap.size X rfl rfl (Row.of_own (own_below O12.out hbX)) rX (Nat.le_refl _) (by omega)
  rw [decide_eq_true rfl] at s1
  have S1 := Lib.hid s1; have HBX := Lib.hid hbX; have HWX := Lib.hid (HW2.out.trans (hbX.mono HW2.out.size))
  clear s1 hbX rX r1 H1 H2
  go_wp2_with (rw [← hX]; with_reducible refine S1.out.mono ?_; rintro e w3 ⟨rfl, hb3⟩; clear hX)
  have hb23 : Below w2.heap.size w2 w3 := HBX.out.trans (hb3.mono HBX.out.size)
  obtain ⟨Y, hY⟩ : ∃ Y, Y = w3.alloc (.cells #[.string ⟨#[117, 115, 101, 114]⟩] 9) := ⟨_, rfl⟩
  have hbY : Below w3.heap.size w3 Y := by rw [hY]; exact (Below.refl _ _).alloc (Nat.le_refl _) _
  have rY : Row Y Y.heap.size 1 (some ⟨w3.heap.size, 0, none⟩) 1 ([[117, 115, 101, 114]].map strV) := by
    have h := row_new w3 9 ([[117, 115, 101, 114]].map strV)
    have e : Y.heap.size = w3.heap.size + 1 := by rw [hY]; simp
    rw [e, hY]
    exact h
  have s2 := vSame7 [[117, 115, 101, 114]] [[117, 115, 101, 114]] A2 (some ⟨w3.heap.size, 0, none⟩) 1 1 c2 1 Y.heap.size Y rfl rfl (Row.of_own (own_below (own_below O2.out hb23) hbY)) rY (Nat.le_refl _) (by omega)
  rw [decide_eq_true rfl] at s2
  have hw3 := HW2.out.trans (hb23.mono HW2.out.size)
  have S2 := Lib.hid s2; have HWY := Lib.hid (hw3.trans (hbY.mono hw3.size))
  clear s2 hbY rY hb23 hb3 hw3
  rw [← hY]
  with_reducible refine S2.out.mono ?_
  rintro e w4 ⟨rfl, hb4⟩
  clear hY
  go_wp2
  go_ret
  exact ⟨rfl, HWY.out.trans (hb4.mono HWY.out.size)⟩
end Go.Proofs.YtkojmgnbmnjmmaaDoor
/-! layer 21, plain: patterns joined -/
namespace Garner
open Go
theorem quant_plus (t : Re) (r : List Nat) : quantR t (43 :: r) = some (.rep t 1 none, r) := by
  rw [quantR, if_neg (by decide), if_pos rfl]
theorem quant_opt (t : Re) (r : List Nat) : quantR t (63 :: r) = some (.rep t 0 (some 1), r) := by
  rw [quantR, if_neg (by decide), if_neg (by decide), if_pos rfl]
theorem plus_read {s : List Nat} {a c : Re} (hs : ReadsTo s a) (h : readR (40 :: (s ++ 41 :: [43])) = .ok c) : c = .rep a 1 none := by
  obtain ⟨d, h1⟩ := item_paren hs
  obtain ⟨n, hn⟩ : ∃ n, 4 * (40 :: (s ++ 41 :: [43])).length + 4 = n + 3 := ⟨4 * (40 :: (s ++ 41 :: [43])).length + 1, by omega⟩
  have hl : (40 :: (s ++ 41 :: [43])).length = s.length + 3 := by simp
  have i1 := h1 [43] (n + 1) (by omega)
  rw [quant_plus] at i1
  simp only [Option.map_some] at i1
  have r1 := rows_cons (by decide) (by decide) i1 (rows_end n)
  exact read_of (by rw [hn]; exact alts_one r1) h
theorem opt_read {s : List Nat} {a c : Re} (hs : ReadsTo s a) (h : readR (40 :: (s ++ 41 :: [63])) = .ok c) : c = .rep a 0 (some 1) := by
  obtain ⟨d, h1⟩ := item_paren hs
  obtain ⟨n, hn⟩ : ∃ n, 4 * (40 :: (s ++ 41 :: [63])).length + 4 = n + 3 := ⟨4 * (40 :: (s ++ 41 :: [63])).length + 1, by omega⟩
  have hl : (40 :: (s ++ 41 :: [63])).length = s.length + 3 := by simp
  have i1 := h1 [63] (n + 1) (by omega)
  rw [quant_opt] at i1
  simp only [Option.map_some] at i1
  have r1 := rows_cons (by decide) (by decide) i1 (rows_end n)
  exact read_of (by rw [hn]; exact alts_one r1) h
theorem mem_xy {p : Nat} (h1 : 97 ≤ p) (h2 : p ≤ 122) (r : List Nat) : memR (p :: r) = some ([p, p], r) := by
  rw [memR, if_neg (by omega), if_neg (by omega)]
theorem cls_xy (r : List Nat) (n : Nat) : clsR (n + 3) false (120 :: 121 :: 93 :: r) [] = some ([120, 120, 121, 121], r) := by
  have e1 : ¬ ((false = true) ∧ (120 :: 121 :: 93 :: r).head? = some 93) := by simp
  have e2 : ¬ ((121 :: 93 :: r).head? = some 45) := by simp
  have e3 : ¬ ((true = true) ∧ (121 :: 93 :: r).head? = some 93) := by simp
  have e4 : ¬ ((93 :: r).head? = some 45) := by simp
  have e5 : (true = true) ∧ (93 :: r).head? = some 93 := by simp
  rw [clsR, if_neg e1, mem_xy (by decide) (by decide)]
  dsimp only
  rw [if_neg e2, clsR, if_neg e3, mem_xy (by decide) (by decide)]
  dsimp only
  rw [if_neg e4, clsR, if_pos e5]
  rfl
theorem class_xy (r : List Nat) : classR (120 :: 121 :: 93 :: r) = some ([120, 121], r) := by
  have e : ¬ ((120 :: 121 :: 93 :: r).head? = some 94) := by simp
  have e2 : mergedR [120, 120, 121, 121] = [120, 121] := by kernel_rfl
  unfold classR
  rw [if_neg e, show (120 :: 121 :: 93 :: r).length + 1 = r.length + 1 + 3 from rfl, cls_xy]
  show some (mergedR [120, 120, 121, 121], r) = _
  rw [e2]
theorem join_read {s t : List Nat} {a b c : Re} (hs : ReadsTo s a) (ht : ReadsTo t b) (h : readR (40 :: (s ++ 41 :: 91 :: 120 :: 121 :: 93 :: 40 :: (t ++ [41]))) = .ok c) : c = .seq [a, .set [120, 121], b] := by
  obtain ⟨d, h1⟩ := item_paren hs
  obtain ⟨e, h2⟩ := item_paren ht
  have hl : (40 :: (s ++ 41 :: 91 :: 120 :: 121 :: 93 :: 40 :: (t ++ [41]))).length = s.length + t.length + 8 := by simp only [List.length_cons, List.length_append, List.length_nil]; omega
  obtain ⟨n, hn⟩ : ∃ n, 4 * (40 :: (s ++ 41 :: 91 :: 120 :: 121 :: 93 :: 40 :: (t ++ [41]))).length + 4 = n + 6 := ⟨4 * (40 :: (s ++ 41 :: 91 :: 120 :: 121 :: 93 :: 40 :: (t ++ [41]))).length - 2, by omega⟩
  have i1 := h1 (91 :: 120 :: 121 :: 93 :: 40 :: (t ++ [41])) (n + 4) (by omega)
  rw [quant_none (by decide) (by decide) (by decide) (by decide)] at i1
  simp only [Option.map_some] at i1
  have i3 := h2 [] (n + 2) (by omega)
  rw [show quantR b [] = some (b, []) from rfl] at i3
  simp only [Option.map_some] at i3
  have r3 := rows_cons (by decide) (by decide) i3 (rows_end (n + 1))
  have r2 := rows_cons (by decide) (by decide) (item_of (atom_class (n := n + 1) (class_xy (40 :: (t ++ [41])))) (quant_none (by decide) (by decide) (by decide) (by decide))) r3
  have r1 := rows_cons (by decide) (by decide) i1 r2
  exact read_of (by rw [hn]; exact alts_one r1) h
theorem plus_parse {s : Bs} {a c : Re} (hs : rexpP s = .ok a) (h : rexpP (40 :: (s ++ 41 :: [43])) = .ok c) : c = .rep a 1 none := by
  obtain ⟨v1, r1⟩ := rexp_ok hs
  obtain ⟨v3, r3⟩ := rexp_ok h
  rw [asc1 40, app1 v1, asc1 41, asc1 43, runes_nil] at r3
  exact plus_read (read_ok r1) r3
theorem opt_parse {s : Bs} {a c : Re} (hs : rexpP s = .ok a) (h : rexpP (40 :: (s ++ 41 :: [63])) = .ok c) : c = .rep a 0 (some 1) := by
  obtain ⟨v1, r1⟩ := rexp_ok hs
  obtain ⟨v3, r3⟩ := rexp_ok h
  rw [asc1 40, app1 v1, asc1 41, asc1 63, runes_nil] at r3
  exact opt_read (read_ok r1) r3
theorem join_parse {s t : Bs} {a b c : Re} (hs : rexpP s = .ok a) (ht : rexpP t = .ok b) (h : rexpP (40 :: (s ++ 41 :: 91 :: 120 :: 121 :: 93 :: 40 :: (t ++ [41]))) = .ok c) : c = .seq [a, .set [120, 121], b] := by
  obtain ⟨v1, r1⟩ := rexp_ok hs
  obtain ⟨v2, r2⟩ := rexp_ok ht
  obtain ⟨v3, r3⟩ := rexp_ok h
  rw [asc1 40, app1 v1, asc1 41, asc1 91, asc1 120, asc1 121, asc1 93, asc1 40, app1 v2, asc1 41, runes_nil] at r3
  exact join_read (read_ok r1) (read_ok r2) r3
end Garner
namespace Go.Proofs.YtkojmgnbmnjmmaaDoor
open Garner
theorem needsE_ok {l : Bs} {A : List Bs} (h : needsE l = .ok A) : ∃ t, rexpP l = .ok t ∧ A = onceB (litT t) := by
  unfold needsE at h
  split at h
  · cases h
  · rename_i t ht
    injection h with h
    exact ⟨t, ht, h.symm⟩
theorem join_needs {s t : Bs} {A B C : List Bs} (hs : needsE s = .ok A) (ht : needsE t = .ok B) (h : needsE (40 :: (s ++ 41 :: 91 :: 120 :: 121 :: 93 :: 40 :: (t ++ [41]))) = .ok C) : C = onceB (A ++ B) := by
  obtain ⟨a, ha, rfl⟩ := needsE_ok hs
  obtain ⟨b, hb, rfl⟩ := needsE_ok ht
  obtain ⟨c, hc, rfl⟩ := needsE_ok h
  rw [join_parse ha hb hc, joins_lit (by decide), onceB_append]
theorem alt_needs {s t : Bs} {A B C : List Bs} (hs : needsE s = .ok A) (ht : needsE t = .ok B) (h : needsE (40 :: (s ++ 41 :: 124 :: 40 :: (t ++ [41]))) = .ok C) : C = [] := by
  obtain ⟨a, ha, rfl⟩ := needsE_ok hs
  obtain ⟨b, hb, rfl⟩ := needsE_ok ht
  obtain ⟨c, hc, rfl⟩ := needsE_ok h
  rw [alt_parse ha hb hc, alt_lit, ← onceR_eq]
  rfl
theorem plus_needs {s : Bs} {A C : List Bs} (hs : needsE s = .ok A) (h : needsE (40 :: (s ++ 41 :: [43])) = .ok C) : C = A := by
  obtain ⟨a, ha, rfl⟩ := needsE_ok hs
  obtain ⟨c, hc, rfl⟩ := needsE_ok h
  rw [plus_parse ha hc, rep_lit, if_pos (by decide)]
theorem opt_needs {s : Bs} {A C : List Bs} (hs : needsE s = .ok A) (h : needsE (40 :: (s ++ 41 :: [63])) = .ok C) : C = [] := by
  obtain ⟨a, ha, rfl⟩ := needsE_ok hs
  obtain ⟨c, hc, rfl⟩ := needsE_ok h
  rw [opt_parse ha hc, rep_lit, if_neg (by decide), ← onceR_eq]
  rfl
end Go.Proofs.YtkojmgnbmnjmmaaDoor
