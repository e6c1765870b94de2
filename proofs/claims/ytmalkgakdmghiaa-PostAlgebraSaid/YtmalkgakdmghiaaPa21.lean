import Derived.Test.YtmalkgakdmghiaaPa20
import Derived.Test.YtmalkgakdmghiaaPa14
import Derived.Test.YtmalkgakdmghiaaPa10
import Derived.BigRegion
/-! slices: cmp.Less, insertionSortOrdered, Sort at short rows, at []uint64 -/
namespace Garner
def swapAt (xs : List Nat) (j : Nat) : List Nat := (xs.set (j + 1) (xs[j]?.getD 0)).set j (xs[j + 1]?.getD 0)
def insDown : Nat → List Nat → List Nat
  | 0, xs => xs
  | j + 1, xs => if xs[j + 1]?.getD 0 < xs[j]?.getD 0 then insDown j (swapAt xs j) else xs
/-- the list behind so many rounds -/
def insAll : Nat → List Nat → List Nat
  | 0, xs => xs
  | i + 1, xs => insDown (i + 1) (insAll i xs)
theorem swapAt_len (xs : List Nat) (j : Nat) : (swapAt xs j).length = xs.length := by simp [swapAt]
theorem insDown_len : ∀ (j : Nat) (xs : List Nat), (insDown j xs).length = xs.length
  | 0, _ => rfl
  | j + 1, xs => by
    rw [insDown]; split
    · rw [insDown_len j, swapAt_len]
    · rfl
theorem insAll_len : ∀ (i : Nat) (xs : List Nat), (insAll i xs).length = xs.length
  | 0, _ => rfl
  | i + 1, xs => by rw [insAll, insDown_len, insAll_len i]
end Garner
namespace Go.Proofs.Ytmalkgakdmghiaa
open Go.RowKit Garner

set_option maxHeartbeats 1000000 in
theorem cIsNaN (x : Int) (w : World) : Calls Try.prog 42 #[.int .u64 x] w fun e w' => e = .returned (.bool false) ∧ w' = w := by
  go_enter Try.func42, Try.ntmps42
  go_wp2
  go_ret
  exact ⟨by simp, rfl⟩
set_option maxHeartbeats 1000000 in
theorem vLess (x y : Int) (w : World) : Calls Try.prog 36 #[.int .u64 x, .int .u64 y] w fun e w' => e = .returned (.bool (decide (x < y))) ∧ w' = w := by
  go_enter Try.func36, Try.ntmps36
  go_wp2_with (go_at_call 42; refine (cIsNaN _ _).mono ?_; rintro e w' ⟨rfl, rfl⟩)
  go_ret
  exact ⟨rfl, rfl⟩

theorem vLessN (x y : Nat) (w : World) : Calls Try.prog 36 #[.int .u64 x, .int .u64 y] w fun e w' => e = .returned (.bool (decide (x < y))) ∧ w' = w := by
  have h := vLess x y w
  rw [show decide ((x : Int) < (y : Int)) = decide (x < y) from decide_eq_decide.2 Int.ofNat_lt] at h
  exact h
set_option maxRecDepth 100000 in
set_option maxHeartbeats 4000000 in
theorem vIns (xs : List Nat) (A : Option Addr) (c B : Nat) (w : World) (ho : OwnU w B (.slice A xs.length c) xs) (hl : xs.length ≤ 140737488355328) :
    Calls Try.prog 43 #[.slice A xs.length c, .int .i64 0, .int .i64 xs.length] w fun e w' => e = .returned (.tuple #[]) ∧ OwnU w' B (.slice A xs.length c) (insAll (xs.length - 1) xs) ∧ But (Value.slice A xs.length c).ownBlock.toList w w' := by
  obtain ⟨n, hn⟩ : ∃ n, n = xs.length := ⟨_, rfl⟩
  rw [← hn] at hl ho ⊢
  go_enter Try.func43, Try.ntmps43
  have Hn := Lib.hid hn; clear hn
  go_wp2
  go_loopw [6] (fun i wr => ∃ k : Nat, k + 1 ≤ n ∧ i = .int .i64 ((k : Int) + 1) ∧ wr.ownsRow B 31 1 (.slice A n c) n ((insAll k xs).map u64v) ∧ But (Value.slice A n c).ownBlock.toList w wr ∨ n = 0 ∧ i = .int .i64 1 ∧ wr = w) (fun i _ => n - (intOf i).toNat)
  case atStart => 
    by_cases h0 : n = 0
    · exact ⟨0, .inr ⟨h0, rfl, rfl⟩⟩
    · exact ⟨0, .inl ⟨by omega, rfl, by rw [Hn.out] at ho ⊢; exact ho, But.refl _ _⟩⟩
  case round =>
    obtain ⟨k, ⟨hk, rfl, hown, hbut⟩ | ⟨h0, rfl, rfl⟩⟩ := hrel
    · obtain ⟨wo, rfl⟩ : ∃ wo : World, wo = wr := ⟨_, rfl⟩
      by_cases hlt : k + 1 < n
      · have lt1 : (k : Int) + 1 < (n : Int) := by omega
        have w1 : IntKind.i64.wrap ((k : Int) + 1 + 1) = (k : Int) + 1 + 1 := by rw [IntKind.wrap_i64]; omega
        obtain ⟨g, rfl, hg1, hg2, hg3, hg4, -⟩ := own_at hown (by omega)
        go_wp2
        go_loopw [7] (fun i wr => ∃ (j : Nat) (ys : List Nat), j ≤ k + 1 ∧ i = .int .i64 j ∧ ys.length = n ∧ Hid (insDown j ys = insAll (k + 1) xs) ∧ wr.ownsRow B 31 1 (.slice (some ⟨g, 0, none⟩) n c) n (ys.map u64v) ∧ But [g] w wr) (fun i _ => (intOf i).toNat)
        case atStart => exact ⟨k + 1, insAll k xs, Nat.le_refl _, by simp, by rw [insAll_len, ← Hn.out], Lib.hid rfl, hown, hbut⟩
        case round =>
          obtain ⟨j, ys, hj, rfl, hyl, hid, hown2, hbut2⟩ := hrel
          obtain ⟨wp, rfl⟩ : ∃ wp : World, wp = wr := ⟨_, rfl⟩
          have hfz := hown2.frozenAt
          obtain ⟨g', hg', -, hg2', -, -, hcell⟩ := own_at hown2 (by omega)
          cases hg'
          cases j with
          | zero =>
            go_upto_region 4 with fail
            have hS0 : Below wp.heap.size wp wp.drew := (Below.refl _ _).drew
            refine wp_region_N (fun w' => Below wp.heap.size wp w') 100 (by kernel_rfl) ?_
            apply wpAnyN_takeL 0 (by kernel_rfl) rfl (fun _ _ _ h => h) (by kernel_rfl) hS0
            · intro w' hS'
              go_simp; exact ⟨rfl, rfl⟩
            (try simp only [Act.put]); (try simp only [List.setIfInBounds_toArray]); (try simp only [List.set])
            apply wpAnyN_takeL 1 (by kernel_rfl) rfl (fun _ _ _ h => h) (by kernel_rfl) hS0
            · intro w' hS'
              go_simp; exact ⟨rfl, rfl⟩
            (try simp only [Act.put]); (try simp only [List.setIfInBounds_toArray]); (try simp only [List.set])
            apply wpAnyN_takeL 2 (by kernel_rfl) rfl (fun _ _ _ h => h) (by kernel_rfl) hS0
            · intro w' hS'
              go_simp; exact ⟨rfl, rfl⟩
            (try simp only [Act.put]); (try simp only [List.setIfInBounds_toArray]); (try simp only [List.set])
            apply wpAnyN_takeL 3 (by kernel_rfl) rfl (fun _ _ _ h => h) (by kernel_rfl) hS0
            · intro w' hS'
              go_simp; exact ⟨rfl, rfl⟩
            (try simp only [Act.put]); (try simp only [List.setIfInBounds_toArray]); (try simp only [List.set])
            refine wpAnyN_skipL 4 (by kernel_rfl) rfl (fun _ _ _ h => h) (by kernel_rfl) hS0 ?_
            (try simp only [Act.put]); (try simp only [List.setIfInBounds_toArray]); (try simp only [List.set])
            refine wpAnyN_skipL 5 (by kernel_rfl) rfl (fun _ _ _ h => h) (by kernel_rfl) hS0 ?_
            (try simp only [Act.put]); (try simp only [List.setIfInBounds_toArray]); (try simp only [List.set])
            refine wpAnyN_skipL 6 (by kernel_rfl) rfl (fun _ _ _ h => h) (by kernel_rfl) hS0 ?_
            (try simp only [Act.put]); (try simp only [List.setIfInBounds_toArray]); (try simp only [List.set])
            refine wpAnyN_skipL 7 (by kernel_rfl) rfl (fun _ _ _ h => h) (by kernel_rfl) hS0 ?_
            (try simp only [Act.put]); (try simp only [List.setIfInBounds_toArray]); (try simp only [List.set])
            refine wpAnyN_skipL 8 (by kernel_rfl) rfl (fun _ _ _ h => h) (by kernel_rfl) hS0 ?_
            (try simp only [Act.put]); (try simp only [List.setIfInBounds_toArray]); (try simp only [List.set])
            refine wpAnyN_skipL 9 (by kernel_rfl) rfl (fun _ _ _ h => h) (by kernel_rfl) hS0 ?_
            (try simp only [Act.put]); (try simp only [List.setIfInBounds_toArray]); (try simp only [List.set])
            refine wpAnyN_skipL 10 (by kernel_rfl) rfl (fun _ _ _ h => h) (by kernel_rfl) hS0 ?_
            (try simp only [Act.put]); (try simp only [List.setIfInBounds_toArray]); (try simp only [List.set])
            refine wpAnyN_skipL 11 (by kernel_rfl) rfl (fun _ _ _ h => h) (by kernel_rfl) hS0 ?_
            (try simp only [Act.put]); (try simp only [List.setIfInBounds_toArray]); (try simp only [List.set])
            refine wpAnyN_skipL 12 (by kernel_rfl) rfl (fun _ _ _ h => h) (by kernel_rfl) hS0 ?_
            (try simp only [Act.put]); (try simp only [List.setIfInBounds_toArray]); (try simp only [List.set])
            refine wpAnyN_skipL 13 (by kernel_rfl) rfl (fun _ _ _ h => h) (by kernel_rfl) hS0 ?_
            (try simp only [Act.put]); (try simp only [List.setIfInBounds_toArray]); (try simp only [List.set])
            apply wpAnyN_takeL 14 (by kernel_rfl) rfl (fun _ _ _ h => h) (by kernel_rfl) hS0
            · intro w' hS'
              go_simp; exact ⟨rfl, rfl⟩
            (try simp only [Act.put]); (try simp only [List.setIfInBounds_toArray]); (try simp only [List.set])
            refine wpAnyN_done (by kernel_rfl) ?_ _
            go_wp2
            refine ⟨⟨k + 1, .inl ⟨by omega, by simp, ?_, hbut2.drew⟩⟩, by simp [intOf]; omega⟩
            rw [← hid.out]; exact hown2
          | succ j =>
            obtain ⟨x1, hx1⟩ : ∃ x1, x1 = ys[j + 1]?.getD 0 := ⟨_, rfl⟩
            obtain ⟨x0, hx0⟩ : ∃ x0, x0 = ys[j]?.getD 0 := ⟨_, rfl⟩
            have c1 : wp.cell? ⟨g, j + 1, none⟩ = some (.int .u64 (x1 : Int)) := by
              rw [hcell _ (by omega), List.getElem?_map, List.getElem?_eq_getElem (by omega), hx1, List.getElem?_eq_getElem (by omega)]; rfl
            have c0 : wp.cell? ⟨g, j, none⟩ = some (.int .u64 (x0 : Int)) := by
              rw [hcell _ (by omega), List.getElem?_map, List.getElem?_eq_getElem (by omega), hx0, List.getElem?_eq_getElem (by omega)]; rfl
            clear hcell
            have w2 : IntKind.i64.wrap (j : Int) = (j : Int) := by rw [IntKind.wrap_i64]; omega
            have l1 : (j : Int) + 1 < (n : Int) := by omega
            have l0 : (j : Int) < (n : Int) := by omega
            have p1 : (0 : Int) < (j : Int) + 1 := by omega
            have f1 := hfz (j + 1)
            have f0 := hfz j
            clear hfz
            have Hx1 := Lib.hid hx1; clear hx1
            have Hx0 := Lib.hid hx0; clear hx0
            go_upto_region 4 with fail
            have hS0 : Below wp.heap.size wp wp.drew := (Below.refl _ _).drew
            have y1 : ∀ w', Below wp.heap.size wp w' → w'.cell? ⟨g, j + 1, none⟩ = some (.int .u64 (x1 : Int)) := fun w' h => (h.cell (p := ⟨g, j + 1, none⟩) hg2').trans c1
            have y0 : ∀ w', Below wp.heap.size wp w' → w'.cell? ⟨g, j, none⟩ = some (.int .u64 (x0 : Int)) := fun w' h => (h.cell (p := ⟨g, j, none⟩) hg2').trans c0
            refine wp_region_N (fun w' => Below wp.heap.size wp w') 100 (by kernel_rfl) ?_
            apply wpAnyN_takeL 0 (by kernel_rfl) rfl (fun _ _ _ h => h) (by kernel_rfl) hS0
            · intro w' hS'
              go_simp; exact ⟨rfl, rfl⟩
            (try simp only [Act.put]); (try simp only [List.setIfInBounds_toArray]); (try simp only [List.set])
            apply wpAnyN_takeL 1 (by kernel_rfl) rfl (fun _ _ _ h => h) (by kernel_rfl) hS0
            · intro w' hS'
              go_simp; exact ⟨rfl, rfl⟩
            (try simp only [Act.put]); (try simp only [List.setIfInBounds_toArray]); (try simp only [List.set])
            apply wpAnyN_takeL 2 (by kernel_rfl) rfl (fun _ _ _ h => h) (by kernel_rfl) hS0
            · intro w' hS'
              go_simp; exact ⟨rfl, rfl⟩
            (try simp only [Act.put]); (try simp only [List.setIfInBounds_toArray]); (try simp only [List.set])
            apply wpAnyN_takeL 3 (by kernel_rfl) rfl (fun _ _ _ h => h) (by kernel_rfl) hS0
            · intro w' hS'
              go_simp; exact ⟨rfl, rfl⟩
            (try simp only [Act.put]); (try simp only [List.setIfInBounds_toArray]); (try simp only [List.set])
            apply wpAnyN_takeL 4 (by kernel_rfl) rfl (fun _ _ _ h => h) (by kernel_rfl) hS0
            · intro w' hS'
              go_simp; exact ⟨rfl, rfl⟩
            (try simp only [Act.put]); (try simp only [List.setIfInBounds_toArray]); (try simp only [List.set])
            apply wpAnyN_takeL 5 (by kernel_rfl) rfl (fun _ _ _ h => h) (by kernel_rfl) hS0
            · intro w' hS'
              go_simp; exact ⟨rfl, rfl⟩
            (try simp only [Act.put]); (try simp only [List.setIfInBounds_toArray]); (try simp only [List.set])
            apply wpAnyN_takeL 6 (by kernel_rfl) rfl (fun _ _ _ h => h) (by kernel_rfl) hS0
            · intro w' hS'
              go_simp; exact ⟨rfl, rfl⟩
            (try simp only [Act.put]); (try simp only [List.setIfInBounds_toArray]); (try simp only [List.set])
            apply wpAnyN_takeL 7 (by kernel_rfl) rfl (fun _ _ _ h => h) (by kernel_rfl) hS0
            · intro w' hS'
              go_simp; exact ⟨rfl, rfl⟩
            (try simp only [Act.put]); (try simp only [List.setIfInBounds_toArray]); (try simp only [List.set])
            apply wpAnyN_takeL 8 (by kernel_rfl) rfl (fun _ _ _ h => h) (by kernel_rfl) hS0
            · intro w' hS'
              go_simp; exact ⟨rfl, rfl⟩
            (try simp only [Act.put]); (try simp only [List.setIfInBounds_toArray]); (try simp only [List.set])
            apply wpAnyN_takeL 9 (by kernel_rfl) rfl (fun _ _ _ h => h) (by kernel_rfl) hS0
            · intro w' hS'
              go_simp; exact ⟨rfl, rfl⟩
            (try simp only [Act.put]); (try simp only [List.setIfInBounds_toArray]); (try simp only [List.set])
            apply wpAnyN_takeL 10 (by kernel_rfl) rfl (fun _ _ _ h => h) (by kernel_rfl) hS0
            · intro w' hS'
              go_simp; exact ⟨rfl, rfl⟩
            (try simp only [Act.put]); (try simp only [List.setIfInBounds_toArray]); (try simp only [List.set])
            apply wpAnyN_takeL 11 (by kernel_rfl) rfl (fun _ _ _ h => h) (by kernel_rfl) hS0
            · intro w' hS'
              go_simp; exact ⟨rfl, rfl⟩
            (try simp only [Act.put]); (try simp only [List.setIfInBounds_toArray]); (try simp only [List.set])
            apply wpAnyN_takeL 12 (by kernel_rfl) rfl (fun _ _ _ h => h) (by kernel_rfl) hS0
            · intro w' hS'
              go_simp; exact ⟨rfl, rfl⟩
            (try simp only [Act.put]); (try simp only [List.setIfInBounds_toArray]); (try simp only [List.set])
            apply wpAnyN_takeL 13 (v := (.bool (decide (x1 < x0)))) (by kernel_rfl) rfl (fun _ _ _ h => h) (by kernel_rfl) hS0
            · intro w' hS'
              (go_simp; exact ⟨rfl, vLessN _ _ _⟩)
            (try simp only [Act.put]); (try simp only [List.setIfInBounds_toArray]); (try simp only [List.set])
            apply wpAnyN_takeL 14 (by kernel_rfl) rfl (fun _ _ _ h => h) (by kernel_rfl) hS0
            · intro w' hS'
              go_simp; exact ⟨rfl, rfl⟩
            (try simp only [Act.put]); (try simp only [List.setIfInBounds_toArray]); (try simp only [List.set])
            refine wpAnyN_done (by kernel_rfl) ?_ _
            by_cases hlt2 : x1 < x0
            · have hlt2' : (x1 : Int) < (x0 : Int) := by omega
              go_upto_region 6 with fail
              go_region
              all_goals go_wp2
              refine ⟨⟨j, swapAt ys j, by omega, rfl, by rw [swapAt_len, hyl], Lib.hid ?_, ?_, ?_⟩, by simp [intOf]⟩
              · rw [← hid.out, insDown, if_pos (by rw [← Hx1.out, ← Hx0.out]; exact hlt2)]
              · have e1 : (swapAt ys j).map u64v = ((ys.map u64v).set (j + 1) (.int .u64 (x0 : Int))).set j (.int .u64 (x1 : Int)) := by
                  unfold swapAt; rw [List.map_set, List.map_set, ← Hx1.out, ← Hx0.out]; rfl
                rw [e1]
                exact own_setC (own_setC hown2)
              · exact ((hbut2.setCell (p := ⟨g, j + 1, none⟩) (by simp) _).setCell (p := ⟨g, j, none⟩) (by simp) _).drew.drew
            · have hlt2' : ¬ (x1 : Int) < (x0 : Int) := by omega
              go_wp2
              refine ⟨⟨k + 1, .inl ⟨by omega, by simp, ?_, hbut2.drew⟩⟩, by simp [intOf]; omega⟩
              rw [← hid.out, insDown, if_neg (by rw [← Hx1.out, ← Hx0.out]; exact hlt2)]; exact hown2
      · obtain rfl : n = k + 1 := by omega
        go_wp2
        go_end0
        exact ⟨rfl, by unfold OwnU; rw [insAll_len, ← Hn.out]; exact hown, hbut⟩
    · go_wp2
      go_end0
      have e0 : xs = [] := List.eq_nil_of_length_eq_zero (by rw [← Hn.out]; exact h0)
      subst h0; subst e0
      exact ⟨rfl, ho, But.refl _ _⟩
end Go.Proofs.Ytmalkgakdmghiaa
