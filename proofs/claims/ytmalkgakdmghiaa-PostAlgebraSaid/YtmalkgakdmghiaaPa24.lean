import Derived.Test.YtmalkgakdmghiaaPa23
/-! slices.Sort at []uint64, 3: heapSort (printed by gen_sd3.py) -/
namespace Go.Proofs.Ytmalkgakdmghiaa
open Go.RowKit Go.Sort Garner

set_option maxRecDepth 100000 in
set_option maxHeartbeats 16000000 in
theorem vHeap (d0 : Array Nat) (B g n c a b : Nat) (w : World) (h0 : Srt w B g n c d0) (hab : a ≤ b) (hb : b ≤ n) (hn : n ≤ 140737488355328) :
    Calls Try.prog 44 #[.slice (some ⟨g, 0, none⟩) n c, .int .i64 a, .int .i64 b] w fun e w' => e = .returned (.tuple #[]) ∧ Srt w' B g n c (heapSort ltN d0 a b) ∧ But [g] w w' := by
  obtain ⟨hi, hhi⟩ : ∃ hi, hi = b - a := ⟨_, rfl⟩
  have w1 : IntKind.i64.wrap ((b : Int) - (a : Int)) = (hi : Int) := by rw [IntKind.wrap_i64]; omega
  have w2 : IntKind.i64.wrap ((hi : Int) - 1) = (hi : Int) - 1 := by rw [IntKind.wrap_i64]; omega
  obtain ⟨m, hm⟩ : ∃ m, m = (b - a - 1) / 2 := ⟨_, rfl⟩
  have w3 : IntKind.i64.wrap (((hi : Int) - 1).tdiv 2) = (m : Int) := by
    have e : ((hi : Int) - 1).tdiv 2 = (m : Int) := by
      by_cases h : hi = 0
      · subst h
        have : m = 0 := by omega
        subst this; rfl
      · rw [Int.tdiv_eq_ediv_of_nonneg (by omega)]; omega
    rw [e, IntKind.wrap_i64]; omega
  have hhn : a + hi ≤ n := by omega
  have hmh : m ≤ hi := by omega
  have hheap : heapPop ltN a hi (heapBuild ltN hi a (m + 1) d0) = heapSort ltN d0 a b := by unfold heapSort; rw [hhi, hm]
  have Hheap := Lib.hid hheap; clear hheap
  have Hhi := Lib.hid hhi; clear hhi
  have Hm := Lib.hid hm; clear hm
  go_enter Try.func44, Try.ntmps44
  go_wp2
  go_loopw [9] (fun vi wr => ∃ (k : Nat) (d : Array Nat), vi = .int .i64 ((k : Int) - 1) ∧ k ≤ m + 1 ∧ Srt wr B g n c d ∧ Hid (heapBuild ltN hi a k d = heapBuild ltN hi a (m + 1) d0) ∧ But [g] w wr) (fun vi _ => (intOf vi + 1).toNat)
  case atStart => exact ⟨m + 1, d0, by simp, by omega, h0, Lib.hid rfl, But.refl _ _⟩
  case round =>
    obtain ⟨k, d, rfl, hk, hd, hrel, hbut⟩ := hrel
    obtain ⟨wo, rfl⟩ : ∃ wo : World, wo = wr := ⟨_, rfl⟩
    cases k with
    | succ k =>
      have e1 : ((k + 1 : Nat) : Int) - 1 = (k : Int) := by omega
      rw [e1]
      have l1 : (0 : Int) ≤ (k : Int) := by omega
      have w4 : IntKind.i64.wrap ((k : Int) - 1) = (k : Int) - 1 := by rw [IntKind.wrap_i64]; omega
      go_wp2_with fail
      refine (vSift d B g n c k hi a wo hd (by omega) hhn hn).mono ?_
      rintro e w6 ⟨rfl, hd6, hbut6⟩
      go_wp2
      refine ⟨⟨k, _, rfl, by omega, hd6, Lib.hid (by rw [← hrel.out, heapBuild]), hbut.trans hbut6⟩, by simp [intOf]⟩
    | zero =>
      have hrel2 : heapPop ltN a hi d = heapSort ltN d0 a b := by rw [← Hheap.out, ← hrel.out, heapBuild]
      have Hrel2 := Lib.hid hrel2; clear hrel2
      clear hrel
      have l1 : ¬ (0 : Int) ≤ ((0 : Nat) : Int) - 1 := by omega
      go_wp2
      go_loopw [10] (fun vi wr => ∃ (k : Nat) (d : Array Nat), vi = .int .i64 ((k : Int) - 1) ∧ k ≤ hi ∧ Srt wr B g n c d ∧ Hid (heapPop ltN a k d = heapSort ltN d0 a b) ∧ But [g] w wr) (fun vi _ => (intOf vi + 1).toNat)
      case atStart => exact ⟨hi, d, rfl, by omega, hd, Lib.hid Hrel2.out, hbut⟩
      case round =>
        clear hbut hd Hrel2
        obtain ⟨k, d, rfl, hk, hd, hrel, hbut⟩ := hrel
        obtain ⟨wo, rfl⟩ : ∃ wo : World, wo = wr := ⟨_, rfl⟩
        cases k with
        | zero =>
          have l1 : ¬ (0 : Int) ≤ ((0 : Nat) : Int) - 1 := by omega
          go_wp2
          go_end0
          refine ⟨rfl, ?_, hbut⟩
          rw [← hrel.out, heapPop]; exact hd
        | succ k =>
          have e1 : ((k + 1 : Nat) : Int) - 1 = (k : Int) := by omega
          rw [e1]
          have l1 : (0 : Int) ≤ (k : Int) := by omega
          have w4 : IntKind.i64.wrap ((k : Int) - 1) = (k : Int) - 1 := by rw [IntKind.wrap_i64]; omega
          by_cases hk0 : k = 0
          · subst hk0
            have wa : IntKind.i64.wrap (a : Int) = (a : Int) := by rw [IntKind.wrap_i64]; omega
            have la : (a : Int) < (n : Int) := by omega
            obtain ⟨x, hx⟩ : ∃ x, x = d[a]! := ⟨_, rfl⟩
            have ca : wo.cell? ⟨g, a, none⟩ = some (.int .u64 (x : Int)) := by rw [hx]; exact hd.cell (by omega)
            have fa := hd.frozen a
            have Hx := Lib.hid hx; clear hx
            go_upto_region 10 with fail
            refine wp_region_N (fun _ => True) 100 (by kernel_rfl) ?_
            apply wpAnyN_takeL 0 (by kernel_rfl) rfl (fun _ _ _ h => h) (by kernel_rfl) trivial
            · intro w' hS'
              go_simp; exact ⟨rfl, rfl⟩
            (try simp only [Act.put]); (try simp only [List.setIfInBounds_toArray]); (try simp only [List.set])
            apply wpAnyN_takeL 1 (by kernel_rfl) rfl (fun _ _ _ h => h) (by kernel_rfl) trivial
            · intro w' hS'
              go_simp; exact ⟨rfl, rfl⟩
            (try simp only [Act.put]); (try simp only [List.setIfInBounds_toArray]); (try simp only [List.set])
            apply wpAnyN_takeL 2 (by kernel_rfl) rfl (fun _ _ _ h => h) (by kernel_rfl) trivial
            · intro w' hS'
              go_simp; exact ⟨rfl, rfl⟩
            (try simp only [Act.put]); (try simp only [List.setIfInBounds_toArray]); (try simp only [List.set])
            apply wpAnyN_takeL 3 (by kernel_rfl) rfl (fun _ _ _ h => h) (by kernel_rfl) trivial
            · intro w' hS'
              go_simp; exact ⟨rfl, rfl⟩
            (try simp only [Act.put]); (try simp only [List.setIfInBounds_toArray]); (try simp only [List.set])
            apply wpAnyN_takeL 4 (by kernel_rfl) rfl (fun _ _ _ h => h) (by kernel_rfl) trivial
            · intro w' hS'
              go_simp; exact ⟨rfl, rfl⟩
            (try simp only [Act.put]); (try simp only [List.setIfInBounds_toArray]); (try simp only [List.set])
            apply wpAnyN_takeL 5 (by kernel_rfl) rfl (fun _ _ _ h => h) (by kernel_rfl) trivial
            · intro w' hS'
              go_simp; exact ⟨rfl, rfl⟩
            (try simp only [Act.put]); (try simp only [List.setIfInBounds_toArray]); (try simp only [List.set])
            apply wpAnyN_takeL 6 (by kernel_rfl) rfl (fun _ _ _ h => h) (by kernel_rfl) trivial
            · intro w' hS'
              go_simp; exact ⟨rfl, rfl⟩
            (try simp only [Act.put]); (try simp only [List.setIfInBounds_toArray]); (try simp only [List.set])
            apply wpAnyN_takeL 7 (by kernel_rfl) rfl (fun _ _ _ h => h) (by kernel_rfl) trivial
            · intro w' hS'
              go_simp; exact ⟨rfl, rfl⟩
            (try simp only [Act.put]); (try simp only [List.setIfInBounds_toArray]); (try simp only [List.set])
            apply wpAnyN_takeL 8 (by kernel_rfl) rfl (fun _ _ _ h => h) (by kernel_rfl) trivial
            · intro w' hS'
              go_simp; exact ⟨rfl, rfl⟩
            (try simp only [Act.put]); (try simp only [List.setIfInBounds_toArray]); (try simp only [List.set])
            apply wpAnyN_takeL 9 (by kernel_rfl) rfl (fun _ _ _ h => h) (by kernel_rfl) trivial
            · intro w' hS'
              go_simp; exact ⟨rfl, rfl⟩
            (try simp only [Act.put]); (try simp only [List.setIfInBounds_toArray]); (try simp only [List.set])
            apply wpAnyN_takeL 10 (by kernel_rfl) rfl (fun _ _ _ h => h) (by kernel_rfl) trivial
            · intro w' hS'
              go_simp; exact ⟨rfl, rfl⟩
            (try simp only [Act.put]); (try simp only [List.setIfInBounds_toArray]); (try simp only [List.set])
            apply wpAnyN_takeL 12 (by kernel_rfl) rfl (fun _ _ _ h => h) (by kernel_rfl) trivial
            · intro w' hS'
              go_simp; exact ⟨rfl, rfl⟩
            (try simp only [Act.put]); (try simp only [List.setIfInBounds_toArray]); (try simp only [List.set])
            apply wpAnyN_takeL 13 (by kernel_rfl) rfl (fun _ _ _ h => h) (by kernel_rfl) trivial
            · intro w' hS'
              go_simp; exact ⟨rfl, rfl⟩
            (try simp only [Act.put]); (try simp only [List.setIfInBounds_toArray]); (try simp only [List.set])
            apply wpAnyN_takeL 14 (by kernel_rfl) rfl (fun _ _ _ h => h) (by kernel_rfl) trivial
            · intro w' hS'
              go_simp; exact ⟨rfl, rfl⟩
            (try simp only [Act.put]); (try simp only [List.setIfInBounds_toArray]); (try simp only [List.set])
            refine wpAnyN_two 11 15 (by kernel_rfl) rfl (by kernel_rfl) rfl (by kernel_rfl) (fun K hK => ?_) (fun K hK => ?_)
            · go_simp
              refine hK _ _ (fun _ => trivial) ?_
              clear hK K
              (try simp only [Act.put]); (try simp only [List.setIfInBounds_toArray]); (try simp only [List.set])
              refine wpAnyN_runL 15 (by kernel_rfl) rfl (by kernel_rfl) (fun K hK => ?_)
              go_simp
              refine hK _ _ (fun _ => trivial) ?_
              clear hK K
              (try simp only [Act.put]); (try simp only [List.setIfInBounds_toArray]); (try simp only [List.set])
              refine wpAnyN_runL 16 (by kernel_rfl) rfl (by kernel_rfl) (fun K hK => ?_)
              go_simp
              refine hK _ _ (fun _ => trivial) ?_
              clear hK K
              (try simp only [Act.put]); (try simp only [List.setIfInBounds_toArray]); (try simp only [List.set])
              refine wpAnyN_runL 17 (by kernel_rfl) rfl (by kernel_rfl) (fun K hK => ?_)
              go_simp
              refine hK _ _ (fun _ => trivial) ?_
              clear hK K
              (try simp only [Act.put]); (try simp only [List.setIfInBounds_toArray]); (try simp only [List.set])
              refine wpAnyN_runL 18 (by kernel_rfl) rfl (by kernel_rfl) (fun K hK => ?_)
              go_simp
              refine hK _ _ (fun _ => trivial) ?_
              clear hK K
              (try simp only [Act.put]); (try simp only [List.setIfInBounds_toArray]); (try simp only [List.set])
              refine wpAnyN_runL 19 (by kernel_rfl) rfl (by kernel_rfl) (fun K hK => ?_)
              go_simp
              refine hK _ _ (fun _ => trivial) ?_
              clear hK K
              (try simp only [Act.put]); (try simp only [List.setIfInBounds_toArray]); (try simp only [List.set])
              refine wpAnyN_done (by kernel_rfl) ?_ _
              obtain ⟨w5, hw5⟩ : ∃ w5, w5 = (wo.setCell ⟨g, a, none⟩ (.int .u64 (x : Int))).setCell ⟨g, a, none⟩ (.int .u64 (x : Int)) := ⟨_, rfl⟩
              have hd5 : Srt w5.drew B g n c (Sort.swp d a a) := by rw [hw5, Hx.out]; exact hd.swp.drew
              have hbut5 : But [g] w w5.drew := by rw [hw5]; exact ((hbut.setCell (p := ⟨g, a, none⟩) (by simp) _).setCell (p := ⟨g, a, none⟩) (by simp) _).drew
              have Hw5 := Lib.hid hw5; clear hw5
              go_wp2_with fail
              rw [← Hw5.out]
              refine (vSift (Sort.swp d a a) B g n c 0 0 a w5.drew hd5 (by omega) (by omega) hn).mono ?_
              rintro e w6 ⟨rfl, hd6, hbut6⟩
              go_wp2
              refine ⟨⟨0, _, by simp, by omega, hd6, Lib.hid ?_, hbut5.trans hbut6⟩, by simp [intOf]⟩
              rw [← hrel.out]; simp only [heapPop, Nat.add_zero]
            · go_simp
              refine hK _ _ (fun _ => trivial) ?_
              clear hK K
              (try simp only [Act.put]); (try simp only [List.setIfInBounds_toArray]); (try simp only [List.set])
              refine wpAnyN_runL 11 (by kernel_rfl) rfl (by kernel_rfl) (fun K hK => ?_)
              go_simp
              refine hK _ _ (fun _ => trivial) ?_
              clear hK K
              (try simp only [Act.put]); (try simp only [List.setIfInBounds_toArray]); (try simp only [List.set])
              refine wpAnyN_runL 16 (by kernel_rfl) rfl (by kernel_rfl) (fun K hK => ?_)
              go_simp
              refine hK _ _ (fun _ => trivial) ?_
              clear hK K
              (try simp only [Act.put]); (try simp only [List.setIfInBounds_toArray]); (try simp only [List.set])
              refine wpAnyN_runL 17 (by kernel_rfl) rfl (by kernel_rfl) (fun K hK => ?_)
              go_simp
              refine hK _ _ (fun _ => trivial) ?_
              clear hK K
              (try simp only [Act.put]); (try simp only [List.setIfInBounds_toArray]); (try simp only [List.set])
              refine wpAnyN_runL 18 (by kernel_rfl) rfl (by kernel_rfl) (fun K hK => ?_)
              go_simp
              refine hK _ _ (fun _ => trivial) ?_
              clear hK K
              (try simp only [Act.put]); (try simp only [List.setIfInBounds_toArray]); (try simp only [List.set])
              refine wpAnyN_runL 19 (by kernel_rfl) rfl (by kernel_rfl) (fun K hK => ?_)
              go_simp
              refine hK _ _ (fun _ => trivial) ?_
              clear hK K
              (try simp only [Act.put]); (try simp only [List.setIfInBounds_toArray]); (try simp only [List.set])
              refine wpAnyN_done (by kernel_rfl) ?_ _
              obtain ⟨w5, hw5⟩ : ∃ w5, w5 = (wo.setCell ⟨g, a, none⟩ (.int .u64 (x : Int))).setCell ⟨g, a, none⟩ (.int .u64 (x : Int)) := ⟨_, rfl⟩
              have hd5 : Srt w5.drew B g n c (Sort.swp d a a) := by rw [hw5, Hx.out]; exact hd.swp.drew
              have hbut5 : But [g] w w5.drew := by rw [hw5]; exact ((hbut.setCell (p := ⟨g, a, none⟩) (by simp) _).setCell (p := ⟨g, a, none⟩) (by simp) _).drew
              have Hw5 := Lib.hid hw5; clear hw5
              go_wp2_with fail
              rw [← Hw5.out]
              refine (vSift (Sort.swp d a a) B g n c 0 0 a w5.drew hd5 (by omega) (by omega) hn).mono ?_
              rintro e w6 ⟨rfl, hd6, hbut6⟩
              go_wp2
              refine ⟨⟨0, _, by simp, by omega, hd6, Lib.hid ?_, hbut5.trans hbut6⟩, by simp [intOf]⟩
              rw [← hrel.out]; simp only [heapPop, Nat.add_zero]
          · obtain ⟨i3, hi3⟩ : ∃ i3, i3 = a + k := ⟨_, rfl⟩
            have w5 : IntKind.i64.wrap ((a : Int) + (k : Int)) = (i3 : Int) := by rw [IntKind.wrap_i64]; omega
            have la : (a : Int) < (n : Int) := by omega
            have l3 : (i3 : Int) < (n : Int) := by omega
            have hne : a ≠ i3 := by omega
            obtain ⟨x, hx⟩ : ∃ x, x = d[a]! := ⟨_, rfl⟩
            obtain ⟨y, hy⟩ : ∃ y, y = d[i3]! := ⟨_, rfl⟩
            have ca : wo.cell? ⟨g, a, none⟩ = some (.int .u64 (x : Int)) := by rw [hx]; exact hd.cell (by omega)
            have cb : wo.cell? ⟨g, i3, none⟩ = some (.int .u64 (y : Int)) := by rw [hy]; exact hd.cell (by omega)
            have fa := hd.frozen a
            have fb := hd.frozen i3
            have Hx := Lib.hid hx; clear hx
            have Hy := Lib.hid hy; clear hy
            have Hi3 := Lib.hid hi3; clear hi3
            go_upto_region 10 with fail
            refine wp_region_N (fun _ => True) 100 (by kernel_rfl) ?_
            apply wpAnyN_takeL 0 (by kernel_rfl) rfl (fun _ _ _ h => h) (by kernel_rfl) trivial
            · intro w' hS'
              go_simp; exact ⟨rfl, rfl⟩
            (try simp only [Act.put]); (try simp only [List.setIfInBounds_toArray]); (try simp only [List.set])
            apply wpAnyN_takeL 1 (by kernel_rfl) rfl (fun _ _ _ h => h) (by kernel_rfl) trivial
            · intro w' hS'
              go_simp; exact ⟨rfl, rfl⟩
            (try simp only [Act.put]); (try simp only [List.setIfInBounds_toArray]); (try simp only [List.set])
            apply wpAnyN_takeL 2 (by kernel_rfl) rfl (fun _ _ _ h => h) (by kernel_rfl) trivial
            · intro w' hS'
              go_simp; exact ⟨rfl, rfl⟩
            (try simp only [Act.put]); (try simp only [List.setIfInBounds_toArray]); (try simp only [List.set])
            apply wpAnyN_takeL 3 (by kernel_rfl) rfl (fun _ _ _ h => h) (by kernel_rfl) trivial
            · intro w' hS'
              go_simp; exact ⟨rfl, rfl⟩
            (try simp only [Act.put]); (try simp only [List.setIfInBounds_toArray]); (try simp only [List.set])
            apply wpAnyN_takeL 4 (by kernel_rfl) rfl (fun _ _ _ h => h) (by kernel_rfl) trivial
            · intro w' hS'
              go_simp; exact ⟨rfl, rfl⟩
            (try simp only [Act.put]); (try simp only [List.setIfInBounds_toArray]); (try simp only [List.set])
            apply wpAnyN_takeL 5 (by kernel_rfl) rfl (fun _ _ _ h => h) (by kernel_rfl) trivial
            · intro w' hS'
              go_simp; exact ⟨rfl, rfl⟩
            (try simp only [Act.put]); (try simp only [List.setIfInBounds_toArray]); (try simp only [List.set])
            apply wpAnyN_takeL 6 (by kernel_rfl) rfl (fun _ _ _ h => h) (by kernel_rfl) trivial
            · intro w' hS'
              go_simp; exact ⟨rfl, rfl⟩
            (try simp only [Act.put]); (try simp only [List.setIfInBounds_toArray]); (try simp only [List.set])
            apply wpAnyN_takeL 7 (by kernel_rfl) rfl (fun _ _ _ h => h) (by kernel_rfl) trivial
            · intro w' hS'
              go_simp; exact ⟨rfl, rfl⟩
            (try simp only [Act.put]); (try simp only [List.setIfInBounds_toArray]); (try simp only [List.set])
            apply wpAnyN_takeL 8 (by kernel_rfl) rfl (fun _ _ _ h => h) (by kernel_rfl) trivial
            · intro w' hS'
              go_simp; exact ⟨rfl, rfl⟩
            (try simp only [Act.put]); (try simp only [List.setIfInBounds_toArray]); (try simp only [List.set])
            apply wpAnyN_takeL 9 (by kernel_rfl) rfl (fun _ _ _ h => h) (by kernel_rfl) trivial
            · intro w' hS'
              go_simp; exact ⟨rfl, rfl⟩
            (try simp only [Act.put]); (try simp only [List.setIfInBounds_toArray]); (try simp only [List.set])
            apply wpAnyN_takeL 10 (by kernel_rfl) rfl (fun _ _ _ h => h) (by kernel_rfl) trivial
            · intro w' hS'
              go_simp; exact ⟨rfl, rfl⟩
            (try simp only [Act.put]); (try simp only [List.setIfInBounds_toArray]); (try simp only [List.set])
            apply wpAnyN_takeL 12 (by kernel_rfl) rfl (fun _ _ _ h => h) (by kernel_rfl) trivial
            · intro w' hS'
              go_simp; exact ⟨rfl, rfl⟩
            (try simp only [Act.put]); (try simp only [List.setIfInBounds_toArray]); (try simp only [List.set])
            apply wpAnyN_takeL 13 (by kernel_rfl) rfl (fun _ _ _ h => h) (by kernel_rfl) trivial
            · intro w' hS'
              go_simp; exact ⟨rfl, rfl⟩
            (try simp only [Act.put]); (try simp only [List.setIfInBounds_toArray]); (try simp only [List.set])
            apply wpAnyN_takeL 14 (by kernel_rfl) rfl (fun _ _ _ h => h) (by kernel_rfl) trivial
            · intro w' hS'
              go_simp; exact ⟨rfl, rfl⟩
            (try simp only [Act.put]); (try simp only [List.setIfInBounds_toArray]); (try simp only [List.set])
            refine wpAnyN_two 11 15 (by kernel_rfl) rfl (by kernel_rfl) rfl (by kernel_rfl) (fun K hK => ?_) (fun K hK => ?_)
            · go_simp
              refine hK _ _ (fun _ => trivial) ?_
              clear hK K
              (try simp only [Act.put]); (try simp only [List.setIfInBounds_toArray]); (try simp only [List.set])
              refine wpAnyN_runL 15 (by kernel_rfl) rfl (by kernel_rfl) (fun K hK => ?_)
              go_simp
              refine hK _ _ (fun _ => trivial) ?_
              clear hK K
              (try simp only [Act.put]); (try simp only [List.setIfInBounds_toArray]); (try simp only [List.set])
              refine wpAnyN_runL 16 (by kernel_rfl) rfl (by kernel_rfl) (fun K hK => ?_)
              go_simp
              refine hK _ _ (fun _ => trivial) ?_
              clear hK K
              (try simp only [Act.put]); (try simp only [List.setIfInBounds_toArray]); (try simp only [List.set])
              refine wpAnyN_runL 17 (by kernel_rfl) rfl (by kernel_rfl) (fun K hK => ?_)
              go_simp
              refine hK _ _ (fun _ => trivial) ?_
              clear hK K
              (try simp only [Act.put]); (try simp only [List.setIfInBounds_toArray]); (try simp only [List.set])
              refine wpAnyN_runL 18 (by kernel_rfl) rfl (by kernel_rfl) (fun K hK => ?_)
              go_simp
              refine hK _ _ (fun _ => trivial) ?_
              clear hK K
              (try simp only [Act.put]); (try simp only [List.setIfInBounds_toArray]); (try simp only [List.set])
              refine wpAnyN_runL 19 (by kernel_rfl) rfl (by kernel_rfl) (fun K hK => ?_)
              go_simp
              refine hK _ _ (fun _ => trivial) ?_
              clear hK K
              (try simp only [Act.put]); (try simp only [List.setIfInBounds_toArray]); (try simp only [List.set])
              refine wpAnyN_done (by kernel_rfl) ?_ _
              obtain ⟨w5, hw5⟩ : ∃ w5, w5 = (wo.setCell ⟨g, a, none⟩ (.int .u64 (y : Int))).setCell ⟨g, i3, none⟩ (.int .u64 (x : Int)) := ⟨_, rfl⟩
              have hd5 : Srt w5.drew B g n c (Sort.swp d a i3) := by rw [hw5, Hx.out, Hy.out]; exact hd.swp.drew
              have hbut5 : But [g] w w5.drew := by rw [hw5]; exact ((hbut.setCell (p := ⟨g, a, none⟩) (by simp) _).setCell (p := ⟨g, i3, none⟩) (by simp) _).drew
              have Hw5 := Lib.hid hw5; clear hw5
              go_wp2_with fail
              rw [← Hw5.out]
              refine (vSift (Sort.swp d a i3) B g n c 0 k a w5.drew hd5 (by omega) (by omega) hn).mono ?_
              rintro e w6 ⟨rfl, hd6, hbut6⟩
              go_wp2
              refine ⟨⟨k, _, by simp, by omega, hd6, Lib.hid ?_, hbut5.trans hbut6⟩, by simp [intOf]⟩
              rw [← hrel.out, heapPop, Hi3.out]
            · go_simp
              refine hK _ _ (fun _ => trivial) ?_
              clear hK K
              (try simp only [Act.put]); (try simp only [List.setIfInBounds_toArray]); (try simp only [List.set])
              refine wpAnyN_runL 11 (by kernel_rfl) rfl (by kernel_rfl) (fun K hK => ?_)
              go_simp
              refine hK _ _ (fun _ => trivial) ?_
              clear hK K
              (try simp only [Act.put]); (try simp only [List.setIfInBounds_toArray]); (try simp only [List.set])
              refine wpAnyN_runL 16 (by kernel_rfl) rfl (by kernel_rfl) (fun K hK => ?_)
              go_simp
              refine hK _ _ (fun _ => trivial) ?_
              clear hK K
              (try simp only [Act.put]); (try simp only [List.setIfInBounds_toArray]); (try simp only [List.set])
              refine wpAnyN_runL 17 (by kernel_rfl) rfl (by kernel_rfl) (fun K hK => ?_)
              go_simp
              refine hK _ _ (fun _ => trivial) ?_
              clear hK K
              (try simp only [Act.put]); (try simp only [List.setIfInBounds_toArray]); (try simp only [List.set])
              refine wpAnyN_runL 18 (by kernel_rfl) rfl (by kernel_rfl) (fun K hK => ?_)
              go_simp
              refine hK _ _ (fun _ => trivial) ?_
              clear hK K
              (try simp only [Act.put]); (try simp only [List.setIfInBounds_toArray]); (try simp only [List.set])
              refine wpAnyN_runL 19 (by kernel_rfl) rfl (by kernel_rfl) (fun K hK => ?_)
              go_simp
              refine hK _ _ (fun _ => trivial) ?_
              clear hK K
              (try simp only [Act.put]); (try simp only [List.setIfInBounds_toArray]); (try simp only [List.set])
              refine wpAnyN_done (by kernel_rfl) ?_ _
              obtain ⟨w5, hw5⟩ : ∃ w5, w5 = (wo.setCell ⟨g, a, none⟩ (.int .u64 (y : Int))).setCell ⟨g, i3, none⟩ (.int .u64 (x : Int)) := ⟨_, rfl⟩
              have hd5 : Srt w5.drew B g n c (Sort.swp d a i3) := by rw [hw5, Hx.out, Hy.out]; exact hd.swp.drew
              have hbut5 : But [g] w w5.drew := by rw [hw5]; exact ((hbut.setCell (p := ⟨g, a, none⟩) (by simp) _).setCell (p := ⟨g, i3, none⟩) (by simp) _).drew
              have Hw5 := Lib.hid hw5; clear hw5
              go_wp2_with fail
              rw [← Hw5.out]
              refine (vSift (Sort.swp d a i3) B g n c 0 k a w5.drew hd5 (by omega) (by omega) hn).mono ?_
              rintro e w6 ⟨rfl, hd6, hbut6⟩
              go_wp2
              refine ⟨⟨k, _, by simp, by omega, hd6, Lib.hid ?_, hbut5.trans hbut6⟩, by simp [intOf]⟩
              rw [← hrel.out, heapPop, Hi3.out]
end Go.Proofs.Ytmalkgakdmghiaa
