import Derived.Test.YtmddgimadlmacaaDoorWs43
import Derived.Test.YtmddgimadlmacaaDoorWs11
/-! the document's log: Rotate, Drop -/
namespace Go.Proofs.YtmddgimadlmacaaDoor
open Go.RowKit Garner

section
variable (g fb rl : Nat) (d : AD) (L : WL) (w : World)
set_option maxRecDepth 100000 in
set_option maxHeartbeats 4000000 in
theorem rLogRot (h : RefD w g fb d) (hk : RLog w g rl L) (hn2 : L.n ≤ 1000000000) :
    Calls Tryd.prog 26 #[.pointer (some ⟨rl, 0, none⟩)] w fun e w' => e = .returned (.int .i64 (wRot L).1) ∧ (∃ fb', RefD w' g fb' d ∧ (fb' = fb ∨ fb' = g ∨ w.heap.size ≤ fb')) ∧ RLog w' g rl (wRot L).2 ∧ But [rl] w w' := by
  have c2 : w.cell? ⟨rl, 2, none⟩ = some (.int .i64 L.n) := hk.cell 2
  have c3 : w.cell? ⟨rl, 3, none⟩ = some (.bool L.wr) := hk.cell 3
  have f2 := hk.frozen 2; have f3 := hk.frozen 3
  obtain ⟨fb1, hd0, hfb1, hne, hgne⟩ := h.pick hk (by decide) (by decide)
  by_cases hl : L.n = 1000000000
  · have hz : ((L.n : Int) == 1000000000) = true := by rw [hl]; rfl
    have hres : wRot L = (3, L) := by unfold wRot; rw [if_pos hl]
    have Hres := Lib.hid hres
    clear hres hl
    go_enter Tryd.func26, Tryd.ntmps26
    go_wp2
    go_ret
    rw [Hres.out]
    exact ⟨rfl, ⟨fb, h, Or.inl rfl⟩, hk, But.refl _ _⟩
  · have hz : ((L.n : Int) == 1000000000) = false := by rw [beq_eq_false_iff_ne]; omega
    cases hw : L.wr with
    | false =>
      rw [hw] at c3
      have hres : wRot L = (0, L) := by unfold wRot; rw [if_neg hl, hw]; rfl
      have Hres := Lib.hid hres
      clear hres hl hw
      go_enter Tryd.func26, Tryd.ntmps26
      go_wp2
      go_ret
      rw [Hres.out]
      exact ⟨rfl, ⟨fb, h, Or.inl rfl⟩, hk, But.refl _ _⟩
    | true =>
      rw [hw] at c3
      have hres : wRot L = (0, ⟨L.first, L.n + 1, false⟩) := by unfold wRot; rw [if_neg hl, hw]; rfl
      have Hres := Lib.hid hres
      clear hres hl hw
      go_enter Tryd.func26, Tryd.ntmps26
      go_wp2
      go_ret
      rw [Hres.out]
      have hset : But [rl] w ((w.setCell ⟨rl, 2, none⟩ (.int .i64 (L.n + 1))).setCell ⟨rl, 3, none⟩ (.bool false)) := ((But.refl _ _).setCell (by simp) _).setCell (by simp) _
      have hk2 := (hk.set_ 2 (.int .i64 (L.n + 1))).set_ 3 (.bool false)
      refine ⟨rfl, ⟨fb1, hd0.butT hset (by simp only [List.mem_cons, List.not_mem_nil, or_false]; exact hgne) (by simp only [List.mem_cons, List.not_mem_nil, or_false]; exact hne) (fun k hk' => ?_), by omega⟩, ?_, hset⟩
      · simp only [List.mem_cons, List.not_mem_nil, or_false] at hk'
        subst hk'; exact Or.inl (NB.blk hk (by decide))
      · exact hk2
set_option maxRecDepth 100000 in
set_option maxHeartbeats 4000000 in
theorem rLogDrop (below : Int) (h : RefD w g fb d) (hk : RLog w g rl L) (hf : 1 ≤ L.first) (hn : L.n ≤ 1000000000) (hrl : d.fs.length * 48 ≤ 140737488355328) (r : Nat × WL × AD) (hr : r = wDrop (min below L.n - L.first).toNat L d) :
    Calls Tryd.prog 27 #[.pointer (some ⟨rl, 0, none⟩), .int .i64 below] w fun e w' => e = .returned (.int .i64 r.1) ∧ (∃ fb', RefD w' g fb' r.2.2 ∧ (fb' = fb ∨ fb' = g ∨ w.heap.size ≤ fb')) ∧ RLog w' g rl r.2.1 ∧ But [g, fb, rl] w w' := by
  have Hr := Lib.hid hr
  clear hr
  go_enter Tryd.func27, Tryd.ntmps27
  go_wp2_with fail
  go_loopw [5] (fun _ wr => ∃ (k f : Nat) (d' : AD), 1 ≤ f ∧ Hid (k = (min below L.n - f).toNat) ∧ (∃ fb', RefD wr g fb' d' ∧ (fb' = fb ∨ fb' = g ∨ w.heap.size ≤ fb')) ∧ d'.fs.length ≤ d.fs.length ∧ RLog wr g rl ⟨f, L.n, L.wr⟩ ∧ Hid (r = wDrop k ⟨f, L.n, L.wr⟩ d') ∧ But [g, fb, rl] w wr) (fun _ wr => match wr.cell? ⟨rl, 1, none⟩ with
    | some (.int _ f) => (min below L.n - f).toNat
    | _ => 0)
  case atStart => exact ⟨_, L.first, d, hf, rfl, ⟨fb, h, Or.inl rfl⟩, Nat.le_refl _, hk, Lib.hid Hr.out, But.refl _ _⟩
  case round =>
    clear Hr h hk
    obtain ⟨k, f, d', hf', Hk, ⟨fb0, hd00, hfb0⟩, hdl, hk, H, hb⟩ := hrel
    obtain ⟨wo, rfl⟩ : ∃ wo : World, wo = wr := ⟨_, rfl⟩
    obtain ⟨fb1, hd, hfb1, hne, hgne⟩ := hd00.pick hk (by decide) (by decide)
    clear hd00
    have y1 : ∀ w' : World, RSL g rl ⟨f, L.n, L.wr⟩ w' → w'.cell? ⟨rl, 1, none⟩ = some (.int .i64 f) := fun w' h => h.cell 1
    have y2 : ∀ w' : World, RSL g rl ⟨f, L.n, L.wr⟩ w' → w'.cell? ⟨rl, 2, none⟩ = some (.int .i64 L.n) := fun w' h => h.cell 2
    have y0 : ∀ w' : World, RSL g rl ⟨f, L.n, L.wr⟩ w' → w'.cell? ⟨rl, 0, none⟩ = some (.pointer (some ⟨g, 0, none⟩)) := fun w' h => h.cell 0
    have hS0 : RSL g rl ⟨f, L.n, L.wr⟩ wo.drew := hk
    have hmeas : (match wo.cell? ⟨rl, 1, none⟩ with
      | some (.int _ f) => (min below L.n - f).toNat
      | _ => 0) = (min below L.n - f).toNat := by rw [show wo.cell? ⟨rl, 1, none⟩ = some (.int .i64 f) from hk.cell 1]
    have Hmeas := Lib.hid hmeas
    clear hmeas
    have hstopP : ¬ (f : Int) < min below L.n → Hid (r = (0, ⟨f, L.n, L.wr⟩, d')) := fun hlt => by
      have hk0 : k = 0 := by have := Hk.out; omega
      subst hk0
      exact Lib.hid (by rw [H.out]; rfl)
    have HstopP := Lib.hid hstopP
    clear hstopP
    have hwd : Below wo.heap.size wo wo.drew := (Below.refl _ _).drew
    by_cases h1 : (f : Int) < below
    rotate_left
    · have hs := HstopP.out (by omega)
      have hdD := hd.below hwd
      clear HstopP H Hk
      go_upto_region 3 with fail
      refine wp_region_N (RSL g rl ⟨f, L.n, L.wr⟩) 100 (by kernel_rfl) ?_
      apply wpAnyN_takeL 0 (by kernel_rfl) rfl (fun _ _ _ h => h) (by kernel_rfl) hS0
      · intro w' hS'
        go_simp; exact ⟨rfl, rfl⟩
      (try simp only [Act.put]); (try simp only [List.setIfInBounds_toArray]); (try simp only [List.set])
      apply wpAnyN_takeL 1 (by kernel_rfl) rfl (fun _ _ _ h => h) (by kernel_rfl) hS0
      · intro w' hS'
        go_simp; exact ⟨rfl, rfl⟩
      (try simp only [Act.put]); (try simp only [List.setIfInBounds_toArray]); (try simp only [List.set])
      apply wpAnyN_takeL 2 (by kernel_rfl) rfl (fun _ _ _ h => h) (by kernel_rfl) hS0
      · intro w' hS'
        go_simp; exact ⟨rfl, rfl⟩
      (try simp only [Act.put]); (try simp only [List.setIfInBounds_toArray]); (try simp only [List.set])
      apply wpAnyN_takeL 3 (by kernel_rfl) rfl (fun _ _ _ h => h) (by kernel_rfl) hS0
      · intro w' hS'
        go_simp; exact ⟨rfl, rfl⟩
      (try simp only [Act.put]); (try simp only [List.setIfInBounds_toArray]); (try simp only [List.set])
      apply wpAnyN_takeL 4 (by kernel_rfl) rfl (fun _ _ _ h => h) (by kernel_rfl) hS0
      · intro w' hS'
        go_simp; exact ⟨rfl, rfl⟩
      (try simp only [Act.put]); (try simp only [List.setIfInBounds_toArray]); (try simp only [List.set])
      apply wpAnyN_takeL 5 (by kernel_rfl) rfl (fun _ _ _ h => h) (by kernel_rfl) hS0
      · intro w' hS'
        go_simp; exact ⟨rfl, rfl⟩
      (try simp only [Act.put]); (try simp only [List.setIfInBounds_toArray]); (try simp only [List.set])
      apply wpAnyN_takeL 6 (by kernel_rfl) rfl (fun _ _ _ h => h) (by kernel_rfl) hS0
      · intro w' hS'
        go_simp; exact ⟨rfl, rfl⟩
      (try simp only [Act.put]); (try simp only [List.setIfInBounds_toArray]); (try simp only [List.set])
      refine wpAnyN_skipL 7 (by kernel_rfl) rfl (fun _ _ _ h => h) (by kernel_rfl) hS0 ?_
      (try simp only [Act.put]); (try simp only [List.setIfInBounds_toArray]); (try simp only [List.set])
      refine wpAnyN_skipL 8 (by kernel_rfl) rfl (fun _ _ _ h => h) (by kernel_rfl) hS0 ?_
      (try simp only [Act.put]); (try simp only [List.setIfInBounds_toArray]); (try simp only [List.set])
      refine wpAnyN_skipL 9 (by kernel_rfl) rfl (fun _ _ _ h => h) (by kernel_rfl) hS0 ?_
      (try simp only [Act.put]); (try simp only [List.setIfInBounds_toArray]); (try simp only [List.set])
      refine wpAnyN_skipL 10 (by kernel_rfl) rfl (fun _ _ _ h => h) (by kernel_rfl) hS0 ?_
      (try simp only [Act.put]); (try simp only [List.setIfInBounds_toArray]); (try simp only [List.set])
      refine wpAnyN_skipL 11 (by kernel_rfl) rfl (fun _ _ _ h => h) (by kernel_rfl) hS0 ?_
      (try simp only [Act.put]); (try simp only [List.setIfInBounds_toArray]); (try simp only [List.set])
      refine wpAnyN_skipL 12 (by kernel_rfl) rfl (fun _ _ _ h => h) (by kernel_rfl) hS0 ?_
      (try simp only [Act.put]); (try simp only [List.setIfInBounds_toArray]); (try simp only [List.set])
      refine wpAnyN_skipL 13 (by kernel_rfl) rfl (fun _ _ _ h => h) (by kernel_rfl) hS0 ?_
      (try simp only [Act.put]); (try simp only [List.setIfInBounds_toArray]); (try simp only [List.set])
      refine wpAnyN_skipL 14 (by kernel_rfl) rfl (fun _ _ _ h => h) (by kernel_rfl) hS0 ?_
      (try simp only [Act.put]); (try simp only [List.setIfInBounds_toArray]); (try simp only [List.set])
      refine wpAnyN_skipL 15 (by kernel_rfl) rfl (fun _ _ _ h => h) (by kernel_rfl) hS0 ?_
      (try simp only [Act.put]); (try simp only [List.setIfInBounds_toArray]); (try simp only [List.set])
      apply wpAnyN_takeL 16 (by kernel_rfl) rfl (fun _ _ _ h => h) (by kernel_rfl) hS0
      · intro w' hS'
        go_simp; exact ⟨rfl, rfl⟩
      (try simp only [Act.put]); (try simp only [List.setIfInBounds_toArray]); (try simp only [List.set])
      refine wpAnyN_done (by kernel_rfl) ?_ _
      clear y0 y1 y2
      go_wp2
      go_ret
      rw [hs.out]
      exact ⟨rfl, ⟨fb1, hdD, by omega⟩, hS0, hb.drew⟩
    by_cases h2 : (f : Int) < (L.n : Int)
    rotate_left
    · have hs := HstopP.out (by omega)
      have hdD := hd.below hwd
      clear HstopP H Hk
      go_upto_region 3 with fail
      refine wp_region_N (RSL g rl ⟨f, L.n, L.wr⟩) 100 (by kernel_rfl) ?_
      apply wpAnyN_takeL 0 (by kernel_rfl) rfl (fun _ _ _ h => h) (by kernel_rfl) hS0
      · intro w' hS'
        go_simp; exact ⟨rfl, rfl⟩
      (try simp only [Act.put]); (try simp only [List.setIfInBounds_toArray]); (try simp only [List.set])
      apply wpAnyN_takeL 1 (by kernel_rfl) rfl (fun _ _ _ h => h) (by kernel_rfl) hS0
      · intro w' hS'
        go_simp; exact ⟨rfl, rfl⟩
      (try simp only [Act.put]); (try simp only [List.setIfInBounds_toArray]); (try simp only [List.set])
      apply wpAnyN_takeL 2 (by kernel_rfl) rfl (fun _ _ _ h => h) (by kernel_rfl) hS0
      · intro w' hS'
        go_simp; exact ⟨rfl, rfl⟩
      (try simp only [Act.put]); (try simp only [List.setIfInBounds_toArray]); (try simp only [List.set])
      apply wpAnyN_takeL 3 (by kernel_rfl) rfl (fun _ _ _ h => h) (by kernel_rfl) hS0
      · intro w' hS'
        go_simp; exact ⟨rfl, rfl⟩
      (try simp only [Act.put]); (try simp only [List.setIfInBounds_toArray]); (try simp only [List.set])
      apply wpAnyN_takeL 4 (by kernel_rfl) rfl (fun _ _ _ h => h) (by kernel_rfl) hS0
      · intro w' hS'
        go_simp; exact ⟨rfl, rfl⟩
      (try simp only [Act.put]); (try simp only [List.setIfInBounds_toArray]); (try simp only [List.set])
      apply wpAnyN_takeL 5 (by kernel_rfl) rfl (fun _ _ _ h => h) (by kernel_rfl) hS0
      · intro w' hS'
        go_simp; exact ⟨rfl, rfl⟩
      (try simp only [Act.put]); (try simp only [List.setIfInBounds_toArray]); (try simp only [List.set])
      apply wpAnyN_takeL 6 (by kernel_rfl) rfl (fun _ _ _ h => h) (by kernel_rfl) hS0
      · intro w' hS'
        go_simp; exact ⟨rfl, rfl⟩
      (try simp only [Act.put]); (try simp only [List.setIfInBounds_toArray]); (try simp only [List.set])
      apply wpAnyN_takeL 7 (by kernel_rfl) rfl (fun _ _ _ h => h) (by kernel_rfl) hS0
      · intro w' hS'
        go_simp; exact ⟨rfl, rfl⟩
      (try simp only [Act.put]); (try simp only [List.setIfInBounds_toArray]); (try simp only [List.set])
      apply wpAnyN_takeL 8 (by kernel_rfl) rfl (fun _ _ _ h => h) (by kernel_rfl) hS0
      · intro w' hS'
        go_simp; exact ⟨rfl, rfl⟩
      (try simp only [Act.put]); (try simp only [List.setIfInBounds_toArray]); (try simp only [List.set])
      apply wpAnyN_takeL 9 (by kernel_rfl) rfl (fun _ _ _ h => h) (by kernel_rfl) hS0
      · intro w' hS'
        go_simp; exact ⟨rfl, rfl⟩
      (try simp only [Act.put]); (try simp only [List.setIfInBounds_toArray]); (try simp only [List.set])
      apply wpAnyN_takeL 10 (by kernel_rfl) rfl (fun _ _ _ h => h) (by kernel_rfl) hS0
      · intro w' hS'
        go_simp; exact ⟨rfl, rfl⟩
      (try simp only [Act.put]); (try simp only [List.setIfInBounds_toArray]); (try simp only [List.set])
      apply wpAnyN_takeL 11 (by kernel_rfl) rfl (fun _ _ _ h => h) (by kernel_rfl) hS0
      · intro w' hS'
        go_simp; exact ⟨rfl, rfl⟩
      (try simp only [Act.put]); (try simp only [List.setIfInBounds_toArray]); (try simp only [List.set])
      apply wpAnyN_takeL 12 (by kernel_rfl) rfl (fun _ _ _ h => h) (by kernel_rfl) hS0
      · intro w' hS'
        go_simp; exact ⟨rfl, rfl⟩
      (try simp only [Act.put]); (try simp only [List.setIfInBounds_toArray]); (try simp only [List.set])
      apply wpAnyN_takeL 13 (by kernel_rfl) rfl (fun _ _ _ h => h) (by kernel_rfl) hS0
      · intro w' hS'
        go_simp; exact ⟨rfl, rfl⟩
      (try simp only [Act.put]); (try simp only [List.setIfInBounds_toArray]); (try simp only [List.set])
      apply wpAnyN_takeL 14 (by kernel_rfl) rfl (fun _ _ _ h => h) (by kernel_rfl) hS0
      · intro w' hS'
        go_simp; exact ⟨rfl, rfl⟩
      (try simp only [Act.put]); (try simp only [List.setIfInBounds_toArray]); (try simp only [List.set])
      apply wpAnyN_takeL 15 (by kernel_rfl) rfl (fun _ _ _ h => h) (by kernel_rfl) hS0
      · intro w' hS'
        go_simp; exact ⟨rfl, rfl⟩
      (try simp only [Act.put]); (try simp only [List.setIfInBounds_toArray]); (try simp only [List.set])
      apply wpAnyN_takeL 16 (by kernel_rfl) rfl (fun _ _ _ h => h) (by kernel_rfl) hS0
      · intro w' hS'
        go_simp; exact ⟨rfl, rfl⟩
      (try simp only [Act.put]); (try simp only [List.setIfInBounds_toArray]); (try simp only [List.set])
      refine wpAnyN_done (by kernel_rfl) ?_ _
      clear y0 y1 y2
      go_wp2
      go_ret
      rw [hs.out]
      exact ⟨rfl, ⟨fb1, hdD, by omega⟩, hS0, hb.drew⟩
    clear HstopP
    go_upto_region 3 with fail
    refine wp_region_N (RSL g rl ⟨f, L.n, L.wr⟩) 100 (by kernel_rfl) ?_
    apply wpAnyN_takeL 0 (by kernel_rfl) rfl (fun _ _ _ h => h) (by kernel_rfl) hS0
    · intro w' hS'
      go_simp; exact ⟨rfl, rfl⟩
    (try simp only [Act.put]); (try simp only [List.setIfInBounds_toArray]); (try simp only [List.set])
    apply wpAnyN_takeL 1 (by kernel_rfl) rfl (fun _ _ _ h => h) (by kernel_rfl) hS0
    · intro w' hS'
      go_simp; exact ⟨rfl, rfl⟩
    (try simp only [Act.put]); (try simp only [List.setIfInBounds_toArray]); (try simp only [List.set])
    apply wpAnyN_takeL 2 (by kernel_rfl) rfl (fun _ _ _ h => h) (by kernel_rfl) hS0
    · intro w' hS'
      go_simp; exact ⟨rfl, rfl⟩
    (try simp only [Act.put]); (try simp only [List.setIfInBounds_toArray]); (try simp only [List.set])
    apply wpAnyN_takeL 3 (by kernel_rfl) rfl (fun _ _ _ h => h) (by kernel_rfl) hS0
    · intro w' hS'
      go_simp; exact ⟨rfl, rfl⟩
    (try simp only [Act.put]); (try simp only [List.setIfInBounds_toArray]); (try simp only [List.set])
    apply wpAnyN_takeL 4 (by kernel_rfl) rfl (fun _ _ _ h => h) (by kernel_rfl) hS0
    · intro w' hS'
      go_simp; exact ⟨rfl, rfl⟩
    (try simp only [Act.put]); (try simp only [List.setIfInBounds_toArray]); (try simp only [List.set])
    apply wpAnyN_takeL 5 (by kernel_rfl) rfl (fun _ _ _ h => h) (by kernel_rfl) hS0
    · intro w' hS'
      go_simp; exact ⟨rfl, rfl⟩
    (try simp only [Act.put]); (try simp only [List.setIfInBounds_toArray]); (try simp only [List.set])
    apply wpAnyN_takeL 6 (by kernel_rfl) rfl (fun _ _ _ h => h) (by kernel_rfl) hS0
    · intro w' hS'
      go_simp; exact ⟨rfl, rfl⟩
    (try simp only [Act.put]); (try simp only [List.setIfInBounds_toArray]); (try simp only [List.set])
    apply wpAnyN_takeL 7 (by kernel_rfl) rfl (fun _ _ _ h => h) (by kernel_rfl) hS0
    · intro w' hS'
      go_simp; exact ⟨rfl, rfl⟩
    (try simp only [Act.put]); (try simp only [List.setIfInBounds_toArray]); (try simp only [List.set])
    apply wpAnyN_takeL 8 (by kernel_rfl) rfl (fun _ _ _ h => h) (by kernel_rfl) hS0
    · intro w' hS'
      go_simp; exact ⟨rfl, rfl⟩
    (try simp only [Act.put]); (try simp only [List.setIfInBounds_toArray]); (try simp only [List.set])
    apply wpAnyN_takeL 9 (by kernel_rfl) rfl (fun _ _ _ h => h) (by kernel_rfl) hS0
    · intro w' hS'
      go_simp; exact ⟨rfl, rfl⟩
    (try simp only [Act.put]); (try simp only [List.setIfInBounds_toArray]); (try simp only [List.set])
    apply wpAnyN_takeL 10 (by kernel_rfl) rfl (fun _ _ _ h => h) (by kernel_rfl) hS0
    · intro w' hS'
      go_simp; exact ⟨rfl, rfl⟩
    (try simp only [Act.put]); (try simp only [List.setIfInBounds_toArray]); (try simp only [List.set])
    apply wpAnyN_takeL 11 (by kernel_rfl) rfl (fun _ _ _ h => h) (by kernel_rfl) hS0
    · intro w' hS'
      go_simp; exact ⟨rfl, rfl⟩
    (try simp only [Act.put]); (try simp only [List.setIfInBounds_toArray]); (try simp only [List.set])
    apply wpAnyN_takeL 12 (by kernel_rfl) rfl (fun _ _ _ h => h) (by kernel_rfl) hS0
    · intro w' hS'
      go_simp; exact ⟨rfl, rfl⟩
    (try simp only [Act.put]); (try simp only [List.setIfInBounds_toArray]); (try simp only [List.set])
    apply wpAnyN_takeL 13 (by kernel_rfl) rfl (fun _ _ _ h => h) (by kernel_rfl) hS0
    · intro w' hS'
      go_simp; exact ⟨rfl, rfl⟩
    (try simp only [Act.put]); (try simp only [List.setIfInBounds_toArray]); (try simp only [List.set])
    apply wpAnyN_takeL 14 (by kernel_rfl) rfl (fun _ _ _ h => h) (by kernel_rfl) hS0
    · intro w' hS'
      go_simp; exact ⟨rfl, rfl⟩
    (try simp only [Act.put]); (try simp only [List.setIfInBounds_toArray]); (try simp only [List.set])
    apply wpAnyN_takeL 15 (by kernel_rfl) rfl (fun _ _ _ h => h) (by kernel_rfl) hS0
    · intro w' hS'
      go_simp; exact ⟨rfl, rfl⟩
    (try simp only [Act.put]); (try simp only [List.setIfInBounds_toArray]); (try simp only [List.set])
    apply wpAnyN_takeL 16 (by kernel_rfl) rfl (fun _ _ _ h => h) (by kernel_rfl) hS0
    · intro w' hS'
      go_simp; exact ⟨rfl, rfl⟩
    (try simp only [Act.put]); (try simp only [List.setIfInBounds_toArray]); (try simp only [List.set])
    refine wpAnyN_done (by kernel_rfl) ?_ _
    have hfn : f ≤ L.n := by omega
    obtain ⟨k, rfl⟩ : ∃ k', k = k' + 1 := ⟨k - 1, by have := Hk.out; omega⟩
    obtain ⟨q, hq⟩ : ∃ q, q = aDelete (walNm f) d' := ⟨_, rfl⟩
    have hql : q.2.fs.length ≤ d'.fs.length := by rw [hq]; exact del_len_le _ _
    have Hq := Lib.hid hq
    clear hq
    go_upto_region 4 with fail
    have hS00 : RSL g rl ⟨f, L.n, L.wr⟩ wo.drew.drew := hk
    clear hS0
    refine wp_region_N (RSL g rl ⟨f, L.n, L.wr⟩) 100 (by kernel_rfl) ?_
    apply wpAnyN_takeL 0 (by kernel_rfl) rfl (fun _ _ _ h => h) (by kernel_rfl) hS00
    · intro w' hS'
      go_simp; exact ⟨rfl, rfl⟩
    (try simp only [Act.put]); (try simp only [List.setIfInBounds_toArray]); (try simp only [List.set])
    apply wpAnyN_takeL 1 (by kernel_rfl) rfl (fun _ _ _ h => h) (by kernel_rfl) hS00
    · intro w' hS'
      go_simp; exact ⟨rfl, rfl⟩
    (try simp only [Act.put]); (try simp only [List.setIfInBounds_toArray]); (try simp only [List.set])
    apply wpAnyN_takeL 2 (by kernel_rfl) rfl (fun _ _ _ h => h) (by kernel_rfl) hS00
    · intro w' hS'
      go_simp; exact ⟨rfl, rfl⟩
    (try simp only [Act.put]); (try simp only [List.setIfInBounds_toArray]); (try simp only [List.set])
    apply wpAnyN_takeL 3 (by kernel_rfl) rfl (fun _ _ _ h => h) (by kernel_rfl) hS00
    · intro w' hS'
      go_simp; exact ⟨rfl, rfl⟩
    (try simp only [Act.put]); (try simp only [List.setIfInBounds_toArray]); (try simp only [List.set])
    apply wpAnyN_takeL 4 (by kernel_rfl) rfl (fun _ _ _ h => h) (by kernel_rfl) hS00
    · intro w' hS'
      go_simp; exact ⟨rfl, rfl⟩
    (try simp only [Act.put]); (try simp only [List.setIfInBounds_toArray]); (try simp only [List.set])
    apply wpAnyN_takeL 5 (by kernel_rfl) rfl (fun _ _ _ h => h) (by kernel_rfl) hS00
    · intro w' hS'
      go_simp; exact ⟨rfl, rfl⟩
    (try simp only [Act.put]); (try simp only [List.setIfInBounds_toArray]); (try simp only [List.set])
    apply wpAnyN_takeL 6 (by kernel_rfl) rfl (fun _ _ _ h => h) (by kernel_rfl) hS00
    · intro w' hS'
      go_simp; exact ⟨rfl, rfl⟩
    (try simp only [Act.put]); (try simp only [List.setIfInBounds_toArray]); (try simp only [List.set])
    apply wpAnyN_takeL 7 (by kernel_rfl) rfl (fun _ _ _ h => h) (by kernel_rfl) hS00
    · intro w' hS'
      go_simp; exact ⟨rfl, rfl⟩
    (try simp only [Act.put]); (try simp only [List.setIfInBounds_toArray]); (try simp only [List.set])
    refine wpAnyN_runL 8 (by kernel_rfl) rfl (by kernel_rfl) (fun K hK => ?_)
    go_simp
    refine (rNm f wo.drew.drew (by omega) (by omega)).mono ?_
    rintro e w2 ⟨rfl, hb2⟩
    simp only [World.size_drew] at hb2
    have hb2' : Below wo.heap.size wo w2 := (Below.refl _ _).drew.drew.trans hb2
    have hS2 : RSL g rl ⟨f, L.n, L.wr⟩ w2 := Blk.below hk hb2' hk.lt
    have hd2 := hd.below hb2'
    refine hK _ _ (fun _ => hS2) ?_
    clear hK K
    (try simp only [Act.put]); (try simp only [List.setIfInBounds_toArray]); (try simp only [List.set])
    refine wpAnyN_runL 9 (by kernel_rfl) rfl (by kernel_rfl) (fun K hK => ?_)
    go_simp
    refine (bDelete_calls (walNm f) g fb1 d' w2 hd2 (nm_size (by omega)) (by omega)).mono ?_
    rintro e w3 ⟨rfl, fb3, hd3', hfb3, hb3⟩
    rw [← Hq.out] at hd3' ⊢
    have hS3 : RSL g rl ⟨f, L.n, L.wr⟩ w3 := Blk.but hS2 hb3 (by simp only [List.mem_cons, List.not_mem_nil, or_false]; omega)
    refine hK _ _ (fun _ => hS3) ?_
    clear hK K
    (try simp only [Act.put]); (try simp only [List.setIfInBounds_toArray]); (try simp only [List.set])
    apply wpAnyN_takeL 10 (by kernel_rfl) rfl (fun _ _ _ h => h) (by kernel_rfl) hS3
    · intro w' hS'
      go_simp; exact ⟨rfl, rfl⟩
    (try simp only [Act.put]); (try simp only [List.setIfInBounds_toArray]); (try simp only [List.set])
    refine wpAnyN_done (by kernel_rfl) ?_ _
    have hs0 := hb.size; have hs2 := hb2'.size
    have hb03 : But [g, fb, rl] w w3 := (hb.trans (But.of_below hb2')).old hb3 (fun x hx => by simp only [List.mem_cons, List.not_mem_nil, or_false] at hx ⊢; omega)
    clear hS00 hS2 hd2 y0 y1 y2 hb3 hb2 hb2' hk hd hb hwd
    obtain ⟨fb4, hd3, hfb4, hne4, hg4⟩ := hd3'.pick hS3 (by decide) (by decide)
    have hfb : fb4 = fb ∨ fb4 = g ∨ w.heap.size ≤ fb4 := by omega
    have f1 := hS3.frozen 1
    have q1 : w3.cell? ⟨rl, 1, none⟩ = some (.int .i64 f) := hS3.cell 1
    have hset : But [rl] w3 (w3.setCell ⟨rl, 1, none⟩ (.int .i64 ((f : Int) + 1))) := (But.refl _ _).setCell (by simp) _
    have hk4 : RLog (w3.setCell ⟨rl, 1, none⟩ (.int .i64 ((f : Int) + 1))) g rl ⟨f + 1, L.n, L.wr⟩ := hS3.set_ 1 (.int .i64 ((f : Int) + 1))
    have hnb : NB w3 rl := NB.blk hS3 (by decide)
    have hd4 : RefD (w3.setCell ⟨rl, 1, none⟩ (.int .i64 ((f : Int) + 1))) g fb4 q.2 := hd3.butT hset (by simp only [List.mem_cons, List.not_mem_nil, or_false]; exact hg4) (by simp only [List.mem_cons, List.not_mem_nil, or_false]; exact hne4) (fun x hx => by
      simp only [List.mem_cons, List.not_mem_nil, or_false] at hx
      subst hx; exact Or.inl hnb)
    have hb04 : But [g, fb, rl] w (w3.setCell ⟨rl, 1, none⟩ (.int .i64 ((f : Int) + 1))) := hb03.trans (hset.mono (by simp +contextual))
    have hstop : Hid (q.1 ≠ 0 → q.1 ≠ 21 → r = (q.1, ⟨f, L.n, L.wr⟩, q.2)) := Lib.hid fun h1 h2 => by rw [H.out]; exact wDrop_bad Hq.out h1 h2
    have hgo : Hid (q.1 = 0 ∨ q.1 = 21 → r = wDrop k ⟨f + 1, L.n, L.wr⟩ q.2) := Lib.hid fun h1 => by rw [H.out]; exact wDrop_go Hq.out h1
    have Hk' : Hid (k = (min below L.n - ((f + 1 : Nat) : Int)).toNat) := Lib.hid (by have := Hk.out; omega)
    have hdec : (min below L.n - ((f + 1 : Nat) : Int)).toNat < (min below L.n - f).toNat := by have := Hk.out; omega
    have Hdec := Lib.hid hdec
    have hwrap : (f : Int) + 1 ≤ 1000000001 := by omega
    clear H Hq Hk hset hdec
    by_cases h0 : q.1 = 0
    · have hz : ((q.1 : Int) != 0) = false := nz_false' h0
      have hg := Lib.hid (hgo.out (Or.inl h0))
      clear hgo hstop h0
      go_wp2
      go_roundw
      case rel => exact ⟨k, f + 1, _, by omega, Hk', ⟨fb4, hd4, hfb⟩, by omega, hk4, hg, hb04⟩
      case measure => rw [Hmeas.out]; rw [show (w3.setCell ⟨rl, 1, none⟩ (.int .i64 ((f : Int) + 1))).cell? ⟨rl, 1, none⟩ = some (.int .i64 ((f : Int) + 1)) from hk4.cell 1]; exact Hdec.out
    · have hz : ((q.1 : Int) != 0) = true := nz_true' h0
      by_cases h21 : q.1 = 21
      · have hz2 : ((q.1 : Int) != 21) = false := by rw [h21]; rfl
        have hg := Lib.hid (hgo.out (Or.inr h21))
        clear hgo hstop h0 h21
        go_wp2
        go_roundw
        case rel => exact ⟨k, f + 1, _, by omega, Hk', ⟨fb4, hd4, hfb⟩, by omega, hk4, hg, hb04⟩
        case measure => rw [Hmeas.out]; rw [show (w3.setCell ⟨rl, 1, none⟩ (.int .i64 ((f : Int) + 1))).cell? ⟨rl, 1, none⟩ = some (.int .i64 ((f : Int) + 1)) from hk4.cell 1]; exact Hdec.out
      · have hz2 : ((q.1 : Int) != 21) = true := by rw [bne_iff_ne]; omega
        have hs := Lib.hid (hstop.out h0 h21)
        clear hgo hstop h0 h21 hd4 hk4 hb04
        go_wp2
        go_ret
        rw [hs.out]
        exact ⟨rfl, ⟨fb4, hd3, hfb⟩, hS3, hb03⟩
end
end Go.Proofs.YtmddgimadlmacaaDoor
