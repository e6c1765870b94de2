import Derived.Test.YtmddgimadlmacaaDoorWs11
import Derived.Lib.AppendZerosOnto
namespace Go.Proofs.YtmddgimadlmacaaDoor
open Go.RowKit Garner

theorem byteInfo : (Tryd.prog.info? 5).map (fun i => (i.zero, i.size, i.bytes)) = some (some (.int .u8 0), 1, 1) := by kernel_rfl
set_option maxRecDepth 100000 in
set_option maxHeartbeats 4000000 in
/-- slices.Clone of bytes: new memory -/
theorem vClone (l : Bs) (A : Option Addr) (c B : Nat) (w : World) (hr : Bytes w B A l.length l) (hB : B ≤ w.heap.size) (hl : l.length ≤ 140737488355328) :
    Calls Tryd.prog 52 #[.slice A l.length c] w fun e w' => ∃ v, e = .returned v ∧ OwnB w' w.heap.size v l ∧ Below w.heap.size w w' := by
  have hq := fun (u : World) (a : Option Addr) (n c : Nat) => Lib.run_eql_slice_nil (P := Tryd.prog) u 23 5 a n c 0 0 Tryd.underlying23
  cases A with
  | none =>
    have h0 : l = [] := by
      rcases Nat.eq_zero_or_pos l.length with h | h
      · exact List.eq_nil_of_length_eq_zero h
      · obtain ⟨_, _, h, _⟩ := hr.2 h; cases h
    subst h0
    go_enter Tryd.func52, Tryd.ntmps52
    go_wp2
    go_ret
    exact ⟨_, rfl, World.ownsRow_nil _ _ _ _, Below.refl _ _⟩
  | some a =>
    go_enter Tryd.func52, Tryd.ntmps52
    have hown : ∀ g : Nat, g = w.heap.size → (w.alloc (.cells #[] 5)).ownsRow w.heap.size 5 1 (.slice (some ⟨w.heap.size, 0, none⟩) 0 0) 0 [] := fun _ _ => own_empty (heap_alloc_new _ _) (Nat.le_refl _)
    have hown := hown _ rfl
    go_wp2_with (at_builtin; refine wpList_app _ rfl bytesE rfl rfl hown rfl (hr.alloc hB _) (bv_one _) (by omega) (by simp) ?_; intro v3 w3 hown3 hg3 hb3 _)
    go_ret
    exact ⟨v3, rfl, by simpa [OwnB] using hown3, ((Below.refl _ _).alloc (Nat.le_refl _) _).trans hb3⟩
set_option maxRecDepth 100000 in
set_option maxHeartbeats 4000000 in
/-- slices.Grow of a nil slice of bytes -/
theorem vGrow (n : Nat) (w : World) (hn : n ≤ 140737488355328) :
    Calls Tryd.prog 57 #[.slice none 0 0, .int .i64 n] w fun e w' => ∃ v, e = .returned v ∧ OwnB w' w.heap.size v [] ∧ Below w.heap.size w w' := by
  rcases Nat.eq_zero_or_pos n with h0 | h0
  · subst h0
    go_enter Tryd.func57, Tryd.ntmps57
    go_wp2
    go_ret
    exact ⟨_, rfl, World.ownsRow_nil _ _ _ _, Below.refl _ _⟩
  · obtain ⟨i0, hi, hz0, hz1, hz2⟩ := info_parts byteInfo
    have hold : (Builtin.firstCells i0.size 0 (.slice none 0 0)).run Tryd.prog w.drew = .ok ([] : List Value).toArray w.drew := run_firstCells_none w.drew i0.size 0 0 0
    have hgc : n ≤ grownCap w n 0 5 := grownCap_ge w _ _ _
    have hgm : grownCap w n 0 5 ≤ maxLen := grownCap_le_maxLen w n 0 _ (by unfold maxLen; omega)
    have hrz : ∀ ty, (Builtin.append_ #[23, 3] ty #[.slice none 0 0, .int .i64 n]).run Tryd.prog w =
        .ok (.slice (some ⟨w.heap.size, 0, none⟩) n (grownCap w n 0 5)) (w.drew.alloc (.cells (([] : List Value).toArray ++ Builtin.zeroCells (Value.int .u8 0).cells n ++ Builtin.zeroCells (Value.int .u8 0).cells (grownCap w n 0 5 - n)) 5)) := fun ty => by
      have h := Lib.run_append_grow_zeros w 23 3 ty 5 i0 (.int .u8 0) .i64 .i64 Tryd.underlying23 Tryd.underlying3 hi hz0 none 0 0 [] hold n h0 (by omega) (by omega) (by omega) (by rw [hz2]; omega) (by
        rw [hz2]; exact growslice_fits (by omega) (by omega))
      rw [Nat.zero_add] at h
      exact h
    have hsz : (([] : List Value).toArray ++ Builtin.zeroCells (Value.int .u8 0).cells n ++ Builtin.zeroCells (Value.int .u8 0).cells (grownCap w n 0 5 - n)).size = grownCap w n 0 5 := by
      simp [Builtin.zeroCells, Value.cells]; omega
    obtain ⟨G, hG⟩ : ∃ G, G = grownCap w n 0 5 := ⟨_, rfl⟩
    obtain ⟨cs, hcs⟩ : ∃ cs, cs = ([] : List Value).toArray ++ Builtin.zeroCells (Value.int .u8 0).cells n ++ Builtin.zeroCells (Value.int .u8 0).cells (grownCap w n 0 5 - n) := ⟨_, rfl⟩
    rw [← hcs, ← hG] at hsz
    rw [← hcs, ← hG] at hrz
    rw [← hG] at hgc hgm
    clear hcs hG hold
    have hn' : (0 : Int) < n := by omega
    unfold maxLen at hgm
    go_enter Tryd.func57, Tryd.ntmps57
    go_wp2_with (at_builtin; refine Lib.wpList_append_run _ rfl _ _ _ _ rfl _ _ rfl rfl _ _ (hrz _) ?_)
    go_ret
    refine ⟨_, rfl, ⟨by simp, Or.inr ⟨w.heap.size, G, cs, rfl, Nat.le_refl _, ?_, Nat.zero_le _, by unfold maxLen; omega, by omega, by simp⟩⟩, ((Below.refl _ _).drew.alloc (by simp) _)⟩
    exact Go.heap_alloc_new w.drew _
set_option maxRecDepth 100000 in
set_option maxHeartbeats 4000000 in
/-- slices.Concat of two slices of bytes -/
theorem vConcat (l1 l2 : Bs) (A1 A2 : Option Addr) (c1 c2 c B b off : Nat) (w : World) (h1 : Bytes w B A1 l1.length l1) (h2 : Bytes w B A2 l2.length l2) (hB : B ≤ w.heap.size) (hl : l1.length + l2.length ≤ 140737488355328)
    (hb : b < w.heap.size) (x0 : w.cell? ⟨b, off, none⟩ = some (.slice A1 l1.length c1)) (x1 : w.cell? ⟨b, off + 1, none⟩ = some (.slice A2 l2.length c2)) :
    Calls Tryd.prog 41 #[.slice (some ⟨b, off, none⟩) 2 c] w fun e w' => ∃ v, e = .returned v ∧ OwnB w' w.heap.size v (l1 ++ l2) ∧ Below w.heap.size w w' := by
  have x0' : w.cell? ⟨b, off + 0, none⟩ = some (.slice A1 l1.length c1) := x0
  go_enter Tryd.func41, Tryd.ntmps41
  go_wp2_with fail
  refine wp_loop_rounds 3 ?_
  rw [rounds_succ]
  go_wp2_with fail
  rw [rounds_succ]
  go_wp2_with fail
  rw [rounds_succ]
  go_wp2_with fail
  have hgr := vGrow (l1.length + l2.length) w hl
  rw [Int.natCast_add] at hgr
  refine hgr.mono ?_
  rintro e w1 ⟨v1, rfl, own1, hb1⟩
  have y0 : w1.cell? ⟨b, off, none⟩ = some (.slice A1 l1.length c1) := (hb1.cell (p := ⟨b, off, none⟩) hb).trans x0
  have y1 : w1.cell? ⟨b, off + 1, none⟩ = some (.slice A2 l2.length c2) := (hb1.cell (p := ⟨b, off + 1, none⟩) hb).trans x1
  have s1 := hb1.size
  clear x0 x1 x0' hgr
  go_wp2_with fail
  refine wp_loop_rounds 3 ?_
  rw [rounds_succ]
  go_wp2_with (at_builtin; refine wpList_app _ rfl bytesE rfl rfl own1 rfl (h1.below (hb1.mono hB)) (bv_one _) (by simp; omega) s1 ?_; intro v2 w2 own2 hg2 hbb2 _)
  have hb2 := hb1.trans hbb2
  have s2 := hb2.size
  have y1 : w2.cell? ⟨b, off + 1, none⟩ = some (.slice A2 l2.length c2) := (hbb2.cell (p := ⟨b, off + 1, none⟩) hb).trans y1
  have h2' := h2.below (hb2.mono hB)
  clear y0 hg2 hbb2 own1
  rw [rounds_succ]
  go_wp2_with (at_builtin; refine wpList_app _ rfl bytesE rfl rfl own2 rfl h2' (bv_one _) (by simp; omega) s2 ?_; intro v3 w3 own3 hg3 hbb3 _)
  have hb3 := hb2.trans hbb3
  rw [rounds_succ]
  go_wp2
  go_ret
  exact ⟨v3, rfl, by simpa [OwnB] using own3, hb3⟩
end Go.Proofs.YtmddgimadlmacaaDoor
