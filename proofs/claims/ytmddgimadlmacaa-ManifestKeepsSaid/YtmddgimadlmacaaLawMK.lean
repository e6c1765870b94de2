import Derived.Test.YtmddgimadlmacaaLawMB
import Derived.Test.YtmddgimadlmacaaBut
import Derived.Deep.DeepCutAuto
import Derived.Outline
namespace Go.Proofs.Ytmddgimadlmacaa
open Go.RowKit Garner

theorem row_of_blk {w : World} {g : Nat} {t : TypeId} {cs : List Value} {n sz : Nat} (h : Blk w g t cs) (hl : cs.length = n * sz) : Row w w.heap.size sz (some ⟨g, 0, none⟩) n cs :=
  ⟨hl, fun _ => ⟨g, 0, rfl, h.lt, fun j u hu => by rw [Nat.zero_add, h.cell j]; exact hu⟩⟩
theorem Blk.grown_slice {w w' : World} {g b o n c : Nat} {t : TypeId} {cs : List Value} (h : Blk w g t cs) (hb : w.grownBy w' (Value.ownBlock (.slice (some ⟨b, o, none⟩) n c))) (hne : g ≠ b) : Blk w' g t cs := h.grown hb fun e => hne (Option.some.inj e)
theorem segCells_one (l : List Seg) : ∀ u ∈ segCells l, u.oneCell' = true := by
  intro u hu
  obtain ⟨s, _, hs⟩ := List.mem_flatMap.1 hu
  exact segV_one s u hs
theorem own_slice1 {w : World} {B : Nat} {e : TypeId} {sz n : Nat} {v : Value} {xs : List Value} (h : w.ownsRow B e sz v n xs) (hn : 0 < n) : ∃ g cap, v = .slice (some ⟨g, 0, none⟩) n cap ∧ n ≤ cap ∧ cap ≤ maxLen := by
  rcases h.2 with ⟨_, h0⟩ | ⟨g, cap, cur, hv, _, _, hc, hm, _⟩
  · omega
  · exact ⟨g, cap, hv, hc, hm⟩
def seg77 : Seg := { id := 77, count := 0, mn := 0, mx := 0 }
structure S4 (m : Man) (A : Option Addr) (c g1 B0 : Nat) (w' : World) : Prop where
  a : Blk w' g1 25 [.int .i64 m.wal, .int .i64 m.next, .int .u64 m.seq, .int .i64 m.mark, .slice A m.segs.length c]
  row : Segs w' B0 A m.segs.length m.segs
theorem neq_nat' (k : Nat) (h : k ≠ 0) : ((k : Int) != 0) = true := by rw [bne_iff_ne]; omega
structure S6 (m : Man) (A : Option Addr) (c g1 g3 g cap B0 : Nat) (w' : World) : Prop where
  a : Blk w' g1 25 [.int .i64 m.wal, .int .i64 m.next, .int .u64 m.seq, .int .i64 m.mark, .slice A m.segs.length c]
  b : Blk w' g3 25 [.int .i64 m.wal, .int .i64 m.next, .int .u64 m.seq, .int .i64 m.mark, .slice (some ⟨g, 0, none⟩) m.segs.length cap]
  row : w'.ownsRow B0 36 4 (.slice (some ⟨g, 0, none⟩) (m.segs.length + 1) cap) (m.segs.length + 1) (segCells m.segs ++ segV seg77)
/-- what Write answers: bytes of its own -/
def WriteO (w : World) (m : Man) (e : Ending) (w' : World) : Prop :=
  ∃ A c, e = .returned (.tuple #[.slice A (wrBytes m).length c, .int .i64 (wrErr m)]) ∧ (wrBytes m).length ≤ c ∧ OwnB w' w.heap.size (.slice A (wrBytes m).length c) (wrBytes m) ∧ Below w.heap.size w w'
theorem WritePost.o {w : World} {m : Man} {e : Ending} {w' : World} (h : WritePost w (mwrite m) e w') : WriteO w m e w' := by
  unfold WriteO wrBytes wrErr
  cases hm : mwrite m with
  | error k => rw [hm] at h; exact ⟨none, 0, h.1, by simp, World.ownsRow_nil _ _ _ _, h.2⟩
  | ok f =>
    rw [hm] at h
    obtain ⟨v, rfl, hown, hb⟩ := h
    obtain ⟨A, c, rfl, hc⟩ := own_form hown
    exact ⟨A, c, rfl, hc, hown, hb⟩
theorem own_prefix {w : World} {B g cap n : Nat} {l : List Seg} {s : Seg} (h : w.ownsRow B 36 4 (.slice (some ⟨g, 0, none⟩) (n + 1) cap) (n + 1) (segCells l ++ segV s)) (hn : l.length = n) : Segs w w.heap.size (some ⟨g, 0, none⟩) n l := by
  have hlen := segCells_len l
  refine ⟨by omega, fun _ => ⟨g, 0, rfl, (h.lt g rfl).2, fun j u hu => ?_⟩⟩
  rw [Nat.zero_add]
  have hj : j < (segCells l).length := by
    rcases Nat.lt_or_ge j (segCells l).length with hh | hh
    · exact hh
    · rw [List.getElem?_eq_none hh] at hu; cases hu
  rw [h.cellAt j (by omega), List.getElem?_append_left hj]
  exact hu
theorem own_last {w : World} {B g cap n : Nat} {l : List Seg} {s : Seg} (h : w.ownsRow B 36 4 (.slice (some ⟨g, 0, none⟩) (n + 1) cap) (n + 1) (segCells l ++ segV s)) (hn : l.length = n) : w.cell? ⟨g, n * 4, none⟩ = some (.int .i64 s.id) := by
  have hlen := segCells_len l
  rw [h.cellAt (n * 4) (by omega), List.getElem?_append_right (by omega), show n * 4 - (segCells l).length = 0 by omega]
  rfl
set_option maxRecDepth 100000 in
set_option maxHeartbeats 4000000 in
theorem lawMK (m : Man) (A : Option Addr) (c B : Nat) (w : World) (hr : Segs w B A m.segs.length m.segs) (hw : m.wf) (hl : m.segs.length * 32 ≤ 140737488351232) (hB : B ≤ w.heap.size) :
    Calls Try.prog 4 #[manV m A c] w fun e w' => e = .returned (.bool true) ∧ Below w.heap.size w w' := by
  have Hw := Lib.hid hw; clear hw
  go_enter Try.func4, Try.ntmps4
  go_wp2_with fail
  refine (vAwake _).mono ?_
  rintro e w1 ⟨rfl, hb1⟩
  simp only [World.size_alloc] at hb1
  have k1 : Blk w1 w.heap.size 25 [.int .i64 m.wal, .int .i64 m.next, .int .u64 m.seq, .int .i64 m.mark, .slice A m.segs.length c] := (Blk.new w _ _).below hb1 (by omega)
  have hb01 : Below w.heap.size w w1 := ((Below.refl w.heap.size w).alloc (Nat.le_refl _) _).trans (hb1.mono (Nat.le_succ _))
  clear hb1
  have s1 : w.heap.size + 1 ≤ w1.heap.size := k1.lt
  have p0 : w1.cell? ⟨w.heap.size, 0, none⟩ = some (.int .i64 m.wal) := k1.cell 0
  have p1 : w1.cell? ⟨w.heap.size, 1, none⟩ = some (.int .i64 m.next) := k1.cell 1
  have p2 : w1.cell? ⟨w.heap.size, 2, none⟩ = some (.int .u64 m.seq) := k1.cell 2
  have p3 : w1.cell? ⟨w.heap.size, 3, none⟩ = some (.int .i64 m.mark) := k1.cell 3
  have p4 : w1.cell? ⟨w.heap.size, 4, none⟩ = some (.slice A m.segs.length c) := k1.cell 4
  go_upto_region 4 with fail
  obtain ⟨X, hX⟩ : ∃ X, X = w1.alloc (manBox m A c) := ⟨_, rfl⟩
  change Code.wp _ _ _ _ (w1.alloc (manBox m A c))
  rw [← hX]
  have hbX : Below w1.heap.size w1 X := by rw [hX]; exact (Below.refl _ _).alloc (Nat.le_refl _) _
  have k3 : Blk X w1.heap.size 25 [.int .i64 m.wal, .int .i64 m.next, .int .u64 m.seq, .int .i64 m.mark, .slice A m.segs.length c] := by rw [hX]; exact Blk.new _ _ _
  clear hX
  have k1' := k1.below hbX k1.lt
  have hb02 := hb01.trans (hbX.mono hb01.size)
  have s3 : w1.heap.size < X.heap.size := k3.lt
  clear k1 hb01 hbX p0 p1 p2 p3 p4
  obtain ⟨g3, hg3⟩ : ∃ g, g = w1.heap.size := ⟨_, rfl⟩
  rw [← hg3] at k3 s1 s3 ⊢
  clear hg3
  go_cut [] (fun wx => ∃ g cap, Blk wx w.heap.size 25 [.int .i64 m.wal, .int .i64 m.next, .int .u64 m.seq, .int .i64 m.mark, .slice A m.segs.length c] ∧ Blk wx g3 25 [.int .i64 m.wal, .int .i64 m.next, .int .u64 m.seq, .int .i64 m.mark, .slice (some ⟨g, 0, none⟩) m.segs.length cap] ∧ wx.ownsRow X.heap.size 36 4 (.slice (some ⟨g, 0, none⟩) (m.segs.length + 1) cap) (m.segs.length + 1) (segCells m.segs ++ segV seg77) ∧ Below w.heap.size w wx)
  case first =>
    refine wp_region_N (S4 m A c w.heap.size B) 100 (by kernel_rfl) ?_
    obtain ⟨X0, hX0⟩ : ∃ X0, X0 = X.drew := ⟨_, rfl⟩
    rw [← hX0]
    have hbX0 : Below X.heap.size X X0 := by rw [hX0]; exact (Below.refl _ _).drew
    clear hX0
    have hBX : B ≤ X.heap.size := Nat.le_trans hB hb02.size
    have hrow : Segs X B A m.segs.length m.segs := hr.below (hb02.mono hB)
    have hS0 : S4 m A c w.heap.size B X0 := ⟨k1'.below hbX0 k1'.lt, hrow.below (hbX0.mono hBX)⟩
    have z4 : ∀ w' : World, S4 m A c w.heap.size B w' → w'.cell? ⟨w.heap.size, 4, none⟩ = some (.slice A m.segs.length c) := fun w' h => h.a.cell 4
    apply wpAnyN_takeL 1 (by kernel_rfl) rfl (fun _ _ _ h => h) (by kernel_rfl) hS0
    · intro w' hS'
      go_simp; exact ⟨rfl, rfl⟩
    (try simp only [Act.put]); (try simp only [List.setIfInBounds_toArray]); (try simp only [List.set])
    apply wpAnyN_takeL 2 (by kernel_rfl) rfl (fun _ _ _ h => h) (by kernel_rfl) hS0
    · intro w' hS'
      go_simp; exact ⟨rfl, rfl⟩
    (try simp only [Act.put]); (try simp only [List.setIfInBounds_toArray]); (try simp only [List.set])
    apply wpAnyN_takeL 4 (by kernel_rfl) rfl (fun _ _ _ h => h) (by kernel_rfl) hS0
    · intro w' hS'
      go_simp; exact ⟨rfl, rfl⟩
    (try simp only [Act.put]); (try simp only [List.setIfInBounds_toArray]); (try simp only [List.set])
    apply wpAnyN_takeL 7 (by kernel_rfl) rfl (fun _ _ _ h => h) (by kernel_rfl) hS0
    · intro w' hS'
      go_simp; exact ⟨rfl, rfl⟩
    (try simp only [Act.put]); (try simp only [List.setIfInBounds_toArray]); (try simp only [List.set])
    apply wpAnyN_takeL 8 (by kernel_rfl) rfl (fun _ _ _ h => h) (by kernel_rfl) hS0
    · intro w' hS'
      go_simp; exact ⟨rfl, rfl⟩
    (try simp only [Act.put]); (try simp only [List.setIfInBounds_toArray]); (try simp only [List.set])
    apply wpAnyN_takeL 9 (by kernel_rfl) rfl (fun _ _ _ h => h) (by kernel_rfl) hS0
    · intro w' hS'
      go_simp; exact ⟨rfl, rfl⟩
    (try simp only [Act.put]); (try simp only [List.setIfInBounds_toArray]); (try simp only [List.set])
    --WAYS
    refine wpAnyN_two 0 5 (by kernel_rfl) rfl (by kernel_rfl) rfl (by kernel_rfl) (fun K hK => ?_) (fun K hK => ?_)
    · skip
      go_simp
      obtain ⟨Y1, hY1⟩ : ∃ Y, Y = World.alloc X0 (.cells #[] 36) := ⟨_, rfl⟩
      rw [← hY1]
      have hbY1 : Below X.heap.size X Y1 := by rw [hY1]; exact hbX0.alloc hbX0.size _
      have hsY1 : (World.heap X0).size < Y1.heap.size := by rw [hY1]; simp
      have ownY1 : Y1.ownsRow X.heap.size 36 4 (.slice (some ⟨(World.heap X0).size, 0, none⟩) 0 0) 0 [] := own_empty (by rw [hY1]; exact heap_alloc_new _ _) hbX0.size
      clear hY1
      refine hK _ _ (fun _ => ⟨k1'.below hbY1 k1'.lt, hrow.below (hbY1.mono hBX)⟩) ?_
      clear hK K
      (try simp only [Act.put]); (try simp only [List.setIfInBounds_toArray]); (try simp only [List.set])
      refine wpAnyN_two 3 5 (by kernel_rfl) rfl (by kernel_rfl) rfl (by kernel_rfl) (fun K hK => ?_) (fun K hK => ?_)
      · skip
        refine wp_app _ segE rfl rfl ownY1 rfl (hrow.below (hbY1.mono hBX)) (segCells_one _) (by omega) hbY1.size ?_
        intro v2 Y2 ownY2 hg2 hbb2 hx2
        have hbY2 : Below X.heap.size X Y2 := hbY1.trans hbb2
        refine hK _ _ (fun _ => ⟨k1'.below hbY2 k1'.lt, hrow.below (hbY2.mono hBX)⟩) ?_
        clear hK K
        (try simp only [Act.put]); (try simp only [List.setIfInBounds_toArray]); (try simp only [List.set])
        refine wpAnyN_runL 5 (by kernel_rfl) rfl (by kernel_rfl) (fun K hK => ?_)
        go_simp
        obtain ⟨Y3, hY3⟩ : ∃ Y, Y = World.alloc Y2 (.cells #[.int .i64 77, .int .i64 0, .int .i64 0, .int .i64 0] 36) := ⟨_, rfl⟩
        rw [← hY3]
        have hbY3 : Below X.heap.size X Y3 := by rw [hY3]; exact hbY2.alloc hbY2.size _
        have hsY3 : (World.heap Y2).size < Y3.heap.size := by rw [hY3]; simp
        have ownY3 := own_below ownY2 (w' := Y3) (by rw [hY3]; exact (Below.refl _ _).alloc (Nat.le_refl _) _)
        have blkY3 : Blk Y3 (World.heap Y2).size 36 (segV seg77) := by rw [hY3]; exact Blk.new Y2 36 (segV seg77)
        clear hY3
        refine hK _ _ (fun _ => ⟨k1'.below hbY3 k1'.lt, hrow.below (hbY3.mono hBX)⟩) ?_
        clear hK K
        (try simp only [Act.put]); (try simp only [List.setIfInBounds_toArray]); (try simp only [List.set])
        refine wpAnyN_runL 6 (by kernel_rfl) rfl (by kernel_rfl) (fun K hK => ?_)
        refine wp_app _ segE rfl rfl ownY3 rfl (row_of_blk blkY3 rfl) (segV_one _) (by omega) hbY3.size ?_
        intro v4 Y4 ownY4 hg4 hbb4 hx4
        have hbY4 : Below X.heap.size X Y4 := hbY3.trans hbb4
        obtain ⟨g, cap, rfl, hcap, hcap2⟩ := own_slice1 ownY4 (by omega)
        have ownY4' : World.ownsRow Y4 X.heap.size 36 4 (.slice (some ⟨g, 0, none⟩) (m.segs.length + 1) cap) (m.segs.length + 1) (segCells m.segs ++ segV seg77) := by simpa using ownY4
        refine hK _ _ (fun _ => ⟨k1'.below hbY4 k1'.lt, hrow.below (hbY4.mono hBX)⟩) ?_
        clear hK K
        (try simp only [Act.put]); (try simp only [List.setIfInBounds_toArray]); (try simp only [List.set])
        have hS9 : S4 m A c w.heap.size B Y4 := ⟨k1'.below hbY4 k1'.lt, hrow.below (hbY4.mono hBX)⟩
        have k9 := k3.below hbY4 k3.lt
        have q1 := hS9.a
        have q2 := hb02.trans (hbY4.mono hb02.size)
        have q3 := ownY4'
        have hcap3 : m.segs.length ≤ cap := by omega
        refine wpAnyN_runL 10 (by kernel_rfl) rfl (by kernel_rfl) (fun K hK => ?_)
        go_simp
        refine hK _ _ (fun _ => hS9) ?_
        clear hK K
        (try simp only [Act.put]); (try simp only [List.setIfInBounds_toArray]); (try simp only [List.set])
        refine wpAnyN_runL 11 (by kernel_rfl) rfl (by kernel_rfl) (fun K hK => ?_)
        go_simp
        refine hK _ _ (fun _ => hS9) ?_
        clear hK K
        (try simp only [Act.put]); (try simp only [List.setIfInBounds_toArray]); (try simp only [List.set])
        have r4 : Y4.cell? ⟨g3, 4, none⟩ = some (.slice A m.segs.length c) := k9.cell 4
        have f4 := k9.frozen 4
        refine wpAnyN_runL 12 (by kernel_rfl) rfl (by kernel_rfl) (fun K hK => ?_)
        go_simp
        have hne13 : w.heap.size ≠ g3 := by omega
        have k10 := k9.set_ 4 (.slice (some ⟨g, 0, none⟩) m.segs.length cap)
        have q4 : Blk (Y4.setCell ⟨g3, 4, none⟩ (.slice (some ⟨g, 0, none⟩) m.segs.length cap)) w.heap.size 25 [.int .i64 m.wal, .int .i64 m.next, .int .u64 m.seq, .int .i64 m.mark, .slice A m.segs.length c] := q1.far (p := ⟨g3, 4, none⟩) hne13 _
        have q5 := ownsRow_setCell_below q3 (a := ⟨g3, 4, none⟩) (by show g3 < _; omega) (.slice (some ⟨g, 0, none⟩) m.segs.length cap)
        have q6 := q2.setCell (p := ⟨g3, 4, none⟩) (by show _ ≤ g3; omega) (.slice (some ⟨g, 0, none⟩) m.segs.length cap)
        refine hK _ _ (fun _ => ⟨q4, hS9.row.keep fun p hp => World.cell?_setCell_other _ _ _ _ (fun e => by subst e; revert hp; simp; omega)⟩) ?_
        clear hK K
        (try simp only [Act.put]); (try simp only [List.setIfInBounds_toArray]); (try simp only [List.set])
        refine wpAnyN_done (by kernel_rfl) ?_ _
        go_wp2_with fail
        go_meet
        case rel => exact ⟨g, cap, q4, k10, q5, q6⟩
      · skip
        go_simp
        obtain ⟨Y5, hY5⟩ : ∃ Y, Y = World.alloc Y1 (.cells #[.int .i64 77, .int .i64 0, .int .i64 0, .int .i64 0] 36) := ⟨_, rfl⟩
        rw [← hY5]
        have hbY5 : Below X.heap.size X Y5 := by rw [hY5]; exact hbY1.alloc hbY1.size _
        have hsY5 : (World.heap Y1).size < Y5.heap.size := by rw [hY5]; simp
        have ownY5 := own_below ownY1 (w' := Y5) (by rw [hY5]; exact (Below.refl _ _).alloc (Nat.le_refl _) _)
        have blkY5 : Blk Y5 (World.heap Y1).size 36 (segV seg77) := by rw [hY5]; exact Blk.new Y1 36 (segV seg77)
        clear hY5
        refine hK _ _ (fun _ => ⟨k1'.below hbY5 k1'.lt, hrow.below (hbY5.mono hBX)⟩) ?_
        clear hK K
        (try simp only [Act.put]); (try simp only [List.setIfInBounds_toArray]); (try simp only [List.set])
        refine wpAnyN_runL 3 (by kernel_rfl) rfl (by kernel_rfl) (fun K hK => ?_)
        refine wp_app _ segE rfl rfl ownY5 rfl (hrow.below (hbY5.mono hBX)) (segCells_one _) (by omega) hbY5.size ?_
        intro v6 Y6 ownY6 hg6 hbb6 hx6
        have hbY6 : Below X.heap.size X Y6 := hbY5.trans hbb6
        have blkY6 := blkY5.grown_slice hg6 (by omega)
        refine hK _ _ (fun _ => ⟨k1'.below hbY6 k1'.lt, hrow.below (hbY6.mono hBX)⟩) ?_
        clear hK K
        (try simp only [Act.put]); (try simp only [List.setIfInBounds_toArray]); (try simp only [List.set])
        refine wpAnyN_runL 6 (by kernel_rfl) rfl (by kernel_rfl) (fun K hK => ?_)
        refine wp_app _ segE rfl rfl ownY6 rfl (row_of_blk blkY6 rfl) (segV_one _) (by omega) hbY6.size ?_
        intro v7 Y7 ownY7 hg7 hbb7 hx7
        have hbY7 : Below X.heap.size X Y7 := hbY6.trans hbb7
        obtain ⟨g, cap, rfl, hcap, hcap2⟩ := own_slice1 ownY7 (by omega)
        have ownY7' : World.ownsRow Y7 X.heap.size 36 4 (.slice (some ⟨g, 0, none⟩) (m.segs.length + 1) cap) (m.segs.length + 1) (segCells m.segs ++ segV seg77) := by simpa using ownY7
        refine hK _ _ (fun _ => ⟨k1'.below hbY7 k1'.lt, hrow.below (hbY7.mono hBX)⟩) ?_
        clear hK K
        (try simp only [Act.put]); (try simp only [List.setIfInBounds_toArray]); (try simp only [List.set])
        have hS9 : S4 m A c w.heap.size B Y7 := ⟨k1'.below hbY7 k1'.lt, hrow.below (hbY7.mono hBX)⟩
        have k9 := k3.below hbY7 k3.lt
        have q1 := hS9.a
        have q2 := hb02.trans (hbY7.mono hb02.size)
        have q3 := ownY7'
        have hcap3 : m.segs.length ≤ cap := by omega
        refine wpAnyN_runL 10 (by kernel_rfl) rfl (by kernel_rfl) (fun K hK => ?_)
        go_simp
        refine hK _ _ (fun _ => hS9) ?_
        clear hK K
        (try simp only [Act.put]); (try simp only [List.setIfInBounds_toArray]); (try simp only [List.set])
        refine wpAnyN_runL 11 (by kernel_rfl) rfl (by kernel_rfl) (fun K hK => ?_)
        go_simp
        refine hK _ _ (fun _ => hS9) ?_
        clear hK K
        (try simp only [Act.put]); (try simp only [List.setIfInBounds_toArray]); (try simp only [List.set])
        have r4 : Y7.cell? ⟨g3, 4, none⟩ = some (.slice A m.segs.length c) := k9.cell 4
        have f4 := k9.frozen 4
        refine wpAnyN_runL 12 (by kernel_rfl) rfl (by kernel_rfl) (fun K hK => ?_)
        go_simp
        have hne13 : w.heap.size ≠ g3 := by omega
        have k10 := k9.set_ 4 (.slice (some ⟨g, 0, none⟩) m.segs.length cap)
        have q4 : Blk (Y7.setCell ⟨g3, 4, none⟩ (.slice (some ⟨g, 0, none⟩) m.segs.length cap)) w.heap.size 25 [.int .i64 m.wal, .int .i64 m.next, .int .u64 m.seq, .int .i64 m.mark, .slice A m.segs.length c] := q1.far (p := ⟨g3, 4, none⟩) hne13 _
        have q5 := ownsRow_setCell_below q3 (a := ⟨g3, 4, none⟩) (by show g3 < _; omega) (.slice (some ⟨g, 0, none⟩) m.segs.length cap)
        have q6 := q2.setCell (p := ⟨g3, 4, none⟩) (by show _ ≤ g3; omega) (.slice (some ⟨g, 0, none⟩) m.segs.length cap)
        refine hK _ _ (fun _ => ⟨q4, hS9.row.keep fun p hp => World.cell?_setCell_other _ _ _ _ (fun e => by subst e; revert hp; simp; omega)⟩) ?_
        clear hK K
        (try simp only [Act.put]); (try simp only [List.setIfInBounds_toArray]); (try simp only [List.set])
        refine wpAnyN_done (by kernel_rfl) ?_ _
        go_wp2_with fail
        go_meet
        case rel => exact ⟨g, cap, q4, k10, q5, q6⟩
    · skip
      go_simp
      obtain ⟨Y8, hY8⟩ : ∃ Y, Y = World.alloc X0 (.cells #[.int .i64 77, .int .i64 0, .int .i64 0, .int .i64 0] 36) := ⟨_, rfl⟩
      rw [← hY8]
      have hbY8 : Below X.heap.size X Y8 := by rw [hY8]; exact hbX0.alloc hbX0.size _
      have hsY8 : (World.heap X0).size < Y8.heap.size := by rw [hY8]; simp
      have blkY8 : Blk Y8 (World.heap X0).size 36 (segV seg77) := by rw [hY8]; exact Blk.new X0 36 (segV seg77)
      clear hY8
      refine hK _ _ (fun _ => ⟨k1'.below hbY8 k1'.lt, hrow.below (hbY8.mono hBX)⟩) ?_
      clear hK K
      (try simp only [Act.put]); (try simp only [List.setIfInBounds_toArray]); (try simp only [List.set])
      refine wpAnyN_runL 0 (by kernel_rfl) rfl (by kernel_rfl) (fun K hK => ?_)
      go_simp
      obtain ⟨Y9, hY9⟩ : ∃ Y, Y = World.alloc Y8 (.cells #[] 36) := ⟨_, rfl⟩
      rw [← hY9]
      have hbY9 : Below X.heap.size X Y9 := by rw [hY9]; exact hbY8.alloc hbY8.size _
      have hsY9 : (World.heap Y8).size < Y9.heap.size := by rw [hY9]; simp
      have ownY9 : Y9.ownsRow X.heap.size 36 4 (.slice (some ⟨(World.heap Y8).size, 0, none⟩) 0 0) 0 [] := own_empty (by rw [hY9]; exact heap_alloc_new _ _) hbY8.size
      have blkY9 := blkY8.below (w' := Y9) (by rw [hY9]; exact (Below.refl _ _).alloc (Nat.le_refl _) _) blkY8.lt
      clear hY9
      refine hK _ _ (fun _ => ⟨k1'.below hbY9 k1'.lt, hrow.below (hbY9.mono hBX)⟩) ?_
      clear hK K
      (try simp only [Act.put]); (try simp only [List.setIfInBounds_toArray]); (try simp only [List.set])
      refine wpAnyN_runL 3 (by kernel_rfl) rfl (by kernel_rfl) (fun K hK => ?_)
      refine wp_app _ segE rfl rfl ownY9 rfl (hrow.below (hbY9.mono hBX)) (segCells_one _) (by omega) hbY9.size ?_
      intro v10 Y10 ownY10 hg10 hbb10 hx10
      have hbY10 : Below X.heap.size X Y10 := hbY9.trans hbb10
      have blkY10 := blkY9.grown_slice hg10 (by omega)
      refine hK _ _ (fun _ => ⟨k1'.below hbY10 k1'.lt, hrow.below (hbY10.mono hBX)⟩) ?_
      clear hK K
      (try simp only [Act.put]); (try simp only [List.setIfInBounds_toArray]); (try simp only [List.set])
      refine wpAnyN_runL 6 (by kernel_rfl) rfl (by kernel_rfl) (fun K hK => ?_)
      refine wp_app _ segE rfl rfl ownY10 rfl (row_of_blk blkY10 rfl) (segV_one _) (by omega) hbY10.size ?_
      intro v11 Y11 ownY11 hg11 hbb11 hx11
      have hbY11 : Below X.heap.size X Y11 := hbY10.trans hbb11
      obtain ⟨g, cap, rfl, hcap, hcap2⟩ := own_slice1 ownY11 (by omega)
      have ownY11' : World.ownsRow Y11 X.heap.size 36 4 (.slice (some ⟨g, 0, none⟩) (m.segs.length + 1) cap) (m.segs.length + 1) (segCells m.segs ++ segV seg77) := by simpa using ownY11
      refine hK _ _ (fun _ => ⟨k1'.below hbY11 k1'.lt, hrow.below (hbY11.mono hBX)⟩) ?_
      clear hK K
      (try simp only [Act.put]); (try simp only [List.setIfInBounds_toArray]); (try simp only [List.set])
      have hS9 : S4 m A c w.heap.size B Y11 := ⟨k1'.below hbY11 k1'.lt, hrow.below (hbY11.mono hBX)⟩
      have k9 := k3.below hbY11 k3.lt
      have q1 := hS9.a
      have q2 := hb02.trans (hbY11.mono hb02.size)
      have q3 := ownY11'
      have hcap3 : m.segs.length ≤ cap := by omega
      refine wpAnyN_runL 10 (by kernel_rfl) rfl (by kernel_rfl) (fun K hK => ?_)
      go_simp
      refine hK _ _ (fun _ => hS9) ?_
      clear hK K
      (try simp only [Act.put]); (try simp only [List.setIfInBounds_toArray]); (try simp only [List.set])
      refine wpAnyN_runL 11 (by kernel_rfl) rfl (by kernel_rfl) (fun K hK => ?_)
      go_simp
      refine hK _ _ (fun _ => hS9) ?_
      clear hK K
      (try simp only [Act.put]); (try simp only [List.setIfInBounds_toArray]); (try simp only [List.set])
      have r4 : Y11.cell? ⟨g3, 4, none⟩ = some (.slice A m.segs.length c) := k9.cell 4
      have f4 := k9.frozen 4
      refine wpAnyN_runL 12 (by kernel_rfl) rfl (by kernel_rfl) (fun K hK => ?_)
      go_simp
      have hne13 : w.heap.size ≠ g3 := by omega
      have k10 := k9.set_ 4 (.slice (some ⟨g, 0, none⟩) m.segs.length cap)
      have q4 : Blk (Y11.setCell ⟨g3, 4, none⟩ (.slice (some ⟨g, 0, none⟩) m.segs.length cap)) w.heap.size 25 [.int .i64 m.wal, .int .i64 m.next, .int .u64 m.seq, .int .i64 m.mark, .slice A m.segs.length c] := q1.far (p := ⟨g3, 4, none⟩) hne13 _
      have q5 := ownsRow_setCell_below q3 (a := ⟨g3, 4, none⟩) (by show g3 < _; omega) (.slice (some ⟨g, 0, none⟩) m.segs.length cap)
      have q6 := q2.setCell (p := ⟨g3, 4, none⟩) (by show _ ≤ g3; omega) (.slice (some ⟨g, 0, none⟩) m.segs.length cap)
      refine hK _ _ (fun _ => ⟨q4, hS9.row.keep fun p hp => World.cell?_setCell_other _ _ _ _ (fun e => by subst e; revert hp; simp; omega)⟩) ?_
      clear hK K
      (try simp only [Act.put]); (try simp only [List.setIfInBounds_toArray]); (try simp only [List.set])
      refine wpAnyN_done (by kernel_rfl) ?_ _
      go_wp2_with fail
      go_meet
      case rel => exact ⟨g, cap, q4, k10, q5, q6⟩
  case rest =>
    obtain ⟨g, cap, k1, q3, own3, hb03⟩ := hcut
    clear k1' hb02 k3
    have hown3lt := own3.lt g rfl
    obtain ⟨B3, hB3⟩ : ∃ B3, B3 = X.heap.size := ⟨_, rfl⟩
    rw [← hB3] at own3 s3 hown3lt
    clear hB3
    have p0 : wc.cell? ⟨g3, 0, none⟩ = some (.int .i64 m.wal) := q3.cell 0
    have p1 : wc.cell? ⟨g3, 1, none⟩ = some (.int .i64 m.next) := q3.cell 1
    have p2 : wc.cell? ⟨g3, 2, none⟩ = some (.int .u64 m.seq) := q3.cell 2
    have p3 : wc.cell? ⟨g3, 3, none⟩ = some (.int .i64 m.mark) := q3.cell 3
    have p4 : wc.cell? ⟨g3, 4, none⟩ = some (.slice (some ⟨g, 0, none⟩) m.segs.length cap) := q3.cell 4
    go_wp2_with fail
    refine (vWrite m (some ⟨g, 0, none⟩) cap wc.heap.size wc (own_prefix own3 rfl) (Nat.le_refl _) Hw.out (by omega)).mono ?_
    rintro e w2 hpost
    obtain ⟨A5, c5, rfl, hc5, own5', hb2⟩ := WritePost.o hpost
    have own5 := own_mono own5' hb03.size
    clear own5'
    clear hpost p0 p1 p2 p3 p4
    have k1' := k1.below hb2 k1.lt
    have q3' := q3.below hb2 q3.lt
    have own3' := own_below own3 hb2
    have hb04 := hb03.trans (hb2.mono hb03.size)
    have s4 : wc.heap.size ≤ w2.heap.size := hb2.size
    have t1 := k1.lt; have t3 := q3.lt
    clear k1 q3 own3 hb03 hb2
    have hwl := wr_len m
    obtain ⟨x, hx⟩ : ∃ x, x = wrBytes m := ⟨_, rfl⟩
    obtain ⟨xe, hxe⟩ : ∃ k, k = wrErr m := ⟨_, rfl⟩
    rw [← hx] at hc5 own5 hwl
    simp only [← hx, ← hxe]
    have Hx := Lib.hid hx; have Hxe := Lib.hid hxe
    clear hx hxe
    go_upto_region 6 with fail
    go_cut [51] (fun s51 wx => s51 = .bool false ∧ But [] w2 wx)
    case first =>
      have hS0 : S6 m A c w.heap.size g3 g cap B3 w2.drew := ⟨k1', q3', own_below own3' (Below.refl _ _).drew⟩
      have y0 : ∀ w' : World, S6 m A c w.heap.size g3 g cap B3 w' → w'.cell? ⟨w.heap.size, 0, none⟩ = some (.int .i64 m.wal) := fun w' h => h.a.cell 0
      have y1 : ∀ w' : World, S6 m A c w.heap.size g3 g cap B3 w' → w'.cell? ⟨w.heap.size, 1, none⟩ = some (.int .i64 m.next) := fun w' h => h.a.cell 1
      have y2 : ∀ w' : World, S6 m A c w.heap.size g3 g cap B3 w' → w'.cell? ⟨w.heap.size, 2, none⟩ = some (.int .u64 m.seq) := fun w' h => h.a.cell 2
      have y3 : ∀ w' : World, S6 m A c w.heap.size g3 g cap B3 w' → w'.cell? ⟨w.heap.size, 3, none⟩ = some (.int .i64 m.mark) := fun w' h => h.a.cell 3
      have y4 : ∀ w' : World, S6 m A c w.heap.size g3 g cap B3 w' → w'.cell? ⟨w.heap.size, 4, none⟩ = some (.slice A m.segs.length c) := fun w' h => h.a.cell 4
      have z0 : ∀ w' : World, S6 m A c w.heap.size g3 g cap B3 w' → w'.cell? ⟨g3, 0, none⟩ = some (.int .i64 m.wal) := fun w' h => h.b.cell 0
      have z1 : ∀ w' : World, S6 m A c w.heap.size g3 g cap B3 w' → w'.cell? ⟨g3, 1, none⟩ = some (.int .i64 m.next) := fun w' h => h.b.cell 1
      have z2 : ∀ w' : World, S6 m A c w.heap.size g3 g cap B3 w' → w'.cell? ⟨g3, 2, none⟩ = some (.int .u64 m.seq) := fun w' h => h.b.cell 2
      have z3 : ∀ w' : World, S6 m A c w.heap.size g3 g cap B3 w' → w'.cell? ⟨g3, 3, none⟩ = some (.int .i64 m.mark) := fun w' h => h.b.cell 3
      have z4 : ∀ w' : World, S6 m A c w.heap.size g3 g cap B3 w' → w'.cell? ⟨g3, 4, none⟩ = some (.slice (some ⟨g, 0, none⟩) m.segs.length cap) := fun w' h => h.b.cell 4
      have z77 : ∀ w' : World, S6 m A c w.heap.size g3 g cap B3 w' → w'.cell? ⟨g, m.segs.length * 4, none⟩ = some (.int .i64 77) := fun w' h => own_last h.row rfl
      refine wp_region_N (S6 m A c w.heap.size g3 g cap B3) 100 (by kernel_rfl) ?_
      apply wpAnyN_takeL 0 (by kernel_rfl) rfl (fun _ _ _ h => h) (by kernel_rfl) hS0
      · intro w' hS'
        go_simp; exact ⟨rfl, rfl⟩
      (try simp only [Act.put]); (try simp only [List.setIfInBounds_toArray]); (try simp only [List.set])
      apply wpAnyN_takeL 1 (by kernel_rfl) rfl (fun _ _ _ h => h) (by kernel_rfl) hS0
      · intro w' hS'
        go_simp; exact ⟨rfl, rfl⟩
      (try simp only [Act.put]); (try simp only [List.setIfInBounds_toArray]); (try simp only [List.set])
      refine wpAnyN_runL 2 (by kernel_rfl) rfl (by kernel_rfl) (fun K hK => ?_)
      go_simp
      refine (rSame m (some ⟨g, 0, none⟩) A cap c w2.heap.size w2.drew (own_prefix own3' rfl).drew ((hr.below (hb04.mono hB)).more (Nat.le_trans hB hb04.size)) (Nat.le_refl _) (by omega)).mono ?_
      rintro e w3 ⟨rfl, hb3⟩
      simp only [World.size_drew] at hb3
      have hb3' : Below w2.heap.size w2 w3 := (Below.refl _ _).drew.trans hb3
      have hS1 : S6 m A c w.heap.size g3 g cap B3 w3 := ⟨k1'.below hb3' k1'.lt, q3'.below hb3' q3'.lt, own_below own3' hb3'⟩
      refine hK _ _ (fun _ => hS1) ?_
      clear hK K
      (try simp only [Act.put]); (try simp only [List.setIfInBounds_toArray]); (try simp only [List.set])
      have wq1 : IntKind.i64.wrap ((m.segs.length : Int) + 1) = (m.segs.length : Int) + 1 := IntWalk.i64_in _ ⟨by omega, by omega⟩
      have wq2 : (0 : Int) ≤ (m.segs.length : Int) + 1 := by omega
      have wq3 : ((m.segs.length : Int) + 1).toNat = m.segs.length + 1 := by omega
      have wq4 : (m.segs.length : Int) + 1 ≤ (cap : Int) := by have := (own_at own3' (by omega)); obtain ⟨_, _, _, _, h, _⟩ := this; omega
      have wq5 : (m.segs.length : Int) < (m.segs.length : Int) + 1 := by omega
      apply wpAnyN_takeL 3 (by kernel_rfl) rfl (fun _ _ _ h => h) (by kernel_rfl) hS1
      · intro w' hS'
        go_simp; exact ⟨rfl, rfl⟩
      (try simp only [Act.put]); (try simp only [List.setIfInBounds_toArray]); (try simp only [List.set])
      apply wpAnyN_takeL 4 (by kernel_rfl) rfl (fun _ _ _ h => h) (by kernel_rfl) hS1
      · intro w' hS'
        go_simp; exact ⟨rfl, rfl⟩
      (try simp only [Act.put]); (try simp only [List.setIfInBounds_toArray]); (try simp only [List.set])
      apply wpAnyN_takeL 5 (by kernel_rfl) rfl (fun _ _ _ h => h) (by kernel_rfl) hS1
      · intro w' hS'
        go_simp; exact ⟨rfl, rfl⟩
      (try simp only [Act.put]); (try simp only [List.setIfInBounds_toArray]); (try simp only [List.set])
      apply wpAnyN_takeL 6 (by kernel_rfl) rfl (fun _ _ _ h => h) (by kernel_rfl) hS1
      · intro w' hS'
        go_simp; exact ⟨rfl, rfl⟩
      (try simp only [Act.put]); (try simp only [List.setIfInBounds_toArray]); (try simp only [List.set])
      apply wpAnyN_takeL 7 (by kernel_rfl) rfl (fun _ _ _ h => h) (by kernel_rfl) hS1
      · intro w' hS'
        go_simp; exact ⟨rfl, rfl⟩
      (try simp only [Act.put]); (try simp only [List.setIfInBounds_toArray]); (try simp only [List.set])
      apply wpAnyN_takeL 8 (by kernel_rfl) rfl (fun _ _ _ h => h) (by kernel_rfl) hS1
      · intro w' hS'
        go_simp; exact ⟨rfl, rfl⟩
      (try simp only [Act.put]); (try simp only [List.setIfInBounds_toArray]); (try simp only [List.set])
      apply wpAnyN_takeL 9 (by kernel_rfl) rfl (fun _ _ _ h => h) (by kernel_rfl) hS1
      · intro w' hS'
        go_simp; exact ⟨rfl, rfl⟩
      (try simp only [Act.put]); (try simp only [List.setIfInBounds_toArray]); (try simp only [List.set])
      apply wpAnyN_takeL 10 (by kernel_rfl) rfl (fun _ _ _ h => h) (by kernel_rfl) hS1
      · intro w' hS'
        go_simp; exact ⟨rfl, rfl⟩
      (try simp only [Act.put]); (try simp only [List.setIfInBounds_toArray]); (try simp only [List.set])
      apply wpAnyN_takeL 11 (by kernel_rfl) rfl (fun _ _ _ h => h) (by kernel_rfl) hS1
      · intro w' hS'
        go_simp; exact ⟨rfl, rfl⟩
      (try simp only [Act.put]); (try simp only [List.setIfInBounds_toArray]); (try simp only [List.set])
      apply wpAnyN_takeL 12 (by kernel_rfl) rfl (fun _ _ _ h => h) (by kernel_rfl) hS1
      · intro w' hS'
        go_simp; exact ⟨rfl, rfl⟩
      (try simp only [Act.put]); (try simp only [List.setIfInBounds_toArray]); (try simp only [List.set])
      apply wpAnyN_takeL 13 (by kernel_rfl) rfl (fun _ _ _ h => h) (by kernel_rfl) hS1
      · intro w' hS'
        go_simp; exact ⟨rfl, rfl⟩
      (try simp only [Act.put]); (try simp only [List.setIfInBounds_toArray]); (try simp only [List.set])
      apply wpAnyN_takeL 14 (by kernel_rfl) rfl (fun _ _ _ h => h) (by kernel_rfl) hS1
      · intro w' hS'
        go_simp; exact ⟨rfl, rfl⟩
      (try simp only [Act.put]); (try simp only [List.setIfInBounds_toArray]); (try simp only [List.set])
      apply wpAnyN_takeL 15 (by kernel_rfl) rfl (fun _ _ _ h => h) (by kernel_rfl) hS1
      · intro w' hS'
        go_simp; exact ⟨rfl, rfl⟩
      (try simp only [Act.put]); (try simp only [List.setIfInBounds_toArray]); (try simp only [List.set])
      apply wpAnyN_takeL 16 (by kernel_rfl) rfl (fun _ _ _ h => h) (by kernel_rfl) hS1
      · intro w' hS'
        go_simp; exact ⟨rfl, rfl⟩
      (try simp only [Act.put]); (try simp only [List.setIfInBounds_toArray]); (try simp only [List.set])
      apply wpAnyN_takeL 17 (by kernel_rfl) rfl (fun _ _ _ h => h) (by kernel_rfl) hS1
      · intro w' hS'
        go_simp; exact ⟨rfl, rfl⟩
      (try simp only [Act.put]); (try simp only [List.setIfInBounds_toArray]); (try simp only [List.set])
      apply wpAnyN_takeL 18 (by kernel_rfl) rfl (fun _ _ _ h => h) (by kernel_rfl) hS1
      · intro w' hS'
        go_simp; exact ⟨rfl, rfl⟩
      (try simp only [Act.put]); (try simp only [List.setIfInBounds_toArray]); (try simp only [List.set])
      apply wpAnyN_takeL 19 (by kernel_rfl) rfl (fun _ _ _ h => h) (by kernel_rfl) hS1
      · intro w' hS'
        go_simp; exact ⟨rfl, rfl⟩
      (try simp only [Act.put]); (try simp only [List.setIfInBounds_toArray]); (try simp only [List.set])
      refine wpAnyN_done (by kernel_rfl) ?_ _
      go_wp2_with fail
      go_meet
      case rel => exact ⟨rfl, But.of_below hb3'⟩
    case rest =>
      obtain ⟨rfl, hbut⟩ := hcut
      have hbx := hbut.below (Nat.le_refl _) (by simp)
      have k1 := k1'.below hbx k1'.lt
      have own5' := own_below own5 hbx
      have hb05 := hb04.trans (hbx.mono hb04.size)
      have s5 : w2.heap.size ≤ wc.heap.size := hbx.size
      clear k1' q3' own3' own5 hb04 hbut hbx
      by_cases h0 : xe = 0
      · subst h0
        have hwo := wr_ok (m := m) Hxe.out.symm
        rw [← Hx.out] at hwo
        have hrd := (mread_mwrite Hw.out hwo).1
        have hrm : rdMan x = m := by unfold rdMan; rw [hrd]; rfl
        have hre : rdErr x = 0 := by unfold rdErr; rw [hrd]; rfl
        have Hrm := Lib.hid hrm; have Hre := Lib.hid hre
        clear hwo hrd hrm hre
        obtain ⟨_, _, e5, _, hrow5⟩ := OwnB.shapeC own5'
        simp only [Value.slice.injEq, true_and] at e5
        obtain ⟨rfl, rfl⟩ := e5
        go_wp2_with fail
        refine (vMread x A5 c5 wc.heap.size wc hrow5 (Nat.le_refl _) hc5 (by omega)).mono ?_
        rintro e w6 hpost
        obtain ⟨A6, c6, rfl, own6', _, hb6⟩ := MreadPost.u hpost
        have own6 := own_mono own6' hb05.size
        clear hpost own6'
        rw [Hrm.out] at own6
        rw [Hrm.out, Hre.out]
        have k6 := k1.below hb6 k1.lt
        have own5 := own_below own5' hb6
        have hb06 := hb05.trans (hb6.mono hb05.size)
        have s6 : wc.heap.size ≤ w6.heap.size := hb6.size
        have t1' := k1.lt
        clear k1 hb05 hb6 own5'
        go_wp2_with fail
        obtain ⟨X6, hX6⟩ : ∃ X, X = w6.alloc (manBox m A6 c6) := ⟨_, rfl⟩
        change Calls _ _ _ (w6.alloc (manBox m A6 c6)) _
        rw [← hX6]
        have hbX : Below w6.heap.size w6 X6 := by rw [hX6]; exact (Below.refl _ _).alloc (Nat.le_refl _) _
        have kx : Blk X6 w6.heap.size 25 [.int .i64 m.wal, .int .i64 m.next, .int .u64 m.seq, .int .i64 m.mark, .slice A6 m.segs.length c6] := by rw [hX6]; exact Blk.new _ _ _
        clear hX6
        have k7 := k6.below hbX k6.lt
        have own5' := own_below own5 hbX
        have own6' := own_below own6 hbX
        have hb07 := hb06.trans (hbX.mono hb06.size)
        have s7 : w6.heap.size < X6.heap.size := kx.lt
        have l6 := own6.lt
        have l5 := own5.lt
        clear k6 own5 own6 hb06 hbX hrow5
        refine (vMread x A5 c5 X6.heap.size X6 (Row.of_own own5') (Nat.le_refl _) hc5 (by omega)).mono ?_
        rintro e w7 hpost
        obtain ⟨A7, c7, rfl, own7, _, hb8⟩ := MreadPost.u hpost
        clear hpost
        rw [Hrm.out] at own7
        rw [Hrm.out, Hre.out]
        have k8 := k7.below hb8 k7.lt
        have kx8 := kx.below hb8 kx.lt
        have own58 := own_below own5' hb8
        have own68 := own_below own6' hb8
        have hb08 := hb07.trans (hb8.mono hb07.size)
        have s8 : X6.heap.size ≤ w7.heap.size := hb8.size
        clear k7 kx hb07 own5' own6' hb8
        go_wp2_with fail
        obtain ⟨X7, hX7⟩ : ∃ X, X = w7.alloc (manBox m A7 c7) := ⟨_, rfl⟩
        change Code.wp _ _ _ _ (w7.alloc (manBox m A7 c7))
        rw [← hX7]
        have hbX : Below w7.heap.size w7 X7 := by rw [hX7]; exact (Below.refl _ _).alloc (Nat.le_refl _) _
        have ky : Blk X7 w7.heap.size 25 [.int .i64 m.wal, .int .i64 m.next, .int .u64 m.seq, .int .i64 m.mark, .slice A7 m.segs.length c7] := by rw [hX7]; exact Blk.new _ _ _
        clear hX7
        have k9 := k8.below hbX k8.lt
        have kx9 := kx8.below hbX kx8.lt
        have own5 := own_below own58 hbX
        have own6 := own_below own68 hbX
        have own7' := own_below own7 hbX
        have l7 := own7.lt
        have hb09 := hb08.trans (hbX.mono hb08.size)
        have s9 : w7.heap.size < X7.heap.size := ky.lt
        clear k8 kx8 own58 own68 own7 hb08 hbX
        clear t1 t3 t1' s4 s5 s1 s3 hown3lt
        go_loopw [9] (fun i wr => ∃ (k : Nat) (xs : List Value), k ≤ x.length ∧ i = .int .i64 k ∧ wr.ownsRow w.heap.size 5 1 (.slice A5 x.length c5) x.length xs ∧ But (Value.slice A5 x.length c5).ownBlock.toList X7 wr) (fun i _ => x.length - (intOf i).toNat)
        case atStart => exact ⟨0, _, by omega, rfl, own5, But.refl _ _⟩
        case round =>
          obtain ⟨k, xs, hk, rfl, ownk, hbut⟩ := hrel
          obtain ⟨wo, rfl⟩ : ∃ wo : World, wo = wr := ⟨_, rfl⟩
          by_cases hlt : (k : Int) < x.length
          · obtain ⟨gb, rfl, hgb1, hgb2, hcc, hcm, hcell⟩ := own_at ownk (by omega)
            have hlk : k < xs.length := by have := ownk.1; omega
            have ck : wo.cell? ⟨gb, k, none⟩ = some xs[k] := by rw [hcell k (by omega), List.getElem?_eq_getElem hlk]
            have fk := ownk.frozenAt k
            have hst := ownk.stored k (.int .u8 238)
            have hb2 : But (Value.slice (some ⟨gb, 0, none⟩) x.length c5).ownBlock.toList X7 (wo.setCell ⟨gb, k, none⟩ (.int .u8 238)) := hbut.setCell (by simp [Value.ownBlock]) _
            have hst1 := hst.1
            clear hst hcell
            go_wp2
            go_roundw
            case rel => exact ⟨k + 1, _, by omega, by go_num, hst1, hb2⟩
            case measure => simp [intOf]; omega
          · have hge := own_ge ownk
            have hb10 : Below w.heap.size w wo := hb09.trans (hbut.below hb09.size fun q hq => (hge q hq).1)
            have k10 := k9.but hbut (own_blk own5 k9 (by decide))
            have kx10 := kx9.but hbut (own_blk own5 kx9 (by decide))
            have ky10 := ky.but hbut (own_blk own5 ky (by decide))
            have own610 := own_but own6 hbut (own_own own5 own6 (by decide))
            have own710 := own_but own7' hbut (own_own own5 own7' (by decide))
            clear k9 kx9 ky own6 own7' own5 ownk hge hbut hb09
            have g4 : wo.cell? ⟨w6.heap.size, 4, none⟩ = some (.slice A6 m.segs.length c6) := kx10.cell 4
            go_wp2_with fail
            go_loopw [10] (fun i wr => ∃ (k : Nat) (xs : List Value), k ≤ m.segs.length ∧ i = .int .i64 k ∧ wr.ownsRow w.heap.size 36 4 (.slice A6 m.segs.length c6) m.segs.length xs ∧ But (Value.slice A6 m.segs.length c6).ownBlock.toList wo wr) (fun i _ => m.segs.length - (intOf i).toNat)
            case atStart => exact ⟨0, _, by omega, rfl, own610, But.refl _ _⟩
            case round =>
              clear g4
              obtain ⟨k, xs, hk, rfl, ownk, hbut⟩ := hrel
              obtain ⟨wp, rfl⟩ : ∃ wp : World, wp = wr := ⟨_, rfl⟩
              have kx11 := kx10.but hbut (own_blk own610 kx10 (by decide))
              have g4 : wp.cell? ⟨w6.heap.size, 4, none⟩ = some (.slice A6 m.segs.length c6) := kx11.cell 4
              by_cases hlt : (k : Int) < m.segs.length
              · obtain ⟨gb, rfl, hgb1, hgb2, hcc, hcm, hcell⟩ := own_at ownk (by omega)
                have hlk : xs.length = m.segs.length * 4 := ownk.1
                have ck0 : wp.cell? ⟨gb, k * 4, none⟩ = some (xs[k * 4]'(by omega)) := by rw [hcell (k * 4) (by omega), List.getElem?_eq_getElem (by omega)]
                have ck1 : wp.cell? ⟨gb, k * 4 + 1, none⟩ = some (xs[k * 4 + 1]'(by omega)) := by rw [hcell (k * 4 + 1) (by omega), List.getElem?_eq_getElem (by omega)]
                have ck2 : wp.cell? ⟨gb, k * 4 + 2, none⟩ = some (xs[k * 4 + 2]'(by omega)) := by rw [hcell (k * 4 + 2) (by omega), List.getElem?_eq_getElem (by omega)]
                have ck3 : wp.cell? ⟨gb, k * 4 + 3, none⟩ = some (xs[k * 4 + 3]'(by omega)) := by rw [hcell (k * 4 + 3) (by omega), List.getElem?_eq_getElem (by omega)]
                have fk0 := ownk.frozenAt (k * 4); have fk1 := ownk.frozenAt (k * 4 + 1); have fk2 := ownk.frozenAt (k * 4 + 2); have fk3 := ownk.frozenAt (k * 4 + 3)
                have st0 := (ownk.stored (k * 4) (.int .i64 (-1))).1
                have st1 := (st0.stored (k * 4 + 1) (.int .i64 0)).1
                have st2 := (st1.stored (k * 4 + 2) (.int .i64 0)).1
                have st3 := (st2.stored (k * 4 + 3) (.int .i64 0)).1
                have hm : gb ∈ (Value.slice (some ⟨gb, 0, none⟩) m.segs.length c6).ownBlock.toList := by simp [Value.ownBlock]
                have hb2 := (((hbut.setCell (p := ⟨gb, k * 4, none⟩) hm (.int .i64 (-1))).setCell (p := ⟨gb, k * 4 + 1, none⟩) hm (.int .i64 0)).setCell (p := ⟨gb, k * 4 + 2, none⟩) hm (.int .i64 0)).setCell (p := ⟨gb, k * 4 + 3, none⟩) hm (.int .i64 0)
                clear hcell st0 st1 st2 hm
                go_wp2
                go_roundw
                case rel => exact ⟨k + 1, _, by omega, by go_num, st3, hb2⟩
                case measure => simp [intOf]; omega
              · have hge := own_ge ownk
                have hb11 : Below w.heap.size w wp := hb10.trans (hbut.below hb10.size fun q hq => (hge q hq).1)
                have k11 := k10.but hbut (own_blk own610 k10 (by decide))
                have ky11 := ky10.but hbut (own_blk own610 ky10 (by decide))
                have own711 := own_but own710 hbut (fun q hq hm => by have := l7 q hq; have := l6 q (by simpa using hm); omega)
                have kx11' := kx11
                clear k10 kx10 ky10 own610 own710 hge hbut hb10 kx11
                go_upto_region 21 with (at_builtin; refine wpList_app _ rfl segE rfl rfl (ownk.alloc (.cells ([.int .i64 0, .int .i64 0, .int .i64 0, .int .i64 0, .int .i64 0, .int .i64 0, .int .i64 0, .int .i64 0] : List Value).toArray 36)) rfl (row_newN wp 36 4 2 [.int .i64 0, .int .i64 0, .int .i64 0, .int .i64 0, .int .i64 0, .int .i64 0, .int .i64 0, .int .i64 0] rfl) (by decide) (by omega) (by have := hb11.size; simp; omega) ?_; intro v12 w12 own12 hg12 hbb12 _; obtain ⟨A12, c12, rfl, _⟩ := own_form own12)
                have hbt : But (Value.slice A6 m.segs.length c6).ownBlock.toList (wp.alloc (.cells ([.int .i64 0, .int .i64 0, .int .i64 0, .int .i64 0, .int .i64 0, .int .i64 0, .int .i64 0, .int .i64 0] : List Value).toArray 36)) w12 := But.grown (row := (Value.slice A6 m.segs.length c6).ownBlock) hg12 (fun q hq => by rw [hq]; simp)
                have k12 := (k11.alloc (.cells ([.int .i64 0, .int .i64 0, .int .i64 0, .int .i64 0, .int .i64 0, .int .i64 0, .int .i64 0, .int .i64 0] : List Value).toArray 36)).but hbt (own_blk (ownk.alloc (.cells ([.int .i64 0, .int .i64 0, .int .i64 0, .int .i64 0, .int .i64 0, .int .i64 0, .int .i64 0, .int .i64 0] : List Value).toArray 36)) (k11.alloc (.cells ([.int .i64 0, .int .i64 0, .int .i64 0, .int .i64 0, .int .i64 0, .int .i64 0, .int .i64 0, .int .i64 0] : List Value).toArray 36)) (by decide))
                have ky12 := (ky11.alloc (.cells ([.int .i64 0, .int .i64 0, .int .i64 0, .int .i64 0, .int .i64 0, .int .i64 0, .int .i64 0, .int .i64 0] : List Value).toArray 36)).but hbt (own_blk (ownk.alloc (.cells ([.int .i64 0, .int .i64 0, .int .i64 0, .int .i64 0, .int .i64 0, .int .i64 0, .int .i64 0, .int .i64 0] : List Value).toArray 36)) (ky11.alloc (.cells ([.int .i64 0, .int .i64 0, .int .i64 0, .int .i64 0, .int .i64 0, .int .i64 0, .int .i64 0, .int .i64 0] : List Value).toArray 36)) (by decide))
                have own712 := own_but (own711.alloc (.cells ([.int .i64 0, .int .i64 0, .int .i64 0, .int .i64 0, .int .i64 0, .int .i64 0, .int .i64 0, .int .i64 0] : List Value).toArray 36)) hbt (fun q hq hm => by
                  have h1 := l7 q hq
                  have h2 := l6 q (by simpa using hm)
                  omega)
                have p0 : w12.cell? ⟨w.heap.size, 0, none⟩ = some (.int .i64 m.wal) := k12.cell 0
                have p1 : w12.cell? ⟨w.heap.size, 1, none⟩ = some (.int .i64 m.next) := k12.cell 1
                have p2 : w12.cell? ⟨w.heap.size, 2, none⟩ = some (.int .u64 m.seq) := k12.cell 2
                have p3 : w12.cell? ⟨w.heap.size, 3, none⟩ = some (.int .i64 m.mark) := k12.cell 3
                have p4 : w12.cell? ⟨w.heap.size, 4, none⟩ = some (.slice A m.segs.length c) := k12.cell 4
                have y0 : w12.cell? ⟨w7.heap.size, 0, none⟩ = some (.int .i64 m.wal) := ky12.cell 0
                have y1 : w12.cell? ⟨w7.heap.size, 1, none⟩ = some (.int .i64 m.next) := ky12.cell 1
                have y2 : w12.cell? ⟨w7.heap.size, 2, none⟩ = some (.int .u64 m.seq) := ky12.cell 2
                have y3 : w12.cell? ⟨w7.heap.size, 3, none⟩ = some (.int .i64 m.mark) := ky12.cell 3
                have y4 : w12.cell? ⟨w7.heap.size, 4, none⟩ = some (.slice A7 m.segs.length c7) := ky12.cell 4
                have wq2 : IntKind.i64.wrap ((m.segs.length : Int) + 2) = (m.segs.length : Int) + 2 := IntWalk.i64_in _ ⟨by omega, by omega⟩
                have hb12 := (hb11.alloc hb11.size (.cells ([.int .i64 0, .int .i64 0, .int .i64 0, .int .i64 0, .int .i64 0, .int .i64 0, .int .i64 0, .int .i64 0] : List Value).toArray 36)).trans hbb12
                clear kx11' ky11 own711 own12 hg12 hbb12 hbt
                go_wp2_with fail
                refine (rSame m A7 A c7 c w12.heap.size w12 (Row.of_own own712) ((hr.below (hb12.mono hB)).more (Nat.le_trans hB hb12.size)) (Nat.le_refl _) (by omega)).mono ?_
                rintro e w13 ⟨rfl, hb13⟩
                have hb14 := hb12.trans (hb13.mono hb12.size)
                clear hb12 hb13 p0 p1 p2 p3 p4 y0 y1 y2 y3 y4
                go_wp2
                go_ret
                exact ⟨rfl, hb14⟩
      · have hne0 := neq_nat' xe h0
        obtain rfl : x = [] := by rw [Hx.out]; exact wrErr_pos (by rw [← Hxe.out]; exact h0)
        go_wp2
        go_ret
        exact ⟨rfl, hb05⟩
end Go.Proofs.Ytmddgimadlmacaa
