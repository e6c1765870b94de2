import Derived.Test.YtmddgimadlmacaaRight0
/-! garnerlaw05.right: Sync, Rename, Delete (printed by gen_right.py) -/
namespace Go.Proofs.Ytmddgimadlmacaa
open Go.RowKit Garner

set_option maxRecDepth 100000 in
set_option maxHeartbeats 4000000 in
theorem right_2 (v u : Value) (o : OpD) (r : Nat) (bs : List Nat) (w : World) (M F : World → Prop) (hk : o.kind = 2) (hbs : ∀ k ∈ bs, k < w.heap.size)
    (hM : ∀ X, Below w.heap.size w X → Calls Try.prog 20 #[v, .string (nmS o.a)] X fun e w1 => e = .returned (.int .i64 r) ∧ But bs X w1 ∧ M w1)
    (hR : ∀ w1, M w1 → Calls Try.prog 68 #[u, .string (nmS o.a)] w1 fun e w2 => e = .returned (.int .i64 r) ∧ But bs w1 w2 ∧ F w2) :
    Calls Try.prog 32 #[v, u, .agg (opCells o).toArray] w fun e w' => e = .returned (.bool true) ∧ F w' ∧ But bs w w' := by
  obtain ⟨kind, on, n, a, b, A, c, data, Ak, ck, keep⟩ := o
  simp only at hk hM hR
  subst hk
  have HM := Lib.hid hM
  have HR := Lib.hid hR
  clear hM hR
  show Calls _ _ #[v, u, .agg #[.int .i64 2, .int .i64 on, .int .i64 n, .string (nmS a), .string (nmS b), .slice A data.length c, .slice Ak keep.length ck]] _ _
  go_enter Try.func32, Try.ntmps32
  go_upto_region 12 with fail
  obtain ⟨X, hX⟩ : ∃ X, X = w.alloc (.cells #[.int .i64 2, .int .i64 on, .int .i64 n, .string (nmS a), .string (nmS b), .slice A data.length c, .slice Ak keep.length ck] 63) := ⟨_, rfl⟩
  rw [← hX]
  have hbX : Below w.heap.size w X := by rw [hX]; exact (Below.refl _ _).alloc (Nat.le_refl _) _
  have kX : Blk X w.heap.size 63 [.int .i64 2, .int .i64 on, .int .i64 n, .string (nmS a), .string (nmS b), .slice A data.length c, .slice Ak keep.length ck] := by rw [hX]; exact Blk.new w _ _
  have hlt : w.heap.size < X.heap.size := kX.lt
  have hne : w.heap.size ∉ bs := fun hm => by have := hbs _ hm; omega
  clear hX
  have y3 : ∀ w', Blk w' w.heap.size 63 [.int .i64 2, .int .i64 on, .int .i64 n, .string (nmS a), .string (nmS b), .slice A data.length c, .slice Ak keep.length ck] → w'.cell? ⟨w.heap.size, 3, none⟩ = some (.string (nmS a)) := fun w' h => h.cell 3
  have y4 : ∀ w', Blk w' w.heap.size 63 [.int .i64 2, .int .i64 on, .int .i64 n, .string (nmS a), .string (nmS b), .slice A data.length c, .slice Ak keep.length ck] → w'.cell? ⟨w.heap.size, 4, none⟩ = some (.string (nmS b)) := fun w' h => h.cell 4
  have hS0 : Blk X.drew w.heap.size 63 [.int .i64 2, .int .i64 on, .int .i64 n, .string (nmS a), .string (nmS b), .slice A data.length c, .slice Ak keep.length ck] := kX.drew
  refine wp_region_N (fun w' => Blk w' w.heap.size 63 [.int .i64 2, .int .i64 on, .int .i64 n, .string (nmS a), .string (nmS b), .slice A data.length c, .slice Ak keep.length ck]) 100 (by kernel_rfl) ?_
  apply wpAnyN_takeL 0 (by kernel_rfl) rfl (fun _ _ _ h => h) (by kernel_rfl) hS0
  · intro w' hS'
    go_simp; exact ⟨rfl, rfl⟩
  (try simp only [Act.put]); (try simp only [List.setIfInBounds_toArray]); (try simp only [List.set])
  apply wpAnyN_takeL 1 (by kernel_rfl) rfl (fun _ _ _ h => h) (by kernel_rfl) hS0
  · intro w' hS'
    go_simp; exact ⟨rfl, rfl⟩
  (try simp only [Act.put]); (try simp only [List.setIfInBounds_toArray]); (try simp only [List.set])
  apply wpAnyN_takeL 2 (by kernel_rfl) rfl (fun _ _ _ h => h) (by kernel_rfl) hS0
  · intro w' hS'
    go_simp; exact ⟨rfl, rfl⟩
  (try simp only [Act.put]); (try simp only [List.setIfInBounds_toArray]); (try simp only [List.set])
  apply wpAnyN_takeL 4 (by kernel_rfl) rfl (fun _ _ _ h => h) (by kernel_rfl) hS0
  · intro w' hS'
    go_simp; exact ⟨rfl, rfl⟩
  (try simp only [Act.put]); (try simp only [List.setIfInBounds_toArray]); (try simp only [List.set])
  apply wpAnyN_takeL 5 (by kernel_rfl) rfl (fun _ _ _ h => h) (by kernel_rfl) hS0
  · intro w' hS'
    go_simp; exact ⟨rfl, rfl⟩
  (try simp only [Act.put]); (try simp only [List.setIfInBounds_toArray]); (try simp only [List.set])
  apply wpAnyN_takeL 6 (by kernel_rfl) rfl (fun _ _ _ h => h) (by kernel_rfl) hS0
  · intro w' hS'
    go_simp; exact ⟨rfl, rfl⟩
  (try simp only [Act.put]); (try simp only [List.setIfInBounds_toArray]); (try simp only [List.set])
  refine wpAnyN_runL 3 (by kernel_rfl) rfl (by kernel_rfl) (fun K hK => ?_)
  go_simp
  refine (HM.out X.drew hbX.drew).mono ?_
  rintro e w1 ⟨rfl, hb1, h1⟩
  have hS1 := hS0.but hb1 hne
  refine hK _ _ (fun _ => hS1) ?_
  clear hK K
  (try simp only [Act.put]); (try simp only [List.setIfInBounds_toArray]); (try simp only [List.set])
  refine wpAnyN_runL 7 (by kernel_rfl) rfl (by kernel_rfl) (fun K hK => ?_)
  go_simp
  refine (HR.out w1 h1).mono ?_
  rintro e w2 ⟨rfl, hb2, h2⟩
  have hS2 := hS1.but hb2 hne
  refine hK _ _ (fun _ => hS2) ?_
  clear hK K
  (try simp only [Act.put]); (try simp only [List.setIfInBounds_toArray]); (try simp only [List.set])
  apply wpAnyN_takeL 8 (by kernel_rfl) rfl (fun _ _ _ h => h) (by kernel_rfl) hS2
  · intro w' hS'
    go_simp; exact ⟨rfl, rfl⟩
  (try simp only [Act.put]); (try simp only [List.setIfInBounds_toArray]); (try simp only [List.set])
  apply wpAnyN_takeL 9 (by kernel_rfl) rfl (fun _ _ _ h => h) (by kernel_rfl) hS2
  · intro w' hS'
    go_simp; exact ⟨rfl, rfl⟩
  (try simp only [Act.put]); (try simp only [List.setIfInBounds_toArray]); (try simp only [List.set])
  refine wpAnyN_done (by kernel_rfl) ?_ _
  clear HM HR y3 y4
  go_wp2
  go_ret
  exact ⟨rfl, h2, ((But.of_below hbX.drew).trans (hb1.mono (fun _ h => h))).trans hb2⟩

set_option maxRecDepth 100000 in
set_option maxHeartbeats 4000000 in
theorem right_3 (v u : Value) (o : OpD) (r : Nat) (bs : List Nat) (w : World) (M F : World → Prop) (hk : o.kind = 3) (hbs : ∀ k ∈ bs, k < w.heap.size)
    (hM : ∀ X, Below w.heap.size w X → Calls Try.prog 24 #[v, .string (nmS o.a), .string (nmS o.b)] X fun e w1 => e = .returned (.int .i64 r) ∧ But bs X w1 ∧ M w1)
    (hR : ∀ w1, M w1 → Calls Try.prog 69 #[u, .string (nmS o.a), .string (nmS o.b)] w1 fun e w2 => e = .returned (.int .i64 r) ∧ But bs w1 w2 ∧ F w2) :
    Calls Try.prog 32 #[v, u, .agg (opCells o).toArray] w fun e w' => e = .returned (.bool true) ∧ F w' ∧ But bs w w' := by
  obtain ⟨kind, on, n, a, b, A, c, data, Ak, ck, keep⟩ := o
  simp only at hk hM hR
  subst hk
  have HM := Lib.hid hM
  have HR := Lib.hid hR
  clear hM hR
  show Calls _ _ #[v, u, .agg #[.int .i64 3, .int .i64 on, .int .i64 n, .string (nmS a), .string (nmS b), .slice A data.length c, .slice Ak keep.length ck]] _ _
  go_enter Try.func32, Try.ntmps32
  go_upto_region 14 with fail
  obtain ⟨X, hX⟩ : ∃ X, X = w.alloc (.cells #[.int .i64 3, .int .i64 on, .int .i64 n, .string (nmS a), .string (nmS b), .slice A data.length c, .slice Ak keep.length ck] 63) := ⟨_, rfl⟩
  rw [← hX]
  have hbX : Below w.heap.size w X := by rw [hX]; exact (Below.refl _ _).alloc (Nat.le_refl _) _
  have kX : Blk X w.heap.size 63 [.int .i64 3, .int .i64 on, .int .i64 n, .string (nmS a), .string (nmS b), .slice A data.length c, .slice Ak keep.length ck] := by rw [hX]; exact Blk.new w _ _
  have hlt : w.heap.size < X.heap.size := kX.lt
  have hne : w.heap.size ∉ bs := fun hm => by have := hbs _ hm; omega
  clear hX
  have y3 : ∀ w', Blk w' w.heap.size 63 [.int .i64 3, .int .i64 on, .int .i64 n, .string (nmS a), .string (nmS b), .slice A data.length c, .slice Ak keep.length ck] → w'.cell? ⟨w.heap.size, 3, none⟩ = some (.string (nmS a)) := fun w' h => h.cell 3
  have y4 : ∀ w', Blk w' w.heap.size 63 [.int .i64 3, .int .i64 on, .int .i64 n, .string (nmS a), .string (nmS b), .slice A data.length c, .slice Ak keep.length ck] → w'.cell? ⟨w.heap.size, 4, none⟩ = some (.string (nmS b)) := fun w' h => h.cell 4
  have hS0 : Blk X.drew w.heap.size 63 [.int .i64 3, .int .i64 on, .int .i64 n, .string (nmS a), .string (nmS b), .slice A data.length c, .slice Ak keep.length ck] := kX.drew
  refine wp_region_N (fun w' => Blk w' w.heap.size 63 [.int .i64 3, .int .i64 on, .int .i64 n, .string (nmS a), .string (nmS b), .slice A data.length c, .slice Ak keep.length ck]) 100 (by kernel_rfl) ?_
  apply wpAnyN_takeL 0 (by kernel_rfl) rfl (fun _ _ _ h => h) (by kernel_rfl) hS0
  · intro w' hS'
    go_simp; exact ⟨rfl, rfl⟩
  (try simp only [Act.put]); (try simp only [List.setIfInBounds_toArray]); (try simp only [List.set])
  apply wpAnyN_takeL 1 (by kernel_rfl) rfl (fun _ _ _ h => h) (by kernel_rfl) hS0
  · intro w' hS'
    go_simp; exact ⟨rfl, rfl⟩
  (try simp only [Act.put]); (try simp only [List.setIfInBounds_toArray]); (try simp only [List.set])
  apply wpAnyN_takeL 2 (by kernel_rfl) rfl (fun _ _ _ h => h) (by kernel_rfl) hS0
  · intro w' hS'
    go_simp; exact ⟨rfl, rfl⟩
  (try simp only [Act.put]); (try simp only [List.setIfInBounds_toArray]); (try simp only [List.set])
  apply wpAnyN_takeL 3 (by kernel_rfl) rfl (fun _ _ _ h => h) (by kernel_rfl) hS0
  · intro w' hS'
    go_simp; exact ⟨rfl, rfl⟩
  (try simp only [Act.put]); (try simp only [List.setIfInBounds_toArray]); (try simp only [List.set])
  apply wpAnyN_takeL 4 (by kernel_rfl) rfl (fun _ _ _ h => h) (by kernel_rfl) hS0
  · intro w' hS'
    go_simp; exact ⟨rfl, rfl⟩
  (try simp only [Act.put]); (try simp only [List.setIfInBounds_toArray]); (try simp only [List.set])
  apply wpAnyN_takeL 6 (by kernel_rfl) rfl (fun _ _ _ h => h) (by kernel_rfl) hS0
  · intro w' hS'
    go_simp; exact ⟨rfl, rfl⟩
  (try simp only [Act.put]); (try simp only [List.setIfInBounds_toArray]); (try simp only [List.set])
  apply wpAnyN_takeL 7 (by kernel_rfl) rfl (fun _ _ _ h => h) (by kernel_rfl) hS0
  · intro w' hS'
    go_simp; exact ⟨rfl, rfl⟩
  (try simp only [Act.put]); (try simp only [List.setIfInBounds_toArray]); (try simp only [List.set])
  apply wpAnyN_takeL 8 (by kernel_rfl) rfl (fun _ _ _ h => h) (by kernel_rfl) hS0
  · intro w' hS'
    go_simp; exact ⟨rfl, rfl⟩
  (try simp only [Act.put]); (try simp only [List.setIfInBounds_toArray]); (try simp only [List.set])
  apply wpAnyN_takeL 9 (by kernel_rfl) rfl (fun _ _ _ h => h) (by kernel_rfl) hS0
  · intro w' hS'
    go_simp; exact ⟨rfl, rfl⟩
  (try simp only [Act.put]); (try simp only [List.setIfInBounds_toArray]); (try simp only [List.set])
  apply wpAnyN_takeL 10 (by kernel_rfl) rfl (fun _ _ _ h => h) (by kernel_rfl) hS0
  · intro w' hS'
    go_simp; exact ⟨rfl, rfl⟩
  (try simp only [Act.put]); (try simp only [List.setIfInBounds_toArray]); (try simp only [List.set])
  refine wpAnyN_runL 5 (by kernel_rfl) rfl (by kernel_rfl) (fun K hK => ?_)
  go_simp
  refine (HM.out X.drew hbX.drew).mono ?_
  rintro e w1 ⟨rfl, hb1, h1⟩
  have hS1 := hS0.but hb1 hne
  refine hK _ _ (fun _ => hS1) ?_
  clear hK K
  (try simp only [Act.put]); (try simp only [List.setIfInBounds_toArray]); (try simp only [List.set])
  refine wpAnyN_runL 11 (by kernel_rfl) rfl (by kernel_rfl) (fun K hK => ?_)
  go_simp
  refine (HR.out w1 h1).mono ?_
  rintro e w2 ⟨rfl, hb2, h2⟩
  have hS2 := hS1.but hb2 hne
  refine hK _ _ (fun _ => hS2) ?_
  clear hK K
  (try simp only [Act.put]); (try simp only [List.setIfInBounds_toArray]); (try simp only [List.set])
  apply wpAnyN_takeL 12 (by kernel_rfl) rfl (fun _ _ _ h => h) (by kernel_rfl) hS2
  · intro w' hS'
    go_simp; exact ⟨rfl, rfl⟩
  (try simp only [Act.put]); (try simp only [List.setIfInBounds_toArray]); (try simp only [List.set])
  apply wpAnyN_takeL 13 (by kernel_rfl) rfl (fun _ _ _ h => h) (by kernel_rfl) hS2
  · intro w' hS'
    go_simp; exact ⟨rfl, rfl⟩
  (try simp only [Act.put]); (try simp only [List.setIfInBounds_toArray]); (try simp only [List.set])
  refine wpAnyN_done (by kernel_rfl) ?_ _
  clear HM HR y3 y4
  go_wp2
  go_ret
  exact ⟨rfl, h2, ((But.of_below hbX.drew).trans (hb1.mono (fun _ h => h))).trans hb2⟩

set_option maxRecDepth 100000 in
set_option maxHeartbeats 4000000 in
theorem right_4 (v u : Value) (o : OpD) (r : Nat) (bs : List Nat) (w : World) (M F : World → Prop) (hk : o.kind = 4) (hbs : ∀ k ∈ bs, k < w.heap.size)
    (hM : ∀ X, Below w.heap.size w X → Calls Try.prog 28 #[v, .string (nmS o.a)] X fun e w1 => e = .returned (.int .i64 r) ∧ But bs X w1 ∧ M w1)
    (hR : ∀ w1, M w1 → Calls Try.prog 70 #[u, .string (nmS o.a)] w1 fun e w2 => e = .returned (.int .i64 r) ∧ But bs w1 w2 ∧ F w2) :
    Calls Try.prog 32 #[v, u, .agg (opCells o).toArray] w fun e w' => e = .returned (.bool true) ∧ F w' ∧ But bs w w' := by
  obtain ⟨kind, on, n, a, b, A, c, data, Ak, ck, keep⟩ := o
  simp only at hk hM hR
  subst hk
  have HM := Lib.hid hM
  have HR := Lib.hid hR
  clear hM hR
  show Calls _ _ #[v, u, .agg #[.int .i64 4, .int .i64 on, .int .i64 n, .string (nmS a), .string (nmS b), .slice A data.length c, .slice Ak keep.length ck]] _ _
  go_enter Try.func32, Try.ntmps32
  go_upto_region 16 with fail
  obtain ⟨X, hX⟩ : ∃ X, X = w.alloc (.cells #[.int .i64 4, .int .i64 on, .int .i64 n, .string (nmS a), .string (nmS b), .slice A data.length c, .slice Ak keep.length ck] 63) := ⟨_, rfl⟩
  rw [← hX]
  have hbX : Below w.heap.size w X := by rw [hX]; exact (Below.refl _ _).alloc (Nat.le_refl _) _
  have kX : Blk X w.heap.size 63 [.int .i64 4, .int .i64 on, .int .i64 n, .string (nmS a), .string (nmS b), .slice A data.length c, .slice Ak keep.length ck] := by rw [hX]; exact Blk.new w _ _
  have hlt : w.heap.size < X.heap.size := kX.lt
  have hne : w.heap.size ∉ bs := fun hm => by have := hbs _ hm; omega
  clear hX
  have y3 : ∀ w', Blk w' w.heap.size 63 [.int .i64 4, .int .i64 on, .int .i64 n, .string (nmS a), .string (nmS b), .slice A data.length c, .slice Ak keep.length ck] → w'.cell? ⟨w.heap.size, 3, none⟩ = some (.string (nmS a)) := fun w' h => h.cell 3
  have y4 : ∀ w', Blk w' w.heap.size 63 [.int .i64 4, .int .i64 on, .int .i64 n, .string (nmS a), .string (nmS b), .slice A data.length c, .slice Ak keep.length ck] → w'.cell? ⟨w.heap.size, 4, none⟩ = some (.string (nmS b)) := fun w' h => h.cell 4
  have hS0 : Blk X.drew w.heap.size 63 [.int .i64 4, .int .i64 on, .int .i64 n, .string (nmS a), .string (nmS b), .slice A data.length c, .slice Ak keep.length ck] := kX.drew
  refine wp_region_N (fun w' => Blk w' w.heap.size 63 [.int .i64 4, .int .i64 on, .int .i64 n, .string (nmS a), .string (nmS b), .slice A data.length c, .slice Ak keep.length ck]) 100 (by kernel_rfl) ?_
  apply wpAnyN_takeL 0 (by kernel_rfl) rfl (fun _ _ _ h => h) (by kernel_rfl) hS0
  · intro w' hS'
    go_simp; exact ⟨rfl, rfl⟩
  (try simp only [Act.put]); (try simp only [List.setIfInBounds_toArray]); (try simp only [List.set])
  apply wpAnyN_takeL 1 (by kernel_rfl) rfl (fun _ _ _ h => h) (by kernel_rfl) hS0
  · intro w' hS'
    go_simp; exact ⟨rfl, rfl⟩
  (try simp only [Act.put]); (try simp only [List.setIfInBounds_toArray]); (try simp only [List.set])
  apply wpAnyN_takeL 2 (by kernel_rfl) rfl (fun _ _ _ h => h) (by kernel_rfl) hS0
  · intro w' hS'
    go_simp; exact ⟨rfl, rfl⟩
  (try simp only [Act.put]); (try simp only [List.setIfInBounds_toArray]); (try simp only [List.set])
  apply wpAnyN_takeL 4 (by kernel_rfl) rfl (fun _ _ _ h => h) (by kernel_rfl) hS0
  · intro w' hS'
    go_simp; exact ⟨rfl, rfl⟩
  (try simp only [Act.put]); (try simp only [List.setIfInBounds_toArray]); (try simp only [List.set])
  apply wpAnyN_takeL 5 (by kernel_rfl) rfl (fun _ _ _ h => h) (by kernel_rfl) hS0
  · intro w' hS'
    go_simp; exact ⟨rfl, rfl⟩
  (try simp only [Act.put]); (try simp only [List.setIfInBounds_toArray]); (try simp only [List.set])
  apply wpAnyN_takeL 6 (by kernel_rfl) rfl (fun _ _ _ h => h) (by kernel_rfl) hS0
  · intro w' hS'
    go_simp; exact ⟨rfl, rfl⟩
  (try simp only [Act.put]); (try simp only [List.setIfInBounds_toArray]); (try simp only [List.set])
  refine wpAnyN_runL 3 (by kernel_rfl) rfl (by kernel_rfl) (fun K hK => ?_)
  go_simp
  refine (HM.out X.drew hbX.drew).mono ?_
  rintro e w1 ⟨rfl, hb1, h1⟩
  have hS1 := hS0.but hb1 hne
  refine hK _ _ (fun _ => hS1) ?_
  clear hK K
  (try simp only [Act.put]); (try simp only [List.setIfInBounds_toArray]); (try simp only [List.set])
  refine wpAnyN_runL 7 (by kernel_rfl) rfl (by kernel_rfl) (fun K hK => ?_)
  go_simp
  refine (HR.out w1 h1).mono ?_
  rintro e w2 ⟨rfl, hb2, h2⟩
  have hS2 := hS1.but hb2 hne
  refine hK _ _ (fun _ => hS2) ?_
  clear hK K
  (try simp only [Act.put]); (try simp only [List.setIfInBounds_toArray]); (try simp only [List.set])
  apply wpAnyN_takeL 8 (by kernel_rfl) rfl (fun _ _ _ h => h) (by kernel_rfl) hS2
  · intro w' hS'
    go_simp; exact ⟨rfl, rfl⟩
  (try simp only [Act.put]); (try simp only [List.setIfInBounds_toArray]); (try simp only [List.set])
  apply wpAnyN_takeL 9 (by kernel_rfl) rfl (fun _ _ _ h => h) (by kernel_rfl) hS2
  · intro w' hS'
    go_simp; exact ⟨rfl, rfl⟩
  (try simp only [Act.put]); (try simp only [List.setIfInBounds_toArray]); (try simp only [List.set])
  refine wpAnyN_done (by kernel_rfl) ?_ _
  clear HM HR y3 y4
  go_wp2
  go_ret
  exact ⟨rfl, h2, ((But.of_below hbX.drew).trans (hb1.mono (fun _ h => h))).trans hb2⟩

end Go.Proofs.Ytmddgimadlmacaa
