import Derived.Test.YtmddgimadlmacaaSame
namespace Go.Proofs.Ytmddgimadlmacaa
open Go.RowKit Garner

set_option maxRecDepth 100000 in
set_option maxHeartbeats 2000000 in
theorem rFirst (w : World) : Calls Try.prog 45 #[] w fun e w' => e = .returned (manV firstMan none 0) ∧ Below w.heap.size w w' := by
  go_enter Try.func45, Try.ntmps45
  go_wp2
  refine bodyPost_ret (v := manV firstMan none 0) (by simp [results, Try.results45, go_sem, firstMan, *]) rfl ?_
  exact ⟨rfl, by first | exact (Below.refl _ _).alloc (Nat.le_refl _) _ | exact below_set5 ((Below.refl _ _).alloc (Nat.le_refl _) _) (Nat.le_refl _) _ _ _ _ _⟩
set_option maxRecDepth 100000 in
set_option maxHeartbeats 2000000 in
theorem vFirst (w : World) : Calls Try.prog 46 #[] w fun e w' => e = .returned (manV firstMan none 0) ∧ Below w.heap.size w w' := by
  go_enter Try.func46, Try.ntmps46
  go_wp2
  refine bodyPost_ret (v := manV firstMan none 0) (by simp [results, Try.results46, go_sem, firstMan, *]) rfl ?_
  exact ⟨rfl, by first | exact (Below.refl _ _).alloc (Nat.le_refl _) _ | exact below_set5 ((Below.refl _ _).alloc (Nat.le_refl _) _) (Nat.le_refl _) _ _ _ _ _⟩
set_option maxRecDepth 100000 in
set_option maxHeartbeats 2000000 in
theorem vSmallMan (w : World) : Calls Try.prog 44 #[] w fun e w' => ∃ A, e = .returned (manV smallMan A 1) ∧ Segs w' w'.heap.size A 1 smallMan.segs ∧ Below w.heap.size w w' := by
  go_enter Try.func44, Try.ntmps44
  go_wp2
  refine bodyPost_ret (v := manV smallMan (some ⟨w.heap.size + 1, 0, none⟩) 1) (by simp [results, Try.results44, go_sem, smallMan, *]) rfl ?_
  refine ⟨_, rfl, ?_, ?_⟩
  · have h := row_newN (w.alloc (.cells #[.int .i64 2, .int .i64 3, .int .u64 9, .int .i64 5, .slice (some ⟨w.heap.size + 1, 0, none⟩) 1 1] 25)) 36 4 1 (segV { id := 1, count := 4, mn := 10, mx := 20 }) rfl
    simp only [World.size_alloc] at h ⊢
    exact h
  · exact ((Below.refl _ _).alloc (Nat.le_refl _) _).alloc (by simp) _
end Go.Proofs.Ytmddgimadlmacaa
