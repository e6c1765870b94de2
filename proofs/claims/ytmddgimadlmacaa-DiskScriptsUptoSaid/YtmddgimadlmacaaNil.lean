import Derived.Test.YtmddgimadlmacaaRdisk8
/-! the disks' methods at a nil receiver (printed by wip/gen_nil.py) -/
namespace Go.Proofs.Ytmddgimadlmacaa
open Go.RowKit Garner

set_option maxRecDepth 100000 in
theorem rChangeNil (a b : ByteArray) (w : World) : Calls Try.prog 83 #[.pointer none, .string a, .string b] w fun e w' => e = .returned (.int .i64 2) ∧ w' = w := by
  go_enter Try.func83, Try.ntmps83
  go_wp2
  go_ret
  exact ⟨rfl, rfl⟩
set_option maxRecDepth 100000 in
set_option maxHeartbeats 1000000 in
theorem pAppendNil (s : ByteArray) (A : Option Addr) (n c : Nat) (w : World) : Calls Try.prog 19 #[.pointer none, .string s, .slice A n c] w fun e w' => e = .returned (.int .i64 2) ∧ Below w.heap.size w w' := by
  go_enter Try.func19, Try.ntmps19
  go_wp2
  go_ret
  exact ⟨rfl, (Below.refl _ _).alloc (Nat.le_refl _) _⟩
set_option maxRecDepth 100000 in
set_option maxHeartbeats 1000000 in
theorem pSyncNil (s : ByteArray) (w : World) : Calls Try.prog 20 #[.pointer none, .string s] w fun e w' => e = .returned (.int .i64 2) ∧ Below w.heap.size w w' := by
  go_enter Try.func20, Try.ntmps20
  go_wp2
  go_ret
  exact ⟨rfl, (Below.refl _ _).alloc (Nat.le_refl _) _⟩
set_option maxRecDepth 100000 in
set_option maxHeartbeats 1000000 in
theorem pRenameNil (s s2 : ByteArray) (w : World) : Calls Try.prog 24 #[.pointer none, .string s, .string s2] w fun e w' => e = .returned (.int .i64 2) ∧ Below w.heap.size w w' := by
  go_enter Try.func24, Try.ntmps24
  go_wp2
  go_ret
  exact ⟨rfl, (Below.refl _ _).alloc (Nat.le_refl _) _⟩
set_option maxRecDepth 100000 in
set_option maxHeartbeats 1000000 in
theorem pDeleteNil (s : ByteArray) (w : World) : Calls Try.prog 28 #[.pointer none, .string s] w fun e w' => e = .returned (.int .i64 2) ∧ Below w.heap.size w w' := by
  go_enter Try.func28, Try.ntmps28
  go_wp2
  go_ret
  exact ⟨rfl, (Below.refl _ _).alloc (Nat.le_refl _) _⟩
set_option maxRecDepth 100000 in
set_option maxHeartbeats 1000000 in
theorem pReadNil (s : ByteArray) (w : World) : Calls Try.prog 22 #[.pointer none, .string s] w fun e w' => e = .returned (.tuple #[.slice none 0 0, .int .i64 2]) ∧ Below w.heap.size w w' := by
  go_enter Try.func22, Try.ntmps22
  go_wp2
  go_ret2
  exact ⟨rfl, (Below.refl _ _).alloc (Nat.le_refl _) _⟩
set_option maxRecDepth 100000 in
set_option maxHeartbeats 1000000 in
theorem pListNil  (w : World) : Calls Try.prog 26 #[.pointer none] w fun e w' => e = .returned (.tuple #[.slice none 0 0, .int .i64 2]) ∧ w' = w := by
  go_enter Try.func26, Try.ntmps26
  go_wp2
  go_ret2
  exact ⟨rfl, rfl⟩
set_option maxRecDepth 100000 in
set_option maxHeartbeats 1000000 in
theorem pFillNil (b : Bool) (w : World) : Calls Try.prog 27 #[.pointer none, .bool b] w fun e w' => e = .returned (.tuple #[]) ∧ w' = w := by
  go_enter Try.func27, Try.ntmps27
  go_wp2
  first | (refine bodyPost_end (results_none rfl _ _ _) rfl ?_; exact ⟨rfl, rfl⟩) | (refine bodyPost_ret (results_none rfl _ _ _) rfl ?_; exact ⟨rfl, rfl⟩)
set_option maxRecDepth 100000 in
set_option maxHeartbeats 1000000 in
theorem pArmNil (n : Int) (w : World) : Calls Try.prog 23 #[.pointer none, .int .i64 n] w fun e w' => e = .returned (.tuple #[]) ∧ w' = w := by
  go_enter Try.func23, Try.ntmps23
  go_wp2
  first | (refine bodyPost_end (results_none rfl _ _ _) rfl ?_; exact ⟨rfl, rfl⟩) | (refine bodyPost_ret (results_none rfl _ _ _) rfl ?_; exact ⟨rfl, rfl⟩)
set_option maxRecDepth 100000 in
set_option maxHeartbeats 1000000 in
theorem pRestartNil (A : Option Addr) (n c : Nat) (w : World) : Calls Try.prog 21 #[.pointer none, .slice A n c] w fun e w' => e = .returned (.tuple #[]) ∧ w' = w := by
  go_enter Try.func21, Try.ntmps21
  go_wp2
  first | (refine bodyPost_end (results_none rfl _ _ _) rfl ?_; exact ⟨rfl, rfl⟩) | (refine bodyPost_ret (results_none rfl _ _ _) rfl ?_; exact ⟨rfl, rfl⟩)
set_option maxRecDepth 100000 in
set_option maxHeartbeats 1000000 in
theorem pCloneNil  (w : World) : Calls Try.prog 30 #[.pointer none] w fun e w' => e = .returned (.pointer none) ∧ w' = w := by
  go_enter Try.func30, Try.ntmps30
  go_wp2
  go_ret
  exact ⟨rfl, rfl⟩
set_option maxRecDepth 100000 in
set_option maxHeartbeats 1000000 in
theorem rAppendNil (s : ByteArray) (A : Option Addr) (n c : Nat) (w : World) : Calls Try.prog 67 #[.pointer none, .string s, .slice A n c] w fun e w' => e = .returned (.int .i64 2) ∧ w' = w := by
  go_enter Try.func67, Try.ntmps67
  go_wp2_with fail
  refine (rChangeNil s s w).mono ?_
  rintro e w1 ⟨rfl, rfl⟩
  go_wp2
  go_ret
  exact ⟨rfl, rfl⟩
set_option maxRecDepth 100000 in
set_option maxHeartbeats 1000000 in
theorem rSyncNil (s : ByteArray) (w : World) : Calls Try.prog 68 #[.pointer none, .string s] w fun e w' => e = .returned (.int .i64 2) ∧ w' = w := by
  go_enter Try.func68, Try.ntmps68
  go_wp2_with fail
  refine (rChangeNil s s w).mono ?_
  rintro e w1 ⟨rfl, rfl⟩
  go_wp2
  go_ret
  exact ⟨rfl, rfl⟩
set_option maxRecDepth 100000 in
set_option maxHeartbeats 1000000 in
theorem rRenameNil (s s2 : ByteArray) (w : World) : Calls Try.prog 69 #[.pointer none, .string s, .string s2] w fun e w' => e = .returned (.int .i64 2) ∧ w' = w := by
  go_enter Try.func69, Try.ntmps69
  go_wp2_with fail
  refine (rChangeNil s s2 w).mono ?_
  rintro e w1 ⟨rfl, rfl⟩
  go_wp2
  go_ret
  exact ⟨rfl, rfl⟩
set_option maxRecDepth 100000 in
set_option maxHeartbeats 1000000 in
theorem rDeleteNil (s : ByteArray) (w : World) : Calls Try.prog 70 #[.pointer none, .string s] w fun e w' => e = .returned (.int .i64 2) ∧ w' = w := by
  go_enter Try.func70, Try.ntmps70
  go_wp2_with fail
  refine (rChangeNil s s w).mono ?_
  rintro e w1 ⟨rfl, rfl⟩
  go_wp2
  go_ret
  exact ⟨rfl, rfl⟩
set_option maxRecDepth 100000 in
set_option maxHeartbeats 1000000 in
theorem rReadNil (s : ByteArray) (w : World) : Calls Try.prog 43 #[.pointer none, .string s] w fun e w' => e = .returned (.tuple #[.slice none 0 0, .int .i64 2]) ∧ w' = w := by
  go_enter Try.func43, Try.ntmps43
  go_wp2
  go_ret2
  exact ⟨rfl, rfl⟩
set_option maxRecDepth 100000 in
set_option maxHeartbeats 1000000 in
theorem rListNil  (w : World) : Calls Try.prog 42 #[.pointer none] w fun e w' => e = .returned (.tuple #[.slice none 0 0, .int .i64 2]) ∧ w' = w := by
  go_enter Try.func42, Try.ntmps42
  go_wp2
  go_ret2
  exact ⟨rfl, rfl⟩
set_option maxRecDepth 100000 in
set_option maxHeartbeats 1000000 in
theorem rFillNil (b : Bool) (w : World) : Calls Try.prog 37 #[.pointer none, .bool b] w fun e w' => e = .returned (.tuple #[]) ∧ w' = w := by
  go_enter Try.func37, Try.ntmps37
  go_wp2
  first | (refine bodyPost_end (results_none rfl _ _ _) rfl ?_; exact ⟨rfl, rfl⟩) | (refine bodyPost_ret (results_none rfl _ _ _) rfl ?_; exact ⟨rfl, rfl⟩)
set_option maxRecDepth 100000 in
set_option maxHeartbeats 1000000 in
theorem rArmNil (n : Int) (w : World) : Calls Try.prog 36 #[.pointer none, .int .i64 n] w fun e w' => e = .returned (.tuple #[]) ∧ w' = w := by
  go_enter Try.func36, Try.ntmps36
  go_wp2
  first | (refine bodyPost_end (results_none rfl _ _ _) rfl ?_; exact ⟨rfl, rfl⟩) | (refine bodyPost_ret (results_none rfl _ _ _) rfl ?_; exact ⟨rfl, rfl⟩)
set_option maxRecDepth 100000 in
set_option maxHeartbeats 1000000 in
theorem rRestartNil (A : Option Addr) (n c : Nat) (w : World) : Calls Try.prog 34 #[.pointer none, .slice A n c] w fun e w' => e = .returned (.tuple #[]) ∧ w' = w := by
  go_enter Try.func34, Try.ntmps34
  go_wp2
  first | (refine bodyPost_end (results_none rfl _ _ _) rfl ?_; exact ⟨rfl, rfl⟩) | (refine bodyPost_ret (results_none rfl _ _ _) rfl ?_; exact ⟨rfl, rfl⟩)
set_option maxRecDepth 100000 in
set_option maxHeartbeats 1000000 in
theorem rCloneNil  (w : World) : Calls Try.prog 31 #[.pointer none] w fun e w' => e = .returned (.pointer none) ∧ w' = w := by
  go_enter Try.func31, Try.ntmps31
  go_wp2
  go_ret
  exact ⟨rfl, rfl⟩
set_option maxRecDepth 100000 in
set_option maxHeartbeats 1000000 in
theorem pDownNil  (w : World) : Calls Try.prog 25 #[.pointer none] w fun e w' => e = .returned (.bool false) ∧ w' = w := by
  go_enter Try.func25, Try.ntmps25
  go_wp2
  go_ret
  exact ⟨rfl, rfl⟩
end Go.Proofs.Ytmddgimadlmacaa
