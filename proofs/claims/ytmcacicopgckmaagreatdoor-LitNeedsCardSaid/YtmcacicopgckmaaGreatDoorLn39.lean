import Derived.Test.YtmcacicopgckmaaGreatDoorLn21
import Derived.Test.YtmcacicopgckmaaGreatDoorLn10
/-! garnerref06: Word, Small, Bytes -/
namespace Garner
open Go
theorem valid_good {r : Nat} (h : goodR r) : Lib.validRune (r : Int) = true := by
  unfold goodR at h
  unfold Lib.validRune
  simp
  omega
theorem encR_one {r : Nat} (h : r < 128) : encR r = [r.toUInt8] := by
  unfold encR Lib.encodeRune
  rw [Lib.encodeRuneZ_one (by omega) (by omega)]
  simp
theorem encR_two {r : Nat} (h : 128 ≤ r ∧ r < 2048) : encR r = [(192 + r / 64).toUInt8, (128 + r % 64).toUInt8] := by
  unfold encR Lib.encodeRune
  rw [Lib.encodeRuneZ_two (by omega) (by omega)]
  simp only [List.map_cons, List.map_nil]
  rw [show (192 + (r : Int) / 64).toNat = 192 + r / 64 by omega, show (128 + (r : Int) % 64).toNat = 128 + r % 64 by omega]
theorem encR_three {r : Nat} (h : 2048 ≤ r ∧ r < 65536) (h2 : r < 55296 ∨ 57343 < r) : encR r = [(224 + r / 4096).toUInt8, (128 + r / 64 % 64).toUInt8, (128 + r % 64).toUInt8] := by
  unfold encR Lib.encodeRune
  rw [Lib.encodeRuneZ_three (by omega)]
  simp only [List.map_cons, List.map_nil]
  rw [show (224 + (r : Int) / 4096).toNat = 224 + r / 4096 by omega, show (128 + (r : Int) / 64 % 64).toNat = 128 + r / 64 % 64 by omega, show (128 + (r : Int) % 64).toNat = 128 + r % 64 by omega]
theorem encR_four {r : Nat} (h : 65536 ≤ r ∧ r ≤ 1114111) : encR r = [(240 + r / 262144).toUInt8, (128 + r / 4096 % 64).toUInt8, (128 + r / 64 % 64).toUInt8, (128 + r % 64).toUInt8] := by
  unfold encR Lib.encodeRune
  rw [Lib.encodeRuneZ_four (by omega) (by omega)]
  simp only [List.map_cons, List.map_nil]
  rw [show (240 + (r : Int) / 262144).toNat = 240 + r / 262144 by omega, show (128 + (r : Int) / 4096 % 64).toNat = 128 + r / 4096 % 64 by omega, show (128 + (r : Int) / 64 % 64).toNat = 128 + r / 64 % 64 by omega, show (128 + (r : Int) % 64).toNat = 128 + r % 64 by omega]
theorem smallR_good {r : Nat} (h : goodR r) : goodR (smallR r) := by
  unfold goodR at h ⊢
  unfold smallR
  split
  · omega
  split
  · omega
  split
  · omega
  · exact h
end Garner
namespace Go.Proofs.YtmcacicopgckmaaGreatDoor
open Go.RowKit Garner
set_option maxRecDepth 100000 in
set_option maxHeartbeats 16000000 in
theorem gWord (r : Nat) (w : World) (hr : goodR r) :
    Calls Tryz.prog 61 #[.int .i32 r] w fun e w' => e = .returned (.bool (wordR r)) ∧ w' = w := by
  obtain ⟨ANS, hA⟩ : ∃ ANS, wordR r = ANS := ⟨_, rfl⟩
  rw [hA]
  have hx := hA
  unfold wordR at hx
  rw [valid_good hr, Bool.and_true] at hx
  unfold goodR at hr
  clear hA
  go_enter Tryz.func61, Tryz.ntmps61
  have hcase : (r < 48) ∨ (48 ≤ r ∧ r ≤ 57) ∨ (57 < r ∧ r < 65) ∨ (65 ≤ r ∧ r ≤ 90) ∨ (90 < r ∧ r < 95) ∨ r = 95 ∨ r = 96 ∨ (97 ≤ r ∧ r ≤ 122) ∨ (122 < r ∧ r < 128) ∨ (128 ≤ r ∧ r < 192) ∨ (192 ≤ r ∧ r < 215) ∨ r = 215 ∨ (215 < r ∧ r < 247) ∨ r = 247 ∨ (247 < r ∧ r < 8192) ∨ (8192 ≤ r ∧ r ≤ 8303) ∨ (8303 < r ∧ r < 12288) ∨ (12288 ≤ r ∧ r ≤ 12351) ∨ (12351 < r ∧ r < 55296) ∨ (57343 < r ∧ r < 65533) ∨ r = 65533 ∨ (65533 < r ∧ r ≤ 1114111) := by omega
  clear hr
  rcases hcase with h | h | h | h | h | h | h | h | h | h | h | h | h | h | h | h | h | h | h | h | h | h
  all_goals
    (first
      | rw [if_pos (by omega)] at hx
      | rw [if_neg (by omega), if_pos (by omega)] at hx
      | rw [if_neg (by omega), if_neg (by omega), show decide (r ≠ 65533) = false by simp; omega] at hx
      | rw [if_neg (by omega), if_neg (by omega), show decide (r ≠ 65533) = true by simp; omega] at hx)
    subst hx
    go_wp2
    go_ret
    refine ⟨?_, rfl⟩
    first | rfl | (simp; done) | (simp; omega)
set_option maxRecDepth 100000 in
set_option maxHeartbeats 16000000 in
theorem gSmall (r : Nat) (w : World) (hr : r ≤ 1114111) :
    Calls Tryz.prog 63 #[.int .i32 r] w fun e w' => e = .returned (.int .i32 (smallR r : Nat)) ∧ w' = w := by
  obtain ⟨ANS, hA⟩ : ∃ ANS, smallR r = ANS := ⟨_, rfl⟩
  rw [hA]
  have hx := hA
  unfold smallR at hx
  clear hA
  go_enter Tryz.func63, Tryz.ntmps63
  have hcase : (r < 65) ∨ (65 ≤ r ∧ r ≤ 90) ∨ (90 < r ∧ r < 192) ∨ (192 ≤ r ∧ r < 215) ∨ r = 215 ∨ (215 < r ∧ r ≤ 222) ∨ (222 < r ∧ r < 376) ∨ r = 376 ∨ (376 < r ∧ r < 913) ∨ (913 ≤ r ∧ r < 930) ∨ r = 930 ∨ (930 < r ∧ r ≤ 937) ∨ (937 < r ∧ r < 1024) ∨ (1024 ≤ r ∧ r ≤ 1039) ∨ (1040 ≤ r ∧ r ≤ 1071) ∨ 1071 < r := by omega
  rcases hcase with h | h | h | h | h | h | h | h | h | h | h | h | h | h | h | h
  all_goals first
    | (rw [if_pos (by omega)] at hx; subst hx; go_wp2; go_ret; exact ⟨by first | rfl | simp, rfl⟩)
    | (rw [if_neg (by omega), if_pos (by omega)] at hx; subst hx; go_wp2; go_ret; exact ⟨by first | rfl | simp, rfl⟩)
    | (rw [if_neg (by omega), if_neg (by omega), if_pos (by omega)] at hx; subst hx; go_wp2; go_ret; exact ⟨by first | rfl | simp, rfl⟩)
    | (rw [if_neg (by omega), if_neg (by omega), if_neg (by omega)] at hx; subst hx; go_wp2; go_ret; exact ⟨by first | rfl | simp, rfl⟩)
end Go.Proofs.YtmcacicopgckmaaGreatDoor

