import Derived.Test.YtmcacicopgckmaaGreatDoorLn21
import Derived.Test.YtmcacicopgckmaaGreatDoorLn10
import Derived.Test.YtmcacicopgckmaaGreatDoorLn12
/-! utf: Word, Small -/
namespace Go.Proofs.YtmcacicopgckmaaGreatDoor
open Go.RowKit Go.Shelf Garner
set_option maxRecDepth 100000 in
set_option maxHeartbeats 16000000 in
theorem vWord (r : Nat) (w : World) (hr : r ≤ 1114111) :
    Calls Tryz.prog 95 #[.int .i32 r] w fun e w' => e = .returned (.bool (wordR r)) ∧ w' = w := by
  have hv := Tryz.utf8_ValidRune (r : Int) w
  obtain ⟨ANS, hA⟩ : ∃ ANS, wordR r = ANS := ⟨_, rfl⟩
  obtain ⟨VR, hVR⟩ : ∃ VR, Lib.validRune (r : Int) = VR := ⟨_, rfl⟩
  rw [hA]
  rw [hVR] at hv
  have hx := hA
  unfold wordR at hx
  rw [hVR] at hx
  have HV := Lib.hid hv
  clear hA hVR hv
  go_enter Tryz.func95, Tryz.ntmps95
  have hcase : (r < 48) ∨ (48 ≤ r ∧ r ≤ 57) ∨ (57 < r ∧ r < 65) ∨ (65 ≤ r ∧ r ≤ 90) ∨ (90 < r ∧ r < 95) ∨ r = 95 ∨ r = 96 ∨ (97 ≤ r ∧ r ≤ 122) ∨ (122 < r ∧ r < 192) ∨ (192 ≤ r ∧ r < 215) ∨ r = 215 ∨ (215 < r ∧ r < 247) ∨ r = 247 ∨ (247 < r ∧ r < 8192) ∨ (8192 ≤ r ∧ r ≤ 8303) ∨ (8303 < r ∧ r < 12288) ∨ (12288 ≤ r ∧ r ≤ 12351) ∨ (12351 < r ∧ r < 65533) ∨ r = 65533 ∨ 65533 < r := by omega
  rcases hcase with h | h | h | h | h | h | h | h | h | h | h | h | h | h | h | h | h | h | h | h
  all_goals first
    | (rw [if_pos (by omega)] at hx; subst hx; go_wp2; go_ret; exact ⟨rfl, rfl⟩)
    | (rw [if_neg (by omega), if_pos (by omega)] at hx; subst hx; go_wp2; go_ret; exact ⟨rfl, rfl⟩)
    | (rw [if_neg (by omega), if_neg (by omega), show decide (r ≠ 65533) = false by simp; omega, Bool.false_and] at hx; subst hx; go_wp2; go_ret; exact ⟨rfl, rfl⟩)
    | (rw [if_neg (by omega), if_neg (by omega), show decide (r ≠ 65533) = true by simp; omega, Bool.true_and] at hx; subst hx; have hb : ((r : Int) != 65533) = true := (by simp; omega); go_wp2_with (with_reducible refine HV.out.mono ?_; rintro e wy ⟨rfl, hz⟩; obtain rfl : w = wy := hz.symm); go_ret; exact ⟨rfl, rfl⟩)
set_option maxRecDepth 100000 in
set_option maxHeartbeats 16000000 in
theorem vSmall (r : Nat) (w : World) (hr : r ≤ 1114111) :
    Calls Tryz.prog 96 #[.int .i32 r] w fun e w' => e = .returned (.int .i32 (smallR r : Nat)) ∧ w' = w := by
  obtain ⟨ANS, hA⟩ : ∃ ANS, smallR r = ANS := ⟨_, rfl⟩
  rw [hA]
  have hx := hA
  unfold smallR at hx
  clear hA
  go_enter Tryz.func96, Tryz.ntmps96
  have hcase : (r < 65) ∨ (65 ≤ r ∧ r ≤ 90) ∨ (90 < r ∧ r < 192) ∨ (192 ≤ r ∧ r < 215) ∨ r = 215 ∨ (215 < r ∧ r ≤ 222) ∨ (222 < r ∧ r < 376) ∨ r = 376 ∨ (376 < r ∧ r < 913) ∨ (913 ≤ r ∧ r < 930) ∨ r = 930 ∨ (930 < r ∧ r ≤ 937) ∨ (937 < r ∧ r < 1024) ∨ (1024 ≤ r ∧ r ≤ 1039) ∨ (1040 ≤ r ∧ r ≤ 1071) ∨ 1071 < r := by omega
  rcases hcase with h | h | h | h | h | h | h | h | h | h | h | h | h | h | h | h
  all_goals first
    | (rw [if_pos (by omega)] at hx; subst hx; go_wp2; go_ret; exact ⟨by first | rfl | simp, rfl⟩)
    | (rw [if_neg (by omega), if_pos (by omega)] at hx; subst hx; go_wp2; go_ret; exact ⟨by first | rfl | simp, rfl⟩)
    | (rw [if_neg (by omega), if_neg (by omega), if_pos (by omega)] at hx; subst hx; go_wp2; go_ret; exact ⟨by first | rfl | simp, rfl⟩)
    | (rw [if_neg (by omega), if_neg (by omega), if_neg (by omega)] at hx; subst hx; go_wp2; go_ret; exact ⟨by first | rfl | simp, rfl⟩)
end Go.Proofs.YtmcacicopgckmaaGreatDoor

