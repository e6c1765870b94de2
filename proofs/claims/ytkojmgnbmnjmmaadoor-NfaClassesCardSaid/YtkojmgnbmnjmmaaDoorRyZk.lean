import Derived.Test.YtkojmgnbmnjmmaaDoorNcRow
import Derived.Laws.Entries
/-! Patterns, plain: classes of two letters, as texts; letters out of any number -/
namespace Garner
open Go
theorem and15 (x : Int) : ∃ p : Nat, p ≤ 15 ∧ bits .and .i32 x 15 = (p : Int) := by
  refine ⟨(BitVec.ofInt 32 x &&& BitVec.ofInt 32 15).toNat, ?_, ?_⟩
  · rw [BitVec.toNat_and]
    exact Nat.le_trans Nat.and_le_right (by decide)
  · have h : (BitVec.ofInt 32 x &&& BitVec.ofInt 32 15).toNat ≤ 15 := by
      rw [BitVec.toNat_and]
      exact Nat.le_trans Nat.and_le_right (by decide)
    show IntKind.i32.wrap ((BitVec.ofInt 32 x &&& BitVec.ofInt 32 15).toNat : Int) = _
    generalize (BitVec.ofInt 32 x &&& BitVec.ofInt 32 15).toNat = n at h ⊢
    rw [IntKind.wrap_i32] <;> omega
theorem enc_letter : ∀ p : Fin 16, Utf8.encode (97 + (p.val : Int)) = ⟨#[UInt8.ofNat (97 + p.val)]⟩ := by decide +kernel
section
variable {a b : UInt8} (ha : 97 ≤ a.toNat ∧ a.toNat ≤ 112) (hb : 97 ≤ b.toNat ∧ b.toNat ≤ 112)
include ha hb
theorem low_two {c : UInt8} (h : c = a ∨ c = b ∨ c.toNat < 128) : c.toNat < 128 := by
  rcases h with rfl | rfl | h
  · omega
  · omega
  · exact h
theorem cls_parse1 : rexpP [91, a, b, 93] = .ok (.set (twoR a.toNat b.toNat)) := by
  rw [rexp_ascii (fun c hc => low_two ha hb (by simp at hc; rcases hc with rfl | rfl | rfl | rfl <;> simp)) (by simp)]
  exact read_one (class_two ha hb [])
theorem cls_parse2 : rexpP [91, 94, a, b, 93] = .ok (.set (othersR (twoR a.toNat b.toNat))) := by
  rw [rexp_ascii (fun c hc => low_two ha hb (by simp at hc; rcases hc with rfl | rfl | rfl | rfl | rfl <;> simp)) (by simp)]
  exact read_one (class_not ha hb [])
theorem cls_parse3 : rexpP [a, 124, b] = .ok (.alt [litS a.toNat, litS b.toNat]) := by
  rw [rexp_ascii (fun c hc => low_two ha hb (by simp at hc; rcases hc with rfl | rfl | rfl <;> simp)) (by simp)]
  exact read_alt ha hb
theorem cls_parse4 : rexpP [91, a, b, 93, 42] = .ok (.rep (.set (twoR a.toNat b.toNat)) 0 none) := by
  rw [rexp_ascii (fun c hc => low_two ha hb (by simp at hc; rcases hc with rfl | rfl | rfl | rfl | rfl <;> simp)) (by simp)]
  exact read_star (class_two ha hb [42])
theorem cls_parse5 : rexpP [91, 94, a, b, 93, 42] = .ok (.rep (.set (othersR (twoR a.toNat b.toNat))) 0 none) := by
  rw [rexp_ascii (fun c hc => low_two ha hb (by simp at hc; rcases hc with rfl | rfl | rfl | rfl | rfl | rfl <;> simp)) (by simp)]
  exact read_star (class_not ha hb [42])
end
end Garner
