import Derived.Test.YtmcacicopgckmaaGreatDoorDg01
import Derived.Lib.ItoaNum
/-! Plain functions of layer 10: names of a log's files, what bytes hold, torn ends. -/
namespace Garner
open Go

/-- the number that digits say -/
def digVal (l : Bs) : Nat := l.foldl (fun a c => 10 * a + (c.toNat - 48)) 0
theorem digVal_snoc (l : Bs) (c : UInt8) : digVal (l ++ [c]) = 10 * digVal l + (c.toNat - 48) := by simp [digVal]
theorem dig_val {i : Nat} (h : i < 10) : (UInt8.ofNat (48 + i)).toNat = 48 + i := ofNat_toNat (by omega)
theorem digVal_dec : ∀ (n : Nat), digVal (Lib.decDigits n) = n := by
  intro n
  induction n using Nat.strongRecOn with
  | ind n ih =>
    rw [Lib.decDigits]
    split
    · rename_i h
      simp only [digVal, List.foldl_cons, List.foldl_nil, dig_val h]; omega
    · rename_i h
      rw [digVal_snoc, ih (n / 10) (by omega), dig_val (Nat.mod_lt _ (by omega))]; omega
theorem dec_inj {a b : Nat} (h : Lib.decDigits a = Lib.decDigits b) : a = b := by rw [← digVal_dec a, h, digVal_dec]
theorem dec_digits : ∀ (n : Nat), ∀ c ∈ Lib.decDigits n, 48 ≤ c.toNat ∧ c.toNat ≤ 57 := by
  intro n
  induction n using Nat.strongRecOn with
  | ind n ih =>
    intro c hc
    rw [Lib.decDigits] at hc
    split at hc
    · rename_i h
      rw [List.mem_singleton] at hc; subst hc
      rw [dig_val h]; omega
    · rename_i h
      rcases List.mem_append.1 hc with hc | hc
      · exact ih (n / 10) (by omega) c hc
      · rw [List.mem_singleton] at hc; subst hc
        rw [dig_val (Nat.mod_lt _ (by omega))]; omega
theorem dec_len_le : ∀ (k n : Nat), n < 10 ^ (k + 1) → (Lib.decDigits n).length ≤ k + 1 := by
  intro k
  induction k with
  | zero => intro n h; rw [Lib.decDigits, dif_pos (by omega)]; simp
  | succ k ih =>
    intro n h
    rw [Lib.decDigits]
    split
    · simp
    · rw [List.length_append]
      have := ih (n / 10) (by rw [Nat.pow_succ] at h; omega)
      simp; omega
theorem dec_len {n : Nat} (h : n ≤ 1000000000) : (Lib.decDigits n).length ≤ 10 := dec_len_le 9 n (by omega)

/-- a frame's bytes -/
def frB (p : Bs) : Bs := put1 p.length ++ p ++ four (crc p)
/-- what bytes hold -/
def heldA : Nat → Bs → Nat → List Bs
  | 0, _, _ => []
  | f + 1, b, at_ => match fread b at_ with
    | .error _ => []
    | .ok (p, k) => p :: heldA f b k
def held (b : Bs) : List Bs := heldA (b.length + 1) b 0
/-- a row of frames -/
def flat (ps : List Bs) : Bs := ps.flatMap frB
end Garner

