import Derived.Test.YtmalkgakdmghiaaPa01
/-! bits in bytes, as plain functions -/
namespace Garner
def bitOf (b : Bs) (p : Nat) : Bool := ((b[p / 8]?).getD 0).toNat.testBit (p % 8)
def setBit (b : Bs) (p : Nat) (v : Bool) : Bs := b.modify (p / 8) (fun c => UInt8.ofNat (c.toNat ||| (if v then 2 ^ (p % 8) else 0)))
theorem setBit_len (b : Bs) (p : Nat) (v : Bool) : (setBit b p v).length = b.length := by unfold setBit; simp
theorem or_lt {c : UInt8} {p : Nat} {v : Bool} : c.toNat ||| (if v then 2 ^ (p % 8) else 0) < 256 := by
  have h1 : c.toNat < 2 ^ 8 := c.toNat_lt
  have h2 : (if v then 2 ^ (p % 8) else 0) < 2 ^ 8 := by
    split
    · exact Nat.pow_lt_pow_right (by omega) (by omega)
    · omega
  exact Nat.or_lt_two_pow h1 h2
theorem bitOf_setBit (b : Bs) (p : Nat) (v : Bool) (q : Nat) (hp : p / 8 < b.length) : bitOf (setBit b p v) q = if q = p then (bitOf b q || v) else bitOf b q := by
  unfold bitOf setBit
  rw [List.getElem?_modify]
  by_cases e : p / 8 = q / 8
  · have hq : q / 8 < b.length := by omega
    rw [List.getElem?_eq_getElem hq]
    simp only [Option.map_eq_map, Option.map_some, Option.getD_some]
    rw [if_pos e]
    rw [ofNat_toNat or_lt, Nat.testBit_or]
    by_cases e2 : q = p
    · subst e2
      rw [if_pos rfl]
      cases v <;> simp
    · rw [if_neg e2]
      have : q % 8 ≠ p % 8 := by omega
      cases v
      · simp
      · simp [Ne.symm this]
  · have : q ≠ p := fun h => e (by rw [h])
    rw [if_neg this]
    cases b[q / 8]? <;> simp [e]
/-- the first k bits of x, from a place on -/
def putN (b : Bs) (at_ : Nat) (x : Nat) : Nat → Bs
  | 0 => b
  | k + 1 => setBit (putN b at_ x k) (at_ + k) (x.testBit k)
theorem putN_len (b : Bs) (a x k : Nat) : (putN b a x k).length = b.length := by
  induction k with
  | zero => rfl
  | succ k ih => rw [putN, setBit_len, ih]
theorem bitOf_putN (b : Bs) (a x : Nat) : ∀ (k q : Nat), (∀ j, j < k → (a + j) / 8 < b.length) → bitOf (putN b a x k) q = if a ≤ q ∧ q < a + k then (bitOf b q || x.testBit (q - a)) else bitOf b q
  | 0, q, _ => by rw [putN, if_neg (by omega)]
  | k + 1, q, h => by
    rw [putN, bitOf_setBit _ _ _ _ (by rw [putN_len]; exact h k (by omega)), bitOf_putN b a x k q (fun j hj => h j (by omega))]
    by_cases e : q = a + k
    · subst e
      rw [if_pos rfl, if_neg (by omega), if_pos (by omega)]
      simp
    · rw [if_neg e]
      by_cases e2 : a ≤ q ∧ q < a + k
      · rw [if_pos e2, if_pos (by omega)]
      · rw [if_neg e2, if_neg (by omega)]
def getN (b : Bs) (at_ : Nat) : Nat → Nat
  | 0 => 0
  | k + 1 => getN b at_ k ||| (if bitOf b (at_ + k) then 2 ^ k else 0)
theorem testBit_getN (b : Bs) (a : Nat) : ∀ (k j : Nat), (getN b a k).testBit j = (decide (j < k) && bitOf b (a + j))
  | 0, j => by simp [getN]
  | k + 1, j => by
    rw [getN, Nat.testBit_or, testBit_getN b a k j]
    by_cases e : j = k
    · subst e
      cases h : bitOf b (a + j) <;> simp
    · have : decide (j < k + 1) = decide (j < k) := by rw [decide_eq_decide]; omega
      rw [this]
      cases h : bitOf b (a + k) <;> simp [Ne.symm e]
theorem getN_lt (b : Bs) (a k : Nat) : getN b a k < 2 ^ k := by
  refine Nat.lt_pow_two_of_testBit _ fun i hi => ?_
  rw [testBit_getN]
  simp [Nat.not_lt.2 hi]
/-- gaps of w bits each, one behind the other -/
def packN (w : Nat) (b : Bs) (ds : List Nat) : Nat → Bs
  | 0 => b
  | k + 1 => putN (packN w b ds k) (k * w) (ds[k]?.getD 0) w
theorem packN_len (w : Nat) (b : Bs) (ds : List Nat) (k : Nat) : (packN w b ds k).length = b.length := by
  induction k with
  | zero => rfl
  | succ k ih => rw [packN, putN_len, ih]
def szN (n w : Nat) : Nat := (n * w + 7) / 8
theorem bitOf_zeros (n q : Nat) : bitOf (List.replicate n 0) q = false := by
  unfold bitOf
  rw [List.getElem?_replicate]
  split <;> simp
theorem bitOf_packN (w : Nat) (ds : List Nat) (L : Nat) (hL : ∀ k, k < ds.length → ((k + 1) * w + 7) / 8 ≤ L) (hw : ∀ d ∈ ds, d < 2 ^ w) : ∀ (k : Nat), k ≤ ds.length → ∀ q, bitOf (packN w (List.replicate L 0) ds k) q = if q < k * w then ((ds[q / w]?).getD 0).testBit (q % w) else false
  | 0, _, q => by rw [packN, bitOf_zeros, if_neg (by omega)]
  | k + 1, hk, q => by
    have h1 := hL k (by omega)
    rw [packN, bitOf_putN _ _ _ _ _ (fun j hj => by
      rw [packN_len, List.length_replicate]
      have : (k + 1) * w = k * w + w := by rw [Nat.add_mul, Nat.one_mul]
      omega), bitOf_packN w ds L hL hw k (by omega) q]
    have e1 : (k + 1) * w = k * w + w := by rw [Nat.add_mul, Nat.one_mul]
    by_cases e : k * w ≤ q ∧ q < k * w + w
    · rw [if_pos e, if_neg (by omega), if_pos (by omega)]
      have hwp : 0 < w := by omega
      have e2 : q / w = k := by
        rw [Nat.div_eq_iff hwp]
        have : k * w = w * k := Nat.mul_comm _ _
        constructor
        · omega
        · omega
      have e3 : q % w = q - k * w := by
        have := Nat.mod_add_div q w
        rw [e2] at this
        have h5 : w * k = k * w := Nat.mul_comm _ _
        omega
      rw [e2, e3]
      simp
    · rw [if_neg e]
      by_cases e2 : q < k * w
      · rw [if_pos e2, if_pos (by omega)]
      · rw [if_neg e2, if_neg (by omega)]
theorem getN_pack (w : Nat) (ds : List Nat) (L : Nat) (hL : ∀ k, k < ds.length → ((k + 1) * w + 7) / 8 ≤ L) (hw : ∀ d ∈ ds, d < 2 ^ w) {i : Nat} (hi : i < ds.length) : getN (packN w (List.replicate L 0) ds ds.length) (i * w) w = ds[i] := by
  apply Nat.eq_of_testBit_eq
  intro j
  rw [testBit_getN, bitOf_packN w ds L hL hw _ (Nat.le_refl _)]
  by_cases hj : j < w
  · have h1 : i * w + j < ds.length * w := by
      have : (i + 1) * w ≤ ds.length * w := Nat.mul_le_mul_right _ hi
      rw [Nat.add_mul, Nat.one_mul] at this
      omega
    have h2 : (i * w + j) / w = i := by rw [Nat.mul_comm, Nat.mul_add_div (by omega), Nat.div_eq_of_lt hj, Nat.add_zero]
    have h3 : (i * w + j) % w = j := by rw [Nat.mul_comm, Nat.mul_add_mod, Nat.mod_eq_of_lt hj]
    rw [if_pos h1, h2, h3, List.getElem?_eq_getElem hi]
    simp [hj]
  · have := hw _ (List.getElem_mem hi)
    have h4 : ds[i].testBit j = false := Nat.testBit_lt_two_pow (Nat.lt_of_lt_of_le this (Nat.pow_le_pow_right (by omega) (by omega)))
    rw [h4]; simp [hj]
theorem getN_rest (w : Nat) (ds : List Nat) (L : Nat) (hL : ∀ k, k < ds.length → ((k + 1) * w + 7) / 8 ≤ L) (hw : ∀ d ∈ ds, d < 2 ^ w) (m : Nat) : getN (packN w (List.replicate L 0) ds ds.length) (ds.length * w) m = 0 := by
  apply Nat.eq_of_testBit_eq
  intro j
  rw [testBit_getN, bitOf_packN w ds L hL hw _ (Nat.le_refl _), if_neg (by omega)]
  simp
end Garner
