import Derived.Test.YtcjapjnhejenaaaDoorHtQ
import Derived.Lib.SplitLaws
import Derived.Lib.ValidLaws
/-! http, plain: the library's words told by one's own -/
namespace Garner
open Go

theorem index_nil1 (c : UInt8) : Lib.index [] [c] = -1 := rfl
theorem index_eq1 (c : UInt8) (r : Bs) : Lib.index (c :: r) [c] = 0 := by simp [Lib.index]
theorem index_ne1 {x c : UInt8} (r : Bs) (h : x ≠ c) : Lib.index (x :: r) [c] = if Lib.index r [c] = -1 then -1 else Lib.index r [c] + 1 := by
  have hn : ([c].isPrefixOf (x :: r)) = false := by
    have hcx : (c == x) = false := beq_eq_false_iff_ne.2 (Ne.symm h)
    simp [List.isPrefixOf, hcx]
  rw [Lib.index, if_neg (by rw [hn]; decide)]
  by_cases e : Lib.index r [c] = -1
  · rw [if_pos (by simp [e]), if_pos e]
  · rw [if_neg (by simp [e]), if_neg e]
theorem splitC_ne : ∀ (c : UInt8) (l : Bs), splitC c l ≠ []
  | c, [] => by simp [splitC]
  | c, x :: r => by
    unfold splitC
    split
    · simp
    · split <;> simp
theorem splitK_one (c : UInt8) : ∀ (l : Bs) (k : Nat), l.count c ≤ k → Lib.splitK [c] 0 k l = splitC c l
  | [], 0, _ => rfl
  | [], k + 1, _ => by
    rw [Lib.splitK, index_nil1]
    rfl
  | x :: r, k, h => by
    by_cases hx : x = c
    · subst hx
      rw [List.count_cons_self] at h
      obtain ⟨k', rfl⟩ : ∃ k', k = k' + 1 := ⟨k - 1, by omega⟩
      rw [Lib.splitK, index_eq1, if_neg (by decide), splitC, if_pos rfl]
      simp only [Int.toNat_zero, List.take_zero, List.length_singleton, Nat.zero_add, List.drop_succ_cons, List.drop_zero]
      rw [splitK_one x r k' (by omega)]
    · have h2 : r.count c ≤ k := by rwa [List.count_cons_of_ne hx] at h
      have ih := splitK_one c r k h2
      rw [splitC, if_neg hx, ← ih]
      cases k with
      | zero => rfl
      | succ k' =>
        rw [Lib.splitK, Lib.splitK, index_ne1 r hx]
        have hge := Lib.index_ge r [c]
        by_cases e : Lib.index r [c] = -1
        · rw [if_pos e, if_pos (by decide), if_pos (by simp [e])]
        · rw [if_neg e, if_neg (by simp; omega), if_neg (by simp [e])]
          have e2 : (Lib.index r [c] + 1).toNat = (Lib.index r [c]).toNat + 1 := by omega
          simp [e2]
theorem split_one (c : UInt8) (l : Bs) : Lib.splitK [c] 0 (Lib.count l [c]) l = splitC c l := splitK_one c l _ (by rw [Lib.count_one]; exact Nat.le_refl _)
theorem replaceK_one (c d : UInt8) : ∀ (l : Bs) (k : Nat), l.count c ≤ k → Lib.replaceK [c] [d] k l = l.map fun x => if x = c then d else x
  | [], 0, _ => rfl
  | [], k + 1, _ => by
    rw [Lib.replaceK, index_nil1]
    rfl
  | x :: r, k, h => by
    by_cases hx : x = c
    · subst hx
      rw [List.count_cons_self] at h
      obtain ⟨k', rfl⟩ : ∃ k', k = k' + 1 := ⟨k - 1, by omega⟩
      rw [Lib.replaceK, index_eq1, if_neg (by decide), List.map_cons, if_pos rfl]
      simp only [Int.toNat_zero, List.take_zero, List.length_singleton, Nat.zero_add, List.drop_succ_cons, List.drop_zero]
      rw [replaceK_one x d r k' (by omega)]
      rfl
    · have h2 : r.count c ≤ k := by rwa [List.count_cons_of_ne hx] at h
      have ih := replaceK_one c d r k h2
      rw [List.map_cons, if_neg hx, ← ih]
      cases k with
      | zero => rfl
      | succ k' =>
        rw [Lib.replaceK, Lib.replaceK, index_ne1 r hx]
        have hge := Lib.index_ge r [c]
        by_cases e : Lib.index r [c] = -1
        · rw [if_pos e, if_pos (by decide), if_pos (by simp [e])]
        · rw [if_neg e, if_neg (by simp; omega), if_neg (by simp [e])]
          have e2 : (Lib.index r [c] + 1).toNat = (Lib.index r [c]).toNat + 1 := by omega
          simp [e2]
theorem replace_plus (l : Bs) : Lib.replaceAll l [43] [32] = plusP l := by
  unfold Lib.replaceAll Lib.replace Lib.replaceNum plusP
  rw [if_neg (by decide), if_pos (.inl (by decide))]
  exact replaceK_one 43 32 l _ (by rw [Lib.count_one]; exact Nat.le_refl _)
theorem valid_ascii (l : Bs) (h : ∀ b ∈ l, b.toNat < 128) : Lib.validD l = true := by
  have := Lib.validD_ascii l.length l (fun b hb => h b (by rwa [List.take_length] at hb))
  rw [this, List.drop_length]
  rfl
theorem validP_eq (l : Bs) : validP l = Lib.validD l := by
  unfold validP
  split
  · rename_i h
    rw [valid_ascii l fun b hb => by simpa using List.all_eq_true.1 h b hb]
  · rfl
theorem lowEnc : ∀ b : Fin 128, (if 0 ≤ lowF (b.val : Int) then Lib.encodeRune (lowF (b.val : Int)) else []) = [lowB (UInt8.ofNat b.val)] := by decide +kernel
theorem mapD_ascii : ∀ (l : Bs) (n : Nat), l.length ≤ n → (∀ b ∈ l, b.toNat < 128) → Lib.mapGoD lowF n l = l.map lowB
  | [], 0, _, _ => rfl
  | [], _ + 1, _, _ => rfl
  | _ :: _, 0, h, _ => by simp at h
  | x :: r, n + 1, h, ha => by
    have hx := ha x (by simp)
    have ih := mapD_ascii r n (by simpa using h) fun b hb => ha b (by simp [hb])
    have := lowEnc ⟨x.toNat, hx⟩
    simp only [UInt8.ofNat_toNat] at this
    rw [Lib.mapGoD, if_neg (by simp), Lib.decodeL_ascii x r hx, this, List.map_cons]
    simp only [List.drop_succ_cons, List.drop_zero, ih]
    rfl
theorem lowP_eq (l : Bs) : lowP l = Lib.mapD lowF l := by
  unfold lowP
  split
  · rename_i h
    exact (mapD_ascii l _ (Nat.le_refl _) fun b hb => by simpa using List.all_eq_true.1 h b hb).symm
  · rfl
theorem tok_contains : ∀ b : Fin 256, Lib.contains tokSet (Utf8.encode (b.val : Int)).data.toList = tokSet.contains (UInt8.ofNat b.val) := by decide +kernel
end Garner
