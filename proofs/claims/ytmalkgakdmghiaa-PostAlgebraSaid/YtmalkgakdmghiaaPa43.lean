import Derived.Test.YtmalkgakdmghiaaPa42
/-! layer 11: heads of a list, as cells; what an open list is -/
namespace Go.Proofs.Ytmalkgakdmghiaa
open Go.RowKit Go.Shelf Garner

theorem hdE : Elem Try.prog 45 65 (.agg #[.int .u64 0, .int .i64 0, .int .i64 0]) 3 24 := ⟨Try.underlying45, by kernel_rfl, rfl, by omega, by omega⟩

/-- where a block begins -/
def atB (base : Nat) (bs : List (List Nat)) (k : Nat) : Nat := base + (bodyB (bs.take k)).length
def hdF (bs : List (List Nat)) (base k i : Nat) : Value :=
  if i % 3 = 0 then .int .u64 ((lastN (bs[i / 3]?.getD []) : Nat) : Int)
  else if i / 3 < k then (if i % 3 = 1 then .int .i64 ((atB base bs (i / 3) : Nat) : Int) else .int .i64 ((atB base bs (i / 3 + 1) : Nat) : Int))
  else .int .i64 0
def hdC (bs : List (List Nat)) (base k n : Nat) : List Value := (List.range (3 * n)).map (hdF bs base k)
theorem hdC_len (bs : List (List Nat)) (base k n : Nat) : (hdC bs base k n).length = 3 * n := by simp [hdC]
theorem hdC_at (bs : List (List Nat)) (base k n i : Nat) (h : i < 3 * n) : (hdC bs base k n)[i]? = some (hdF bs base k i) := by
  simp [hdC, h]
theorem hdC_zero (bs : List (List Nat)) (b b' n : Nat) : hdC bs b 0 n = hdC bs b' 0 n := by
  unfold hdC hdF; simp
theorem hdC_snoc (bs : List (List Nat)) (base n : Nat) : hdC bs base 0 (n + 1) = hdC bs base 0 n ++ [.int .u64 ((lastN (bs[n]?.getD []) : Nat) : Int), .int .i64 0, .int .i64 0] := by
  unfold hdC
  rw [show 3 * (n + 1) = 3 * n + 1 + 1 + 1 by omega, List.range_succ, List.range_succ, List.range_succ, List.map_append, List.map_append, List.map_append, List.append_assoc, List.append_assoc]
  congr 1
  have e0 : hdF bs base 0 (3 * n) = .int .u64 ((lastN (bs[n]?.getD []) : Nat) : Int) := by
    unfold hdF; rw [if_pos (by omega), show 3 * n / 3 = n by omega]
  have e1 : hdF bs base 0 (3 * n + 1) = .int .i64 0 := by unfold hdF; rw [if_neg (by omega), if_neg (by omega)]
  have e2 : hdF bs base 0 (3 * n + 1 + 1) = .int .i64 0 := by unfold hdF; rw [if_neg (by omega), if_neg (by omega)]
  simp [e0, e1, e2]
theorem hdC_set (bs : List (List Nat)) (base k n : Nat) (_ : k < n) : ((hdC bs base k n).set (3 * k + 1) (.int .i64 ((atB base bs k : Nat) : Int))).set (3 * k + 2) (.int .i64 ((atB base bs (k + 1) : Nat) : Int)) = hdC bs base (k + 1) n := by
  apply List.ext_getElem
  · simp [hdC]
  · intro i h1 h2
    have hi : i < 3 * n := by simpa [hdC] using h2
    rw [List.getElem_set, List.getElem_set]
    simp only [hdC, List.getElem_map, List.getElem_range]
    unfold hdF
    by_cases e0 : i % 3 = 0
    · rw [if_neg (by omega), if_neg (by omega), if_pos e0, if_pos e0]
    · rw [if_neg e0, if_neg e0]
      by_cases e1 : i % 3 = 1
      · rw [if_neg (by omega), if_pos e1]
        by_cases e2 : i / 3 = k
        · rw [if_pos (by omega), if_pos (by omega), e2]
        · rw [if_neg (by omega)]
          by_cases e3 : i / 3 < k
          · rw [if_pos e3, if_pos (by omega)]
          · rw [if_neg e3, if_neg (by omega)]
      · rw [if_neg e1]
        by_cases e2 : i / 3 = k
        · rw [if_pos (by omega), if_pos (by omega), e2]
        · rw [if_neg (by omega), if_neg (by omega)]
          by_cases e3 : i / 3 < k
          · rw [if_pos e3, if_pos (by omega)]
          · rw [if_neg e3, if_neg (by omega)]
theorem atB_succ {base k : Nat} {bs : List (List Nat)} (h : k < bs.length) : atB base bs (k + 1) = atB base bs k + (packB bs[k]).length := by
  unfold atB; rw [bodyB_take h, List.length_append, Nat.add_assoc]
theorem atB_all (base : Nat) (bs : List (List Nat)) : atB base bs bs.length = base + (bodyB bs).length := by unfold atB; rw [List.take_length]
theorem atB_le {base k n : Nat} {bs : List (List Nat)} (h : k ≤ n) : atB base bs k ≤ atB base bs n := by
  unfold atB
  rw [show bs.take k = (bs.take n).take k by rw [List.take_take, Nat.min_eq_left h]]
  have := bodyB_split (bs.take n) k
  have h2 := congrArg List.length this
  rw [List.length_append] at h2
  omega
theorem atB_end {base k : Nat} {bs : List (List Nat)} : atB base bs k ≤ base + (bodyB bs).length := by
  unfold atB
  have h2 := congrArg List.length (bodyB_split bs k)
  rw [List.length_append] at h2
  omega

/-- the blocks that post.Write writes -/
structure BlksOk (bs : List (List Nat)) : Prop where
  n : bs.length ≤ 2048
  ok : ∀ p ∈ bs, p ≠ [] ∧ p.length ≤ 32 ∧ risingB p = true ∧ (∀ x ∈ p, x < 18446744073709551616) ∧ lastN p < 18446744073709551616 ∧ (packB p).length ≤ 1000
/-- what they are as bytes -/
def bytesB (bs : List (List Nat)) : Bs := put1 bs.length ++ (headB bs ++ bodyB bs)
theorem postB_eq (l : List Nat) : postB l = bytesB (blocks (nBlk l) l) := by unfold postB bytesB; rw [blocks_len]
theorem BlksOk.len {bs : List (List Nat)} (h : BlksOk bs) : (bytesB bs).length ≤ 5000000 := by
  have h1 := headB_len bs fun p hp => ⟨(h.ok p hp).2.2.2.2.1, (h.ok p hp).2.2.2.2.2⟩
  have h2 := put1_len (n := bs.length) (by have := h.n; omega)
  have := h.n
  unfold bytesB; rw [List.length_append, List.length_append]; omega
theorem blksOk {l : List Nat} (hl : l.length ≤ 65536) (hr : risingB l = true) (hn : ∀ n ∈ l, n < 18446744073709551616) : BlksOk (blocks (nBlk l) l) := by
  refine ⟨by rw [blocks_len]; unfold nBlk; omega, fun p hp => ?_⟩
  obtain ⟨k, hk, rfl⟩ := List.mem_iff_getElem.1 hp
  have hk2 : k < nBlk l := by rw [blocks_len] at hk; exact hk
  have hkl : 32 * k < l.length := by unfold nBlk at hk2; omega
  have hpk := partN_ok hn k
  rw [blocks_at]
  refine ⟨fun e => ?_, by rw [List.length_take]; omega, pw_rising (((rising_pw hr).drop).take), fun x hx => hn x (List.mem_of_mem_drop (List.mem_of_mem_take hx)), hpk.1, hpk.2⟩
  have := congrArg List.length e
  simp at this; omega
theorem blocks_join {l : List Nat} : (blocks (nBlk l) l).flatten = l := blocks_flat _ _ (by unfold nBlk; omega)
theorem heads_get {bs : List (List Nat)} {k : Nat} (h : k < bs.length) (h1 : lastN bs[k] < 18446744073709551616) (h2 : (packB bs[k]).length < 18446744073709551616) : ∃ a1, vget (bytesB bs) ((put1 bs.length).length + (headB (bs.take k)).length) = .ok (lastN bs[k], a1) ∧
    vget (bytesB bs) a1 = .ok ((packB bs[k]).length, (put1 bs.length).length + (headB (bs.take (k + 1))).length) ∧ a1 ≤ (bytesB bs).length := by
  obtain ⟨r, hr⟩ : ∃ r, bytesB bs = (put1 bs.length ++ headB (bs.take k)) ++ (put1 (lastN bs[k]) ++ (put1 (packB bs[k]).length ++ r)) := by
    refine ⟨headB (bs.drop (k + 1)) ++ bodyB bs, ?_⟩
    unfold bytesB
    rw [headB_split bs k, headB_drop h]
    simp only [List.append_assoc]
  refine ⟨(put1 bs.length ++ headB (bs.take k)).length + (put1 (lastN bs[k])).length, ?_, ?_, ?_⟩
  · rw [hr, ← List.length_append]; exact vget_put1 _ _ _ h1
  · have e : (put1 bs.length).length + (headB (bs.take (k + 1))).length = ((put1 bs.length ++ headB (bs.take k)) ++ put1 (lastN bs[k])).length + (put1 (packB bs[k]).length).length := by
      rw [headB_take h]; simp only [List.length_append]; omega
    rw [hr, e, ← List.append_assoc, ← List.length_append]
    exact vget_put1 _ _ _ h2
  · rw [hr]; simp only [List.length_append]; omega
end Go.Proofs.Ytmalkgakdmghiaa
