import Derived.Test.YtmcacicopgckmaaGreatDoorLn01
import Derived.Lib.SlicesCompact
/-! texts in their order, each once, plain -/
namespace Garner
open Go
abbrev AscB (l : List Bs) : Prop := l.Pairwise (· < ·)
theorem ascB_uniq {l m : List Bs} (hl : AscB l) (hm : AscB m) (h : ∀ x, x ∈ l ↔ x ∈ m) : l = m := by
  have d1 : l.Nodup := hl.imp fun {a b} (h : a < b) => (fun e => List.lt_irrefl a (by rw [← e] at h; exact h) : a ≠ b)
  have d2 : m.Nodup := hm.imp fun {a b} (h : a < b) => (fun e => List.lt_irrefl a (by rw [← e] at h; exact h) : a ≠ b)
  have hp : l.Perm m := (List.perm_ext_iff_of_nodup d1 d2).2 h
  exact List.Perm.eq_of_pairwise (le := fun x y => x < y) (fun a b _ _ h1 h2 => absurd h2 (List.lt_asymm h1)) hl hm hp
def sortB (l : List Bs) : List Bs := l.mergeSort fun x y => decide (x ≤ y)
theorem sortB_le (l : List Bs) : (sortB l).Pairwise (· ≤ ·) := by
  have h : (sortB l).Pairwise fun x y => decide (x ≤ y) = true := List.pairwise_mergeSort (fun a b c h1 h2 => by simp only [decide_eq_true_eq] at *; exact List.le_trans h1 h2) (fun a b => by simp only [Bool.or_eq_true, decide_eq_true_eq]; exact List.le_total a b) l
  exact h.imp fun {a b} h => by simpa using h
theorem sortB_perm (l : List Bs) : (sortB l).Perm l := List.mergeSort_perm l _
theorem keepsB_low {d : Array Bs} : ∀ (j : Nat), ∃ k, k ≤ j ∧ Lib.keeps d k = true ∧ d[k]! = d[j]!
  | 0 => ⟨0, Nat.le_refl _, by simp [Lib.keeps], rfl⟩
  | j + 1 => by
    by_cases h : d[j + 1]! = d[j]!
    · obtain ⟨k, h1, h2, h3⟩ := keepsB_low (d := d) j
      exact ⟨k, by omega, h2, by rw [h3, h]⟩
    · exact ⟨j + 1, Nat.le_refl _, by simp [Lib.keeps, h], rfl⟩
theorem mem_compact (l : List Bs) (x : Bs) : x ∈ Lib.compact l ↔ x ∈ l := by
  unfold Lib.compact Lib.compactUpTo
  rw [List.mem_map]
  constructor
  · rintro ⟨j, hj, rfl⟩
    have hj2 : j < l.length := by simpa using (List.mem_filter.1 hj).1
    rw [getElem!_pos l.toArray j (by simpa using hj2)]
    simp
  · intro h
    obtain ⟨j, hj, rfl⟩ := List.mem_iff_getElem.1 h
    obtain ⟨k, h1, h2, h3⟩ := keepsB_low (d := l.toArray) j
    refine ⟨k, List.mem_filter.2 ⟨by simp; omega, h2⟩, ?_⟩
    rw [h3, getElem!_pos l.toArray j (by simpa using hj)]
    simp
theorem ltB_of_le_ne {a b : Bs} (h : a ≤ b) (hne : a ≠ b) : a < b := by
  rcases Decidable.em (a < b) with h1 | h1
  · exact h1
  · exact absurd (List.le_antisymm h (List.not_lt.1 h1)) hne
theorem ltB_of_le_lt {a b c : Bs} (h1 : a ≤ b) (h2 : b < c) : a < c := by
  by_cases e : a = b
  · rw [e]; exact h2
  · exact List.lt_trans (ltB_of_le_ne h1 e) h2
theorem compact_asc {l : List Bs} (h : l.Pairwise (· ≤ ·)) : AscB (Lib.compact l) := by
  unfold Lib.compact Lib.compactUpTo AscB
  rw [List.pairwise_map]
  have hr : (List.range l.length).Pairwise (· < ·) := List.pairwise_lt_range
  have h2 := (hr.filter (Lib.keeps l.toArray))
  refine List.Pairwise.imp_of_mem ?_ h2
  intro i j hi hj hij
  have hj2 : j < l.length := by simpa using (List.mem_filter.1 hj).1
  have hk := (List.mem_filter.1 hj).2
  have e : ∀ k (hk : k < l.length), l.toArray[k]! = l[k] := fun k hk => by rw [getElem!_pos l.toArray k (by simpa using hk)]; simp
  have hk2 : l.toArray[j]! ≠ l.toArray[j - 1]! := by
    simp only [Lib.keeps, decide_eq_true_eq] at hk
    rcases hk with h | h
    · omega
    · exact h
  rw [e j hj2, e (j - 1) (by omega)] at hk2
  rw [e i (by omega), e j hj2]
  have h3 := List.pairwise_iff_getElem.1 h (j - 1) j (by omega) hj2 (by omega)
  have h5 : l[j - 1] < l[j] := ltB_of_le_ne h3 fun e => hk2 e.symm
  by_cases e2 : i = j - 1
  · subst e2; exact h5
  · have h4 := List.pairwise_iff_getElem.1 h i (j - 1) (by omega) (by omega) (by omega)
    exact ltB_of_le_lt h4 h5
/-- a list's texts, in order, each once -/
def onceB (l : List Bs) : List Bs := Lib.compact (sortB l)
theorem onceB_asc (l : List Bs) : AscB (onceB l) := compact_asc (sortB_le l)
theorem mem_onceB (l : List Bs) (x : Bs) : x ∈ onceB l ↔ x ∈ l := by unfold onceB; rw [mem_compact, (sortB_perm l).mem_iff]
theorem onceB_eq {l m : List Bs} (h : ∀ x, x ∈ l ↔ x ∈ m) : onceB l = onceB m := ascB_uniq (onceB_asc l) (onceB_asc m) fun x => by rw [mem_onceB, mem_onceB, h x]
theorem compact_len (l : List Bs) : (Lib.compact l).length ≤ l.length := by
  unfold Lib.compact Lib.compactUpTo
  rw [List.length_map]
  exact Nat.le_trans (List.length_filter_le _ _) (by simp)
/-- as the document tells once: put in, one by one -/
def insO (x : Bs) : List Bs → List Bs
  | [] => [x]
  | y :: r => if y < x then y :: insO x r else if y = x then y :: r else x :: y :: r
theorem mem_insO {x z : Bs} : ∀ {l : List Bs}, z ∈ insO x l ↔ z = x ∨ z ∈ l
  | [] => by simp [insO]
  | y :: r => by
    rw [insO]
    split
    · rw [List.mem_cons, mem_insO (l := r), List.mem_cons]
      constructor
      · rintro (h | h | h)
        · exact .inr (.inl h)
        · exact .inl h
        · exact .inr (.inr h)
      · rintro (h | h | h)
        · exact .inr (.inl h)
        · exact .inl h
        · exact .inr (.inr h)
    · split
      · rename_i h; subst h
        rw [List.mem_cons]
        constructor
        · exact .inr
        · rintro (h | h)
          · exact .inl h
          · exact h
      · rw [List.mem_cons]
theorem insO_asc {x : Bs} : ∀ {l : List Bs}, AscB l → AscB (insO x l)
  | [], _ => by simp [insO]
  | y :: r, h => by
    obtain ⟨h1, h2⟩ := List.pairwise_cons.1 h
    rw [insO]
    split
    · rename_i hy
      refine List.pairwise_cons.2 ⟨fun z hz => ?_, insO_asc h2⟩
      rcases mem_insO.1 hz with rfl | hz
      · exact hy
      · exact h1 z hz
    · split
      · exact h
      · rename_i hy hne
        have hxy : x < y := ltB_of_le_ne (List.not_lt.1 hy) fun e => hne e.symm
        refine List.pairwise_cons.2 ⟨fun z hz => ?_, h⟩
        rcases List.mem_cons.1 hz with rfl | hz
        · exact hxy
        · exact List.lt_trans hxy (h1 z hz)
def onceR (l : List Bs) : List Bs := l.foldl (fun out x => insO x out) []
theorem onceR_snoc (l : List Bs) (x : Bs) : onceR (l ++ [x]) = insO x (onceR l) := by simp [onceR]
theorem onceR_spec (l : List Bs) : AscB (onceR l) ∧ ∀ x, x ∈ onceR l ↔ x ∈ l := by
  have key : ∀ (l out : List Bs), AscB out → AscB (l.foldl (fun out x => insO x out) out) ∧ ∀ x, x ∈ l.foldl (fun out x => insO x out) out ↔ x ∈ out ∨ x ∈ l := by
    intro l
    induction l with
    | nil => intro out h; exact ⟨h, fun x => by simp⟩
    | cons a r ih =>
      intro out h
      obtain ⟨h1, h2⟩ := ih (insO a out) (insO_asc h)
      refine ⟨h1, fun x => ?_⟩
      rw [List.foldl_cons, h2, mem_insO, List.mem_cons]
      constructor
      · rintro ((h | h) | h)
        · exact .inr (.inl h)
        · exact .inl h
        · exact .inr (.inr h)
      · rintro (h | h | h)
        · exact .inl (.inr h)
        · exact .inl (.inl h)
        · exact .inr h
  obtain ⟨h1, h2⟩ := key l [] .nil
  exact ⟨h1, fun x => by have := h2 x; simp at this; exact this⟩
theorem onceR_eq (l : List Bs) : onceR l = onceB l := ascB_uniq (onceR_spec l).1 (onceB_asc l) fun x => by rw [(onceR_spec l).2, mem_onceB]
theorem insO_split {x : Bs} : ∀ {a b : List Bs}, (∀ y ∈ a, y < x) → (∀ y, b.head? = some y → ¬ y < x) → insO x (a ++ b) = a ++ (if b.head? = some x then b else x :: b)
  | [], [], _, _ => by simp [insO]
  | [], y :: r, _, h => by
    have hy := h y rfl
    rw [List.nil_append, List.nil_append, insO, if_neg hy]
    by_cases e : y = x
    · subst e; simp
    · rw [if_neg e, if_neg (by simpa using e)]
  | y :: a, b, h1, h2 => by
    rw [List.cons_append, insO, if_pos (h1 y (by simp)), insO_split (fun z hz => h1 z (by simp [hz])) h2]
    rfl
end Garner

