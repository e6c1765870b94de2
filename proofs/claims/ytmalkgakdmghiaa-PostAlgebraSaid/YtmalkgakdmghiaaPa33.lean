import Derived.Test.YtmalkgakdmghiaaPa12
import Derived.Lib.SlicesCompact
/-! layer 11, plain: sets of numbers as rising lists -/
namespace Garner
open Go

def Ascn (l : List Nat) : Prop := l.Pairwise (· < ·)
theorem Ascn.nodup {l : List Nat} (h : Ascn l) : l.Nodup := List.Pairwise.imp (fun h => Nat.ne_of_lt h) h
theorem ascn_ext : ∀ {a b : List Nat}, Ascn a → Ascn b → (∀ x, x ∈ a ↔ x ∈ b) → a = b
  | [], [], _, _, _ => rfl
  | [], y :: _, _, _, h => absurd ((h y).2 (by simp)) (by simp)
  | x :: _, [], _, _, h => absurd ((h x).1 (by simp)) (by simp)
  | x :: a, y :: b, ha, hb, h => by
    have ha' := List.pairwise_cons.1 ha
    have hb' := List.pairwise_cons.1 hb
    have e : x = y := by
      rcases List.mem_cons.1 ((h x).1 (by simp)) with e | e
      · exact e
      · rcases List.mem_cons.1 ((h y).2 (by simp)) with e2 | e2
        · exact e2.symm
        · have := ha'.1 _ e2; have := hb'.1 _ e; omega
    subst e
    rw [ascn_ext ha'.2 hb'.2 fun z => ?_]
    constructor
    · intro hz
      rcases List.mem_cons.1 ((h z).1 (by simp [hz])) with e | e
      · subst e; exact absurd (ha'.1 _ hz) (Nat.lt_irrefl _)
      · exact e
    · intro hz
      rcases List.mem_cons.1 ((h z).2 (by simp [hz])) with e | e
      · subst e; exact absurd (hb'.1 _ hz) (Nat.lt_irrefl _)
      · exact e
theorem Ascn.filter {l : List Nat} (h : Ascn l) (p : Nat → Bool) : Ascn (l.filter p) := List.Pairwise.filter p h

/-- what is told once: of a sorted list each number once -/
def once : List Nat → List Nat
  | a :: b :: r => if a = b then once (b :: r) else a :: once (b :: r)
  | l => l
theorem mem_once : ∀ (l : List Nat) (x : Nat), x ∈ once l ↔ x ∈ l
  | [], x => by simp [once]
  | [_], x => by simp [once]
  | a :: b :: r, x => by
    rw [once]
    split
    · next h => subst h; rw [mem_once (a :: r)]; simp
    · rw [List.mem_cons, mem_once (b :: r)]; simp
theorem once_asc : ∀ {l : List Nat}, l.Pairwise (· ≤ ·) → Ascn (once l)
  | [], _ => List.Pairwise.nil
  | [_], _ => by simp [once, Ascn]
  | a :: b :: r, h => by
    have h' := List.pairwise_cons.1 h
    rw [once]
    split
    · exact once_asc h'.2
    · next hne =>
      refine List.Pairwise.cons (fun x hx => ?_) (once_asc h'.2)
      have hx2 := (mem_once _ _).1 hx
      have h1 := h'.1 b (by simp)
      rcases List.mem_cons.1 hx2 with e | e
      · subst e; omega
      · have := (List.pairwise_cons.1 h'.2).1 _ e; omega
/-- Or of lists, laid together -/
def orP (l : List Nat) : List Nat := once (l.mergeSort fun a b => decide (a ≤ b))
theorem sorted_ms (l : List Nat) : (l.mergeSort fun a b => decide (a ≤ b)).Pairwise (· ≤ ·) := by
  have := List.pairwise_mergeSort (le := fun a b : Nat => decide (a ≤ b)) (fun a b c h1 h2 => by simp at *; omega) (fun a b => by simp; omega) l
  exact this.imp fun h => by simpa using h
theorem orP_asc (l : List Nat) : Ascn (orP l) := once_asc (sorted_ms l)
theorem mem_orP (l : List Nat) (x : Nat) : x ∈ orP l ↔ x ∈ l := by unfold orP; rw [mem_once, List.mem_mergeSort]
def andP (a b : List Nat) : List Nat := (orP a).filter fun x => decide (x ∈ orP b)
theorem andP_asc (a b : List Nat) : Ascn (andP a b) := (orP_asc a).filter _
theorem mem_andP (a b : List Nat) (x : Nat) : x ∈ andP a b ↔ x ∈ a ∧ x ∈ b := by
  unfold andP; rw [List.mem_filter, mem_orP, decide_eq_true_eq, mem_orP]

theorem andP_comm (a b : List Nat) : andP b a = andP a b := ascn_ext (andP_asc _ _) (andP_asc _ _) fun x => by simp only [mem_andP]; exact and_comm
theorem orP_comm (a b : List Nat) : orP (b ++ a) = orP (a ++ b) := ascn_ext (orP_asc _) (orP_asc _) fun x => by simp only [mem_orP, List.mem_append]; exact or_comm
theorem andP_in (a b : List Nat) : andP (andP a b) (orP (a ++ b)) = andP a b := ascn_ext (andP_asc _ _) (andP_asc _ _) fun x => by
  simp only [mem_andP, mem_orP, List.mem_append]
  constructor
  · exact fun h => h.1
  · exact fun h => ⟨h, .inl h.1⟩
theorem orP_in (a b : List Nat) : orP (andP a b ++ orP (a ++ b)) = orP (a ++ b) := ascn_ext (orP_asc _) (orP_asc _) fun x => by
  simp only [mem_andP, mem_orP, List.mem_append]
  constructor
  · rintro (h | h)
    · exact .inl h.1
    · exact h
  · exact .inr
theorem andP_or (a b c : List Nat) : andP a (orP (b ++ c)) = orP (andP a b ++ andP a c) := ascn_ext (andP_asc _ _) (orP_asc _) fun x => by
  simp only [mem_andP, mem_orP, List.mem_append]
  constructor
  · rintro ⟨h, h2 | h2⟩
    · exact .inl ⟨h, h2⟩
    · exact .inr ⟨h, h2⟩
  · rintro (h | h)
    · exact ⟨h.1, .inl h.2⟩
    · exact ⟨h.1, .inr h.2⟩
theorem filter_len (l : List Nat) (p : Nat → Bool) : (l.filter p).length + (l.filter fun x => !p x).length = l.length := by
  induction l with
  | nil => rfl
  | cons x l ih =>
    cases h : p x <;> simp [h] <;> omega
theorem count_law (a b : List Nat) : (andP a b).length + (orP (a ++ b)).length = (orP a).length + (orP b).length := by
  have h1 : (orP (a ++ b)).length = (orP a ++ (orP b).filter fun x => !decide (x ∈ orP a)).length := by
    apply List.Perm.length_eq
    rw [List.perm_ext_iff_of_nodup (orP_asc _).nodup]
    · intro x
      simp only [mem_orP, List.mem_append, List.mem_filter, Bool.not_eq_true', decide_eq_false_iff_not]
      by_cases h : x ∈ a <;> simp [h]
    · rw [List.nodup_append]
      refine ⟨(orP_asc _).nodup, ((orP_asc b).filter _).nodup, fun x hx y hy e => ?_⟩
      subst e
      simp only [List.mem_filter, Bool.not_eq_true', decide_eq_false_iff_not] at hy
      exact hy.2 hx
  have h2 := filter_len (orP b) fun x => decide (x ∈ orP a)
  have h3 : (orP b).filter (fun x => decide (x ∈ orP a)) = andP a b := by rw [← andP_comm]; rfl
  rw [h3] at h2
  rw [h1, List.length_append]
  omega
/-- what the library's Compact tells of a sorted row -/
theorem once_unique {l m : List Nat} (hm : Ascn m) (h : ∀ x, x ∈ m ↔ x ∈ l) : m = orP l := ascn_ext hm (orP_asc _) fun x => by rw [h, mem_orP]
end Garner
