import Derived.Test.YtmcacicopgckmaaGreatDoorLn06
/-! Patterns, plain: rows of states, as matching goes through them -/
namespace Garner
open Go

section
variable (ins : List InstP) (first last : Bool)
/-- a step without a rune -/
def EdgeR (pc q : Nat) : Prop := ∃ c, ins[pc]? = some c ∧ ((c.kind = 1 ∧ (q = c.x ∨ q = c.y)) ∨ (c.kind = 2 ∧ first = true ∧ q = c.x) ∨ (c.kind = 3 ∧ last = true ∧ q = c.x))
inductive ReachR : Nat → Nat → Prop
  | here (a : Nat) : ReachR a a
  | step {a b c : Nat} : EdgeR ins first last a b → ReachR b c → ReachR a c
/-- an instruction that stays in a state -/
def KeptR (pc : Nat) : Prop := ∃ c, ins[pc]? = some c ∧ c.kind ≠ 1 ∧ c.kind ≠ 2 ∧ ¬ (c.kind = 3 ∧ last = true)
def InClos (from_ : List Nat) (pc : Nat) : Prop := (∃ a ∈ from_, ReachR ins first last a pc) ∧ KeptR ins last pc
/-- what may come next from some instructions on, in order -/
noncomputable def closP (from_ : List Nat) : List Nat := (List.range ins.length).filter fun pc => @decide (InClos ins first last from_ pc) (Classical.propDecidable _)
end
section
variable {ins : List InstP} {first last : Bool}
theorem mem_clos {from_ : List Nat} {pc : Nat} : pc ∈ closP ins first last from_ ↔ InClos ins first last from_ pc := by
  have hd : @decide (InClos ins first last from_ pc) (Classical.propDecidable _) = true ↔ InClos ins first last from_ pc := @decide_eq_true_iff _ (Classical.propDecidable _)
  unfold closP
  rw [List.mem_filter, List.mem_range]
  refine ⟨fun h => hd.1 h.2, fun h => ⟨?_, hd.2 h⟩⟩
  obtain ⟨c, hc, -⟩ := h.2
  exact (List.getElem?_eq_some_iff.1 hc).1
/-- in order, each once -/
def AscN : List Nat → Prop
  | [] => True
  | [_] => True
  | a :: b :: r => a < b ∧ AscN (b :: r)
theorem AscN.tail {a : Nat} {l : List Nat} (h : AscN (a :: l)) : AscN l := by
  cases l with
  | nil => trivial
  | cons b r => exact h.2
theorem AscN.lt {a : Nat} : ∀ {l : List Nat}, AscN (a :: l) → ∀ x ∈ l, a < x
  | [], _, x, hx => by cases hx
  | b :: r, h, x, hx => by
    rcases List.mem_cons.1 hx with rfl | hx
    · exact h.1
    · have := AscN.lt h.2 x hx
      have := h.1
      omega
theorem AscN.cons {a : Nat} {l : List Nat} (h : ∀ x ∈ l, a < x) (hl : AscN l) : AscN (a :: l) := by
  cases l with
  | nil => trivial
  | cons b r => exact ⟨h b (by simp), hl⟩
theorem AscN.filter {p : Nat → Bool} : ∀ {l : List Nat}, AscN l → AscN (l.filter p)
  | [], _ => trivial
  | a :: l, h => by
    rw [List.filter_cons]
    have ih := AscN.filter (p := p) h.tail
    split
    · exact AscN.cons (fun x hx => h.lt x (List.mem_filter.1 hx).1) ih
    · exact ih
theorem asc_range : ∀ (n s : Nat), AscN (List.range' s n)
  | 0, _ => trivial
  | n + 1, s => by
    rw [List.range'_succ]
    exact AscN.cons (fun x hx => by have := List.mem_range'_1.1 hx; omega) (asc_range n (s + 1))
theorem asc_clos {from_ : List Nat} : AscN (closP ins first last from_) := by
  unfold closP
  rw [List.range_eq_range']
  exact AscN.filter (asc_range _ _)
/-- rows in order with the same members are the same -/
theorem asc_eq : ∀ {l m : List Nat}, AscN l → AscN m → (∀ x, x ∈ l ↔ x ∈ m) → l = m
  | [], [], _, _, _ => rfl
  | [], b :: m, _, _, h => by have := (h b).2 (by simp); cases this
  | a :: l, [], _, _, h => by have := (h a).1 (by simp); cases this
  | a :: l, b :: m, hl, hm, h => by
    have e : a = b := by
      rcases List.mem_cons.1 ((h a).1 (by simp)) with e | e
      · exact e
      · rcases List.mem_cons.1 ((h b).2 (by simp)) with e2 | e2
        · exact e2.symm
        · have := hm.lt a e
          have := hl.lt b e2
          omega
    subst e
    rw [asc_eq hl.tail hm.tail fun x => ?_]
    constructor
    · intro hx
      rcases List.mem_cons.1 ((h x).1 (by simp [hx])) with e | e
      · subst e; have := hl.lt x hx; omega
      · exact e
    · intro hx
      rcases List.mem_cons.1 ((h x).2 (by simp [hx])) with e | e
      · subst e; have := hm.lt x hx; omega
      · exact e
variable {s : List Nat} {part : Bool}
end
end Garner

/-! Patterns, plain: sets of runes as pairs in order -/
namespace Garner
open Go

def inI (l : List (Nat × Nat)) (x : Nat) : Prop := ∃ p ∈ l, p.1 ≤ x ∧ x ≤ p.2
/-- pairs in order, with gaps between them -/
def CanonI : List (Nat × Nat) → Prop
  | [] => True
  | [p] => p.1 ≤ p.2
  | p :: q :: r => p.1 ≤ p.2 ∧ p.2 + 1 < q.1 ∧ CanonI (q :: r)
theorem CanonI.tail {p : Nat × Nat} {l : List (Nat × Nat)} (h : CanonI (p :: l)) : CanonI l := by
  cases l with
  | nil => trivial
  | cons q r => exact h.2.2
theorem CanonI.head {p : Nat × Nat} {l : List (Nat × Nat)} (h : CanonI (p :: l)) : p.1 ≤ p.2 := by
  cases l with
  | nil => exact h
  | cons q r => exact h.1
theorem CanonI.gap {p : Nat × Nat} : ∀ {l : List (Nat × Nat)}, CanonI (p :: l) → ∀ q ∈ l, p.2 + 1 < q.1
  | [], _, q, hq => by cases hq
  | a :: r, h, q, hq => by
    rcases List.mem_cons.1 hq with rfl | hq
    · exact h.2.1
    · have h1 := CanonI.gap h.2.2 q hq
      have h2 := h.2.1
      have h3 := CanonI.head h.2.2
      omega
theorem CanonI.cons {p : Nat × Nat} {l : List (Nat × Nat)} (h0 : p.1 ≤ p.2) (h1 : ∀ q ∈ l, p.2 + 1 < q.1) (h : CanonI l) : CanonI (p :: l) := by
  cases l with
  | nil => exact h0
  | cons q r => exact ⟨h0, h1 q (by simp), h⟩
theorem inI_cons {p : Nat × Nat} {l : List (Nat × Nat)} {x : Nat} : inI (p :: l) x ↔ (p.1 ≤ x ∧ x ≤ p.2) ∨ inI l x := by
  simp [inI]
/-- pairs in order are known by their runes -/
theorem canon_eq : ∀ {l m : List (Nat × Nat)}, CanonI l → CanonI m → (∀ x, inI l x ↔ inI m x) → l = m
  | [], [], _, _, _ => rfl
  | [], q :: m, _, hm, h => by
    have := (h q.1).2 (inI_cons.2 (.inl ⟨Nat.le_refl _, hm.head⟩))
    simp [inI] at this
  | p :: l, [], hl, _, h => by
    have := (h p.1).1 (inI_cons.2 (.inl ⟨Nat.le_refl _, hl.head⟩))
    simp [inI] at this
  | p :: l, q :: m, hl, hm, h => by
    have low : ∀ {a : Nat × Nat} {r : List (Nat × Nat)}, CanonI (a :: r) → ∀ x, inI (a :: r) x → a.1 ≤ x := by
      intro a r ha x hx
      rcases inI_cons.1 hx with h | ⟨b, hb, h1, -⟩
      · exact h.1
      · have := ha.gap b hb
        have := ha.head
        omega
    have e1 : p.1 = q.1 := by
      have h1 := low hm p.1 ((h p.1).1 (inI_cons.2 (.inl ⟨Nat.le_refl _, hl.head⟩)))
      have h2 := low hl q.1 ((h q.1).2 (inI_cons.2 (.inl ⟨Nat.le_refl _, hm.head⟩)))
      omega
    have up : ∀ {a b : Nat × Nat} {r t : List (Nat × Nat)}, CanonI (a :: r) → CanonI (b :: t) → a.1 = b.1 → (∀ x, inI (b :: t) x → inI (a :: r) x) → b.2 ≤ a.2 := by
      intro a b r t ha hb e hx
      rcases Nat.lt_or_ge a.2 b.2 with hlt | hge
      · exfalso
        have h1 := ha.head
        rcases inI_cons.1 (hx (a.2 + 1) (inI_cons.2 (.inl ⟨by omega, by omega⟩))) with h2 | ⟨c, hc, h2, -⟩
        · omega
        · have := ha.gap c hc
          omega
      · exact hge
    have e2 : p.2 = q.2 := by
      have h1 := up hl hm e1 fun x hx => (h x).2 hx
      have h2 := up hm hl e1.symm fun x hx => (h x).1 hx
      omega
    have e : p = q := by cases p; cases q; simp_all
    subst e
    rw [canon_eq hl.tail hm.tail fun x => ?_]
    constructor
    · intro hx
      rcases inI_cons.1 ((h x).1 (inI_cons.2 (.inr hx))) with h1 | h1
      · obtain ⟨c, hc, h2, -⟩ := hx
        have := hl.gap c hc
        omega
      · exact h1
    · intro hx
      rcases inI_cons.1 ((h x).2 (inI_cons.2 (.inr hx))) with h1 | h1
      · obtain ⟨c, hc, h2, -⟩ := hx
        have := hm.gap c hc
        omega
      · exact h1
/-- in order of what they begin with -/
def SortedI : List (Nat × Nat) → Prop
  | [] => True
  | [_] => True
  | p :: q :: r => p.1 ≤ q.1 ∧ SortedI (q :: r)
theorem SortedI.tail {p : Nat × Nat} {l : List (Nat × Nat)} (h : SortedI (p :: l)) : SortedI l := by
  cases l with
  | nil => trivial
  | cons q r => exact h.2
theorem SortedI.le {p : Nat × Nat} : ∀ {l : List (Nat × Nat)}, SortedI (p :: l) → ∀ q ∈ l, p.1 ≤ q.1
  | [], _, q, hq => by cases hq
  | a :: r, h, q, hq => by
    rcases List.mem_cons.1 hq with rfl | hq
    · exact h.1
    · have := SortedI.le h.2 q hq
      have := h.1
      omega
theorem SortedI.cons {p : Nat × Nat} {l : List (Nat × Nat)} (h : ∀ q ∈ l, p.1 ≤ q.1) (hl : SortedI l) : SortedI (p :: l) := by
  cases l with
  | nil => trivial
  | cons q r => exact ⟨h q (by simp), hl⟩
theorem mem_ins {x y : Nat × Nat} : ∀ {l : List (Nat × Nat)}, y ∈ insR x l ↔ y = x ∨ y ∈ l
  | [] => by simp [insR]
  | z :: l => by
    unfold insR
    split
    · simp
    · simp only [List.mem_cons, mem_ins (l := l)]
      constructor
      · rintro (h | h | h) <;> simp [h]
      · rintro (h | h | h) <;> simp [h]
theorem mem_sort {y : Nat × Nat} : ∀ {l : List (Nat × Nat)}, y ∈ sortR l ↔ y ∈ l
  | [] => by simp [sortR]
  | x :: l => by unfold sortR; rw [mem_ins, mem_sort, List.mem_cons]
theorem sorted_ins {x : Nat × Nat} : ∀ {l : List (Nat × Nat)}, SortedI l → SortedI (insR x l)
  | [], _ => trivial
  | y :: l, h => by
    unfold insR
    split
    · rename_i hx
      exact ⟨hx, h⟩
    · rename_i hx
      refine SortedI.cons (fun q hq => ?_) (sorted_ins h.tail)
      rcases mem_ins.1 hq with rfl | hq
      · omega
      · exact h.le q hq
theorem sorted_sort : ∀ l : List (Nat × Nat), SortedI (sortR l)
  | [] => trivial
  | x :: l => by unfold sortR; exact sorted_ins (sorted_sort l)
theorem canon_snoc : ∀ {l : List (Nat × Nat)} {p : Nat × Nat}, CanonI (l ++ [p]) ↔ CanonI l ∧ p.1 ≤ p.2 ∧ ∀ q ∈ l, q.2 + 1 < p.1
  | [], p => by simp [CanonI]
  | [a], p => by simp [CanonI]; omega
  | a :: b :: r, p => by
    have ih := canon_snoc (l := b :: r) (p := p)
    simp only [List.cons_append] at ih ⊢
    simp only [CanonI, ih, List.mem_cons, forall_eq_or_imp]
    constructor
    · rintro ⟨h1, h2, h3, h4, h5, h6⟩
      have := CanonI.head h3
      exact ⟨⟨h1, h2, h3⟩, h4, by omega, h5, h6⟩
    · rintro ⟨⟨h1, h2, h3⟩, h4, h5, h6, h7⟩
      exact ⟨h1, h2, h3, h4, h6, h7⟩
theorem inI_append {l m : List (Nat × Nat)} {x : Nat} : inI (l ++ m) x ↔ inI l x ∨ inI m x := by
  unfold inI
  simp only [List.mem_append]
  constructor
  · rintro ⟨p, h | h, hp⟩
    · exact .inl ⟨p, h, hp⟩
    · exact .inr ⟨p, h, hp⟩
  · rintro (⟨p, h, hp⟩ | ⟨p, h, hp⟩)
    · exact ⟨p, .inl h, hp⟩
    · exact ⟨p, .inr h, hp⟩
theorem inI_one {p : Nat × Nat} {x : Nat} : inI [p] x ↔ p.1 ≤ x ∧ x ≤ p.2 := by simp [inI]
/-- pairs in order, joined one behind the other -/
theorem fold_canon : ∀ (l : List (Nat × Nat)) (out : List (Nat × Nat)), SortedI l → (∀ p ∈ l, p.1 ≤ p.2) → CanonI out → (∀ p ∈ l, ∀ q ∈ out, q.1 ≤ p.1) →
    CanonI (l.foldl stepI out) ∧ ∀ x, inI (l.foldl stepI out) x ↔ inI out x ∨ inI l x
  | [], out, _, _, hc, _ => ⟨hc, fun x => by simp [inI]⟩
  | p :: l, out, hs, hp, hc, hle => by
    have h0 := hp p (by simp)
    have key : CanonI (stepI out p) ∧ (∀ x, inI (stepI out p) x ↔ inI out x ∨ inI [p] x) ∧ ∀ r ∈ l, ∀ q ∈ stepI out p, q.1 ≤ r.1 := by
      have hr : ∀ r ∈ l, p.1 ≤ r.1 := fun r hr => hs.le r hr
      unfold stepI
      cases hg : out.getLast? with
      | none =>
        have : out = [] := by simpa using hg
        subst this
        exact ⟨h0, fun x => by simp [inI], fun r hr' q hq => by simp at hq; rw [hq]; exact hr r hr'⟩
      | some a =>
        obtain ⟨pre, rfl⟩ : ∃ pre, out = pre ++ [a] := by
          obtain ⟨pre, h⟩ := List.getLast?_eq_some_iff.1 hg
          exact ⟨pre, h⟩
        obtain ⟨c1, c2, c3⟩ := canon_snoc.1 hc
        have hpa := hle p (by simp) a (by simp)
        dsimp only
        split
        · rename_i hj
          rw [List.dropLast_concat]
          refine ⟨canon_snoc.2 ⟨c1, by simp; omega, c3⟩, fun x => ?_, fun r hr' q hq => ?_⟩
          · rw [inI_append, inI_append, inI_one, inI_one, inI_one]
            simp only
            constructor
            · rintro (h | ⟨h1, h2⟩)
              · exact .inl (.inl h)
              · by_cases hx : x ≤ a.2
                · exact .inl (.inr ⟨h1, hx⟩)
                · exact .inr ⟨by omega, by omega⟩
            · rintro ((h | ⟨h1, h2⟩) | ⟨h1, h2⟩)
              · exact .inl h
              · exact .inr ⟨h1, by omega⟩
              · exact .inr ⟨by omega, by omega⟩
          · rcases List.mem_append.1 hq with h | h
            · exact hle r (by simp [hr']) q (by simp [h])
            · simp only [List.mem_singleton] at h
              subst h
              exact hle r (by simp [hr']) a (by simp)
        · rename_i hj
          refine ⟨canon_snoc.2 ⟨hc, h0, fun q hq => ?_⟩, fun x => by rw [inI_append], fun r hr' q hq => ?_⟩
          · rcases List.mem_append.1 hq with h | h
            · have := c3 q h; omega
            · simp only [List.mem_singleton] at h
              subst h; omega
          · rcases List.mem_append.1 hq with h | h
            · exact hle r (by simp [hr']) q h
            · simp only [List.mem_singleton] at h
              subst h
              exact hr r hr'
    obtain ⟨k1, k2, k3⟩ := key
    obtain ⟨r1, r2⟩ := fold_canon l (stepI out p) hs.tail (fun q hq => hp q (by simp [hq])) k1 k3
    refine ⟨r1, fun x => ?_⟩
    rw [List.foldl_cons, r2 x, k2 x, inI_one, inI_cons, or_assoc]
theorem merge_canon {l : List (Nat × Nat)} (hs : SortedI l) (hp : ∀ p ∈ l, p.1 ≤ p.2) : CanonI (mergeI l) ∧ ∀ x, inI (mergeI l) x ↔ inI l x := by
  obtain ⟨h1, h2⟩ := fold_canon l [] hs hp trivial (by simp)
  exact ⟨h1, fun x => by rw [mergeI, h2 x]; simp [inI]⟩
theorem inI_congr {l m : List (Nat × Nat)} (h : ∀ p, p ∈ l ↔ p ∈ m) (x : Nat) : inI l x ↔ inI m x := by
  unfold inI
  simp only [h]
/-- whichever order of the same pairs -/
theorem merge_eq {l m : List (Nat × Nat)} (hl : SortedI l) (hp : ∀ p ∈ l, p.1 ≤ p.2) (hm : SortedI m) (h : ∀ p, p ∈ l ↔ p ∈ m) : mergeI l = mergeI m := by
  obtain ⟨h1, h2⟩ := merge_canon hl hp
  obtain ⟨h3, h4⟩ := merge_canon hm fun p hq => hp p ((h p).2 hq)
  exact canon_eq h1 h3 fun x => by rw [h2, h4, inI_congr h]
theorem has_flat : ∀ (l : List (Nat × Nat)) (x : Nat), hasR (flatR l) x = true ↔ inI l x
  | [], x => by simp [flatR, hasR, inI]
  | p :: l, x => by
    have ih := has_flat l x
    have e : flatR (p :: l) = p.1 :: p.2 :: flatR l := by simp [flatR]
    rw [e, inI_cons, hasR]
    simp [ih]
theorem pairs_flat : ∀ l : List (Nat × Nat), pairsR (flatR l) = l
  | [] => rfl
  | p :: l => by
    have e : flatR (p :: l) = p.1 :: p.2 :: flatR l := by simp [flatR]
    rw [e, pairsR, pairs_flat l]
theorem others_canon : ∀ (l : List (Nat × Nat)) (f : Nat), CanonI l → (∀ p ∈ l, f ≤ p.1 ∧ p.2 ≤ 1114111) →
    CanonI (othersGo f l) ∧ (∀ q ∈ othersGo f l, f ≤ q.1) ∧ ∀ x, inI (othersGo f l) x ↔ (f ≤ x ∧ x ≤ 1114111 ∧ ¬ inI l x)
  | [], f, _, _ => by
    unfold othersGo
    split
    · rename_i h
      refine ⟨h, by simp, fun x => by simp [inI]⟩
    · rename_i h
      refine ⟨trivial, by simp, fun x => ?_⟩
      simp [inI]; omega
  | (a, b) :: l, f, hc, hp => by
    have hab := hc.head
    have hf := hp (a, b) (by simp)
    simp only at hab hf
    obtain ⟨h1, h2, h3⟩ := others_canon l (b + 1) hc.tail fun p hpl => ⟨by have := hc.gap p hpl; simp only at this; omega, (hp p (by simp [hpl])).2⟩
    unfold othersGo
    split
    · rename_i hlt
      refine ⟨CanonI.cons (by simp; omega) (fun q hq => by have := h2 q hq; simp; omega) h1, ?_, fun x => ?_⟩
      · intro q hq
        rcases List.mem_cons.1 hq with rfl | hq
        · exact Nat.le_refl _
        · have := h2 q hq; omega
      · show inI ((f, a - 1) :: othersGo (b + 1) l) x ↔ _
        rw [inI_cons, h3, inI_cons]
        simp only
        constructor
        · rintro (⟨h4, h5⟩ | ⟨h4, h5, h6⟩)
          · refine ⟨h4, by omega, ?_⟩
            rintro (h | ⟨q, hq, h7, -⟩)
            · omega
            · have := hc.gap q hq; simp only at this; omega
          · exact ⟨by omega, h5, fun h => h.elim (by omega) h6⟩
        · rintro ⟨h4, h5, h6⟩
          by_cases hx : x < a
          · exact .inl ⟨h4, by omega⟩
          · refine .inr ⟨?_, h5, fun h => h6 (.inr h)⟩
            by_cases hb : x ≤ b
            · exact absurd (.inl ⟨by omega, hb⟩) h6
            · omega
    · rename_i hlt
      rw [List.nil_append]
      refine ⟨h1, fun q hq => by have := h2 q hq; omega, fun x => ?_⟩
      rw [h3, inI_cons]
      simp only
      constructor
      · rintro ⟨h4, h5, h6⟩
        exact ⟨by omega, h5, fun h => h.elim (by omega) h6⟩
      · rintro ⟨h4, h5, h6⟩
        refine ⟨?_, h5, fun h => h6 (.inr h)⟩
        by_cases hb : x ≤ b
        · exact absurd (.inl ⟨by omega, hb⟩) h6
        · omega
end Garner

/-! Patterns, plain: reading without fuel; trees laid one behind the other -/
namespace Garner
open Go
def altF (s : List Nat) : Option (List Re × List Nat × Nat) := altsR (4 * s.length + 4) s
def rowF (s : List Nat) : Option (List Re × List Nat × Nat) := rowsR (4 * s.length + 3) s
def itemF (s : List Nat) : Option (Re × List Nat × Nat) := itemR (4 * s.length + 2) s
def atomF (s : List Nat) : Option (Re × List Nat × Nat) := atomR (4 * s.length + 1) s
theorem rows_fuel {s : List Nat} : ∀ {n m : Nat}, 4 * s.length + 3 ≤ n → n ≤ m → rowsR m s = rowsR n s := by
  intro n m hn hm
  obtain ⟨k, rfl⟩ : ∃ k, m = n + k := ⟨m - n, by omega⟩
  clear hm
  induction k with
  | zero => rfl
  | succ k ih => rw [← Nat.add_assoc, (parse_fuel (n + k)).2.1 s (by omega), ih]
theorem altF_eq (s : List Nat) : altF s = match rowF s with
    | none => none
    | some (ts, s1, d) =>
      if s1.head? = some 124 then
        match altF s1.tail with
        | none => none
        | some (us, s2, e) => some (rowOf ts :: us, s2, max d e)
      else some ([rowOf ts], s1, d) := by
  unfold altF
  rw [show 4 * s.length + 4 = (4 * s.length + 3) + 1 from rfl, altsR]
  show (match rowF s with | none => none | some (ts, s1, d) => _) = _
  cases h : rowF s with
  | none => rfl
  | some p =>
    obtain ⟨ts, s1, d⟩ := p
    have h1 := (parse_len _).2.1 h
    dsimp only
    split
    · rename_i hc
      have := tail_lt hc
      rw [alts_fuel (s := s1.tail) (n := 4 * s1.tail.length + 4) (Nat.le_refl _) (by omega)]
      cases altsR (4 * s1.tail.length + 4) s1.tail <;> rfl
    · rfl
theorem rowF_eq (s : List Nat) : rowF s = if s = [] ∨ s.head? = some 124 ∨ s.head? = some 41 then some ([], s, 0) else
    match itemF s with
    | none => none
    | some (t, s1, d) =>
      match rowF s1 with
      | none => none
      | some (ts, s2, e) => some (t :: ts, s2, max d e) := by
  unfold rowF
  rw [show 4 * s.length + 3 = (4 * s.length + 2) + 1 from rfl, rowsR]
  split
  · rfl
  · show (match itemF s with | none => none | some (t, s1, d) => _) = _
    cases h : itemF s with
    | none => rfl
    | some p =>
      obtain ⟨t, s1, d⟩ := p
      have h1 := (parse_len _).2.2.1 h
      dsimp only
      rw [rows_fuel (s := s1) (n := 4 * s1.length + 3) (Nat.le_refl _) (by omega)]
      cases rowsR (4 * s1.length + 3) s1 <;> rfl
theorem itemF_eq (s : List Nat) : itemF s = match atomF s with
    | none => none
    | some (t, s1, d) => (quantR t s1).map fun p => (p.1, p.2, d) := by
  unfold itemF
  rw [show 4 * s.length + 2 = (4 * s.length + 1) + 1 from rfl, itemR]
  rfl
theorem atomF_eq (r : Nat) (s : List Nat) : atomF (r :: s) =
    if r = 40 then
      match altF s with
      | none => none
      | some (ts, s1, d) => if s1.head? = some 41 then some (manyR .alt ts, s1.tail, d + 1) else none
    else if r = 91 then (classR s).map fun p => (.set p.1, p.2, 0)
    else if r = 46 then some (.set [0, 9, 11, 1114111], s, 0)
    else if r = 94 then some (.bgn, s, 0)
    else if r = 36 then some (.fin, s, 0)
    else if r = 92 then (escR s).map fun p => (.set p.1, p.2, 0)
    else if r ∈ specR then none else some (.set [r, r], s, 0) := by
  unfold atomF
  rw [show 4 * (r :: s).length + 1 = (4 * s.length + 4) + 1 by simp; omega, atomR]
  rfl
theorem altF_cnt {s s1 : List Nat} {ts : List Re} {d : Nat} (h : altF s = some (ts, s1, d)) : cnts ts + 4 * s1.length ≤ 4 * s.length + 1 ∧ oks ts ∧ ts ≠ [] := (parse_cnt _).1 h
theorem rowF_cnt {s s1 : List Nat} {ts : List Re} {d : Nat} (h : rowF s = some (ts, s1, d)) : cnts ts + 4 * s1.length ≤ 4 * s.length ∧ oks ts := (parse_cnt _).2.1 h
theorem itemF_cnt {s s1 : List Nat} {t : Re} {d : Nat} (h : itemF s = some (t, s1, d)) : t.cnt + 4 * s1.length ≤ 4 * s.length ∧ t.ok := (parse_cnt _).2.2.1 h
theorem atomF_cnt {s s1 : List Nat} {t : Re} {d : Nat} (h : atomF s = some (t, s1, d)) : t.cnt + 1 + 4 * s1.length ≤ 4 * s.length ∧ t.ok := (parse_cnt _).2.2.2 h
theorem itemF_len {s s1 : List Nat} {t : Re} {d : Nat} (h : itemF s = some (t, s1, d)) : s1.length < s.length := (parse_len _).2.2.1 h
theorem rowF_len {s s1 : List Nat} {ts : List Re} {d : Nat} (h : rowF s = some (ts, s1, d)) : s1.length ≤ s.length := (parse_len _).2.1 h
theorem cnts_app : ∀ ts us : List Re, cnts (ts ++ us) = cnts ts + cnts us
  | [], us => by simp [cnts]
  | t :: ts, us => by simp only [List.cons_append, cnts, cnts_app ts us]; omega
theorem flats_app : ∀ (ts us : List Re) (b : Nat), flats b (ts ++ us) = flats b ts ++ flats (b + cnts ts) us
  | [], us, b => by simp [flats, cnts]
  | t :: ts, us, b => by
    simp only [List.cons_append, flats, cnts, flats_app ts us, List.append_assoc]
    rw [show b + t.cnt + cnts ts = b + (t.cnt + cnts ts) by omega]
theorem roots_app : ∀ (ts us : List Re) (b : Nat), roots b (ts ++ us) = roots b ts ++ roots (b + cnts ts) us
  | [], us, b => by simp [roots, cnts]
  | t :: ts, us, b => by
    simp only [List.cons_append, roots, cnts, roots_app ts us]
    rw [show b + t.cnt + cnts ts = b + (t.cnt + cnts ts) by omega]
theorem flats_one (t : Re) (b : Nat) : flats b [t] = t.flat b := by simp [flats]
theorem roots_one (t : Re) (b : Nat) : roots b [t] = [b + t.cnt - 1] := by simp [roots]
end Garner

