import Derived.Test.YtmcacicopgckmaaGreatDoorDt08
import Derived.Test.YtmcacicopgckmaaGreatDoorDt17
/-! Patterns, plain: sets of runes as pairs in order -/
namespace Garner
open Go

def inI (l : List (Nat × Nat)) (x : Nat) : Prop := ∃ p ∈ l, p.1 ≤ x ∧ x ≤ p.2
/-- pairs in order, with gaps between them -/
def CanonI : List (Nat × Nat) → Prop
  | [] => True
  | [p] => p.1 ≤ p.2
  | p :: q :: r => p.1 ≤ p.2 ∧ p.2 + 1 < q.1 ∧ CanonI (q :: r)
theorem CanonI.tail {p : Nat × Nat} {l : List (Nat × Nat)} (h : CanonI (p :: l)) : CanonI l := by
  cases l with
  | nil => trivial
  | cons q r => exact h.2.2
theorem CanonI.head {p : Nat × Nat} {l : List (Nat × Nat)} (h : CanonI (p :: l)) : p.1 ≤ p.2 := by
  cases l with
  | nil => exact h
  | cons q r => exact h.1
theorem CanonI.gap {p : Nat × Nat} : ∀ {l : List (Nat × Nat)}, CanonI (p :: l) → ∀ q ∈ l, p.2 + 1 < q.1
  | [], _, q, hq => by cases hq
  | a :: r, h, q, hq => by
    rcases List.mem_cons.1 hq with rfl | hq
    · exact h.2.1
    · have h1 := CanonI.gap h.2.2 q hq
      have h2 := h.2.1
      have h3 := CanonI.head h.2.2
      omega
theorem CanonI.cons {p : Nat × Nat} {l : List (Nat × Nat)} (h0 : p.1 ≤ p.2) (h1 : ∀ q ∈ l, p.2 + 1 < q.1) (h : CanonI l) : CanonI (p :: l) := by
  cases l with
  | nil => exact h0
  | cons q r => exact ⟨h0, h1 q (by simp), h⟩
theorem inI_cons {p : Nat × Nat} {l : List (Nat × Nat)} {x : Nat} : inI (p :: l) x ↔ (p.1 ≤ x ∧ x ≤ p.2) ∨ inI l x := by
  simp [inI]
/-- pairs in order are known by their runes -/
theorem canon_eq : ∀ {l m : List (Nat × Nat)}, CanonI l → CanonI m → (∀ x, inI l x ↔ inI m x) → l = m
  | [], [], _, _, _ => rfl
  | [], q :: m, _, hm, h => by
    have := (h q.1).2 (inI_cons.2 (.inl ⟨Nat.le_refl _, hm.head⟩))
    simp [inI] at this
  | p :: l, [], hl, _, h => by
    have := (h p.1).1 (inI_cons.2 (.inl ⟨Nat.le_refl _, hl.head⟩))
    simp [inI] at this
  | p :: l, q :: m, hl, hm, h => by
    have low : ∀ {a : Nat × Nat} {r : List (Nat × Nat)}, CanonI (a :: r) → ∀ x, inI (a :: r) x → a.1 ≤ x := by
      intro a r ha x hx
      rcases inI_cons.1 hx with h | ⟨b, hb, h1, -⟩
      · exact h.1
      · have := ha.gap b hb
        have := ha.head
        omega
    have e1 : p.1 = q.1 := by
      have h1 := low hm p.1 ((h p.1).1 (inI_cons.2 (.inl ⟨Nat.le_refl _, hl.head⟩)))
      have h2 := low hl q.1 ((h q.1).2 (inI_cons.2 (.inl ⟨Nat.le_refl _, hm.head⟩)))
      omega
    have up : ∀ {a b : Nat × Nat} {r t : List (Nat × Nat)}, CanonI (a :: r) → CanonI (b :: t) → a.1 = b.1 → (∀ x, inI (b :: t) x → inI (a :: r) x) → b.2 ≤ a.2 := by
      intro a b r t ha hb e hx
      rcases Nat.lt_or_ge a.2 b.2 with hlt | hge
      · exfalso
        have h1 := ha.head
        rcases inI_cons.1 (hx (a.2 + 1) (inI_cons.2 (.inl ⟨by omega, by omega⟩))) with h2 | ⟨c, hc, h2, -⟩
        · omega
        · have := ha.gap c hc
          omega
      · exact hge
    have e2 : p.2 = q.2 := by
      have h1 := up hl hm e1 fun x hx => (h x).2 hx
      have h2 := up hm hl e1.symm fun x hx => (h x).1 hx
      omega
    have e : p = q := by cases p; cases q; simp_all
    subst e
    rw [canon_eq hl.tail hm.tail fun x => ?_]
    constructor
    · intro hx
      rcases inI_cons.1 ((h x).1 (inI_cons.2 (.inr hx))) with h1 | h1
      · obtain ⟨c, hc, h2, -⟩ := hx
        have := hl.gap c hc
        omega
      · exact h1
    · intro hx
      rcases inI_cons.1 ((h x).2 (inI_cons.2 (.inr hx))) with h1 | h1
      · obtain ⟨c, hc, h2, -⟩ := hx
        have := hm.gap c hc
        omega
      · exact h1
/-- in order of what they begin with -/
def SortedI : List (Nat × Nat) → Prop
  | [] => True
  | [_] => True
  | p :: q :: r => p.1 ≤ q.1 ∧ SortedI (q :: r)
theorem SortedI.tail {p : Nat × Nat} {l : List (Nat × Nat)} (h : SortedI (p :: l)) : SortedI l := by
  cases l with
  | nil => trivial
  | cons q r => exact h.2
theorem SortedI.le {p : Nat × Nat} : ∀ {l : List (Nat × Nat)}, SortedI (p :: l) → ∀ q ∈ l, p.1 ≤ q.1
  | [], _, q, hq => by cases hq
  | a :: r, h, q, hq => by
    rcases List.mem_cons.1 hq with rfl | hq
    · exact h.1
    · have := SortedI.le h.2 q hq
      have := h.1
      omega
theorem SortedI.cons {p : Nat × Nat} {l : List (Nat × Nat)} (h : ∀ q ∈ l, p.1 ≤ q.1) (hl : SortedI l) : SortedI (p :: l) := by
  cases l with
  | nil => trivial
  | cons q r => exact ⟨h q (by simp), hl⟩
theorem mem_ins {x y : Nat × Nat} : ∀ {l : List (Nat × Nat)}, y ∈ insR x l ↔ y = x ∨ y ∈ l
  | [] => by simp [insR]
  | z :: l => by
    unfold insR
    split
    · simp
    · simp only [List.mem_cons, mem_ins (l := l)]
      constructor
      · rintro (h | h | h) <;> simp [h]
      · rintro (h | h | h) <;> simp [h]
theorem mem_sort {y : Nat × Nat} : ∀ {l : List (Nat × Nat)}, y ∈ sortR l ↔ y ∈ l
  | [] => by simp [sortR]
  | x :: l => by unfold sortR; rw [mem_ins, mem_sort, List.mem_cons]
theorem sorted_ins {x : Nat × Nat} : ∀ {l : List (Nat × Nat)}, SortedI l → SortedI (insR x l)
  | [], _ => trivial
  | y :: l, h => by
    unfold insR
    split
    · rename_i hx
      exact ⟨hx, h⟩
    · rename_i hx
      refine SortedI.cons (fun q hq => ?_) (sorted_ins h.tail)
      rcases mem_ins.1 hq with rfl | hq
      · omega
      · exact h.le q hq
theorem sorted_sort : ∀ l : List (Nat × Nat), SortedI (sortR l)
  | [] => trivial
  | x :: l => by unfold sortR; exact sorted_ins (sorted_sort l)
theorem canon_snoc : ∀ {l : List (Nat × Nat)} {p : Nat × Nat}, CanonI (l ++ [p]) ↔ CanonI l ∧ p.1 ≤ p.2 ∧ ∀ q ∈ l, q.2 + 1 < p.1
  | [], p => by simp [CanonI]
  | [a], p => by simp [CanonI]; omega
  | a :: b :: r, p => by
    have ih := canon_snoc (l := b :: r) (p := p)
    simp only [List.cons_append] at ih ⊢
    simp only [CanonI, ih, List.mem_cons, forall_eq_or_imp]
    constructor
    · rintro ⟨h1, h2, h3, h4, h5, h6⟩
      have := CanonI.head h3
      exact ⟨⟨h1, h2, h3⟩, h4, by omega, h5, h6⟩
    · rintro ⟨⟨h1, h2, h3⟩, h4, h5, h6, h7⟩
      exact ⟨h1, h2, h3, h4, h6, h7⟩
theorem inI_append {l m : List (Nat × Nat)} {x : Nat} : inI (l ++ m) x ↔ inI l x ∨ inI m x := by
  unfold inI
  simp only [List.mem_append]
  constructor
  · rintro ⟨p, h | h, hp⟩
    · exact .inl ⟨p, h, hp⟩
    · exact .inr ⟨p, h, hp⟩
  · rintro (⟨p, h, hp⟩ | ⟨p, h, hp⟩)
    · exact ⟨p, .inl h, hp⟩
    · exact ⟨p, .inr h, hp⟩
theorem inI_one {p : Nat × Nat} {x : Nat} : inI [p] x ↔ p.1 ≤ x ∧ x ≤ p.2 := by simp [inI]
/-- pairs in order, joined one behind the other -/
theorem fold_canon : ∀ (l : List (Nat × Nat)) (out : List (Nat × Nat)), SortedI l → (∀ p ∈ l, p.1 ≤ p.2) → CanonI out → (∀ p ∈ l, ∀ q ∈ out, q.1 ≤ p.1) →
    CanonI (l.foldl stepI out) ∧ ∀ x, inI (l.foldl stepI out) x ↔ inI out x ∨ inI l x
  | [], out, _, _, hc, _ => ⟨hc, fun x => by simp [inI]⟩
  | p :: l, out, hs, hp, hc, hle => by
    have h0 := hp p (by simp)
    have key : CanonI (stepI out p) ∧ (∀ x, inI (stepI out p) x ↔ inI out x ∨ inI [p] x) ∧ ∀ r ∈ l, ∀ q ∈ stepI out p, q.1 ≤ r.1 := by
      have hr : ∀ r ∈ l, p.1 ≤ r.1 := fun r hr => hs.le r hr
      unfold stepI
      cases hg : out.getLast? with
      | none =>
        have : out = [] := by simpa using hg
        subst this
        exact ⟨h0, fun x => by simp [inI], fun r hr' q hq => by simp at hq; rw [hq]; exact hr r hr'⟩
      | some a =>
        obtain ⟨pre, rfl⟩ : ∃ pre, out = pre ++ [a] := by
          obtain ⟨pre, h⟩ := List.getLast?_eq_some_iff.1 hg
          exact ⟨pre, h⟩
        obtain ⟨c1, c2, c3⟩ := canon_snoc.1 hc
        have hpa := hle p (by simp) a (by simp)
        dsimp only
        split
        · rename_i hj
          rw [List.dropLast_concat]
          refine ⟨canon_snoc.2 ⟨c1, by simp; omega, c3⟩, fun x => ?_, fun r hr' q hq => ?_⟩
          · rw [inI_append, inI_append, inI_one, inI_one, inI_one]
            simp only
            constructor
            · rintro (h | ⟨h1, h2⟩)
              · exact .inl (.inl h)
              · by_cases hx : x ≤ a.2
                · exact .inl (.inr ⟨h1, hx⟩)
                · exact .inr ⟨by omega, by omega⟩
            · rintro ((h | ⟨h1, h2⟩) | ⟨h1, h2⟩)
              · exact .inl h
              · exact .inr ⟨h1, by omega⟩
              · exact .inr ⟨by omega, by omega⟩
          · rcases List.mem_append.1 hq with h | h
            · exact hle r (by simp [hr']) q (by simp [h])
            · simp only [List.mem_singleton] at h
              subst h
              exact hle r (by simp [hr']) a (by simp)
        · rename_i hj
          refine ⟨canon_snoc.2 ⟨hc, h0, fun q hq => ?_⟩, fun x => by rw [inI_append], fun r hr' q hq => ?_⟩
          · rcases List.mem_append.1 hq with h | h
            · have := c3 q h; omega
            · simp only [List.mem_singleton] at h
              subst h; omega
          · rcases List.mem_append.1 hq with h | h
            · exact hle r (by simp [hr']) q h
            · simp only [List.mem_singleton] at h
              subst h
              exact hr r hr'
    obtain ⟨k1, k2, k3⟩ := key
    obtain ⟨r1, r2⟩ := fold_canon l (stepI out p) hs.tail (fun q hq => hp q (by simp [hq])) k1 k3
    refine ⟨r1, fun x => ?_⟩
    rw [List.foldl_cons, r2 x, k2 x, inI_one, inI_cons, or_assoc]
theorem merge_canon {l : List (Nat × Nat)} (hs : SortedI l) (hp : ∀ p ∈ l, p.1 ≤ p.2) : CanonI (mergeI l) ∧ ∀ x, inI (mergeI l) x ↔ inI l x := by
  obtain ⟨h1, h2⟩ := fold_canon l [] hs hp trivial (by simp)
  exact ⟨h1, fun x => by rw [mergeI, h2 x]; simp [inI]⟩
theorem inI_congr {l m : List (Nat × Nat)} (h : ∀ p, p ∈ l ↔ p ∈ m) (x : Nat) : inI l x ↔ inI m x := by
  unfold inI
  simp only [h]
/-- whichever order of the same pairs -/
theorem merge_eq {l m : List (Nat × Nat)} (hl : SortedI l) (hp : ∀ p ∈ l, p.1 ≤ p.2) (hm : SortedI m) (h : ∀ p, p ∈ l ↔ p ∈ m) : mergeI l = mergeI m := by
  obtain ⟨h1, h2⟩ := merge_canon hl hp
  obtain ⟨h3, h4⟩ := merge_canon hm fun p hq => hp p ((h p).2 hq)
  exact canon_eq h1 h3 fun x => by rw [h2, h4, inI_congr h]
theorem has_flat : ∀ (l : List (Nat × Nat)) (x : Nat), hasR (flatR l) x = true ↔ inI l x
  | [], x => by simp [flatR, hasR, inI]
  | p :: l, x => by
    have ih := has_flat l x
    have e : flatR (p :: l) = p.1 :: p.2 :: flatR l := by simp [flatR]
    rw [e, inI_cons, hasR]
    simp [ih]
theorem pairs_flat : ∀ l : List (Nat × Nat), pairsR (flatR l) = l
  | [] => rfl
  | p :: l => by
    have e : flatR (p :: l) = p.1 :: p.2 :: flatR l := by simp [flatR]
    rw [e, pairsR, pairs_flat l]
theorem others_canon : ∀ (l : List (Nat × Nat)) (f : Nat), CanonI l → (∀ p ∈ l, f ≤ p.1 ∧ p.2 ≤ 1114111) →
    CanonI (othersGo f l) ∧ (∀ q ∈ othersGo f l, f ≤ q.1) ∧ ∀ x, inI (othersGo f l) x ↔ (f ≤ x ∧ x ≤ 1114111 ∧ ¬ inI l x)
  | [], f, _, _ => by
    unfold othersGo
    split
    · rename_i h
      refine ⟨h, by simp, fun x => by simp [inI]⟩
    · rename_i h
      refine ⟨trivial, by simp, fun x => ?_⟩
      simp [inI]; omega
  | (a, b) :: l, f, hc, hp => by
    have hab := hc.head
    have hf := hp (a, b) (by simp)
    simp only at hab hf
    obtain ⟨h1, h2, h3⟩ := others_canon l (b + 1) hc.tail fun p hpl => ⟨by have := hc.gap p hpl; simp only at this; omega, (hp p (by simp [hpl])).2⟩
    unfold othersGo
    split
    · rename_i hlt
      refine ⟨CanonI.cons (by simp; omega) (fun q hq => by have := h2 q hq; simp; omega) h1, ?_, fun x => ?_⟩
      · intro q hq
        rcases List.mem_cons.1 hq with rfl | hq
        · exact Nat.le_refl _
        · have := h2 q hq; omega
      · show inI ((f, a - 1) :: othersGo (b + 1) l) x ↔ _
        rw [inI_cons, h3, inI_cons]
        simp only
        constructor
        · rintro (⟨h4, h5⟩ | ⟨h4, h5, h6⟩)
          · refine ⟨h4, by omega, ?_⟩
            rintro (h | ⟨q, hq, h7, -⟩)
            · omega
            · have := hc.gap q hq; simp only at this; omega
          · exact ⟨by omega, h5, fun h => h.elim (by omega) h6⟩
        · rintro ⟨h4, h5, h6⟩
          by_cases hx : x < a
          · exact .inl ⟨h4, by omega⟩
          · refine .inr ⟨?_, h5, fun h => h6 (.inr h)⟩
            by_cases hb : x ≤ b
            · exact absurd (.inl ⟨by omega, hb⟩) h6
            · omega
    · rename_i hlt
      rw [List.nil_append]
      refine ⟨h1, fun q hq => by have := h2 q hq; omega, fun x => ?_⟩
      rw [h3, inI_cons]
      simp only
      constructor
      · rintro ⟨h4, h5, h6⟩
        exact ⟨by omega, h5, fun h => h.elim (by omega) h6⟩
      · rintro ⟨h4, h5, h6⟩
        refine ⟨?_, h5, fun h => h6 (.inr h)⟩
        by_cases hb : x ≤ b
        · exact absurd (.inl ⟨by omega, hb⟩) h6
        · omega
end Garner
/-! Patterns, plain: a text quoted; classes of two runes -/
namespace Garner
open Go

def specB : Bs := [92, 40, 41, 91, 93, 123, 125, 42, 43, 63, 124, 46, 94, 36]
/-- a text as a pattern of its runes -/
def quoteB (s : Bs) : Bs := s.flatMap fun c => if c ∈ specB then [92, c] else [c]
def quoteR (rs : List Nat) : List Nat := rs.flatMap fun r => if r ∈ specR then [92, r] else [r]
theorem spec_iff (c : UInt8) : c ∈ specB ↔ c.toNat ∈ specR := by
  have h : ∀ d : Nat, d < 256 → ((UInt8.ofNat d) ∈ specB ↔ d ∈ specR) := by decide +kernel
  have := h c.toNat c.toNat_lt
  rwa [UInt8.ofNat_toNat] at this
theorem spec_low : ∀ r ∈ specR, r < 128 := by decide
theorem spec_lowB {c : UInt8} (h : c ∈ specB) : c.toNat < 128 := spec_low _ ((spec_iff c).1 h)
theorem quoteB_app (a b : Bs) : quoteB (a ++ b) = quoteB a ++ quoteB b := List.flatMap_append ..
theorem quoteR_app (a b : List Nat) : quoteR (a ++ b) = quoteR a ++ quoteR b := List.flatMap_append ..
theorem quoteB_high : ∀ {l : Bs}, (∀ c ∈ l, 128 ≤ c.toNat) → quoteB l = l
  | [], _ => rfl
  | c :: l, h => by
    have h1 : c ∉ specB := fun e => by have := spec_lowB e; have := h c (by simp); omega
    show (if c ∈ specB then [92, c] else [c]) ++ quoteB l = _
    rw [if_neg h1, quoteB_high fun x hx => h x (by simp [hx])]
    rfl
theorem quoteR_high : ∀ {l : List Nat}, (∀ c ∈ l, 128 ≤ c) → quoteR l = l
  | [], _ => rfl
  | c :: l, h => by
    have h1 : c ∉ specR := fun e => by have := spec_low _ e; have := h c (by simp); omega
    show (if c ∈ specR then [92, c] else [c]) ++ quoteR l = _
    rw [if_neg h1, quoteR_high fun x hx => h x (by simp [hx])]
    rfl
/-- bytes from 128 on, and what stands behind them -/
theorem high_split (s : Bs) : ∃ h t, s = h ++ t ∧ (∀ c ∈ h, 128 ≤ c.toNat) ∧ (t = [] ∨ (t.getD 0 0).toNat < 128) := by
  induction s with
  | nil => exact ⟨[], [], rfl, by simp, .inl rfl⟩
  | cons c s ih =>
    by_cases hc : c.toNat < 128
    · exact ⟨[], c :: s, rfl, by simp, .inr hc⟩
    · obtain ⟨h, t, e, h1, h2⟩ := ih
      refine ⟨c :: h, t, by rw [e]; rfl, fun x hx => ?_, h2⟩
      rcases List.mem_cons.1 hx with rfl | hx
      · omega
      · exact h1 x hx
theorem valid_parts {h t : Bs} (ht : t = [] ∨ (t.getD 0 0).toNat < 128) : Lib.validD (h ++ t) = (Lib.validD h && Lib.validD t) := by
  by_cases te : t = []
  · subst te; rw [List.append_nil, Lib.validD_nil, Bool.and_true]
  · have h0 : (t.getD 0 0).toNat / 64 ≠ 2 := by have := ht.resolve_left te; omega
    cases hh : Lib.validD h with
    | true => rw [valid_app _ h t (Nat.le_refl _) hh, Bool.true_and]
    | false =>
      rw [Bool.false_and]
      cases hv : Lib.validD (h ++ t) with
      | false => rfl
      | true => rw [valid_left _ h t (Nat.le_refl _) hv te h0] at hh; cases hh
theorem quote_first : ∀ {t : Bs}, (t = [] ∨ (t.getD 0 0).toNat < 128) → (quoteB t = [] ∨ ((quoteB t).getD 0 0).toNat < 128)
  | [], _ => .inl rfl
  | c :: t, h => by
    right
    have hc : c.toNat < 128 := by simpa using h.resolve_left (by simp)
    show (((if c ∈ specB then [92, c] else [c]) ++ quoteB t).getD 0 0).toNat < 128
    split
    · simp
    · simpa using hc
theorem quote_valid : ∀ (n : Nat) (s : Bs), s.length ≤ n → Lib.validD (quoteB s) = Lib.validD s ∧ (Lib.validD s = true → runesP (quoteB s) = quoteR (runesP s))
  | 0, s, hn => by rw [List.eq_nil_of_length_eq_zero (by omega : s.length = 0)]; exact ⟨rfl, fun _ => rfl⟩
  | n + 1, s, hn => by
    cases s with
    | nil => exact ⟨rfl, fun _ => rfl⟩
    | cons c r =>
      by_cases hc : c.toNat < 128
      · obtain ⟨h1, h2⟩ := quote_valid n r (by simpa using hn)
        have e : quoteB (c :: r) = (if c ∈ specB then [92, c] else [c]) ++ quoteB r := rfl
        rw [e, Lib.validD_cons c r hc]
        split
        · rename_i hs
          refine ⟨?_, fun hv => ?_⟩
          · show Lib.validD (92 :: c :: quoteB r) = _
            rw [Lib.validD_cons _ _ (by decide), Lib.validD_cons _ _ hc, h1]
          · show runesP (92 :: c :: quoteB r) = _
            rw [runes_ascii (by decide), runes_ascii hc, runes_ascii hc, h2 hv]
            show _ = (if c.toNat ∈ specR then [92, c.toNat] else [c.toNat]) ++ quoteR _
            rw [if_pos ((spec_iff c).1 hs)]
            rfl
        · rename_i hs
          refine ⟨?_, fun hv => ?_⟩
          · show Lib.validD (c :: quoteB r) = _
            rw [Lib.validD_cons _ _ hc, h1]
          · show runesP (c :: quoteB r) = _
            rw [runes_ascii hc, runes_ascii hc, h2 hv]
            show _ = (if c.toNat ∈ specR then [92, c.toNat] else [c.toNat]) ++ quoteR _
            rw [if_neg fun e => hs ((spec_iff c).2 e)]
            rfl
      · obtain ⟨h, t, e, h1, h2⟩ := high_split (c :: r)
        have hh : h ≠ [] := by
          rintro rfl
          rw [List.nil_append] at e
          rcases h2 with h2 | h2
          · rw [h2] at e; cases e
          · rw [← e] at h2; exact hc h2
        have hp := List.length_pos_iff.2 hh
        have hl := congrArg List.length e
        rw [List.length_append] at hl
        obtain ⟨h3, h4⟩ := quote_valid n t (by omega)
        rw [e, quoteB_app, quoteB_high h1, valid_parts h2, valid_parts (quote_first h2), h3]
        refine ⟨rfl, fun hv => ?_⟩
        rw [Bool.and_eq_true] at hv
        have hq : quoteR (runesP h) = runesP h := quoteR_high fun x hx => by
          rcases Nat.lt_or_ge x 128 with hlt | hge
          · exfalso
            have hxx : (UInt8.ofNat x).toNat = x := by simp; omega
            have := (mem_runes (c := UInt8.ofNat x) (by rw [hxx]; exact hlt) _ h (Nat.le_refl _)).1 (by rw [hxx]; exact hx)
            have := h1 _ this
            omega
          · exact hge
        rw [runes_app _ h _ (Nat.le_refl _) hv.1, runes_app _ h _ (Nat.le_refl _) hv.1, h4 hv.2, quoteR_app, hq]
theorem quote_len (s : Bs) : s.length ≤ (quoteB s).length := by
  induction s with
  | nil => exact Nat.le_refl _
  | cons c s ih =>
    show _ ≤ ((if c ∈ specB then [92, c] else [c]) ++ quoteB s).length
    rw [List.length_append, List.length_cons]
    split <;> simp <;> omega
theorem atom_esc {n r : Nat} {s : List Nat} (h : r ∈ specR) : atomR (n + 1) (92 :: r :: s) = some (.set [r, r], s, 0) := by
  have hne : r ≠ 110 ∧ r ≠ 116 ∧ r ≠ 100 ∧ r ≠ 119 ∧ r ≠ 115 := by
    refine ⟨?_, ?_, ?_, ?_, ?_⟩ <;> (rintro rfl; revert h; decide)
  have e : escR (r :: s) = some ([r, r], s) := by
    rw [escR, if_neg hne.1, if_neg hne.2.1, if_neg hne.2.2.1, if_neg hne.2.2.2.1, if_neg hne.2.2.2.2, if_pos (.inl h)]
  rw [atomR, if_neg (by decide), if_neg (by decide), if_neg (by decide), if_neg (by decide), if_neg (by decide), if_pos rfl, e]
  rfl
theorem atom_lit {n r : Nat} {s : List Nat} (h : r ∉ specR) : atomR (n + 1) (r :: s) = some (.set [r, r], s, 0) := by
  have hne : r ≠ 40 ∧ r ≠ 91 ∧ r ≠ 46 ∧ r ≠ 94 ∧ r ≠ 36 ∧ r ≠ 92 := by
    refine ⟨?_, ?_, ?_, ?_, ?_, ?_⟩ <;> (rintro rfl; exact h (by decide))
  rw [atomR, if_neg hne.1, if_neg hne.2.1, if_neg hne.2.2.1, if_neg hne.2.2.2.1, if_neg hne.2.2.2.2.1, if_neg hne.2.2.2.2.2, if_neg h]
theorem quant_quote {t : Re} {rs : List Nat} : quantR t (quoteR rs) = some (t, quoteR rs) := by
  cases rs with
  | nil => rfl
  | cons r rs =>
    show quantR t ((if r ∈ specR then [92, r] else [r]) ++ quoteR rs) = _
    by_cases h : r ∈ specR
    · rw [show quoteR (r :: rs) = (if r ∈ specR then [92, r] else [r]) ++ quoteR rs from rfl, if_pos h]
      exact quant_none (by decide) (by decide) (by decide) (by decide)
    · rw [show quoteR (r :: rs) = (if r ∈ specR then [92, r] else [r]) ++ quoteR rs from rfl, if_neg h]
      refine quant_none ?_ ?_ ?_ ?_ <;> (rintro rfl; exact h (by decide))
abbrev litS (r : Nat) : Re := .set [r, r]
theorem rows_quote : ∀ (rs : List Nat) (n : Nat), rowsR (n + 2 + rs.length) (quoteR rs) = some (rs.map litS, [], 0)
  | [], n => rows_end (n + 1)
  | r :: rs, n => by
    have ih := rows_quote rs n
    by_cases h : r ∈ specR
    · have e : quoteR (r :: rs) = 92 :: r :: quoteR rs := by
        show (if r ∈ specR then [92, r] else [r]) ++ quoteR rs = _
        rw [if_pos h]; rfl
      rw [e]
      have hi := item_of (atom_esc (n := n + rs.length) (s := quoteR rs) h) quant_quote
      exact rows_cons (n := n + 2 + rs.length) (a := 92) (by decide) (by decide) (by rw [show n + 2 + rs.length = n + rs.length + 1 + 1 by omega]; exact hi) ih
    · have e : quoteR (r :: rs) = r :: quoteR rs := by
        show (if r ∈ specR then [92, r] else [r]) ++ quoteR rs = _
        rw [if_neg h]; rfl
      rw [e]
      have hi := item_of (atom_lit (n := n + rs.length) (s := quoteR rs) h) quant_quote
      refine rows_cons (n := n + 2 + rs.length) ?_ ?_ (by rw [show n + 2 + rs.length = n + rs.length + 1 + 1 by omega]; exact hi) ih <;> (rintro rfl; exact h (by decide))
theorem sizes_lits : ∀ rs : List Nat, sizes (rs.map litS) = rs.length
  | [] => rfl
  | r :: rs => by simp only [List.map_cons, sizes, sizes_lits rs, Re.size, List.length_cons]; omega
theorem quoteR_len (rs : List Nat) : rs.length ≤ (quoteR rs).length := by
  induction rs with
  | nil => exact Nat.le_refl _
  | cons c s ih =>
    show _ ≤ ((if c ∈ specR then [92, c] else [c]) ++ quoteR s).length
    rw [List.length_append, List.length_cons]
    split <;> simp <;> omega
theorem quote_ok (rs : List Nat) (h : rs.length ≤ 900) : readR (quoteR rs) = .ok (rowOf (rs.map litS)) := by
  have hl := quoteR_len rs
  obtain ⟨n, hn⟩ : ∃ n, 4 * (quoteR rs).length + 4 = n + 2 + rs.length + 1 := ⟨4 * (quoteR rs).length + 1 - rs.length, by omega⟩
  have := rowOf_size (rs.map litS)
  rw [sizes_lits] at this
  exact read_mk (ts := [rowOf (rs.map litS)]) (d := 0) (by rw [hn]; exact alts_one (rows_quote rs n)) (by omega) (by show (rowOf _).size ≤ _; omega)
/-- rexp.Parse of a quoted text -/
theorem quote_parse (s : Bs) : rexpP (quoteB s) = if 128 < (quoteB s).length then .error 4 else if Lib.validD s = false then .error 8 else .ok (rowOf ((runesP s).map litS)) := by
  unfold rexpP
  split
  · rfl
  · rename_i hl
    obtain ⟨h1, h2⟩ := quote_valid _ s (Nat.le_refl _)
    rw [h1]
    split
    · rfl
    · rename_i hv
      have := quote_len s
      have := runes_len _ s (Nat.le_refl _)
      rw [h2 (by simpa using hv), quote_ok _ (by omega)]

section
variable {l : List Nat}
theorem lit_has {r x : Nat} : hasR [r, r] x = true ↔ x = r := by
  simp [hasR]; omega
theorem Ms_lits : ∀ {rs : List Nat} {i j : Nat}, Ms l (rs.map litS) i j ↔ j = i + rs.length ∧ ∀ m x, rs[m]? = some x → l[i + m]? = some x
  | [], i, j => by
    constructor
    · intro h
      have h : i = j := h
      exact ⟨by simp [h], fun m x hx => by simp at hx⟩
    · rintro ⟨rfl, -⟩; rfl
  | r :: rs, i, j => by
    constructor
    · rintro ⟨k, ⟨rfl, x, hx, hh⟩, h2⟩
      obtain ⟨rfl, h3⟩ := Ms_lits.1 h2
      have := lit_has.1 hh
      subst this
      refine ⟨by simp; omega, fun m y hy => ?_⟩
      cases m with
      | zero => simp at hy; rw [← hy]; exact hx
      | succ m =>
        have := h3 m y (by simpa using hy)
        rwa [show i + 1 + m = i + (m + 1) by omega] at this
    · rintro ⟨rfl, h⟩
      refine ⟨i + 1, ⟨rfl, r, h 0 r rfl, lit_has.2 rfl⟩, Ms_lits.2 ⟨by simp; omega, fun m x hx => ?_⟩⟩
      have := h (m + 1) x (by simpa using hx)
      rwa [show i + (m + 1) = i + 1 + m by omega] at this
theorem lits_whole {rs : List Nat} : wholeB (rowOf (rs.map litS)) l = true ↔ l = rs := by
  rw [whole_iff, rowOf_M, Ms_lits]
  constructor
  · rintro ⟨h1, h2⟩
    refine List.ext_getElem (by omega) fun m h3 h4 => ?_
    have := h2 m _ (List.getElem?_eq_getElem h4)
    rw [Nat.zero_add, List.getElem?_eq_getElem h3] at this
    exact Option.some.inj this
  · rintro rfl
    exact ⟨by omega, fun m x hx => by rw [Nat.zero_add]; exact hx⟩
theorem lits_part {rs : List Nat} : partB (rowOf (rs.map litS)) l = true ↔ ∃ u v, l = u ++ rs ++ v := by
  rw [part_iff]
  constructor
  · rintro ⟨i, j, hi, h⟩
    have hj := M_le _ h hi
    rw [rowOf_M, Ms_lits] at h
    obtain ⟨rfl, h⟩ := h
    refine ⟨l.take i, l.drop (i + rs.length), ?_⟩
    have e : rs = (l.drop i).take rs.length := by
      refine List.ext_getElem? fun m => ?_
      rw [List.getElem?_take]
      split
      · rename_i hm
        rw [List.getElem?_drop, List.getElem?_eq_getElem hm]
        exact (h m _ (List.getElem?_eq_getElem hm)).symm
      · rename_i hm
        exact List.getElem?_eq_none (by omega)
    conv => rhs; lhs; rhs; rw [e]
    rw [List.append_assoc, ← List.drop_drop, List.take_append_drop, List.take_append_drop]
  · rintro ⟨u, v, rfl⟩
    refine ⟨u.length, u.length + rs.length, by simp, ?_⟩
    rw [rowOf_M, Ms_lits]
    refine ⟨rfl, fun m x hx => ?_⟩
    exact at_app hx
end
end Garner
