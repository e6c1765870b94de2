import Derived.Test.YtecejnilajbdpaaGreatDoorTt05
/-! Patterns, plain: rows of states, as matching goes through them -/
namespace Garner
open Go

section
variable (ins : List InstP) (first last : Bool)
/-- a step without a rune -/
def EdgeR (pc q : Nat) : Prop := ∃ c, ins[pc]? = some c ∧ ((c.kind = 1 ∧ (q = c.x ∨ q = c.y)) ∨ (c.kind = 2 ∧ first = true ∧ q = c.x) ∨ (c.kind = 3 ∧ last = true ∧ q = c.x))
inductive ReachR : Nat → Nat → Prop
  | here (a : Nat) : ReachR a a
  | step {a b c : Nat} : EdgeR ins first last a b → ReachR b c → ReachR a c
/-- an instruction that stays in a state -/
def KeptR (pc : Nat) : Prop := ∃ c, ins[pc]? = some c ∧ c.kind ≠ 1 ∧ c.kind ≠ 2 ∧ ¬ (c.kind = 3 ∧ last = true)
def InClos (from_ : List Nat) (pc : Nat) : Prop := (∃ a ∈ from_, ReachR ins first last a pc) ∧ KeptR ins last pc
/-- what may come next from some instructions on, in order -/
noncomputable def closP (from_ : List Nat) : List Nat := (List.range ins.length).filter fun pc => @decide (InClos ins first last from_ pc) (Classical.propDecidable _)
end
section
variable {ins : List InstP} {first last : Bool}
theorem mem_clos {from_ : List Nat} {pc : Nat} : pc ∈ closP ins first last from_ ↔ InClos ins first last from_ pc := by
  have hd : @decide (InClos ins first last from_ pc) (Classical.propDecidable _) = true ↔ InClos ins first last from_ pc := @decide_eq_true_iff _ (Classical.propDecidable _)
  unfold closP
  rw [List.mem_filter, List.mem_range]
  refine ⟨fun h => hd.1 h.2, fun h => ⟨?_, hd.2 h⟩⟩
  obtain ⟨c, hc, -⟩ := h.2
  exact (List.getElem?_eq_some_iff.1 hc).1
/-- in order, each once -/
def AscN : List Nat → Prop
  | [] => True
  | [_] => True
  | a :: b :: r => a < b ∧ AscN (b :: r)
theorem AscN.tail {a : Nat} {l : List Nat} (h : AscN (a :: l)) : AscN l := by
  cases l with
  | nil => trivial
  | cons b r => exact h.2
theorem AscN.lt {a : Nat} : ∀ {l : List Nat}, AscN (a :: l) → ∀ x ∈ l, a < x
  | [], _, x, hx => by cases hx
  | b :: r, h, x, hx => by
    rcases List.mem_cons.1 hx with rfl | hx
    · exact h.1
    · have := AscN.lt h.2 x hx
      have := h.1
      omega
theorem AscN.cons {a : Nat} {l : List Nat} (h : ∀ x ∈ l, a < x) (hl : AscN l) : AscN (a :: l) := by
  cases l with
  | nil => trivial
  | cons b r => exact ⟨h b (by simp), hl⟩
theorem AscN.filter {p : Nat → Bool} : ∀ {l : List Nat}, AscN l → AscN (l.filter p)
  | [], _ => trivial
  | a :: l, h => by
    rw [List.filter_cons]
    have ih := AscN.filter (p := p) h.tail
    split
    · exact AscN.cons (fun x hx => h.lt x (List.mem_filter.1 hx).1) ih
    · exact ih
theorem asc_range : ∀ (n s : Nat), AscN (List.range' s n)
  | 0, _ => trivial
  | n + 1, s => by
    rw [List.range'_succ]
    exact AscN.cons (fun x hx => by have := List.mem_range'_1.1 hx; omega) (asc_range n (s + 1))
theorem asc_clos {from_ : List Nat} : AscN (closP ins first last from_) := by
  unfold closP
  rw [List.range_eq_range']
  exact AscN.filter (asc_range _ _)
/-- rows in order with the same members are the same -/
theorem asc_eq : ∀ {l m : List Nat}, AscN l → AscN m → (∀ x, x ∈ l ↔ x ∈ m) → l = m
  | [], [], _, _, _ => rfl
  | [], b :: m, _, _, h => by have := (h b).2 (by simp); cases this
  | a :: l, [], _, _, h => by have := (h a).1 (by simp); cases this
  | a :: l, b :: m, hl, hm, h => by
    have e : a = b := by
      rcases List.mem_cons.1 ((h a).1 (by simp)) with e | e
      · exact e
      · rcases List.mem_cons.1 ((h b).2 (by simp)) with e2 | e2
        · exact e2.symm
        · have := hm.lt a e
          have := hl.lt b e2
          omega
    subst e
    rw [asc_eq hl.tail hm.tail fun x => ?_]
    constructor
    · intro hx
      rcases List.mem_cons.1 ((h x).1 (by simp [hx])) with e | e
      · subst e; have := hl.lt x hx; omega
      · exact e
    · intro hx
      rcases List.mem_cons.1 ((h x).2 (by simp [hx])) with e | e
      · subst e; have := hm.lt x hx; omega
      · exact e
variable {s : List Nat} {part : Bool}
/-- a state accepts where one of its instructions does -/
def AccS (ins : List InstP) (s : List Nat) (part : Bool) (st : List Nat) (i : Nat) : Prop := ∃ pc ∈ st, Acc ins s part pc i
theorem acc_reach {i : Nat} (hf : first = true → i = 0) (hl : last = true → i = s.length) {a b : Nat} (h : ReachR ins first last a b) : Acc ins s part b i → Acc ins s part a i := by
  induction h with
  | here a => exact id
  | step he _ ih =>
    intro hb
    obtain ⟨n, hn⟩ := ih hb
    obtain ⟨c, hc, h⟩ := he
    refine ⟨n + 1, c, hc, ?_⟩
    rcases h with ⟨h1, rfl | rfl⟩ | ⟨h1, h2, rfl⟩ | ⟨h1, h2, rfl⟩
    · exact .inr (.inl ⟨h1, .inl hn⟩)
    · exact .inr (.inl ⟨h1, .inr hn⟩)
    · exact .inr (.inr (.inl ⟨h1, hf h2, hn⟩))
    · exact .inr (.inr (.inr (.inl ⟨h1, hl h2, hn⟩)))
theorem acc_kept {i : Nat} (hf : i = 0 → first = true) : ∀ {n a : Nat}, accN ins s part n a i → ∃ b, ReachR ins first last a b ∧ KeptR ins last b ∧ Acc ins s part b i
  | 0, _, h => h.elim
  | n + 1, a, h => by
    have h' := h
    obtain ⟨c, hc, h⟩ := h
    rcases h with ⟨h1, h2, h3⟩ | ⟨h1, h2⟩ | ⟨h1, h2, h3⟩ | ⟨h1, h2, h3⟩ | ⟨h1, h2⟩
    · exact ⟨a, .here a, ⟨c, hc, by omega, by omega, fun e => by omega⟩, n + 1, h'⟩
    · rcases h2 with h2 | h2
      · obtain ⟨b, hb1, hb2⟩ := acc_kept hf h2
        exact ⟨b, .step ⟨c, hc, .inl ⟨h1, .inl rfl⟩⟩ hb1, hb2⟩
      · obtain ⟨b, hb1, hb2⟩ := acc_kept hf h2
        exact ⟨b, .step ⟨c, hc, .inl ⟨h1, .inr rfl⟩⟩ hb1, hb2⟩
    · obtain ⟨b, hb1, hb2⟩ := acc_kept hf h3
      exact ⟨b, .step ⟨c, hc, .inr (.inl ⟨h1, hf h2, rfl⟩)⟩ hb1, hb2⟩
    · by_cases hl : last = true
      · obtain ⟨b, hb1, hb2⟩ := acc_kept hf h3
        exact ⟨b, .step ⟨c, hc, .inr (.inr ⟨h1, hl, rfl⟩)⟩ hb1, hb2⟩
      · exact ⟨a, .here a, ⟨c, hc, by omega, by omega, fun e => hl e.2⟩, n + 1, h'⟩
    · exact ⟨a, .here a, ⟨c, hc, by omega, by omega, fun e => by omega⟩, n + 1, h'⟩
theorem acc_clos {i : Nat} (hf : first = true ↔ i = 0) (hl : last = true → i = s.length) (from_ : List Nat) : AccS ins s part (closP ins first last from_) i ↔ AccS ins s part from_ i := by
  constructor
  · rintro ⟨pc, hm, ha⟩
    obtain ⟨⟨a, ha1, ha2⟩, -⟩ := mem_clos.1 hm
    exact ⟨a, ha1, acc_reach hf.1 hl ha2 ha⟩
  · rintro ⟨pc, hm, n, ha⟩
    obtain ⟨b, hb1, hb2, hb3⟩ := acc_kept (first := first) (last := last) hf.2 ha
    exact ⟨b, mem_clos.2 ⟨⟨pc, hm, hb1⟩, hb2⟩, hb3⟩
/-- the instructions behind a rune -/
def nextR (ins : List InstP) (st : List Nat) (r : Nat) : List Nat := st.filterMap fun pc => match ins[pc]? with
  | some c => if c.kind = 0 ∧ hasR c.runes r = true then some c.x else none
  | none => none
theorem mem_next {st : List Nat} {r q : Nat} : q ∈ nextR ins st r ↔ ∃ pc ∈ st, ∃ c, ins[pc]? = some c ∧ c.kind = 0 ∧ hasR c.runes r = true ∧ q = c.x := by
  unfold nextR
  rw [List.mem_filterMap]
  refine exists_congr fun pc => and_congr_right fun _ => ?_
  cases hc : ins[pc]? with
  | none => simp
  | some c =>
    simp only [Option.some.injEq, exists_eq_left']
    split
    · rename_i h; simp only [Option.some.injEq]; exact ⟨fun e => ⟨h.1, h.2, e.symm⟩, fun e => e.2.2.symm⟩
    · rename_i h; simp only [reduceCtorEq, false_iff]; exact fun e => h ⟨e.1, e.2.1⟩
/-- a state has a match -/
def MatR (ins : List InstP) (st : List Nat) : Prop := ∃ pc ∈ st, ∃ c, ins[pc]? = some c ∧ c.kind = 4
noncomputable def startR (ins : List InstP) : List Nat := closP ins true false [0]
noncomputable def stepR (ins : List InstP) (find : Bool) (st : List Nat) (r : Nat) : List Nat := closP ins false false (nextR ins st r ++ if find = true then [0] else [])
/-- a match at the text's end -/
def EndR (ins : List InstP) (st : List Nat) (first : Bool) : Prop := MatR ins (closP ins first true st)
theorem acc_end {st : List Nat} (hf : first = true ↔ s.length = 0) : AccS ins s part st s.length ↔ EndR ins st first := by
  rw [← acc_clos (first := first) (last := true) hf (fun _ => rfl) st]
  constructor
  · rintro ⟨pc, hm, n, ha⟩
    cases n with
    | zero => exact ha.elim
    | succ n =>
      obtain ⟨c, hc, ha⟩ := ha
      obtain ⟨-, c', hc', k1, k2, k3⟩ := mem_clos.1 hm
      rw [hc] at hc'
      cases hc'
      rcases ha with ⟨h1, ⟨r, hr, -⟩, -⟩ | ⟨h1, -⟩ | ⟨h1, -⟩ | ⟨h1, -⟩ | ⟨h1, -⟩
      · rw [List.getElem?_eq_none (Nat.le_refl _)] at hr; cases hr
      · exact absurd h1 k1
      · exact absurd h1 k2
      · exact absurd ⟨h1, rfl⟩ k3
      · exact ⟨pc, hm, c, hc, h1⟩
  · rintro ⟨pc, hm, c, hc, h1⟩
    exact ⟨pc, hm, 1, c, hc, .inr (.inr (.inr (.inr ⟨h1, .inr rfl⟩)))⟩
/-- all that stays in a state is a set, an end or the match -/
theorem acc_step {st : List Nat} {i r : Nat} (hr : s[i]? = some r) (hk : ∀ pc ∈ st, KeptR ins false pc) :
    AccS ins s part st i ↔ (part = true ∧ MatR ins st) ∨ AccS ins s part (nextR ins st r) (i + 1) := by
  have hi : i < s.length := (List.getElem?_eq_some_iff.1 hr).1
  constructor
  · rintro ⟨pc, hm, n, ha⟩
    cases n with
    | zero => exact ha.elim
    | succ n =>
      obtain ⟨c, hc, ha⟩ := ha
      obtain ⟨c', hc', k1, k2, -⟩ := hk pc hm
      rw [hc] at hc'
      cases hc'
      rcases ha with ⟨h1, ⟨r', hr', h2⟩, h3⟩ | ⟨h1, -⟩ | ⟨h1, -⟩ | ⟨h1, h2, -⟩ | ⟨h1, h2⟩
      · rw [hr] at hr'
        cases hr'
        exact .inr ⟨c.x, mem_next.2 ⟨pc, hm, c, hc, h1, h2, rfl⟩, n, h3⟩
      · exact absurd h1 k1
      · exact absurd h1 k2
      · omega
      · rcases h2 with h2 | h2
        · exact .inl ⟨h2, pc, hm, c, hc, h1⟩
        · omega
  · rintro (⟨h1, pc, hm, c, hc, h2⟩ | ⟨q, hm, n, ha⟩)
    · exact ⟨pc, hm, 1, c, hc, .inr (.inr (.inr (.inr ⟨h2, .inl h1⟩)))⟩
    · obtain ⟨pc, hm2, c, hc, h1, h2, rfl⟩ := mem_next.1 hm
      exact ⟨pc, hm2, n + 1, c, hc, .inl ⟨h1, ⟨r, hr, h2⟩, ha⟩⟩
theorem kept_start : ∀ pc ∈ startR ins, KeptR ins false pc := fun _ h => (mem_clos.1 h).2
theorem kept_step {find : Bool} {st : List Nat} {r : Nat} : ∀ pc ∈ stepR ins find st r, KeptR ins false pc := fun _ h => (mem_clos.1 h).2
/-- whole: the states behind so many runes -/
noncomputable def runR (ins : List InstP) (find : Bool) (s : List Nat) : Nat → List Nat
  | 0 => startR ins
  | n + 1 => match s[n]? with
    | some r => stepR ins find (runR ins find s n) r
    | none => []
theorem kept_run {find : Bool} : ∀ n, ∀ pc ∈ runR ins find s n, KeptR ins false pc
  | 0 => kept_start
  | n + 1 => by
    unfold runR
    split
    · exact kept_step
    · simp
theorem accS_append {l m : List Nat} {i : Nat} : AccS ins s part (l ++ m) i ↔ AccS ins s part l i ∨ AccS ins s part m i := by
  unfold AccS
  simp only [List.mem_append]
  constructor
  · rintro ⟨pc, h | h, ha⟩
    · exact .inl ⟨pc, h, ha⟩
    · exact .inr ⟨pc, h, ha⟩
  · rintro (⟨pc, h, ha⟩ | ⟨pc, h, ha⟩)
    · exact ⟨pc, .inl h, ha⟩
    · exact ⟨pc, .inr h, ha⟩
theorem accS_one {i : Nat} : AccS ins s part [0] i ↔ Acc ins s part 0 i := by simp [AccS]
theorem whole_run : ∀ n, n ≤ s.length → (AccS ins s false (runR ins false s n) n ↔ Acc ins s false 0 0)
  | 0, _ => by
    rw [← accS_one, ← acc_clos (first := true) (last := false) (i := 0) (by simp) (by simp) [0]]
    rfl
  | n + 1, h => by
    obtain ⟨r, hr⟩ : ∃ r, s[n]? = some r := ⟨_, List.getElem?_eq_getElem (by omega)⟩
    have e : runR ins false s (n + 1) = stepR ins false (runR ins false s n) r := by simp only [runR, hr]
    rw [e, ← whole_run n (by omega), acc_step hr (kept_run n)]
    unfold stepR
    rw [acc_clos (by simp) (by simp), accS_append]
    simp [AccS]
/-- does a text match whole, as the states say? -/
def WholeR (ins : List InstP) (s : List Nat) : Prop := EndR ins (runR ins false s s.length) (decide (s.length = 0))
theorem whole_R {t : Re} (ok : t.ok) (s : List Nat) : WholeR (progR t) s ↔ t.M s 0 s.length := by
  unfold WholeR
  rw [← acc_end (s := s) (part := false) (by simp), whole_run _ (Nat.le_refl _), acc_prog ok]
  constructor
  · rintro ⟨j, h1, h2 | rfl⟩
    · cases h2
    · exact h1
  · exact fun h => ⟨_, h, .inr rfl⟩
theorem part_run : ∀ n, n ≤ s.length → ((∃ m, m < n ∧ MatR ins (runR ins true s m)) ∨ AccS ins s true (runR ins true s n) n ↔ ∃ i, i ≤ n ∧ Acc ins s true 0 i)
  | 0, _ => by
    have : AccS ins s true (runR ins true s 0) 0 ↔ Acc ins s true 0 0 := by
      rw [← accS_one, ← acc_clos (first := true) (last := false) (i := 0) (by simp) (by simp) [0]]
      rfl
    rw [this]
    constructor
    · rintro (⟨m, h, -⟩ | h)
      · omega
      · exact ⟨0, Nat.le_refl _, h⟩
    · rintro ⟨i, hi, h⟩
      obtain rfl : i = 0 := by omega
      exact .inr h
  | n + 1, h => by
    obtain ⟨r, hr⟩ : ∃ r, s[n]? = some r := ⟨_, List.getElem?_eq_getElem (by omega)⟩
    have e : runR ins true s (n + 1) = stepR ins true (runR ins true s n) r := by simp only [runR, hr]
    have ih := part_run n (by omega)
    rw [acc_step hr (kept_run n)] at ih
    have e2 : AccS ins s true (runR ins true s (n + 1)) (n + 1) ↔ AccS ins s true (nextR ins (runR ins true s n) r) (n + 1) ∨ Acc ins s true 0 (n + 1) := by
      rw [e]
      unfold stepR
      rw [acc_clos (by simp) (by simp), accS_append, if_pos rfl, accS_one]
    rw [e2]
    constructor
    · rintro (⟨m, hm, hx⟩ | h1 | h1)
      · rcases Nat.lt_or_ge m n with hlt | hge
        · obtain ⟨i, hi, ha⟩ := ih.1 (.inl ⟨m, hlt, hx⟩)
          exact ⟨i, by omega, ha⟩
        · obtain rfl : m = n := by omega
          obtain ⟨i, hi, ha⟩ := ih.1 (.inr (.inl ⟨rfl, hx⟩))
          exact ⟨i, by omega, ha⟩
      · obtain ⟨i, hi, ha⟩ := ih.1 (.inr (.inr h1))
        exact ⟨i, by omega, ha⟩
      · exact ⟨n + 1, Nat.le_refl _, h1⟩
    · rintro ⟨i, hi, ha⟩
      rcases Nat.lt_or_ge n i with hlt | hge
      · obtain rfl : i = n + 1 := by omega
        exact .inr (.inr ha)
      · rcases ih.2 ⟨i, hge, ha⟩ with ⟨m, hm, hx⟩ | ⟨-, hx⟩ | h1
        · exact .inl ⟨m, by omega, hx⟩
        · exact .inl ⟨n, by omega, hx⟩
        · exact .inr (.inl h1)
/-- does it match in part, as the states say? -/
def PartR (ins : List InstP) (s : List Nat) : Prop := (∃ m, m < s.length ∧ MatR ins (runR ins true s m)) ∨ EndR ins (runR ins true s s.length) (decide (s.length = 0))
theorem part_R {t : Re} (ok : t.ok) (s : List Nat) : PartR (progR t) s ↔ ∃ i j, i ≤ s.length ∧ t.M s i j := by
  unfold PartR
  rw [← acc_end (s := s) (part := true) (by simp), part_run _ (Nat.le_refl _)]
  constructor
  · rintro ⟨i, hi, ha⟩
    obtain ⟨j, hj, -⟩ := (acc_prog ok i).1 ha
    exact ⟨i, j, hi, hj⟩
  · rintro ⟨i, j, hi, hj⟩
    exact ⟨i, hi, (acc_prog ok i).2 ⟨j, hj, .inl rfl⟩⟩
end
end Garner

