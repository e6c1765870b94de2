import Derived.Test.YtecejnilajbdpaaGreatDoorTz04
namespace Garner
open Go
mutual
theorem size_pos : ∀ t : Re, 1 ≤ t.size
 | .emp => Nat.le_refl _
 | .set _ => Nat.le_refl _
 | .seq l => by simp only [Re.size]; omega
 | .alt l => by simp only [Re.size]; omega
 | .rep k mn mx => by simp only [Re.size]; omega
 | .bgn => Nat.le_refl _
 | .fin => Nat.le_refl _
end
theorem times_pos (mn : Nat) (mx : Option Nat) : 1 ≤ timesR mn mx := by
 cases mx with
 | none => simp [timesR]
 | some m => simp only [timesR]; omega
mutual
theorem len_size : ∀ t : Re, t.ok → t.len + 2 ≤ 3 * t.size
 | .emp, _ => by simp [Re.len, Re.size]
 | .set _, _ => by simp [Re.len, Re.size]
 | .seq l, h => by
  have := lens_size l h
  simp only [Re.len, Re.size]; omega
 | .alt l, h => by
  have := altLen_size l h.2
  simp only [Re.len, Re.size]; omega
 | .rep k mn none, h => by
  have h1 := len_size k h.1
  have h2 : (mn + 1) * (k.len + 2) ≤ (mn + 1) * (3 * k.size) := Nat.mul_le_mul_left _ h1
  have h3 : (mn + 1) * (3 * k.size) = 3 * ((mn + 1) * k.size) := by rw [← Nat.mul_assoc, ← Nat.mul_assoc, Nat.mul_comm (mn + 1) 3]
  have h4 : (mn + 1) * (k.len + 2) = mn * k.len + k.len + 2 * mn + 2 := by rw [Nat.add_mul, Nat.mul_add]; omega
  simp only [Re.len, Re.size, timesR]
  omega
 | .rep k mn (some m), h => by
  have h1 := len_size k h.1
  have hm : mn ≤ m := h.2 m rfl
  have h2 : m * (k.len + 1) ≤ m * (3 * k.size) := Nat.mul_le_mul_left _ (by omega)
  have h3 : m * (3 * k.size) = 3 * (m * k.size) := by rw [← Nat.mul_assoc, ← Nat.mul_assoc, Nat.mul_comm m 3]
  have h4 : mn * k.len ≤ mn * (k.len + 1) := Nat.mul_le_mul_left _ (by omega)
  have h5 : mn * (k.len + 1) + (m - mn) * (k.len + 1) = m * (k.len + 1) := by rw [← Nat.add_mul]; congr 1; omega
  have h6 : m * k.size ≤ max m 1 * k.size := Nat.mul_le_mul_right _ (by omega)
  simp only [Re.len, Re.size, timesR]
  omega
 | .bgn, _ => by simp [Re.len, Re.size]
 | .fin, _ => by simp [Re.len, Re.size]
theorem lens_size : ∀ l : List Re, oks l → lens l ≤ 3 * sizes l
 | [], _ => Nat.le_refl _
 | t :: ts, h => by
  have := len_size t h.1
  have := lens_size ts h.2
  simp only [lens, sizes]; omega
theorem altLen_size : ∀ l : List Re, oks l → altLen l ≤ 3 * sizes l
 | [], _ => Nat.le_refl _
 | [t], h => by
  have := len_size t h.1
  simp only [altLen, sizes]; omega
 | t :: u :: ts, h => by
  have := len_size t h.1
  have := altLen_size (u :: ts) h.2
  simp only [altLen, sizes] at this ⊢; omega
end
mutual
theorem flat_len : ∀ (t : Re) (b : Nat), (t.flat b).length = t.cnt
 | .emp, _ => rfl
 | .set _, _ => rfl
 | .seq l, b => by simp only [Re.flat, Re.cnt, List.length_append, flats_len l b]; rfl
 | .alt l, b => by simp only [Re.flat, Re.cnt, List.length_append, flats_len l b]; rfl
 | .rep k mn mx, b => by simp only [Re.flat, Re.cnt, List.length_append, flat_len k b]; rfl
 | .bgn, _ => rfl
 | .fin, _ => rfl
theorem flats_len : ∀ (l : List Re) (b : Nat), (flats b l).length = cnts l
 | [], _ => rfl
 | t :: ts, b => by simp only [flats, cnts, List.length_append, flat_len t b, flats_len ts]
end
theorem cnt_pos : ∀ t : Re, 1 ≤ t.cnt
 | .emp => Nat.le_refl _
 | .set _ => Nat.le_refl _
 | .seq l => by simp only [Re.cnt]; omega
 | .alt l => by simp only [Re.cnt]; omega
 | .rep k mn mx => by simp only [Re.cnt]; omega
 | .bgn => Nat.le_refl _
 | .fin => Nat.le_refl _
theorem roots_len : ∀ (l : List Re) (b : Nat), (roots b l).length = l.length
 | [], _ => rfl
 | t :: ts, b => by simp only [roots, List.length_cons, roots_len ts]
theorem many_cnt (mk : List Re → Re) (h : ∀ l, (mk l).cnt = cnts l + 1) (l : List Re) : (manyR mk l).cnt ≤ cnts l + 1 := by
 match l with
 | [] => exact Nat.le_of_eq (h [])
 | [t] => simp only [manyR, cnts]; omega
 | t :: u :: r => exact Nat.le_of_eq (h (t :: u :: r))
theorem rowOf_cnt (l : List Re) : (rowOf l).cnt ≤ cnts l + 1 := by
 unfold rowOf
 split
 ·simp [Re.cnt]
 exact many_cnt .seq (fun l => rfl) l
theorem quant_cnt {t u : Re} {s s1 : List Nat} (h : quantR t s = some (u, s1)) : u.cnt ≤ t.cnt + 1 ∧ (u.ok ↔ t.ok) := by
 cases s with
 | nil => cases h; exact ⟨by omega, Iff.rfl⟩
 | cons r s =>
  rw [quantR] at h
  repeat' split at h
  all_goals first
   | (cases h; done)
   | (rename_i hl; have hl1 := hl.1; cases h; exact ⟨by simp [Re.cnt], by simp [Re.ok, hl1]⟩)
   | (cases h; exact ⟨by simp [Re.cnt], by simp [Re.ok]⟩)
   | (cases h; exact ⟨by omega, Iff.rfl⟩)
theorem many_ok {mk : List Re → Re} {l : List Re} (hl : oks l) (h : oks l → l ≠ [] → (mk l).ok) (hne : l ≠ []) : (manyR mk l).ok := by
 match l, hl, h, hne with
 | [t], hl, _, _ => exact hl.1
 | t :: u :: r, hl, h, _ => exact h hl (by simp)
theorem rowOf_ok {l : List Re} (hl : oks l) : (rowOf l).ok := by
 unfold rowOf
 split
 ·trivial
 rename_i h
 exact many_ok hl (fun h _ => h) (fun e => h (by rw [e]; rfl))
theorem parse_cnt : ∀ n : Nat,
  (∀ {s s1 : List Nat} {ts : List Re} {d : Nat}, altsR n s = some (ts, s1, d) → cnts ts + 4 * s1.length ≤ 4 * s.length + 1 ∧ oks ts ∧ ts ≠ []) ∧
  (∀ {s s1 : List Nat} {ts : List Re} {d : Nat}, rowsR n s = some (ts, s1, d) → cnts ts + 4 * s1.length ≤ 4 * s.length ∧ oks ts) ∧
  (∀ {s s1 : List Nat} {t : Re} {d : Nat}, itemR n s = some (t, s1, d) → t.cnt + 4 * s1.length ≤ 4 * s.length ∧ t.ok) ∧
  (∀ {s s1 : List Nat} {t : Re} {d : Nat}, atomR n s = some (t, s1, d) → t.cnt + 1 + 4 * s1.length ≤ 4 * s.length ∧ t.ok)
 | 0 => ⟨fun h => (by cases h), fun h => (by cases h), fun h => (by cases h), fun h => (by cases h)⟩
 | n + 1 => by
  obtain ⟨ia, ir, ii, it⟩ := parse_cnt n
  refine ⟨?_, ?_, ?_, ?_⟩
  ·intro s s1 ts d h
   rw [altsR] at h
   split at h
   ·cases h
   rename_i us s2 e hr
   obtain ⟨h1, h2⟩ := ir hr
   have h3 := rowOf_cnt us
   have h4 := rowOf_ok h2
   split at h
   ·rename_i hc
    split at h
    ·cases h
    rename_i vs s3 e2 ha
    obtain ⟨h5, h6, h7⟩ := ia ha
    have := tail_lt hc
    cases h
    exact ⟨by simp only [cnts]; omega, ⟨h4, h6⟩, by simp⟩
   cases h
   exact ⟨by simp only [cnts]; omega, ⟨h4, trivial⟩, by simp⟩
  ·intro s s1 ts d h
   rw [rowsR] at h
   split at h
   ·cases h
    exact ⟨by simp [cnts], trivial⟩
   split at h
   ·cases h
   rename_i t s2 e hi
   obtain ⟨h1, h2⟩ := ii hi
   split at h
   ·cases h
   rename_i vs s3 e2 hr
   obtain ⟨h3, h4⟩ := ir hr
   cases h
   exact ⟨by simp only [cnts]; omega, h2, h4⟩
  ·intro s s1 t d h
   rw [itemR] at h
   split at h
   ·cases h
   rename_i v s2 e ha
   obtain ⟨h1, h2⟩ := it ha
   obtain ⟨p, hp, e⟩ := Option.map_eq_some_iff.1 h
   have h3 := quantR_len (u := p.1) (s1 := p.2) hp
   obtain ⟨h4, h5⟩ := quant_cnt (u := p.1) (s1 := p.2) hp
   cases e
   exact ⟨by omega, h5.2 h2⟩
  intro s s1 t d h
  cases s with
  | nil => cases h
  | cons r s =>
   rw [atomR] at h
   split at h
   ·split at h
    ·cases h
    rename_i us s2 e ha
    obtain ⟨h1, h2, h3⟩ := ia ha
    split at h
    ·rename_i hc
     have h4 := tail_lt hc
     have h5 := many_cnt .alt (fun l => rfl) us
     cases h
     exact ⟨by simp only [List.length_cons]; omega, many_ok h2 (fun h hne => ⟨hne, h⟩) h3⟩
    cases h
   split at h
   ·obtain ⟨p, hp, e⟩ := Option.map_eq_some_iff.1 h
    have := classR_len (m := p.1) (s1 := p.2) hp
    cases e
    exact ⟨by simp only [List.length_cons, Re.cnt]; omega, trivial⟩
   repeat' split at h
   all_goals first
    | (cases h; done)
    | (cases h; exact ⟨by simp only [List.length_cons, Re.cnt]; omega, trivial⟩)
    | (obtain ⟨p, hp, e⟩ := Option.map_eq_some_iff.1 h
       have := escR_len (m := p.1) (s1 := p.2) hp
       cases e
       exact ⟨by simp only [List.length_cons, Re.cnt]; omega, trivial⟩)
open Go
section
variable (ins : List InstP) (first last : Bool)
def EdgeR (pc q : Nat) : Prop := ∃ c, ins[pc]? = some c ∧ ((c.kind = 1 ∧ (q = c.x ∨ q = c.y)) ∨ (c.kind = 2 ∧ first = true ∧ q = c.x) ∨ (c.kind = 3 ∧ last = true ∧ q = c.x))
inductive ReachR : Nat → Nat → Prop
 | here (a : Nat) : ReachR a a
 | step {a b c : Nat} : EdgeR ins first last a b → ReachR b c → ReachR a c
def KeptR (pc : Nat) : Prop := ∃ c, ins[pc]? = some c ∧ c.kind ≠ 1 ∧ c.kind ≠ 2 ∧ ¬ (c.kind = 3 ∧ last = true)
def InClos (from_ : List Nat) (pc : Nat) : Prop := (∃ a ∈ from_, ReachR ins first last a pc) ∧ KeptR ins last pc
noncomputable def closP (from_ : List Nat) : List Nat := (List.range ins.length).filter fun pc => @decide (InClos ins first last from_ pc) (Classical.propDecidable _)
end
section
variable {ins : List InstP} {first last : Bool}
theorem mem_clos {from_ : List Nat} {pc : Nat} : pc ∈ closP ins first last from_ ↔ InClos ins first last from_ pc := by
 have hd : @decide (InClos ins first last from_ pc) (Classical.propDecidable _) = true ↔ InClos ins first last from_ pc := @decide_eq_true_iff _ (Classical.propDecidable _)
 unfold closP
 rw [List.mem_filter, List.mem_range]
 refine ⟨fun h => hd.1 h.2, fun h => ⟨?_, hd.2 h⟩⟩
 obtain ⟨c, hc, -⟩ := h.2
 exact (List.getElem?_eq_some_iff.1 hc).1
def AscN : List Nat → Prop
 | [] => True
 | [_] => True
 | a :: b :: r => a < b ∧ AscN (b :: r)
theorem AscN.tail {a : Nat} {l : List Nat} (h : AscN (a :: l)) : AscN l := by
 cases l with
 | nil => trivial
 | cons b r => exact h.2
theorem AscN.lt {a : Nat} : ∀ {l : List Nat}, AscN (a :: l) → ∀ x ∈ l, a < x
 | [], _, x, hx => by cases hx
 | b :: r, h, x, hx => by
  rcases List.mem_cons.1 hx with rfl | hx
  ·exact h.1
  have := AscN.lt h.2 x hx
  have := h.1
  omega
theorem AscN.cons {a : Nat} {l : List Nat} (h : ∀ x ∈ l, a < x) (hl : AscN l) : AscN (a :: l) := by
 cases l with
 | nil => trivial
 | cons b r => exact ⟨h b (by simp), hl⟩
theorem AscN.filter {p : Nat → Bool} : ∀ {l : List Nat}, AscN l → AscN (l.filter p)
 | [], _ => trivial
 | a :: l, h => by
  rw [List.filter_cons]
  have ih := AscN.filter (p := p) h.tail
  split
  ·exact AscN.cons (fun x hx => h.lt x (List.mem_filter.1 hx).1) ih
  exact ih
theorem asc_range : ∀ (n s : Nat), AscN (List.range' s n)
 | 0, _ => trivial
 | n + 1, s => by
  rw [List.range'_succ]
  exact AscN.cons (fun x hx => by have := List.mem_range'_1.1 hx; omega) (asc_range n (s + 1))
theorem asc_clos {from_ : List Nat} : AscN (closP ins first last from_) := by
 unfold closP
 rw [List.range_eq_range']
 exact AscN.filter (asc_range _ _)
theorem asc_eq : ∀ {l m : List Nat}, AscN l → AscN m → (∀ x, x ∈ l ↔ x ∈ m) → l = m
 | [], [], _, _, _ => rfl
 | [], b :: m, _, _, h => by have := (h b).2 (by simp); cases this
 | a :: l, [], _, _, h => by have := (h a).1 (by simp); cases this
 | a :: l, b :: m, hl, hm, h => by
  have e : a = b := by
   rcases List.mem_cons.1 ((h a).1 (by simp)) with e | e
   ·exact e
   rcases List.mem_cons.1 ((h b).2 (by simp)) with e2 | e2
   ·exact e2.symm
   have := hm.lt a e
   have := hl.lt b e2
   omega
  subst e
  rw [asc_eq hl.tail hm.tail fun x => ?_]
  constructor
  ·intro hx
   rcases List.mem_cons.1 ((h x).1 (by simp [hx])) with e | e
   ·subst e; have := hl.lt x hx; omega
   exact e
  intro hx
  rcases List.mem_cons.1 ((h x).2 (by simp [hx])) with e | e
  ·subst e; have := hm.lt x hx; omega
  exact e
variable {s : List Nat} {part : Bool}
def AccS (ins : List InstP) (s : List Nat) (part : Bool) (st : List Nat) (i : Nat) : Prop := ∃ pc ∈ st, Acc ins s part pc i
theorem acc_reach {i : Nat} (hf : first = true → i = 0) (hl : last = true → i = s.length) {a b : Nat} (h : ReachR ins first last a b) : Acc ins s part b i → Acc ins s part a i := by
 induction h with
 | here a => exact id
 | step he _ ih =>
  intro hb
  obtain ⟨n, hn⟩ := ih hb
  obtain ⟨c, hc, h⟩ := he
  refine ⟨n + 1, c, hc, ?_⟩
  rcases h with ⟨h1, rfl | rfl⟩ | ⟨h1, h2, rfl⟩ | ⟨h1, h2, rfl⟩
  ·exact .inr (.inl ⟨h1, .inl hn⟩)
  ·exact .inr (.inl ⟨h1, .inr hn⟩)
  ·exact .inr (.inr (.inl ⟨h1, hf h2, hn⟩))
  exact .inr (.inr (.inr (.inl ⟨h1, hl h2, hn⟩)))
theorem acc_kept {i : Nat} (hf : i = 0 → first = true) : ∀ {n a : Nat}, accN ins s part n a i → ∃ b, ReachR ins first last a b ∧ KeptR ins last b ∧ Acc ins s part b i
 | 0, _, h => h.elim
 | n + 1, a, h => by
  have h' := h
  obtain ⟨c, hc, h⟩ := h
  rcases h with ⟨h1, h2, h3⟩ | ⟨h1, h2⟩ | ⟨h1, h2, h3⟩ | ⟨h1, h2, h3⟩ | ⟨h1, h2⟩
  ·exact ⟨a, .here a, ⟨c, hc, by omega, by omega, fun e => by omega⟩, n + 1, h'⟩
  ·rcases h2 with h2 | h2
   ·obtain ⟨b, hb1, hb2⟩ := acc_kept hf h2
    exact ⟨b, .step ⟨c, hc, .inl ⟨h1, .inl rfl⟩⟩ hb1, hb2⟩
   obtain ⟨b, hb1, hb2⟩ := acc_kept hf h2
   exact ⟨b, .step ⟨c, hc, .inl ⟨h1, .inr rfl⟩⟩ hb1, hb2⟩
  ·obtain ⟨b, hb1, hb2⟩ := acc_kept hf h3
   exact ⟨b, .step ⟨c, hc, .inr (.inl ⟨h1, hf h2, rfl⟩)⟩ hb1, hb2⟩
  ·by_cases hl : last = true
   ·obtain ⟨b, hb1, hb2⟩ := acc_kept hf h3
    exact ⟨b, .step ⟨c, hc, .inr (.inr ⟨h1, hl, rfl⟩)⟩ hb1, hb2⟩
   exact ⟨a, .here a, ⟨c, hc, by omega, by omega, fun e => hl e.2⟩, n + 1, h'⟩
  exact ⟨a, .here a, ⟨c, hc, by omega, by omega, fun e => by omega⟩, n + 1, h'⟩
theorem acc_clos {i : Nat} (hf : first = true ↔ i = 0) (hl : last = true → i = s.length) (from_ : List Nat) : AccS ins s part (closP ins first last from_) i ↔ AccS ins s part from_ i := by
 constructor
 ·rintro ⟨pc, hm, ha⟩
  obtain ⟨⟨a, ha1, ha2⟩, -⟩ := mem_clos.1 hm
  exact ⟨a, ha1, acc_reach hf.1 hl ha2 ha⟩
 rintro ⟨pc, hm, n, ha⟩
 obtain ⟨b, hb1, hb2, hb3⟩ := acc_kept (first := first) (last := last) hf.2 ha
 exact ⟨b, mem_clos.2 ⟨⟨pc, hm, hb1⟩, hb2⟩, hb3⟩
def nextR (ins : List InstP) (st : List Nat) (r : Nat) : List Nat := st.filterMap fun pc => match ins[pc]? with
 | some c => if c.kind = 0 ∧ hasR c.runes r = true then some c.x else none
 | none => none
theorem mem_next {st : List Nat} {r q : Nat} : q ∈ nextR ins st r ↔ ∃ pc ∈ st, ∃ c, ins[pc]? = some c ∧ c.kind = 0 ∧ hasR c.runes r = true ∧ q = c.x := by
 unfold nextR
 rw [List.mem_filterMap]
 refine exists_congr fun pc => and_congr_right fun _ => ?_
 cases hc : ins[pc]? with
 | none => simp
 | some c =>
  simp only [Option.some.injEq, exists_eq_left']
  split
  ·rename_i h; simp only [Option.some.injEq]; exact ⟨fun e => ⟨h.1, h.2, e.symm⟩, fun e => e.2.2.symm⟩
  rename_i h; simp only [reduceCtorEq, false_iff]; exact fun e => h ⟨e.1, e.2.1⟩
def MatR (ins : List InstP) (st : List Nat) : Prop := ∃ pc ∈ st, ∃ c, ins[pc]? = some c ∧ c.kind = 4
noncomputable def startR (ins : List InstP) : List Nat := closP ins true false [0]
noncomputable def stepR (ins : List InstP) (find : Bool) (st : List Nat) (r : Nat) : List Nat := closP ins false false (nextR ins st r ++ if find = true then [0] else [])
def EndR (ins : List InstP) (st : List Nat) (first : Bool) : Prop := MatR ins (closP ins first true st)
theorem acc_end {st : List Nat} (hf : first = true ↔ s.length = 0) : AccS ins s part st s.length ↔ EndR ins st first := by
 rw [← acc_clos (first := first) (last := true) hf (fun _ => rfl) st]
 constructor
 ·rintro ⟨pc, hm, n, ha⟩
  cases n with
  | zero => exact ha.elim
  | succ n =>
   obtain ⟨c, hc, ha⟩ := ha
   obtain ⟨-, c', hc', k1, k2, k3⟩ := mem_clos.1 hm
   rw [hc] at hc'
   cases hc'
   rcases ha with ⟨h1, ⟨r, hr, -⟩, -⟩ | ⟨h1, -⟩ | ⟨h1, -⟩ | ⟨h1, -⟩ | ⟨h1, -⟩
   ·rw [List.getElem?_eq_none (Nat.le_refl _)] at hr; cases hr
   ·exact absurd h1 k1
   ·exact absurd h1 k2
   ·exact absurd ⟨h1, rfl⟩ k3
   exact ⟨pc, hm, c, hc, h1⟩
 rintro ⟨pc, hm, c, hc, h1⟩
 exact ⟨pc, hm, 1, c, hc, .inr (.inr (.inr (.inr ⟨h1, .inr rfl⟩)))⟩
theorem acc_step {st : List Nat} {i r : Nat} (hr : s[i]? = some r) (hk : ∀ pc ∈ st, KeptR ins false pc) :
  AccS ins s part st i ↔ (part = true ∧ MatR ins st) ∨ AccS ins s part (nextR ins st r) (i + 1) := by
 have hi : i < s.length := (List.getElem?_eq_some_iff.1 hr).1
 constructor
 ·rintro ⟨pc, hm, n, ha⟩
  cases n with
  | zero => exact ha.elim
  | succ n =>
   obtain ⟨c, hc, ha⟩ := ha
   obtain ⟨c', hc', k1, k2, -⟩ := hk pc hm
   rw [hc] at hc'
   cases hc'
   rcases ha with ⟨h1, ⟨r', hr', h2⟩, h3⟩ | ⟨h1, -⟩ | ⟨h1, -⟩ | ⟨h1, h2, -⟩ | ⟨h1, h2⟩
   ·rw [hr] at hr'
    cases hr'
    exact .inr ⟨c.x, mem_next.2 ⟨pc, hm, c, hc, h1, h2, rfl⟩, n, h3⟩
   ·exact absurd h1 k1
   ·exact absurd h1 k2
   ·omega
   rcases h2 with h2 | h2
   ·exact .inl ⟨h2, pc, hm, c, hc, h1⟩
   omega
 rintro (⟨h1, pc, hm, c, hc, h2⟩ | ⟨q, hm, n, ha⟩)
 ·exact ⟨pc, hm, 1, c, hc, .inr (.inr (.inr (.inr ⟨h2, .inl h1⟩)))⟩
 obtain ⟨pc, hm2, c, hc, h1, h2, rfl⟩ := mem_next.1 hm
 exact ⟨pc, hm2, n + 1, c, hc, .inl ⟨h1, ⟨r, hr, h2⟩, ha⟩⟩
theorem kept_start : ∀ pc ∈ startR ins, KeptR ins false pc := fun _ h => (mem_clos.1 h).2
theorem kept_step {find : Bool} {st : List Nat} {r : Nat} : ∀ pc ∈ stepR ins find st r, KeptR ins false pc := fun _ h => (mem_clos.1 h).2
noncomputable def runR (ins : List InstP) (find : Bool) (s : List Nat) : Nat → List Nat
 | 0 => startR ins
 | n + 1 => match s[n]? with
  | some r => stepR ins find (runR ins find s n) r
  | none => []
theorem kept_run {find : Bool} : ∀ n, ∀ pc ∈ runR ins find s n, KeptR ins false pc
 | 0 => kept_start
 | n + 1 => by
  unfold runR
  split
  ·exact kept_step
  simp
theorem accS_append {l m : List Nat} {i : Nat} : AccS ins s part (l ++ m) i ↔ AccS ins s part l i ∨ AccS ins s part m i := by
 unfold AccS
 simp only [List.mem_append]
 constructor
 ·rintro ⟨pc, h | h, ha⟩
  ·exact .inl ⟨pc, h, ha⟩
  exact .inr ⟨pc, h, ha⟩
 rintro (⟨pc, h, ha⟩ | ⟨pc, h, ha⟩)
 ·exact ⟨pc, .inl h, ha⟩
 exact ⟨pc, .inr h, ha⟩
theorem accS_one {i : Nat} : AccS ins s part [0] i ↔ Acc ins s part 0 i := by simp [AccS]
theorem whole_run : ∀ n, n ≤ s.length → (AccS ins s false (runR ins false s n) n ↔ Acc ins s false 0 0)
 | 0, _ => by
  rw [← accS_one, ← acc_clos (first := true) (last := false) (i := 0) (by simp) (by simp) [0]]
  rfl
 | n + 1, h => by
  obtain ⟨r, hr⟩ : ∃ r, s[n]? = some r := ⟨_, List.getElem?_eq_getElem (by omega)⟩
  have e : runR ins false s (n + 1) = stepR ins false (runR ins false s n) r := by simp only [runR, hr]
  rw [e, ← whole_run n (by omega), acc_step hr (kept_run n)]
  unfold stepR
  rw [acc_clos (by simp) (by simp), accS_append]
  simp [AccS]
def WholeR (ins : List InstP) (s : List Nat) : Prop := EndR ins (runR ins false s s.length) (decide (s.length = 0))
theorem whole_R {t : Re} (ok : t.ok) (s : List Nat) : WholeR (progR t) s ↔ t.M s 0 s.length := by
 unfold WholeR
 rw [← acc_end (s := s) (part := false) (by simp), whole_run _ (Nat.le_refl _), acc_prog ok]
 constructor
 ·rintro ⟨j, h1, h2 | rfl⟩
  ·cases h2
  exact h1
 exact fun h => ⟨_, h, .inr rfl⟩
theorem part_run : ∀ n, n ≤ s.length → ((∃ m, m < n ∧ MatR ins (runR ins true s m)) ∨ AccS ins s true (runR ins true s n) n ↔ ∃ i, i ≤ n ∧ Acc ins s true 0 i)
 | 0, _ => by
  have : AccS ins s true (runR ins true s 0) 0 ↔ Acc ins s true 0 0 := by
   rw [← accS_one, ← acc_clos (first := true) (last := false) (i := 0) (by simp) (by simp) [0]]
   rfl
  rw [this]
  constructor
  ·rintro (⟨m, h, -⟩ | h)
   ·omega
   exact ⟨0, Nat.le_refl _, h⟩
  rintro ⟨i, hi, h⟩
  obtain rfl : i = 0 := by omega
  exact .inr h
 | n + 1, h => by
  obtain ⟨r, hr⟩ : ∃ r, s[n]? = some r := ⟨_, List.getElem?_eq_getElem (by omega)⟩
  have e : runR ins true s (n + 1) = stepR ins true (runR ins true s n) r := by simp only [runR, hr]
  have ih := part_run n (by omega)
  rw [acc_step hr (kept_run n)] at ih
  have e2 : AccS ins s true (runR ins true s (n + 1)) (n + 1) ↔ AccS ins s true (nextR ins (runR ins true s n) r) (n + 1) ∨ Acc ins s true 0 (n + 1) := by
   rw [e]
   unfold stepR
   rw [acc_clos (by simp) (by simp), accS_append, if_pos rfl, accS_one]
  rw [e2]
  constructor
  ·rintro (⟨m, hm, hx⟩ | h1 | h1)
   ·rcases Nat.lt_or_ge m n with hlt | hge
    ·obtain ⟨i, hi, ha⟩ := ih.1 (.inl ⟨m, hlt, hx⟩)
     exact ⟨i, by omega, ha⟩
    obtain rfl : m = n := by omega
    obtain ⟨i, hi, ha⟩ := ih.1 (.inr (.inl ⟨rfl, hx⟩))
    exact ⟨i, by omega, ha⟩
   ·obtain ⟨i, hi, ha⟩ := ih.1 (.inr (.inr h1))
    exact ⟨i, by omega, ha⟩
   exact ⟨n + 1, Nat.le_refl _, h1⟩
  rintro ⟨i, hi, ha⟩
  rcases Nat.lt_or_ge n i with hlt | hge
  ·obtain rfl : i = n + 1 := by omega
   exact .inr (.inr ha)
  rcases ih.2 ⟨i, hge, ha⟩ with ⟨m, hm, hx⟩ | ⟨-, hx⟩ | h1
  ·exact .inl ⟨m, by omega, hx⟩
  ·exact .inl ⟨n, by omega, hx⟩
  exact .inr (.inl h1)
def PartR (ins : List InstP) (s : List Nat) : Prop := (∃ m, m < s.length ∧ MatR ins (runR ins true s m)) ∨ EndR ins (runR ins true s s.length) (decide (s.length = 0))
theorem part_R {t : Re} (ok : t.ok) (s : List Nat) : PartR (progR t) s ↔ ∃ i j, i ≤ s.length ∧ t.M s i j := by
 unfold PartR
 rw [← acc_end (s := s) (part := true) (by simp), part_run _ (Nat.le_refl _)]
 constructor
 ·rintro ⟨i, hi, ha⟩
  obtain ⟨j, hj, -⟩ := (acc_prog ok i).1 ha
  exact ⟨i, j, hi, hj⟩
 rintro ⟨i, j, hi, hj⟩
 exact ⟨i, hi, (acc_prog ok i).2 ⟨j, hj, .inl rfl⟩⟩
end
open Go
def inI (l : List (Nat × Nat)) (x : Nat) : Prop := ∃ p ∈ l, p.1 ≤ x ∧ x ≤ p.2
def CanonI : List (Nat × Nat) → Prop
 | [] => True
 | [p] => p.1 ≤ p.2
 | p :: q :: r => p.1 ≤ p.2 ∧ p.2 + 1 < q.1 ∧ CanonI (q :: r)
theorem CanonI.tail {p : Nat × Nat} {l : List (Nat × Nat)} (h : CanonI (p :: l)) : CanonI l := by
 cases l with
 | nil => trivial
 | cons q r => exact h.2.2
theorem CanonI.head {p : Nat × Nat} {l : List (Nat × Nat)} (h : CanonI (p :: l)) : p.1 ≤ p.2 := by
 cases l with
 | nil => exact h
 | cons q r => exact h.1
theorem CanonI.gap {p : Nat × Nat} : ∀ {l : List (Nat × Nat)}, CanonI (p :: l) → ∀ q ∈ l, p.2 + 1 < q.1
 | [], _, q, hq => by cases hq
 | a :: r, h, q, hq => by
  rcases List.mem_cons.1 hq with rfl | hq
  ·exact h.2.1
  have h1 := CanonI.gap h.2.2 q hq
  have h2 := h.2.1
  have h3 := CanonI.head h.2.2
  omega
theorem CanonI.cons {p : Nat × Nat} {l : List (Nat × Nat)} (h0 : p.1 ≤ p.2) (h1 : ∀ q ∈ l, p.2 + 1 < q.1) (h : CanonI l) : CanonI (p :: l) := by
 cases l with
 | nil => exact h0
 | cons q r => exact ⟨h0, h1 q (by simp), h⟩
theorem inI_cons {p : Nat × Nat} {l : List (Nat × Nat)} {x : Nat} : inI (p :: l) x ↔ (p.1 ≤ x ∧ x ≤ p.2) ∨ inI l x := by
 simp [inI]
theorem canon_eq : ∀ {l m : List (Nat × Nat)}, CanonI l → CanonI m → (∀ x, inI l x ↔ inI m x) → l = m
 | [], [], _, _, _ => rfl
 | [], q :: m, _, hm, h => by
  have := (h q.1).2 (inI_cons.2 (.inl ⟨Nat.le_refl _, hm.head⟩))
  simp [inI] at this
 | p :: l, [], hl, _, h => by
  have := (h p.1).1 (inI_cons.2 (.inl ⟨Nat.le_refl _, hl.head⟩))
  simp [inI] at this
 | p :: l, q :: m, hl, hm, h => by
  have low : ∀ {a : Nat × Nat} {r : List (Nat × Nat)}, CanonI (a :: r) → ∀ x, inI (a :: r) x → a.1 ≤ x := by
   intro a r ha x hx
   rcases inI_cons.1 hx with h | ⟨b, hb, h1, -⟩
   ·exact h.1
   have := ha.gap b hb
   have := ha.head
   omega
  have e1 : p.1 = q.1 := by
   have h1 := low hm p.1 ((h p.1).1 (inI_cons.2 (.inl ⟨Nat.le_refl _, hl.head⟩)))
   have h2 := low hl q.1 ((h q.1).2 (inI_cons.2 (.inl ⟨Nat.le_refl _, hm.head⟩)))
   omega
  have up : ∀ {a b : Nat × Nat} {r t : List (Nat × Nat)}, CanonI (a :: r) → CanonI (b :: t) → a.1 = b.1 → (∀ x, inI (b :: t) x → inI (a :: r) x) → b.2 ≤ a.2 := by
   intro a b r t ha hb e hx
   rcases Nat.lt_or_ge a.2 b.2 with hlt | hge
   ·exfalso
    have h1 := ha.head
    rcases inI_cons.1 (hx (a.2 + 1) (inI_cons.2 (.inl ⟨by omega, by omega⟩))) with h2 | ⟨c, hc, h2, -⟩
    ·omega
    have := ha.gap c hc
    omega
   exact hge
  have e2 : p.2 = q.2 := by
   have h1 := up hl hm e1 fun x hx => (h x).2 hx
   have h2 := up hm hl e1.symm fun x hx => (h x).1 hx
   omega
  have e : p = q := by cases p; cases q; simp_all
  subst e
  rw [canon_eq hl.tail hm.tail fun x => ?_]
  constructor
  ·intro hx
   rcases inI_cons.1 ((h x).1 (inI_cons.2 (.inr hx))) with h1 | h1
   ·obtain ⟨c, hc, h2, -⟩ := hx
    have := hl.gap c hc
    omega
   exact h1
  intro hx
  rcases inI_cons.1 ((h x).2 (inI_cons.2 (.inr hx))) with h1 | h1
  ·obtain ⟨c, hc, h2, -⟩ := hx
   have := hm.gap c hc
   omega
  exact h1
def SortedI : List (Nat × Nat) → Prop
 | [] => True
 | [_] => True
 | p :: q :: r => p.1 ≤ q.1 ∧ SortedI (q :: r)
theorem SortedI.tail {p : Nat × Nat} {l : List (Nat × Nat)} (h : SortedI (p :: l)) : SortedI l := by
 cases l with
 | nil => trivial
 | cons q r => exact h.2
theorem SortedI.le {p : Nat × Nat} : ∀ {l : List (Nat × Nat)}, SortedI (p :: l) → ∀ q ∈ l, p.1 ≤ q.1
 | [], _, q, hq => by cases hq
 | a :: r, h, q, hq => by
  rcases List.mem_cons.1 hq with rfl | hq
  ·exact h.1
  have := SortedI.le h.2 q hq
  have := h.1
  omega
theorem SortedI.cons {p : Nat × Nat} {l : List (Nat × Nat)} (h : ∀ q ∈ l, p.1 ≤ q.1) (hl : SortedI l) : SortedI (p :: l) := by
 cases l with
 | nil => trivial
 | cons q r => exact ⟨h q (by simp), hl⟩
theorem mem_ins {x y : Nat × Nat} : ∀ {l : List (Nat × Nat)}, y ∈ insR x l ↔ y = x ∨ y ∈ l
 | [] => by simp [insR]
 | z :: l => by
  unfold insR
  split
  ·simp
  simp only [List.mem_cons, mem_ins (l := l)]
  constructor
  ·rintro (h | h | h) <;> simp [h]
  rintro (h | h | h) <;> simp [h]
theorem mem_sort {y : Nat × Nat} : ∀ {l : List (Nat × Nat)}, y ∈ sortR l ↔ y ∈ l
 | [] => by simp [sortR]
 | x :: l => by unfold sortR; rw [mem_ins, mem_sort, List.mem_cons]
theorem sorted_ins {x : Nat × Nat} : ∀ {l : List (Nat × Nat)}, SortedI l → SortedI (insR x l)
 | [], _ => trivial
 | y :: l, h => by
  unfold insR
  split
  ·rename_i hx
   exact ⟨hx, h⟩
  rename_i hx
  refine SortedI.cons (fun q hq => ?_) (sorted_ins h.tail)
  rcases mem_ins.1 hq with rfl | hq
  ·omega
  exact h.le q hq
theorem sorted_sort : ∀ l : List (Nat × Nat), SortedI (sortR l)
 | [] => trivial
 | x :: l => by unfold sortR; exact sorted_ins (sorted_sort l)
theorem canon_snoc : ∀ {l : List (Nat × Nat)} {p : Nat × Nat}, CanonI (l ++ [p]) ↔ CanonI l ∧ p.1 ≤ p.2 ∧ ∀ q ∈ l, q.2 + 1 < p.1
 | [], p => by simp [CanonI]
 | [a], p => by simp [CanonI]; omega
 | a :: b :: r, p => by
  have ih := canon_snoc (l := b :: r) (p := p)
  simp only [List.cons_append] at ih ⊢
  simp only [CanonI, ih, List.mem_cons, forall_eq_or_imp]
  constructor
  ·rintro ⟨h1, h2, h3, h4, h5, h6⟩
   have := CanonI.head h3
   exact ⟨⟨h1, h2, h3⟩, h4, by omega, h5, h6⟩
  rintro ⟨⟨h1, h2, h3⟩, h4, h5, h6, h7⟩
  exact ⟨h1, h2, h3, h4, h6, h7⟩
theorem inI_append {l m : List (Nat × Nat)} {x : Nat} : inI (l ++ m) x ↔ inI l x ∨ inI m x := by
 unfold inI
 simp only [List.mem_append]
 constructor
 ·rintro ⟨p, h | h, hp⟩
  ·exact .inl ⟨p, h, hp⟩
  exact .inr ⟨p, h, hp⟩
 rintro (⟨p, h, hp⟩ | ⟨p, h, hp⟩)
 ·exact ⟨p, .inl h, hp⟩
 exact ⟨p, .inr h, hp⟩
theorem inI_one {p : Nat × Nat} {x : Nat} : inI [p] x ↔ p.1 ≤ x ∧ x ≤ p.2 := by simp [inI]
theorem fold_canon : ∀ (l : List (Nat × Nat)) (out : List (Nat × Nat)), SortedI l → (∀ p ∈ l, p.1 ≤ p.2) → CanonI out → (∀ p ∈ l, ∀ q ∈ out, q.1 ≤ p.1) →
  CanonI (l.foldl stepI out) ∧ ∀ x, inI (l.foldl stepI out) x ↔ inI out x ∨ inI l x
 | [], out, _, _, hc, _ => ⟨hc, fun x => by simp [inI]⟩
 | p :: l, out, hs, hp, hc, hle => by
  have h0 := hp p (by simp)
  have key : CanonI (stepI out p) ∧ (∀ x, inI (stepI out p) x ↔ inI out x ∨ inI [p] x) ∧ ∀ r ∈ l, ∀ q ∈ stepI out p, q.1 ≤ r.1 := by
   have hr : ∀ r ∈ l, p.1 ≤ r.1 := fun r hr => hs.le r hr
   unfold stepI
   cases hg : out.getLast? with
   | none =>
    have : out = [] := by simpa using hg
    subst this
    exact ⟨h0, fun x => by simp [inI], fun r hr' q hq => by simp at hq; rw [hq]; exact hr r hr'⟩
   | some a =>
    obtain ⟨pre, rfl⟩ : ∃ pre, out = pre ++ [a] := by
     obtain ⟨pre, h⟩ := List.getLast?_eq_some_iff.1 hg
     exact ⟨pre, h⟩
    obtain ⟨c1, c2, c3⟩ := canon_snoc.1 hc
    have hpa := hle p (by simp) a (by simp)
    dsimp only
    split
    ·rename_i hj
     rw [List.dropLast_concat]
     refine ⟨canon_snoc.2 ⟨c1, by simp; omega, c3⟩, fun x => ?_, fun r hr' q hq => ?_⟩
     ·rw [inI_append, inI_append, inI_one, inI_one, inI_one]
      simp only
      constructor
      ·rintro (h | ⟨h1, h2⟩)
       ·exact .inl (.inl h)
       by_cases hx : x ≤ a.2
       ·exact .inl (.inr ⟨h1, hx⟩)
       exact .inr ⟨by omega, by omega⟩
      rintro ((h | ⟨h1, h2⟩) | ⟨h1, h2⟩)
      ·exact .inl h
      ·exact .inr ⟨h1, by omega⟩
      exact .inr ⟨by omega, by omega⟩
     rcases List.mem_append.1 hq with h | h
     ·exact hle r (by simp [hr']) q (by simp [h])
     simp only [List.mem_singleton] at h
     subst h
     exact hle r (by simp [hr']) a (by simp)
    rename_i hj
    refine ⟨canon_snoc.2 ⟨hc, h0, fun q hq => ?_⟩, fun x => by rw [inI_append], fun r hr' q hq => ?_⟩
    ·rcases List.mem_append.1 hq with h | h
     ·have := c3 q h; omega
     simp only [List.mem_singleton] at h
     subst h; omega
    rcases List.mem_append.1 hq with h | h
    ·exact hle r (by simp [hr']) q h
    simp only [List.mem_singleton] at h
    subst h
    exact hr r hr'
  obtain ⟨k1, k2, k3⟩ := key
  obtain ⟨r1, r2⟩ := fold_canon l (stepI out p) hs.tail (fun q hq => hp q (by simp [hq])) k1 k3
  refine ⟨r1, fun x => ?_⟩
  rw [List.foldl_cons, r2 x, k2 x, inI_one, inI_cons, or_assoc]
theorem merge_canon {l : List (Nat × Nat)} (hs : SortedI l) (hp : ∀ p ∈ l, p.1 ≤ p.2) : CanonI (mergeI l) ∧ ∀ x, inI (mergeI l) x ↔ inI l x := by
 obtain ⟨h1, h2⟩ := fold_canon l [] hs hp trivial (by simp)
 exact ⟨h1, fun x => by rw [mergeI, h2 x]; simp [inI]⟩
theorem inI_congr {l m : List (Nat × Nat)} (h : ∀ p, p ∈ l ↔ p ∈ m) (x : Nat) : inI l x ↔ inI m x := by
 unfold inI
 simp only [h]
theorem merge_eq {l m : List (Nat × Nat)} (hl : SortedI l) (hp : ∀ p ∈ l, p.1 ≤ p.2) (hm : SortedI m) (h : ∀ p, p ∈ l ↔ p ∈ m) : mergeI l = mergeI m := by
 obtain ⟨h1, h2⟩ := merge_canon hl hp
 obtain ⟨h3, h4⟩ := merge_canon hm fun p hq => hp p ((h p).2 hq)
 exact canon_eq h1 h3 fun x => by rw [h2, h4, inI_congr h]
theorem pairs_flat : ∀ l : List (Nat × Nat), pairsR (flatR l) = l
 | [] => rfl
 | p :: l => by
  have e : flatR (p :: l) = p.1 :: p.2 :: flatR l := by simp [flatR]
  rw [e, pairsR, pairs_flat l]
theorem others_canon : ∀ (l : List (Nat × Nat)) (f : Nat), CanonI l → (∀ p ∈ l, f ≤ p.1 ∧ p.2 ≤ 1114111) →
  CanonI (othersGo f l) ∧ (∀ q ∈ othersGo f l, f ≤ q.1) ∧ ∀ x, inI (othersGo f l) x ↔ (f ≤ x ∧ x ≤ 1114111 ∧ ¬ inI l x)
 | [], f, _, _ => by
  unfold othersGo
  split
  ·rename_i h
   refine ⟨h, by simp, fun x => by simp [inI]⟩
  rename_i h
  refine ⟨trivial, by simp, fun x => ?_⟩
  simp [inI]; omega
 | (a, b) :: l, f, hc, hp => by
  have hab := hc.head
  have hf := hp (a, b) (by simp)
  simp only at hab hf
  obtain ⟨h1, h2, h3⟩ := others_canon l (b + 1) hc.tail fun p hpl => ⟨by have := hc.gap p hpl; simp only at this; omega, (hp p (by simp [hpl])).2⟩
  unfold othersGo
  split
  ·rename_i hlt
   refine ⟨CanonI.cons (by simp; omega) (fun q hq => by have := h2 q hq; simp; omega) h1, ?_, fun x => ?_⟩
   ·intro q hq
    rcases List.mem_cons.1 hq with rfl | hq
    ·exact Nat.le_refl _
    have := h2 q hq; omega
   show inI ((f, a - 1) :: othersGo (b + 1) l) x ↔ _
   rw [inI_cons, h3, inI_cons]
   simp only
   constructor
   ·rintro (⟨h4, h5⟩ | ⟨h4, h5, h6⟩)
    ·refine ⟨h4, by omega, ?_⟩
     rintro (h | ⟨q, hq, h7, -⟩)
     ·omega
     have := hc.gap q hq; simp only at this; omega
    exact ⟨by omega, h5, fun h => h.elim (by omega) h6⟩
   rintro ⟨h4, h5, h6⟩
   by_cases hx : x < a
   ·exact .inl ⟨h4, by omega⟩
   refine .inr ⟨?_, h5, fun h => h6 (.inr h)⟩
   by_cases hb : x ≤ b
   ·exact absurd (.inl ⟨by omega, hb⟩) h6
   omega
  rename_i hlt
  rw [List.nil_append]
  refine ⟨h1, fun q hq => by have := h2 q hq; omega, fun x => ?_⟩
  rw [h3, inI_cons]
  simp only
  constructor
  ·rintro ⟨h4, h5, h6⟩
   exact ⟨by omega, h5, fun h => h.elim (by omega) h6⟩
  rintro ⟨h4, h5, h6⟩
  refine ⟨?_, h5, fun h => h6 (.inr h)⟩
  by_cases hb : x ≤ b
  ·exact absurd (.inl ⟨by omega, hb⟩) h6
  omega
end Garner
