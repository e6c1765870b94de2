import Derived.Test.YtecejnilajbdpaaGreatDoorTy04
namespace Garner
open Go
mutual
theorem size_pos : ∀ t : Re, 1 ≤ t.size
 | .emp => Nat.le_refl _
 | .set _ => Nat.le_refl _
 | .seq l => by simp only [Re.size]; omega
 | .alt l => by simp only [Re.size]; omega
 | .rep k mn mx => by simp only [Re.size]; omega
 | .bgn => Nat.le_refl _
 | .fin => Nat.le_refl _
end
theorem times_pos (mn : Nat) (mx : Option Nat) : 1 ≤ timesR mn mx := by
 cases mx with
 | none => simp [timesR]
 | some m => simp only [timesR]; omega
mutual
theorem len_size : ∀ t : Re, t.ok → t.len + 2 ≤ 3 * t.size
 | .emp, _ => by simp [Re.len, Re.size]
 | .set _, _ => by simp [Re.len, Re.size]
 | .seq l, h => by
  have := lens_size l h
  simp only [Re.len, Re.size]; omega
 | .alt l, h => by
  have := altLen_size l h.2
  simp only [Re.len, Re.size]; omega
 | .rep k mn none, h => by
  have h1 := len_size k h.1
  have h2 : (mn + 1) * (k.len + 2) ≤ (mn + 1) * (3 * k.size) := Nat.mul_le_mul_left _ h1
  have h3 : (mn + 1) * (3 * k.size) = 3 * ((mn + 1) * k.size) := by rw [← Nat.mul_assoc, ← Nat.mul_assoc, Nat.mul_comm (mn + 1) 3]
  have h4 : (mn + 1) * (k.len + 2) = mn * k.len + k.len + 2 * mn + 2 := by rw [Nat.add_mul, Nat.mul_add]; omega
  simp only [Re.len, Re.size, timesR]
  omega
 | .rep k mn (some m), h => by
  have h1 := len_size k h.1
  have hm : mn ≤ m := h.2 m rfl
  have h2 : m * (k.len + 1) ≤ m * (3 * k.size) := Nat.mul_le_mul_left _ (by omega)
  have h3 : m * (3 * k.size) = 3 * (m * k.size) := by rw [← Nat.mul_assoc, ← Nat.mul_assoc, Nat.mul_comm m 3]
  have h4 : mn * k.len ≤ mn * (k.len + 1) := Nat.mul_le_mul_left _ (by omega)
  have h5 : mn * (k.len + 1) + (m - mn) * (k.len + 1) = m * (k.len + 1) := by rw [← Nat.add_mul]; congr 1; omega
  have h6 : m * k.size ≤ max m 1 * k.size := Nat.mul_le_mul_right _ (by omega)
  simp only [Re.len, Re.size, timesR]
  omega
 | .bgn, _ => by simp [Re.len, Re.size]
 | .fin, _ => by simp [Re.len, Re.size]
theorem lens_size : ∀ l : List Re, oks l → lens l ≤ 3 * sizes l
 | [], _ => Nat.le_refl _
 | t :: ts, h => by
  have := len_size t h.1
  have := lens_size ts h.2
  simp only [lens, sizes]; omega
theorem altLen_size : ∀ l : List Re, oks l → altLen l ≤ 3 * sizes l
 | [], _ => Nat.le_refl _
 | [t], h => by
  have := len_size t h.1
  simp only [altLen, sizes]; omega
 | t :: u :: ts, h => by
  have := len_size t h.1
  have := altLen_size (u :: ts) h.2
  simp only [altLen, sizes] at this ⊢; omega
end
mutual
theorem flat_len : ∀ (t : Re) (b : Nat), (t.flat b).length = t.cnt
 | .emp, _ => rfl
 | .set _, _ => rfl
 | .seq l, b => by simp only [Re.flat, Re.cnt, List.length_append, flats_len l b]; rfl
 | .alt l, b => by simp only [Re.flat, Re.cnt, List.length_append, flats_len l b]; rfl
 | .rep k mn mx, b => by simp only [Re.flat, Re.cnt, List.length_append, flat_len k b]; rfl
 | .bgn, _ => rfl
 | .fin, _ => rfl
theorem flats_len : ∀ (l : List Re) (b : Nat), (flats b l).length = cnts l
 | [], _ => rfl
 | t :: ts, b => by simp only [flats, cnts, List.length_append, flat_len t b, flats_len ts]
end
theorem cnt_pos : ∀ t : Re, 1 ≤ t.cnt
 | .emp => Nat.le_refl _
 | .set _ => Nat.le_refl _
 | .seq l => by simp only [Re.cnt]; omega
 | .alt l => by simp only [Re.cnt]; omega
 | .rep k mn mx => by simp only [Re.cnt]; omega
 | .bgn => Nat.le_refl _
 | .fin => Nat.le_refl _
theorem roots_len : ∀ (l : List Re) (b : Nat), (roots b l).length = l.length
 | [], _ => rfl
 | t :: ts, b => by simp only [roots, List.length_cons, roots_len ts]
theorem many_cnt (mk : List Re → Re) (h : ∀ l, (mk l).cnt = cnts l + 1) (l : List Re) : (manyR mk l).cnt ≤ cnts l + 1 := by
 match l with
 | [] => exact Nat.le_of_eq (h [])
 | [t] => simp only [manyR, cnts]; omega
 | t :: u :: r => exact Nat.le_of_eq (h (t :: u :: r))
theorem rowOf_cnt (l : List Re) : (rowOf l).cnt ≤ cnts l + 1 := by
 unfold rowOf
 split
 ·simp [Re.cnt]
 ·exact many_cnt .seq (fun l => rfl) l
theorem quant_cnt {t u : Re} {s s1 : List Nat} (h : quantR t s = some (u, s1)) : u.cnt ≤ t.cnt + 1 ∧ (u.ok ↔ t.ok) := by
 cases s with
 | nil => cases h; exact ⟨by omega, Iff.rfl⟩
 | cons r s =>
  rw [quantR] at h
  repeat' split at h
  all_goals first
   | (cases h; done)
   | (rename_i hl; have hl1 := hl.1; cases h; exact ⟨by simp [Re.cnt], by simp [Re.ok, hl1]⟩)
   | (cases h; exact ⟨by simp [Re.cnt], by simp [Re.ok]⟩)
   | (cases h; exact ⟨by omega, Iff.rfl⟩)
theorem many_ok {mk : List Re → Re} {l : List Re} (hl : oks l) (h : oks l → l ≠ [] → (mk l).ok) (hne : l ≠ []) : (manyR mk l).ok := by
 match l, hl, h, hne with
 | [t], hl, _, _ => exact hl.1
 | t :: u :: r, hl, h, _ => exact h hl (by simp)
theorem rowOf_ok {l : List Re} (hl : oks l) : (rowOf l).ok := by
 unfold rowOf
 split
 ·trivial
 ·rename_i h
  exact many_ok hl (fun h _ => h) (fun e => h (by rw [e]; rfl))
theorem parse_cnt : ∀ n : Nat,
  (∀ {s s1 : List Nat} {ts : List Re} {d : Nat}, altsR n s = some (ts, s1, d) → cnts ts + 4 * s1.length ≤ 4 * s.length + 1 ∧ oks ts ∧ ts ≠ []) ∧
  (∀ {s s1 : List Nat} {ts : List Re} {d : Nat}, rowsR n s = some (ts, s1, d) → cnts ts + 4 * s1.length ≤ 4 * s.length ∧ oks ts) ∧
  (∀ {s s1 : List Nat} {t : Re} {d : Nat}, itemR n s = some (t, s1, d) → t.cnt + 4 * s1.length ≤ 4 * s.length ∧ t.ok) ∧
  (∀ {s s1 : List Nat} {t : Re} {d : Nat}, atomR n s = some (t, s1, d) → t.cnt + 1 + 4 * s1.length ≤ 4 * s.length ∧ t.ok)
 | 0 => ⟨fun h => (by cases h), fun h => (by cases h), fun h => (by cases h), fun h => (by cases h)⟩
 | n + 1 => by
  obtain ⟨ia, ir, ii, it⟩ := parse_cnt n
  refine ⟨?_, ?_, ?_, ?_⟩
  ·intro s s1 ts d h
   rw [altsR] at h
   split at h
   ·cases h
   ·rename_i us s2 e hr
    obtain ⟨h1, h2⟩ := ir hr
    have h3 := rowOf_cnt us
    have h4 := rowOf_ok h2
    split at h
    ·rename_i hc
     split at h
     ·cases h
     ·rename_i vs s3 e2 ha
      obtain ⟨h5, h6, h7⟩ := ia ha
      have := tail_lt hc
      cases h
      exact ⟨by simp only [cnts]; omega, ⟨h4, h6⟩, by simp⟩
    ·cases h
     exact ⟨by simp only [cnts]; omega, ⟨h4, trivial⟩, by simp⟩
  ·intro s s1 ts d h
   rw [rowsR] at h
   split at h
   ·cases h
    exact ⟨by simp [cnts], trivial⟩
   ·split at h
    ·cases h
    ·rename_i t s2 e hi
     obtain ⟨h1, h2⟩ := ii hi
     split at h
     ·cases h
     ·rename_i vs s3 e2 hr
      obtain ⟨h3, h4⟩ := ir hr
      cases h
      exact ⟨by simp only [cnts]; omega, h2, h4⟩
  ·intro s s1 t d h
   rw [itemR] at h
   split at h
   ·cases h
   ·rename_i v s2 e ha
    obtain ⟨h1, h2⟩ := it ha
    obtain ⟨p, hp, e⟩ := Option.map_eq_some_iff.1 h
    have h3 := quantR_len (u := p.1) (s1 := p.2) hp
    obtain ⟨h4, h5⟩ := quant_cnt (u := p.1) (s1 := p.2) hp
    cases e
    exact ⟨by omega, h5.2 h2⟩
  ·intro s s1 t d h
   cases s with
   | nil => cases h
   | cons r s =>
    rw [atomR] at h
    split at h
    ·split at h
     ·cases h
     ·rename_i us s2 e ha
      obtain ⟨h1, h2, h3⟩ := ia ha
      split at h
      ·rename_i hc
       have h4 := tail_lt hc
       have h5 := many_cnt .alt (fun l => rfl) us
       cases h
       exact ⟨by simp only [List.length_cons]; omega, many_ok h2 (fun h hne => ⟨hne, h⟩) h3⟩
      ·cases h
    ·split at h
     ·obtain ⟨p, hp, e⟩ := Option.map_eq_some_iff.1 h
      have := classR_len (m := p.1) (s1 := p.2) hp
      cases e
      exact ⟨by simp only [List.length_cons, Re.cnt]; omega, trivial⟩
     ·repeat' split at h
      all_goals first
       | (cases h; done)
       | (cases h; exact ⟨by simp only [List.length_cons, Re.cnt]; omega, trivial⟩)
       | (obtain ⟨p, hp, e⟩ := Option.map_eq_some_iff.1 h
          have := escR_len (m := p.1) (s1 := p.2) hp
          cases e
          exact ⟨by simp only [List.length_cons, Re.cnt]; omega, trivial⟩)
open Go
section
variable (ins : List InstP) (first last : Bool)
def EdgeR (pc q : Nat) : Prop := ∃ c, ins[pc]? = some c ∧ ((c.kind = 1 ∧ (q = c.x ∨ q = c.y)) ∨ (c.kind = 2 ∧ first = true ∧ q = c.x) ∨ (c.kind = 3 ∧ last = true ∧ q = c.x))
inductive ReachR : Nat → Nat → Prop
 | here (a : Nat) : ReachR a a
 | step {a b c : Nat} : EdgeR ins first last a b → ReachR b c → ReachR a c
def KeptR (pc : Nat) : Prop := ∃ c, ins[pc]? = some c ∧ c.kind ≠ 1 ∧ c.kind ≠ 2 ∧ ¬ (c.kind = 3 ∧ last = true)
def InClos (from_ : List Nat) (pc : Nat) : Prop := (∃ a ∈ from_, ReachR ins first last a pc) ∧ KeptR ins last pc
noncomputable def closP (from_ : List Nat) : List Nat := (List.range ins.length).filter fun pc => @decide (InClos ins first last from_ pc) (Classical.propDecidable _)
end
section
variable {ins : List InstP} {first last : Bool}
theorem mem_clos {from_ : List Nat} {pc : Nat} : pc ∈ closP ins first last from_ ↔ InClos ins first last from_ pc := by
 have hd : @decide (InClos ins first last from_ pc) (Classical.propDecidable _) = true ↔ InClos ins first last from_ pc := @decide_eq_true_iff _ (Classical.propDecidable _)
 unfold closP
 rw [List.mem_filter, List.mem_range]
 refine ⟨fun h => hd.1 h.2, fun h => ⟨?_, hd.2 h⟩⟩
 obtain ⟨c, hc, -⟩ := h.2
 exact (List.getElem?_eq_some_iff.1 hc).1
def AscN : List Nat → Prop
 | [] => True
 | [_] => True
 | a :: b :: r => a < b ∧ AscN (b :: r)
theorem AscN.tail {a : Nat} {l : List Nat} (h : AscN (a :: l)) : AscN l := by
 cases l with
 | nil => trivial
 | cons b r => exact h.2
theorem AscN.lt {a : Nat} : ∀ {l : List Nat}, AscN (a :: l) → ∀ x ∈ l, a < x
 | [], _, x, hx => by cases hx
 | b :: r, h, x, hx => by
  rcases List.mem_cons.1 hx with rfl | hx
  ·exact h.1
  ·have := AscN.lt h.2 x hx
   have := h.1
   omega
theorem AscN.cons {a : Nat} {l : List Nat} (h : ∀ x ∈ l, a < x) (hl : AscN l) : AscN (a :: l) := by
 cases l with
 | nil => trivial
 | cons b r => exact ⟨h b (by simp), hl⟩
theorem AscN.filter {p : Nat → Bool} : ∀ {l : List Nat}, AscN l → AscN (l.filter p)
 | [], _ => trivial
 | a :: l, h => by
  rw [List.filter_cons]
  have ih := AscN.filter (p := p) h.tail
  split
  ·exact AscN.cons (fun x hx => h.lt x (List.mem_filter.1 hx).1) ih
  ·exact ih
theorem asc_range : ∀ (n s : Nat), AscN (List.range' s n)
 | 0, _ => trivial
 | n + 1, s => by
  rw [List.range'_succ]
  exact AscN.cons (fun x hx => by have := List.mem_range'_1.1 hx; omega) (asc_range n (s + 1))
theorem asc_clos {from_ : List Nat} : AscN (closP ins first last from_) := by
 unfold closP
 rw [List.range_eq_range']
 exact AscN.filter (asc_range _ _)
theorem asc_eq : ∀ {l m : List Nat}, AscN l → AscN m → (∀ x, x ∈ l ↔ x ∈ m) → l = m
 | [], [], _, _, _ => rfl
 | [], b :: m, _, _, h => by have := (h b).2 (by simp); cases this
 | a :: l, [], _, _, h => by have := (h a).1 (by simp); cases this
 | a :: l, b :: m, hl, hm, h => by
  have e : a = b := by
   rcases List.mem_cons.1 ((h a).1 (by simp)) with e | e
   ·exact e
   ·rcases List.mem_cons.1 ((h b).2 (by simp)) with e2 | e2
    ·exact e2.symm
    ·have := hm.lt a e
     have := hl.lt b e2
     omega
  subst e
  rw [asc_eq hl.tail hm.tail fun x => ?_]
  constructor
  ·intro hx
   rcases List.mem_cons.1 ((h x).1 (by simp [hx])) with e | e
   ·subst e; have := hl.lt x hx; omega
   ·exact e
  ·intro hx
   rcases List.mem_cons.1 ((h x).2 (by simp [hx])) with e | e
   ·subst e; have := hm.lt x hx; omega
   ·exact e
variable {s : List Nat} {part : Bool}
def AccS (ins : List InstP) (s : List Nat) (part : Bool) (st : List Nat) (i : Nat) : Prop := ∃ pc ∈ st, Acc ins s part pc i
theorem acc_reach {i : Nat} (hf : first = true → i = 0) (hl : last = true → i = s.length) {a b : Nat} (h : ReachR ins first last a b) : Acc ins s part b i → Acc ins s part a i := by
 induction h with
 | here a => exact id
 | step he _ ih =>
  intro hb
  obtain ⟨n, hn⟩ := ih hb
  obtain ⟨c, hc, h⟩ := he
  refine ⟨n + 1, c, hc, ?_⟩
  rcases h with ⟨h1, rfl | rfl⟩ | ⟨h1, h2, rfl⟩ | ⟨h1, h2, rfl⟩
  ·exact .inr (.inl ⟨h1, .inl hn⟩)
  ·exact .inr (.inl ⟨h1, .inr hn⟩)
  ·exact .inr (.inr (.inl ⟨h1, hf h2, hn⟩))
  ·exact .inr (.inr (.inr (.inl ⟨h1, hl h2, hn⟩)))
theorem acc_kept {i : Nat} (hf : i = 0 → first = true) : ∀ {n a : Nat}, accN ins s part n a i → ∃ b, ReachR ins first last a b ∧ KeptR ins last b ∧ Acc ins s part b i
 | 0, _, h => h.elim
 | n + 1, a, h => by
  have h' := h
  obtain ⟨c, hc, h⟩ := h
  rcases h with ⟨h1, h2, h3⟩ | ⟨h1, h2⟩ | ⟨h1, h2, h3⟩ | ⟨h1, h2, h3⟩ | ⟨h1, h2⟩
  ·exact ⟨a, .here a, ⟨c, hc, by omega, by omega, fun e => by omega⟩, n + 1, h'⟩
  ·rcases h2 with h2 | h2
   ·obtain ⟨b, hb1, hb2⟩ := acc_kept hf h2
    exact ⟨b, .step ⟨c, hc, .inl ⟨h1, .inl rfl⟩⟩ hb1, hb2⟩
   ·obtain ⟨b, hb1, hb2⟩ := acc_kept hf h2
    exact ⟨b, .step ⟨c, hc, .inl ⟨h1, .inr rfl⟩⟩ hb1, hb2⟩
  ·obtain ⟨b, hb1, hb2⟩ := acc_kept hf h3
   exact ⟨b, .step ⟨c, hc, .inr (.inl ⟨h1, hf h2, rfl⟩)⟩ hb1, hb2⟩
  ·by_cases hl : last = true
   ·obtain ⟨b, hb1, hb2⟩ := acc_kept hf h3
    exact ⟨b, .step ⟨c, hc, .inr (.inr ⟨h1, hl, rfl⟩)⟩ hb1, hb2⟩
   ·exact ⟨a, .here a, ⟨c, hc, by omega, by omega, fun e => hl e.2⟩, n + 1, h'⟩
  ·exact ⟨a, .here a, ⟨c, hc, by omega, by omega, fun e => by omega⟩, n + 1, h'⟩
theorem acc_clos {i : Nat} (hf : first = true ↔ i = 0) (hl : last = true → i = s.length) (from_ : List Nat) : AccS ins s part (closP ins first last from_) i ↔ AccS ins s part from_ i := by
 constructor
 ·rintro ⟨pc, hm, ha⟩
  obtain ⟨⟨a, ha1, ha2⟩, -⟩ := mem_clos.1 hm
  exact ⟨a, ha1, acc_reach hf.1 hl ha2 ha⟩
 ·rintro ⟨pc, hm, n, ha⟩
  obtain ⟨b, hb1, hb2, hb3⟩ := acc_kept (first := first) (last := last) hf.2 ha
  exact ⟨b, mem_clos.2 ⟨⟨pc, hm, hb1⟩, hb2⟩, hb3⟩
def nextR (ins : List InstP) (st : List Nat) (r : Nat) : List Nat := st.filterMap fun pc => match ins[pc]? with
 | some c => if c.kind = 0 ∧ hasR c.runes r = true then some c.x else none
 | none => none
theorem mem_next {st : List Nat} {r q : Nat} : q ∈ nextR ins st r ↔ ∃ pc ∈ st, ∃ c, ins[pc]? = some c ∧ c.kind = 0 ∧ hasR c.runes r = true ∧ q = c.x := by
 unfold nextR
 rw [List.mem_filterMap]
 refine exists_congr fun pc => and_congr_right fun _ => ?_
 cases hc : ins[pc]? with
 | none => simp
 | some c =>
  simp only [Option.some.injEq, exists_eq_left']
  split
  ·rename_i h; simp only [Option.some.injEq]; exact ⟨fun e => ⟨h.1, h.2, e.symm⟩, fun e => e.2.2.symm⟩
  ·rename_i h; simp only [reduceCtorEq, false_iff]; exact fun e => h ⟨e.1, e.2.1⟩
def MatR (ins : List InstP) (st : List Nat) : Prop := ∃ pc ∈ st, ∃ c, ins[pc]? = some c ∧ c.kind = 4
noncomputable def startR (ins : List InstP) : List Nat := closP ins true false [0]
noncomputable def stepR (ins : List InstP) (find : Bool) (st : List Nat) (r : Nat) : List Nat := closP ins false false (nextR ins st r ++ if find = true then [0] else [])
def EndR (ins : List InstP) (st : List Nat) (first : Bool) : Prop := MatR ins (closP ins first true st)
theorem acc_end {st : List Nat} (hf : first = true ↔ s.length = 0) : AccS ins s part st s.length ↔ EndR ins st first := by
 rw [← acc_clos (first := first) (last := true) hf (fun _ => rfl) st]
 constructor
 ·rintro ⟨pc, hm, n, ha⟩
  cases n with
  | zero => exact ha.elim
  | succ n =>
   obtain ⟨c, hc, ha⟩ := ha
   obtain ⟨-, c', hc', k1, k2, k3⟩ := mem_clos.1 hm
   rw [hc] at hc'
   cases hc'
   rcases ha with ⟨h1, ⟨r, hr, -⟩, -⟩ | ⟨h1, -⟩ | ⟨h1, -⟩ | ⟨h1, -⟩ | ⟨h1, -⟩
   ·rw [List.getElem?_eq_none (Nat.le_refl _)] at hr; cases hr
   ·exact absurd h1 k1
   ·exact absurd h1 k2
   ·exact absurd ⟨h1, rfl⟩ k3
   ·exact ⟨pc, hm, c, hc, h1⟩
 ·rintro ⟨pc, hm, c, hc, h1⟩
  exact ⟨pc, hm, 1, c, hc, .inr (.inr (.inr (.inr ⟨h1, .inr rfl⟩)))⟩
theorem acc_step {st : List Nat} {i r : Nat} (hr : s[i]? = some r) (hk : ∀ pc ∈ st, KeptR ins false pc) :
  AccS ins s part st i ↔ (part = true ∧ MatR ins st) ∨ AccS ins s part (nextR ins st r) (i + 1) := by
 have hi : i < s.length := (List.getElem?_eq_some_iff.1 hr).1
 constructor
 ·rintro ⟨pc, hm, n, ha⟩
  cases n with
  | zero => exact ha.elim
  | succ n =>
   obtain ⟨c, hc, ha⟩ := ha
   obtain ⟨c', hc', k1, k2, -⟩ := hk pc hm
   rw [hc] at hc'
   cases hc'
   rcases ha with ⟨h1, ⟨r', hr', h2⟩, h3⟩ | ⟨h1, -⟩ | ⟨h1, -⟩ | ⟨h1, h2, -⟩ | ⟨h1, h2⟩
   ·rw [hr] at hr'
    cases hr'
    exact .inr ⟨c.x, mem_next.2 ⟨pc, hm, c, hc, h1, h2, rfl⟩, n, h3⟩
   ·exact absurd h1 k1
   ·exact absurd h1 k2
   ·omega
   ·rcases h2 with h2 | h2
    ·exact .inl ⟨h2, pc, hm, c, hc, h1⟩
    ·omega
 ·rintro (⟨h1, pc, hm, c, hc, h2⟩ | ⟨q, hm, n, ha⟩)
  ·exact ⟨pc, hm, 1, c, hc, .inr (.inr (.inr (.inr ⟨h2, .inl h1⟩)))⟩
  ·obtain ⟨pc, hm2, c, hc, h1, h2, rfl⟩ := mem_next.1 hm
   exact ⟨pc, hm2, n + 1, c, hc, .inl ⟨h1, ⟨r, hr, h2⟩, ha⟩⟩
theorem kept_start : ∀ pc ∈ startR ins, KeptR ins false pc := fun _ h => (mem_clos.1 h).2
theorem kept_step {find : Bool} {st : List Nat} {r : Nat} : ∀ pc ∈ stepR ins find st r, KeptR ins false pc := fun _ h => (mem_clos.1 h).2
noncomputable def runR (ins : List InstP) (find : Bool) (s : List Nat) : Nat → List Nat
 | 0 => startR ins
 | n + 1 => match s[n]? with
  | some r => stepR ins find (runR ins find s n) r
  | none => []
theorem kept_run {find : Bool} : ∀ n, ∀ pc ∈ runR ins find s n, KeptR ins false pc
 | 0 => kept_start
 | n + 1 => by
  unfold runR
  split
  ·exact kept_step
  ·simp
theorem accS_append {l m : List Nat} {i : Nat} : AccS ins s part (l ++ m) i ↔ AccS ins s part l i ∨ AccS ins s part m i := by
 unfold AccS
 simp only [List.mem_append]
 constructor
 ·rintro ⟨pc, h | h, ha⟩
  ·exact .inl ⟨pc, h, ha⟩
  ·exact .inr ⟨pc, h, ha⟩
 ·rintro (⟨pc, h, ha⟩ | ⟨pc, h, ha⟩)
  ·exact ⟨pc, .inl h, ha⟩
  ·exact ⟨pc, .inr h, ha⟩
theorem accS_one {i : Nat} : AccS ins s part [0] i ↔ Acc ins s part 0 i := by simp [AccS]
theorem whole_run : ∀ n, n ≤ s.length → (AccS ins s false (runR ins false s n) n ↔ Acc ins s false 0 0)
 | 0, _ => by
  rw [← accS_one, ← acc_clos (first := true) (last := false) (i := 0) (by simp) (by simp) [0]]
  rfl
 | n + 1, h => by
  obtain ⟨r, hr⟩ : ∃ r, s[n]? = some r := ⟨_, List.getElem?_eq_getElem (by omega)⟩
  have e : runR ins false s (n + 1) = stepR ins false (runR ins false s n) r := by simp only [runR, hr]
  rw [e, ← whole_run n (by omega), acc_step hr (kept_run n)]
  unfold stepR
  rw [acc_clos (by simp) (by simp), accS_append]
  simp [AccS]
def WholeR (ins : List InstP) (s : List Nat) : Prop := EndR ins (runR ins false s s.length) (decide (s.length = 0))
theorem whole_R {t : Re} (ok : t.ok) (s : List Nat) : WholeR (progR t) s ↔ t.M s 0 s.length := by
 unfold WholeR
 rw [← acc_end (s := s) (part := false) (by simp), whole_run _ (Nat.le_refl _), acc_prog ok]
 constructor
 ·rintro ⟨j, h1, h2 | rfl⟩
  ·cases h2
  ·exact h1
 ·exact fun h => ⟨_, h, .inr rfl⟩
theorem part_run : ∀ n, n ≤ s.length → ((∃ m, m < n ∧ MatR ins (runR ins true s m)) ∨ AccS ins s true (runR ins true s n) n ↔ ∃ i, i ≤ n ∧ Acc ins s true 0 i)
 | 0, _ => by
  have : AccS ins s true (runR ins true s 0) 0 ↔ Acc ins s true 0 0 := by
   rw [← accS_one, ← acc_clos (first := true) (last := false) (i := 0) (by simp) (by simp) [0]]
   rfl
  rw [this]
  constructor
  ·rintro (⟨m, h, -⟩ | h)
   ·omega
   ·exact ⟨0, Nat.le_refl _, h⟩
  ·rintro ⟨i, hi, h⟩
   obtain rfl : i = 0 := by omega
   exact .inr h
 | n + 1, h => by
  obtain ⟨r, hr⟩ : ∃ r, s[n]? = some r := ⟨_, List.getElem?_eq_getElem (by omega)⟩
  have e : runR ins true s (n + 1) = stepR ins true (runR ins true s n) r := by simp only [runR, hr]
  have ih := part_run n (by omega)
  rw [acc_step hr (kept_run n)] at ih
  have e2 : AccS ins s true (runR ins true s (n + 1)) (n + 1) ↔ AccS ins s true (nextR ins (runR ins true s n) r) (n + 1) ∨ Acc ins s true 0 (n + 1) := by
   rw [e]
   unfold stepR
   rw [acc_clos (by simp) (by simp), accS_append, if_pos rfl, accS_one]
  rw [e2]
  constructor
  ·rintro (⟨m, hm, hx⟩ | h1 | h1)
   ·rcases Nat.lt_or_ge m n with hlt | hge
    ·obtain ⟨i, hi, ha⟩ := ih.1 (.inl ⟨m, hlt, hx⟩)
     exact ⟨i, by omega, ha⟩
    ·obtain rfl : m = n := by omega
     obtain ⟨i, hi, ha⟩ := ih.1 (.inr (.inl ⟨rfl, hx⟩))
     exact ⟨i, by omega, ha⟩
   ·obtain ⟨i, hi, ha⟩ := ih.1 (.inr (.inr h1))
    exact ⟨i, by omega, ha⟩
   ·exact ⟨n + 1, Nat.le_refl _, h1⟩
  ·rintro ⟨i, hi, ha⟩
   rcases Nat.lt_or_ge n i with hlt | hge
   ·obtain rfl : i = n + 1 := by omega
    exact .inr (.inr ha)
   ·rcases ih.2 ⟨i, hge, ha⟩ with ⟨m, hm, hx⟩ | ⟨-, hx⟩ | h1
    ·exact .inl ⟨m, by omega, hx⟩
    ·exact .inl ⟨n, by omega, hx⟩
    ·exact .inr (.inl h1)
def PartR (ins : List InstP) (s : List Nat) : Prop := (∃ m, m < s.length ∧ MatR ins (runR ins true s m)) ∨ EndR ins (runR ins true s s.length) (decide (s.length = 0))
theorem part_R {t : Re} (ok : t.ok) (s : List Nat) : PartR (progR t) s ↔ ∃ i j, i ≤ s.length ∧ t.M s i j := by
 unfold PartR
 rw [← acc_end (s := s) (part := true) (by simp), part_run _ (Nat.le_refl _)]
 constructor
 ·rintro ⟨i, hi, ha⟩
  obtain ⟨j, hj, -⟩ := (acc_prog ok i).1 ha
  exact ⟨i, j, hi, hj⟩
 ·rintro ⟨i, j, hi, hj⟩
  exact ⟨i, hi, (acc_prog ok i).2 ⟨j, hj, .inl rfl⟩⟩
end
open Go
def TgtR (ins : List InstP) : Prop := ∀ (pc : Nat) (c : InstP), ins[pc]? = some c → (c.kind ≠ 4 → c.x < ins.length) ∧ (c.kind = 1 → c.y < ins.length)
def TgtL (e : Nat) (l : List InstP) : Prop := ∀ c ∈ l, c.x ≤ e ∧ c.y ≤ e
theorem TgtL.app {e : Nat} {l m : List InstP} (h : TgtL e l) (k : TgtL e m) : TgtL e (l ++ m) := fun c hc => (List.mem_append.1 hc).elim (h c) (k c)
theorem TgtL.mono {e f : Nat} {l : List InstP} (h : TgtL e l) (hf : e ≤ f) : TgtL f l := fun c hc => ⟨Nat.le_trans (h c hc).1 hf, Nat.le_trans (h c hc).2 hf⟩
theorem TgtL.nil {e : Nat} : TgtL e [] := fun c hc => by cases hc
theorem TgtL.cons {e : Nat} {a : InstP} {l : List InstP} (h1 : a.x ≤ e) (h2 : a.y ≤ e) (h : TgtL e l) : TgtL e (a :: l) := fun c hc => by
 rcases List.mem_cons.1 hc with rfl | hc
 ·exact ⟨h1, h2⟩
 ·exact h c hc
theorem repC_tgt {c : Nat → List InstP} {len : Nat} (h : ∀ p, TgtL (p + len) (c p)) : ∀ n p, TgtL (p + n * len) (repC c len n p)
 | 0, p => .nil
 | n + 1, p => by
  rw [repC]
  have e : (n + 1) * len = len + n * len := by rw [Nat.add_mul]; omega
  refine ((h p).mono (by omega)).app ((repC_tgt h n (p + len)).mono (by omega))
theorem optC_tgt {c : Nat → List InstP} {len e : Nat} (h : ∀ p, TgtL (p + len) (c p)) : ∀ n p, p + n * (len + 1) ≤ e → TgtL e (optC c len e n p)
 | 0, p, _ => .nil
 | n + 1, p, he => by
  have e1 : (n + 1) * (len + 1) = (len + 1) + n * (len + 1) := by rw [Nat.add_mul]; omega
  rw [optC]
  refine .cons (by show p + 1 ≤ e; omega) (Nat.le_refl _) (((h (p + 1)).mono (by omega)).app (optC_tgt h n _ (by omega)))
mutual
theorem code_tgt : ∀ (t : Re) (p : Nat), TgtL (p + t.len) (t.code p)
 | .emp, p => .nil
 | .set l, p => by simp only [Re.code, Re.len]; exact .cons (Nat.le_refl _) (Nat.zero_le _) .nil
 | .seq l, p => by simp only [Re.code, Re.len]; exact codes_tgt l p
 | .alt l, p => by simp only [Re.code, Re.len]; exact altC_tgt l p _ (Nat.le_refl _)
 | .rep k mn none, p => by
  have ih := code_tgt k
  simp only [Re.code, Re.len]
  refine ((repC_tgt ih mn p).mono (by omega)).app (.cons (by show p + mn * k.len + 1 ≤ _; omega) (by show p + mn * k.len + k.len + 2 ≤ _; omega) ((TgtL.mono (ih _) (by omega)).app (.cons (by show p + mn * k.len ≤ _; omega) (by show p + mn * k.len ≤ _; omega) .nil)))
 | .rep k mn (some m), p => by
  have ih := code_tgt k
  simp only [Re.code, Re.len]
  rw [← Nat.add_assoc]
  exact ((repC_tgt ih mn p).mono (by omega)).app (optC_tgt ih (m - mn) (p + mn * k.len) (Nat.le_refl _))
 | .bgn, p => by simp only [Re.code, Re.len]; exact .cons (Nat.le_refl _) (Nat.zero_le _) .nil
 | .fin, p => by simp only [Re.code, Re.len]; exact .cons (Nat.le_refl _) (Nat.zero_le _) .nil
theorem codes_tgt : ∀ (l : List Re) (p : Nat), TgtL (p + lens l) (codes l p)
 | [], p => .nil
 | t :: ts, p => by
  simp only [codes, lens]
  refine ((code_tgt t p).mono (by omega)).app ((codes_tgt ts _).mono (by omega))
theorem altC_tgt : ∀ (l : List Re) (p e : Nat), p + altLen l ≤ e → TgtL e (altC l p e)
 | [], p, e, _ => .nil
 | [t], p, e, he => by
  simp only [altC]
  simp only [altLen] at he
  exact (code_tgt t p).mono he
 | t :: u :: ts, p, e, he => by
  have ih := altC_tgt (u :: ts)
  simp only [altC]
  rw [altLen] at he
  refine .cons (by simp; omega) (by simp; omega) (((code_tgt t _).mono (by omega)).app (.cons (Nat.le_refl _) (Nat.le_refl _) (ih _ _ (by omega))))
end
theorem prog_tgt (t : Re) : TgtR (progR t) := by
 intro pc c hc
 have hl : (progR t).length = t.len + 1 := by unfold progR; rw [List.length_append, code_len]; rfl
 unfold progR at hc
 rw [hl]
 have hm := List.mem_of_getElem? hc
 rcases List.mem_append.1 hm with h | h
 ·have := code_tgt t 0 c h
  exact ⟨fun _ => by omega, fun _ => by omega⟩
 ·rw [List.mem_singleton.1 h]
  exact ⟨fun e => absurd rfl e, fun e => by cases e⟩
section
variable (ins : List InstP) (first last : Bool) (fr : List Nat)
structure DfsR (S : List Bool) (work out : List Nat) : Prop where
 len : S.length = ins.length
 wk : ∀ a ∈ work, a < ins.length ∧ ∃ f ∈ fr, ReachR ins first last f a
 seen : ∀ a, S[a]? = some true → (∃ f ∈ fr, ReachR ins first last f a) ∧ ∀ q, EdgeR ins first last a q → S[q]? = some true ∨ q ∈ work
 all : ∀ f ∈ fr, S[f]? = some true ∨ f ∈ work
 mem : ∀ a, a ∈ out ↔ S[a]? = some true ∧ KeptR ins last a
 nd : out.Nodup
 big : work.length + 2 * S.count false ≤ fr.length + 2 * ins.length
 low : out.length + S.count false ≤ ins.length
end
section
variable {ins : List InstP} {first last : Bool} {fr : List Nat}
theorem ReachR.snoc {a b c : Nat} (h : ReachR ins first last a b) (e : EdgeR ins first last b c) : ReachR ins first last a c := by
 induction h with
 | here a => exact .step e (.here _)
 | step h1 _ ih => exact .step h1 (ih e)
theorem DfsR.start (h : ∀ f ∈ fr, f < ins.length) : DfsR ins first last fr (List.replicate ins.length false) fr [] where
 len := List.length_replicate
 wk a ha := ⟨h a ha, a, ha, .here a⟩
 seen a ha := by
  obtain ⟨hl, e⟩ := List.getElem?_eq_some_iff.1 ha
  rw [List.getElem_replicate] at e
  cases e
 all f hf := .inr hf
 mem a := by
  constructor
  ·intro h; cases h
  ·rintro ⟨ha, -⟩
   obtain ⟨hl, e⟩ := List.getElem?_eq_some_iff.1 ha
   rw [List.getElem_replicate] at e
   cases e
 nd := List.nodup_nil
 big := by rw [List.count_replicate_self]; exact Nat.le_refl _
 low := by rw [List.count_replicate_self]; simp
theorem DfsR.pass {S : List Bool} {l out : List Nat} {pc : Nat} (h : DfsR ins first last fr S (l ++ [pc]) out) (hs : S[pc]? = some true) : DfsR ins first last fr S l out where
 len := h.len
 wk a ha := h.wk a (List.mem_append_left _ ha)
 seen a ha := ⟨(h.seen a ha).1, fun q hq => by
  rcases (h.seen a ha).2 q hq with e | e
  ·exact .inl e
  ·rcases List.mem_append.1 e with e | e
   ·exact .inr e
   ·rw [List.mem_singleton.1 e]; exact .inl hs⟩
 all f hf := by
  rcases h.all f hf with e | e
  ·exact .inl e
  ·rcases List.mem_append.1 e with e | e
   ·exact .inr e
   ·rw [List.mem_singleton.1 e]; exact .inl hs
 mem := h.mem
 nd := h.nd
 big := by have := h.big; rw [List.length_append] at this; simp at this; omega
 low := h.low
theorem count_mark : ∀ {S : List Bool} {pc : Nat}, S[pc]? = some false → (S.set pc true).count false + 1 = S.count false
 | [], pc, h => by simp at h
 | b :: S, 0, h => by simp at h; subst h; simp
 | b :: S, pc + 1, h => by
  have := count_mark (S := S) (pc := pc) (by simpa using h)
  rw [List.set_cons_succ, List.count_cons, List.count_cons]
  omega
theorem DfsR.mark {S : List Bool} {l out add keep : List Nat} {pc : Nat} (ht : TgtR ins) (h : DfsR ins first last fr S (l ++ [pc]) out) (hs : S[pc]? = some false) (ha : ∀ q, EdgeR ins first last pc q ↔ q ∈ add) (h2 : add.length ≤ 2) (hk : (KeptR ins last pc ∧ keep = [pc]) ∨ (¬ KeptR ins last pc ∧ keep = [])) :
  DfsR ins first last fr (S.set pc true) (l ++ add) (out ++ keep) := by
 have hpl : pc < S.length := (List.getElem?_eq_some_iff.1 hs).1
 have hset : ∀ a, (S.set pc true)[a]? = some true ↔ a = pc ∨ S[a]? = some true := fun a => by
  rw [List.getElem?_set]
  by_cases e : pc = a
  ·subst e; simp [hpl]
  ·rw [if_neg e]; constructor
   ·exact .inr
   ·rintro (e2 | e2)
    ·exact absurd e2.symm e
    ·exact e2
 have hpr := h.wk pc (by simp)
 refine ⟨by rw [List.length_set]; exact h.len, fun a hm => ?_, fun a hm => ?_, fun f hf => ?_, fun a => ?_, ?_, ?_, ?_⟩
 ·rcases List.mem_append.1 hm with hm | hm
  ·exact h.wk a (List.mem_append_left _ hm)
  ·have he := (ha a).2 hm
   obtain ⟨f, hf, hr⟩ := hpr.2
   refine ⟨?_, f, hf, hr.snoc he⟩
   obtain ⟨c, hc, k⟩ := he
   have := ht pc c hc
   rcases k with ⟨k1, rfl | rfl⟩ | ⟨k1, -, rfl⟩ | ⟨k1, -, rfl⟩
   ·exact this.1 (by omega)
   ·exact this.2 k1
   ·exact this.1 (by omega)
   ·exact this.1 (by omega)
 ·rcases (hset a).1 hm with rfl | hm
  ·exact ⟨hpr.2, fun q hq => .inr (List.mem_append_right _ ((ha q).1 hq))⟩
  ·refine ⟨(h.seen a hm).1, fun q hq => ?_⟩
   rcases (h.seen a hm).2 q hq with e | e
   ·exact .inl ((hset q).2 (.inr e))
   ·rcases List.mem_append.1 e with e | e
    ·exact .inr (List.mem_append_left _ e)
    ·exact .inl ((hset q).2 (.inl (List.mem_singleton.1 e)))
 ·rcases h.all f hf with e | e
  ·exact .inl ((hset f).2 (.inr e))
  ·rcases List.mem_append.1 e with e | e
   ·exact .inr (List.mem_append_left _ e)
   ·exact .inl ((hset f).2 (.inl (List.mem_singleton.1 e)))
 ·rw [List.mem_append, h.mem a, hset a]
  rcases hk with ⟨k, rfl⟩ | ⟨k, rfl⟩
  ·rw [List.mem_singleton]
   constructor
   ·rintro (⟨e1, e2⟩ | rfl)
    ·exact ⟨.inr e1, e2⟩
    ·exact ⟨.inl rfl, k⟩
   ·rintro ⟨rfl | e1, e2⟩
    ·exact .inr rfl
    ·exact .inl ⟨e1, e2⟩
  ·constructor
   ·rintro (⟨e1, e2⟩ | e)
    ·exact ⟨.inr e1, e2⟩
    ·cases e
   ·rintro ⟨rfl | e1, e2⟩
    ·exact absurd e2 k
    ·exact .inl ⟨e1, e2⟩
 ·rcases hk with ⟨k, rfl⟩ | ⟨k, rfl⟩
  ·rw [List.nodup_append]
   refine ⟨h.nd, by simp, fun a hm b hb => ?_⟩
   rw [List.mem_singleton.1 hb]
   rintro rfl
   have := ((h.mem a).1 hm).1
   rw [hs] at this
   cases this
  ·rw [List.append_nil]; exact h.nd
 ·have := h.big
  have hc := count_mark hs
  rw [List.length_append] at this ⊢
  simp at this
  omega
 ·have := h.low
  have hc := count_mark hs
  rw [List.length_append]
  rcases hk with ⟨k, rfl⟩ | ⟨k, rfl⟩ <;> simp <;> omega
theorem DfsR.reach {S : List Bool} {out : List Nat} (h : DfsR ins first last fr S [] out) {a b : Nat} (hr : ReachR ins first last a b) : S[a]? = some true → S[b]? = some true := by
 induction hr with
 | here a => exact id
 | step e _ ih => exact fun ha => ih (((h.seen _ ha).2 _ e).elim id fun e => by cases e)
theorem DfsR.mem_ {S : List Bool} {out : List Nat} (h : DfsR ins first last fr S [] out) (a : Nat) : a ∈ out ↔ InClos ins first last fr a := by
 rw [h.mem a]
 unfold InClos
 constructor
 ·rintro ⟨h1, h2⟩
  exact ⟨(h.seen a h1).1, h2⟩
 ·rintro ⟨⟨f, hf, hr⟩, h2⟩
  exact ⟨h.reach hr ((h.all f hf).elim id fun e => by cases e), h2⟩
theorem asc_of : ∀ {l : List Nat}, l.Nodup → l.Pairwise (· ≤ ·) → AscN l
 | [], _, _ => trivial
 | [_], _, _ => trivial
 | a :: b :: r, hn, hp => by
  have h1 := (List.pairwise_cons.1 hp).1 b (by simp)
  have h2 : a ≠ b := fun e => (List.nodup_cons.1 hn).1 (by simp [e])
  exact ⟨by omega, asc_of (List.nodup_cons.1 hn).2 (List.pairwise_cons.1 hp).2⟩
theorem DfsR.done {S : List Bool} {out l : List Nat} (h : DfsR ins first last fr S [] out) (hp : l.Perm out) (hs : l.Pairwise (· ≤ ·)) : l = closP ins first last fr :=
 asc_eq (asc_of (hp.nodup_iff.2 h.nd) hs) asc_clos fun x => by rw [hp.mem_iff, h.mem_ x, mem_clos]
theorem clos_lt : ∀ x ∈ closP ins first last fr, x < ins.length := fun x hx => by
 obtain ⟨-, c, hc, -⟩ := mem_clos.1 hx
 exact (List.getElem?_eq_some_iff.1 hc).1
theorem clos_len : (closP ins first last fr).length ≤ ins.length := by
 unfold closP
 exact Nat.le_trans (List.length_filter_le _ _) (by simp)
end
end Garner
