import Derived.Test.YtecejnilajbdpaaGreatDoorTz05
namespace Garner
open Go
theorem runesGo_nil : ∀ n, runesGo n [] = []
 | 0 => rfl
 | n + 1 => by simp [runesGo]
theorem runesGo_fuel : ∀ (n m : Nat) (l : Bs), l.length ≤ n → l.length ≤ m → runesGo n l = runesGo m l
 | 0, m, l, hn, _ => by
  rw [List.eq_nil_of_length_eq_zero (by omega : l.length = 0), runesGo_nil, runesGo_nil]
 | n + 1, 0, l, _, hm => by
  rw [List.eq_nil_of_length_eq_zero (by omega : l.length = 0), runesGo_nil, runesGo_nil]
 | n + 1, m + 1, l, hn, hm => by
  unfold runesGo
  by_cases hl : l = []
  ·rw [if_pos hl, if_pos hl]
  have hw := Lib.decodeL_width l
  have h0 : 0 < l.length := List.length_pos_iff.2 hl
  rw [if_neg hl, if_neg hl, runesGo_fuel n m _ (by rw [List.length_drop]; omega) (by rw [List.length_drop]; omega)]
theorem runes_step {l : Bs} (hl : l ≠ []) : runesP l = (Lib.decodeL l).1 :: runesP (l.drop (Lib.decodeL l).2) := by
 have hw := Lib.decodeL_width l
 have h0 : 0 < l.length := List.length_pos_iff.2 hl
 obtain ⟨n, hn⟩ : ∃ n, l.length = n + 1 := ⟨l.length - 1, by omega⟩
 unfold runesP
 rw [hn]
 conv => lhs; unfold runesGo
 rw [if_neg hl, runesGo_fuel n _ _ (by rw [List.length_drop]; omega) (Nat.le_refl _)]
theorem runes_nil : runesP [] = [] := rfl
theorem runes_le : ∀ (n : Nat) (l : Bs), l.length ≤ n → ∀ r ∈ runesP l, r ≤ 1114111
 | 0, l, hn, r, hr => by rw [List.eq_nil_of_length_eq_zero (by omega : l.length = 0)] at hr; cases hr
 | n + 1, l, hn, r, hr => by
  by_cases hl : l = []
  ·subst hl; cases hr
  have hw := Lib.decodeL_width l
  have h0 : 0 < l.length := List.length_pos_iff.2 hl
  rw [runes_step hl] at hr
  rcases List.mem_cons.1 hr with rfl | hr
  ·exact Lib.decodeL_rune l
  exact runes_le n _ (by rw [List.length_drop]; omega) r hr
theorem runes_len : ∀ (n : Nat) (l : Bs), l.length ≤ n → (runesP l).length ≤ l.length
 | 0, l, hn => by rw [List.eq_nil_of_length_eq_zero (by omega : l.length = 0)]; exact Nat.le_refl _
 | n + 1, l, hn => by
  by_cases hl : l = []
  ·subst hl; exact Nat.le_refl _
  have hw := Lib.decodeL_width l
  have h0 : 0 < l.length := List.length_pos_iff.2 hl
  have := runes_len n (l.drop (Lib.decodeL l).2) (by rw [List.length_drop]; omega)
  rw [runes_step hl, List.length_cons]
  rw [List.length_drop] at this
  omega
def CtxR (u : List Nat) : Prop := u = [] ∨ u.head? = some 41
theorem CtxR.ne {u : List Nat} (h : CtxR u) {c : Nat} (hc : c ≠ 41) : u.head? ≠ some c := by
 rcases h with rfl | h
 ·simp
 rw [h]; intro e; injection e with e; exact hc e.symm
theorem CtxR.head {s u : List Nat} (h : CtxR u) {c : Nat} (hc : c ≠ 41) : ((s ++ u).head? = some c) = (s.head? = some c) := by
 cases s with
 | nil => simp [h.ne hc]
 | cons a s => rfl
noncomputable def wholeB (t : Re) (s : List Nat) : Bool := @decide (t.M s 0 s.length) (Classical.propDecidable _)
noncomputable def partB (t : Re) (s : List Nat) : Bool := @decide (∃ i j, i ≤ s.length ∧ t.M s i j) (Classical.propDecidable _)
theorem whole_iff {t : Re} {s : List Nat} : wholeB t s = true ↔ t.M s 0 s.length := @decide_eq_true_iff _ (Classical.propDecidable _)
theorem part_iff {t : Re} {s : List Nat} : partB t s = true ↔ ∃ i j, i ≤ s.length ∧ t.M s i j := @decide_eq_true_iff _ (Classical.propDecidable _)
theorem iter_le {R : Nat → Nat → Prop} {m : Nat} (h : ∀ {i j}, R i j → i ≤ m → i ≤ j ∧ j ≤ m) : ∀ n {i j}, iterR R n i j → i ≤ m → i ≤ j ∧ j ≤ m
 | 0, i, j, e, hi => by
  have e : i = j := e
  omega
 | n + 1, i, j, ⟨k, h1, h2⟩, hi => by
  have h3 := h h1 hi
  have h4 := iter_le h n h2 h3.2
  omega
mutual
theorem M_le {s : List Nat} : ∀ (t : Re) {i j : Nat}, t.M s i j → i ≤ s.length → i ≤ j ∧ j ≤ s.length
 | .emp, i, j, h, hi => by
  have e : i = j := h
  omega
 | .set l, i, j, h, hi => by
  obtain ⟨e, r, hr, -⟩ := h
  have := (List.getElem?_eq_some_iff.1 hr).1
  omega
 | .seq l, i, j, h, hi => Ms_le l h hi
 | .alt l, i, j, h, hi => Ma_le l h hi
 | .rep k mn mx, i, j, h, hi => by
  obtain ⟨n, -, -, h⟩ := h
  have hk : ∀ {i j}, k.M s i j → i ≤ s.length → i ≤ j ∧ j ≤ s.length := fun h hi => M_le k h hi
  exact iter_le hk n h hi
 | .bgn, i, j, h, hi => by
  have e : i = j := h.1
  omega
 | .fin, i, j, h, hi => by
  have e : i = j := h.1
  omega
theorem Ms_le {s : List Nat} : ∀ (l : List Re) {i j : Nat}, Ms s l i j → i ≤ s.length → i ≤ j ∧ j ≤ s.length
 | [], i, j, h, hi => by
  have e : i = j := h
  omega
 | t :: ts, i, j, ⟨k, h1, h2⟩, hi => by
  have h3 := M_le t h1 hi
  have h4 := Ms_le ts h2 h3.2
  omega
theorem Ma_le {s : List Nat} : ∀ (l : List Re) {i j : Nat}, Ma s l i j → i ≤ s.length → i ≤ j ∧ j ≤ s.length
 | [], i, j, h, hi => h.elim
 | t :: ts, i, j, h, hi => by
  rcases h with h | h
  ·exact M_le t h hi
  exact Ma_le ts h hi
end
def ReadsTo (s : List Nat) (t : Re) : Prop := ∃ ts d, altsR (4 * s.length + 4) s = some (ts, [], d) ∧ t = manyR .alt ts
theorem ReadsTo.ok {s : List Nat} {t : Re} (h : ReadsTo s t) : t.ok := by
 obtain ⟨ts, d, h1, rfl⟩ := h
 obtain ⟨-, h2, h3⟩ := (parse_cnt _).1 h1
 exact many_ok h2 (fun h hne => ⟨hne, h⟩) h3
section
variable {s : List Nat} {a b : Re}
end
open Go
def altF (s : List Nat) : Option (List Re × List Nat × Nat) := altsR (4 * s.length + 4) s
def rowF (s : List Nat) : Option (List Re × List Nat × Nat) := rowsR (4 * s.length + 3) s
def itemF (s : List Nat) : Option (Re × List Nat × Nat) := itemR (4 * s.length + 2) s
def atomF (s : List Nat) : Option (Re × List Nat × Nat) := atomR (4 * s.length + 1) s
theorem rows_fuel {s : List Nat} : ∀ {n m : Nat}, 4 * s.length + 3 ≤ n → n ≤ m → rowsR m s = rowsR n s := by
 intro n m hn hm
 obtain ⟨k, rfl⟩ : ∃ k, m = n + k := ⟨m - n, by omega⟩
 clear hm
 induction k with
 | zero => rfl
 | succ k ih => rw [← Nat.add_assoc, (parse_fuel (n + k)).2.1 s (by omega), ih]
theorem altF_eq (s : List Nat) : altF s = match rowF s with
  | none => none
  | some (ts, s1, d) =>
   if s1.head? = some 124 then
    match altF s1.tail with
    | none => none
    | some (us, s2, e) => some (rowOf ts :: us, s2, max d e)
   else some ([rowOf ts], s1, d) := by
 unfold altF
 rw [show 4 * s.length + 4 = (4 * s.length + 3) + 1 from rfl, altsR]
 show (match rowF s with | none => none | some (ts, s1, d) => _) = _
 cases h : rowF s with
 | none => rfl
 | some p =>
  obtain ⟨ts, s1, d⟩ := p
  have h1 := (parse_len _).2.1 h
  dsimp only
  split
  ·rename_i hc
   have := tail_lt hc
   rw [alts_fuel (s := s1.tail) (n := 4 * s1.tail.length + 4) (Nat.le_refl _) (by omega)]
   cases altsR (4 * s1.tail.length + 4) s1.tail <;> rfl
  rfl
theorem rowF_eq (s : List Nat) : rowF s = if s = [] ∨ s.head? = some 124 ∨ s.head? = some 41 then some ([], s, 0) else
  match itemF s with
  | none => none
  | some (t, s1, d) =>
   match rowF s1 with
   | none => none
   | some (ts, s2, e) => some (t :: ts, s2, max d e) := by
 unfold rowF
 rw [show 4 * s.length + 3 = (4 * s.length + 2) + 1 from rfl, rowsR]
 split
 ·rfl
 show (match itemF s with | none => none | some (t, s1, d) => _) = _
 cases h : itemF s with
 | none => rfl
 | some p =>
  obtain ⟨t, s1, d⟩ := p
  have h1 := (parse_len _).2.2.1 h
  dsimp only
  rw [rows_fuel (s := s1) (n := 4 * s1.length + 3) (Nat.le_refl _) (by omega)]
  cases rowsR (4 * s1.length + 3) s1 <;> rfl
theorem itemF_eq (s : List Nat) : itemF s = match atomF s with
  | none => none
  | some (t, s1, d) => (quantR t s1).map fun p => (p.1, p.2, d) := by
 unfold itemF
 rw [show 4 * s.length + 2 = (4 * s.length + 1) + 1 from rfl, itemR]
 rfl
theorem atomF_eq (r : Nat) (s : List Nat) : atomF (r :: s) =
  if r = 40 then
   match altF s with
   | none => none
   | some (ts, s1, d) => if s1.head? = some 41 then some (manyR .alt ts, s1.tail, d + 1) else none
  else if r = 91 then (classR s).map fun p => (.set p.1, p.2, 0)
  else if r = 46 then some (.set [0, 9, 11, 1114111], s, 0)
  else if r = 94 then some (.bgn, s, 0)
  else if r = 36 then some (.fin, s, 0)
  else if r = 92 then (escR s).map fun p => (.set p.1, p.2, 0)
  else if r ∈ specR then none else some (.set [r, r], s, 0) := by
 unfold atomF
 rw [show 4 * (r :: s).length + 1 = (4 * s.length + 4) + 1 by simp; omega, atomR]
 rfl
theorem altF_cnt {s s1 : List Nat} {ts : List Re} {d : Nat} (h : altF s = some (ts, s1, d)) : cnts ts + 4 * s1.length ≤ 4 * s.length + 1 ∧ oks ts ∧ ts ≠ [] := (parse_cnt _).1 h
theorem rowF_cnt {s s1 : List Nat} {ts : List Re} {d : Nat} (h : rowF s = some (ts, s1, d)) : cnts ts + 4 * s1.length ≤ 4 * s.length ∧ oks ts := (parse_cnt _).2.1 h
theorem itemF_cnt {s s1 : List Nat} {t : Re} {d : Nat} (h : itemF s = some (t, s1, d)) : t.cnt + 4 * s1.length ≤ 4 * s.length ∧ t.ok := (parse_cnt _).2.2.1 h
theorem atomF_cnt {s s1 : List Nat} {t : Re} {d : Nat} (h : atomF s = some (t, s1, d)) : t.cnt + 1 + 4 * s1.length ≤ 4 * s.length ∧ t.ok := (parse_cnt _).2.2.2 h
theorem itemF_len {s s1 : List Nat} {t : Re} {d : Nat} (h : itemF s = some (t, s1, d)) : s1.length < s.length := (parse_len _).2.2.1 h
theorem rowF_len {s s1 : List Nat} {ts : List Re} {d : Nat} (h : rowF s = some (ts, s1, d)) : s1.length ≤ s.length := (parse_len _).2.1 h
theorem cnts_app : ∀ ts us : List Re, cnts (ts ++ us) = cnts ts + cnts us
 | [], us => by simp [cnts]
 | t :: ts, us => by simp only [List.cons_append, cnts, cnts_app ts us]; omega
theorem flats_app : ∀ (ts us : List Re) (b : Nat), flats b (ts ++ us) = flats b ts ++ flats (b + cnts ts) us
 | [], us, b => by simp [flats, cnts]
 | t :: ts, us, b => by
  simp only [List.cons_append, flats, cnts, flats_app ts us, List.append_assoc]
  rw [show b + t.cnt + cnts ts = b + (t.cnt + cnts ts) by omega]
theorem roots_app : ∀ (ts us : List Re) (b : Nat), roots b (ts ++ us) = roots b ts ++ roots (b + cnts ts) us
 | [], us, b => by simp [roots, cnts]
 | t :: ts, us, b => by
  simp only [List.cons_append, roots, cnts, roots_app ts us]
  rw [show b + t.cnt + cnts ts = b + (t.cnt + cnts ts) by omega]
theorem flats_one (t : Re) (b : Nat) : flats b [t] = t.flat b := by simp [flats]
theorem roots_one (t : Re) (b : Nat) : roots b [t] = [b + t.cnt - 1] := by simp [roots]
def TgtR (ins : List InstP) : Prop := ∀ (pc : Nat) (c : InstP), ins[pc]? = some c → (c.kind ≠ 4 → c.x < ins.length) ∧ (c.kind = 1 → c.y < ins.length)
def TgtL (e : Nat) (l : List InstP) : Prop := ∀ c ∈ l, c.x ≤ e ∧ c.y ≤ e
theorem TgtL.app {e : Nat} {l m : List InstP} (h : TgtL e l) (k : TgtL e m) : TgtL e (l ++ m) := fun c hc => (List.mem_append.1 hc).elim (h c) (k c)
theorem TgtL.mono {e f : Nat} {l : List InstP} (h : TgtL e l) (hf : e ≤ f) : TgtL f l := fun c hc => ⟨Nat.le_trans (h c hc).1 hf, Nat.le_trans (h c hc).2 hf⟩
theorem TgtL.nil {e : Nat} : TgtL e [] := fun c hc => by cases hc
theorem TgtL.cons {e : Nat} {a : InstP} {l : List InstP} (h1 : a.x ≤ e) (h2 : a.y ≤ e) (h : TgtL e l) : TgtL e (a :: l) := fun c hc => by
 rcases List.mem_cons.1 hc with rfl | hc
 ·exact ⟨h1, h2⟩
 exact h c hc
theorem repC_tgt {c : Nat → List InstP} {len : Nat} (h : ∀ p, TgtL (p + len) (c p)) : ∀ n p, TgtL (p + n * len) (repC c len n p)
 | 0, p => .nil
 | n + 1, p => by
  rw [repC]
  have e : (n + 1) * len = len + n * len := by rw [Nat.add_mul]; omega
  refine ((h p).mono (by omega)).app ((repC_tgt h n (p + len)).mono (by omega))
theorem optC_tgt {c : Nat → List InstP} {len e : Nat} (h : ∀ p, TgtL (p + len) (c p)) : ∀ n p, p + n * (len + 1) ≤ e → TgtL e (optC c len e n p)
 | 0, p, _ => .nil
 | n + 1, p, he => by
  have e1 : (n + 1) * (len + 1) = (len + 1) + n * (len + 1) := by rw [Nat.add_mul]; omega
  rw [optC]
  refine .cons (by show p + 1 ≤ e; omega) (Nat.le_refl _) (((h (p + 1)).mono (by omega)).app (optC_tgt h n _ (by omega)))
mutual
theorem code_tgt : ∀ (t : Re) (p : Nat), TgtL (p + t.len) (t.code p)
 | .emp, p => .nil
 | .set l, p => by simp only [Re.code, Re.len]; exact .cons (Nat.le_refl _) (Nat.zero_le _) .nil
 | .seq l, p => by simp only [Re.code, Re.len]; exact codes_tgt l p
 | .alt l, p => by simp only [Re.code, Re.len]; exact altC_tgt l p _ (Nat.le_refl _)
 | .rep k mn none, p => by
  have ih := code_tgt k
  simp only [Re.code, Re.len]
  refine ((repC_tgt ih mn p).mono (by omega)).app (.cons (by show p + mn * k.len + 1 ≤ _; omega) (by show p + mn * k.len + k.len + 2 ≤ _; omega) ((TgtL.mono (ih _) (by omega)).app (.cons (by show p + mn * k.len ≤ _; omega) (by show p + mn * k.len ≤ _; omega) .nil)))
 | .rep k mn (some m), p => by
  have ih := code_tgt k
  simp only [Re.code, Re.len]
  rw [← Nat.add_assoc]
  exact ((repC_tgt ih mn p).mono (by omega)).app (optC_tgt ih (m - mn) (p + mn * k.len) (Nat.le_refl _))
 | .bgn, p => by simp only [Re.code, Re.len]; exact .cons (Nat.le_refl _) (Nat.zero_le _) .nil
 | .fin, p => by simp only [Re.code, Re.len]; exact .cons (Nat.le_refl _) (Nat.zero_le _) .nil
theorem codes_tgt : ∀ (l : List Re) (p : Nat), TgtL (p + lens l) (codes l p)
 | [], p => .nil
 | t :: ts, p => by
  simp only [codes, lens]
  refine ((code_tgt t p).mono (by omega)).app ((codes_tgt ts _).mono (by omega))
theorem altC_tgt : ∀ (l : List Re) (p e : Nat), p + altLen l ≤ e → TgtL e (altC l p e)
 | [], p, e, _ => .nil
 | [t], p, e, he => by
  simp only [altC]
  simp only [altLen] at he
  exact (code_tgt t p).mono he
 | t :: u :: ts, p, e, he => by
  have ih := altC_tgt (u :: ts)
  simp only [altC]
  rw [altLen] at he
  refine .cons (by simp; omega) (by simp; omega) (((code_tgt t _).mono (by omega)).app (.cons (Nat.le_refl _) (Nat.le_refl _) (ih _ _ (by omega))))
end
theorem prog_tgt (t : Re) : TgtR (progR t) := by
 intro pc c hc
 have hl : (progR t).length = t.len + 1 := by unfold progR; rw [List.length_append, code_len]; rfl
 unfold progR at hc
 rw [hl]
 have hm := List.mem_of_getElem? hc
 rcases List.mem_append.1 hm with h | h
 ·have := code_tgt t 0 c h
  exact ⟨fun _ => by omega, fun _ => by omega⟩
 rw [List.mem_singleton.1 h]
 exact ⟨fun e => absurd rfl e, fun e => by cases e⟩
section
variable (ins : List InstP) (first last : Bool) (fr : List Nat)
structure DfsR (S : List Bool) (work out : List Nat) : Prop where
 len : S.length = ins.length
 wk : ∀ a ∈ work, a < ins.length ∧ ∃ f ∈ fr, ReachR ins first last f a
 seen : ∀ a, S[a]? = some true → (∃ f ∈ fr, ReachR ins first last f a) ∧ ∀ q, EdgeR ins first last a q → S[q]? = some true ∨ q ∈ work
 all : ∀ f ∈ fr, S[f]? = some true ∨ f ∈ work
 mem : ∀ a, a ∈ out ↔ S[a]? = some true ∧ KeptR ins last a
 nd : out.Nodup
 big : work.length + 2 * S.count false ≤ fr.length + 2 * ins.length
 low : out.length + S.count false ≤ ins.length
end
section
variable {ins : List InstP} {first last : Bool} {fr : List Nat}
theorem ReachR.snoc {a b c : Nat} (h : ReachR ins first last a b) (e : EdgeR ins first last b c) : ReachR ins first last a c := by
 induction h with
 | here a => exact .step e (.here _)
 | step h1 _ ih => exact .step h1 (ih e)
theorem DfsR.start (h : ∀ f ∈ fr, f < ins.length) : DfsR ins first last fr (List.replicate ins.length false) fr [] where
 len := List.length_replicate
 wk a ha := ⟨h a ha, a, ha, .here a⟩
 seen a ha := by
  obtain ⟨hl, e⟩ := List.getElem?_eq_some_iff.1 ha
  rw [List.getElem_replicate] at e
  cases e
 all f hf := .inr hf
 mem a := by
  constructor
  ·intro h; cases h
  rintro ⟨ha, -⟩
  obtain ⟨hl, e⟩ := List.getElem?_eq_some_iff.1 ha
  rw [List.getElem_replicate] at e
  cases e
 nd := List.nodup_nil
 big := by rw [List.count_replicate_self]; exact Nat.le_refl _
 low := by rw [List.count_replicate_self]; simp
theorem DfsR.pass {S : List Bool} {l out : List Nat} {pc : Nat} (h : DfsR ins first last fr S (l ++ [pc]) out) (hs : S[pc]? = some true) : DfsR ins first last fr S l out where
 len := h.len
 wk a ha := h.wk a (List.mem_append_left _ ha)
 seen a ha := ⟨(h.seen a ha).1, fun q hq => by
  rcases (h.seen a ha).2 q hq with e | e
  ·exact .inl e
  rcases List.mem_append.1 e with e | e
  ·exact .inr e
  rw [List.mem_singleton.1 e]; exact .inl hs⟩
 all f hf := by
  rcases h.all f hf with e | e
  ·exact .inl e
  rcases List.mem_append.1 e with e | e
  ·exact .inr e
  rw [List.mem_singleton.1 e]; exact .inl hs
 mem := h.mem
 nd := h.nd
 big := by have := h.big; rw [List.length_append] at this; simp at this; omega
 low := h.low
theorem count_mark : ∀ {S : List Bool} {pc : Nat}, S[pc]? = some false → (S.set pc true).count false + 1 = S.count false
 | [], pc, h => by simp at h
 | b :: S, 0, h => by simp at h; subst h; simp
 | b :: S, pc + 1, h => by
  have := count_mark (S := S) (pc := pc) (by simpa using h)
  rw [List.set_cons_succ, List.count_cons, List.count_cons]
  omega
theorem DfsR.mark {S : List Bool} {l out add keep : List Nat} {pc : Nat} (ht : TgtR ins) (h : DfsR ins first last fr S (l ++ [pc]) out) (hs : S[pc]? = some false) (ha : ∀ q, EdgeR ins first last pc q ↔ q ∈ add) (h2 : add.length ≤ 2) (hk : (KeptR ins last pc ∧ keep = [pc]) ∨ (¬ KeptR ins last pc ∧ keep = [])) :
  DfsR ins first last fr (S.set pc true) (l ++ add) (out ++ keep) := by
 have hpl : pc < S.length := (List.getElem?_eq_some_iff.1 hs).1
 have hset : ∀ a, (S.set pc true)[a]? = some true ↔ a = pc ∨ S[a]? = some true := fun a => by
  rw [List.getElem?_set]
  by_cases e : pc = a
  ·subst e; simp [hpl]
  rw [if_neg e]; constructor
  ·exact .inr
  rintro (e2 | e2)
  ·exact absurd e2.symm e
  exact e2
 have hpr := h.wk pc (by simp)
 refine ⟨by rw [List.length_set]; exact h.len, fun a hm => ?_, fun a hm => ?_, fun f hf => ?_, fun a => ?_, ?_, ?_, ?_⟩
 ·rcases List.mem_append.1 hm with hm | hm
  ·exact h.wk a (List.mem_append_left _ hm)
  have he := (ha a).2 hm
  obtain ⟨f, hf, hr⟩ := hpr.2
  refine ⟨?_, f, hf, hr.snoc he⟩
  obtain ⟨c, hc, k⟩ := he
  have := ht pc c hc
  rcases k with ⟨k1, rfl | rfl⟩ | ⟨k1, -, rfl⟩ | ⟨k1, -, rfl⟩
  ·exact this.1 (by omega)
  ·exact this.2 k1
  ·exact this.1 (by omega)
  exact this.1 (by omega)
 ·rcases (hset a).1 hm with rfl | hm
  ·exact ⟨hpr.2, fun q hq => .inr (List.mem_append_right _ ((ha q).1 hq))⟩
  refine ⟨(h.seen a hm).1, fun q hq => ?_⟩
  rcases (h.seen a hm).2 q hq with e | e
  ·exact .inl ((hset q).2 (.inr e))
  rcases List.mem_append.1 e with e | e
  ·exact .inr (List.mem_append_left _ e)
  exact .inl ((hset q).2 (.inl (List.mem_singleton.1 e)))
 ·rcases h.all f hf with e | e
  ·exact .inl ((hset f).2 (.inr e))
  rcases List.mem_append.1 e with e | e
  ·exact .inr (List.mem_append_left _ e)
  exact .inl ((hset f).2 (.inl (List.mem_singleton.1 e)))
 ·rw [List.mem_append, h.mem a, hset a]
  rcases hk with ⟨k, rfl⟩ | ⟨k, rfl⟩
  ·rw [List.mem_singleton]
   constructor
   ·rintro (⟨e1, e2⟩ | rfl)
    ·exact ⟨.inr e1, e2⟩
    exact ⟨.inl rfl, k⟩
   rintro ⟨rfl | e1, e2⟩
   ·exact .inr rfl
   exact .inl ⟨e1, e2⟩
  constructor
  ·rintro (⟨e1, e2⟩ | e)
   ·exact ⟨.inr e1, e2⟩
   cases e
  rintro ⟨rfl | e1, e2⟩
  ·exact absurd e2 k
  exact .inl ⟨e1, e2⟩
 ·rcases hk with ⟨k, rfl⟩ | ⟨k, rfl⟩
  ·rw [List.nodup_append]
   refine ⟨h.nd, by simp, fun a hm b hb => ?_⟩
   rw [List.mem_singleton.1 hb]
   rintro rfl
   have := ((h.mem a).1 hm).1
   rw [hs] at this
   cases this
  rw [List.append_nil]; exact h.nd
 ·have := h.big
  have hc := count_mark hs
  rw [List.length_append] at this ⊢
  simp at this
  omega
 have := h.low
 have hc := count_mark hs
 rw [List.length_append]
 rcases hk with ⟨k, rfl⟩ | ⟨k, rfl⟩ <;> simp <;> omega
theorem DfsR.reach {S : List Bool} {out : List Nat} (h : DfsR ins first last fr S [] out) {a b : Nat} (hr : ReachR ins first last a b) : S[a]? = some true → S[b]? = some true := by
 induction hr with
 | here a => exact id
 | step e _ ih => exact fun ha => ih (((h.seen _ ha).2 _ e).elim id fun e => by cases e)
theorem DfsR.mem_ {S : List Bool} {out : List Nat} (h : DfsR ins first last fr S [] out) (a : Nat) : a ∈ out ↔ InClos ins first last fr a := by
 rw [h.mem a]
 unfold InClos
 constructor
 ·rintro ⟨h1, h2⟩
  exact ⟨(h.seen a h1).1, h2⟩
 rintro ⟨⟨f, hf, hr⟩, h2⟩
 exact ⟨h.reach hr ((h.all f hf).elim id fun e => by cases e), h2⟩
theorem asc_of : ∀ {l : List Nat}, l.Nodup → l.Pairwise (· ≤ ·) → AscN l
 | [], _, _ => trivial
 | [_], _, _ => trivial
 | a :: b :: r, hn, hp => by
  have h1 := (List.pairwise_cons.1 hp).1 b (by simp)
  have h2 : a ≠ b := fun e => (List.nodup_cons.1 hn).1 (by simp [e])
  exact ⟨by omega, asc_of (List.nodup_cons.1 hn).2 (List.pairwise_cons.1 hp).2⟩
theorem DfsR.done {S : List Bool} {out l : List Nat} (h : DfsR ins first last fr S [] out) (hp : l.Perm out) (hs : l.Pairwise (· ≤ ·)) : l = closP ins first last fr :=
 asc_eq (asc_of (hp.nodup_iff.2 h.nd) hs) asc_clos fun x => by rw [hp.mem_iff, h.mem_ x, mem_clos]
theorem clos_lt : ∀ x ∈ closP ins first last fr, x < ins.length := fun x hx => by
 obtain ⟨-, c, hc, -⟩ := mem_clos.1 hx
 exact (List.getElem?_eq_some_iff.1 hc).1
theorem clos_len : (closP ins first last fr).length ≤ ins.length := by
 unfold closP
 exact Nat.le_trans (List.length_filter_le _ _) (by simp)
end
open Go
section
variable {s : List Nat}
theorem Ms_app2 {ts us : List Re} {i j : Nat} : Ms s (ts ++ us) i j ↔ ∃ k, Ms s ts i k ∧ Ms s us k j := by
 induction ts generalizing i with
 | nil =>
  show _ ↔ ∃ k, i = k ∧ _
  simp
 | cons t ts ih =>
  constructor
  ·rintro ⟨m, h1, h2⟩
   obtain ⟨k, h3, h4⟩ := ih.1 h2
   exact ⟨k, ⟨m, h1, h3⟩, h4⟩
  rintro ⟨k, ⟨m, h1, h3⟩, h4⟩
  exact ⟨m, h1, ih.2 ⟨k, h3, h4⟩⟩
end
section
variable {s : List Nat}
end
open Go
abbrev litS (r : Nat) : Re := .set [r, r]
section
variable {l : List Nat}
end
open Go
mutual
def Re.free : Re → Prop
 | .emp => True
 | .set _ => True
 | .seq l => frees l
 | .alt l => frees l
 | .rep k _ _ => k.free
 | .bgn => False
 | .fin => False
def frees : List Re → Prop
 | [] => True
 | t :: ts => t.free ∧ frees ts
end
theorem tail_mem {s : List Nat} {x : Nat} (h : x ∈ s.tail) : x ∈ s := List.mem_of_mem_tail h
theorem escR_mem {s m s1 : List Nat} (h : escR s = some (m, s1)) : ∀ x ∈ s1, x ∈ s := by
 cases s with
 | nil => cases h
 | cons r s =>
  rw [escR] at h
  repeat' split at h
  all_goals first
   | (injection h with h; injection h with h1 h2; subst h2; intro x hx; exact List.mem_cons_of_mem _ hx)
   | (cases h)
theorem memR_mem {s m s1 : List Nat} (h : memR s = some (m, s1)) : ∀ x ∈ s1, x ∈ s := by
 cases s with
 | nil => cases h
 | cons r s =>
  rw [memR] at h
  split at h
  ·intro x hx; exact List.mem_cons_of_mem _ (escR_mem h x hx)
  split at h
  ·cases h
  injection h with h; injection h with h1 h2; subst h2; intro x hx; exact List.mem_cons_of_mem _ hx
theorem clsR_mem : ∀ {n : Nat} {f : Bool} {s acc m s1 : List Nat}, clsR n f s acc = some (m, s1) → ∀ x ∈ s1, x ∈ s
 | 0, _, _, _, _, _, h => by cases h
 | n + 1, f, s, acc, m, s1, h => by
  rw [clsR] at h
  split at h
  ·injection h with h; injection h with h1 h2
   intro x hx; rw [← h2] at hx; exact tail_mem hx
  split at h
  ·cases h
  rename_i m1 s2 hm
  have h1 := memR_mem hm
  split at h
  ·split at h
   ·cases h
   rename_i t s3 ht
   have h2 := memR_mem ht
   split at h
   ·cases h
   intro x hx; exact h1 x (tail_mem (h2 x (clsR_mem h x hx)))
  intro x hx; exact h1 x (clsR_mem h x hx)
theorem classR_mem {s m s1 : List Nat} (h : classR s = some (m, s1)) : ∀ x ∈ s1, x ∈ s := by
 unfold classR at h
 split at h
 ·obtain ⟨p, hp, e⟩ := Option.map_eq_some_iff.1 h
  injection e with e1 e2
  intro x hx; rw [← e2] at hx
  exact tail_mem (clsR_mem (m := p.1) (s1 := p.2) hp x hx)
 obtain ⟨p, hp, e⟩ := Option.map_eq_some_iff.1 h
 injection e with e1 e2
 intro x hx; rw [← e2] at hx
 exact clsR_mem (m := p.1) (s1 := p.2) hp x hx
theorem digR_mem {s s1 : List Nat} {d : Nat} (h : digR s = some (d, s1)) : ∀ x ∈ s1, x ∈ s := by
 cases s with
 | nil => cases h
 | cons r s =>
  rw [digR] at h
  split at h
  ·injection h with h; injection h with h1 h2; subst h2; intro x hx; exact List.mem_cons_of_mem _ hx
  cases h
theorem quantR_mem {t u : Re} {s s1 : List Nat} (h : quantR t s = some (u, s1)) : (∀ x ∈ s1, x ∈ s) ∧ (t.free → u.free) := by
 cases s with
 | nil => cases h; exact ⟨fun _ h => h, id⟩
 | cons r s =>
  rw [quantR] at h
  split at h
  ·cases h; exact ⟨fun x hx => List.mem_cons_of_mem _ hx, id⟩
  split at h
  ·cases h; exact ⟨fun x hx => List.mem_cons_of_mem _ hx, id⟩
  split at h
  ·cases h; exact ⟨fun x hx => List.mem_cons_of_mem _ hx, id⟩
  split at h
  ·split at h
   ·cases h
   rename_i lo s2 h1
   have m1 := digR_mem h1
   split at h
   ·split at h
    ·cases h
    rename_i hi s3 h2
    have m2 := digR_mem h2
    split at h
    ·injection h with h; injection h with h3 h4
     subst h3 h4
     exact ⟨fun x hx => List.mem_cons_of_mem _ (m1 x (tail_mem (m2 x (tail_mem hx)))), id⟩
    cases h
   split at h
   ·injection h with h; injection h with h3 h4
    subst h3 h4
    exact ⟨fun x hx => List.mem_cons_of_mem _ (m1 x (tail_mem hx)), id⟩
   cases h
  cases h; exact ⟨fun _ h => h, id⟩
theorem many_free {mk : List Re → Re} (h : ∀ l, (mk l).free = frees l) {l : List Re} (hl : frees l) : (manyR mk l).free := by
 match l, hl with
 | [], hl => exact (h []).symm ▸ hl
 | [t], hl => exact hl.1
 | t :: u :: r, hl => exact (h (t :: u :: r)).symm ▸ hl
theorem rowOf_free {l : List Re} (hl : frees l) : (rowOf l).free := by
 unfold rowOf
 split
 ·trivial
 exact many_free (mk := .seq) (fun _ => rfl) hl
theorem parse_free : ∀ n : Nat,
  (∀ {s s1 : List Nat} {ts : List Re} {d : Nat}, altsR n s = some (ts, s1, d) → (∀ x ∈ s1, x ∈ s) ∧ (94 ∉ s → 36 ∉ s → frees ts)) ∧
  (∀ {s s1 : List Nat} {ts : List Re} {d : Nat}, rowsR n s = some (ts, s1, d) → (∀ x ∈ s1, x ∈ s) ∧ (94 ∉ s → 36 ∉ s → frees ts)) ∧
  (∀ {s s1 : List Nat} {t : Re} {d : Nat}, itemR n s = some (t, s1, d) → (∀ x ∈ s1, x ∈ s) ∧ (94 ∉ s → 36 ∉ s → t.free)) ∧
  (∀ {s s1 : List Nat} {t : Re} {d : Nat}, atomR n s = some (t, s1, d) → (∀ x ∈ s1, x ∈ s) ∧ (94 ∉ s → 36 ∉ s → t.free))
 | 0 => ⟨fun h => (by cases h), fun h => (by cases h), fun h => (by cases h), fun h => (by cases h)⟩
 | n + 1 => by
  obtain ⟨ia, ir, ii, it⟩ := parse_free n
  refine ⟨?_, ?_, ?_, ?_⟩
  ·intro s s1 ts d h
   rw [altsR] at h
   split at h
   ·cases h
   rename_i us s2 e hr
   obtain ⟨h1, h2⟩ := ir hr
   split at h
   ·split at h
    ·cases h
    rename_i vs s3 e2 ha
    obtain ⟨h3, h4⟩ := ia ha
    cases h
    exact ⟨fun x hx => h1 x (tail_mem (h3 x hx)), fun p q => ⟨rowOf_free (h2 p q), h4 (fun h => p (h1 _ (tail_mem h))) (fun h => q (h1 _ (tail_mem h)))⟩⟩
   cases h
   exact ⟨h1, fun p q => ⟨rowOf_free (h2 p q), trivial⟩⟩
  ·intro s s1 ts d h
   rw [rowsR] at h
   split at h
   ·cases h
    exact ⟨fun _ h => h, fun _ _ => trivial⟩
   split at h
   ·cases h
   rename_i t s2 e hi
   obtain ⟨h1, h2⟩ := ii hi
   split at h
   ·cases h
   rename_i vs s3 e2 hr
   obtain ⟨h3, h4⟩ := ir hr
   cases h
   exact ⟨fun x hx => h1 x (h3 x hx), fun p q => ⟨h2 p q, h4 (fun h => p (h1 _ h)) (fun h => q (h1 _ h))⟩⟩
  ·intro s s1 t d h
   rw [itemR] at h
   split at h
   ·cases h
   rename_i v s2 e ha
   obtain ⟨h1, h2⟩ := it ha
   obtain ⟨p, hp, e⟩ := Option.map_eq_some_iff.1 h
   obtain ⟨h3, h4⟩ := quantR_mem (u := p.1) (s1 := p.2) hp
   cases e
   exact ⟨fun x hx => h1 x (h3 x hx), fun a b => h4 (h2 a b)⟩
  intro s s1 t d h
  cases s with
  | nil => cases h
  | cons r s =>
   rw [atomR] at h
   split at h
   ·split at h
    ·cases h
    rename_i us s2 e ha
    obtain ⟨h1, h2⟩ := ia ha
    split at h
    ·cases h
     exact ⟨fun x hx => List.mem_cons_of_mem _ (h1 x (tail_mem hx)), fun p q => many_free (mk := .alt) (fun _ => rfl) (h2 (fun h => p (List.mem_cons_of_mem _ h)) (fun h => q (List.mem_cons_of_mem _ h)))⟩
    cases h
   split at h
   ·obtain ⟨p, hp, e⟩ := Option.map_eq_some_iff.1 h
    have h1 := classR_mem (m := p.1) (s1 := p.2) hp
    cases e
    exact ⟨fun x hx => List.mem_cons_of_mem _ (h1 x hx), fun _ _ => trivial⟩
   split at h
   ·cases h; exact ⟨fun x hx => List.mem_cons_of_mem _ hx, fun _ _ => trivial⟩
   split at h
   ·rename_i hc
    cases h
    exact ⟨fun x hx => List.mem_cons_of_mem _ hx, fun p _ => (p (by rw [hc]; exact List.mem_cons_self)).elim⟩
   split at h
   ·rename_i hc
    cases h
    exact ⟨fun x hx => List.mem_cons_of_mem _ hx, fun _ p => (p (by rw [hc]; exact List.mem_cons_self)).elim⟩
   split at h
   ·obtain ⟨p, hp, e⟩ := Option.map_eq_some_iff.1 h
    have h1 := escR_mem (m := p.1) (s1 := p.2) hp
    cases e
    exact ⟨fun x hx => List.mem_cons_of_mem _ (h1 x hx), fun _ _ => trivial⟩
   split at h
   ·cases h
   cases h; exact ⟨fun x hx => List.mem_cons_of_mem _ hx, fun _ _ => trivial⟩
theorem ReadsTo.free {s : List Nat} {t : Re} (h : ReadsTo s t) (h1 : 94 ∉ s) (h2 : 36 ∉ s) : t.free := by
 obtain ⟨ts, d, h3, rfl⟩ := h
 exact many_free (mk := .alt) (fun _ => rfl) (((parse_free _).1 h3).2 h1 h2)
open Go
section
variable {p q : Nat}
variable {s : List Nat}
end
open Go
def swapC (xs : List Nat) (j : Nat) : List Nat := (xs.set (j + 1) (xs[j]?.getD 0)).set j (xs[j + 1]?.getD 0)
def downC : Nat → List Nat → List Nat
 | 0, xs => xs
 | j + 1, xs => if xs[j + 1]?.getD 0 < xs[j]?.getD 0 then downC j (swapC xs j) else xs
def sortC : Nat → List Nat → List Nat
 | 0, xs => xs
 | i + 1, xs => downC (i + 1) (sortC i xs)
theorem swapC_len (xs : List Nat) (j : Nat) : (swapC xs j).length = xs.length := by simp [swapC]
theorem downC_len : ∀ (j : Nat) (xs : List Nat), (downC j xs).length = xs.length
 | 0, _ => rfl
 | j + 1, xs => by
  rw [downC]; split
  ·rw [downC_len j, swapC_len]
  rfl
theorem sortC_len : ∀ (i : Nat) (xs : List Nat), (sortC i xs).length = xs.length
 | 0, _ => rfl
 | i + 1, xs => by rw [sortC, downC_len, sortC_len i]
theorem swapC_at {xs : List Nat} {j : Nat} (hj : j + 1 < xs.length) (m : Nat) : (swapC xs j)[m]?.getD 0 = if m = j then xs[j + 1]?.getD 0 else if m = j + 1 then xs[j]?.getD 0 else xs[m]?.getD 0 := by
 unfold swapC
 by_cases h1 : m = j
 ·subst h1
  rw [if_pos rfl, List.getElem?_set_self (by simp; omega)]; rfl
 rw [if_neg h1, List.getElem?_set_ne (fun e => h1 e.symm)]
 by_cases h2 : m = j + 1
 ·subst h2
  rw [if_pos rfl, List.getElem?_set_self hj]; rfl
 rw [if_neg h2, List.getElem?_set_ne (fun e => h2 e.symm)]
theorem mem_getD {xs : List Nat} {c : Nat} : c ∈ xs ↔ ∃ m, m < xs.length ∧ xs[m]?.getD 0 = c := by
 rw [List.mem_iff_getElem]
 constructor
 ·rintro ⟨m, hm, h⟩
  exact ⟨m, hm, by rw [List.getElem?_eq_getElem hm, h]; rfl⟩
 rintro ⟨m, hm, h⟩
 exact ⟨m, hm, by rw [List.getElem?_eq_getElem hm] at h; exact h⟩
theorem mem_swapC {xs : List Nat} {j : Nat} (hj : j + 1 < xs.length) (c : Nat) : c ∈ swapC xs j ↔ c ∈ xs := by
 rw [mem_getD, mem_getD, swapC_len]
 constructor
 ·rintro ⟨m, hm, h⟩
  rw [swapC_at hj] at h
  split at h
  ·exact ⟨j + 1, hj, h⟩
  split at h
  ·exact ⟨j, by omega, h⟩
  exact ⟨m, hm, h⟩
 rintro ⟨m, hm, h⟩
 by_cases h1 : m = j
 ·exact ⟨j + 1, hj, by rw [swapC_at hj, if_neg (by omega), if_pos rfl, ← h1]; exact h⟩
 by_cases h2 : m = j + 1
 ·exact ⟨j, by omega, by rw [swapC_at hj, if_pos rfl, ← h2]; exact h⟩
 exact ⟨m, hm, by rw [swapC_at hj, if_neg h1, if_neg h2]; exact h⟩
theorem mem_downC : ∀ (j : Nat) (xs : List Nat), j < xs.length → ∀ c, c ∈ downC j xs ↔ c ∈ xs
 | 0, _, _, _ => Iff.rfl
 | j + 1, xs, hj, c => by
  rw [downC]
  split
  ·rw [mem_downC j _ (by rw [swapC_len]; omega), mem_swapC hj]
  rfl
theorem mem_sortC : ∀ (i : Nat) (xs : List Nat), i < xs.length → ∀ c, c ∈ sortC i xs ↔ c ∈ xs
 | 0, _, _, _ => Iff.rfl
 | i + 1, xs, hi, c => by rw [sortC, mem_downC _ _ (by rw [sortC_len]; omega), mem_sortC i xs (by omega)]
def UpTo (xs : List Nat) (n : Nat) : Prop := ∀ a b, a < b → b < n → xs[a]?.getD 0 ≤ xs[b]?.getD 0
theorem downC_up : ∀ (j : Nat) (xs : List Nat) (i : Nat), j ≤ i → i < xs.length → (∀ a b, a < b → b ≤ i → a ≠ j → b ≠ j → xs[a]?.getD 0 ≤ xs[b]?.getD 0) → (∀ b, j < b → b ≤ i → xs[j]?.getD 0 ≤ xs[b]?.getD 0) → UpTo (downC j xs) (i + 1)
 | 0, xs, i, _, _, h1, h2 => fun a b hab hb => by
  show xs[a]?.getD 0 ≤ xs[b]?.getD 0
  by_cases ha : a = 0
  ·subst ha; exact h2 b hab (by omega)
  exact h1 a b hab (by omega) ha (by omega)
 | j + 1, xs, i, hj, hi, h1, h2 => by
  rw [downC]
  split
  ·rename_i hlt
   refine downC_up j (swapC xs j) i (by omega) (by rw [swapC_len]; exact hi) (fun a b hab hb ha hbj => ?_) (fun b hb1 hb2 => ?_)
   ·rw [swapC_at (by omega), swapC_at (by omega), if_neg ha, if_neg hbj]
    by_cases ha1 : a = j + 1
    ·rw [if_pos ha1, if_neg (by omega)]
     exact h1 j b (by omega) hb (by omega) (by omega)
    rw [if_neg ha1]
    by_cases hb1 : b = j + 1
    ·rw [if_pos hb1]
     exact h1 a j (by omega) (by omega) ha1 (by omega)
    rw [if_neg hb1]
    exact h1 a b hab hb ha1 hb1
   rw [swapC_at (by omega), swapC_at (by omega), if_pos rfl, if_neg (by omega)]
   by_cases hb3 : b = j + 1
   ·rw [if_pos hb3]; omega
   rw [if_neg hb3]
   exact h2 b (by omega) hb2
  rename_i hlt
  intro a b hab hb
  by_cases ha : a = j + 1
  ·subst ha; exact h2 b hab (by omega)
  by_cases hb1 : b = j + 1
  ·subst hb1
   by_cases ha2 : a = j
   ·subst ha2; omega
   have := h1 a j (by omega) (by omega) ha (by omega)
   omega
  exact h1 a b hab (by omega) ha hb1
theorem sortC_up : ∀ (i : Nat) (xs : List Nat), i < xs.length → UpTo (sortC i xs) (i + 1)
 | 0, _, _ => fun a b hab hb => by omega
 | i + 1, xs, hi => by
  have ih := sortC_up i xs (by omega)
  rw [sortC]
  refine downC_up (i + 1) _ (i + 1) (Nat.le_refl _) (by rw [sortC_len]; exact hi) (fun a b hab hb ha hbj => ih a b hab (by omega)) (fun b h1 h2 => by omega)
def cutsP (P : List (Nat × Nat)) : List Nat := 0 :: 1114112 :: P.flatMap fun p => [p.1, p.2 + 1]
def hasB (P : List (Nat × Nat)) (x : Nat) : Bool := P.any fun p => decide (p.1 ≤ x) && decide (x ≤ p.2)
theorem hasB_iff {P : List (Nat × Nat)} {x : Nat} : hasB P x = true ↔ inI P x := by
 unfold hasB inI
 rw [List.any_eq_true]
 constructor
 ·rintro ⟨p, hp, h⟩
  rw [Bool.and_eq_true, decide_eq_true_iff, decide_eq_true_iff] at h
  exact ⟨p, hp, h⟩
 rintro ⟨p, hp, h⟩
 exact ⟨p, hp, by rw [Bool.and_eq_true, decide_eq_true_iff, decide_eq_true_iff]; exact h⟩
def stepC (P : List (Nat × Nat)) (nt : Bool) (out : List (Nat × Nat)) (a b : Nat) : List (Nat × Nat) :=
 if a = b ∨ hasB P a = nt then out else
 match out.getLast? with
 | some p => if p.2 + 1 = a then out.dropLast ++ [(p.1, b - 1)] else out ++ [(a, b - 1)]
 | none => [(a, b - 1)]
def cleanN (P : List (Nat × Nat)) (nt : Bool) (L : List Nat) : Nat → List (Nat × Nat)
 | 0 => []
 | i + 1 => stepC P nt (cleanN P nt L i) (L[i]?.getD 0) (L[i + 1]?.getD 0)
theorem const_mid {P : List (Nat × Nat)} {a b : Nat} (hP : ∀ p ∈ P, (p.1 ≤ a ∨ b ≤ p.1) ∧ (p.2 + 1 ≤ a ∨ b ≤ p.2 + 1)) {x : Nat} (h1 : a ≤ x) (h2 : x < b) : hasB P x = hasB P a := by
 rw [Bool.eq_iff_iff, hasB_iff, hasB_iff]
 constructor
 ·rintro ⟨p, hp, h3, h4⟩
  have := hP p hp
  exact ⟨p, hp, by omega, by omega⟩
 rintro ⟨p, hp, h3, h4⟩
 have := hP p hp
 exact ⟨p, hp, by omega, by omega⟩
theorem canon_all : ∀ {l : List (Nat × Nat)}, CanonI l → ∀ p ∈ l, p.1 ≤ p.2
 | [], _, p, hp => by cases hp
 | q :: l, h, p, hp => by
  rcases List.mem_cons.1 hp with rfl | hp
  ·exact h.head
  exact canon_all h.tail p hp
theorem step_law {P : List (Nat × Nat)} {nt : Bool} {out : List (Nat × Nat)} {a b : Nat} (hab : a ≤ b) (hP : ∀ p ∈ P, (p.1 ≤ a ∨ b ≤ p.1) ∧ (p.2 + 1 ≤ a ∨ b ≤ p.2 + 1)) (hc : CanonI out) (hi : ∀ x, inI out x ↔ x < a ∧ hasB P x ≠ nt) :
  CanonI (stepC P nt out a b) ∧ ∀ x, inI (stepC P nt out a b) x ↔ x < b ∧ hasB P x ≠ nt := by
 have hcm := fun x => const_mid hP (x := x)
 unfold stepC
 split
 ·rename_i h
  refine ⟨hc, fun x => ?_⟩
  rw [hi]
  constructor
  ·rintro ⟨h1, h2⟩; exact ⟨by omega, h2⟩
  rintro ⟨h1, h2⟩
  refine ⟨?_, h2⟩
  rcases Nat.lt_or_ge x a with h3 | h3
  ·exact h3
  rcases h with h | h
  ·omega
  exact absurd ((hcm x h3 h1).trans h) h2
 rename_i h
 have h1 : a < b := by
  rcases Nat.lt_or_ge a b with h2 | h2
  ·exact h2
  exact absurd (.inl (by omega)) h
 have h2 : hasB P a ≠ nt := fun e => h (.inr e)
 have hnew : ∀ x, (inI out x ∨ inI [(a, b - 1)] x) ↔ x < b ∧ hasB P x ≠ nt := fun x => by
  rw [hi, inI_one]
  dsimp only
  constructor
  ·rintro (⟨h3, h4⟩ | ⟨h3, h4⟩)
   ·exact ⟨by omega, h4⟩
   exact ⟨by omega, by rw [hcm x h3 (by omega)]; exact h2⟩
  rintro ⟨h3, h4⟩
  rcases Nat.lt_or_ge x a with h5 | h5
  ·exact .inl ⟨h5, h4⟩
  exact .inr ⟨h5, by omega⟩
 cases hg : out.getLast? with
 | none =>
  have : out = [] := by simpa using hg
  subst this
  refine ⟨by show a ≤ b - 1; omega, fun x => ?_⟩
  rw [← hnew]
  simp [inI]
 | some p =>
  obtain ⟨pre, rfl⟩ : ∃ pre, out = pre ++ [p] := by
   obtain ⟨pre, h⟩ := List.getLast?_eq_some_iff.1 hg
   exact ⟨pre, h⟩
  obtain ⟨c1, c2, c3⟩ := canon_snoc.1 hc
  have hpa : p.2 < a := ((hi p.2).1 (inI_append.2 (.inr (inI_one.2 ⟨c2, Nat.le_refl _⟩)))).1
  dsimp only
  split
  ·rename_i hj
   rw [List.dropLast_concat]
   refine ⟨canon_snoc.2 ⟨c1, by simp; omega, c3⟩, fun x => ?_⟩
   rw [← hnew, inI_append, inI_append, inI_one, inI_one, inI_one]
   dsimp only
   constructor
   ·rintro (h3 | ⟨h3, h4⟩)
    ·exact .inl (.inl h3)
    by_cases hx : x ≤ p.2
    ·exact .inl (.inr ⟨h3, hx⟩)
    exact .inr ⟨by omega, h4⟩
   rintro ((h3 | ⟨h3, h4⟩) | ⟨h3, h4⟩)
   ·exact .inl h3
   ·exact .inr ⟨h3, by omega⟩
   exact .inr ⟨by omega, h4⟩
  rename_i hj
  refine ⟨canon_snoc.2 ⟨hc, by simp; omega, fun q hq => ?_⟩, fun x => by rw [inI_append]; exact hnew x⟩
  have hq2 : q.2 < a := by
   obtain ⟨m, hm, e⟩ := List.mem_iff_getElem.1 hq
   have hcq : q.1 ≤ q.2 := by
    rcases List.mem_append.1 hq with hq | hq
    ·exact (canon_all c1 q hq)
    rw [List.mem_singleton.1 hq]; exact c2
   exact ((hi q.2).1 ⟨q, hq, hcq, Nat.le_refl _⟩).1
  rcases List.mem_append.1 hq with hq' | hq'
  ·have := c3 q hq'
   show q.2 + 1 < a
   omega
  rw [List.mem_singleton.1 hq'] at hq2 ⊢
  show p.2 + 1 < a
  omega
theorem clean_law {P : List (Nat × Nat)} (hP : ∀ p ∈ P, p.1 ≤ p.2 ∧ p.2 ≤ 1114111) (nt : Bool) (L : List Nat) (n : Nat) (hn : L.length = n + 1) (hu : UpTo L (n + 1)) (hm : ∀ c, c ∈ L ↔ c ∈ cutsP P) :
  cleanN P nt L n = if nt = true then othersGo 0 (mergeI (sortR P)) else mergeI (sortR P) := by
 have hall : ∀ i, i ≤ n → (∀ p ∈ P, ∀ c, (c = p.1 ∨ c = p.2 + 1) → ∃ m, m ≤ n ∧ L[m]?.getD 0 = c) := fun i _ p hp c hc => by
  have h1 : c ∈ cutsP P := by
   unfold cutsP
   refine List.mem_cons_of_mem _ (List.mem_cons_of_mem _ (List.mem_flatMap.2 ⟨p, hp, ?_⟩))
   rcases hc with rfl | rfl <;> simp
  obtain ⟨m, hm1, hm2⟩ := mem_getD.1 ((hm c).2 h1)
  exact ⟨m, by omega, hm2⟩
 have h0 : L[0]?.getD 0 = 0 := by
  obtain ⟨m, hm1, hm2⟩ := mem_getD.1 ((hm 0).2 (by simp [cutsP]))
  by_cases hm0 : m = 0
  ·subst hm0; exact hm2
  have := hu 0 m (by omega) (by omega)
  omega
 have hend : L[n]?.getD 0 = 1114112 := by
  obtain ⟨m, hm1, hm2⟩ := mem_getD.1 ((hm 1114112).2 (by simp [cutsP]))
  have h1 : 1114112 ≤ L[n]?.getD 0 := by
   by_cases hmn : m = n
   ·rw [← hmn, hm2]; exact Nat.le_refl _
   have := hu m n (by omega) (by omega)
   omega
  have h2 : L[n]?.getD 0 ∈ cutsP P := (hm _).1 (mem_getD.2 ⟨n, by omega, rfl⟩)
  unfold cutsP at h2
  rcases List.mem_cons.1 h2 with h2 | h2
  ·omega
  rcases List.mem_cons.1 h2 with h2 | h2
  ·exact h2
  obtain ⟨p, hp, h3⟩ := List.mem_flatMap.1 h2
  have := hP p hp
  simp at h3
  omega
 have key : ∀ i, i ≤ n → CanonI (cleanN P nt L i) ∧ ∀ x, inI (cleanN P nt L i) x ↔ x < L[i]?.getD 0 ∧ hasB P x ≠ nt := by
  intro i
  induction i with
  | zero =>
   intro _
   refine ⟨trivial, fun x => ?_⟩
   rw [h0]
   simp [cleanN, inI]
  | succ i ih =>
   intro hi
   obtain ⟨i1, i2⟩ := ih (by omega)
   rw [cleanN]
   refine step_law (hu i (i + 1) (by omega) (by omega)) (fun p hp => ?_) i1 i2
   have hc : ∀ c, (c = p.1 ∨ c = p.2 + 1) → c ≤ L[i]?.getD 0 ∨ L[i + 1]?.getD 0 ≤ c := fun c hc => by
    obtain ⟨m, hm1, hm2⟩ := hall i (by omega) p hp c hc
    rcases Nat.lt_or_ge i m with h1 | h1
    ·right
     by_cases hmi : m = i + 1
     ·rw [← hmi, hm2]; exact Nat.le_refl _
     have := hu (i + 1) m (by omega) (by omega)
     omega
    left
    by_cases hmi : m = i
    ·rw [← hmi, hm2]; exact Nat.le_refl _
    have := hu m i (by omega) (by omega)
    omega
   exact ⟨hc _ (.inl rfl), hc _ (.inr rfl)⟩
 obtain ⟨k1, k2⟩ := key n (Nat.le_refl _)
 rw [hend] at k2
 obtain ⟨m1, m2⟩ := merge_canon (sorted_sort P) fun p hp => (hP p (mem_sort.1 hp)).1
 have m3 : ∀ x, inI (mergeI (sortR P)) x ↔ inI P x := fun x => by rw [m2, inI_congr (fun p => mem_sort)]
 have hb : ∀ x, inI P x → x ≤ 1114111 := fun x ⟨p, hp, h1, h2⟩ => Nat.le_trans h2 (hP p hp).2
 cases nt with
 | false =>
  rw [if_neg (by simp)]
  refine canon_eq k1 m1 fun x => ?_
  rw [k2, m3]
  constructor
  ·rintro ⟨h1, h2⟩
   exact hasB_iff.1 (by simpa using h2)
  intro h
  exact ⟨by have := hb x h; omega, by rw [hasB_iff.2 h]; simp⟩
 | true =>
  rw [if_pos rfl]
  have hbb : ∀ p ∈ mergeI (sortR P), 0 ≤ p.1 ∧ p.2 ≤ 1114111 := fun p hp => ⟨Nat.zero_le _, hb _ ((m3 _).1 ⟨p, hp, canon_all m1 p hp, Nat.le_refl _⟩)⟩
  obtain ⟨o1, -, o3⟩ := others_canon _ 0 m1 hbb
  refine canon_eq k1 o1 fun x => ?_
  rw [k2, o3, m3]
  constructor
  ·rintro ⟨h1, h2⟩
   exact ⟨Nat.zero_le _, by omega, fun h => h2 (hasB_iff.2 h)⟩
  rintro ⟨-, h1, h2⟩
  exact ⟨by omega, fun h => h2 (hasB_iff.1 h)⟩
end Garner
