import Derived.Test.YtmcacicopgckmaaGreatDoorDg04
import Derived.Test.YtmcacicopgckmaaGreatDoorDg05
import Derived.Lib.MapLaws
/-! Texts, plain: their runes -/
namespace Garner
open Go

theorem runesGo_nil : ∀ n, runesGo n [] = []
  | 0 => rfl
  | n + 1 => by simp [runesGo]
theorem runesGo_fuel : ∀ (n m : Nat) (l : Bs), l.length ≤ n → l.length ≤ m → runesGo n l = runesGo m l
  | 0, m, l, hn, _ => by
    rw [List.eq_nil_of_length_eq_zero (by omega : l.length = 0), runesGo_nil, runesGo_nil]
  | n + 1, 0, l, _, hm => by
    rw [List.eq_nil_of_length_eq_zero (by omega : l.length = 0), runesGo_nil, runesGo_nil]
  | n + 1, m + 1, l, hn, hm => by
    unfold runesGo
    by_cases hl : l = []
    · rw [if_pos hl, if_pos hl]
    · have hw := Lib.decodeL_width l
      have h0 : 0 < l.length := List.length_pos_iff.2 hl
      rw [if_neg hl, if_neg hl, runesGo_fuel n m _ (by rw [List.length_drop]; omega) (by rw [List.length_drop]; omega)]
theorem runes_step {l : Bs} (hl : l ≠ []) : runesP l = (Lib.decodeL l).1 :: runesP (l.drop (Lib.decodeL l).2) := by
  have hw := Lib.decodeL_width l
  have h0 : 0 < l.length := List.length_pos_iff.2 hl
  obtain ⟨n, hn⟩ : ∃ n, l.length = n + 1 := ⟨l.length - 1, by omega⟩
  unfold runesP
  rw [hn]
  conv => lhs; unfold runesGo
  rw [if_neg hl, runesGo_fuel n _ _ (by rw [List.length_drop]; omega) (Nat.le_refl _)]
theorem runes_nil : runesP [] = [] := rfl
theorem runes_le : ∀ (n : Nat) (l : Bs), l.length ≤ n → ∀ r ∈ runesP l, r ≤ 1114111
  | 0, l, hn, r, hr => by rw [List.eq_nil_of_length_eq_zero (by omega : l.length = 0)] at hr; cases hr
  | n + 1, l, hn, r, hr => by
    by_cases hl : l = []
    · subst hl; cases hr
    · have hw := Lib.decodeL_width l
      have h0 : 0 < l.length := List.length_pos_iff.2 hl
      rw [runes_step hl] at hr
      rcases List.mem_cons.1 hr with rfl | hr
      · exact Lib.decodeL_rune l
      · exact runes_le n _ (by rw [List.length_drop]; omega) r hr
theorem runes_len : ∀ (n : Nat) (l : Bs), l.length ≤ n → (runesP l).length ≤ l.length
  | 0, l, hn => by rw [List.eq_nil_of_length_eq_zero (by omega : l.length = 0)]; exact Nat.le_refl _
  | n + 1, l, hn => by
    by_cases hl : l = []
    · subst hl; exact Nat.le_refl _
    · have hw := Lib.decodeL_width l
      have h0 : 0 < l.length := List.length_pos_iff.2 hl
      have := runes_len n (l.drop (Lib.decodeL l).2) (by rw [List.length_drop]; omega)
      rw [runes_step hl, List.length_cons]
      rw [List.length_drop] at this
      omega
end Garner

/-! Patterns, plain: reading without fuel; trees laid one behind the other -/
namespace Garner
open Go
def altF (s : List Nat) : Option (List Re × List Nat × Nat) := altsR (4 * s.length + 4) s
def rowF (s : List Nat) : Option (List Re × List Nat × Nat) := rowsR (4 * s.length + 3) s
def itemF (s : List Nat) : Option (Re × List Nat × Nat) := itemR (4 * s.length + 2) s
def atomF (s : List Nat) : Option (Re × List Nat × Nat) := atomR (4 * s.length + 1) s
theorem rows_fuel {s : List Nat} : ∀ {n m : Nat}, 4 * s.length + 3 ≤ n → n ≤ m → rowsR m s = rowsR n s := by
  intro n m hn hm
  obtain ⟨k, rfl⟩ : ∃ k, m = n + k := ⟨m - n, by omega⟩
  clear hm
  induction k with
  | zero => rfl
  | succ k ih => rw [← Nat.add_assoc, (parse_fuel (n + k)).2.1 s (by omega), ih]
theorem altF_eq (s : List Nat) : altF s = match rowF s with
    | none => none
    | some (ts, s1, d) =>
      if s1.head? = some 124 then
        match altF s1.tail with
        | none => none
        | some (us, s2, e) => some (rowOf ts :: us, s2, max d e)
      else some ([rowOf ts], s1, d) := by
  unfold altF
  rw [show 4 * s.length + 4 = (4 * s.length + 3) + 1 from rfl, altsR]
  show (match rowF s with | none => none | some (ts, s1, d) => _) = _
  cases h : rowF s with
  | none => rfl
  | some p =>
    obtain ⟨ts, s1, d⟩ := p
    have h1 := (parse_len _).2.1 h
    dsimp only
    split
    · rename_i hc
      have := tail_lt hc
      rw [alts_fuel (s := s1.tail) (n := 4 * s1.tail.length + 4) (Nat.le_refl _) (by omega)]
      cases altsR (4 * s1.tail.length + 4) s1.tail <;> rfl
    · rfl
theorem rowF_eq (s : List Nat) : rowF s = if s = [] ∨ s.head? = some 124 ∨ s.head? = some 41 then some ([], s, 0) else
    match itemF s with
    | none => none
    | some (t, s1, d) =>
      match rowF s1 with
      | none => none
      | some (ts, s2, e) => some (t :: ts, s2, max d e) := by
  unfold rowF
  rw [show 4 * s.length + 3 = (4 * s.length + 2) + 1 from rfl, rowsR]
  split
  · rfl
  · show (match itemF s with | none => none | some (t, s1, d) => _) = _
    cases h : itemF s with
    | none => rfl
    | some p =>
      obtain ⟨t, s1, d⟩ := p
      have h1 := (parse_len _).2.2.1 h
      dsimp only
      rw [rows_fuel (s := s1) (n := 4 * s1.length + 3) (Nat.le_refl _) (by omega)]
      cases rowsR (4 * s1.length + 3) s1 <;> rfl
theorem itemF_eq (s : List Nat) : itemF s = match atomF s with
    | none => none
    | some (t, s1, d) => (quantR t s1).map fun p => (p.1, p.2, d) := by
  unfold itemF
  rw [show 4 * s.length + 2 = (4 * s.length + 1) + 1 from rfl, itemR]
  rfl
theorem atomF_eq (r : Nat) (s : List Nat) : atomF (r :: s) =
    if r = 40 then
      match altF s with
      | none => none
      | some (ts, s1, d) => if s1.head? = some 41 then some (manyR .alt ts, s1.tail, d + 1) else none
    else if r = 91 then (classR s).map fun p => (.set p.1, p.2, 0)
    else if r = 46 then some (.set [0, 9, 11, 1114111], s, 0)
    else if r = 94 then some (.bgn, s, 0)
    else if r = 36 then some (.fin, s, 0)
    else if r = 92 then (escR s).map fun p => (.set p.1, p.2, 0)
    else if r ∈ specR then none else some (.set [r, r], s, 0) := by
  unfold atomF
  rw [show 4 * (r :: s).length + 1 = (4 * s.length + 4) + 1 by simp; omega, atomR]
  rfl
theorem altF_cnt {s s1 : List Nat} {ts : List Re} {d : Nat} (h : altF s = some (ts, s1, d)) : cnts ts + 4 * s1.length ≤ 4 * s.length + 1 ∧ oks ts ∧ ts ≠ [] := (parse_cnt _).1 h
theorem rowF_cnt {s s1 : List Nat} {ts : List Re} {d : Nat} (h : rowF s = some (ts, s1, d)) : cnts ts + 4 * s1.length ≤ 4 * s.length ∧ oks ts := (parse_cnt _).2.1 h
theorem itemF_cnt {s s1 : List Nat} {t : Re} {d : Nat} (h : itemF s = some (t, s1, d)) : t.cnt + 4 * s1.length ≤ 4 * s.length ∧ t.ok := (parse_cnt _).2.2.1 h
theorem atomF_cnt {s s1 : List Nat} {t : Re} {d : Nat} (h : atomF s = some (t, s1, d)) : t.cnt + 1 + 4 * s1.length ≤ 4 * s.length ∧ t.ok := (parse_cnt _).2.2.2 h
theorem itemF_len {s s1 : List Nat} {t : Re} {d : Nat} (h : itemF s = some (t, s1, d)) : s1.length < s.length := (parse_len _).2.2.1 h
theorem rowF_len {s s1 : List Nat} {ts : List Re} {d : Nat} (h : rowF s = some (ts, s1, d)) : s1.length ≤ s.length := (parse_len _).2.1 h
theorem cnts_app : ∀ ts us : List Re, cnts (ts ++ us) = cnts ts + cnts us
  | [], us => by simp [cnts]
  | t :: ts, us => by simp only [List.cons_append, cnts, cnts_app ts us]; omega
theorem flats_app : ∀ (ts us : List Re) (b : Nat), flats b (ts ++ us) = flats b ts ++ flats (b + cnts ts) us
  | [], us, b => by simp [flats, cnts]
  | t :: ts, us, b => by
    simp only [List.cons_append, flats, cnts, flats_app ts us, List.append_assoc]
    rw [show b + t.cnt + cnts ts = b + (t.cnt + cnts ts) by omega]
theorem roots_app : ∀ (ts us : List Re) (b : Nat), roots b (ts ++ us) = roots b ts ++ roots (b + cnts ts) us
  | [], us, b => by simp [roots, cnts]
  | t :: ts, us, b => by
    simp only [List.cons_append, roots, cnts, roots_app ts us]
    rw [show b + t.cnt + cnts ts = b + (t.cnt + cnts ts) by omega]
theorem flats_one (t : Re) (b : Nat) : flats b [t] = t.flat b := by simp [flats]
theorem roots_one (t : Re) (b : Nat) : roots b [t] = [b + t.cnt - 1] := by simp [roots]
end Garner

/-! Patterns, plain: a tree's size, node by node, at most 2000 -/
namespace Garner
open Go
def nodeTimes (n : NodeP) : Nat := if n.kind = 5 then (if n.mx < 0 then n.mn + 1 else max n.mx.toNat 1) else 1
def kidsSize (c : Nat) (S : List Nat) (ks : List Nat) : Nat := ks.foldl (fun a k => min 2000 (a + c * S.getD k 0)) 1
def nodeSize (S : List Nat) (n : NodeP) : Nat := kidsSize (nodeTimes n) S n.kids
def sizesGo (S : List Nat) (l : List NodeP) : List Nat := l.foldl (fun S n => S ++ [nodeSize S n]) S
theorem sizesGo_app (S : List Nat) (a b : List NodeP) : sizesGo S (a ++ b) = sizesGo (sizesGo S a) b := List.foldl_append ..
theorem sizesGo_one (S : List Nat) (n : NodeP) : sizesGo S [n] = S ++ [nodeSize S n] := rfl
theorem sizesGo_len : ∀ (l : List NodeP) (S : List Nat), (sizesGo S l).length = S.length + l.length
  | [], S => rfl
  | n :: l, S => by
    show (sizesGo (S ++ [nodeSize S n]) l).length = _
    rw [sizesGo_len l]; simp; omega
theorem kids_roots {c : Nat} (hc : c = 1) : ∀ (ts : List Re) (b : Nat) (S : List Nat) (a : Nat), (∀ (i r : Nat) (t : Re), (roots b ts)[i]? = some r → ts[i]? = some t → S.getD r 0 = min 2000 t.size) → a ≤ 2000 →
    (roots b ts).foldl (fun a k => min 2000 (a + c * S.getD k 0)) a = min 2000 (a + sizes ts)
  | [], b, S, a, _, ha => by simp [roots, sizes]; omega
  | t :: ts, b, S, a, h, ha => by
    have h0 := h 0 _ t rfl rfl
    have hs := size_pos t
    show (roots (b + t.cnt) ts).foldl _ (min 2000 (a + c * S.getD (b + t.cnt - 1) 0)) = _
    rw [kids_roots hc ts (b + t.cnt) S _ (fun i r u h1 h2 => h (i + 1) r u h1 h2) (by omega), h0, hc]
    simp only [sizes]
    omega
def mxM : Option Nat → Int
  | none => -1
  | some m => m
theorem rep_flatM (t : Re) (mn : Nat) (mx : Option Nat) (b : Nat) : (Re.rep t mn mx).flat b = t.flat b ++ [⟨5, [b + t.cnt - 1], mn, mxM mx, []⟩] := by
  cases mx <;> simp [Re.flat, mxM]
mutual
theorem flat_sizes : ∀ (t : Re) (S : List Nat), ∃ X, sizesGo S (t.flat S.length) = S ++ X ∧ X.length = t.cnt ∧ X.getLast? = some (min 2000 t.size)
  | .emp, S => ⟨[1], rfl, rfl, rfl⟩
  | .set l, S => ⟨[1], rfl, rfl, rfl⟩
  | .bgn, S => ⟨[1], rfl, rfl, rfl⟩
  | .fin, S => ⟨[1], rfl, rfl, rfl⟩
  | .seq l, S => by
    obtain ⟨X, h1, h2, h3⟩ := flats_sizes l S
    refine ⟨X ++ [min 2000 (sizes l + 1)], ?_, by simp [h2, Re.cnt], by simp [Re.size]⟩
    rw [Re.flat, sizesGo_app, h1, sizesGo_one, List.append_assoc]
    congr 3
    have := kids_roots (c := nodeTimes ⟨3, roots S.length l, 0, 0, []⟩) rfl l S.length (S ++ X) 1 h3 (by omega)
    show kidsSize _ _ _ = _
    unfold kidsSize
    rw [this, Nat.add_comm]
  | .alt l, S => by
    obtain ⟨X, h1, h2, h3⟩ := flats_sizes l S
    refine ⟨X ++ [min 2000 (sizes l + 1)], ?_, by simp [h2, Re.cnt], by simp [Re.size]⟩
    rw [Re.flat, sizesGo_app, h1, sizesGo_one, List.append_assoc]
    congr 3
    have := kids_roots (c := nodeTimes ⟨4, roots S.length l, 0, 0, []⟩) rfl l S.length (S ++ X) 1 h3 (by omega)
    show kidsSize _ _ _ = _
    unfold kidsSize
    rw [this, Nat.add_comm]
  | .rep k mn mx, S => by
    obtain ⟨X, h1, h2, h3⟩ := flat_sizes k S
    have hX : (S ++ X).getD (S.length + k.cnt - 1) 0 = min 2000 k.size := by
      have hp := cnt_pos k
      rw [List.getD_eq_getElem?_getD, List.getElem?_append_right (by omega), show S.length + k.cnt - 1 - S.length = X.length - 1 by omega, ← List.getLast?_eq_getElem?, h3]
      rfl
    refine ⟨X ++ [min 2000 (timesR mn mx * k.size + 1)], ?_, by simp [h2, Re.cnt], by simp [Re.size]⟩
    rw [rep_flatM, sizesGo_app, h1, sizesGo_one, List.append_assoc]
    congr 3
    have ht : nodeTimes ⟨5, [S.length + k.cnt - 1], mn, mxM mx, []⟩ = timesR mn mx := by
      cases mx with
      | none => rfl
      | some m =>
        unfold nodeTimes timesR mxM
        simp
        omega
    show kidsSize (nodeTimes _) _ [_] = _
    rw [ht]
    show min 2000 (1 + timesR mn mx * (S ++ X).getD _ 0) = _
    rw [hX]
    have := times_pos mn mx
    rcases Nat.le_total k.size 2000 with hk | hk
    · rw [Nat.min_eq_right hk, Nat.add_comm]
    · rw [Nat.min_eq_left hk]
      have h3 : 2000 ≤ timesR mn mx * 2000 := Nat.le_mul_of_pos_left _ this
      have h4 : 2000 ≤ timesR mn mx * k.size := Nat.le_trans hk (Nat.le_mul_of_pos_left _ this)
      omega
theorem flats_sizes : ∀ (ts : List Re) (S : List Nat), ∃ X, sizesGo S (flats S.length ts) = S ++ X ∧ X.length = cnts ts ∧ ∀ (i r : Nat) (t : Re), (roots S.length ts)[i]? = some r → ts[i]? = some t → (S ++ X).getD r 0 = min 2000 t.size
  | [], S => ⟨[], by simp [flats, sizesGo], rfl, fun i r t h => by simp [roots] at h⟩
  | t :: ts, S => by
    obtain ⟨X, h1, h2, h3⟩ := flat_sizes t S
    obtain ⟨Y, h4, h5, h6⟩ := flats_sizes ts (S ++ X)
    rw [List.length_append, h2] at h4 h6
    refine ⟨X ++ Y, ?_, by simp [h2, h5, cnts], fun i r u hr hu => ?_⟩
    · rw [flats, sizesGo_app, h1, h4, List.append_assoc]
    · cases i with
      | zero =>
        simp [roots] at hr
        simp at hu
        subst hu hr
        have hp := cnt_pos t
        rw [List.getD_eq_getElem?_getD, List.getElem?_append_right (by omega), List.getElem?_append_left (by omega), show S.length + t.cnt - 1 - S.length = X.length - 1 by omega, ← List.getLast?_eq_getElem?, h3]
        rfl
      | succ i =>
        rw [← List.append_assoc]
        exact h6 i r u (by simpa [roots] using hr) (by simpa using hu)
end
theorem size_root (t : Re) : (sizesGo [] (t.flat 0)).getLast? = some (min 2000 t.size) := by
  obtain ⟨X, h1, h2, h3⟩ := flat_sizes t []
  rw [show ([] : List Nat).length = 0 from rfl] at h1
  rw [h1, List.nil_append, h3]
/-- kids come ahead of their node -/
def WfN (ns : List NodeP) : Prop := ∀ (i : Nat) (n : NodeP), ns[i]? = some n → ∀ k ∈ n.kids, k < i
theorem roots_lt : ∀ (ts : List Re) (b r : Nat), r ∈ roots b ts → b ≤ r ∧ r < b + cnts ts
  | [], b, r, h => by simp [roots] at h
  | t :: ts, b, r, h => by
    have hp := cnt_pos t
    simp only [roots, List.mem_cons] at h
    simp only [cnts]
    rcases h with h | h
    · omega
    · have := roots_lt ts _ r h
      omega
theorem wf_app {b : Nat} {l m : List NodeP} (h1 : ∀ (i : Nat) (n : NodeP), l[i]? = some n → ∀ k ∈ n.kids, k < b + i) (h2 : ∀ (i : Nat) (n : NodeP), m[i]? = some n → ∀ k ∈ n.kids, k < b + l.length + i) : ∀ (i : Nat) (n : NodeP), (l ++ m)[i]? = some n → ∀ k ∈ n.kids, k < b + i := fun i n hn k hk => by
  rcases Nat.lt_or_ge i l.length with h | h
  · rw [List.getElem?_append_left h] at hn
    exact h1 i n hn k hk
  · rw [List.getElem?_append_right h] at hn
    have := h2 _ n hn k hk
    omega
theorem wf_one {b : Nat} {x : NodeP} (h : ∀ k ∈ x.kids, k < b) : ∀ (i : Nat) (n : NodeP), [x][i]? = some n → ∀ k ∈ n.kids, k < b + i := fun i n hn k hk => by
  cases i with
  | zero => simp at hn; subst hn; have := h k hk; omega
  | succ i => simp at hn
mutual
theorem wf_flat : ∀ (t : Re) (b : Nat) (i : Nat) (n : NodeP), (t.flat b)[i]? = some n → ∀ k ∈ n.kids, k < b + i
  | .emp, b => wf_one (by simp)
  | .set l, b => wf_one (by simp)
  | .bgn, b => wf_one (by simp)
  | .fin, b => wf_one (by simp)
  | .seq l, b => by
    rw [Re.flat]
    exact wf_app (wf_flats l b) (wf_one fun k hk => by rw [flats_len]; exact (roots_lt l b k hk).2)
  | .alt l, b => by
    rw [Re.flat]
    exact wf_app (wf_flats l b) (wf_one fun k hk => by rw [flats_len]; exact (roots_lt l b k hk).2)
  | .rep t mn mx, b => by
    rw [rep_flatM]
    exact wf_app (wf_flat t b) (wf_one fun k hk => by
      have := cnt_pos t
      rw [flat_len]
      simp at hk
      omega)
theorem wf_flats : ∀ (ts : List Re) (b : Nat) (i : Nat) (n : NodeP), (flats b ts)[i]? = some n → ∀ k ∈ n.kids, k < b + i
  | [], b => by simp [flats]
  | t :: ts, b => by
    rw [flats]
    exact wf_app (wf_flat t b) fun i n hn k hk => by
      have := wf_flats ts (b + t.cnt) i n hn k hk
      rw [flat_len]
      exact this
end
end Garner

/-! Patterns, plain: rows of states, as matching goes through them -/
namespace Garner
open Go

section
variable (ins : List InstP) (first last : Bool)
/-- a step without a rune -/
def EdgeR (pc q : Nat) : Prop := ∃ c, ins[pc]? = some c ∧ ((c.kind = 1 ∧ (q = c.x ∨ q = c.y)) ∨ (c.kind = 2 ∧ first = true ∧ q = c.x) ∨ (c.kind = 3 ∧ last = true ∧ q = c.x))
inductive ReachR : Nat → Nat → Prop
  | here (a : Nat) : ReachR a a
  | step {a b c : Nat} : EdgeR ins first last a b → ReachR b c → ReachR a c
/-- an instruction that stays in a state -/
def KeptR (pc : Nat) : Prop := ∃ c, ins[pc]? = some c ∧ c.kind ≠ 1 ∧ c.kind ≠ 2 ∧ ¬ (c.kind = 3 ∧ last = true)
def InClos (from_ : List Nat) (pc : Nat) : Prop := (∃ a ∈ from_, ReachR ins first last a pc) ∧ KeptR ins last pc
/-- what may come next from some instructions on, in order -/
noncomputable def closP (from_ : List Nat) : List Nat := (List.range ins.length).filter fun pc => @decide (InClos ins first last from_ pc) (Classical.propDecidable _)
end
section
variable {ins : List InstP} {first last : Bool}
theorem mem_clos {from_ : List Nat} {pc : Nat} : pc ∈ closP ins first last from_ ↔ InClos ins first last from_ pc := by
  have hd : @decide (InClos ins first last from_ pc) (Classical.propDecidable _) = true ↔ InClos ins first last from_ pc := @decide_eq_true_iff _ (Classical.propDecidable _)
  unfold closP
  rw [List.mem_filter, List.mem_range]
  refine ⟨fun h => hd.1 h.2, fun h => ⟨?_, hd.2 h⟩⟩
  obtain ⟨c, hc, -⟩ := h.2
  exact (List.getElem?_eq_some_iff.1 hc).1
/-- in order, each once -/
def AscN : List Nat → Prop
  | [] => True
  | [_] => True
  | a :: b :: r => a < b ∧ AscN (b :: r)
theorem AscN.tail {a : Nat} {l : List Nat} (h : AscN (a :: l)) : AscN l := by
  cases l with
  | nil => trivial
  | cons b r => exact h.2
theorem AscN.lt {a : Nat} : ∀ {l : List Nat}, AscN (a :: l) → ∀ x ∈ l, a < x
  | [], _, x, hx => by cases hx
  | b :: r, h, x, hx => by
    rcases List.mem_cons.1 hx with rfl | hx
    · exact h.1
    · have := AscN.lt h.2 x hx
      have := h.1
      omega
theorem AscN.cons {a : Nat} {l : List Nat} (h : ∀ x ∈ l, a < x) (hl : AscN l) : AscN (a :: l) := by
  cases l with
  | nil => trivial
  | cons b r => exact ⟨h b (by simp), hl⟩
theorem AscN.filter {p : Nat → Bool} : ∀ {l : List Nat}, AscN l → AscN (l.filter p)
  | [], _ => trivial
  | a :: l, h => by
    rw [List.filter_cons]
    have ih := AscN.filter (p := p) h.tail
    split
    · exact AscN.cons (fun x hx => h.lt x (List.mem_filter.1 hx).1) ih
    · exact ih
theorem asc_range : ∀ (n s : Nat), AscN (List.range' s n)
  | 0, _ => trivial
  | n + 1, s => by
    rw [List.range'_succ]
    exact AscN.cons (fun x hx => by have := List.mem_range'_1.1 hx; omega) (asc_range n (s + 1))
theorem asc_clos {from_ : List Nat} : AscN (closP ins first last from_) := by
  unfold closP
  rw [List.range_eq_range']
  exact AscN.filter (asc_range _ _)
/-- rows in order with the same members are the same -/
theorem asc_eq : ∀ {l m : List Nat}, AscN l → AscN m → (∀ x, x ∈ l ↔ x ∈ m) → l = m
  | [], [], _, _, _ => rfl
  | [], b :: m, _, _, h => by have := (h b).2 (by simp); cases this
  | a :: l, [], _, _, h => by have := (h a).1 (by simp); cases this
  | a :: l, b :: m, hl, hm, h => by
    have e : a = b := by
      rcases List.mem_cons.1 ((h a).1 (by simp)) with e | e
      · exact e
      · rcases List.mem_cons.1 ((h b).2 (by simp)) with e2 | e2
        · exact e2.symm
        · have := hm.lt a e
          have := hl.lt b e2
          omega
    subst e
    rw [asc_eq hl.tail hm.tail fun x => ?_]
    constructor
    · intro hx
      rcases List.mem_cons.1 ((h x).1 (by simp [hx])) with e | e
      · subst e; have := hl.lt x hx; omega
      · exact e
    · intro hx
      rcases List.mem_cons.1 ((h x).2 (by simp [hx])) with e | e
      · subst e; have := hm.lt x hx; omega
      · exact e
variable {s : List Nat} {part : Bool}
/-- a state accepts where one of its instructions does -/
def AccS (ins : List InstP) (s : List Nat) (part : Bool) (st : List Nat) (i : Nat) : Prop := ∃ pc ∈ st, Acc ins s part pc i
theorem acc_reach {i : Nat} (hf : first = true → i = 0) (hl : last = true → i = s.length) {a b : Nat} (h : ReachR ins first last a b) : Acc ins s part b i → Acc ins s part a i := by
  induction h with
  | here a => exact id
  | step he _ ih =>
    intro hb
    obtain ⟨n, hn⟩ := ih hb
    obtain ⟨c, hc, h⟩ := he
    refine ⟨n + 1, c, hc, ?_⟩
    rcases h with ⟨h1, rfl | rfl⟩ | ⟨h1, h2, rfl⟩ | ⟨h1, h2, rfl⟩
    · exact .inr (.inl ⟨h1, .inl hn⟩)
    · exact .inr (.inl ⟨h1, .inr hn⟩)
    · exact .inr (.inr (.inl ⟨h1, hf h2, hn⟩))
    · exact .inr (.inr (.inr (.inl ⟨h1, hl h2, hn⟩)))
theorem acc_kept {i : Nat} (hf : i = 0 → first = true) : ∀ {n a : Nat}, accN ins s part n a i → ∃ b, ReachR ins first last a b ∧ KeptR ins last b ∧ Acc ins s part b i
  | 0, _, h => h.elim
  | n + 1, a, h => by
    have h' := h
    obtain ⟨c, hc, h⟩ := h
    rcases h with ⟨h1, h2, h3⟩ | ⟨h1, h2⟩ | ⟨h1, h2, h3⟩ | ⟨h1, h2, h3⟩ | ⟨h1, h2⟩
    · exact ⟨a, .here a, ⟨c, hc, by omega, by omega, fun e => by omega⟩, n + 1, h'⟩
    · rcases h2 with h2 | h2
      · obtain ⟨b, hb1, hb2⟩ := acc_kept hf h2
        exact ⟨b, .step ⟨c, hc, .inl ⟨h1, .inl rfl⟩⟩ hb1, hb2⟩
      · obtain ⟨b, hb1, hb2⟩ := acc_kept hf h2
        exact ⟨b, .step ⟨c, hc, .inl ⟨h1, .inr rfl⟩⟩ hb1, hb2⟩
    · obtain ⟨b, hb1, hb2⟩ := acc_kept hf h3
      exact ⟨b, .step ⟨c, hc, .inr (.inl ⟨h1, hf h2, rfl⟩)⟩ hb1, hb2⟩
    · by_cases hl : last = true
      · obtain ⟨b, hb1, hb2⟩ := acc_kept hf h3
        exact ⟨b, .step ⟨c, hc, .inr (.inr ⟨h1, hl, rfl⟩)⟩ hb1, hb2⟩
      · exact ⟨a, .here a, ⟨c, hc, by omega, by omega, fun e => hl e.2⟩, n + 1, h'⟩
    · exact ⟨a, .here a, ⟨c, hc, by omega, by omega, fun e => by omega⟩, n + 1, h'⟩
theorem acc_clos {i : Nat} (hf : first = true ↔ i = 0) (hl : last = true → i = s.length) (from_ : List Nat) : AccS ins s part (closP ins first last from_) i ↔ AccS ins s part from_ i := by
  constructor
  · rintro ⟨pc, hm, ha⟩
    obtain ⟨⟨a, ha1, ha2⟩, -⟩ := mem_clos.1 hm
    exact ⟨a, ha1, acc_reach hf.1 hl ha2 ha⟩
  · rintro ⟨pc, hm, n, ha⟩
    obtain ⟨b, hb1, hb2, hb3⟩ := acc_kept (first := first) (last := last) hf.2 ha
    exact ⟨b, mem_clos.2 ⟨⟨pc, hm, hb1⟩, hb2⟩, hb3⟩
/-- the instructions behind a rune -/
def nextR (ins : List InstP) (st : List Nat) (r : Nat) : List Nat := st.filterMap fun pc => match ins[pc]? with
  | some c => if c.kind = 0 ∧ hasR c.runes r = true then some c.x else none
  | none => none
theorem mem_next {st : List Nat} {r q : Nat} : q ∈ nextR ins st r ↔ ∃ pc ∈ st, ∃ c, ins[pc]? = some c ∧ c.kind = 0 ∧ hasR c.runes r = true ∧ q = c.x := by
  unfold nextR
  rw [List.mem_filterMap]
  refine exists_congr fun pc => and_congr_right fun _ => ?_
  cases hc : ins[pc]? with
  | none => simp
  | some c =>
    simp only [Option.some.injEq, exists_eq_left']
    split
    · rename_i h; simp only [Option.some.injEq]; exact ⟨fun e => ⟨h.1, h.2, e.symm⟩, fun e => e.2.2.symm⟩
    · rename_i h; simp only [reduceCtorEq, false_iff]; exact fun e => h ⟨e.1, e.2.1⟩
/-- a state has a match -/
def MatR (ins : List InstP) (st : List Nat) : Prop := ∃ pc ∈ st, ∃ c, ins[pc]? = some c ∧ c.kind = 4
noncomputable def startR (ins : List InstP) : List Nat := closP ins true false [0]
noncomputable def stepR (ins : List InstP) (find : Bool) (st : List Nat) (r : Nat) : List Nat := closP ins false false (nextR ins st r ++ if find = true then [0] else [])
/-- a match at the text's end -/
def EndR (ins : List InstP) (st : List Nat) (first : Bool) : Prop := MatR ins (closP ins first true st)
theorem acc_end {st : List Nat} (hf : first = true ↔ s.length = 0) : AccS ins s part st s.length ↔ EndR ins st first := by
  rw [← acc_clos (first := first) (last := true) hf (fun _ => rfl) st]
  constructor
  · rintro ⟨pc, hm, n, ha⟩
    cases n with
    | zero => exact ha.elim
    | succ n =>
      obtain ⟨c, hc, ha⟩ := ha
      obtain ⟨-, c', hc', k1, k2, k3⟩ := mem_clos.1 hm
      rw [hc] at hc'
      cases hc'
      rcases ha with ⟨h1, ⟨r, hr, -⟩, -⟩ | ⟨h1, -⟩ | ⟨h1, -⟩ | ⟨h1, -⟩ | ⟨h1, -⟩
      · rw [List.getElem?_eq_none (Nat.le_refl _)] at hr; cases hr
      · exact absurd h1 k1
      · exact absurd h1 k2
      · exact absurd ⟨h1, rfl⟩ k3
      · exact ⟨pc, hm, c, hc, h1⟩
  · rintro ⟨pc, hm, c, hc, h1⟩
    exact ⟨pc, hm, 1, c, hc, .inr (.inr (.inr (.inr ⟨h1, .inr rfl⟩)))⟩
/-- all that stays in a state is a set, an end or the match -/
theorem acc_step {st : List Nat} {i r : Nat} (hr : s[i]? = some r) (hk : ∀ pc ∈ st, KeptR ins false pc) :
    AccS ins s part st i ↔ (part = true ∧ MatR ins st) ∨ AccS ins s part (nextR ins st r) (i + 1) := by
  have hi : i < s.length := (List.getElem?_eq_some_iff.1 hr).1
  constructor
  · rintro ⟨pc, hm, n, ha⟩
    cases n with
    | zero => exact ha.elim
    | succ n =>
      obtain ⟨c, hc, ha⟩ := ha
      obtain ⟨c', hc', k1, k2, -⟩ := hk pc hm
      rw [hc] at hc'
      cases hc'
      rcases ha with ⟨h1, ⟨r', hr', h2⟩, h3⟩ | ⟨h1, -⟩ | ⟨h1, -⟩ | ⟨h1, h2, -⟩ | ⟨h1, h2⟩
      · rw [hr] at hr'
        cases hr'
        exact .inr ⟨c.x, mem_next.2 ⟨pc, hm, c, hc, h1, h2, rfl⟩, n, h3⟩
      · exact absurd h1 k1
      · exact absurd h1 k2
      · omega
      · rcases h2 with h2 | h2
        · exact .inl ⟨h2, pc, hm, c, hc, h1⟩
        · omega
  · rintro (⟨h1, pc, hm, c, hc, h2⟩ | ⟨q, hm, n, ha⟩)
    · exact ⟨pc, hm, 1, c, hc, .inr (.inr (.inr (.inr ⟨h2, .inl h1⟩)))⟩
    · obtain ⟨pc, hm2, c, hc, h1, h2, rfl⟩ := mem_next.1 hm
      exact ⟨pc, hm2, n + 1, c, hc, .inl ⟨h1, ⟨r, hr, h2⟩, ha⟩⟩
theorem kept_start : ∀ pc ∈ startR ins, KeptR ins false pc := fun _ h => (mem_clos.1 h).2
theorem kept_step {find : Bool} {st : List Nat} {r : Nat} : ∀ pc ∈ stepR ins find st r, KeptR ins false pc := fun _ h => (mem_clos.1 h).2
/-- whole: the states behind so many runes -/
noncomputable def runR (ins : List InstP) (find : Bool) (s : List Nat) : Nat → List Nat
  | 0 => startR ins
  | n + 1 => match s[n]? with
    | some r => stepR ins find (runR ins find s n) r
    | none => []
theorem kept_run {find : Bool} : ∀ n, ∀ pc ∈ runR ins find s n, KeptR ins false pc
  | 0 => kept_start
  | n + 1 => by
    unfold runR
    split
    · exact kept_step
    · simp
theorem accS_append {l m : List Nat} {i : Nat} : AccS ins s part (l ++ m) i ↔ AccS ins s part l i ∨ AccS ins s part m i := by
  unfold AccS
  simp only [List.mem_append]
  constructor
  · rintro ⟨pc, h | h, ha⟩
    · exact .inl ⟨pc, h, ha⟩
    · exact .inr ⟨pc, h, ha⟩
  · rintro (⟨pc, h, ha⟩ | ⟨pc, h, ha⟩)
    · exact ⟨pc, .inl h, ha⟩
    · exact ⟨pc, .inr h, ha⟩
theorem accS_one {i : Nat} : AccS ins s part [0] i ↔ Acc ins s part 0 i := by simp [AccS]
theorem whole_run : ∀ n, n ≤ s.length → (AccS ins s false (runR ins false s n) n ↔ Acc ins s false 0 0)
  | 0, _ => by
    rw [← accS_one, ← acc_clos (first := true) (last := false) (i := 0) (by simp) (by simp) [0]]
    rfl
  | n + 1, h => by
    obtain ⟨r, hr⟩ : ∃ r, s[n]? = some r := ⟨_, List.getElem?_eq_getElem (by omega)⟩
    have e : runR ins false s (n + 1) = stepR ins false (runR ins false s n) r := by simp only [runR, hr]
    rw [e, ← whole_run n (by omega), acc_step hr (kept_run n)]
    unfold stepR
    rw [acc_clos (by simp) (by simp), accS_append]
    simp [AccS]
/-- does a text match whole, as the states say? -/
def WholeR (ins : List InstP) (s : List Nat) : Prop := EndR ins (runR ins false s s.length) (decide (s.length = 0))
theorem whole_R {t : Re} (ok : t.ok) (s : List Nat) : WholeR (progR t) s ↔ t.M s 0 s.length := by
  unfold WholeR
  rw [← acc_end (s := s) (part := false) (by simp), whole_run _ (Nat.le_refl _), acc_prog ok]
  constructor
  · rintro ⟨j, h1, h2 | rfl⟩
    · cases h2
    · exact h1
  · exact fun h => ⟨_, h, .inr rfl⟩
theorem part_run : ∀ n, n ≤ s.length → ((∃ m, m < n ∧ MatR ins (runR ins true s m)) ∨ AccS ins s true (runR ins true s n) n ↔ ∃ i, i ≤ n ∧ Acc ins s true 0 i)
  | 0, _ => by
    have : AccS ins s true (runR ins true s 0) 0 ↔ Acc ins s true 0 0 := by
      rw [← accS_one, ← acc_clos (first := true) (last := false) (i := 0) (by simp) (by simp) [0]]
      rfl
    rw [this]
    constructor
    · rintro (⟨m, h, -⟩ | h)
      · omega
      · exact ⟨0, Nat.le_refl _, h⟩
    · rintro ⟨i, hi, h⟩
      obtain rfl : i = 0 := by omega
      exact .inr h
  | n + 1, h => by
    obtain ⟨r, hr⟩ : ∃ r, s[n]? = some r := ⟨_, List.getElem?_eq_getElem (by omega)⟩
    have e : runR ins true s (n + 1) = stepR ins true (runR ins true s n) r := by simp only [runR, hr]
    have ih := part_run n (by omega)
    rw [acc_step hr (kept_run n)] at ih
    have e2 : AccS ins s true (runR ins true s (n + 1)) (n + 1) ↔ AccS ins s true (nextR ins (runR ins true s n) r) (n + 1) ∨ Acc ins s true 0 (n + 1) := by
      rw [e]
      unfold stepR
      rw [acc_clos (by simp) (by simp), accS_append, if_pos rfl, accS_one]
    rw [e2]
    constructor
    · rintro (⟨m, hm, hx⟩ | h1 | h1)
      · rcases Nat.lt_or_ge m n with hlt | hge
        · obtain ⟨i, hi, ha⟩ := ih.1 (.inl ⟨m, hlt, hx⟩)
          exact ⟨i, by omega, ha⟩
        · obtain rfl : m = n := by omega
          obtain ⟨i, hi, ha⟩ := ih.1 (.inr (.inl ⟨rfl, hx⟩))
          exact ⟨i, by omega, ha⟩
      · obtain ⟨i, hi, ha⟩ := ih.1 (.inr (.inr h1))
        exact ⟨i, by omega, ha⟩
      · exact ⟨n + 1, Nat.le_refl _, h1⟩
    · rintro ⟨i, hi, ha⟩
      rcases Nat.lt_or_ge n i with hlt | hge
      · obtain rfl : i = n + 1 := by omega
        exact .inr (.inr ha)
      · rcases ih.2 ⟨i, hge, ha⟩ with ⟨m, hm, hx⟩ | ⟨-, hx⟩ | h1
        · exact .inl ⟨m, by omega, hx⟩
        · exact .inl ⟨n, by omega, hx⟩
        · exact .inr (.inl h1)
/-- does it match in part, as the states say? -/
def PartR (ins : List InstP) (s : List Nat) : Prop := (∃ m, m < s.length ∧ MatR ins (runR ins true s m)) ∨ EndR ins (runR ins true s s.length) (decide (s.length = 0))
theorem part_R {t : Re} (ok : t.ok) (s : List Nat) : PartR (progR t) s ↔ ∃ i j, i ≤ s.length ∧ t.M s i j := by
  unfold PartR
  rw [← acc_end (s := s) (part := true) (by simp), part_run _ (Nat.le_refl _)]
  constructor
  · rintro ⟨i, hi, ha⟩
    obtain ⟨j, hj, -⟩ := (acc_prog ok i).1 ha
    exact ⟨i, j, hi, hj⟩
  · rintro ⟨i, j, hi, hj⟩
    exact ⟨i, hi, (acc_prog ok i).2 ⟨j, hj, .inl rfl⟩⟩
end
end Garner

/-! Patterns, plain: what is read stays so where a bracket or the end stands behind -/
namespace Garner
open Go

/-- the end, or a closing bracket -/
def CtxR (u : List Nat) : Prop := u = [] ∨ u.head? = some 41
theorem CtxR.ne {u : List Nat} (h : CtxR u) {c : Nat} (hc : c ≠ 41) : u.head? ≠ some c := by
  rcases h with rfl | h
  · simp
  · rw [h]; intro e; injection e with e; exact hc e.symm
theorem CtxR.head {s u : List Nat} (h : CtxR u) {c : Nat} (hc : c ≠ 41) : ((s ++ u).head? = some c) = (s.head? = some c) := by
  cases s with
  | nil => simp [h.ne hc]
  | cons a s => rfl
end Garner

/-! Texts, plain: valid ones are their runes; parts of them -/
namespace Garner
open Go

end Garner

