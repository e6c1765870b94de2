import Derived.Test.YtecejnilajbdpaaGreatDoorTq04
import Derived.Lib.MapLaws
import Derived.Test.YtecejnilajbdpaaGreatDoorTq06
/-! Texts, plain: their runes -/
namespace Garner
open Go

theorem runesGo_nil : ∀ n, runesGo n [] = []
  | 0 => rfl
  | n + 1 => by simp [runesGo]
theorem runesGo_fuel : ∀ (n m : Nat) (l : Bs), l.length ≤ n → l.length ≤ m → runesGo n l = runesGo m l
  | 0, m, l, hn, _ => by
    rw [List.eq_nil_of_length_eq_zero (by omega : l.length = 0), runesGo_nil, runesGo_nil]
  | n + 1, 0, l, _, hm => by
    rw [List.eq_nil_of_length_eq_zero (by omega : l.length = 0), runesGo_nil, runesGo_nil]
  | n + 1, m + 1, l, hn, hm => by
    unfold runesGo
    by_cases hl : l = []
    · rw [if_pos hl, if_pos hl]
    · have hw := Lib.decodeL_width l
      have h0 : 0 < l.length := List.length_pos_iff.2 hl
      rw [if_neg hl, if_neg hl, runesGo_fuel n m _ (by rw [List.length_drop]; omega) (by rw [List.length_drop]; omega)]
theorem runes_step {l : Bs} (hl : l ≠ []) : runesP l = (Lib.decodeL l).1 :: runesP (l.drop (Lib.decodeL l).2) := by
  have hw := Lib.decodeL_width l
  have h0 : 0 < l.length := List.length_pos_iff.2 hl
  obtain ⟨n, hn⟩ : ∃ n, l.length = n + 1 := ⟨l.length - 1, by omega⟩
  unfold runesP
  rw [hn]
  conv => lhs; unfold runesGo
  rw [if_neg hl, runesGo_fuel n _ _ (by rw [List.length_drop]; omega) (Nat.le_refl _)]
theorem runes_le : ∀ (n : Nat) (l : Bs), l.length ≤ n → ∀ r ∈ runesP l, r ≤ 1114111
  | 0, l, hn, r, hr => by rw [List.eq_nil_of_length_eq_zero (by omega : l.length = 0)] at hr; cases hr
  | n + 1, l, hn, r, hr => by
    by_cases hl : l = []
    · subst hl; cases hr
    · have hw := Lib.decodeL_width l
      have h0 : 0 < l.length := List.length_pos_iff.2 hl
      rw [runes_step hl] at hr
      rcases List.mem_cons.1 hr with rfl | hr
      · exact Lib.decodeL_rune l
      · exact runes_le n _ (by rw [List.length_drop]; omega) r hr
theorem runes_len : ∀ (n : Nat) (l : Bs), l.length ≤ n → (runesP l).length ≤ l.length
  | 0, l, hn => by rw [List.eq_nil_of_length_eq_zero (by omega : l.length = 0)]; exact Nat.le_refl _
  | n + 1, l, hn => by
    by_cases hl : l = []
    · subst hl; exact Nat.le_refl _
    · have hw := Lib.decodeL_width l
      have h0 : 0 < l.length := List.length_pos_iff.2 hl
      have := runes_len n (l.drop (Lib.decodeL l).2) (by rw [List.length_drop]; omega)
      rw [runes_step hl, List.length_cons]
      rw [List.length_drop] at this
      omega
end Garner

/-! Patterns, plain: what is read stays so where a bracket or the end stands behind -/
namespace Garner
open Go

/-- the end, or a closing bracket -/
def CtxR (u : List Nat) : Prop := u = [] ∨ u.head? = some 41
theorem CtxR.ne {u : List Nat} (h : CtxR u) {c : Nat} (hc : c ≠ 41) : u.head? ≠ some c := by
  rcases h with rfl | h
  · simp
  · rw [h]; intro e; injection e with e; exact hc e.symm
theorem CtxR.head {s u : List Nat} (h : CtxR u) {c : Nat} (hc : c ≠ 41) : ((s ++ u).head? = some c) = (s.head? = some c) := by
  cases s with
  | nil => simp [h.ne hc]
  | cons a s => rfl
end Garner

/-! Texts, plain: valid ones are their runes; parts of them -/
namespace Garner
open Go

end Garner

/-! Patterns, plain: the laws of patterns that are put together -/
namespace Garner
open Go

noncomputable def wholeB (t : Re) (s : List Nat) : Bool := @decide (t.M s 0 s.length) (Classical.propDecidable _)
noncomputable def partB (t : Re) (s : List Nat) : Bool := @decide (∃ i j, i ≤ s.length ∧ t.M s i j) (Classical.propDecidable _)
theorem whole_iff {t : Re} {s : List Nat} : wholeB t s = true ↔ t.M s 0 s.length := @decide_eq_true_iff _ (Classical.propDecidable _)
theorem part_iff {t : Re} {s : List Nat} : partB t s = true ↔ ∃ i j, i ≤ s.length ∧ t.M s i j := @decide_eq_true_iff _ (Classical.propDecidable _)

/-- a pattern that was read -/
def ReadsTo (s : List Nat) (t : Re) : Prop := ∃ ts d, altsR (4 * s.length + 4) s = some (ts, [], d) ∧ t = manyR .alt ts
theorem ReadsTo.ok {s : List Nat} {t : Re} (h : ReadsTo s t) : t.ok := by
  obtain ⟨ts, d, h1, rfl⟩ := h
  obtain ⟨-, h2, h3⟩ := (parse_cnt _).1 h1
  exact many_ok h2 (fun h hne => ⟨hne, h⟩) h3
section
variable {s : List Nat} {a b : Re}
end
end Garner

/-! Patterns, plain: reading without fuel; trees laid one behind the other -/
namespace Garner
open Go
def altF (s : List Nat) : Option (List Re × List Nat × Nat) := altsR (4 * s.length + 4) s
def rowF (s : List Nat) : Option (List Re × List Nat × Nat) := rowsR (4 * s.length + 3) s
def itemF (s : List Nat) : Option (Re × List Nat × Nat) := itemR (4 * s.length + 2) s
def atomF (s : List Nat) : Option (Re × List Nat × Nat) := atomR (4 * s.length + 1) s
theorem rows_fuel {s : List Nat} : ∀ {n m : Nat}, 4 * s.length + 3 ≤ n → n ≤ m → rowsR m s = rowsR n s := by
  intro n m hn hm
  obtain ⟨k, rfl⟩ : ∃ k, m = n + k := ⟨m - n, by omega⟩
  clear hm
  induction k with
  | zero => rfl
  | succ k ih => rw [← Nat.add_assoc, (parse_fuel (n + k)).2.1 s (by omega), ih]
theorem altF_eq (s : List Nat) : altF s = match rowF s with
    | none => none
    | some (ts, s1, d) =>
      if s1.head? = some 124 then
        match altF s1.tail with
        | none => none
        | some (us, s2, e) => some (rowOf ts :: us, s2, max d e)
      else some ([rowOf ts], s1, d) := by
  unfold altF
  rw [show 4 * s.length + 4 = (4 * s.length + 3) + 1 from rfl, altsR]
  show (match rowF s with | none => none | some (ts, s1, d) => _) = _
  cases h : rowF s with
  | none => rfl
  | some p =>
    obtain ⟨ts, s1, d⟩ := p
    have h1 := (parse_len _).2.1 h
    dsimp only
    split
    · rename_i hc
      have := tail_lt hc
      rw [alts_fuel (s := s1.tail) (n := 4 * s1.tail.length + 4) (Nat.le_refl _) (by omega)]
      cases altsR (4 * s1.tail.length + 4) s1.tail <;> rfl
    · rfl
theorem rowF_eq (s : List Nat) : rowF s = if s = [] ∨ s.head? = some 124 ∨ s.head? = some 41 then some ([], s, 0) else
    match itemF s with
    | none => none
    | some (t, s1, d) =>
      match rowF s1 with
      | none => none
      | some (ts, s2, e) => some (t :: ts, s2, max d e) := by
  unfold rowF
  rw [show 4 * s.length + 3 = (4 * s.length + 2) + 1 from rfl, rowsR]
  split
  · rfl
  · show (match itemF s with | none => none | some (t, s1, d) => _) = _
    cases h : itemF s with
    | none => rfl
    | some p =>
      obtain ⟨t, s1, d⟩ := p
      have h1 := (parse_len _).2.2.1 h
      dsimp only
      rw [rows_fuel (s := s1) (n := 4 * s1.length + 3) (Nat.le_refl _) (by omega)]
      cases rowsR (4 * s1.length + 3) s1 <;> rfl
theorem itemF_eq (s : List Nat) : itemF s = match atomF s with
    | none => none
    | some (t, s1, d) => (quantR t s1).map fun p => (p.1, p.2, d) := by
  unfold itemF
  rw [show 4 * s.length + 2 = (4 * s.length + 1) + 1 from rfl, itemR]
  rfl
theorem atomF_eq (r : Nat) (s : List Nat) : atomF (r :: s) =
    if r = 40 then
      match altF s with
      | none => none
      | some (ts, s1, d) => if s1.head? = some 41 then some (manyR .alt ts, s1.tail, d + 1) else none
    else if r = 91 then (classR s).map fun p => (.set p.1, p.2, 0)
    else if r = 46 then some (.set [0, 9, 11, 1114111], s, 0)
    else if r = 94 then some (.bgn, s, 0)
    else if r = 36 then some (.fin, s, 0)
    else if r = 92 then (escR s).map fun p => (.set p.1, p.2, 0)
    else if r ∈ specR then none else some (.set [r, r], s, 0) := by
  unfold atomF
  rw [show 4 * (r :: s).length + 1 = (4 * s.length + 4) + 1 by simp; omega, atomR]
  rfl
theorem altF_cnt {s s1 : List Nat} {ts : List Re} {d : Nat} (h : altF s = some (ts, s1, d)) : cnts ts + 4 * s1.length ≤ 4 * s.length + 1 ∧ oks ts ∧ ts ≠ [] := (parse_cnt _).1 h
theorem rowF_cnt {s s1 : List Nat} {ts : List Re} {d : Nat} (h : rowF s = some (ts, s1, d)) : cnts ts + 4 * s1.length ≤ 4 * s.length ∧ oks ts := (parse_cnt _).2.1 h
theorem itemF_cnt {s s1 : List Nat} {t : Re} {d : Nat} (h : itemF s = some (t, s1, d)) : t.cnt + 4 * s1.length ≤ 4 * s.length ∧ t.ok := (parse_cnt _).2.2.1 h
theorem atomF_cnt {s s1 : List Nat} {t : Re} {d : Nat} (h : atomF s = some (t, s1, d)) : t.cnt + 1 + 4 * s1.length ≤ 4 * s.length ∧ t.ok := (parse_cnt _).2.2.2 h
theorem itemF_len {s s1 : List Nat} {t : Re} {d : Nat} (h : itemF s = some (t, s1, d)) : s1.length < s.length := (parse_len _).2.2.1 h
theorem rowF_len {s s1 : List Nat} {ts : List Re} {d : Nat} (h : rowF s = some (ts, s1, d)) : s1.length ≤ s.length := (parse_len _).2.1 h
theorem cnts_app : ∀ ts us : List Re, cnts (ts ++ us) = cnts ts + cnts us
  | [], us => by simp [cnts]
  | t :: ts, us => by simp only [List.cons_append, cnts, cnts_app ts us]; omega
theorem flats_app : ∀ (ts us : List Re) (b : Nat), flats b (ts ++ us) = flats b ts ++ flats (b + cnts ts) us
  | [], us, b => by simp [flats, cnts]
  | t :: ts, us, b => by
    simp only [List.cons_append, flats, cnts, flats_app ts us, List.append_assoc]
    rw [show b + t.cnt + cnts ts = b + (t.cnt + cnts ts) by omega]
theorem roots_app : ∀ (ts us : List Re) (b : Nat), roots b (ts ++ us) = roots b ts ++ roots (b + cnts ts) us
  | [], us, b => by simp [roots, cnts]
  | t :: ts, us, b => by
    simp only [List.cons_append, roots, cnts, roots_app ts us]
    rw [show b + t.cnt + cnts ts = b + (t.cnt + cnts ts) by omega]
theorem flats_one (t : Re) (b : Nat) : flats b [t] = t.flat b := by simp [flats]
theorem roots_one (t : Re) (b : Nat) : roots b [t] = [b + t.cnt - 1] := by simp [roots]
end Garner

/-! Patterns, plain: a tree's size, node by node, at most 2000 -/
namespace Garner
open Go
def nodeTimes (n : NodeP) : Nat := if n.kind = 5 then (if n.mx < 0 then n.mn + 1 else max n.mx.toNat 1) else 1
def kidsSize (c : Nat) (S : List Nat) (ks : List Nat) : Nat := ks.foldl (fun a k => min 2000 (a + c * S.getD k 0)) 1
def nodeSize (S : List Nat) (n : NodeP) : Nat := kidsSize (nodeTimes n) S n.kids
def sizesGo (S : List Nat) (l : List NodeP) : List Nat := l.foldl (fun S n => S ++ [nodeSize S n]) S
theorem sizesGo_app (S : List Nat) (a b : List NodeP) : sizesGo S (a ++ b) = sizesGo (sizesGo S a) b := List.foldl_append ..
theorem sizesGo_one (S : List Nat) (n : NodeP) : sizesGo S [n] = S ++ [nodeSize S n] := rfl
theorem sizesGo_len : ∀ (l : List NodeP) (S : List Nat), (sizesGo S l).length = S.length + l.length
  | [], S => rfl
  | n :: l, S => by
    show (sizesGo (S ++ [nodeSize S n]) l).length = _
    rw [sizesGo_len l]; simp; omega
theorem kids_roots {c : Nat} (hc : c = 1) : ∀ (ts : List Re) (b : Nat) (S : List Nat) (a : Nat), (∀ (i r : Nat) (t : Re), (roots b ts)[i]? = some r → ts[i]? = some t → S.getD r 0 = min 2000 t.size) → a ≤ 2000 →
    (roots b ts).foldl (fun a k => min 2000 (a + c * S.getD k 0)) a = min 2000 (a + sizes ts)
  | [], b, S, a, _, ha => by simp [roots, sizes]; omega
  | t :: ts, b, S, a, h, ha => by
    have h0 := h 0 _ t rfl rfl
    have hs := size_pos t
    show (roots (b + t.cnt) ts).foldl _ (min 2000 (a + c * S.getD (b + t.cnt - 1) 0)) = _
    rw [kids_roots hc ts (b + t.cnt) S _ (fun i r u h1 h2 => h (i + 1) r u h1 h2) (by omega), h0, hc]
    simp only [sizes]
    omega
def mxM : Option Nat → Int
  | none => -1
  | some m => m
theorem rep_flatM (t : Re) (mn : Nat) (mx : Option Nat) (b : Nat) : (Re.rep t mn mx).flat b = t.flat b ++ [⟨5, [b + t.cnt - 1], mn, mxM mx, []⟩] := by
  cases mx <;> simp [Re.flat, mxM]
mutual
theorem flat_sizes : ∀ (t : Re) (S : List Nat), ∃ X, sizesGo S (t.flat S.length) = S ++ X ∧ X.length = t.cnt ∧ X.getLast? = some (min 2000 t.size)
  | .emp, S => ⟨[1], rfl, rfl, rfl⟩
  | .set l, S => ⟨[1], rfl, rfl, rfl⟩
  | .bgn, S => ⟨[1], rfl, rfl, rfl⟩
  | .fin, S => ⟨[1], rfl, rfl, rfl⟩
  | .seq l, S => by
    obtain ⟨X, h1, h2, h3⟩ := flats_sizes l S
    refine ⟨X ++ [min 2000 (sizes l + 1)], ?_, by simp [h2, Re.cnt], by simp [Re.size]⟩
    rw [Re.flat, sizesGo_app, h1, sizesGo_one, List.append_assoc]
    congr 3
    have := kids_roots (c := nodeTimes ⟨3, roots S.length l, 0, 0, []⟩) rfl l S.length (S ++ X) 1 h3 (by omega)
    show kidsSize _ _ _ = _
    unfold kidsSize
    rw [this, Nat.add_comm]
  | .alt l, S => by
    obtain ⟨X, h1, h2, h3⟩ := flats_sizes l S
    refine ⟨X ++ [min 2000 (sizes l + 1)], ?_, by simp [h2, Re.cnt], by simp [Re.size]⟩
    rw [Re.flat, sizesGo_app, h1, sizesGo_one, List.append_assoc]
    congr 3
    have := kids_roots (c := nodeTimes ⟨4, roots S.length l, 0, 0, []⟩) rfl l S.length (S ++ X) 1 h3 (by omega)
    show kidsSize _ _ _ = _
    unfold kidsSize
    rw [this, Nat.add_comm]
  | .rep k mn mx, S => by
    obtain ⟨X, h1, h2, h3⟩ := flat_sizes k S
    have hX : (S ++ X).getD (S.length + k.cnt - 1) 0 = min 2000 k.size := by
      have hp := cnt_pos k
      rw [List.getD_eq_getElem?_getD, List.getElem?_append_right (by omega), show S.length + k.cnt - 1 - S.length = X.length - 1 by omega, ← List.getLast?_eq_getElem?, h3]
      rfl
    refine ⟨X ++ [min 2000 (timesR mn mx * k.size + 1)], ?_, by simp [h2, Re.cnt], by simp [Re.size]⟩
    rw [rep_flatM, sizesGo_app, h1, sizesGo_one, List.append_assoc]
    congr 3
    have ht : nodeTimes ⟨5, [S.length + k.cnt - 1], mn, mxM mx, []⟩ = timesR mn mx := by
      cases mx with
      | none => rfl
      | some m =>
        unfold nodeTimes timesR mxM
        simp
        omega
    show kidsSize (nodeTimes _) _ [_] = _
    rw [ht]
    show min 2000 (1 + timesR mn mx * (S ++ X).getD _ 0) = _
    rw [hX]
    have := times_pos mn mx
    rcases Nat.le_total k.size 2000 with hk | hk
    · rw [Nat.min_eq_right hk, Nat.add_comm]
    · rw [Nat.min_eq_left hk]
      have h3 : 2000 ≤ timesR mn mx * 2000 := Nat.le_mul_of_pos_left _ this
      have h4 : 2000 ≤ timesR mn mx * k.size := Nat.le_trans hk (Nat.le_mul_of_pos_left _ this)
      omega
theorem flats_sizes : ∀ (ts : List Re) (S : List Nat), ∃ X, sizesGo S (flats S.length ts) = S ++ X ∧ X.length = cnts ts ∧ ∀ (i r : Nat) (t : Re), (roots S.length ts)[i]? = some r → ts[i]? = some t → (S ++ X).getD r 0 = min 2000 t.size
  | [], S => ⟨[], by simp [flats, sizesGo], rfl, fun i r t h => by simp [roots] at h⟩
  | t :: ts, S => by
    obtain ⟨X, h1, h2, h3⟩ := flat_sizes t S
    obtain ⟨Y, h4, h5, h6⟩ := flats_sizes ts (S ++ X)
    rw [List.length_append, h2] at h4 h6
    refine ⟨X ++ Y, ?_, by simp [h2, h5, cnts], fun i r u hr hu => ?_⟩
    · rw [flats, sizesGo_app, h1, h4, List.append_assoc]
    · cases i with
      | zero =>
        simp [roots] at hr
        simp at hu
        subst hu hr
        have hp := cnt_pos t
        rw [List.getD_eq_getElem?_getD, List.getElem?_append_right (by omega), List.getElem?_append_left (by omega), show S.length + t.cnt - 1 - S.length = X.length - 1 by omega, ← List.getLast?_eq_getElem?, h3]
        rfl
      | succ i =>
        rw [← List.append_assoc]
        exact h6 i r u (by simpa [roots] using hr) (by simpa using hu)
end
theorem size_root (t : Re) : (sizesGo [] (t.flat 0)).getLast? = some (min 2000 t.size) := by
  obtain ⟨X, h1, h2, h3⟩ := flat_sizes t []
  rw [show ([] : List Nat).length = 0 from rfl] at h1
  rw [h1, List.nil_append, h3]
/-- kids come ahead of their node -/
def WfN (ns : List NodeP) : Prop := ∀ (i : Nat) (n : NodeP), ns[i]? = some n → ∀ k ∈ n.kids, k < i
theorem roots_lt : ∀ (ts : List Re) (b r : Nat), r ∈ roots b ts → b ≤ r ∧ r < b + cnts ts
  | [], b, r, h => by simp [roots] at h
  | t :: ts, b, r, h => by
    have hp := cnt_pos t
    simp only [roots, List.mem_cons] at h
    simp only [cnts]
    rcases h with h | h
    · omega
    · have := roots_lt ts _ r h
      omega
theorem wf_app {b : Nat} {l m : List NodeP} (h1 : ∀ (i : Nat) (n : NodeP), l[i]? = some n → ∀ k ∈ n.kids, k < b + i) (h2 : ∀ (i : Nat) (n : NodeP), m[i]? = some n → ∀ k ∈ n.kids, k < b + l.length + i) : ∀ (i : Nat) (n : NodeP), (l ++ m)[i]? = some n → ∀ k ∈ n.kids, k < b + i := fun i n hn k hk => by
  rcases Nat.lt_or_ge i l.length with h | h
  · rw [List.getElem?_append_left h] at hn
    exact h1 i n hn k hk
  · rw [List.getElem?_append_right h] at hn
    have := h2 _ n hn k hk
    omega
theorem wf_one {b : Nat} {x : NodeP} (h : ∀ k ∈ x.kids, k < b) : ∀ (i : Nat) (n : NodeP), [x][i]? = some n → ∀ k ∈ n.kids, k < b + i := fun i n hn k hk => by
  cases i with
  | zero => simp at hn; subst hn; have := h k hk; omega
  | succ i => simp at hn
mutual
theorem wf_flat : ∀ (t : Re) (b : Nat) (i : Nat) (n : NodeP), (t.flat b)[i]? = some n → ∀ k ∈ n.kids, k < b + i
  | .emp, b => wf_one (by simp)
  | .set l, b => wf_one (by simp)
  | .bgn, b => wf_one (by simp)
  | .fin, b => wf_one (by simp)
  | .seq l, b => by
    rw [Re.flat]
    exact wf_app (wf_flats l b) (wf_one fun k hk => by rw [flats_len]; exact (roots_lt l b k hk).2)
  | .alt l, b => by
    rw [Re.flat]
    exact wf_app (wf_flats l b) (wf_one fun k hk => by rw [flats_len]; exact (roots_lt l b k hk).2)
  | .rep t mn mx, b => by
    rw [rep_flatM]
    exact wf_app (wf_flat t b) (wf_one fun k hk => by
      have := cnt_pos t
      rw [flat_len]
      simp at hk
      omega)
theorem wf_flats : ∀ (ts : List Re) (b : Nat) (i : Nat) (n : NodeP), (flats b ts)[i]? = some n → ∀ k ∈ n.kids, k < b + i
  | [], b => by simp [flats]
  | t :: ts, b => by
    rw [flats]
    exact wf_app (wf_flat t b) fun i n hn k hk => by
      have := wf_flats ts (b + t.cnt) i n hn k hk
      rw [flat_len]
      exact this
end
end Garner

/-! Patterns, plain: repetitions ask for at most eight -/
namespace Garner
open Go
mutual
def Re.lim : Re → Prop
  | .emp => True
  | .set _ => True
  | .seq l => lims l
  | .alt l => lims l
  | .rep k mn mx => k.lim ∧ mn ≤ 8 ∧ ∀ m, mx = some m → m ≤ 8
  | .bgn => True
  | .fin => True
def lims : List Re → Prop
  | [] => True
  | t :: ts => t.lim ∧ lims ts
end
theorem many_lim {mk : List Re → Re} (h : ∀ l, (mk l).lim = lims l) {l : List Re} (hl : lims l) : (manyR mk l).lim := by
  match l, hl with
  | [], hl => exact (h []).symm ▸ hl
  | [t], hl => exact hl.1
  | t :: u :: r, hl => exact (h (t :: u :: r)).symm ▸ hl
theorem rowOf_lim {l : List Re} (hl : lims l) : (rowOf l).lim := by
  unfold rowOf
  split
  · trivial
  · exact many_lim (mk := .seq) (fun _ => rfl) hl
theorem quant_lim {t u : Re} {s s1 : List Nat} (h : quantR t s = some (u, s1)) (ht : t.lim) : u.lim := by
  cases s with
  | nil => cases h; exact ht
  | cons r s =>
    rw [quantR] at h
    split at h
    · cases h; exact ⟨ht, by omega, fun m e => (by cases e)⟩
    split at h
    · cases h; exact ⟨ht, by omega, fun m e => (by cases e)⟩
    split at h
    · cases h; exact ⟨ht, by omega, fun m e => (by cases e; omega)⟩
    split at h
    · split at h
      · cases h
      · rename_i lo s2 h1
        have l1 := (digR_len h1).2
        split at h
        · split at h
          · cases h
          · rename_i hi s3 h2
            have l2 := (digR_len h2).2
            split at h
            · injection h with h; injection h with h3 h4
              subst h3
              exact ⟨ht, l1, fun m e => (by cases e; exact l2)⟩
            · cases h
        · split at h
          · injection h with h; injection h with h3 h4
            subst h3
            exact ⟨ht, l1, fun m e => (by cases e; exact l1)⟩
          · cases h
    · cases h; exact ht
theorem parse_lim : ∀ n : Nat,
    (∀ {s s1 : List Nat} {ts : List Re} {d : Nat}, altsR n s = some (ts, s1, d) → lims ts) ∧
    (∀ {s s1 : List Nat} {ts : List Re} {d : Nat}, rowsR n s = some (ts, s1, d) → lims ts) ∧
    (∀ {s s1 : List Nat} {t : Re} {d : Nat}, itemR n s = some (t, s1, d) → t.lim) ∧
    (∀ {s s1 : List Nat} {t : Re} {d : Nat}, atomR n s = some (t, s1, d) → t.lim)
  | 0 => ⟨fun h => (by cases h), fun h => (by cases h), fun h => (by cases h), fun h => (by cases h)⟩
  | n + 1 => by
    obtain ⟨ia, ir, ii, it⟩ := parse_lim n
    refine ⟨?_, ?_, ?_, ?_⟩
    · intro s s1 ts d h
      rw [altsR] at h
      split at h
      · cases h
      · rename_i us s2 e hr
        have h2 := ir hr
        split at h
        · split at h
          · cases h
          · rename_i vs s3 e2 ha
            have h4 := ia ha
            cases h
            exact ⟨rowOf_lim h2, h4⟩
        · cases h
          exact ⟨rowOf_lim h2, trivial⟩
    · intro s s1 ts d h
      rw [rowsR] at h
      split at h
      · cases h; trivial
      · split at h
        · cases h
        · rename_i t s2 e hi
          have h2 := ii hi
          split at h
          · cases h
          · rename_i vs s3 e2 hr
            have h4 := ir hr
            cases h
            exact ⟨h2, h4⟩
    · intro s s1 t d h
      rw [itemR] at h
      split at h
      · cases h
      · rename_i v s2 e ha
        have h2 := it ha
        obtain ⟨p, hp, e⟩ := Option.map_eq_some_iff.1 h
        cases e
        exact quant_lim (u := p.1) (s1 := p.2) hp h2
    · intro s s1 t d h
      cases s with
      | nil => cases h
      | cons r s =>
        rw [atomR] at h
        split at h
        · split at h
          · cases h
          · rename_i us s2 e ha
            have h2 := ia ha
            split at h
            · cases h
              exact many_lim (mk := .alt) (fun _ => rfl) h2
            · cases h
        split at h
        · obtain ⟨p, hp, e⟩ := Option.map_eq_some_iff.1 h
          cases e; trivial
        split at h
        · cases h; trivial
        split at h
        · cases h; trivial
        split at h
        · cases h; trivial
        split at h
        · obtain ⟨p, hp, e⟩ := Option.map_eq_some_iff.1 h
          cases e; trivial
        split at h
        · cases h
        · cases h; trivial
theorem len_cnts : ∀ l : List Re, l.length ≤ cnts l
  | [] => Nat.le_refl _
  | t :: ts => by
    have := len_cnts ts
    have := cnt_pos t
    simp only [List.length_cons, cnts]; omega
def LimN (C : Nat) (n : NodeP) : Prop := n.kind ≤ 7 ∧ n.mn ≤ 8 ∧ -1 ≤ n.mx ∧ n.mx ≤ 8 ∧ n.kids.length ≤ C
theorem LimN.mono {C D : Nat} {n : NodeP} (h : LimN C n) (hc : C ≤ D) : LimN D n := ⟨h.1, h.2.1, h.2.2.1, h.2.2.2.1, Nat.le_trans h.2.2.2.2 hc⟩
mutual
theorem flat_lim : ∀ (t : Re) (b : Nat), t.lim → ∀ n ∈ t.flat b, LimN t.cnt n
  | .emp, b, _, n, hn => by simp [Re.flat] at hn; subst hn; exact ⟨by simp, by simp, by simp, by simp, by simp⟩
  | .set l, b, _, n, hn => by simp [Re.flat] at hn; subst hn; exact ⟨by simp, by simp, by simp, by simp, by simp⟩
  | .bgn, b, _, n, hn => by simp [Re.flat] at hn; subst hn; exact ⟨by simp, by simp, by simp, by simp, by simp⟩
  | .fin, b, _, n, hn => by simp [Re.flat] at hn; subst hn; exact ⟨by simp, by simp, by simp, by simp, by simp⟩
  | .seq l, b, hl, n, hn => by
    rw [Re.flat] at hn
    have := len_cnts l
    rcases List.mem_append.1 hn with hn | hn
    · exact (flats_lim l b hl n hn).mono (by simp only [Re.cnt]; omega)
    · rw [List.mem_singleton.1 hn]
      exact ⟨by simp, by simp, by simp, by simp, by rw [roots_len]; simp only [Re.cnt]; omega⟩
  | .alt l, b, hl, n, hn => by
    rw [Re.flat] at hn
    have := len_cnts l
    rcases List.mem_append.1 hn with hn | hn
    · exact (flats_lim l b hl n hn).mono (by simp only [Re.cnt]; omega)
    · rw [List.mem_singleton.1 hn]
      exact ⟨by simp, by simp, by simp, by simp, by rw [roots_len]; simp only [Re.cnt]; omega⟩
  | .rep t mn mx, b, hl, n, hn => by
    rw [rep_flatM] at hn
    have := cnt_pos t
    rcases List.mem_append.1 hn with hn | hn
    · exact (flat_lim t b hl.1 n hn).mono (by simp only [Re.cnt]; omega)
    · rw [List.mem_singleton.1 hn]
      refine ⟨by simp, hl.2.1, ?_, ?_, by simp only [Re.cnt]; simp⟩
      · cases mx with
        | none => simp [mxM]
        | some m => simp only [mxM]; omega
      · cases mx with
        | none => simp [mxM]
        | some m => have := hl.2.2 m rfl; simp only [mxM]; omega
theorem flats_lim : ∀ (ts : List Re) (b : Nat), lims ts → ∀ n ∈ flats b ts, LimN (cnts ts) n
  | [], b, _, n, hn => by simp [flats] at hn
  | t :: ts, b, hl, n, hn => by
    rw [flats] at hn
    rcases List.mem_append.1 hn with hn | hn
    · exact (flat_lim t b hl.1 n hn).mono (by simp only [cnts]; omega)
    · exact (flats_lim ts _ hl.2 n hn).mono (by simp only [cnts]; omega)
end
end Garner

/-! Patterns, plain: rows of sets: dots, classes, plain runes -/
namespace Garner
open Go

section
variable {s : List Nat}
end

/-! ### dots -/
section
variable {s : List Nat}
end
end Garner

/-! Patterns, plain: a text quoted; classes of two runes -/
namespace Garner
open Go

abbrev litS (r : Nat) : Re := .set [r, r]
section
variable {l : List Nat}
end
end Garner

/-! Patterns, plain: what is asked first of matching -/
namespace Garner
open Go
end Garner

/-! Patterns, plain: without ^ and $ they match wherever a text stands; repetitions -/
namespace Garner
open Go

mutual
def Re.free : Re → Prop
  | .emp => True
  | .set _ => True
  | .seq l => frees l
  | .alt l => frees l
  | .rep k _ _ => k.free
  | .bgn => False
  | .fin => False
def frees : List Re → Prop
  | [] => True
  | t :: ts => t.free ∧ frees ts
end
/-- what is left when something was read is of what stood there -/
theorem tail_mem {s : List Nat} {x : Nat} (h : x ∈ s.tail) : x ∈ s := List.mem_of_mem_tail h
theorem escR_mem {s m s1 : List Nat} (h : escR s = some (m, s1)) : ∀ x ∈ s1, x ∈ s := by
  cases s with
  | nil => cases h
  | cons r s =>
    rw [escR] at h
    repeat' split at h
    all_goals first
      | (injection h with h; injection h with h1 h2; subst h2; intro x hx; exact List.mem_cons_of_mem _ hx)
      | (cases h)
theorem memR_mem {s m s1 : List Nat} (h : memR s = some (m, s1)) : ∀ x ∈ s1, x ∈ s := by
  cases s with
  | nil => cases h
  | cons r s =>
    rw [memR] at h
    split at h
    · intro x hx; exact List.mem_cons_of_mem _ (escR_mem h x hx)
    · split at h
      · cases h
      · injection h with h; injection h with h1 h2; subst h2; intro x hx; exact List.mem_cons_of_mem _ hx
theorem clsR_mem : ∀ {n : Nat} {f : Bool} {s acc m s1 : List Nat}, clsR n f s acc = some (m, s1) → ∀ x ∈ s1, x ∈ s
  | 0, _, _, _, _, _, h => by cases h
  | n + 1, f, s, acc, m, s1, h => by
    rw [clsR] at h
    split at h
    · injection h with h; injection h with h1 h2
      intro x hx; rw [← h2] at hx; exact tail_mem hx
    · split at h
      · cases h
      · rename_i m1 s2 hm
        have h1 := memR_mem hm
        split at h
        · split at h
          · cases h
          · rename_i t s3 ht
            have h2 := memR_mem ht
            split at h
            · cases h
            · intro x hx; exact h1 x (tail_mem (h2 x (clsR_mem h x hx)))
        · intro x hx; exact h1 x (clsR_mem h x hx)
theorem classR_mem {s m s1 : List Nat} (h : classR s = some (m, s1)) : ∀ x ∈ s1, x ∈ s := by
  unfold classR at h
  split at h
  · obtain ⟨p, hp, e⟩ := Option.map_eq_some_iff.1 h
    injection e with e1 e2
    intro x hx; rw [← e2] at hx
    exact tail_mem (clsR_mem (m := p.1) (s1 := p.2) hp x hx)
  · obtain ⟨p, hp, e⟩ := Option.map_eq_some_iff.1 h
    injection e with e1 e2
    intro x hx; rw [← e2] at hx
    exact clsR_mem (m := p.1) (s1 := p.2) hp x hx
theorem digR_mem {s s1 : List Nat} {d : Nat} (h : digR s = some (d, s1)) : ∀ x ∈ s1, x ∈ s := by
  cases s with
  | nil => cases h
  | cons r s =>
    rw [digR] at h
    split at h
    · injection h with h; injection h with h1 h2; subst h2; intro x hx; exact List.mem_cons_of_mem _ hx
    · cases h
theorem quantR_mem {t u : Re} {s s1 : List Nat} (h : quantR t s = some (u, s1)) : (∀ x ∈ s1, x ∈ s) ∧ (t.free → u.free) := by
  cases s with
  | nil => cases h; exact ⟨fun _ h => h, id⟩
  | cons r s =>
    rw [quantR] at h
    split at h
    · cases h; exact ⟨fun x hx => List.mem_cons_of_mem _ hx, id⟩
    split at h
    · cases h; exact ⟨fun x hx => List.mem_cons_of_mem _ hx, id⟩
    split at h
    · cases h; exact ⟨fun x hx => List.mem_cons_of_mem _ hx, id⟩
    split at h
    · split at h
      · cases h
      · rename_i lo s2 h1
        have m1 := digR_mem h1
        split at h
        · split at h
          · cases h
          · rename_i hi s3 h2
            have m2 := digR_mem h2
            split at h
            · injection h with h; injection h with h3 h4
              subst h3 h4
              exact ⟨fun x hx => List.mem_cons_of_mem _ (m1 x (tail_mem (m2 x (tail_mem hx)))), id⟩
            · cases h
        · split at h
          · injection h with h; injection h with h3 h4
            subst h3 h4
            exact ⟨fun x hx => List.mem_cons_of_mem _ (m1 x (tail_mem hx)), id⟩
          · cases h
    · cases h; exact ⟨fun _ h => h, id⟩
theorem many_free {mk : List Re → Re} (h : ∀ l, (mk l).free = frees l) {l : List Re} (hl : frees l) : (manyR mk l).free := by
  match l, hl with
  | [], hl => exact (h []).symm ▸ hl
  | [t], hl => exact hl.1
  | t :: u :: r, hl => exact (h (t :: u :: r)).symm ▸ hl
theorem rowOf_free {l : List Re} (hl : frees l) : (rowOf l).free := by
  unfold rowOf
  split
  · trivial
  · exact many_free (mk := .seq) (fun _ => rfl) hl
theorem parse_free : ∀ n : Nat,
    (∀ {s s1 : List Nat} {ts : List Re} {d : Nat}, altsR n s = some (ts, s1, d) → (∀ x ∈ s1, x ∈ s) ∧ (94 ∉ s → 36 ∉ s → frees ts)) ∧
    (∀ {s s1 : List Nat} {ts : List Re} {d : Nat}, rowsR n s = some (ts, s1, d) → (∀ x ∈ s1, x ∈ s) ∧ (94 ∉ s → 36 ∉ s → frees ts)) ∧
    (∀ {s s1 : List Nat} {t : Re} {d : Nat}, itemR n s = some (t, s1, d) → (∀ x ∈ s1, x ∈ s) ∧ (94 ∉ s → 36 ∉ s → t.free)) ∧
    (∀ {s s1 : List Nat} {t : Re} {d : Nat}, atomR n s = some (t, s1, d) → (∀ x ∈ s1, x ∈ s) ∧ (94 ∉ s → 36 ∉ s → t.free))
  | 0 => ⟨fun h => (by cases h), fun h => (by cases h), fun h => (by cases h), fun h => (by cases h)⟩
  | n + 1 => by
    obtain ⟨ia, ir, ii, it⟩ := parse_free n
    refine ⟨?_, ?_, ?_, ?_⟩
    · intro s s1 ts d h
      rw [altsR] at h
      split at h
      · cases h
      · rename_i us s2 e hr
        obtain ⟨h1, h2⟩ := ir hr
        split at h
        · split at h
          · cases h
          · rename_i vs s3 e2 ha
            obtain ⟨h3, h4⟩ := ia ha
            cases h
            exact ⟨fun x hx => h1 x (tail_mem (h3 x hx)), fun p q => ⟨rowOf_free (h2 p q), h4 (fun h => p (h1 _ (tail_mem h))) (fun h => q (h1 _ (tail_mem h)))⟩⟩
        · cases h
          exact ⟨h1, fun p q => ⟨rowOf_free (h2 p q), trivial⟩⟩
    · intro s s1 ts d h
      rw [rowsR] at h
      split at h
      · cases h
        exact ⟨fun _ h => h, fun _ _ => trivial⟩
      · split at h
        · cases h
        · rename_i t s2 e hi
          obtain ⟨h1, h2⟩ := ii hi
          split at h
          · cases h
          · rename_i vs s3 e2 hr
            obtain ⟨h3, h4⟩ := ir hr
            cases h
            exact ⟨fun x hx => h1 x (h3 x hx), fun p q => ⟨h2 p q, h4 (fun h => p (h1 _ h)) (fun h => q (h1 _ h))⟩⟩
    · intro s s1 t d h
      rw [itemR] at h
      split at h
      · cases h
      · rename_i v s2 e ha
        obtain ⟨h1, h2⟩ := it ha
        obtain ⟨p, hp, e⟩ := Option.map_eq_some_iff.1 h
        obtain ⟨h3, h4⟩ := quantR_mem (u := p.1) (s1 := p.2) hp
        cases e
        exact ⟨fun x hx => h1 x (h3 x hx), fun a b => h4 (h2 a b)⟩
    · intro s s1 t d h
      cases s with
      | nil => cases h
      | cons r s =>
        rw [atomR] at h
        split at h
        · split at h
          · cases h
          · rename_i us s2 e ha
            obtain ⟨h1, h2⟩ := ia ha
            split at h
            · cases h
              exact ⟨fun x hx => List.mem_cons_of_mem _ (h1 x (tail_mem hx)), fun p q => many_free (mk := .alt) (fun _ => rfl) (h2 (fun h => p (List.mem_cons_of_mem _ h)) (fun h => q (List.mem_cons_of_mem _ h)))⟩
            · cases h
        split at h
        · obtain ⟨p, hp, e⟩ := Option.map_eq_some_iff.1 h
          have h1 := classR_mem (m := p.1) (s1 := p.2) hp
          cases e
          exact ⟨fun x hx => List.mem_cons_of_mem _ (h1 x hx), fun _ _ => trivial⟩
        split at h
        · cases h; exact ⟨fun x hx => List.mem_cons_of_mem _ hx, fun _ _ => trivial⟩
        split at h
        · rename_i hc
          cases h
          exact ⟨fun x hx => List.mem_cons_of_mem _ hx, fun p _ => (p (by rw [hc]; exact List.mem_cons_self)).elim⟩
        split at h
        · rename_i hc
          cases h
          exact ⟨fun x hx => List.mem_cons_of_mem _ hx, fun _ p => (p (by rw [hc]; exact List.mem_cons_self)).elim⟩
        split at h
        · obtain ⟨p, hp, e⟩ := Option.map_eq_some_iff.1 h
          have h1 := escR_mem (m := p.1) (s1 := p.2) hp
          cases e
          exact ⟨fun x hx => List.mem_cons_of_mem _ (h1 x hx), fun _ _ => trivial⟩
        split at h
        · cases h
        · cases h; exact ⟨fun x hx => List.mem_cons_of_mem _ hx, fun _ _ => trivial⟩
theorem ReadsTo.free {s : List Nat} {t : Re} (h : ReadsTo s t) (h1 : 94 ∉ s) (h2 : 36 ∉ s) : t.free := by
  obtain ⟨ts, d, h3, rfl⟩ := h
  exact many_free (mk := .alt) (fun _ => rfl) (((parse_free _).1 h3).2 h1 h2)

end Garner

/-! Patterns, plain: classes of two letters -/
namespace Garner
open Go

section
variable {p q : Nat}
variable {s : List Nat}
end
end Garner

/-! garnerref18.Clean, plain: the runes at which something may change, in order -/
namespace Garner
open Go
end Garner

