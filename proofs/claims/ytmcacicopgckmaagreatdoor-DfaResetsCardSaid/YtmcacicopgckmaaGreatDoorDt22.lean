import Derived.Test.YtmcacicopgckmaaGreatDoorDt07
import Derived.Test.YtmcacicopgckmaaGreatDoorDt09
import Derived.Test.YtmcacicopgckmaaGreatDoorDt16
import Derived.Test.YtmcacicopgckmaaGreatDoorDt18
import Derived.Test.YtmcacicopgckmaaGreatDoorDt17
/-! Patterns, plain: reading without fuel; trees laid one behind the other -/
namespace Garner
open Go
def altF (s : List Nat) : Option (List Re × List Nat × Nat) := altsR (4 * s.length + 4) s
def rowF (s : List Nat) : Option (List Re × List Nat × Nat) := rowsR (4 * s.length + 3) s
def itemF (s : List Nat) : Option (Re × List Nat × Nat) := itemR (4 * s.length + 2) s
def atomF (s : List Nat) : Option (Re × List Nat × Nat) := atomR (4 * s.length + 1) s
theorem rows_fuel {s : List Nat} : ∀ {n m : Nat}, 4 * s.length + 3 ≤ n → n ≤ m → rowsR m s = rowsR n s := by
  intro n m hn hm
  obtain ⟨k, rfl⟩ : ∃ k, m = n + k := ⟨m - n, by omega⟩
  clear hm
  induction k with
  | zero => rfl
  | succ k ih => rw [← Nat.add_assoc, (parse_fuel (n + k)).2.1 s (by omega), ih]
theorem altF_eq (s : List Nat) : altF s = match rowF s with
    | none => none
    | some (ts, s1, d) =>
      if s1.head? = some 124 then
        match altF s1.tail with
        | none => none
        | some (us, s2, e) => some (rowOf ts :: us, s2, max d e)
      else some ([rowOf ts], s1, d) := by
  unfold altF
  rw [show 4 * s.length + 4 = (4 * s.length + 3) + 1 from rfl, altsR]
  show (match rowF s with | none => none | some (ts, s1, d) => _) = _
  cases h : rowF s with
  | none => rfl
  | some p =>
    obtain ⟨ts, s1, d⟩ := p
    have h1 := (parse_len _).2.1 h
    dsimp only
    split
    · rename_i hc
      have := tail_lt hc
      rw [alts_fuel (s := s1.tail) (n := 4 * s1.tail.length + 4) (Nat.le_refl _) (by omega)]
      cases altsR (4 * s1.tail.length + 4) s1.tail <;> rfl
    · rfl
theorem rowF_eq (s : List Nat) : rowF s = if s = [] ∨ s.head? = some 124 ∨ s.head? = some 41 then some ([], s, 0) else
    match itemF s with
    | none => none
    | some (t, s1, d) =>
      match rowF s1 with
      | none => none
      | some (ts, s2, e) => some (t :: ts, s2, max d e) := by
  unfold rowF
  rw [show 4 * s.length + 3 = (4 * s.length + 2) + 1 from rfl, rowsR]
  split
  · rfl
  · show (match itemF s with | none => none | some (t, s1, d) => _) = _
    cases h : itemF s with
    | none => rfl
    | some p =>
      obtain ⟨t, s1, d⟩ := p
      have h1 := (parse_len _).2.2.1 h
      dsimp only
      rw [rows_fuel (s := s1) (n := 4 * s1.length + 3) (Nat.le_refl _) (by omega)]
      cases rowsR (4 * s1.length + 3) s1 <;> rfl
theorem itemF_eq (s : List Nat) : itemF s = match atomF s with
    | none => none
    | some (t, s1, d) => (quantR t s1).map fun p => (p.1, p.2, d) := by
  unfold itemF
  rw [show 4 * s.length + 2 = (4 * s.length + 1) + 1 from rfl, itemR]
  rfl
theorem atomF_nil : atomF [] = none := rfl
theorem atomF_eq (r : Nat) (s : List Nat) : atomF (r :: s) =
    if r = 40 then
      match altF s with
      | none => none
      | some (ts, s1, d) => if s1.head? = some 41 then some (manyR .alt ts, s1.tail, d + 1) else none
    else if r = 91 then (classR s).map fun p => (.set p.1, p.2, 0)
    else if r = 46 then some (.set [0, 9, 11, 1114111], s, 0)
    else if r = 94 then some (.bgn, s, 0)
    else if r = 36 then some (.fin, s, 0)
    else if r = 92 then (escR s).map fun p => (.set p.1, p.2, 0)
    else if r ∈ specR then none else some (.set [r, r], s, 0) := by
  unfold atomF
  rw [show 4 * (r :: s).length + 1 = (4 * s.length + 4) + 1 by simp; omega, atomR]
  rfl
theorem altF_cnt {s s1 : List Nat} {ts : List Re} {d : Nat} (h : altF s = some (ts, s1, d)) : cnts ts + 4 * s1.length ≤ 4 * s.length + 1 ∧ oks ts ∧ ts ≠ [] := (parse_cnt _).1 h
theorem rowF_cnt {s s1 : List Nat} {ts : List Re} {d : Nat} (h : rowF s = some (ts, s1, d)) : cnts ts + 4 * s1.length ≤ 4 * s.length ∧ oks ts := (parse_cnt _).2.1 h
theorem itemF_cnt {s s1 : List Nat} {t : Re} {d : Nat} (h : itemF s = some (t, s1, d)) : t.cnt + 4 * s1.length ≤ 4 * s.length ∧ t.ok := (parse_cnt _).2.2.1 h
theorem atomF_cnt {s s1 : List Nat} {t : Re} {d : Nat} (h : atomF s = some (t, s1, d)) : t.cnt + 1 + 4 * s1.length ≤ 4 * s.length ∧ t.ok := (parse_cnt _).2.2.2 h
theorem itemF_len {s s1 : List Nat} {t : Re} {d : Nat} (h : itemF s = some (t, s1, d)) : s1.length < s.length := (parse_len _).2.2.1 h
theorem atomF_len {s s1 : List Nat} {t : Re} {d : Nat} (h : atomF s = some (t, s1, d)) : s1.length < s.length := (parse_len _).2.2.2 h
theorem rowF_len {s s1 : List Nat} {ts : List Re} {d : Nat} (h : rowF s = some (ts, s1, d)) : s1.length ≤ s.length := (parse_len _).2.1 h
theorem cnts_app : ∀ ts us : List Re, cnts (ts ++ us) = cnts ts + cnts us
  | [], us => by simp [cnts]
  | t :: ts, us => by simp only [List.cons_append, cnts, cnts_app ts us]; omega
theorem flats_app : ∀ (ts us : List Re) (b : Nat), flats b (ts ++ us) = flats b ts ++ flats (b + cnts ts) us
  | [], us, b => by simp [flats, cnts]
  | t :: ts, us, b => by
    simp only [List.cons_append, flats, cnts, flats_app ts us, List.append_assoc]
    rw [show b + t.cnt + cnts ts = b + (t.cnt + cnts ts) by omega]
theorem roots_app : ∀ (ts us : List Re) (b : Nat), roots b (ts ++ us) = roots b ts ++ roots (b + cnts ts) us
  | [], us, b => by simp [roots, cnts]
  | t :: ts, us, b => by
    simp only [List.cons_append, roots, cnts, roots_app ts us]
    rw [show b + t.cnt + cnts ts = b + (t.cnt + cnts ts) by omega]
theorem flats_one (t : Re) (b : Nat) : flats b [t] = t.flat b := by simp [flats]
theorem roots_one (t : Re) (b : Nat) : roots b [t] = [b + t.cnt - 1] := by simp [roots]
end Garner
/-! Patterns, plain: a tree's size, node by node, at most 2000 -/
namespace Garner
open Go
def nodeTimes (n : NodeP) : Nat := if n.kind = 5 then (if n.mx < 0 then n.mn + 1 else max n.mx.toNat 1) else 1
def kidsSize (c : Nat) (S : List Nat) (ks : List Nat) : Nat := ks.foldl (fun a k => min 2000 (a + c * S.getD k 0)) 1
def nodeSize (S : List Nat) (n : NodeP) : Nat := kidsSize (nodeTimes n) S n.kids
def sizesGo (S : List Nat) (l : List NodeP) : List Nat := l.foldl (fun S n => S ++ [nodeSize S n]) S
theorem sizesGo_app (S : List Nat) (a b : List NodeP) : sizesGo S (a ++ b) = sizesGo (sizesGo S a) b := List.foldl_append ..
theorem sizesGo_one (S : List Nat) (n : NodeP) : sizesGo S [n] = S ++ [nodeSize S n] := rfl
theorem sizesGo_len : ∀ (l : List NodeP) (S : List Nat), (sizesGo S l).length = S.length + l.length
  | [], S => rfl
  | n :: l, S => by
    show (sizesGo (S ++ [nodeSize S n]) l).length = _
    rw [sizesGo_len l]; simp; omega
theorem kids_roots {c : Nat} (hc : c = 1) : ∀ (ts : List Re) (b : Nat) (S : List Nat) (a : Nat), (∀ (i r : Nat) (t : Re), (roots b ts)[i]? = some r → ts[i]? = some t → S.getD r 0 = min 2000 t.size) → a ≤ 2000 →
    (roots b ts).foldl (fun a k => min 2000 (a + c * S.getD k 0)) a = min 2000 (a + sizes ts)
  | [], b, S, a, _, ha => by simp [roots, sizes]; omega
  | t :: ts, b, S, a, h, ha => by
    have h0 := h 0 _ t rfl rfl
    have hs := size_pos t
    show (roots (b + t.cnt) ts).foldl _ (min 2000 (a + c * S.getD (b + t.cnt - 1) 0)) = _
    rw [kids_roots hc ts (b + t.cnt) S _ (fun i r u h1 h2 => h (i + 1) r u h1 h2) (by omega), h0, hc]
    simp only [sizes]
    omega
def mxM : Option Nat → Int
  | none => -1
  | some m => m
theorem rep_flatM (t : Re) (mn : Nat) (mx : Option Nat) (b : Nat) : (Re.rep t mn mx).flat b = t.flat b ++ [⟨5, [b + t.cnt - 1], mn, mxM mx, []⟩] := by
  cases mx <;> simp [Re.flat, mxM]
mutual
theorem flat_sizes : ∀ (t : Re) (S : List Nat), ∃ X, sizesGo S (t.flat S.length) = S ++ X ∧ X.length = t.cnt ∧ X.getLast? = some (min 2000 t.size)
  | .emp, S => ⟨[1], rfl, rfl, rfl⟩
  | .set l, S => ⟨[1], rfl, rfl, rfl⟩
  | .bgn, S => ⟨[1], rfl, rfl, rfl⟩
  | .fin, S => ⟨[1], rfl, rfl, rfl⟩
  | .seq l, S => by
    obtain ⟨X, h1, h2, h3⟩ := flats_sizes l S
    refine ⟨X ++ [min 2000 (sizes l + 1)], ?_, by simp [h2, Re.cnt], by simp [Re.size]⟩
    rw [Re.flat, sizesGo_app, h1, sizesGo_one, List.append_assoc]
    congr 3
    have := kids_roots (c := nodeTimes ⟨3, roots S.length l, 0, 0, []⟩) rfl l S.length (S ++ X) 1 h3 (by omega)
    show kidsSize _ _ _ = _
    unfold kidsSize
    rw [this, Nat.add_comm]
  | .alt l, S => by
    obtain ⟨X, h1, h2, h3⟩ := flats_sizes l S
    refine ⟨X ++ [min 2000 (sizes l + 1)], ?_, by simp [h2, Re.cnt], by simp [Re.size]⟩
    rw [Re.flat, sizesGo_app, h1, sizesGo_one, List.append_assoc]
    congr 3
    have := kids_roots (c := nodeTimes ⟨4, roots S.length l, 0, 0, []⟩) rfl l S.length (S ++ X) 1 h3 (by omega)
    show kidsSize _ _ _ = _
    unfold kidsSize
    rw [this, Nat.add_comm]
  | .rep k mn mx, S => by
    obtain ⟨X, h1, h2, h3⟩ := flat_sizes k S
    have hX : (S ++ X).getD (S.length + k.cnt - 1) 0 = min 2000 k.size := by
      have hp := cnt_pos k
      rw [List.getD_eq_getElem?_getD, List.getElem?_append_right (by omega), show S.length + k.cnt - 1 - S.length = X.length - 1 by omega, ← List.getLast?_eq_getElem?, h3]
      rfl
    refine ⟨X ++ [min 2000 (timesR mn mx * k.size + 1)], ?_, by simp [h2, Re.cnt], by simp [Re.size]⟩
    rw [rep_flatM, sizesGo_app, h1, sizesGo_one, List.append_assoc]
    congr 3
    have ht : nodeTimes ⟨5, [S.length + k.cnt - 1], mn, mxM mx, []⟩ = timesR mn mx := by
      cases mx with
      | none => rfl
      | some m =>
        unfold nodeTimes timesR mxM
        simp
        omega
    show kidsSize (nodeTimes _) _ [_] = _
    rw [ht]
    show min 2000 (1 + timesR mn mx * (S ++ X).getD _ 0) = _
    rw [hX]
    have := times_pos mn mx
    rcases Nat.le_total k.size 2000 with hk | hk
    · rw [Nat.min_eq_right hk, Nat.add_comm]
    · rw [Nat.min_eq_left hk]
      have h3 : 2000 ≤ timesR mn mx * 2000 := Nat.le_mul_of_pos_left _ this
      have h4 : 2000 ≤ timesR mn mx * k.size := Nat.le_trans hk (Nat.le_mul_of_pos_left _ this)
      omega
theorem flats_sizes : ∀ (ts : List Re) (S : List Nat), ∃ X, sizesGo S (flats S.length ts) = S ++ X ∧ X.length = cnts ts ∧ ∀ (i r : Nat) (t : Re), (roots S.length ts)[i]? = some r → ts[i]? = some t → (S ++ X).getD r 0 = min 2000 t.size
  | [], S => ⟨[], by simp [flats, sizesGo], rfl, fun i r t h => by simp [roots] at h⟩
  | t :: ts, S => by
    obtain ⟨X, h1, h2, h3⟩ := flat_sizes t S
    obtain ⟨Y, h4, h5, h6⟩ := flats_sizes ts (S ++ X)
    rw [List.length_append, h2] at h4 h6
    refine ⟨X ++ Y, ?_, by simp [h2, h5, cnts], fun i r u hr hu => ?_⟩
    · rw [flats, sizesGo_app, h1, h4, List.append_assoc]
    · cases i with
      | zero =>
        simp [roots] at hr
        simp at hu
        subst hu hr
        have hp := cnt_pos t
        rw [List.getD_eq_getElem?_getD, List.getElem?_append_right (by omega), List.getElem?_append_left (by omega), show S.length + t.cnt - 1 - S.length = X.length - 1 by omega, ← List.getLast?_eq_getElem?, h3]
        rfl
      | succ i =>
        rw [← List.append_assoc]
        exact h6 i r u (by simpa [roots] using hr) (by simpa using hu)
end
theorem size_root (t : Re) : (sizesGo [] (t.flat 0)).getLast? = some (min 2000 t.size) := by
  obtain ⟨X, h1, h2, h3⟩ := flat_sizes t []
  rw [show ([] : List Nat).length = 0 from rfl] at h1
  rw [h1, List.nil_append, h3]
/-- kids come ahead of their node -/
def WfN (ns : List NodeP) : Prop := ∀ (i : Nat) (n : NodeP), ns[i]? = some n → ∀ k ∈ n.kids, k < i
theorem roots_lt : ∀ (ts : List Re) (b r : Nat), r ∈ roots b ts → b ≤ r ∧ r < b + cnts ts
  | [], b, r, h => by simp [roots] at h
  | t :: ts, b, r, h => by
    have hp := cnt_pos t
    simp only [roots, List.mem_cons] at h
    simp only [cnts]
    rcases h with h | h
    · omega
    · have := roots_lt ts _ r h
      omega
theorem wf_app {b : Nat} {l m : List NodeP} (h1 : ∀ (i : Nat) (n : NodeP), l[i]? = some n → ∀ k ∈ n.kids, k < b + i) (h2 : ∀ (i : Nat) (n : NodeP), m[i]? = some n → ∀ k ∈ n.kids, k < b + l.length + i) : ∀ (i : Nat) (n : NodeP), (l ++ m)[i]? = some n → ∀ k ∈ n.kids, k < b + i := fun i n hn k hk => by
  rcases Nat.lt_or_ge i l.length with h | h
  · rw [List.getElem?_append_left h] at hn
    exact h1 i n hn k hk
  · rw [List.getElem?_append_right h] at hn
    have := h2 _ n hn k hk
    omega
theorem wf_one {b : Nat} {x : NodeP} (h : ∀ k ∈ x.kids, k < b) : ∀ (i : Nat) (n : NodeP), [x][i]? = some n → ∀ k ∈ n.kids, k < b + i := fun i n hn k hk => by
  cases i with
  | zero => simp at hn; subst hn; have := h k hk; omega
  | succ i => simp at hn
mutual
theorem wf_flat : ∀ (t : Re) (b : Nat) (i : Nat) (n : NodeP), (t.flat b)[i]? = some n → ∀ k ∈ n.kids, k < b + i
  | .emp, b => wf_one (by simp)
  | .set l, b => wf_one (by simp)
  | .bgn, b => wf_one (by simp)
  | .fin, b => wf_one (by simp)
  | .seq l, b => by
    rw [Re.flat]
    exact wf_app (wf_flats l b) (wf_one fun k hk => by rw [flats_len]; exact (roots_lt l b k hk).2)
  | .alt l, b => by
    rw [Re.flat]
    exact wf_app (wf_flats l b) (wf_one fun k hk => by rw [flats_len]; exact (roots_lt l b k hk).2)
  | .rep t mn mx, b => by
    rw [rep_flatM]
    exact wf_app (wf_flat t b) (wf_one fun k hk => by
      have := cnt_pos t
      rw [flat_len]
      simp at hk
      omega)
theorem wf_flats : ∀ (ts : List Re) (b : Nat) (i : Nat) (n : NodeP), (flats b ts)[i]? = some n → ∀ k ∈ n.kids, k < b + i
  | [], b => by simp [flats]
  | t :: ts, b => by
    rw [flats]
    exact wf_app (wf_flat t b) fun i n hn k hk => by
      have := wf_flats ts (b + t.cnt) i n hn k hk
      rw [flat_len]
      exact this
end
end Garner
/-! Patterns, plain: what is asked first of matching -/
namespace Garner
open Go
def awT : Re := .seq [.rep (litS 97) 0 none, litS 98]
theorem aw_ok : rexpP [97, 42, 98] = .ok awT := by
  have h1 : Lib.validD [97, 42, 98] = true := by kernel_rfl
  have h2 : runesP [97, 42, 98] = [97, 42, 98] := by kernel_rfl
  have h3 : readR [97, 42, 98] = .ok awT := by kernel_rfl
  unfold rexpP
  rw [if_neg (by decide), if_neg (by rw [h1]; decide), h2, h3]
theorem aw_no : rexpP [42] = .error 40 := by
  have h1 : Lib.validD [42] = true := by kernel_rfl
  have h2 : runesP [42] = [42] := by kernel_rfl
  have h3 : readR [42] = .error 40 := by kernel_rfl
  unfold rexpP
  rw [if_neg (by decide), if_neg (by rw [h1]; decide), h2, h3]
theorem lit_M {s : List Nat} {r i j : Nat} : (litS r).M s i j ↔ j = i + 1 ∧ s[i]? = some r := by
  constructor
  · rintro ⟨h1, x, h2, h3⟩
    rw [lit_has] at h3
    subst h3
    exact ⟨h1, h2⟩
  · rintro ⟨h1, h2⟩
    exact ⟨h1, r, h2, lit_has.2 rfl⟩
theorem awT_M {s : List Nat} {i j : Nat} : awT.M s i j ↔ ∃ n, iterR ((litS 97).M s) n i (j - 1) ∧ 0 < j ∧ s[j - 1]? = some 98 := by
  constructor
  · rintro ⟨k, ⟨n, -, -, h⟩, k2, h2, h3⟩
    obtain rfl : k2 = j := h3
    rw [lit_M] at h2
    obtain ⟨rfl, h2⟩ := h2
    exact ⟨n, h, by omega, h2⟩
  · rintro ⟨n, h, h0, h2⟩
    exact ⟨j - 1, ⟨n, Nat.zero_le _, fun m e => (by cases e), h⟩, j, lit_M.2 ⟨by omega, h2⟩, rfl⟩
theorem aw_whole : wholeB awT [97, 97, 98] = true :=
  whole_iff.2 (awT_M.2 ⟨2, ⟨1, lit_M.2 ⟨rfl, rfl⟩, 2, lit_M.2 ⟨rfl, rfl⟩, rfl⟩, by decide, rfl⟩)
theorem aw_not : wholeB awT [97, 98, 120] = false := by
  rw [Bool.eq_false_iff]
  intro h
  obtain ⟨n, -, -, h2⟩ := awT_M.1 (whole_iff.1 h)
  cases h2
theorem aw_part : partB awT [120, 97, 98, 121] = true :=
  part_iff.2 ⟨1, 3, by decide, awT_M.2 ⟨1, ⟨2, lit_M.2 ⟨rfl, rfl⟩, rfl⟩, by decide, rfl⟩⟩
theorem aw_r1 : runesP [97, 97, 98] = [97, 97, 98] := by kernel_rfl
theorem aw_r2 : runesP [97, 98, 120] = [97, 98, 120] := by kernel_rfl
theorem aw_r3 : runesP [120, 97, 98, 121] = [120, 97, 98, 121] := by kernel_rfl
end Garner
