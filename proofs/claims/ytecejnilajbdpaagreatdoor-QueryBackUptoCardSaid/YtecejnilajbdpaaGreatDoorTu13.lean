import Derived.Test.YtecejnilajbdpaaGreatDoorTu06
import Derived.Test.YtecejnilajbdpaaGreatDoorTu07
import Derived.Test.YtecejnilajbdpaaGreatDoorTu08
/-! Patterns, plain: what is read stays so where a bracket or the end stands behind -/
namespace Garner
open Go

/-- the end, or a closing bracket -/
def CtxR (u : List Nat) : Prop := u = [] ∨ u.head? = some 41
theorem CtxR.ne {u : List Nat} (h : CtxR u) {c : Nat} (hc : c ≠ 41) : u.head? ≠ some c := by
  rcases h with rfl | h
  · simp
  · rw [h]; intro e; injection e with e; exact hc e.symm
theorem CtxR.head {s u : List Nat} (h : CtxR u) {c : Nat} (hc : c ≠ 41) : ((s ++ u).head? = some c) = (s.head? = some c) := by
  cases s with
  | nil => simp [h.ne hc]
  | cons a s => rfl
end Garner

/-! Patterns, plain: the laws of patterns that are put together -/
namespace Garner
open Go

noncomputable def wholeB (t : Re) (s : List Nat) : Bool := @decide (t.M s 0 s.length) (Classical.propDecidable _)
noncomputable def partB (t : Re) (s : List Nat) : Bool := @decide (∃ i j, i ≤ s.length ∧ t.M s i j) (Classical.propDecidable _)
theorem whole_iff {t : Re} {s : List Nat} : wholeB t s = true ↔ t.M s 0 s.length := @decide_eq_true_iff _ (Classical.propDecidable _)
theorem part_iff {t : Re} {s : List Nat} : partB t s = true ↔ ∃ i j, i ≤ s.length ∧ t.M s i j := @decide_eq_true_iff _ (Classical.propDecidable _)

/-- a pattern that was read -/
def ReadsTo (s : List Nat) (t : Re) : Prop := ∃ ts d, altsR (4 * s.length + 4) s = some (ts, [], d) ∧ t = manyR .alt ts
theorem ReadsTo.ok {s : List Nat} {t : Re} (h : ReadsTo s t) : t.ok := by
  obtain ⟨ts, d, h1, rfl⟩ := h
  obtain ⟨-, h2, h3⟩ := (parse_cnt _).1 h1
  exact many_ok h2 (fun h hne => ⟨hne, h⟩) h3
section
variable {s : List Nat} {a b : Re}
end
end Garner

/-! Patterns, plain: reading without fuel; trees laid one behind the other -/
namespace Garner
open Go
def altF (s : List Nat) : Option (List Re × List Nat × Nat) := altsR (4 * s.length + 4) s
def rowF (s : List Nat) : Option (List Re × List Nat × Nat) := rowsR (4 * s.length + 3) s
def itemF (s : List Nat) : Option (Re × List Nat × Nat) := itemR (4 * s.length + 2) s
def atomF (s : List Nat) : Option (Re × List Nat × Nat) := atomR (4 * s.length + 1) s
theorem rows_fuel {s : List Nat} : ∀ {n m : Nat}, 4 * s.length + 3 ≤ n → n ≤ m → rowsR m s = rowsR n s := by
  intro n m hn hm
  obtain ⟨k, rfl⟩ : ∃ k, m = n + k := ⟨m - n, by omega⟩
  clear hm
  induction k with
  | zero => rfl
  | succ k ih => rw [← Nat.add_assoc, (parse_fuel (n + k)).2.1 s (by omega), ih]
theorem altF_eq (s : List Nat) : altF s = match rowF s with
    | none => none
    | some (ts, s1, d) =>
      if s1.head? = some 124 then
        match altF s1.tail with
        | none => none
        | some (us, s2, e) => some (rowOf ts :: us, s2, max d e)
      else some ([rowOf ts], s1, d) := by
  unfold altF
  rw [show 4 * s.length + 4 = (4 * s.length + 3) + 1 from rfl, altsR]
  show (match rowF s with | none => none | some (ts, s1, d) => _) = _
  cases h : rowF s with
  | none => rfl
  | some p =>
    obtain ⟨ts, s1, d⟩ := p
    have h1 := (parse_len _).2.1 h
    dsimp only
    split
    · rename_i hc
      have := tail_lt hc
      rw [alts_fuel (s := s1.tail) (n := 4 * s1.tail.length + 4) (Nat.le_refl _) (by omega)]
      cases altsR (4 * s1.tail.length + 4) s1.tail <;> rfl
    · rfl
theorem rowF_eq (s : List Nat) : rowF s = if s = [] ∨ s.head? = some 124 ∨ s.head? = some 41 then some ([], s, 0) else
    match itemF s with
    | none => none
    | some (t, s1, d) =>
      match rowF s1 with
      | none => none
      | some (ts, s2, e) => some (t :: ts, s2, max d e) := by
  unfold rowF
  rw [show 4 * s.length + 3 = (4 * s.length + 2) + 1 from rfl, rowsR]
  split
  · rfl
  · show (match itemF s with | none => none | some (t, s1, d) => _) = _
    cases h : itemF s with
    | none => rfl
    | some p =>
      obtain ⟨t, s1, d⟩ := p
      have h1 := (parse_len _).2.2.1 h
      dsimp only
      rw [rows_fuel (s := s1) (n := 4 * s1.length + 3) (Nat.le_refl _) (by omega)]
      cases rowsR (4 * s1.length + 3) s1 <;> rfl
theorem itemF_eq (s : List Nat) : itemF s = match atomF s with
    | none => none
    | some (t, s1, d) => (quantR t s1).map fun p => (p.1, p.2, d) := by
  unfold itemF
  rw [show 4 * s.length + 2 = (4 * s.length + 1) + 1 from rfl, itemR]
  rfl
theorem atomF_eq (r : Nat) (s : List Nat) : atomF (r :: s) =
    if r = 40 then
      match altF s with
      | none => none
      | some (ts, s1, d) => if s1.head? = some 41 then some (manyR .alt ts, s1.tail, d + 1) else none
    else if r = 91 then (classR s).map fun p => (.set p.1, p.2, 0)
    else if r = 46 then some (.set [0, 9, 11, 1114111], s, 0)
    else if r = 94 then some (.bgn, s, 0)
    else if r = 36 then some (.fin, s, 0)
    else if r = 92 then (escR s).map fun p => (.set p.1, p.2, 0)
    else if r ∈ specR then none else some (.set [r, r], s, 0) := by
  unfold atomF
  rw [show 4 * (r :: s).length + 1 = (4 * s.length + 4) + 1 by simp; omega, atomR]
  rfl
theorem altF_cnt {s s1 : List Nat} {ts : List Re} {d : Nat} (h : altF s = some (ts, s1, d)) : cnts ts + 4 * s1.length ≤ 4 * s.length + 1 ∧ oks ts ∧ ts ≠ [] := (parse_cnt _).1 h
theorem rowF_cnt {s s1 : List Nat} {ts : List Re} {d : Nat} (h : rowF s = some (ts, s1, d)) : cnts ts + 4 * s1.length ≤ 4 * s.length ∧ oks ts := (parse_cnt _).2.1 h
theorem itemF_cnt {s s1 : List Nat} {t : Re} {d : Nat} (h : itemF s = some (t, s1, d)) : t.cnt + 4 * s1.length ≤ 4 * s.length ∧ t.ok := (parse_cnt _).2.2.1 h
theorem atomF_cnt {s s1 : List Nat} {t : Re} {d : Nat} (h : atomF s = some (t, s1, d)) : t.cnt + 1 + 4 * s1.length ≤ 4 * s.length ∧ t.ok := (parse_cnt _).2.2.2 h
theorem itemF_len {s s1 : List Nat} {t : Re} {d : Nat} (h : itemF s = some (t, s1, d)) : s1.length < s.length := (parse_len _).2.2.1 h
theorem rowF_len {s s1 : List Nat} {ts : List Re} {d : Nat} (h : rowF s = some (ts, s1, d)) : s1.length ≤ s.length := (parse_len _).2.1 h
theorem cnts_app : ∀ ts us : List Re, cnts (ts ++ us) = cnts ts + cnts us
  | [], us => by simp [cnts]
  | t :: ts, us => by simp only [List.cons_append, cnts, cnts_app ts us]; omega
theorem flats_app : ∀ (ts us : List Re) (b : Nat), flats b (ts ++ us) = flats b ts ++ flats (b + cnts ts) us
  | [], us, b => by simp [flats, cnts]
  | t :: ts, us, b => by
    simp only [List.cons_append, flats, cnts, flats_app ts us, List.append_assoc]
    rw [show b + t.cnt + cnts ts = b + (t.cnt + cnts ts) by omega]
theorem roots_app : ∀ (ts us : List Re) (b : Nat), roots b (ts ++ us) = roots b ts ++ roots (b + cnts ts) us
  | [], us, b => by simp [roots, cnts]
  | t :: ts, us, b => by
    simp only [List.cons_append, roots, cnts, roots_app ts us]
    rw [show b + t.cnt + cnts ts = b + (t.cnt + cnts ts) by omega]
theorem flats_one (t : Re) (b : Nat) : flats b [t] = t.flat b := by simp [flats]
theorem roots_one (t : Re) (b : Nat) : roots b [t] = [b + t.cnt - 1] := by simp [roots]
end Garner

/-! Patterns, plain: rows of sets: dots, classes, plain runes -/
namespace Garner
open Go

section
variable {s : List Nat}
end

/-! ### dots -/
section
variable {s : List Nat}
end
end Garner

/-! Patterns, plain: a text quoted; classes of two runes -/
namespace Garner
open Go

/-- bytes from 128 on, and what stands behind them -/
theorem high_split (s : Bs) : ∃ h t, s = h ++ t ∧ (∀ c ∈ h, 128 ≤ c.toNat) ∧ (t = [] ∨ (t.getD 0 0).toNat < 128) := by
  induction s with
  | nil => exact ⟨[], [], rfl, by simp, .inl rfl⟩
  | cons c s ih =>
    by_cases hc : c.toNat < 128
    · exact ⟨[], c :: s, rfl, by simp, .inr hc⟩
    · obtain ⟨h, t, e, h1, h2⟩ := ih
      refine ⟨c :: h, t, by rw [e]; rfl, fun x hx => ?_, h2⟩
      rcases List.mem_cons.1 hx with rfl | hx
      · omega
      · exact h1 x hx
theorem valid_parts {h t : Bs} (ht : t = [] ∨ (t.getD 0 0).toNat < 128) : Lib.validD (h ++ t) = (Lib.validD h && Lib.validD t) := by
  by_cases te : t = []
  · subst te; rw [List.append_nil, Lib.validD_nil, Bool.and_true]
  · have h0 : (t.getD 0 0).toNat / 64 ≠ 2 := by have := ht.resolve_left te; omega
    cases hh : Lib.validD h with
    | true => rw [valid_app _ h t (Nat.le_refl _) hh, Bool.true_and]
    | false =>
      rw [Bool.false_and]
      cases hv : Lib.validD (h ++ t) with
      | false => rfl
      | true => rw [valid_left _ h t (Nat.le_refl _) hv te h0] at hh; cases hh
abbrev litS (r : Nat) : Re := .set [r, r]
section
variable {l : List Nat}
end
end Garner

/-! Patterns, plain: what is asked first of matching -/
namespace Garner
open Go
end Garner

/-! Patterns, plain: without ^ and $ they match wherever a text stands; repetitions -/
namespace Garner
open Go

mutual
def Re.free : Re → Prop
  | .emp => True
  | .set _ => True
  | .seq l => frees l
  | .alt l => frees l
  | .rep k _ _ => k.free
  | .bgn => False
  | .fin => False
def frees : List Re → Prop
  | [] => True
  | t :: ts => t.free ∧ frees ts
end
/-- what is left when something was read is of what stood there -/
theorem tail_mem {s : List Nat} {x : Nat} (h : x ∈ s.tail) : x ∈ s := List.mem_of_mem_tail h
theorem escR_mem {s m s1 : List Nat} (h : escR s = some (m, s1)) : ∀ x ∈ s1, x ∈ s := by
  cases s with
  | nil => cases h
  | cons r s =>
    rw [escR] at h
    repeat' split at h
    all_goals first
      | (injection h with h; injection h with h1 h2; subst h2; intro x hx; exact List.mem_cons_of_mem _ hx)
      | (cases h)
theorem memR_mem {s m s1 : List Nat} (h : memR s = some (m, s1)) : ∀ x ∈ s1, x ∈ s := by
  cases s with
  | nil => cases h
  | cons r s =>
    rw [memR] at h
    split at h
    · intro x hx; exact List.mem_cons_of_mem _ (escR_mem h x hx)
    · split at h
      · cases h
      · injection h with h; injection h with h1 h2; subst h2; intro x hx; exact List.mem_cons_of_mem _ hx
theorem clsR_mem : ∀ {n : Nat} {f : Bool} {s acc m s1 : List Nat}, clsR n f s acc = some (m, s1) → ∀ x ∈ s1, x ∈ s
  | 0, _, _, _, _, _, h => by cases h
  | n + 1, f, s, acc, m, s1, h => by
    rw [clsR] at h
    split at h
    · injection h with h; injection h with h1 h2
      intro x hx; rw [← h2] at hx; exact tail_mem hx
    · split at h
      · cases h
      · rename_i m1 s2 hm
        have h1 := memR_mem hm
        split at h
        · split at h
          · cases h
          · rename_i t s3 ht
            have h2 := memR_mem ht
            split at h
            · cases h
            · intro x hx; exact h1 x (tail_mem (h2 x (clsR_mem h x hx)))
        · intro x hx; exact h1 x (clsR_mem h x hx)
theorem classR_mem {s m s1 : List Nat} (h : classR s = some (m, s1)) : ∀ x ∈ s1, x ∈ s := by
  unfold classR at h
  split at h
  · obtain ⟨p, hp, e⟩ := Option.map_eq_some_iff.1 h
    injection e with e1 e2
    intro x hx; rw [← e2] at hx
    exact tail_mem (clsR_mem (m := p.1) (s1 := p.2) hp x hx)
  · obtain ⟨p, hp, e⟩ := Option.map_eq_some_iff.1 h
    injection e with e1 e2
    intro x hx; rw [← e2] at hx
    exact clsR_mem (m := p.1) (s1 := p.2) hp x hx
theorem digR_mem {s s1 : List Nat} {d : Nat} (h : digR s = some (d, s1)) : ∀ x ∈ s1, x ∈ s := by
  cases s with
  | nil => cases h
  | cons r s =>
    rw [digR] at h
    split at h
    · injection h with h; injection h with h1 h2; subst h2; intro x hx; exact List.mem_cons_of_mem _ hx
    · cases h
theorem quantR_mem {t u : Re} {s s1 : List Nat} (h : quantR t s = some (u, s1)) : (∀ x ∈ s1, x ∈ s) ∧ (t.free → u.free) := by
  cases s with
  | nil => cases h; exact ⟨fun _ h => h, id⟩
  | cons r s =>
    rw [quantR] at h
    split at h
    · cases h; exact ⟨fun x hx => List.mem_cons_of_mem _ hx, id⟩
    split at h
    · cases h; exact ⟨fun x hx => List.mem_cons_of_mem _ hx, id⟩
    split at h
    · cases h; exact ⟨fun x hx => List.mem_cons_of_mem _ hx, id⟩
    split at h
    · split at h
      · cases h
      · rename_i lo s2 h1
        have m1 := digR_mem h1
        split at h
        · split at h
          · cases h
          · rename_i hi s3 h2
            have m2 := digR_mem h2
            split at h
            · injection h with h; injection h with h3 h4
              subst h3 h4
              exact ⟨fun x hx => List.mem_cons_of_mem _ (m1 x (tail_mem (m2 x (tail_mem hx)))), id⟩
            · cases h
        · split at h
          · injection h with h; injection h with h3 h4
            subst h3 h4
            exact ⟨fun x hx => List.mem_cons_of_mem _ (m1 x (tail_mem hx)), id⟩
          · cases h
    · cases h; exact ⟨fun _ h => h, id⟩
theorem many_free {mk : List Re → Re} (h : ∀ l, (mk l).free = frees l) {l : List Re} (hl : frees l) : (manyR mk l).free := by
  match l, hl with
  | [], hl => exact (h []).symm ▸ hl
  | [t], hl => exact hl.1
  | t :: u :: r, hl => exact (h (t :: u :: r)).symm ▸ hl
theorem rowOf_free {l : List Re} (hl : frees l) : (rowOf l).free := by
  unfold rowOf
  split
  · trivial
  · exact many_free (mk := .seq) (fun _ => rfl) hl
theorem parse_free : ∀ n : Nat,
    (∀ {s s1 : List Nat} {ts : List Re} {d : Nat}, altsR n s = some (ts, s1, d) → (∀ x ∈ s1, x ∈ s) ∧ (94 ∉ s → 36 ∉ s → frees ts)) ∧
    (∀ {s s1 : List Nat} {ts : List Re} {d : Nat}, rowsR n s = some (ts, s1, d) → (∀ x ∈ s1, x ∈ s) ∧ (94 ∉ s → 36 ∉ s → frees ts)) ∧
    (∀ {s s1 : List Nat} {t : Re} {d : Nat}, itemR n s = some (t, s1, d) → (∀ x ∈ s1, x ∈ s) ∧ (94 ∉ s → 36 ∉ s → t.free)) ∧
    (∀ {s s1 : List Nat} {t : Re} {d : Nat}, atomR n s = some (t, s1, d) → (∀ x ∈ s1, x ∈ s) ∧ (94 ∉ s → 36 ∉ s → t.free))
  | 0 => ⟨fun h => (by cases h), fun h => (by cases h), fun h => (by cases h), fun h => (by cases h)⟩
  | n + 1 => by
    obtain ⟨ia, ir, ii, it⟩ := parse_free n
    refine ⟨?_, ?_, ?_, ?_⟩
    · intro s s1 ts d h
      rw [altsR] at h
      split at h
      · cases h
      · rename_i us s2 e hr
        obtain ⟨h1, h2⟩ := ir hr
        split at h
        · split at h
          · cases h
          · rename_i vs s3 e2 ha
            obtain ⟨h3, h4⟩ := ia ha
            cases h
            exact ⟨fun x hx => h1 x (tail_mem (h3 x hx)), fun p q => ⟨rowOf_free (h2 p q), h4 (fun h => p (h1 _ (tail_mem h))) (fun h => q (h1 _ (tail_mem h)))⟩⟩
        · cases h
          exact ⟨h1, fun p q => ⟨rowOf_free (h2 p q), trivial⟩⟩
    · intro s s1 ts d h
      rw [rowsR] at h
      split at h
      · cases h
        exact ⟨fun _ h => h, fun _ _ => trivial⟩
      · split at h
        · cases h
        · rename_i t s2 e hi
          obtain ⟨h1, h2⟩ := ii hi
          split at h
          · cases h
          · rename_i vs s3 e2 hr
            obtain ⟨h3, h4⟩ := ir hr
            cases h
            exact ⟨fun x hx => h1 x (h3 x hx), fun p q => ⟨h2 p q, h4 (fun h => p (h1 _ h)) (fun h => q (h1 _ h))⟩⟩
    · intro s s1 t d h
      rw [itemR] at h
      split at h
      · cases h
      · rename_i v s2 e ha
        obtain ⟨h1, h2⟩ := it ha
        obtain ⟨p, hp, e⟩ := Option.map_eq_some_iff.1 h
        obtain ⟨h3, h4⟩ := quantR_mem (u := p.1) (s1 := p.2) hp
        cases e
        exact ⟨fun x hx => h1 x (h3 x hx), fun a b => h4 (h2 a b)⟩
    · intro s s1 t d h
      cases s with
      | nil => cases h
      | cons r s =>
        rw [atomR] at h
        split at h
        · split at h
          · cases h
          · rename_i us s2 e ha
            obtain ⟨h1, h2⟩ := ia ha
            split at h
            · cases h
              exact ⟨fun x hx => List.mem_cons_of_mem _ (h1 x (tail_mem hx)), fun p q => many_free (mk := .alt) (fun _ => rfl) (h2 (fun h => p (List.mem_cons_of_mem _ h)) (fun h => q (List.mem_cons_of_mem _ h)))⟩
            · cases h
        split at h
        · obtain ⟨p, hp, e⟩ := Option.map_eq_some_iff.1 h
          have h1 := classR_mem (m := p.1) (s1 := p.2) hp
          cases e
          exact ⟨fun x hx => List.mem_cons_of_mem _ (h1 x hx), fun _ _ => trivial⟩
        split at h
        · cases h; exact ⟨fun x hx => List.mem_cons_of_mem _ hx, fun _ _ => trivial⟩
        split at h
        · rename_i hc
          cases h
          exact ⟨fun x hx => List.mem_cons_of_mem _ hx, fun p _ => (p (by rw [hc]; exact List.mem_cons_self)).elim⟩
        split at h
        · rename_i hc
          cases h
          exact ⟨fun x hx => List.mem_cons_of_mem _ hx, fun _ p => (p (by rw [hc]; exact List.mem_cons_self)).elim⟩
        split at h
        · obtain ⟨p, hp, e⟩ := Option.map_eq_some_iff.1 h
          have h1 := escR_mem (m := p.1) (s1 := p.2) hp
          cases e
          exact ⟨fun x hx => List.mem_cons_of_mem _ (h1 x hx), fun _ _ => trivial⟩
        split at h
        · cases h
        · cases h; exact ⟨fun x hx => List.mem_cons_of_mem _ hx, fun _ _ => trivial⟩
theorem ReadsTo.free {s : List Nat} {t : Re} (h : ReadsTo s t) (h1 : 94 ∉ s) (h2 : 36 ∉ s) : t.free := by
  obtain ⟨ts, d, h3, rfl⟩ := h
  exact many_free (mk := .alt) (fun _ => rfl) (((parse_free _).1 h3).2 h1 h2)

end Garner

/-! Patterns, plain: classes of two letters -/
namespace Garner
open Go

section
variable {p q : Nat}
variable {s : List Nat}
end
end Garner

/-! garnerref18.Clean, plain: the runes at which something may change, in order -/
namespace Garner
open Go
end Garner

