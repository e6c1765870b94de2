import Derived.Test.YtecejnilajbdpaaGreatDoorTq01
import Derived.Lib.ValidLaws
/-! Layer 18, plain: patterns read from runes, as trees; trees as rows of nodes. No program in sight. -/
namespace Garner
open Go

/-- a text's runes -/
def runesGo : Nat → Bs → List Nat
  | 0, _ => []
  | n + 1, l => if l = [] then [] else (Lib.decodeL l).1 :: runesGo n (l.drop (Lib.decodeL l).2)
def runesP (l : Bs) : List Nat := runesGo l.length l

/-- a pattern's tree -/
inductive Re
  | emp
  | set (l : List Nat)
  | seq (l : List Re)
  | alt (l : List Re)
  | rep (k : Re) (mn : Nat) (mx : Option Nat)
  | bgn
  | fin

def specR : List Nat := [92, 40, 41, 91, 93, 123, 125, 42, 43, 63, 124, 46, 94, 36]
/-- what stands behind a backslash: pairs, and the rest -/
def escR : List Nat → Option (List Nat × List Nat)
  | [] => none
  | r :: s =>
    if r = 110 then some ([10, 10], s)
    else if r = 116 then some ([9, 9], s)
    else if r = 100 then some ([48, 57], s)
    else if r = 119 then some ([48, 57, 65, 90, 95, 95, 97, 122], s)
    else if r = 115 then some ([9, 10, 13, 13, 32, 32], s)
    else if r ∈ specR ∨ r = 45 then some ([r, r], s) else none
def memR : List Nat → Option (List Nat × List Nat)
  | [] => none
  | r :: s => if r = 92 then escR s else if r = 91 ∨ r = 93 ∨ r = 94 ∨ r = 45 then none else some ([r, r], s)
def rngR : List Nat → List Nat → Option (List Nat)
  | [a, b], [c, d] => if a = b ∧ c = d ∧ a ≤ c then some [a, c] else none
  | _, _ => none
/-- a class's members up to its bracket -/
def clsR : Nat → Bool → List Nat → List Nat → Option (List Nat × List Nat)
  | 0, _, _, _ => none
  | n + 1, some_, s, acc =>
    if some_ = true ∧ s.head? = some 93 then some (acc, s.tail) else
    match memR s with
    | none => none
    | some (m, s1) =>
      if s1.head? = some 45 then
        match memR s1.tail with
        | none => none
        | some (t, s2) =>
          match rngR m t with
          | none => none
          | some q => clsR n true s2 (acc ++ q)
      else clsR n true s1 (acc ++ m)
def pairsR : List Nat → List (Nat × Nat)
  | a :: b :: r => (a, b) :: pairsR r
  | _ => []
def insR (x : Nat × Nat) : List (Nat × Nat) → List (Nat × Nat)
  | [] => [x]
  | y :: r => if x.1 ≤ y.1 then x :: y :: r else y :: insR x r
def sortR : List (Nat × Nat) → List (Nat × Nat)
  | [] => []
  | x :: r => insR x (sortR r)
def flatR (l : List (Nat × Nat)) : List Nat := l.flatMap fun p => [p.1, p.2]
/-- one pair more, behind those in order -/
def stepI (out : List (Nat × Nat)) (x : Nat × Nat) : List (Nat × Nat) :=
  match out.getLast? with
  | some p => if x.1 ≤ p.2 + 1 then out.dropLast ++ [(p.1, max p.2 x.2)] else out ++ [x]
  | none => [x]
def mergeI (l : List (Nat × Nat)) : List (Nat × Nat) := l.foldl stepI []
def mergedR (set : List Nat) : List Nat := flatR (mergeI (sortR (pairsR set)))
def othersGo : Nat → List (Nat × Nat) → List (Nat × Nat)
  | from_, [] => if from_ ≤ 1114111 then [(from_, 1114111)] else []
  | from_, (a, b) :: r => (if from_ < a then [(from_, a - 1)] else []) ++ othersGo (b + 1) r
def othersR (set : List Nat) : List Nat := flatR (othersGo 0 (pairsR set))
/-- a class behind its bracket -/
def classR (s : List Nat) : Option (List Nat × List Nat) :=
  if s.head? = some 94 then (clsR (s.length + 1) false s.tail []).map fun p => (othersR (mergedR p.1), p.2)
  else (clsR (s.length + 1) false s []).map fun p => (mergedR p.1, p.2)
def digR : List Nat → Option (Nat × List Nat)
  | [] => none
  | r :: s => if 48 ≤ r ∧ r ≤ 56 then some (r - 48, s) else none
/-- what stands behind an atom -/
def quantR (t : Re) : List Nat → Option (Re × List Nat)
  | [] => some (t, [])
  | r :: s =>
    if r = 42 then some (.rep t 0 none, s)
    else if r = 43 then some (.rep t 1 none, s)
    else if r = 63 then some (.rep t 0 (some 1), s)
    else if r = 123 then
      match digR s with
      | none => none
      | some (lo, s1) =>
        if s1.head? = some 44 then
          match digR s1.tail with
          | none => none
          | some (hi, s2) => if lo ≤ hi ∧ s2.head? = some 125 then some (.rep t lo (some hi), s2.tail) else none
        else if s1.head? = some 125 then some (.rep t lo (some lo), s1.tail) else none
    else some (t, r :: s)
def manyR (mk : List Re → Re) : List Re → Re
  | [t] => t
  | ts => mk ts
def rowOf (ts : List Re) : Re := if ts.length = 0 then .emp else manyR .seq ts
mutual
/-- rows between bars: trees, the rest, how deep -/
def altsR : Nat → List Nat → Option (List Re × List Nat × Nat)
  | 0, _ => none
  | n + 1, s =>
    match rowsR n s with
    | none => none
    | some (ts, s1, d) =>
      if s1.head? = some 124 then
        match altsR n s1.tail with
        | none => none
        | some (us, s2, e) => some (rowOf ts :: us, s2, max d e)
      else some ([rowOf ts], s1, d)
def rowsR : Nat → List Nat → Option (List Re × List Nat × Nat)
  | 0, _ => none
  | n + 1, s =>
    if s = [] ∨ s.head? = some 124 ∨ s.head? = some 41 then some ([], s, 0) else
    match itemR n s with
    | none => none
    | some (t, s1, d) =>
      match rowsR n s1 with
      | none => none
      | some (ts, s2, e) => some (t :: ts, s2, max d e)
def itemR : Nat → List Nat → Option (Re × List Nat × Nat)
  | 0, _ => none
  | n + 1, s =>
    match atomR n s with
    | none => none
    | some (t, s1, d) => (quantR t s1).map fun p => (p.1, p.2, d)
def atomR : Nat → List Nat → Option (Re × List Nat × Nat)
  | 0, _ => none
  | _ + 1, [] => none
  | n + 1, r :: s =>
    if r = 40 then
      match altsR n s with
      | none => none
      | some (ts, s1, d) => if s1.head? = some 41 then some (manyR .alt ts, s1.tail, d + 1) else none
    else if r = 91 then (classR s).map fun p => (.set p.1, p.2, 0)
    else if r = 46 then some (.set [0, 9, 11, 1114111], s, 0)
    else if r = 94 then some (.bgn, s, 0)
    else if r = 36 then some (.fin, s, 0)
    else if r = 92 then (escR s).map fun p => (.set p.1, p.2, 0)
    else if r ∈ specR then none else some (.set [r, r], s, 0)
end

/-- a node -/
structure NodeP where
  kind : Nat
  kids : List Nat
  mn : Nat
  mx : Int
  set : List Nat
mutual
/-- how many nodes -/
def Re.cnt : Re → Nat
  | .emp => 1
  | .set _ => 1
  | .seq l => cnts l + 1
  | .alt l => cnts l + 1
  | .rep k _ _ => k.cnt + 1
  | .bgn => 1
  | .fin => 1
def cnts : List Re → Nat
  | [] => 0
  | t :: ts => t.cnt + cnts ts
end
/-- the roots' numbers, of trees laid from b on -/
def roots (b : Nat) : List Re → List Nat
  | [] => []
  | t :: ts => (b + t.cnt - 1) :: roots (b + t.cnt) ts
mutual
/-- a tree's nodes, laid from number b on; its root is the last -/
def Re.flat (b : Nat) : Re → List NodeP
  | .emp => [⟨1, [], 0, 0, []⟩]
  | .set l => [⟨2, [], 0, 0, l⟩]
  | .seq l => flats b l ++ [⟨3, roots b l, 0, 0, []⟩]
  | .alt l => flats b l ++ [⟨4, roots b l, 0, 0, []⟩]
  | .rep k mn mx => k.flat b ++ [⟨5, [b + k.cnt - 1], mn, match mx with | none => -1 | some m => m, []⟩]
  | .bgn => [⟨6, [], 0, 0, []⟩]
  | .fin => [⟨7, [], 0, 0, []⟩]
def flats (b : Nat) : List Re → List NodeP
  | [] => []
  | t :: ts => t.flat b ++ flats (b + t.cnt) ts
end
/-- how often a kid counts -/
def timesR (mn : Nat) : Option Nat → Nat
  | none => mn + 1
  | some m => max m 1
mutual
def Re.size : Re → Nat
  | .emp => 1
  | .set _ => 1
  | .seq l => sizes l + 1
  | .alt l => sizes l + 1
  | .rep k mn mx => timesR mn mx * k.size + 1
  | .bgn => 1
  | .fin => 1
def sizes : List Re → Nat
  | [] => 0
  | t :: ts => t.size + sizes ts
end
/-- a pattern read from its runes -/
def readR (s : List Nat) : Except Nat Re :=
  match altsR (4 * s.length + 4) s with
  | none => .error 40
  | some (ts, rest, d) =>
    if rest ≠ [] then .error 40
    else if 16 < d then .error 9
    else if 1000 < (manyR .alt ts).size then .error 3
    else .ok (manyR .alt ts)
/-- rexp.Parse -/
def rexpP (b : Bs) : Except Nat Re :=
  if 128 < b.length then .error 4 else if Lib.validD b = false then .error 8 else readR (runesP b)
end Garner

/-! Patterns, plain: lengths, fuel, what stands behind -/
namespace Garner
open Go

theorem escR_len {s m s1 : List Nat} (h : escR s = some (m, s1)) : s1.length + 1 = s.length := by
  cases s with
  | nil => cases h
  | cons r s =>
    rw [escR] at h
    repeat' split at h
    all_goals first | (cases h; rfl) | (cases h)
theorem memR_len {s m s1 : List Nat} (h : memR s = some (m, s1)) : s1.length < s.length := by
  cases s with
  | nil => cases h
  | cons r s =>
    rw [memR] at h
    split at h
    · have := escR_len h; simp; omega
    · split at h
      · cases h
      · cases h; simp
theorem tail_le (s : List Nat) : s.tail.length ≤ s.length := by cases s <;> simp
theorem tail_lt {s : List Nat} {c : Nat} (h : s.head? = some c) : s.tail.length + 1 = s.length := by
  cases s with
  | nil => cases h
  | cons r s => simp
theorem clsR_len : ∀ {n : Nat} {f : Bool} {s acc m s1 : List Nat}, clsR n f s acc = some (m, s1) → s1.length < s.length
  | 0, _, _, _, _, _, h => by cases h
  | n + 1, f, s, acc, m, s1, h => by
    rw [clsR] at h
    split at h
    · rename_i hc
      injection h with h; injection h with h1 h2
      have := tail_lt hc.2
      rw [← h2]; omega
    · split at h
      · cases h
      · rename_i m1 s2 hm
        have h1 := memR_len hm
        split at h
        · split at h
          · cases h
          · rename_i t s3 ht
            have h2 := memR_len ht
            have h3 := tail_le s2
            split at h
            · cases h
            · have := clsR_len h; omega
        · have := clsR_len h; omega
theorem classR_len {s m s1 : List Nat} (h : classR s = some (m, s1)) : s1.length < s.length := by
  unfold classR at h
  have h0 := tail_le s
  split at h
  · obtain ⟨p, hp, e⟩ := Option.map_eq_some_iff.1 h
    injection e with e1 e2
    have := clsR_len (m := p.1) (s1 := p.2) hp
    rw [← e2]; omega
  · obtain ⟨p, hp, e⟩ := Option.map_eq_some_iff.1 h
    injection e with e1 e2
    have := clsR_len (m := p.1) (s1 := p.2) hp
    rw [← e2]; omega
theorem digR_len {s s1 : List Nat} {d : Nat} (h : digR s = some (d, s1)) : s1.length + 1 = s.length ∧ d ≤ 8 := by
  cases s with
  | nil => cases h
  | cons r s =>
    rw [digR] at h
    split at h
    · cases h; exact ⟨rfl, by omega⟩
    · cases h
theorem quantR_len {t u : Re} {s s1 : List Nat} (h : quantR t s = some (u, s1)) : s1.length ≤ s.length := by
  cases s with
  | nil => cases h; exact Nat.le_refl _
  | cons r s =>
    rw [quantR] at h
    repeat' split at h
    all_goals first
      | (cases h; done)
      | (cases h; simp; done)
      | skip
    · rename_i lo s2 h1 _ _ hi s3 h2 _
      injection h with h; injection h with h3 h4
      have := (digR_len h1).1
      have := (digR_len h2).1
      have := tail_le s2
      have := tail_le s3
      rw [← h4]; simp; omega
    · rename_i lo s2 h1 _ _
      injection h with h; injection h with h3 h4
      have := (digR_len h1).1
      have := tail_le s2
      rw [← h4]; simp; omega
theorem parse_len : ∀ n : Nat,
    (∀ {s s1 : List Nat} {ts : List Re} {d : Nat}, altsR n s = some (ts, s1, d) → s1.length ≤ s.length) ∧
    (∀ {s s1 : List Nat} {ts : List Re} {d : Nat}, rowsR n s = some (ts, s1, d) → s1.length ≤ s.length) ∧
    (∀ {s s1 : List Nat} {t : Re} {d : Nat}, itemR n s = some (t, s1, d) → s1.length < s.length) ∧
    (∀ {s s1 : List Nat} {t : Re} {d : Nat}, atomR n s = some (t, s1, d) → s1.length < s.length)
  | 0 => ⟨fun h => (by cases h), fun h => (by cases h), fun h => (by cases h), fun h => (by cases h)⟩
  | n + 1 => by
    obtain ⟨ia, ir, ii, it⟩ := parse_len n
    refine ⟨?_, ?_, ?_, ?_⟩
    · intro s s1 ts d h
      rw [altsR] at h
      split at h
      · cases h
      · rename_i us s2 e hr
        have h1 := ir hr
        split at h
        · split at h
          · cases h
          · rename_i vs s3 e2 ha
            injection h with h; injection h with h2 h3; injection h3 with h3 h4
            have := ia ha
            have := tail_le s2
            rw [← h3]; omega
        · injection h with h; injection h with h2 h3; injection h3 with h3 h4
          rw [← h3]; exact h1
    · intro s s1 ts d h
      rw [rowsR] at h
      split at h
      · injection h with h; injection h with h2 h3; injection h3 with h3 h4
        rw [← h3]; exact Nat.le_refl _
      · split at h
        · cases h
        · rename_i t s2 e hi
          have h1 := ii hi
          split at h
          · cases h
          · rename_i vs s3 e2 hr
            injection h with h; injection h with h2 h3; injection h3 with h3 h4
            have := ir hr
            rw [← h3]; omega
    · intro s s1 t d h
      rw [itemR] at h
      split at h
      · cases h
      · rename_i u s2 e ha
        have h1 := it ha
        obtain ⟨p, hp, e⟩ := Option.map_eq_some_iff.1 h
        injection e with e1 e2; injection e2 with e2 e3
        have := quantR_len (u := p.1) (s1 := p.2) hp
        rw [← e2]; omega
    · intro s s1 t d h
      cases s with
      | nil => cases h
      | cons r s =>
        rw [atomR] at h
        split at h
        · split at h
          · cases h
          · rename_i us s2 e ha
            have h1 := ia ha
            split at h
            · injection h with h; injection h with h2 h3; injection h3 with h3 h4
              have := tail_le s2
              rw [← h3]; simp; omega
            · cases h
        · split at h
          · obtain ⟨p, hp, e⟩ := Option.map_eq_some_iff.1 h
            injection e with e1 e2; injection e2 with e2 e3
            have := classR_len (m := p.1) (s1 := p.2) hp
            rw [← e2]; simp; omega
          · repeat' split at h
            all_goals first
              | (cases h; done)
              | (cases h; simp; done)
              | (obtain ⟨p, hp, e⟩ := Option.map_eq_some_iff.1 h
                 injection e with e1 e2; injection e2 with e2 e3
                 have := escR_len (m := p.1) (s1 := p.2) hp
                 rw [← e2]; simp; omega)
/-- more fuel than it takes -/
theorem parse_fuel : ∀ n : Nat,
    (∀ s : List Nat, 4 * s.length + 4 ≤ n → altsR (n + 1) s = altsR n s) ∧
    (∀ s : List Nat, 4 * s.length + 3 ≤ n → rowsR (n + 1) s = rowsR n s) ∧
    (∀ s : List Nat, 4 * s.length + 2 ≤ n → itemR (n + 1) s = itemR n s) ∧
    (∀ s : List Nat, 4 * s.length + 1 ≤ n → atomR (n + 1) s = atomR n s)
  | 0 => ⟨fun s h => by omega, fun s h => by omega, fun s h => by omega, fun s h => by omega⟩
  | n + 1 => by
    obtain ⟨ia, ir, ii, it⟩ := parse_fuel n
    refine ⟨fun s h => ?_, fun s h => ?_, fun s h => ?_, fun s h => ?_⟩
    · rw [altsR, altsR, ir s (by omega)]
      split
      · rfl
      · rename_i us s2 e hr
        have h1 := (parse_len n).2.1 hr
        split
        · rename_i hc
          have := tail_lt hc
          rw [ia s2.tail (by omega)]
        · rfl
    · rw [rowsR, rowsR, ii s (by omega)]
      split
      · rfl
      · split
        · rfl
        · rename_i t s2 e hi
          have h1 := (parse_len n).2.2.1 hi
          rw [ir s2 (by omega)]
    · rw [itemR, itemR, it s (by omega)]
    · cases s with
      | nil => rfl
      | cons r s =>
        simp only [List.length_cons] at h
        rw [atomR, atomR, ia s (by omega)]
theorem alts_fuel {s : List Nat} : ∀ {n m : Nat}, 4 * s.length + 4 ≤ n → n ≤ m → altsR m s = altsR n s := by
  intro n m hn hm
  obtain ⟨k, rfl⟩ : ∃ k, m = n + k := ⟨m - n, by omega⟩
  clear hm
  induction k with
  | zero => rfl
  | succ k ih => rw [← Nat.add_assoc, (parse_fuel (n + k)).1 s (by omega), ih]
end Garner

