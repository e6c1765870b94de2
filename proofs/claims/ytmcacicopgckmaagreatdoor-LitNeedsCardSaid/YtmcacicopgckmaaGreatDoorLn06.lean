import Derived.Test.YtmcacicopgckmaaGreatDoorLn01
import Derived.Lib.ValidLaws
/-! Layer 18, plain: patterns read from runes, as trees; trees as rows of nodes. No program in sight. -/
namespace Garner
open Go

/-- a text's runes -/
def runesGo : Nat → Bs → List Nat
  | 0, _ => []
  | n + 1, l => if l = [] then [] else (Lib.decodeL l).1 :: runesGo n (l.drop (Lib.decodeL l).2)
def runesP (l : Bs) : List Nat := runesGo l.length l

/-- a pattern's tree -/
inductive Re
  | emp
  | set (l : List Nat)
  | seq (l : List Re)
  | alt (l : List Re)
  | rep (k : Re) (mn : Nat) (mx : Option Nat)
  | bgn
  | fin

def specR : List Nat := [92, 40, 41, 91, 93, 123, 125, 42, 43, 63, 124, 46, 94, 36]
/-- what stands behind a backslash: pairs, and the rest -/
def escR : List Nat → Option (List Nat × List Nat)
  | [] => none
  | r :: s =>
    if r = 110 then some ([10, 10], s)
    else if r = 116 then some ([9, 9], s)
    else if r = 100 then some ([48, 57], s)
    else if r = 119 then some ([48, 57, 65, 90, 95, 95, 97, 122], s)
    else if r = 115 then some ([9, 10, 13, 13, 32, 32], s)
    else if r ∈ specR ∨ r = 45 then some ([r, r], s) else none
def memR : List Nat → Option (List Nat × List Nat)
  | [] => none
  | r :: s => if r = 92 then escR s else if r = 91 ∨ r = 93 ∨ r = 94 ∨ r = 45 then none else some ([r, r], s)
def rngR : List Nat → List Nat → Option (List Nat)
  | [a, b], [c, d] => if a = b ∧ c = d ∧ a ≤ c then some [a, c] else none
  | _, _ => none
/-- a class's members up to its bracket -/
def clsR : Nat → Bool → List Nat → List Nat → Option (List Nat × List Nat)
  | 0, _, _, _ => none
  | n + 1, some_, s, acc =>
    if some_ = true ∧ s.head? = some 93 then some (acc, s.tail) else
    match memR s with
    | none => none
    | some (m, s1) =>
      if s1.head? = some 45 then
        match memR s1.tail with
        | none => none
        | some (t, s2) =>
          match rngR m t with
          | none => none
          | some q => clsR n true s2 (acc ++ q)
      else clsR n true s1 (acc ++ m)
def pairsR : List Nat → List (Nat × Nat)
  | a :: b :: r => (a, b) :: pairsR r
  | _ => []
def insR (x : Nat × Nat) : List (Nat × Nat) → List (Nat × Nat)
  | [] => [x]
  | y :: r => if x.1 ≤ y.1 then x :: y :: r else y :: insR x r
def sortR : List (Nat × Nat) → List (Nat × Nat)
  | [] => []
  | x :: r => insR x (sortR r)
def flatR (l : List (Nat × Nat)) : List Nat := l.flatMap fun p => [p.1, p.2]
/-- one pair more, behind those in order -/
def stepI (out : List (Nat × Nat)) (x : Nat × Nat) : List (Nat × Nat) :=
  match out.getLast? with
  | some p => if x.1 ≤ p.2 + 1 then out.dropLast ++ [(p.1, max p.2 x.2)] else out ++ [x]
  | none => [x]
def mergeI (l : List (Nat × Nat)) : List (Nat × Nat) := l.foldl stepI []
def mergedR (set : List Nat) : List Nat := flatR (mergeI (sortR (pairsR set)))
def othersGo : Nat → List (Nat × Nat) → List (Nat × Nat)
  | from_, [] => if from_ ≤ 1114111 then [(from_, 1114111)] else []
  | from_, (a, b) :: r => (if from_ < a then [(from_, a - 1)] else []) ++ othersGo (b + 1) r
def othersR (set : List Nat) : List Nat := flatR (othersGo 0 (pairsR set))
/-- a class behind its bracket -/
def classR (s : List Nat) : Option (List Nat × List Nat) :=
  if s.head? = some 94 then (clsR (s.length + 1) false s.tail []).map fun p => (othersR (mergedR p.1), p.2)
  else (clsR (s.length + 1) false s []).map fun p => (mergedR p.1, p.2)
def digR : List Nat → Option (Nat × List Nat)
  | [] => none
  | r :: s => if 48 ≤ r ∧ r ≤ 56 then some (r - 48, s) else none
/-- what stands behind an atom -/
def quantR (t : Re) : List Nat → Option (Re × List Nat)
  | [] => some (t, [])
  | r :: s =>
    if r = 42 then some (.rep t 0 none, s)
    else if r = 43 then some (.rep t 1 none, s)
    else if r = 63 then some (.rep t 0 (some 1), s)
    else if r = 123 then
      match digR s with
      | none => none
      | some (lo, s1) =>
        if s1.head? = some 44 then
          match digR s1.tail with
          | none => none
          | some (hi, s2) => if lo ≤ hi ∧ s2.head? = some 125 then some (.rep t lo (some hi), s2.tail) else none
        else if s1.head? = some 125 then some (.rep t lo (some lo), s1.tail) else none
    else some (t, r :: s)
def manyR (mk : List Re → Re) : List Re → Re
  | [t] => t
  | ts => mk ts
def rowOf (ts : List Re) : Re := if ts.length = 0 then .emp else manyR .seq ts
mutual
/-- rows between bars: trees, the rest, how deep -/
def altsR : Nat → List Nat → Option (List Re × List Nat × Nat)
  | 0, _ => none
  | n + 1, s =>
    match rowsR n s with
    | none => none
    | some (ts, s1, d) =>
      if s1.head? = some 124 then
        match altsR n s1.tail with
        | none => none
        | some (us, s2, e) => some (rowOf ts :: us, s2, max d e)
      else some ([rowOf ts], s1, d)
def rowsR : Nat → List Nat → Option (List Re × List Nat × Nat)
  | 0, _ => none
  | n + 1, s =>
    if s = [] ∨ s.head? = some 124 ∨ s.head? = some 41 then some ([], s, 0) else
    match itemR n s with
    | none => none
    | some (t, s1, d) =>
      match rowsR n s1 with
      | none => none
      | some (ts, s2, e) => some (t :: ts, s2, max d e)
def itemR : Nat → List Nat → Option (Re × List Nat × Nat)
  | 0, _ => none
  | n + 1, s =>
    match atomR n s with
    | none => none
    | some (t, s1, d) => (quantR t s1).map fun p => (p.1, p.2, d)
def atomR : Nat → List Nat → Option (Re × List Nat × Nat)
  | 0, _ => none
  | _ + 1, [] => none
  | n + 1, r :: s =>
    if r = 40 then
      match altsR n s with
      | none => none
      | some (ts, s1, d) => if s1.head? = some 41 then some (manyR .alt ts, s1.tail, d + 1) else none
    else if r = 91 then (classR s).map fun p => (.set p.1, p.2, 0)
    else if r = 46 then some (.set [0, 9, 11, 1114111], s, 0)
    else if r = 94 then some (.bgn, s, 0)
    else if r = 36 then some (.fin, s, 0)
    else if r = 92 then (escR s).map fun p => (.set p.1, p.2, 0)
    else if r ∈ specR then none else some (.set [r, r], s, 0)
end

/-- a node -/
structure NodeP where
  kind : Nat
  kids : List Nat
  mn : Nat
  mx : Int
  set : List Nat
mutual
/-- how many nodes -/
def Re.cnt : Re → Nat
  | .emp => 1
  | .set _ => 1
  | .seq l => cnts l + 1
  | .alt l => cnts l + 1
  | .rep k _ _ => k.cnt + 1
  | .bgn => 1
  | .fin => 1
def cnts : List Re → Nat
  | [] => 0
  | t :: ts => t.cnt + cnts ts
end
/-- the roots' numbers, of trees laid from b on -/
def roots (b : Nat) : List Re → List Nat
  | [] => []
  | t :: ts => (b + t.cnt - 1) :: roots (b + t.cnt) ts
mutual
/-- a tree's nodes, laid from number b on; its root is the last -/
def Re.flat (b : Nat) : Re → List NodeP
  | .emp => [⟨1, [], 0, 0, []⟩]
  | .set l => [⟨2, [], 0, 0, l⟩]
  | .seq l => flats b l ++ [⟨3, roots b l, 0, 0, []⟩]
  | .alt l => flats b l ++ [⟨4, roots b l, 0, 0, []⟩]
  | .rep k mn mx => k.flat b ++ [⟨5, [b + k.cnt - 1], mn, match mx with | none => -1 | some m => m, []⟩]
  | .bgn => [⟨6, [], 0, 0, []⟩]
  | .fin => [⟨7, [], 0, 0, []⟩]
def flats (b : Nat) : List Re → List NodeP
  | [] => []
  | t :: ts => t.flat b ++ flats (b + t.cnt) ts
end
/-- how often a kid counts -/
def timesR (mn : Nat) : Option Nat → Nat
  | none => mn + 1
  | some m => max m 1
mutual
def Re.size : Re → Nat
  | .emp => 1
  | .set _ => 1
  | .seq l => sizes l + 1
  | .alt l => sizes l + 1
  | .rep k mn mx => timesR mn mx * k.size + 1
  | .bgn => 1
  | .fin => 1
def sizes : List Re → Nat
  | [] => 0
  | t :: ts => t.size + sizes ts
end
/-- a pattern read from its runes -/
def readR (s : List Nat) : Except Nat Re :=
  match altsR (4 * s.length + 4) s with
  | none => .error 40
  | some (ts, rest, d) =>
    if rest ≠ [] then .error 40
    else if 16 < d then .error 9
    else if 1000 < (manyR .alt ts).size then .error 3
    else .ok (manyR .alt ts)
/-- rexp.Parse -/
def rexpP (b : Bs) : Except Nat Re :=
  if 128 < b.length then .error 4 else if Lib.validD b = false then .error 8 else readR (runesP b)
end Garner

/-! Patterns, plain: lengths, fuel, what stands behind -/
namespace Garner
open Go

theorem escR_len {s m s1 : List Nat} (h : escR s = some (m, s1)) : s1.length + 1 = s.length := by
  cases s with
  | nil => cases h
  | cons r s =>
    rw [escR] at h
    repeat' split at h
    all_goals first | (cases h; rfl) | (cases h)
theorem memR_len {s m s1 : List Nat} (h : memR s = some (m, s1)) : s1.length < s.length := by
  cases s with
  | nil => cases h
  | cons r s =>
    rw [memR] at h
    split at h
    · have := escR_len h; simp; omega
    · split at h
      · cases h
      · cases h; simp
theorem tail_le (s : List Nat) : s.tail.length ≤ s.length := by cases s <;> simp
theorem tail_lt {s : List Nat} {c : Nat} (h : s.head? = some c) : s.tail.length + 1 = s.length := by
  cases s with
  | nil => cases h
  | cons r s => simp
theorem clsR_len : ∀ {n : Nat} {f : Bool} {s acc m s1 : List Nat}, clsR n f s acc = some (m, s1) → s1.length < s.length
  | 0, _, _, _, _, _, h => by cases h
  | n + 1, f, s, acc, m, s1, h => by
    rw [clsR] at h
    split at h
    · rename_i hc
      injection h with h; injection h with h1 h2
      have := tail_lt hc.2
      rw [← h2]; omega
    · split at h
      · cases h
      · rename_i m1 s2 hm
        have h1 := memR_len hm
        split at h
        · split at h
          · cases h
          · rename_i t s3 ht
            have h2 := memR_len ht
            have h3 := tail_le s2
            split at h
            · cases h
            · have := clsR_len h; omega
        · have := clsR_len h; omega
theorem classR_len {s m s1 : List Nat} (h : classR s = some (m, s1)) : s1.length < s.length := by
  unfold classR at h
  have h0 := tail_le s
  split at h
  · obtain ⟨p, hp, e⟩ := Option.map_eq_some_iff.1 h
    injection e with e1 e2
    have := clsR_len (m := p.1) (s1 := p.2) hp
    rw [← e2]; omega
  · obtain ⟨p, hp, e⟩ := Option.map_eq_some_iff.1 h
    injection e with e1 e2
    have := clsR_len (m := p.1) (s1 := p.2) hp
    rw [← e2]; omega
theorem digR_len {s s1 : List Nat} {d : Nat} (h : digR s = some (d, s1)) : s1.length + 1 = s.length ∧ d ≤ 8 := by
  cases s with
  | nil => cases h
  | cons r s =>
    rw [digR] at h
    split at h
    · cases h; exact ⟨rfl, by omega⟩
    · cases h
theorem quantR_len {t u : Re} {s s1 : List Nat} (h : quantR t s = some (u, s1)) : s1.length ≤ s.length := by
  cases s with
  | nil => cases h; exact Nat.le_refl _
  | cons r s =>
    rw [quantR] at h
    repeat' split at h
    all_goals first
      | (cases h; done)
      | (cases h; simp; done)
      | skip
    · rename_i lo s2 h1 _ _ hi s3 h2 _
      injection h with h; injection h with h3 h4
      have := (digR_len h1).1
      have := (digR_len h2).1
      have := tail_le s2
      have := tail_le s3
      rw [← h4]; simp; omega
    · rename_i lo s2 h1 _ _
      injection h with h; injection h with h3 h4
      have := (digR_len h1).1
      have := tail_le s2
      rw [← h4]; simp; omega
theorem parse_len : ∀ n : Nat,
    (∀ {s s1 : List Nat} {ts : List Re} {d : Nat}, altsR n s = some (ts, s1, d) → s1.length ≤ s.length) ∧
    (∀ {s s1 : List Nat} {ts : List Re} {d : Nat}, rowsR n s = some (ts, s1, d) → s1.length ≤ s.length) ∧
    (∀ {s s1 : List Nat} {t : Re} {d : Nat}, itemR n s = some (t, s1, d) → s1.length < s.length) ∧
    (∀ {s s1 : List Nat} {t : Re} {d : Nat}, atomR n s = some (t, s1, d) → s1.length < s.length)
  | 0 => ⟨fun h => (by cases h), fun h => (by cases h), fun h => (by cases h), fun h => (by cases h)⟩
  | n + 1 => by
    obtain ⟨ia, ir, ii, it⟩ := parse_len n
    refine ⟨?_, ?_, ?_, ?_⟩
    · intro s s1 ts d h
      rw [altsR] at h
      split at h
      · cases h
      · rename_i us s2 e hr
        have h1 := ir hr
        split at h
        · split at h
          · cases h
          · rename_i vs s3 e2 ha
            injection h with h; injection h with h2 h3; injection h3 with h3 h4
            have := ia ha
            have := tail_le s2
            rw [← h3]; omega
        · injection h with h; injection h with h2 h3; injection h3 with h3 h4
          rw [← h3]; exact h1
    · intro s s1 ts d h
      rw [rowsR] at h
      split at h
      · injection h with h; injection h with h2 h3; injection h3 with h3 h4
        rw [← h3]; exact Nat.le_refl _
      · split at h
        · cases h
        · rename_i t s2 e hi
          have h1 := ii hi
          split at h
          · cases h
          · rename_i vs s3 e2 hr
            injection h with h; injection h with h2 h3; injection h3 with h3 h4
            have := ir hr
            rw [← h3]; omega
    · intro s s1 t d h
      rw [itemR] at h
      split at h
      · cases h
      · rename_i u s2 e ha
        have h1 := it ha
        obtain ⟨p, hp, e⟩ := Option.map_eq_some_iff.1 h
        injection e with e1 e2; injection e2 with e2 e3
        have := quantR_len (u := p.1) (s1 := p.2) hp
        rw [← e2]; omega
    · intro s s1 t d h
      cases s with
      | nil => cases h
      | cons r s =>
        rw [atomR] at h
        split at h
        · split at h
          · cases h
          · rename_i us s2 e ha
            have h1 := ia ha
            split at h
            · injection h with h; injection h with h2 h3; injection h3 with h3 h4
              have := tail_le s2
              rw [← h3]; simp; omega
            · cases h
        · split at h
          · obtain ⟨p, hp, e⟩ := Option.map_eq_some_iff.1 h
            injection e with e1 e2; injection e2 with e2 e3
            have := classR_len (m := p.1) (s1 := p.2) hp
            rw [← e2]; simp; omega
          · repeat' split at h
            all_goals first
              | (cases h; done)
              | (cases h; simp; done)
              | (obtain ⟨p, hp, e⟩ := Option.map_eq_some_iff.1 h
                 injection e with e1 e2; injection e2 with e2 e3
                 have := escR_len (m := p.1) (s1 := p.2) hp
                 rw [← e2]; simp; omega)
/-- more fuel than it takes -/
theorem parse_fuel : ∀ n : Nat,
    (∀ s : List Nat, 4 * s.length + 4 ≤ n → altsR (n + 1) s = altsR n s) ∧
    (∀ s : List Nat, 4 * s.length + 3 ≤ n → rowsR (n + 1) s = rowsR n s) ∧
    (∀ s : List Nat, 4 * s.length + 2 ≤ n → itemR (n + 1) s = itemR n s) ∧
    (∀ s : List Nat, 4 * s.length + 1 ≤ n → atomR (n + 1) s = atomR n s)
  | 0 => ⟨fun s h => by omega, fun s h => by omega, fun s h => by omega, fun s h => by omega⟩
  | n + 1 => by
    obtain ⟨ia, ir, ii, it⟩ := parse_fuel n
    refine ⟨fun s h => ?_, fun s h => ?_, fun s h => ?_, fun s h => ?_⟩
    · rw [altsR, altsR, ir s (by omega)]
      split
      · rfl
      · rename_i us s2 e hr
        have h1 := (parse_len n).2.1 hr
        split
        · rename_i hc
          have := tail_lt hc
          rw [ia s2.tail (by omega)]
        · rfl
    · rw [rowsR, rowsR, ii s (by omega)]
      split
      · rfl
      · split
        · rfl
        · rename_i t s2 e hi
          have h1 := (parse_len n).2.2.1 hi
          rw [ir s2 (by omega)]
    · rw [itemR, itemR, it s (by omega)]
    · cases s with
      | nil => rfl
      | cons r s =>
        simp only [List.length_cons] at h
        rw [atomR, atomR, ia s (by omega)]
theorem alts_fuel {s : List Nat} : ∀ {n m : Nat}, 4 * s.length + 4 ≤ n → n ≤ m → altsR m s = altsR n s := by
  intro n m hn hm
  obtain ⟨k, rfl⟩ : ∃ k, m = n + k := ⟨m - n, by omega⟩
  clear hm
  induction k with
  | zero => rfl
  | succ k ih => rw [← Nat.add_assoc, (parse_fuel (n + k)).1 s (by omega), ih]
end Garner

/-! Patterns, plain: what they mean; their instructions; these accept what they mean -/
namespace Garner
open Go

def hasR : List Nat → Nat → Bool
  | a :: b :: r, x => (decide (a ≤ x) && decide (x ≤ b)) || hasR r x
  | _, _ => false
def iterR (R : Nat → Nat → Prop) : Nat → Nat → Nat → Prop
  | 0, i, j => i = j
  | n + 1, i, j => ∃ k, R i k ∧ iterR R n k j
mutual
/-- a tree matches from i to j -/
def Re.M (s : List Nat) : Re → Nat → Nat → Prop
  | .emp => fun i j => i = j
  | .set l => fun i j => j = i + 1 ∧ ∃ r, s[i]? = some r ∧ hasR l r = true
  | .seq l => Ms s l
  | .alt l => Ma s l
  | .rep k mn mx => fun i j => ∃ n, mn ≤ n ∧ (∀ m, mx = some m → n ≤ m) ∧ iterR (k.M s) n i j
  | .bgn => fun i j => i = j ∧ i = 0
  | .fin => fun i j => i = j ∧ i = s.length
def Ms (s : List Nat) : List Re → Nat → Nat → Prop
  | [] => fun i j => i = j
  | t :: ts => fun i j => ∃ k, t.M s i k ∧ Ms s ts k j
def Ma (s : List Nat) : List Re → Nat → Nat → Prop
  | [] => fun _ _ => False
  | t :: ts => fun i j => t.M s i j ∨ Ma s ts i j
end

mutual
/-- as patterns are read: alternatives of at least one, repetitions whose greatest number is no less than the least -/
def Re.ok : Re → Prop
  | .emp => True
  | .set _ => True
  | .seq l => oks l
  | .alt l => l ≠ [] ∧ oks l
  | .rep k mn mx => k.ok ∧ ∀ m, mx = some m → mn ≤ m
  | .bgn => True
  | .fin => True
def oks : List Re → Prop
  | [] => True
  | t :: ts => t.ok ∧ oks ts
end
/-- an instruction: 0 a set, 1 a split, 2 the beginning, 3 the end, 4 the match -/
structure InstP where
  kind : Nat
  x : Nat
  y : Nat
  runes : List Nat
mutual
def Re.len : Re → Nat
  | .emp => 0
  | .set _ => 1
  | .seq l => lens l
  | .alt l => altLen l
  | .rep k mn none => mn * k.len + (k.len + 2)
  | .rep k mn (some m) => mn * k.len + (m - mn) * (k.len + 1)
  | .bgn => 1
  | .fin => 1
def lens : List Re → Nat
  | [] => 0
  | t :: ts => t.len + lens ts
def altLen : List Re → Nat
  | [] => 0
  | t :: ts => match ts with
    | [] => t.len
    | _ :: _ => t.len + 2 + altLen ts
end
/-- n pieces laid one behind the other -/
def repC (c : Nat → List InstP) (len : Nat) : Nat → Nat → List InstP
  | 0, _ => []
  | n + 1, p => c p ++ repC c len n (p + len)
/-- n pieces, each behind a split to the end -/
def optC (c : Nat → List InstP) (len e : Nat) : Nat → Nat → List InstP
  | 0, _ => []
  | n + 1, p => ⟨1, p + 1, e, []⟩ :: (c (p + 1) ++ optC c len e n (p + (len + 1)))
mutual
/-- a tree's instructions, laid from p on -/
def Re.code : Re → Nat → List InstP
  | .emp => fun _ => []
  | .set l => fun p => [⟨0, p + 1, 0, l⟩]
  | .seq l => fun p => codes l p
  | .alt l => fun p => altC l p (p + altLen l)
  | .rep k mn none => fun p => repC k.code k.len mn p ++ (⟨1, p + mn * k.len + 1, p + mn * k.len + (k.len + 2), []⟩ :: (k.code (p + mn * k.len + 1) ++ [⟨1, p + mn * k.len, p + mn * k.len, []⟩]))
  | .rep k mn (some m) => fun p => repC k.code k.len mn p ++ optC k.code k.len (p + mn * k.len + (m - mn) * (k.len + 1)) (m - mn) (p + mn * k.len)
  | .bgn => fun p => [⟨2, p + 1, 0, []⟩]
  | .fin => fun p => [⟨3, p + 1, 0, []⟩]
def codes : List Re → Nat → List InstP
  | [] => fun _ => []
  | t :: ts => fun p => t.code p ++ codes ts (p + t.len)
def altC : List Re → Nat → Nat → List InstP
  | [] => fun _ _ => []
  | t :: ts => fun p e => match ts with
    | [] => t.code p
    | _ :: _ => ⟨1, p + 1, p + (t.len + 2), []⟩ :: (t.code (p + 1) ++ (⟨1, e, e, []⟩ :: altC ts (p + (t.len + 2)) e))
end
theorem repC_len {c : Nat → List InstP} {len : Nat} (h : ∀ p, (c p).length = len) : ∀ n p, (repC c len n p).length = n * len
  | 0, _ => by simp [repC]
  | n + 1, p => by rw [repC, List.length_append, h, repC_len h n, Nat.add_mul]; omega
theorem optC_len {c : Nat → List InstP} {len e : Nat} (h : ∀ p, (c p).length = len) : ∀ n p, (optC c len e n p).length = n * (len + 1)
  | 0, _ => by simp [optC]
  | n + 1, p => by rw [optC, List.length_cons, List.length_append, h, optC_len h n, Nat.add_mul]; omega
mutual
theorem code_len : ∀ (t : Re) (p : Nat), (t.code p).length = t.len
  | .emp, _ => rfl
  | .set _, _ => rfl
  | .seq l, p => codes_len l p
  | .alt l, p => altC_len l p _
  | .rep k mn none, p => by
    have h := code_len k
    simp only [Re.code, Re.len, List.length_append, List.length_cons, repC_len h, h, List.length_nil] <;> omega
  | .rep k mn (some m), p => by
    have h := code_len k
    simp only [Re.code, Re.len, List.length_append, repC_len h, optC_len h]
  | .bgn, _ => rfl
  | .fin, _ => rfl
theorem codes_len : ∀ (l : List Re) (p : Nat), (codes l p).length = lens l
  | [], _ => rfl
  | t :: ts, p => by simp only [codes, lens, List.length_append, code_len t, codes_len ts]
theorem altC_len : ∀ (l : List Re) (p e : Nat), (altC l p e).length = altLen l
  | [], _, _ => rfl
  | [t], p, _ => by simp only [altC, altLen, code_len t]
  | t :: u :: ts, p, e => by
    have h := altC_len (u :: ts) (p + (t.len + 2)) e
    rw [altC, altLen]
    simp only [List.length_cons, List.length_append, code_len t, h]
    omega
end

section
variable (ins : List InstP) (s : List Nat) (part : Bool)
/-- the match is come to from an instruction and a place, in so many steps -/
def accN : Nat → Nat → Nat → Prop
  | 0, _, _ => False
  | n + 1, pc, i => ∃ c, ins[pc]? = some c ∧
      ((c.kind = 0 ∧ (∃ r, s[i]? = some r ∧ hasR c.runes r = true) ∧ accN n c.x (i + 1)) ∨ (c.kind = 1 ∧ (accN n c.x i ∨ accN n c.y i)) ∨
       (c.kind = 2 ∧ i = 0 ∧ accN n c.x i) ∨ (c.kind = 3 ∧ i = s.length ∧ accN n c.x i) ∨ (c.kind = 4 ∧ (part = true ∨ i = s.length)))
def Acc (pc i : Nat) : Prop := ∃ n, accN ins s part n pc i
end
section
variable {ins : List InstP} {s : List Nat} {part : Bool}
theorem Acc.set_ {pc i r : Nat} {c : InstP} (hc : ins[pc]? = some c) (hk : c.kind = 0) (hr : s[i]? = some r) (hh : hasR c.runes r = true) (h : Acc ins s part c.x (i + 1)) : Acc ins s part pc i := by
  obtain ⟨n, h⟩ := h
  exact ⟨n + 1, c, hc, .inl ⟨hk, ⟨r, hr, hh⟩, h⟩⟩
theorem Acc.left {pc i : Nat} {c : InstP} (hc : ins[pc]? = some c) (hk : c.kind = 1) (h : Acc ins s part c.x i) : Acc ins s part pc i := by
  obtain ⟨n, h⟩ := h
  exact ⟨n + 1, c, hc, .inr (.inl ⟨hk, .inl h⟩)⟩
theorem Acc.right {pc i : Nat} {c : InstP} (hc : ins[pc]? = some c) (hk : c.kind = 1) (h : Acc ins s part c.y i) : Acc ins s part pc i := by
  obtain ⟨n, h⟩ := h
  exact ⟨n + 1, c, hc, .inr (.inl ⟨hk, .inr h⟩)⟩
/-- a piece of the instructions -/
def Lies (ins : List InstP) (p : Nat) (l : List InstP) : Prop := ∀ k c, l[k]? = some c → ins[p + k]? = some c
theorem Lies.left {p : Nat} {l m : List InstP} (h : Lies ins p (l ++ m)) : Lies ins p l := fun k c hk => h k c (by
  have := (List.getElem?_eq_some_iff.1 hk).1
  rw [List.getElem?_append_left this]; exact hk)
theorem Lies.right {p n : Nat} {l m : List InstP} (h : Lies ins p (l ++ m)) (hn : l.length = n) : Lies ins (p + n) m := fun k c hk => by
  have := h (n + k) c (by rw [List.getElem?_append_right (by omega), hn, Nat.add_sub_cancel_left]; exact hk)
  rwa [← Nat.add_assoc] at this
theorem Lies.head {p : Nat} {c : InstP} {m : List InstP} (h : Lies ins p (c :: m)) : ins[p]? = some c := h 0 c rfl
theorem Lies.tail {p : Nat} {c : InstP} {m : List InstP} (h : Lies ins p (c :: m)) : Lies ins (p + 1) m := fun k d hk => by
  have := h (k + 1) d (by simpa using hk)
  rwa [show p + (k + 1) = p + 1 + k by omega] at this

/-- what a piece does: the match is come to from its beginning just if from its end, behind what it means -/
def Does (ins : List InstP) (s : List Nat) (part : Bool) (R : Nat → Nat → Prop) (p q : Nat) : Prop :=
  (∀ i j, R i j → Acc ins s part q j → Acc ins s part p i) ∧ (∀ n i, accN ins s part n p i → ∃ j m, R i j ∧ m ≤ n ∧ accN ins s part m q j)
theorem Does.seq {R T : Nat → Nat → Prop} {p q r : Nat} (h : Does ins s part R p q) (k : Does ins s part T q r) : Does ins s part (fun i j => ∃ m, R i m ∧ T m j) p r := by
  refine ⟨fun i j ⟨m, h1, h2⟩ ha => h.1 i m h1 (k.1 m j h2 ha), fun n i ha => ?_⟩
  obtain ⟨m, n1, h1, h2, h3⟩ := h.2 n i ha
  obtain ⟨j, n2, h4, h5, h6⟩ := k.2 n1 m h3
  exact ⟨j, n2, ⟨m, h1, h4⟩, by omega, h6⟩
theorem Does.here (p : Nat) : Does ins s part (fun i j => i = j) p p := ⟨fun i j e h => by rw [e]; exact h, fun n i h => ⟨i, n, rfl, Nat.le_refl _, h⟩⟩
theorem Does.congr {R T : Nat → Nat → Prop} {p q : Nat} (h : Does ins s part R p q) (e : ∀ i j, R i j ↔ T i j) : Does ins s part T p q :=
  ⟨fun i j ht => h.1 i j ((e i j).2 ht), fun n i ha => by
    obtain ⟨j, m, h1, h2⟩ := h.2 n i ha
    exact ⟨j, m, (e i j).1 h1, h2⟩⟩
theorem Does.rep {R : Nat → Nat → Prop} {c : Nat → List InstP} {len : Nat} (hc : ∀ p, (c p).length = len) (h : ∀ p, Lies ins p (c p) → Does ins s part R p (p + len)) :
    ∀ (n p : Nat), Lies ins p (repC c len n p) → Does ins s part (iterR R n) p (p + n * len)
  | 0, p, _ => by
    rw [Nat.zero_mul]; exact Does.here p
  | n + 1, p, hl => by
    have h1 := h p hl.left
    have h2 := Does.rep hc h n (p + len) (hl.right (hc p))
    have := h1.seq h2
    rw [show p + (n + 1) * len = p + len + n * len by rw [Nat.add_mul]; omega]
    exact this
/-- a whole program: a tree's instructions, and the match behind -/
def progR (t : Re) : List InstP := t.code 0 ++ [⟨4, 0, 0, []⟩]
end
end Garner

/-! Patterns, plain: how great trees, their rows of nodes and their instructions are -/
namespace Garner
open Go

mutual
theorem size_pos : ∀ t : Re, 1 ≤ t.size
  | .emp => Nat.le_refl _
  | .set _ => Nat.le_refl _
  | .seq l => by simp only [Re.size]; omega
  | .alt l => by simp only [Re.size]; omega
  | .rep k mn mx => by simp only [Re.size]; omega
  | .bgn => Nat.le_refl _
  | .fin => Nat.le_refl _
end
theorem times_pos (mn : Nat) (mx : Option Nat) : 1 ≤ timesR mn mx := by
  cases mx with
  | none => simp [timesR]
  | some m => simp only [timesR]; omega
mutual
theorem len_size : ∀ t : Re, t.ok → t.len + 2 ≤ 3 * t.size
  | .emp, _ => by simp [Re.len, Re.size]
  | .set _, _ => by simp [Re.len, Re.size]
  | .seq l, h => by
    have := lens_size l h
    simp only [Re.len, Re.size]; omega
  | .alt l, h => by
    have := altLen_size l h.2
    simp only [Re.len, Re.size]; omega
  | .rep k mn none, h => by
    have h1 := len_size k h.1
    have h2 : (mn + 1) * (k.len + 2) ≤ (mn + 1) * (3 * k.size) := Nat.mul_le_mul_left _ h1
    have h3 : (mn + 1) * (3 * k.size) = 3 * ((mn + 1) * k.size) := by rw [← Nat.mul_assoc, ← Nat.mul_assoc, Nat.mul_comm (mn + 1) 3]
    have h4 : (mn + 1) * (k.len + 2) = mn * k.len + k.len + 2 * mn + 2 := by rw [Nat.add_mul, Nat.mul_add]; omega
    simp only [Re.len, Re.size, timesR]
    omega
  | .rep k mn (some m), h => by
    have h1 := len_size k h.1
    have hm : mn ≤ m := h.2 m rfl
    have h2 : m * (k.len + 1) ≤ m * (3 * k.size) := Nat.mul_le_mul_left _ (by omega)
    have h3 : m * (3 * k.size) = 3 * (m * k.size) := by rw [← Nat.mul_assoc, ← Nat.mul_assoc, Nat.mul_comm m 3]
    have h4 : mn * k.len ≤ mn * (k.len + 1) := Nat.mul_le_mul_left _ (by omega)
    have h5 : mn * (k.len + 1) + (m - mn) * (k.len + 1) = m * (k.len + 1) := by rw [← Nat.add_mul]; congr 1; omega
    have h6 : m * k.size ≤ max m 1 * k.size := Nat.mul_le_mul_right _ (by omega)
    simp only [Re.len, Re.size, timesR]
    omega
  | .bgn, _ => by simp [Re.len, Re.size]
  | .fin, _ => by simp [Re.len, Re.size]
theorem lens_size : ∀ l : List Re, oks l → lens l ≤ 3 * sizes l
  | [], _ => Nat.le_refl _
  | t :: ts, h => by
    have := len_size t h.1
    have := lens_size ts h.2
    simp only [lens, sizes]; omega
theorem altLen_size : ∀ l : List Re, oks l → altLen l ≤ 3 * sizes l
  | [], _ => Nat.le_refl _
  | [t], h => by
    have := len_size t h.1
    simp only [altLen, sizes]; omega
  | t :: u :: ts, h => by
    have := len_size t h.1
    have := altLen_size (u :: ts) h.2
    simp only [altLen, sizes] at this ⊢; omega
end
mutual
theorem flat_len : ∀ (t : Re) (b : Nat), (t.flat b).length = t.cnt
  | .emp, _ => rfl
  | .set _, _ => rfl
  | .seq l, b => by simp only [Re.flat, Re.cnt, List.length_append, flats_len l b]; rfl
  | .alt l, b => by simp only [Re.flat, Re.cnt, List.length_append, flats_len l b]; rfl
  | .rep k mn mx, b => by simp only [Re.flat, Re.cnt, List.length_append, flat_len k b]; rfl
  | .bgn, _ => rfl
  | .fin, _ => rfl
theorem flats_len : ∀ (l : List Re) (b : Nat), (flats b l).length = cnts l
  | [], _ => rfl
  | t :: ts, b => by simp only [flats, cnts, List.length_append, flat_len t b, flats_len ts]
end
theorem cnt_pos : ∀ t : Re, 1 ≤ t.cnt
  | .emp => Nat.le_refl _
  | .set _ => Nat.le_refl _
  | .seq l => by simp only [Re.cnt]; omega
  | .alt l => by simp only [Re.cnt]; omega
  | .rep k mn mx => by simp only [Re.cnt]; omega
  | .bgn => Nat.le_refl _
  | .fin => Nat.le_refl _
theorem roots_len : ∀ (l : List Re) (b : Nat), (roots b l).length = l.length
  | [], _ => rfl
  | t :: ts, b => by simp only [roots, List.length_cons, roots_len ts]
theorem many_cnt (mk : List Re → Re) (h : ∀ l, (mk l).cnt = cnts l + 1) (l : List Re) : (manyR mk l).cnt ≤ cnts l + 1 := by
  match l with
  | [] => exact Nat.le_of_eq (h [])
  | [t] => simp only [manyR, cnts]; omega
  | t :: u :: r => exact Nat.le_of_eq (h (t :: u :: r))
theorem rowOf_cnt (l : List Re) : (rowOf l).cnt ≤ cnts l + 1 := by
  unfold rowOf
  split
  · simp [Re.cnt]
  · exact many_cnt .seq (fun l => rfl) l
theorem quant_cnt {t u : Re} {s s1 : List Nat} (h : quantR t s = some (u, s1)) : u.cnt ≤ t.cnt + 1 ∧ (u.ok ↔ t.ok) := by
  cases s with
  | nil => cases h; exact ⟨by omega, Iff.rfl⟩
  | cons r s =>
    rw [quantR] at h
    repeat' split at h
    all_goals first
      | (cases h; done)
      | (rename_i hl; have hl1 := hl.1; cases h; exact ⟨by simp [Re.cnt], by simp [Re.ok, hl1]⟩)
      | (cases h; exact ⟨by simp [Re.cnt], by simp [Re.ok]⟩)
      | (cases h; exact ⟨by omega, Iff.rfl⟩)
theorem many_ok {mk : List Re → Re} {l : List Re} (hl : oks l) (h : oks l → l ≠ [] → (mk l).ok) (hne : l ≠ []) : (manyR mk l).ok := by
  match l, hl, h, hne with
  | [t], hl, _, _ => exact hl.1
  | t :: u :: r, hl, h, _ => exact h hl (by simp)
theorem rowOf_ok {l : List Re} (hl : oks l) : (rowOf l).ok := by
  unfold rowOf
  split
  · trivial
  · rename_i h
    exact many_ok hl (fun h _ => h) (fun e => h (by rw [e]; rfl))
/-- as many nodes as what was read allows; and trees are as they should be -/
theorem parse_cnt : ∀ n : Nat,
    (∀ {s s1 : List Nat} {ts : List Re} {d : Nat}, altsR n s = some (ts, s1, d) → cnts ts + 4 * s1.length ≤ 4 * s.length + 1 ∧ oks ts ∧ ts ≠ []) ∧
    (∀ {s s1 : List Nat} {ts : List Re} {d : Nat}, rowsR n s = some (ts, s1, d) → cnts ts + 4 * s1.length ≤ 4 * s.length ∧ oks ts) ∧
    (∀ {s s1 : List Nat} {t : Re} {d : Nat}, itemR n s = some (t, s1, d) → t.cnt + 4 * s1.length ≤ 4 * s.length ∧ t.ok) ∧
    (∀ {s s1 : List Nat} {t : Re} {d : Nat}, atomR n s = some (t, s1, d) → t.cnt + 1 + 4 * s1.length ≤ 4 * s.length ∧ t.ok)
  | 0 => ⟨fun h => (by cases h), fun h => (by cases h), fun h => (by cases h), fun h => (by cases h)⟩
  | n + 1 => by
    obtain ⟨ia, ir, ii, it⟩ := parse_cnt n
    refine ⟨?_, ?_, ?_, ?_⟩
    · intro s s1 ts d h
      rw [altsR] at h
      split at h
      · cases h
      · rename_i us s2 e hr
        obtain ⟨h1, h2⟩ := ir hr
        have h3 := rowOf_cnt us
        have h4 := rowOf_ok h2
        split at h
        · rename_i hc
          split at h
          · cases h
          · rename_i vs s3 e2 ha
            obtain ⟨h5, h6, h7⟩ := ia ha
            have := tail_lt hc
            cases h
            exact ⟨by simp only [cnts]; omega, ⟨h4, h6⟩, by simp⟩
        · cases h
          exact ⟨by simp only [cnts]; omega, ⟨h4, trivial⟩, by simp⟩
    · intro s s1 ts d h
      rw [rowsR] at h
      split at h
      · cases h
        exact ⟨by simp [cnts], trivial⟩
      · split at h
        · cases h
        · rename_i t s2 e hi
          obtain ⟨h1, h2⟩ := ii hi
          split at h
          · cases h
          · rename_i vs s3 e2 hr
            obtain ⟨h3, h4⟩ := ir hr
            cases h
            exact ⟨by simp only [cnts]; omega, h2, h4⟩
    · intro s s1 t d h
      rw [itemR] at h
      split at h
      · cases h
      · rename_i v s2 e ha
        obtain ⟨h1, h2⟩ := it ha
        obtain ⟨p, hp, e⟩ := Option.map_eq_some_iff.1 h
        have h3 := quantR_len (u := p.1) (s1 := p.2) hp
        obtain ⟨h4, h5⟩ := quant_cnt (u := p.1) (s1 := p.2) hp
        cases e
        exact ⟨by omega, h5.2 h2⟩
    · intro s s1 t d h
      cases s with
      | nil => cases h
      | cons r s =>
        rw [atomR] at h
        split at h
        · split at h
          · cases h
          · rename_i us s2 e ha
            obtain ⟨h1, h2, h3⟩ := ia ha
            split at h
            · rename_i hc
              have h4 := tail_lt hc
              have h5 := many_cnt .alt (fun l => rfl) us
              cases h
              exact ⟨by simp only [List.length_cons]; omega, many_ok h2 (fun h hne => ⟨hne, h⟩) h3⟩
            · cases h
        · split at h
          · obtain ⟨p, hp, e⟩ := Option.map_eq_some_iff.1 h
            have := classR_len (m := p.1) (s1 := p.2) hp
            cases e
            exact ⟨by simp only [List.length_cons, Re.cnt]; omega, trivial⟩
          · repeat' split at h
            all_goals first
              | (cases h; done)
              | (cases h; exact ⟨by simp only [List.length_cons, Re.cnt]; omega, trivial⟩)
              | (obtain ⟨p, hp, e⟩ := Option.map_eq_some_iff.1 h
                 have := escR_len (m := p.1) (s1 := p.2) hp
                 cases e
                 exact ⟨by simp only [List.length_cons, Re.cnt]; omega, trivial⟩)
end Garner

