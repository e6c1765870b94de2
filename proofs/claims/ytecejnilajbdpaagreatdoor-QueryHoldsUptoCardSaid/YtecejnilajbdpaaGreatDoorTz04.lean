import Derived.Lib.ValidLaws
import Derived.Test.YtecejnilajbdpaaGreatDoorTz01
namespace Garner
open Go
def runesGo : Nat → Bs → List Nat
 | 0, _ => []
 | n + 1, l => if l = [] then [] else (Lib.decodeL l).1 :: runesGo n (l.drop (Lib.decodeL l).2)
def runesP (l : Bs) : List Nat := runesGo l.length l
inductive Re
 | emp
 | set (l : List Nat)
 | seq (l : List Re)
 | alt (l : List Re)
 | rep (k : Re) (mn : Nat) (mx : Option Nat)
 | bgn
 | fin
def specR : List Nat := [92, 40, 41, 91, 93, 123, 125, 42, 43, 63, 124, 46, 94, 36]
def escR : List Nat → Option (List Nat × List Nat)
 | [] => none
 | r :: s =>
  if r = 110 then some ([10, 10], s)
  else if r = 116 then some ([9, 9], s)
  else if r = 100 then some ([48, 57], s)
  else if r = 119 then some ([48, 57, 65, 90, 95, 95, 97, 122], s)
  else if r = 115 then some ([9, 10, 13, 13, 32, 32], s)
  else if r ∈ specR ∨ r = 45 then some ([r, r], s) else none
def memR : List Nat → Option (List Nat × List Nat)
 | [] => none
 | r :: s => if r = 92 then escR s else if r = 91 ∨ r = 93 ∨ r = 94 ∨ r = 45 then none else some ([r, r], s)
def rngR : List Nat → List Nat → Option (List Nat)
 | [a, b], [c, d] => if a = b ∧ c = d ∧ a ≤ c then some [a, c] else none
 | _, _ => none
def clsR : Nat → Bool → List Nat → List Nat → Option (List Nat × List Nat)
 | 0, _, _, _ => none
 | n + 1, some_, s, acc =>
  if some_ = true ∧ s.head? = some 93 then some (acc, s.tail) else
  match memR s with
  | none => none
  | some (m, s1) =>
   if s1.head? = some 45 then
    match memR s1.tail with
    | none => none
    | some (t, s2) =>
     match rngR m t with
     | none => none
     | some q => clsR n true s2 (acc ++ q)
   else clsR n true s1 (acc ++ m)
def pairsR : List Nat → List (Nat × Nat)
 | a :: b :: r => (a, b) :: pairsR r
 | _ => []
def insR (x : Nat × Nat) : List (Nat × Nat) → List (Nat × Nat)
 | [] => [x]
 | y :: r => if x.1 ≤ y.1 then x :: y :: r else y :: insR x r
def sortR : List (Nat × Nat) → List (Nat × Nat)
 | [] => []
 | x :: r => insR x (sortR r)
def flatR (l : List (Nat × Nat)) : List Nat := l.flatMap fun p => [p.1, p.2]
def stepI (out : List (Nat × Nat)) (x : Nat × Nat) : List (Nat × Nat) :=
 match out.getLast? with
 | some p => if x.1 ≤ p.2 + 1 then out.dropLast ++ [(p.1, max p.2 x.2)] else out ++ [x]
 | none => [x]
def mergeI (l : List (Nat × Nat)) : List (Nat × Nat) := l.foldl stepI []
def mergedR (set : List Nat) : List Nat := flatR (mergeI (sortR (pairsR set)))
def othersGo : Nat → List (Nat × Nat) → List (Nat × Nat)
 | from_, [] => if from_ ≤ 1114111 then [(from_, 1114111)] else []
 | from_, (a, b) :: r => (if from_ < a then [(from_, a - 1)] else []) ++ othersGo (b + 1) r
def othersR (set : List Nat) : List Nat := flatR (othersGo 0 (pairsR set))
def classR (s : List Nat) : Option (List Nat × List Nat) :=
 if s.head? = some 94 then (clsR (s.length + 1) false s.tail []).map fun p => (othersR (mergedR p.1), p.2)
 else (clsR (s.length + 1) false s []).map fun p => (mergedR p.1, p.2)
def digR : List Nat → Option (Nat × List Nat)
 | [] => none
 | r :: s => if 48 ≤ r ∧ r ≤ 56 then some (r - 48, s) else none
def quantR (t : Re) : List Nat → Option (Re × List Nat)
 | [] => some (t, [])
 | r :: s =>
  if r = 42 then some (.rep t 0 none, s)
  else if r = 43 then some (.rep t 1 none, s)
  else if r = 63 then some (.rep t 0 (some 1), s)
  else if r = 123 then
   match digR s with
   | none => none
   | some (lo, s1) =>
    if s1.head? = some 44 then
     match digR s1.tail with
     | none => none
     | some (hi, s2) => if lo ≤ hi ∧ s2.head? = some 125 then some (.rep t lo (some hi), s2.tail) else none
    else if s1.head? = some 125 then some (.rep t lo (some lo), s1.tail) else none
  else some (t, r :: s)
def manyR (mk : List Re → Re) : List Re → Re
 | [t] => t
 | ts => mk ts
def rowOf (ts : List Re) : Re := if ts.length = 0 then .emp else manyR .seq ts
mutual
def altsR : Nat → List Nat → Option (List Re × List Nat × Nat)
 | 0, _ => none
 | n + 1, s =>
  match rowsR n s with
  | none => none
  | some (ts, s1, d) =>
   if s1.head? = some 124 then
    match altsR n s1.tail with
    | none => none
    | some (us, s2, e) => some (rowOf ts :: us, s2, max d e)
   else some ([rowOf ts], s1, d)
def rowsR : Nat → List Nat → Option (List Re × List Nat × Nat)
 | 0, _ => none
 | n + 1, s =>
  if s = [] ∨ s.head? = some 124 ∨ s.head? = some 41 then some ([], s, 0) else
  match itemR n s with
  | none => none
  | some (t, s1, d) =>
   match rowsR n s1 with
   | none => none
   | some (ts, s2, e) => some (t :: ts, s2, max d e)
def itemR : Nat → List Nat → Option (Re × List Nat × Nat)
 | 0, _ => none
 | n + 1, s =>
  match atomR n s with
  | none => none
  | some (t, s1, d) => (quantR t s1).map fun p => (p.1, p.2, d)
def atomR : Nat → List Nat → Option (Re × List Nat × Nat)
 | 0, _ => none
 | _ + 1, [] => none
 | n + 1, r :: s =>
  if r = 40 then
   match altsR n s with
   | none => none
   | some (ts, s1, d) => if s1.head? = some 41 then some (manyR .alt ts, s1.tail, d + 1) else none
  else if r = 91 then (classR s).map fun p => (.set p.1, p.2, 0)
  else if r = 46 then some (.set [0, 9, 11, 1114111], s, 0)
  else if r = 94 then some (.bgn, s, 0)
  else if r = 36 then some (.fin, s, 0)
  else if r = 92 then (escR s).map fun p => (.set p.1, p.2, 0)
  else if r ∈ specR then none else some (.set [r, r], s, 0)
end
structure NodeP where
 kind : Nat
 kids : List Nat
 mn : Nat
 mx : Int
 set : List Nat
mutual
def Re.cnt : Re → Nat
 | .emp => 1
 | .set _ => 1
 | .seq l => cnts l + 1
 | .alt l => cnts l + 1
 | .rep k _ _ => k.cnt + 1
 | .bgn => 1
 | .fin => 1
def cnts : List Re → Nat
 | [] => 0
 | t :: ts => t.cnt + cnts ts
end
def roots (b : Nat) : List Re → List Nat
 | [] => []
 | t :: ts => (b + t.cnt - 1) :: roots (b + t.cnt) ts
mutual
def Re.flat (b : Nat) : Re → List NodeP
 | .emp => [⟨1, [], 0, 0, []⟩]
 | .set l => [⟨2, [], 0, 0, l⟩]
 | .seq l => flats b l ++ [⟨3, roots b l, 0, 0, []⟩]
 | .alt l => flats b l ++ [⟨4, roots b l, 0, 0, []⟩]
 | .rep k mn mx => k.flat b ++ [⟨5, [b + k.cnt - 1], mn, match mx with | none => -1 | some m => m, []⟩]
 | .bgn => [⟨6, [], 0, 0, []⟩]
 | .fin => [⟨7, [], 0, 0, []⟩]
def flats (b : Nat) : List Re → List NodeP
 | [] => []
 | t :: ts => t.flat b ++ flats (b + t.cnt) ts
end
def timesR (mn : Nat) : Option Nat → Nat
 | none => mn + 1
 | some m => max m 1
mutual
def Re.size : Re → Nat
 | .emp => 1
 | .set _ => 1
 | .seq l => sizes l + 1
 | .alt l => sizes l + 1
 | .rep k mn mx => timesR mn mx * k.size + 1
 | .bgn => 1
 | .fin => 1
def sizes : List Re → Nat
 | [] => 0
 | t :: ts => t.size + sizes ts
end
def readR (s : List Nat) : Except Nat Re :=
 match altsR (4 * s.length + 4) s with
 | none => .error 40
 | some (ts, rest, d) =>
  if rest ≠ [] then .error 40
  else if 16 < d then .error 9
  else if 1000 < (manyR .alt ts).size then .error 3
  else .ok (manyR .alt ts)
def rexpP (b : Bs) : Except Nat Re :=
 if 128 < b.length then .error 4 else if Lib.validD b = false then .error 8 else readR (runesP b)
open Go
theorem escR_len {s m s1 : List Nat} (h : escR s = some (m, s1)) : s1.length + 1 = s.length := by
 cases s with
 | nil => cases h
 | cons r s =>
  rw [escR] at h
  repeat' split at h
  all_goals first | (cases h; rfl) | (cases h)
theorem memR_len {s m s1 : List Nat} (h : memR s = some (m, s1)) : s1.length < s.length := by
 cases s with
 | nil => cases h
 | cons r s =>
  rw [memR] at h
  split at h
  ·have := escR_len h; simp; omega
  split at h
  ·cases h
  cases h; simp
theorem tail_le (s : List Nat) : s.tail.length ≤ s.length := by cases s <;> simp
theorem tail_lt {s : List Nat} {c : Nat} (h : s.head? = some c) : s.tail.length + 1 = s.length := by
 cases s with
 | nil => cases h
 | cons r s => simp
theorem clsR_len : ∀ {n : Nat} {f : Bool} {s acc m s1 : List Nat}, clsR n f s acc = some (m, s1) → s1.length < s.length
 | 0, _, _, _, _, _, h => by cases h
 | n + 1, f, s, acc, m, s1, h => by
  rw [clsR] at h
  split at h
  ·rename_i hc
   injection h with h; injection h with h1 h2
   have := tail_lt hc.2
   rw [← h2]; omega
  split at h
  ·cases h
  rename_i m1 s2 hm
  have h1 := memR_len hm
  split at h
  ·split at h
   ·cases h
   rename_i t s3 ht
   have h2 := memR_len ht
   have h3 := tail_le s2
   split at h
   ·cases h
   have := clsR_len h; omega
  have := clsR_len h; omega
theorem classR_len {s m s1 : List Nat} (h : classR s = some (m, s1)) : s1.length < s.length := by
 unfold classR at h
 have h0 := tail_le s
 split at h
 ·obtain ⟨p, hp, e⟩ := Option.map_eq_some_iff.1 h
  injection e with e1 e2
  have := clsR_len (m := p.1) (s1 := p.2) hp
  rw [← e2]; omega
 obtain ⟨p, hp, e⟩ := Option.map_eq_some_iff.1 h
 injection e with e1 e2
 have := clsR_len (m := p.1) (s1 := p.2) hp
 rw [← e2]; omega
theorem digR_len {s s1 : List Nat} {d : Nat} (h : digR s = some (d, s1)) : s1.length + 1 = s.length ∧ d ≤ 8 := by
 cases s with
 | nil => cases h
 | cons r s =>
  rw [digR] at h
  split at h
  ·cases h; exact ⟨rfl, by omega⟩
  cases h
theorem quantR_len {t u : Re} {s s1 : List Nat} (h : quantR t s = some (u, s1)) : s1.length ≤ s.length := by
 cases s with
 | nil => cases h; exact Nat.le_refl _
 | cons r s =>
  rw [quantR] at h
  repeat' split at h
  all_goals first
   | (cases h; done)
   | (cases h; simp; done)
   | skip
  ·rename_i lo s2 h1 _ _ hi s3 h2 _
   injection h with h; injection h with h3 h4
   have := (digR_len h1).1
   have := (digR_len h2).1
   have := tail_le s2
   have := tail_le s3
   rw [← h4]; simp; omega
  rename_i lo s2 h1 _ _
  injection h with h; injection h with h3 h4
  have := (digR_len h1).1
  have := tail_le s2
  rw [← h4]; simp; omega
theorem parse_len : ∀ n : Nat,
  (∀ {s s1 : List Nat} {ts : List Re} {d : Nat}, altsR n s = some (ts, s1, d) → s1.length ≤ s.length) ∧
  (∀ {s s1 : List Nat} {ts : List Re} {d : Nat}, rowsR n s = some (ts, s1, d) → s1.length ≤ s.length) ∧
  (∀ {s s1 : List Nat} {t : Re} {d : Nat}, itemR n s = some (t, s1, d) → s1.length < s.length) ∧
  (∀ {s s1 : List Nat} {t : Re} {d : Nat}, atomR n s = some (t, s1, d) → s1.length < s.length)
 | 0 => ⟨fun h => (by cases h), fun h => (by cases h), fun h => (by cases h), fun h => (by cases h)⟩
 | n + 1 => by
  obtain ⟨ia, ir, ii, it⟩ := parse_len n
  refine ⟨?_, ?_, ?_, ?_⟩
  ·intro s s1 ts d h
   rw [altsR] at h
   split at h
   ·cases h
   rename_i us s2 e hr
   have h1 := ir hr
   split at h
   ·split at h
    ·cases h
    rename_i vs s3 e2 ha
    injection h with h; injection h with h2 h3; injection h3 with h3 h4
    have := ia ha
    have := tail_le s2
    rw [← h3]; omega
   injection h with h; injection h with h2 h3; injection h3 with h3 h4
   rw [← h3]; exact h1
  ·intro s s1 ts d h
   rw [rowsR] at h
   split at h
   ·injection h with h; injection h with h2 h3; injection h3 with h3 h4
    rw [← h3]; exact Nat.le_refl _
   split at h
   ·cases h
   rename_i t s2 e hi
   have h1 := ii hi
   split at h
   ·cases h
   rename_i vs s3 e2 hr
   injection h with h; injection h with h2 h3; injection h3 with h3 h4
   have := ir hr
   rw [← h3]; omega
  ·intro s s1 t d h
   rw [itemR] at h
   split at h
   ·cases h
   rename_i u s2 e ha
   have h1 := it ha
   obtain ⟨p, hp, e⟩ := Option.map_eq_some_iff.1 h
   injection e with e1 e2; injection e2 with e2 e3
   have := quantR_len (u := p.1) (s1 := p.2) hp
   rw [← e2]; omega
  intro s s1 t d h
  cases s with
  | nil => cases h
  | cons r s =>
   rw [atomR] at h
   split at h
   ·split at h
    ·cases h
    rename_i us s2 e ha
    have h1 := ia ha
    split at h
    ·injection h with h; injection h with h2 h3; injection h3 with h3 h4
     have := tail_le s2
     rw [← h3]; simp; omega
    cases h
   split at h
   ·obtain ⟨p, hp, e⟩ := Option.map_eq_some_iff.1 h
    injection e with e1 e2; injection e2 with e2 e3
    have := classR_len (m := p.1) (s1 := p.2) hp
    rw [← e2]; simp; omega
   repeat' split at h
   all_goals first
    | (cases h; done)
    | (cases h; simp; done)
    | (obtain ⟨p, hp, e⟩ := Option.map_eq_some_iff.1 h
       injection e with e1 e2; injection e2 with e2 e3
       have := escR_len (m := p.1) (s1 := p.2) hp
       rw [← e2]; simp; omega)
theorem parse_fuel : ∀ n : Nat,
  (∀ s : List Nat, 4 * s.length + 4 ≤ n → altsR (n + 1) s = altsR n s) ∧
  (∀ s : List Nat, 4 * s.length + 3 ≤ n → rowsR (n + 1) s = rowsR n s) ∧
  (∀ s : List Nat, 4 * s.length + 2 ≤ n → itemR (n + 1) s = itemR n s) ∧
  (∀ s : List Nat, 4 * s.length + 1 ≤ n → atomR (n + 1) s = atomR n s)
 | 0 => ⟨fun s h => by omega, fun s h => by omega, fun s h => by omega, fun s h => by omega⟩
 | n + 1 => by
  obtain ⟨ia, ir, ii, it⟩ := parse_fuel n
  refine ⟨fun s h => ?_, fun s h => ?_, fun s h => ?_, fun s h => ?_⟩
  ·rw [altsR, altsR, ir s (by omega)]
   split
   ·rfl
   rename_i us s2 e hr
   have h1 := (parse_len n).2.1 hr
   split
   ·rename_i hc
    have := tail_lt hc
    rw [ia s2.tail (by omega)]
   rfl
  ·rw [rowsR, rowsR, ii s (by omega)]
   split
   ·rfl
   split
   ·rfl
   rename_i t s2 e hi
   have h1 := (parse_len n).2.2.1 hi
   rw [ir s2 (by omega)]
  ·rw [itemR, itemR, it s (by omega)]
  cases s with
  | nil => rfl
  | cons r s =>
   simp only [List.length_cons] at h
   rw [atomR, atomR, ia s (by omega)]
theorem alts_fuel {s : List Nat} : ∀ {n m : Nat}, 4 * s.length + 4 ≤ n → n ≤ m → altsR m s = altsR n s := by
 intro n m hn hm
 obtain ⟨k, rfl⟩ : ∃ k, m = n + k := ⟨m - n, by omega⟩
 clear hm
 induction k with
 | zero => rfl
 | succ k ih => rw [← Nat.add_assoc, (parse_fuel (n + k)).1 s (by omega), ih]
def hasR : List Nat → Nat → Bool
 | a :: b :: r, x => (decide (a ≤ x) && decide (x ≤ b)) || hasR r x
 | _, _ => false
def iterR (R : Nat → Nat → Prop) : Nat → Nat → Nat → Prop
 | 0, i, j => i = j
 | n + 1, i, j => ∃ k, R i k ∧ iterR R n k j
mutual
def Re.M (s : List Nat) : Re → Nat → Nat → Prop
 | .emp => fun i j => i = j
 | .set l => fun i j => j = i + 1 ∧ ∃ r, s[i]? = some r ∧ hasR l r = true
 | .seq l => Ms s l
 | .alt l => Ma s l
 | .rep k mn mx => fun i j => ∃ n, mn ≤ n ∧ (∀ m, mx = some m → n ≤ m) ∧ iterR (k.M s) n i j
 | .bgn => fun i j => i = j ∧ i = 0
 | .fin => fun i j => i = j ∧ i = s.length
def Ms (s : List Nat) : List Re → Nat → Nat → Prop
 | [] => fun i j => i = j
 | t :: ts => fun i j => ∃ k, t.M s i k ∧ Ms s ts k j
def Ma (s : List Nat) : List Re → Nat → Nat → Prop
 | [] => fun _ _ => False
 | t :: ts => fun i j => t.M s i j ∨ Ma s ts i j
end
mutual
def Re.ok : Re → Prop
 | .emp => True
 | .set _ => True
 | .seq l => oks l
 | .alt l => l ≠ [] ∧ oks l
 | .rep k mn mx => k.ok ∧ ∀ m, mx = some m → mn ≤ m
 | .bgn => True
 | .fin => True
def oks : List Re → Prop
 | [] => True
 | t :: ts => t.ok ∧ oks ts
end
structure InstP where
 kind : Nat
 x : Nat
 y : Nat
 runes : List Nat
mutual
def Re.len : Re → Nat
 | .emp => 0
 | .set _ => 1
 | .seq l => lens l
 | .alt l => altLen l
 | .rep k mn none => mn * k.len + (k.len + 2)
 | .rep k mn (some m) => mn * k.len + (m - mn) * (k.len + 1)
 | .bgn => 1
 | .fin => 1
def lens : List Re → Nat
 | [] => 0
 | t :: ts => t.len + lens ts
def altLen : List Re → Nat
 | [] => 0
 | t :: ts => match ts with
  | [] => t.len
  | _ :: _ => t.len + 2 + altLen ts
end
def repC (c : Nat → List InstP) (len : Nat) : Nat → Nat → List InstP
 | 0, _ => []
 | n + 1, p => c p ++ repC c len n (p + len)
def optC (c : Nat → List InstP) (len e : Nat) : Nat → Nat → List InstP
 | 0, _ => []
 | n + 1, p => ⟨1, p + 1, e, []⟩ :: (c (p + 1) ++ optC c len e n (p + (len + 1)))
mutual
def Re.code : Re → Nat → List InstP
 | .emp => fun _ => []
 | .set l => fun p => [⟨0, p + 1, 0, l⟩]
 | .seq l => fun p => codes l p
 | .alt l => fun p => altC l p (p + altLen l)
 | .rep k mn none => fun p => repC k.code k.len mn p ++ (⟨1, p + mn * k.len + 1, p + mn * k.len + (k.len + 2), []⟩ :: (k.code (p + mn * k.len + 1) ++ [⟨1, p + mn * k.len, p + mn * k.len, []⟩]))
 | .rep k mn (some m) => fun p => repC k.code k.len mn p ++ optC k.code k.len (p + mn * k.len + (m - mn) * (k.len + 1)) (m - mn) (p + mn * k.len)
 | .bgn => fun p => [⟨2, p + 1, 0, []⟩]
 | .fin => fun p => [⟨3, p + 1, 0, []⟩]
def codes : List Re → Nat → List InstP
 | [] => fun _ => []
 | t :: ts => fun p => t.code p ++ codes ts (p + t.len)
def altC : List Re → Nat → Nat → List InstP
 | [] => fun _ _ => []
 | t :: ts => fun p e => match ts with
  | [] => t.code p
  | _ :: _ => ⟨1, p + 1, p + (t.len + 2), []⟩ :: (t.code (p + 1) ++ (⟨1, e, e, []⟩ :: altC ts (p + (t.len + 2)) e))
end
theorem repC_len {c : Nat → List InstP} {len : Nat} (h : ∀ p, (c p).length = len) : ∀ n p, (repC c len n p).length = n * len
 | 0, _ => by simp [repC]
 | n + 1, p => by rw [repC, List.length_append, h, repC_len h n, Nat.add_mul]; omega
theorem optC_len {c : Nat → List InstP} {len e : Nat} (h : ∀ p, (c p).length = len) : ∀ n p, (optC c len e n p).length = n * (len + 1)
 | 0, _ => by simp [optC]
 | n + 1, p => by rw [optC, List.length_cons, List.length_append, h, optC_len h n, Nat.add_mul]; omega
mutual
theorem code_len : ∀ (t : Re) (p : Nat), (t.code p).length = t.len
 | .emp, _ => rfl
 | .set _, _ => rfl
 | .seq l, p => codes_len l p
 | .alt l, p => altC_len l p _
 | .rep k mn none, p => by
  have h := code_len k
  simp only [Re.code, Re.len, List.length_append, List.length_cons, repC_len h, h, List.length_nil] <;> omega
 | .rep k mn (some m), p => by
  have h := code_len k
  simp only [Re.code, Re.len, List.length_append, repC_len h, optC_len h]
 | .bgn, _ => rfl
 | .fin, _ => rfl
theorem codes_len : ∀ (l : List Re) (p : Nat), (codes l p).length = lens l
 | [], _ => rfl
 | t :: ts, p => by simp only [codes, lens, List.length_append, code_len t, codes_len ts]
theorem altC_len : ∀ (l : List Re) (p e : Nat), (altC l p e).length = altLen l
 | [], _, _ => rfl
 | [t], p, _ => by simp only [altC, altLen, code_len t]
 | t :: u :: ts, p, e => by
  have h := altC_len (u :: ts) (p + (t.len + 2)) e
  rw [altC, altLen]
  simp only [List.length_cons, List.length_append, code_len t, h]
  omega
end
section
variable (ins : List InstP) (s : List Nat) (part : Bool)
def accN : Nat → Nat → Nat → Prop
 | 0, _, _ => False
 | n + 1, pc, i => ∃ c, ins[pc]? = some c ∧
   ((c.kind = 0 ∧ (∃ r, s[i]? = some r ∧ hasR c.runes r = true) ∧ accN n c.x (i + 1)) ∨ (c.kind = 1 ∧ (accN n c.x i ∨ accN n c.y i)) ∨
    (c.kind = 2 ∧ i = 0 ∧ accN n c.x i) ∨ (c.kind = 3 ∧ i = s.length ∧ accN n c.x i) ∨ (c.kind = 4 ∧ (part = true ∨ i = s.length)))
def Acc (pc i : Nat) : Prop := ∃ n, accN ins s part n pc i
end
section
variable {ins : List InstP} {s : List Nat} {part : Bool}
theorem Acc.set_ {pc i r : Nat} {c : InstP} (hc : ins[pc]? = some c) (hk : c.kind = 0) (hr : s[i]? = some r) (hh : hasR c.runes r = true) (h : Acc ins s part c.x (i + 1)) : Acc ins s part pc i := by
 obtain ⟨n, h⟩ := h
 exact ⟨n + 1, c, hc, .inl ⟨hk, ⟨r, hr, hh⟩, h⟩⟩
theorem Acc.left {pc i : Nat} {c : InstP} (hc : ins[pc]? = some c) (hk : c.kind = 1) (h : Acc ins s part c.x i) : Acc ins s part pc i := by
 obtain ⟨n, h⟩ := h
 exact ⟨n + 1, c, hc, .inr (.inl ⟨hk, .inl h⟩)⟩
theorem Acc.right {pc i : Nat} {c : InstP} (hc : ins[pc]? = some c) (hk : c.kind = 1) (h : Acc ins s part c.y i) : Acc ins s part pc i := by
 obtain ⟨n, h⟩ := h
 exact ⟨n + 1, c, hc, .inr (.inl ⟨hk, .inr h⟩)⟩
def Lies (ins : List InstP) (p : Nat) (l : List InstP) : Prop := ∀ k c, l[k]? = some c → ins[p + k]? = some c
theorem Lies.left {p : Nat} {l m : List InstP} (h : Lies ins p (l ++ m)) : Lies ins p l := fun k c hk => h k c (by
 have := (List.getElem?_eq_some_iff.1 hk).1
 rw [List.getElem?_append_left this]; exact hk)
theorem Lies.right {p n : Nat} {l m : List InstP} (h : Lies ins p (l ++ m)) (hn : l.length = n) : Lies ins (p + n) m := fun k c hk => by
 have := h (n + k) c (by rw [List.getElem?_append_right (by omega), hn, Nat.add_sub_cancel_left]; exact hk)
 rwa [← Nat.add_assoc] at this
theorem Lies.head {p : Nat} {c : InstP} {m : List InstP} (h : Lies ins p (c :: m)) : ins[p]? = some c := h 0 c rfl
theorem Lies.tail {p : Nat} {c : InstP} {m : List InstP} (h : Lies ins p (c :: m)) : Lies ins (p + 1) m := fun k d hk => by
 have := h (k + 1) d (by simpa using hk)
 rwa [show p + (k + 1) = p + 1 + k by omega] at this
def Does (ins : List InstP) (s : List Nat) (part : Bool) (R : Nat → Nat → Prop) (p q : Nat) : Prop :=
 (∀ i j, R i j → Acc ins s part q j → Acc ins s part p i) ∧ (∀ n i, accN ins s part n p i → ∃ j m, R i j ∧ m ≤ n ∧ accN ins s part m q j)
theorem Does.seq {R T : Nat → Nat → Prop} {p q r : Nat} (h : Does ins s part R p q) (k : Does ins s part T q r) : Does ins s part (fun i j => ∃ m, R i m ∧ T m j) p r := by
 refine ⟨fun i j ⟨m, h1, h2⟩ ha => h.1 i m h1 (k.1 m j h2 ha), fun n i ha => ?_⟩
 obtain ⟨m, n1, h1, h2, h3⟩ := h.2 n i ha
 obtain ⟨j, n2, h4, h5, h6⟩ := k.2 n1 m h3
 exact ⟨j, n2, ⟨m, h1, h4⟩, by omega, h6⟩
theorem Does.here (p : Nat) : Does ins s part (fun i j => i = j) p p := ⟨fun i j e h => by rw [e]; exact h, fun n i h => ⟨i, n, rfl, Nat.le_refl _, h⟩⟩
theorem Does.congr {R T : Nat → Nat → Prop} {p q : Nat} (h : Does ins s part R p q) (e : ∀ i j, R i j ↔ T i j) : Does ins s part T p q :=
 ⟨fun i j ht => h.1 i j ((e i j).2 ht), fun n i ha => by
  obtain ⟨j, m, h1, h2⟩ := h.2 n i ha
  exact ⟨j, m, (e i j).1 h1, h2⟩⟩
theorem Does.rep {R : Nat → Nat → Prop} {c : Nat → List InstP} {len : Nat} (hc : ∀ p, (c p).length = len) (h : ∀ p, Lies ins p (c p) → Does ins s part R p (p + len)) :
  ∀ (n p : Nat), Lies ins p (repC c len n p) → Does ins s part (iterR R n) p (p + n * len)
 | 0, p, _ => by
  rw [Nat.zero_mul]; exact Does.here p
 | n + 1, p, hl => by
  have h1 := h p hl.left
  have h2 := Does.rep hc h n (p + len) (hl.right (hc p))
  have := h1.seq h2
  rw [show p + (n + 1) * len = p + len + n * len by rw [Nat.add_mul]; omega]
  exact this
theorem Does.opt {R : Nat → Nat → Prop} {c : Nat → List InstP} {len e : Nat} (hc : ∀ p, (c p).length = len) (h : ∀ p, Lies ins p (c p) → Does ins s part R p (p + len)) :
  ∀ (n p : Nat), e = p + n * (len + 1) → Lies ins p (optC c len e n p) → Does ins s part (fun i j => ∃ m, m ≤ n ∧ iterR R m i j) p e
 | 0, p, he, _ => by
  have : e = p := by omega
  subst this
  exact (Does.here _).congr fun i j => ⟨fun h => ⟨0, Nat.le_refl _, h⟩, fun ⟨m, h1, h2⟩ => by
   obtain rfl : m = 0 := by omega
   exact h2⟩
 | n + 1, p, he, hl => by
  have h0 := hl.head
  have ht := hl.tail
  have h1 := h (p + 1) ht.left
  have h2 := Does.opt (e := e) hc h n (p + (len + 1)) (by rw [he, Nat.add_mul]; omega) (by
   have := ht.right (hc (p + 1))
   rwa [show p + 1 + len = p + (len + 1) by omega] at this)
  rw [show p + 1 + len = p + (len + 1) by omega] at h1
  have hs := h1.seq h2
  refine ⟨fun i j ⟨m, hm, hi⟩ ha => ?_, fun k i ha => ?_⟩
  ·cases m with
   | zero =>
    have e : i = j := hi
    subst e
    exact Acc.right h0 rfl ha
   | succ m =>
    obtain ⟨k, hk1, hk2⟩ := hi
    exact Acc.left h0 rfl (hs.1 i j ⟨k, hk1, m, by omega, hk2⟩ ha)
  cases k with
  | zero => exact ha.elim
  | succ k =>
   obtain ⟨c', hc', ha⟩ := ha
   rw [h0] at hc'
   cases hc'
   rcases ha with ⟨h1, _⟩ | ⟨_, ha⟩ | ⟨h1, _⟩ | ⟨h1, _⟩ | ⟨h1, _⟩
   ·cases h1
   ·rcases ha with ha | ha
    ·obtain ⟨j, m, ⟨x, hx1, y, hy1, hy2⟩, hm, hj⟩ := hs.2 k i ha
     exact ⟨j, m, ⟨y + 1, by omega, x, hx1, hy2⟩, by omega, hj⟩
    exact ⟨i, k, ⟨0, by omega, rfl⟩, by omega, ha⟩
   ·cases h1
   ·cases h1
   cases h1
theorem Does.star {R : Nat → Nat → Prop} {p q : Nat} (h0 : ins[p]? = some ⟨1, p + 1, q + 1, []⟩) (h1 : Does ins s part R (p + 1) q) (h2 : ins[q]? = some ⟨1, p, p, []⟩) :
  Does ins s part (fun i j => ∃ m, iterR R m i j) p (q + 1) := by
 have fwd : ∀ m i j, iterR R m i j → Acc ins s part (q + 1) j → Acc ins s part p i := by
  intro m
  induction m with
  | zero =>
   intro i j hm ha
   have e : i = j := hm
   subst e
   exact Acc.right h0 rfl ha
  | succ m ih =>
   intro i j hm ha
   obtain ⟨k, hk1, hk2⟩ := hm
   exact Acc.left h0 rfl (h1.1 i k hk1 (Acc.left h2 rfl (ih k j hk2 ha)))
 refine ⟨fun i j ⟨m, hm⟩ ha => fwd m i j hm ha, ?_⟩
 intro n
 induction n using Nat.strongRecOn with
 | ind n ih =>
  intro i ha
  cases n with
  | zero => exact ha.elim
  | succ n =>
   obtain ⟨c', hc', ha⟩ := ha
   rw [h0] at hc'
   cases hc'
   rcases ha with ⟨e, _⟩ | ⟨_, ha⟩ | ⟨e, _⟩ | ⟨e, _⟩ | ⟨e, _⟩
   ·cases e
   ·rcases ha with ha | ha
    ·obtain ⟨j, m, hj1, hj2, hj3⟩ := h1.2 n i ha
     cases m with
     | zero => exact hj3.elim
     | succ m =>
      obtain ⟨c', hc', hb⟩ := hj3
      rw [h2] at hc'
      cases hc'
      rcases hb with ⟨e, _⟩ | ⟨_, hb⟩ | ⟨e, _⟩ | ⟨e, _⟩ | ⟨e, _⟩
      ·cases e
      ·have hb : accN ins s part m p j := hb.elim id id
       obtain ⟨k, l, ⟨x, hx⟩, hk2, hk3⟩ := ih m (by omega) j hb
       exact ⟨k, l, ⟨x + 1, j, hj1, hx⟩, by omega, hk3⟩
      ·cases e
      ·cases e
      cases e
    exact ⟨i, n, ⟨0, rfl⟩, by omega, ha⟩
   ·cases e
   ·cases e
   cases e
theorem iter_add {R : Nat → Nat → Prop} : ∀ {a b i j : Nat}, iterR R (a + b) i j ↔ ∃ k, iterR R a i k ∧ iterR R b k j
 | 0, b, i, j => by
  rw [Nat.zero_add]
  exact ⟨fun h => ⟨i, rfl, h⟩, fun ⟨k, h1, h2⟩ => by
   have e : i = k := h1
   rw [e]; exact h2⟩
 | a + 1, b, i, j => by
  rw [show a + 1 + b = (a + b) + 1 by omega]
  constructor
  ·rintro ⟨k, h1, h2⟩
   obtain ⟨m, h3, h4⟩ := (iter_add (a := a)).1 h2
   exact ⟨m, ⟨k, h1, h3⟩, h4⟩
  rintro ⟨m, ⟨k, h1, h3⟩, h4⟩
  exact ⟨k, h1, (iter_add (a := a)).2 ⟨m, h3, h4⟩⟩
theorem Does.one {p x k : Nat} {y : Nat} {l : List Nat} {R : Nat → Nat → Prop} (h0 : ins[p]? = some ⟨k, x, y, l⟩)
  (hk : (k = 0 ∧ ∀ i j, R i j ↔ (j = i + 1 ∧ ∃ r, s[i]? = some r ∧ hasR l r = true)) ∨ (k = 2 ∧ ∀ i j, R i j ↔ (i = j ∧ i = 0)) ∨ (k = 3 ∧ ∀ i j, R i j ↔ (i = j ∧ i = s.length))) : Does ins s part R p x := by
 refine ⟨fun i j hr ha => ?_, fun n i ha => ?_⟩
 ·obtain ⟨n, ha⟩ := ha
  refine ⟨n + 1, _, h0, ?_⟩
  rcases hk with ⟨rfl, hk⟩ | ⟨rfl, hk⟩ | ⟨rfl, hk⟩
  ·obtain ⟨rfl, h2⟩ := (hk i j).1 hr
   exact .inl ⟨rfl, h2, ha⟩
  ·obtain ⟨rfl, h2⟩ := (hk i j).1 hr
   exact .inr (.inr (.inl ⟨rfl, h2, ha⟩))
  obtain ⟨rfl, h2⟩ := (hk i j).1 hr
  exact .inr (.inr (.inr (.inl ⟨rfl, h2, ha⟩)))
 cases n with
 | zero => exact ha.elim
 | succ n =>
  obtain ⟨c', hc', ha⟩ := ha
  rw [h0] at hc'
  cases hc'
  dsimp only at ha
  rcases hk with ⟨rfl, hk⟩ | ⟨rfl, hk⟩ | ⟨rfl, hk⟩
  ·rcases ha with ⟨_, h2, h3⟩ | ⟨e, _⟩ | ⟨e, _⟩ | ⟨e, _⟩ | ⟨e, _⟩
   ·exact ⟨i + 1, n, (hk _ _).2 ⟨rfl, h2⟩, by omega, h3⟩
   all_goals cases e
  ·rcases ha with ⟨e, _⟩ | ⟨e, _⟩ | ⟨_, h2, h3⟩ | ⟨e, _⟩ | ⟨e, _⟩
   ·cases e
   ·cases e
   ·exact ⟨i, n, (hk _ _).2 ⟨rfl, h2⟩, by omega, h3⟩
   all_goals cases e
  rcases ha with ⟨e, _⟩ | ⟨e, _⟩ | ⟨e, _⟩ | ⟨_, h2, h3⟩ | ⟨e, _⟩
  ·cases e
  ·cases e
  ·cases e
  ·exact ⟨i, n, (hk _ _).2 ⟨rfl, h2⟩, by omega, h3⟩
  cases e
mutual
theorem code_does : ∀ (t : Re) (p : Nat), t.ok → Lies ins p (t.code p) → Does ins s part (t.M s) p (p + t.len)
 | .emp, p, _, _ => Does.here p
 | .set l, p, _, h => Does.one h.head (.inl ⟨rfl, fun _ _ => Iff.rfl⟩)
 | .seq l, p, ok, h => codes_does l p ok h
 | .alt l, p, ok, h => altC_does l p (p + altLen l) ok.1 ok.2 rfl h
 | .rep k mn none, p, ok, h => by
  have hk : ∀ p, Lies ins p (k.code p) → Does ins s part (k.M s) p (p + k.len) := fun p hl => code_does k p ok.1 hl
  have h1 := Does.rep (code_len k) hk mn p (Lies.left h)
  have hr := Lies.right h (repC_len (code_len k) mn p)
  have hb := hr.tail.right (code_len k _)
  have h2 := hk _ hr.tail.left
  have h0 := hr.head
  have e : p + mn * k.len + (k.len + 2) = p + mn * k.len + 1 + k.len + 1 := by omega
  rw [e] at h0
  have h3 := Does.star h0 h2 hb.head
  have h4 := h1.seq h3
  have e2 : p + Re.len (.rep k mn none) = p + mn * k.len + 1 + k.len + 1 := by simp only [Re.len]; omega
  rw [e2]
  refine h4.congr fun i j => ⟨?_, ?_⟩
  ·rintro ⟨x, hx, m, hm⟩
   exact ⟨mn + m, by omega, fun _ e => (by cases e), iter_add.2 ⟨x, hx, hm⟩⟩
  rintro ⟨n, hn, -, hi⟩
  obtain ⟨m, rfl⟩ : ∃ m, n = mn + m := ⟨n - mn, by omega⟩
  obtain ⟨x, hx, hm⟩ := iter_add.1 hi
  exact ⟨x, hx, m, hm⟩
 | .rep k mn (some m), p, ok, h => by
  have hk : ∀ p, Lies ins p (k.code p) → Does ins s part (k.M s) p (p + k.len) := fun p hl => code_does k p ok.1 hl
  have h1 := Does.rep (code_len k) hk mn p (Lies.left h)
  have hr := Lies.right h (repC_len (code_len k) mn p)
  have h3 := Does.opt (code_len k) hk (m - mn) (p + mn * k.len) rfl hr
  have h4 := h1.seq h3
  have e2 : p + Re.len (.rep k mn (some m)) = p + mn * k.len + (m - mn) * (k.len + 1) := by simp only [Re.len]; omega
  rw [e2]
  have hmn : mn ≤ m := ok.2 m rfl
  refine h4.congr fun i j => ⟨?_, ?_⟩
  ·rintro ⟨x, hx, y, hy, hm⟩
   exact ⟨mn + y, by omega, fun _ e => (by cases e; omega), iter_add.2 ⟨x, hx, hm⟩⟩
  rintro ⟨n, hn, hn2, hi⟩
  have := hn2 m rfl
  obtain ⟨y, rfl⟩ : ∃ y, n = mn + y := ⟨n - mn, by omega⟩
  obtain ⟨x, hx, hm⟩ := iter_add.1 hi
  exact ⟨x, hx, y, by omega, hm⟩
 | .bgn, p, _, h => Does.one h.head (.inr (.inl ⟨rfl, fun _ _ => Iff.rfl⟩))
 | .fin, p, _, h => Does.one h.head (.inr (.inr ⟨rfl, fun _ _ => Iff.rfl⟩))
theorem codes_does : ∀ (l : List Re) (p : Nat), oks l → Lies ins p (codes l p) → Does ins s part (Ms s l) p (p + lens l)
 | [], p, _, _ => Does.here p
 | t :: ts, p, ok, h => by
  have h1 := code_does t p ok.1 (Lies.left h)
  have h2 := codes_does ts (p + t.len) ok.2 (Lies.right h (code_len t p))
  have := h1.seq h2
  rw [show p + lens (t :: ts) = p + t.len + lens ts by simp only [lens]; omega]
  exact this
theorem altC_does : ∀ (l : List Re) (p e : Nat), l ≠ [] → oks l → e = p + altLen l → Lies ins p (altC l p e) → Does ins s part (Ma s l) p e
 | [], _, _, hne, _, _, _ => absurd rfl hne
 | [t], p, e, _, ok, he, h => by
  have h1 := code_does t p ok.1 h
  rw [he]
  exact h1.congr fun i j => ⟨Or.inl, fun h => h.elim id False.elim⟩
 | t :: u :: ts, p, e, _, ok, he, h => by
  have h0 := Lies.head h
  have ht := Lies.tail h
  have h1 := code_does t (p + 1) ok.1 ht.left
  have hb := ht.right (code_len t _)
  have hj := hb.head
  have h2 := altC_does (u :: ts) (p + (t.len + 2)) e (by simp) ok.2 (by rw [he]; simp only [altLen]; omega) (by
   have := hb.tail
   rwa [show p + 1 + t.len + 1 = p + (t.len + 2) by omega] at this)
  refine ⟨fun i j hr ha => ?_, fun n i ha => ?_⟩
  ·rcases hr with hr | hr
   ·exact Acc.left h0 rfl (h1.1 i j hr (Acc.left hj rfl ha))
   exact Acc.right h0 rfl (h2.1 i j hr ha)
  cases n with
  | zero => exact ha.elim
  | succ n =>
   obtain ⟨c', hc', ha⟩ := ha
   rw [h0] at hc'
   cases hc'
   rcases ha with ⟨e, _⟩ | ⟨_, ha⟩ | ⟨e, _⟩ | ⟨e, _⟩ | ⟨e, _⟩
   ·cases e
   ·rcases ha with ha | ha
    ·obtain ⟨j, m, hr, hm, hb⟩ := h1.2 n i ha
     cases m with
     | zero => exact hb.elim
     | succ m =>
      obtain ⟨c', hc', hb⟩ := hb
      rw [hj] at hc'
      cases hc'
      rcases hb with ⟨e, _⟩ | ⟨_, hb⟩ | ⟨e, _⟩ | ⟨e, _⟩ | ⟨e, _⟩
      ·cases e
      ·exact ⟨j, m, .inl hr, by omega, hb.elim id id⟩
      ·cases e
      ·cases e
      cases e
    obtain ⟨j, m, hr, hm, hb⟩ := h2.2 n i ha
    exact ⟨j, m, .inr hr, by omega, hb⟩
   ·cases e
   ·cases e
   cases e
end
def progR (t : Re) : List InstP := t.code 0 ++ [⟨4, 0, 0, []⟩]
theorem acc_prog {t : Re} (ok : t.ok) (i : Nat) : Acc (progR t) s part 0 i ↔ ∃ j, t.M s i j ∧ (part = true ∨ j = s.length) := by
 have hl : Lies (progR t) 0 (t.code 0) := fun k c hk => by
  have := (List.getElem?_eq_some_iff.1 hk).1
  rw [Nat.zero_add, progR, List.getElem?_append_left this]; exact hk
 have hm : (progR t)[t.len]? = some ⟨4, 0, 0, []⟩ := by
  rw [progR, List.getElem?_append_right (by rw [code_len]; exact Nat.le_refl _), code_len, Nat.sub_self]; rfl
 have h := code_does (s := s) (part := part) t 0 ok hl
 rw [Nat.zero_add] at h
 constructor
 ·rintro ⟨n, ha⟩
  obtain ⟨j, m, hr, -, hb⟩ := h.2 n i ha
  refine ⟨j, hr, ?_⟩
  cases m with
  | zero => exact hb.elim
  | succ m =>
   obtain ⟨c', hc', hb⟩ := hb
   rw [hm] at hc'
   cases hc'
   rcases hb with ⟨e, _⟩ | ⟨e, _⟩ | ⟨e, _⟩ | ⟨e, _⟩ | ⟨_, e⟩
   ·cases e
   ·cases e
   ·cases e
   ·cases e
   exact e
 rintro ⟨j, hr, hj⟩
 exact h.1 i j hr ⟨1, _, hm, .inr (.inr (.inr (.inr ⟨rfl, hj⟩)))⟩
end
end Garner
