import Derived.Lib.IndexMore
import Derived.Test.YtecejnilajbdpaaGreatDoorTz06
namespace Garner
open Go
structure MatP where
 name : Bs
 op : Int
 val : Bs
structure FilP where
 op : Int
 text : Bs
structure QueryP where
 ms : List MatP
 fs : List FilP
structure RecP where
 time : Int
 seq : Int
 labels : List (Bs × Bs)
 line : Bs
def opOk (o : Int) : Bool := decide (1 ≤ o) && decide (o ≤ 4)
def likeO (o : Int) : Bool := decide (o = 3) || decide (o = 4)
def notO (o : Int) : Bool := decide (o = 2) || decide (o = 4)
def nameC (f : Bool) (c : UInt8) : Bool := decide (c.toNat = 95) || (decide (97 ≤ c.toNat) && decide (c.toNat ≤ 122)) || (!f && (decide (48 ≤ c.toNat) && decide (c.toNat ≤ 57)))
def nameAll : Bool → Bs → Bool
 | _, [] => true
 | f, c :: r => nameC f c && nameAll false r
def nameP (s : Bs) : Bool := decide (1 ≤ s.length) && decide (s.length ≤ 32) && nameAll true s
def MatP.part (m : MatP) : FilP := ⟨m.op, m.val⟩
def partsQ (q : QueryP) : List FilP := q.ms.map MatP.part ++ q.fs
noncomputable def patOk (f : FilP) : Bool := !likeO f.op || (match rexpP f.text with | .ok _ => true | .error _ => false)
def matOk (m : MatP) : Bool := nameP m.name && opOk m.op
def filOk (f : FilP) : Bool := opOk f.op
def utfOk (f : FilP) : Bool := Lib.validD f.text
noncomputable def checkQ (q : QueryP) : Nat :=
 if 16 < q.ms.length ∨ 16 < q.fs.length then 3
 else if q.ms.all matOk = false then 50
 else if q.fs.all filOk = false then 50
 else if (partsQ q).all utfOk = false then 8
 else if (partsQ q).all patOk = false then 40 else 0
def findP : List (Bs × Bs) → Bs → Bs
 | [], _ => []
 | x :: r, n => if x.1 = n then x.2 else findP r n
noncomputable def patWhole (p s : Bs) : Bool := match rexpP p with
 | .ok t => wholeB t (runesP s)
 | .error _ => false
noncomputable def patPart (p s : Bs) : Bool := match rexpP p with
 | .ok t => partB t (runesP s)
 | .error _ => false
noncomputable def matYes (m : MatP) (r : RecP) : Bool := if likeO m.op then patWhole m.val (findP r.labels m.name) else decide (findP r.labels m.name = m.val)
noncomputable def filYes (f : FilP) (r : RecP) : Bool := if likeO f.op then patPart f.text r.line else Lib.contains r.line f.text
noncomputable def matHolds (r : RecP) (m : MatP) : Bool := matYes m r != notO m.op
noncomputable def filHolds (r : RecP) (f : FilP) : Bool := filYes f r != notO f.op
noncomputable def holdsQ (q : QueryP) (r : RecP) : Bool := q.ms.all (matHolds r) && q.fs.all (filHolds r)
theorem all_take {α : Type} (f : α → Bool) {l : List α} {k : Nat} {x : α} (h : l[k]? = some x) : (l.take (k + 1)).all f = ((l.take k).all f && f x) := by
 rw [List.take_add_one, h, Option.toList_some, List.all_append]
 simp
theorem all_false {α : Type} (f : α → Bool) {l : List α} {k : Nat} {x : α} (h : l[k]? = some x) (hf : f x = false) : l.all f = false := by
 rw [List.all_eq_false]
 exact ⟨x, List.mem_of_getElem? h, by rw [hf]; simp⟩
theorem check_zero {q : QueryP} (h : checkQ q = 0) : ¬ (16 < q.ms.length ∨ 16 < q.fs.length) ∧ q.ms.all matOk = true ∧ q.fs.all filOk = true ∧ (partsQ q).all utfOk = true ∧ (partsQ q).all patOk = true := by
 unfold checkQ at h
 by_cases h1 : 16 < q.ms.length ∨ 16 < q.fs.length
 ·rw [if_pos h1] at h; cases h
 rw [if_neg h1] at h
 cases h2 : q.ms.all matOk with
 | false => rw [if_pos h2] at h; cases h
 | true =>
  rw [if_neg (by rw [h2]; decide)] at h
  cases h3 : q.fs.all filOk with
  | false => rw [if_pos h3] at h; cases h
  | true =>
   rw [if_neg (by rw [h3]; decide)] at h
   cases h4 : (partsQ q).all utfOk with
   | false => rw [if_pos h4] at h; cases h
   | true =>
    rw [if_neg (by rw [h4]; decide)] at h
    cases h5 : (partsQ q).all patOk with
    | false => rw [if_pos h5] at h; cases h
    | true => exact ⟨h1, rfl, rfl, rfl, rfl⟩
def strB (s : Bs) : Value := .string ⟨s.toArray⟩
def MatP.cells (m : MatP) : List Value := [strB m.name, .int .i64 m.op, strB m.val]
def FilP.cells (f : FilP) : List Value := [.int .i64 f.op, strB f.text]
def labCells (x : Bs × Bs) : List Value := [strB x.1, strB x.2]
theorem cells3_at {α : Type} {f : α → List Value} {n : Nat} (hf : ∀ x, (f x).length = n) : ∀ {ls : List α} {k : Nat} {x : α}, ls[k]? = some x → ∀ j, j < n → (ls.flatMap f)[k * n + j]? = (f x)[j]?
 | [], k, x, h, j, hj => by simp at h
 | y :: ls, 0, x, h, j, hj => by
  simp at h; subst h
  rw [List.flatMap_cons, List.getElem?_append_left (by rw [hf]; omega), Nat.zero_mul, Nat.zero_add]
 | y :: ls, k + 1, x, h, j, hj => by
  have ih := cells3_at hf (ls := ls) (k := k) (x := x) (by simpa using h) j hj
  have hl := hf y
  have e : (k + 1) * n = k * n + n := Nat.succ_mul k n
  rw [List.flatMap_cons, List.getElem?_append_right (by omega), hl, show (k + 1) * n + j - n = k * n + j by omega]
  exact ih
theorem contains_iff {l p : Bs} : Lib.contains l p = true ↔ ∃ a b, l = a ++ p ++ b := by
 unfold Lib.contains
 rw [decide_eq_true_iff]
 rcases Lib.index_spec l p with ⟨h1, h2⟩ | ⟨i, h1, h2, h3, -⟩
 ·rw [h1]
  constructor
  ·intro h; omega
  rintro ⟨a, b, e⟩
  have := h2 a.length (by rw [e]; simp)
  rw [e] at this
  unfold Lib.occAt at this
  rw [List.append_assoc, List.drop_left] at this
  rw [List.isPrefixOf_iff_prefix.2 ⟨b, rfl⟩] at this
  cases this
 rw [h1]
 refine ⟨fun _ => ?_, fun _ => by omega⟩
 unfold Lib.occAt at h3
 obtain ⟨t, ht⟩ := List.isPrefixOf_iff_prefix.1 h3
 exact ⟨l.take i, t, by rw [List.append_assoc, ht, List.take_append_drop]⟩
theorem contains_one {l : Bs} {c : UInt8} : Lib.contains l [c] = true ↔ c ∈ l := by
 rw [contains_iff]
 constructor
 ·rintro ⟨a, b, rfl⟩; simp
 intro h
 obtain ⟨a, b, rfl⟩ := List.append_of_mem h
 exact ⟨a, b, by simp⟩
def skipS : Bs → Bs
 | [] => []
 | c :: r => if c = 32 then skipS r else c :: r
def textG : Bs → Option (Bs × Bs)
 | [] => none
 | [c] => if c = 34 then some ([], []) else none
 | c :: d :: r =>
  if c = 34 then some ([], d :: r) else if c = 10 then none
  else if c = 92 then (if d = 34 ∨ d = 92 then (textG r).map fun x => (d :: x.1, x.2) else if d = 110 then (textG r).map fun x => (10 :: x.1, x.2) else none)
  else (textG (d :: r)).map fun x => (c :: x.1, x.2)
inductive Tk where
 | fin
 | bad
 | tok (t r : Bs)
def signs2 : List Bs := [[33, 61], [61, 126], [33, 126], [124, 61], [124, 126]]
def signs1 : List UInt8 := [123, 125, 44, 61]
def nameHead : Bs → Bs
 | [] => []
 | c :: r => if nameC false c then c :: nameHead r else []
def nameRest : Bs → Bs
 | [] => []
 | c :: r => if nameC false c then nameRest r else c :: r
def tok0 : Bs → Tk
 | [] => .fin
 | c :: r =>
  if (c :: r.take 1) ∈ signs2 then .tok (c :: r.take 1) (r.drop 1)
  else if c ∈ signs1 then .tok [c] r
  else if c = 34 then (match textG r with | some x => .tok (34 :: x.1) x.2 | none => .bad)
  else if nameC false c then .tok (nameHead (c :: r)) (nameRest (c :: r))
  else .bad
def tok1 (s : Bs) : Tk := tok0 (skipS s)
def toksF : Nat → Bs → Option (List Bs)
 | 0, _ => none
 | n + 1, s => match tok1 s with
  | .fin => some []
  | .bad => none
  | .tok t r => (toksF n r).map (t :: ·)
def toks (s : Bs) : Option (List Bs) := toksF (s.length + 1) s
def opOfM (t : Bs) : Int := if t = [61] then 1 else if t = [33, 61] then 2 else if t = [61, 126] then 3 else if t = [33, 126] then 4 else 0
def opOfF (t : Bs) : Int := if t = [124, 61] then 1 else if t = [33, 61] then 2 else if t = [124, 126] then 3 else if t = [33, 126] then 4 else 0
def isT (t : Bs) : Bool := match t with
 | [] => false
 | c :: _ => decide (c = 34)
def matsR : List Bs → Option (List MatP × List Bs)
 | n :: o :: v :: d :: r => if nameP n = true ∧ opOfM o ≠ 0 ∧ isT v = true then (if d = [44] then (matsR r).map fun x => (⟨n, opOfM o, v.tail⟩ :: x.1, x.2) else if d = [125] then some ([⟨n, opOfM o, v.tail⟩], r) else none) else none
 | _ => none
def filsR : List Bs → Option (List FilP)
 | [] => some []
 | [_] => none
 | o :: v :: r => if opOfF o ≠ 0 ∧ isT v = true then (filsR r).map (⟨opOfF o, v.tail⟩ :: ·) else none
def queryR : List Bs → Option QueryP
 | [] => none
 | t :: r => if t = [123] then (match r with
   | [] => none
   | u :: r2 => if u = [125] then (filsR r2).map fun f => ⟨[], f⟩ else (matsR (u :: r2)).bind fun x => (filsR x.2).map fun f => ⟨x.1, f⟩) else none
noncomputable def parseQ (s : Bs) : Except Nat QueryP :=
 if 512 < s.length then .error 4 else if Lib.validD s = false then .error 8 else match (toks s).bind queryR with
  | none => .error 50
  | some q => if checkQ q = 0 then .ok q else .error (checkQ q)
theorem skip_len : ∀ s : Bs, (skipS s).length ≤ s.length
 | [] => Nat.le_refl _
 | c :: r => by
  rw [skipS]
  split
  ·have := skip_len r; simp only [List.length_cons]; omega
  exact Nat.le_refl _
theorem skip_skip : ∀ s : Bs, skipS (skipS s) = skipS s
 | [] => rfl
 | c :: r => by
  rw [skipS]
  split
  ·exact skip_skip r
  rename_i h; rw [skipS, if_neg h]
theorem tok1_skip (s : Bs) : tok1 (skipS s) = tok1 s := by rw [tok1, skip_skip]; rfl
theorem textG_len : ∀ {s : Bs} {x : Bs × Bs}, textG s = some x → x.2.length < s.length
 | [], x, h => by cases h
 | [c], x, h => by
  rw [textG] at h
  split at h
  ·cases h; simp
  cases h
 | c :: d :: r, x, h => by
  rw [textG] at h
  split at h
  ·cases h; simp
  split at h
  ·cases h
  split at h
  ·split at h
   ·obtain ⟨y, hy, rfl⟩ := Option.map_eq_some_iff.1 h
    have := textG_len hy
    simp only [List.length_cons]; omega
   split at h
   ·obtain ⟨y, hy, rfl⟩ := Option.map_eq_some_iff.1 h
    have := textG_len hy
    simp only [List.length_cons]; omega
   cases h
  obtain ⟨y, hy, rfl⟩ := Option.map_eq_some_iff.1 h
  have := textG_len hy
  simp only [List.length_cons] at this ⊢; omega
theorem nameRest_len : ∀ s : Bs, (nameRest s).length ≤ s.length
 | [] => Nat.le_refl _
 | c :: r => by
  rw [nameRest]
  split
  ·have := nameRest_len r; simp only [List.length_cons]; omega
  exact Nat.le_refl _
theorem name_split : ∀ s : Bs, nameHead s ++ nameRest s = s
 | [] => rfl
 | c :: r => by
  rw [nameHead, nameRest]
  split
  ·rw [List.cons_append, name_split r]
  rfl
theorem tok0_len {s t r : Bs} (h : tok0 s = .tok t r) : r.length < s.length := by
 cases s with
 | nil => cases h
 | cons c s =>
  rw [tok0] at h
  split at h
  ·cases h; simp only [List.length_drop, List.length_cons]; omega
  split at h
  ·cases h; simp
  split at h
  ·split at h
   ·rename_i x hx; cases h; have := textG_len hx; simp only [List.length_cons]; omega
   cases h
  split at h
  ·rename_i hn
   cases h
   rw [nameRest, if_pos hn]
   have := nameRest_len s
   simp only [List.length_cons]; omega
  cases h
theorem tok1_len {s t r : Bs} (h : tok1 s = .tok t r) : r.length < s.length := by
 have := tok0_len h
 have := skip_len s
 omega
theorem toksF_enough : ∀ {n m : Nat} {s : Bs}, s.length < n → s.length < m → toksF n s = toksF m s
 | 0, m, s, h, _ => by omega
 | n + 1, 0, s, _, h => by omega
 | n + 1, m + 1, s, h1, h2 => by
  rw [toksF, toksF]
  cases e : tok1 s with
  | fin => rfl
  | bad => rfl
  | tok t r =>
   have := tok1_len e
   show (toksF n r).map _ = (toksF m r).map _
   rw [toksF_enough (n := n) (m := m) (by omega) (by omega)]
theorem toks_eq (s : Bs) : toks s = match tok1 s with
  | .fin => some []
  | .bad => none
  | .tok t r => (toks r).map (t :: ·) := by
 unfold toks
 rw [toksF]
 cases e : tok1 s with
 | fin => rfl
 | bad => rfl
 | tok t r =>
  have := tok1_len e
  show (toksF s.length r).map _ = (toksF (r.length + 1) r).map _
  rw [toksF_enough (n := s.length) (m := r.length + 1) (by omega) (by omega)]
theorem toks_fin {s : Bs} (h : tok1 s = .fin) : toks s = some [] := by rw [toks_eq, h]
theorem toks_bad {s : Bs} (h : tok1 s = .bad) : toks s = none := by rw [toks_eq, h]
theorem toks_tok {s t r : Bs} (h : tok1 s = .tok t r) : toks s = (toks r).map (t :: ·) := by rw [toks_eq, h]
def esc1 (c : UInt8) : Bs := if c = 34 ∨ c = 92 then [92, c] else if c = 10 then [92, 110] else [c]
def escP (s : Bs) : Bs := s.flatMap esc1
def quoteP (s : Bs) : Bs := 34 :: (escP s ++ [34])
def opM (o : Int) : Bs := if o = 1 then [61] else if o = 2 then [33, 61] else if o = 3 then [61, 126] else [33, 126]
def opF (o : Int) : Bs := if o = 1 then [124, 61] else if o = 2 then [33, 61] else if o = 3 then [124, 126] else [33, 126]
def matT (m : MatP) : Bs := m.name ++ (opM m.op ++ quoteP m.val)
def filT (f : FilP) : Bs := 32 :: (opF f.op ++ 32 :: quoteP f.text)
def joinC : List Bs → Bs
 | [] => []
 | [x] => x
 | x :: y :: r => x ++ 44 :: joinC (y :: r)
def printP (q : QueryP) : Bs := 123 :: (joinC (q.ms.map matT) ++ 125 :: q.fs.flatMap filT)
theorem textG_q (r : Bs) : textG (34 :: r) = some ([], r) := by cases r <;> rfl
theorem textG_c {c : UInt8} {t : Bs} (h1 : c ≠ 34) (h2 : c ≠ 10) (h3 : c ≠ 92) (ht : t ≠ []) : textG (c :: t) = (textG t).map fun x => (c :: x.1, x.2) := by
 cases t with
 | nil => exact absurd rfl ht
 | cons d r => rw [textG, if_neg h1, if_neg h2, if_neg h3]
theorem sign2_head {c : UInt8} {t : Bs} (h1 : c ≠ 33) (h2 : c ≠ 61) (h3 : c ≠ 124) : (c :: t) ∉ signs2 := by
 simp [signs2, h1, h2, h3]
theorem nameC_no {c : UInt8} {f : Bool} (h : nameC f c = true) : c ≠ 33 ∧ c ≠ 61 ∧ c ≠ 124 ∧ c ∉ signs1 ∧ c ≠ 34 ∧ c ≠ 32 := by
 have key : ∀ d : UInt8, nameC f d = false → c ≠ d := fun d hd e => by rw [e, hd] at h; cases h
 have k : ∀ d ∈ [(33 : UInt8), 61, 124, 123, 125, 44, 34, 32], nameC f d = false := by cases f <;> decide
 refine ⟨key _ (k _ (by simp)), key _ (k _ (by simp)), key _ (k _ (by simp)), ?_, key _ (k _ (by simp)), key _ (k _ (by simp))⟩
 have a1 := key _ (k 123 (by simp)); have a2 := key _ (k 125 (by simp)); have a3 := key _ (k 44 (by simp)); have a4 := key _ (k 61 (by simp))
 simp [signs1, a1, a2, a3, a4]
theorem nameC_more {c : UInt8} {f : Bool} (h : nameC f c = true) : nameC false c = true := by
 cases f with
 | false => exact h
 | true => unfold nameC at h ⊢; simp at h ⊢; omega
end Garner
