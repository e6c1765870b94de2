import Derived.Test.YtecejnilajbdpaaGreatDoorTs06
import Derived.Lib.IndexMore
import Derived.Lib.RuneBytes
namespace Garner
open Go
structure MatP where
 name : Bs
 op : Int
 val : Bs
structure FilP where
 op : Int
 text : Bs
structure QueryP where
 ms : List MatP
 fs : List FilP
structure RecP where
 time : Int
 seq : Int
 labels : List (Bs × Bs)
 line : Bs
def opOk (o : Int) : Bool := decide (1 ≤ o) && decide (o ≤ 4)
def likeO (o : Int) : Bool := decide (o = 3) || decide (o = 4)
def notO (o : Int) : Bool := decide (o = 2) || decide (o = 4)
def nameC (f : Bool) (c : UInt8) : Bool := decide (c.toNat = 95) || (decide (97 ≤ c.toNat) && decide (c.toNat ≤ 122)) || (!f && (decide (48 ≤ c.toNat) && decide (c.toNat ≤ 57)))
def nameAll : Bool → Bs → Bool
 | _, [] => true
 | f, c :: r => nameC f c && nameAll false r
def nameP (s : Bs) : Bool := decide (1 ≤ s.length) && decide (s.length ≤ 32) && nameAll true s
def MatP.part (m : MatP) : FilP := ⟨m.op, m.val⟩
def partsQ (q : QueryP) : List FilP := q.ms.map MatP.part ++ q.fs
noncomputable def patOk (f : FilP) : Bool := !likeO f.op || (match rexpP f.text with | .ok _ => true | .error _ => false)
def matOk (m : MatP) : Bool := nameP m.name && opOk m.op
def filOk (f : FilP) : Bool := opOk f.op
def utfOk (f : FilP) : Bool := Lib.validD f.text
noncomputable def checkQ (q : QueryP) : Nat :=
 if 16 < q.ms.length ∨ 16 < q.fs.length then 3
 else if q.ms.all matOk = false then 50
 else if q.fs.all filOk = false then 50
 else if (partsQ q).all utfOk = false then 8
 else if (partsQ q).all patOk = false then 40 else 0
def findP : List (Bs × Bs) → Bs → Bs
 | [], _ => []
 | x :: r, n => if x.1 = n then x.2 else findP r n
noncomputable def patWhole (p s : Bs) : Bool := match rexpP p with
 | .ok t => wholeB t (runesP s)
 | .error _ => false
noncomputable def patPart (p s : Bs) : Bool := match rexpP p with
 | .ok t => partB t (runesP s)
 | .error _ => false
noncomputable def matYes (m : MatP) (r : RecP) : Bool := if likeO m.op then patWhole m.val (findP r.labels m.name) else decide (findP r.labels m.name = m.val)
noncomputable def filYes (f : FilP) (r : RecP) : Bool := if likeO f.op then patPart f.text r.line else Lib.contains r.line f.text
noncomputable def matHolds (r : RecP) (m : MatP) : Bool := matYes m r != notO m.op
noncomputable def filHolds (r : RecP) (f : FilP) : Bool := filYes f r != notO f.op
noncomputable def holdsQ (q : QueryP) (r : RecP) : Bool := q.ms.all (matHolds r) && q.fs.all (filHolds r)
theorem all_take {α : Type} (f : α → Bool) {l : List α} {k : Nat} {x : α} (h : l[k]? = some x) : (l.take (k + 1)).all f = ((l.take k).all f && f x) := by
 rw [List.take_add_one, h, Option.toList_some, List.all_append]
 simp
theorem all_false {α : Type} (f : α → Bool) {l : List α} {k : Nat} {x : α} (h : l[k]? = some x) (hf : f x = false) : l.all f = false := by
 rw [List.all_eq_false]
 exact ⟨x, List.mem_of_getElem? h, by rw [hf]; simp⟩
theorem check_zero {q : QueryP} (h : checkQ q = 0) : ¬ (16 < q.ms.length ∨ 16 < q.fs.length) ∧ q.ms.all matOk = true ∧ q.fs.all filOk = true ∧ (partsQ q).all utfOk = true ∧ (partsQ q).all patOk = true := by
 unfold checkQ at h
 by_cases h1 : 16 < q.ms.length ∨ 16 < q.fs.length
 ·rw [if_pos h1] at h; cases h
 rw [if_neg h1] at h
 cases h2 : q.ms.all matOk with
 | false => rw [if_pos h2] at h; cases h
 | true =>
  rw [if_neg (by rw [h2]; decide)] at h
  cases h3 : q.fs.all filOk with
  | false => rw [if_pos h3] at h; cases h
  | true =>
   rw [if_neg (by rw [h3]; decide)] at h
   cases h4 : (partsQ q).all utfOk with
   | false => rw [if_pos h4] at h; cases h
   | true =>
    rw [if_neg (by rw [h4]; decide)] at h
    cases h5 : (partsQ q).all patOk with
    | false => rw [if_pos h5] at h; cases h
    | true => exact ⟨h1, rfl, rfl, rfl, rfl⟩
def strB (s : Bs) : Value := .string ⟨s.toArray⟩
def MatP.cells (m : MatP) : List Value := [strB m.name, .int .i64 m.op, strB m.val]
def FilP.cells (f : FilP) : List Value := [.int .i64 f.op, strB f.text]
def labCells (x : Bs × Bs) : List Value := [strB x.1, strB x.2]
theorem cells3_at {α : Type} {f : α → List Value} {n : Nat} (hf : ∀ x, (f x).length = n) : ∀ {ls : List α} {k : Nat} {x : α}, ls[k]? = some x → ∀ j, j < n → (ls.flatMap f)[k * n + j]? = (f x)[j]?
 | [], k, x, h, j, hj => by simp at h
 | y :: ls, 0, x, h, j, hj => by
  simp at h; subst h
  rw [List.flatMap_cons, List.getElem?_append_left (by rw [hf]; omega), Nat.zero_mul, Nat.zero_add]
 | y :: ls, k + 1, x, h, j, hj => by
  have ih := cells3_at hf (ls := ls) (k := k) (x := x) (by simpa using h) j hj
  have hl := hf y
  have e : (k + 1) * n = k * n + n := Nat.succ_mul k n
  rw [List.flatMap_cons, List.getElem?_append_right (by omega), hl, show (k + 1) * n + j - n = k * n + j by omega]
  exact ih
theorem contains_iff {l p : Bs} : Lib.contains l p = true ↔ ∃ a b, l = a ++ p ++ b := by
 unfold Lib.contains
 rw [decide_eq_true_iff]
 rcases Lib.index_spec l p with ⟨h1, h2⟩ | ⟨i, h1, h2, h3, -⟩
 ·rw [h1]
  constructor
  ·intro h; omega
  ·rintro ⟨a, b, e⟩
   have := h2 a.length (by rw [e]; simp)
   rw [e] at this
   unfold Lib.occAt at this
   rw [List.append_assoc, List.drop_left] at this
   rw [List.isPrefixOf_iff_prefix.2 ⟨b, rfl⟩] at this
   cases this
 ·rw [h1]
  refine ⟨fun _ => ?_, fun _ => by omega⟩
  unfold Lib.occAt at h3
  obtain ⟨t, ht⟩ := List.isPrefixOf_iff_prefix.1 h3
  exact ⟨l.take i, t, by rw [List.append_assoc, ht, List.take_append_drop]⟩
end Garner
