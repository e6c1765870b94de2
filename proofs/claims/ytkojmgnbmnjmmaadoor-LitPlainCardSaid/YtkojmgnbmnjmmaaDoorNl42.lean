import Derived.Test.YtkojmgnbmnjmmaaDoorNl39
import Derived.Test.YtkojmgnbmnjmmaaDoorNl30
import Derived.Lib.Small
/-! lit, plain: what a tree needs -/
namespace Garner
open Go
def encR (r : Nat) : Bs := Lib.encodeRune (r : Int)
/-- a plain tree's rune -/
def litP : Re → Option Nat
  | .set [a, b] => if a = b ∧ a ≠ 65533 then some a else none
  | _ => none
def addL (run : Bs) : List Bs := if run = [] then [] else [run]
mutual
/-- what kids need that stand one behind the other, behind a run -/
def litRow : List Re → Bs → List Bs
  | [], run => addL run
  | t :: ts, run => match litP t with
    | some r => litRow ts (run ++ encR r)
    | none => addL run ++ (litSub t ++ litRow ts [])
def litSub : Re → List Bs
  | .emp => []
  | .set _ => []
  | .seq l => litRow l []
  | .alt _ => []
  | .rep k mn _ => if 0 < mn then (match litP k with | some r => addL (encR r) | none => litSub k) else []
  | .bgn => []
  | .fin => []
end
def litT (t : Re) : List Bs := litRow [t] []
def needsP (t : Re) : List Bs := onceB (litT t)
theorem litT_eq (t : Re) : litT t = match litP t with | some r => addL (encR r) | none => litSub t := by
  unfold litT
  rw [litRow]
  split <;> simp [litRow, addL]
theorem litSub_rep (k : Re) (mn : Nat) (mx : Option Nat) : litSub (.rep k mn mx) = if 0 < mn then litT k else [] := by
  rw [litSub, litT_eq]
theorem litRow_none {t : Re} (h : litP t = none) (ts : List Re) (run : Bs) : litRow (t :: ts) run = addL run ++ (litSub t ++ litRow ts []) := by rw [litRow, h]
theorem litRow_some {t : Re} {r : Nat} (h : litP t = some r) (ts : List Re) (run : Bs) : litRow (t :: ts) run = litRow ts (run ++ encR r) := by rw [litRow, h]
theorem encR_ne (r : Nat) : encR r ≠ [] := by
  unfold encR Lib.encodeRune Lib.encodeRuneZ
  intro h
  rw [List.map_eq_nil_iff] at h
  split at h
  · cases h
  split at h
  · cases h
  split at h
  · cases h
  split at h
  · cases h
  · cases h
theorem litT_some {t : Re} {r : Nat} (h : litP t = some r) : litT t = [encR r] := by
  rw [litT_eq, h]
  simp [addL, encR_ne]
theorem litT_none {t : Re} (h : litP t = none) : litT t = litSub t := by rw [litT_eq, h]
/-- two patterns with a class between them -/
theorem joins_lit {a b : Re} {m : List Nat} (hm : litP (.set m) = none) : litT (.seq [a, .set m, b]) = litT a ++ litT b := by
  rw [litT_none rfl, litSub]
  have h2 : ∀ run, litRow [.set m, b] run = addL run ++ litT b := fun run => by
    rw [litRow_none hm, litSub, List.nil_append]; rfl
  cases ha : litP a with
  | some r =>
    rw [litRow_some ha, h2, litT_some ha]
    simp [addL, encR_ne]
  | none =>
    rw [litRow_none ha, h2, litT_none ha]
    simp [addL]
theorem alt_lit (l : List Re) : litT (.alt l) = [] := by rw [litT_none rfl, litSub]
theorem rep_lit (k : Re) (mn : Nat) (mx : Option Nat) : litT (.rep k mn mx) = if 0 < mn then litT k else [] := by rw [litT_none rfl, litSub_rep]
/-- a row of plain runes -/
theorem litP_lit {r : Nat} (h : r ≠ 65533) : litP (litS r) = some r := by simp [litP, h]
theorem litRow_lits : ∀ (rs : List Nat) (run : Bs), (∀ r ∈ rs, r ≠ 65533) → litRow (rs.map litS) run = addL (run ++ encT rs)
  | [], run, _ => by simp [litRow, encT]
  | r :: rs, run, h => by
    rw [List.map_cons, litRow_some (litP_lit (h r (by simp))), litRow_lits rs _ fun x hx => h x (by simp [hx])]
    simp [encT, encR]
theorem rowOf_one (t : Re) : rowOf [t] = t := by simp [rowOf, manyR]
theorem rowOf_two (t u : Re) (l : List Re) : rowOf (t :: u :: l) = .seq (t :: u :: l) := by simp [rowOf, manyR]
theorem litP_seq (l : List Re) : litP (.seq l) = none := by simp [litP]
theorem plain_lit (rs : List Nat) (h : ∀ r ∈ rs, r ≠ 65533) : litT (rowOf (rs.map litS)) = addL (encT rs) := by
  cases rs with
  | nil =>
    have e : rowOf (([] : List Nat).map litS) = .emp := by simp [rowOf]
    rw [e, litT_eq]
    simp [litP, litSub, addL, encT]
  | cons r rs =>
    have h1 := litRow_lits (r :: rs) [] h
    rw [List.nil_append] at h1
    cases rs with
    | nil =>
      rw [List.map_cons, List.map_nil] at h1 ⊢
      rw [rowOf_one, litT, h1]
    | cons s rs =>
      rw [List.map_cons, List.map_cons] at h1 ⊢
      rw [rowOf_two, litT_none (litP_seq _), litSub, h1]
theorem onceB_append (a b : List Bs) : onceB (onceB a ++ onceB b) = onceB (a ++ b) := onceB_eq fun x => by
  rw [List.mem_append, mem_onceB, mem_onceB, List.mem_append]
theorem onceB_once (a : List Bs) : onceB (onceB a) = onceB a := onceB_of_asc (onceB_asc a)
end Garner
/-! text, plain: runs of word runes -/
namespace Garner
open Go
def wordR (r : Nat) : Bool := if (48 ≤ r ∧ r ≤ 57) ∨ (97 ≤ r ∧ r ≤ 122) ∨ (65 ≤ r ∧ r ≤ 90) ∨ r = 95 then true else if r < 192 ∨ r = 215 ∨ r = 247 ∨ (8192 ≤ r ∧ r ≤ 8303) ∨ (12288 ≤ r ∧ r ≤ 12351) then false else decide (r ≠ 65533) && Lib.validRune (r : Int)
def smallR (r : Nat) : Nat := if (65 ≤ r ∧ r ≤ 90) ∨ (192 ≤ r ∧ r ≤ 222 ∧ r ≠ 215) ∨ (913 ≤ r ∧ r ≤ 937 ∧ r ≠ 930) ∨ (1040 ≤ r ∧ r ≤ 1071) then r + 32 else if 1024 ≤ r ∧ r ≤ 1039 then r + 80 else if r = 376 then 255 else r
theorem smallR_le {r : Nat} (h : r ≤ 1114111) : smallR r ≤ 1114111 := by
  unfold smallR
  split
  · omega
  split
  · omega
  split
  · omega
  · exact h
/-- runes, and where they begin -/
def itemsGo : Nat → Nat → Bs → List (Nat × Nat)
  | 0, _, _ => []
  | n + 1, pos, l => if l = [] then [] else (pos, (Lib.decodeL l).1) :: itemsGo n (pos + (Lib.decodeL l).2) (l.drop (Lib.decodeL l).2)
def itemsOf (pos : Nat) (l : Bs) : List (Nat × Nat) := itemsGo l.length pos l
theorem itemsGo_fuel : ∀ (n m pos : Nat) (l : Bs), l.length ≤ n → l.length ≤ m → itemsGo n pos l = itemsGo m pos l
  | 0, m, pos, l, h, _ => by
    rw [List.eq_nil_of_length_eq_zero (by omega : l.length = 0)]
    cases m <;> simp [itemsGo]
  | n + 1, 0, pos, l, _, h => by
    rw [List.eq_nil_of_length_eq_zero (by omega : l.length = 0)]
    simp [itemsGo]
  | n + 1, m + 1, pos, l, h1, h2 => by
    unfold itemsGo
    by_cases hl : l = []
    · rw [if_pos hl, if_pos hl]
    · have hw := Lib.decodeL_width l
      have := List.length_pos_iff.2 hl
      rw [if_neg hl, if_neg hl, itemsGo_fuel n m _ _ (by rw [List.length_drop]; omega) (by rw [List.length_drop]; omega)]
theorem items_step {pos : Nat} {l : Bs} (hl : l ≠ []) : itemsOf pos l = (pos, (Lib.decodeL l).1) :: itemsOf (pos + (Lib.decodeL l).2) (l.drop (Lib.decodeL l).2) := by
  have hw := Lib.decodeL_width l
  have hp := List.length_pos_iff.2 hl
  obtain ⟨n, hn⟩ : ∃ n, l.length = n + 1 := ⟨l.length - 1, by omega⟩
  unfold itemsOf
  rw [hn]
  conv => lhs; unfold itemsGo
  rw [if_neg hl, itemsGo_fuel n _ _ _ (by rw [List.length_drop]; omega) (Nat.le_refl _)]
theorem items_nil (pos : Nat) : itemsOf pos [] = [] := rfl
/-- a run: its word, where it begins and ends -/
structure RunP where
  word : List Nat
  fr : Nat
  to : Nat
def bumpT (x : Nat × Nat) (u : RunP) : RunP := ⟨if u.word.length < 32 then u.word ++ [smallR x.2] else u.word, u.fr, x.1 + (encR x.2).length⟩
def lastT (f : RunP → RunP) : List RunP → List RunP
  | [] => []
  | [u] => [f u]
  | u :: v :: r => u :: lastT f (v :: r)
theorem lastT_snoc (f : RunP → RunP) : ∀ (l : List RunP) (u : RunP), lastT f (l ++ [u]) = l ++ [f u]
  | [], u => rfl
  | [v], u => rfl
  | v :: w :: r, u => by
    have := lastT_snoc f (w :: r) u
    simp only [List.cons_append] at this ⊢
    rw [lastT, this]
def runStep (st : List RunP × Bool) (x : Nat × Nat) : List RunP × Bool :=
  if wordR x.2 = true then (lastT (bumpT x) (if st.2 = true then st.1 else st.1 ++ [⟨[], x.1, 0⟩]), true) else (st.1, false)
def runsAt (its : List (Nat × Nat)) : List RunP × Bool := its.foldl runStep ([], false)
def runsT (l : Bs) : List RunP := (runsAt (itemsOf 0 l)).1
theorem runsAt_snoc (its : List (Nat × Nat)) (x : Nat × Nat) : runsAt (its ++ [x]) = runStep (runsAt its) x := by simp [runsAt]
/-- so many runes are behind -/
structure ItAt (l : Bs) (its : List (Nat × Nat)) (pos k : Nat) : Prop where
  at_ : its.drop k = itemsOf pos (l.drop pos)
  le : k ≤ its.length
theorem ItAt.start (l : Bs) : ItAt l (itemsOf 0 l) 0 0 := ⟨rfl, Nat.zero_le _⟩
theorem ItAt.next {l : Bs} {its : List (Nat × Nat)} {pos k r q : Nat} (h : ItAt l its pos k) (hp : pos < l.length) (hd : Utf8.decode ⟨l.toArray⟩ pos = (r, q)) : its[k]? = some (pos, r) ∧ ItAt l its (pos + q) (k + 1) := by
  have hdd := Lib.decodeL_drop ⟨l.toArray⟩ pos
  have e : (⟨l.toArray⟩ : ByteArray).data.toList = l := by simp
  rw [e, hd] at hdd
  have hne : l.drop pos ≠ [] := fun e => by
    have := congrArg List.length e
    rw [List.length_drop] at this
    simp only [List.length_nil] at this
    omega
  have h1 := h.at_.trans (items_step hne)
  rw [hdd, List.drop_drop] at h1
  have hk : its[k]? = some (pos, r) := by
    have : (its.drop k)[0]? = some (pos, r) := by rw [h1]; rfl
    rwa [List.getElem?_drop, Nat.add_zero] at this
  have hlt := (List.getElem?_eq_some_iff.1 hk).1
  refine ⟨hk, ?_, hlt⟩
  have : (its.drop k).drop 1 = itemsOf (pos + q) (l.drop (pos + q)) := by rw [h1]; rfl
  rwa [List.drop_drop] at this
theorem ItAt.done {l : Bs} {its : List (Nat × Nat)} {pos k : Nat} (h : ItAt l its pos k) (hp : ¬ pos < l.length) : its.take k = its := by
  have h1 := h.at_
  rw [List.drop_eq_nil_of_le (by omega : l.length ≤ pos), items_nil] at h1
  have := congrArg List.length h1
  rw [List.length_drop] at this
  have h2 := h.le
  have h3 : ([] : List (Nat × Nat)).length = 0 := rfl
  exact List.take_of_length_le (by omega)
theorem take_snoc {its : List (Nat × Nat)} {k : Nat} {x : Nat × Nat} (h : its[k]? = some x) : its.take (k + 1) = its.take k ++ [x] := by rw [List.take_add_one, h]; rfl
/-- the words that stand between other runes -/
def innerT (l : Bs) : List Bs := ((runsT l).filter fun u => decide (0 < u.fr) && decide (u.to < l.length)).map fun u => encT u.word
def innerP (l : Bs) : List Bs := onceB (innerT l)
def wordsT (l : Bs) : List Bs := (runsT l).map fun u => encT u.word
theorem runStep_len (st : List RunP × Bool) (x : Nat × Nat) : (runStep st x).1.length ≤ st.1.length + 1 := by
  have h : ∀ (f : RunP → RunP) (l : List RunP), (lastT f l).length = l.length := fun f l => by
    induction l with
    | nil => rfl
    | cons u r ih => cases r with
      | nil => rfl
      | cons v r => rw [lastT, List.length_cons, ih]; rfl
  unfold runStep
  split
  · rw [h]; split <;> simp
  · simp
theorem runsAt_len (its : List (Nat × Nat)) : (runsAt its).1.length ≤ its.length := by
  have key : ∀ (l : List (Nat × Nat)) (st : List RunP × Bool), (l.foldl runStep st).1.length ≤ st.1.length + l.length := by
    intro l
    induction l with
    | nil => intro st; simp
    | cons x r ih =>
      intro st
      have h1 := ih (runStep st x)
      have h2 := runStep_len st x
      rw [List.foldl_cons, List.length_cons]; omega
  have h := key its ([], false)
  simpa [runsAt] using h
theorem itemsGo_len : ∀ (n pos : Nat) (l : Bs), l.length ≤ n → (itemsGo n pos l).length ≤ l.length
  | 0, pos, l, h => by simp [itemsGo]
  | n + 1, pos, l, h => by
    unfold itemsGo
    by_cases hl : l = []
    · rw [if_pos hl]; simp
    · have hw := Lib.decodeL_width l
      have hp := List.length_pos_iff.2 hl
      have ih := itemsGo_len n (pos + (Lib.decodeL l).2) (l.drop (Lib.decodeL l).2) (by rw [List.length_drop]; omega)
      rw [if_neg hl, List.length_cons]
      rw [List.length_drop] at ih
      omega
end Garner
/-! a rune's bytes: the model's words and the library's are the same -/
namespace Garner
open Go
theorem enc_list (r : Nat) : (Utf8.encode (r : Int)).data.toList = encR r := by
  unfold encR Lib.encodeRune
  have hcase : r < 128 ∨ (128 ≤ r ∧ r < 2048) ∨ (2048 ≤ r ∧ r < 65536 ∧ (r < 55296 ∨ 57343 < r)) ∨ (65536 ≤ r ∧ r ≤ 1114111) ∨ ((55296 ≤ r ∧ r ≤ 57343) ∨ 1114111 < r) := by omega
  rcases hcase with h | h | h | h | h
  · have v : Utf8.valid (r : Int) = true := by simp [Utf8.valid]; omega
    rw [Lib.encodeRuneZ_one (by omega) (by omega)]
    simp [Utf8.encode, v, h]
  · have v : Utf8.valid (r : Int) = true := by simp [Utf8.valid]; omega
    rw [Lib.encodeRuneZ_two (by omega) (by omega)]
    simp [Utf8.encode, v, show ¬ r < 128 by omega, h.2]
    constructor <;> (apply UInt8.toNat_inj.1; simp; omega)
  · have v : Utf8.valid (r : Int) = true := by simp [Utf8.valid]; omega
    rw [Lib.encodeRuneZ_three (by omega)]
    simp [Utf8.encode, v, show ¬ r < 128 by omega, show ¬ r < 2048 by omega, h.2.1]
    refine ⟨?_, ?_, ?_⟩ <;> (apply UInt8.toNat_inj.1; simp; omega)
  · have v : Utf8.valid (r : Int) = true := by simp [Utf8.valid]; omega
    rw [Lib.encodeRuneZ_four (by omega) (by omega)]
    simp [Utf8.encode, v, show ¬ r < 128 by omega, show ¬ r < 2048 by omega, show ¬ r < 65536 by omega]
    refine ⟨?_, ?_, ?_, ?_⟩ <;> (apply UInt8.toNat_inj.1; simp; omega)
  · have v : Utf8.valid (r : Int) = false := by simp [Utf8.valid]; omega
    rw [Lib.encodeRuneZ_bad (by omega)]
    simp [Utf8.encode, v, Utf8.runeError]
theorem enc_size (r : Nat) : (Utf8.encode (r : Int)).size = (encR r).length := by rw [Lib.size_eq, enc_list]
theorem encR_len (r : Nat) : (encR r).length ≤ 4 := by
  unfold encR Lib.encodeRune Lib.encodeRuneZ
  rw [List.length_map]
  split
  · simp
  split
  · simp
  split
  · simp
  split
  · simp
  · simp
end Garner
