import Derived.Test.YtmcacicopgckmaaGreatDoorLn19
import Derived.Test.YtmcacicopgckmaaGreatDoorLn20
import Derived.Lib.Small
import Derived.Test.YtmcacicopgckmaaGreatDoorLn09
import Derived.Test.YtmcacicopgckmaaGreatDoorLn07
/-! lit, plain: what a tree needs -/
namespace Garner
open Go
def encR (r : Nat) : Bs := Lib.encodeRune (r : Int)
/-- a plain tree's rune -/
def litP : Re → Option Nat
  | .set [a, b] => if a = b ∧ a ≠ 65533 then some a else none
  | _ => none
def addL (run : Bs) : List Bs := if run = [] then [] else [run]
mutual
/-- what kids need that stand one behind the other, behind a run -/
def litRow : List Re → Bs → List Bs
  | [], run => addL run
  | t :: ts, run => match litP t with
    | some r => litRow ts (run ++ encR r)
    | none => addL run ++ (litSub t ++ litRow ts [])
def litSub : Re → List Bs
  | .emp => []
  | .set _ => []
  | .seq l => litRow l []
  | .alt _ => []
  | .rep k mn _ => if 0 < mn then (match litP k with | some r => addL (encR r) | none => litSub k) else []
  | .bgn => []
  | .fin => []
end
def litT (t : Re) : List Bs := litRow [t] []
def needsP (t : Re) : List Bs := onceB (litT t)
theorem litT_eq (t : Re) : litT t = match litP t with | some r => addL (encR r) | none => litSub t := by
  unfold litT
  rw [litRow]
  split <;> simp [litRow, addL]
theorem litSub_rep (k : Re) (mn : Nat) (mx : Option Nat) : litSub (.rep k mn mx) = if 0 < mn then litT k else [] := by
  rw [litSub, litT_eq]
theorem encR_ne (r : Nat) : encR r ≠ [] := by
  unfold encR Lib.encodeRune Lib.encodeRuneZ
  intro h
  rw [List.map_eq_nil_iff] at h
  split at h
  · cases h
  split at h
  · cases h
  split at h
  · cases h
  split at h
  · cases h
  · cases h
theorem litT_some {t : Re} {r : Nat} (h : litP t = some r) : litT t = [encR r] := by
  rw [litT_eq, h]
  simp [addL, encR_ne]
theorem litT_none {t : Re} (h : litP t = none) : litT t = litSub t := by rw [litT_eq, h]
theorem rep_lit (k : Re) (mn : Nat) (mx : Option Nat) : litT (.rep k mn mx) = if 0 < mn then litT k else [] := by rw [litT_none rfl, litSub_rep]
theorem litP_seq (l : List Re) : litP (.seq l) = none := by simp [litP]
end Garner

/-! text, plain: runs of word runes -/
namespace Garner
open Go
def wordR (r : Nat) : Bool := if (48 ≤ r ∧ r ≤ 57) ∨ (97 ≤ r ∧ r ≤ 122) ∨ (65 ≤ r ∧ r ≤ 90) ∨ r = 95 then true else if r < 192 ∨ r = 215 ∨ r = 247 ∨ (8192 ≤ r ∧ r ≤ 8303) ∨ (12288 ≤ r ∧ r ≤ 12351) then false else decide (r ≠ 65533) && Lib.validRune (r : Int)
def smallR (r : Nat) : Nat := if (65 ≤ r ∧ r ≤ 90) ∨ (192 ≤ r ∧ r ≤ 222 ∧ r ≠ 215) ∨ (913 ≤ r ∧ r ≤ 937 ∧ r ≠ 930) ∨ (1040 ≤ r ∧ r ≤ 1071) then r + 32 else if 1024 ≤ r ∧ r ≤ 1039 then r + 80 else if r = 376 then 255 else r
/-- runes, and where they begin -/
def itemsGo : Nat → Nat → Bs → List (Nat × Nat)
  | 0, _, _ => []
  | n + 1, pos, l => if l = [] then [] else (pos, (Lib.decodeL l).1) :: itemsGo n (pos + (Lib.decodeL l).2) (l.drop (Lib.decodeL l).2)
def itemsOf (pos : Nat) (l : Bs) : List (Nat × Nat) := itemsGo l.length pos l
theorem itemsGo_fuel : ∀ (n m pos : Nat) (l : Bs), l.length ≤ n → l.length ≤ m → itemsGo n pos l = itemsGo m pos l
  | 0, m, pos, l, h, _ => by
    rw [List.eq_nil_of_length_eq_zero (by omega : l.length = 0)]
    cases m <;> simp [itemsGo]
  | n + 1, 0, pos, l, _, h => by
    rw [List.eq_nil_of_length_eq_zero (by omega : l.length = 0)]
    simp [itemsGo]
  | n + 1, m + 1, pos, l, h1, h2 => by
    unfold itemsGo
    by_cases hl : l = []
    · rw [if_pos hl, if_pos hl]
    · have hw := Lib.decodeL_width l
      have := List.length_pos_iff.2 hl
      rw [if_neg hl, if_neg hl, itemsGo_fuel n m _ _ (by rw [List.length_drop]; omega) (by rw [List.length_drop]; omega)]
theorem items_step {pos : Nat} {l : Bs} (hl : l ≠ []) : itemsOf pos l = (pos, (Lib.decodeL l).1) :: itemsOf (pos + (Lib.decodeL l).2) (l.drop (Lib.decodeL l).2) := by
  have hw := Lib.decodeL_width l
  have hp := List.length_pos_iff.2 hl
  obtain ⟨n, hn⟩ : ∃ n, l.length = n + 1 := ⟨l.length - 1, by omega⟩
  unfold itemsOf
  rw [hn]
  conv => lhs; unfold itemsGo
  rw [if_neg hl, itemsGo_fuel n _ _ _ (by rw [List.length_drop]; omega) (Nat.le_refl _)]
theorem items_nil (pos : Nat) : itemsOf pos [] = [] := rfl
/-- a run: its word, where it begins and ends -/
structure RunP where
  word : List Nat
  fr : Nat
  to : Nat
def bumpT (x : Nat × Nat) (u : RunP) : RunP := ⟨if u.word.length < 32 then u.word ++ [smallR x.2] else u.word, u.fr, x.1 + (encR x.2).length⟩
def lastT (f : RunP → RunP) : List RunP → List RunP
  | [] => []
  | [u] => [f u]
  | u :: v :: r => u :: lastT f (v :: r)
theorem lastT_snoc (f : RunP → RunP) : ∀ (l : List RunP) (u : RunP), lastT f (l ++ [u]) = l ++ [f u]
  | [], u => rfl
  | [v], u => rfl
  | v :: w :: r, u => by
    have := lastT_snoc f (w :: r) u
    simp only [List.cons_append] at this ⊢
    rw [lastT, this]
def runStep (st : List RunP × Bool) (x : Nat × Nat) : List RunP × Bool :=
  if wordR x.2 = true then (lastT (bumpT x) (if st.2 = true then st.1 else st.1 ++ [⟨[], x.1, 0⟩]), true) else (st.1, false)
def runsAt (its : List (Nat × Nat)) : List RunP × Bool := its.foldl runStep ([], false)
def runsT (l : Bs) : List RunP := (runsAt (itemsOf 0 l)).1
theorem runsAt_snoc (its : List (Nat × Nat)) (x : Nat × Nat) : runsAt (its ++ [x]) = runStep (runsAt its) x := by simp [runsAt]
/-- so many runes are behind -/
structure ItAt (l : Bs) (its : List (Nat × Nat)) (pos k : Nat) : Prop where
  at_ : its.drop k = itemsOf pos (l.drop pos)
  le : k ≤ its.length
theorem ItAt.start (l : Bs) : ItAt l (itemsOf 0 l) 0 0 := ⟨rfl, Nat.zero_le _⟩
theorem ItAt.next {l : Bs} {its : List (Nat × Nat)} {pos k r q : Nat} (h : ItAt l its pos k) (hp : pos < l.length) (hd : Utf8.decode ⟨l.toArray⟩ pos = (r, q)) : its[k]? = some (pos, r) ∧ ItAt l its (pos + q) (k + 1) := by
  have hdd := Lib.decodeL_drop ⟨l.toArray⟩ pos
  have e : (⟨l.toArray⟩ : ByteArray).data.toList = l := by simp
  rw [e, hd] at hdd
  have hne : l.drop pos ≠ [] := fun e => by
    have := congrArg List.length e
    rw [List.length_drop] at this
    simp only [List.length_nil] at this
    omega
  have h1 := h.at_.trans (items_step hne)
  rw [hdd, List.drop_drop] at h1
  have hk : its[k]? = some (pos, r) := by
    have : (its.drop k)[0]? = some (pos, r) := by rw [h1]; rfl
    rwa [List.getElem?_drop, Nat.add_zero] at this
  have hlt := (List.getElem?_eq_some_iff.1 hk).1
  refine ⟨hk, ?_, hlt⟩
  have : (its.drop k).drop 1 = itemsOf (pos + q) (l.drop (pos + q)) := by rw [h1]; rfl
  rwa [List.drop_drop] at this
theorem ItAt.done {l : Bs} {its : List (Nat × Nat)} {pos k : Nat} (h : ItAt l its pos k) (hp : ¬ pos < l.length) : its.take k = its := by
  have h1 := h.at_
  rw [List.drop_eq_nil_of_le (by omega : l.length ≤ pos), items_nil] at h1
  have := congrArg List.length h1
  rw [List.length_drop] at this
  have h2 := h.le
  have h3 : ([] : List (Nat × Nat)).length = 0 := rfl
  exact List.take_of_length_le (by omega)
theorem take_snoc {its : List (Nat × Nat)} {k : Nat} {x : Nat × Nat} (h : its[k]? = some x) : its.take (k + 1) = its.take k ++ [x] := by rw [List.take_add_one, h]; rfl
/-- the words that stand between other runes -/
def innerT (l : Bs) : List Bs := ((runsT l).filter fun u => decide (0 < u.fr) && decide (u.to < l.length)).map fun u => encT u.word
def innerP (l : Bs) : List Bs := onceB (innerT l)
theorem runStep_len (st : List RunP × Bool) (x : Nat × Nat) : (runStep st x).1.length ≤ st.1.length + 1 := by
  have h : ∀ (f : RunP → RunP) (l : List RunP), (lastT f l).length = l.length := fun f l => by
    induction l with
    | nil => rfl
    | cons u r ih => cases r with
      | nil => rfl
      | cons v r => rw [lastT, List.length_cons, ih]; rfl
  unfold runStep
  split
  · rw [h]; split <;> simp
  · simp
theorem runsAt_len (its : List (Nat × Nat)) : (runsAt its).1.length ≤ its.length := by
  have key : ∀ (l : List (Nat × Nat)) (st : List RunP × Bool), (l.foldl runStep st).1.length ≤ st.1.length + l.length := by
    intro l
    induction l with
    | nil => intro st; simp
    | cons x r ih =>
      intro st
      have h1 := ih (runStep st x)
      have h2 := runStep_len st x
      rw [List.foldl_cons, List.length_cons]; omega
  have h := key its ([], false)
  simpa [runsAt] using h
theorem itemsGo_len : ∀ (n pos : Nat) (l : Bs), l.length ≤ n → (itemsGo n pos l).length ≤ l.length
  | 0, pos, l, h => by simp [itemsGo]
  | n + 1, pos, l, h => by
    unfold itemsGo
    by_cases hl : l = []
    · rw [if_pos hl]; simp
    · have hw := Lib.decodeL_width l
      have hp := List.length_pos_iff.2 hl
      have ih := itemsGo_len n (pos + (Lib.decodeL l).2) (l.drop (Lib.decodeL l).2) (by rw [List.length_drop]; omega)
      rw [if_neg hl, List.length_cons]
      rw [List.length_drop] at ih
      omega
end Garner

/-! a rune's bytes: the model's words and the library's are the same -/
namespace Garner
open Go
theorem enc_list (r : Nat) : (Utf8.encode (r : Int)).data.toList = encR r := by
  unfold encR Lib.encodeRune
  have hcase : r < 128 ∨ (128 ≤ r ∧ r < 2048) ∨ (2048 ≤ r ∧ r < 65536 ∧ (r < 55296 ∨ 57343 < r)) ∨ (65536 ≤ r ∧ r ≤ 1114111) ∨ ((55296 ≤ r ∧ r ≤ 57343) ∨ 1114111 < r) := by omega
  rcases hcase with h | h | h | h | h
  · have v : Utf8.valid (r : Int) = true := by simp [Utf8.valid]; omega
    rw [Lib.encodeRuneZ_one (by omega) (by omega)]
    simp [Utf8.encode, v, h]
  · have v : Utf8.valid (r : Int) = true := by simp [Utf8.valid]; omega
    rw [Lib.encodeRuneZ_two (by omega) (by omega)]
    simp [Utf8.encode, v, show ¬ r < 128 by omega, h.2]
    constructor <;> (apply UInt8.toNat_inj.1; simp; omega)
  · have v : Utf8.valid (r : Int) = true := by simp [Utf8.valid]; omega
    rw [Lib.encodeRuneZ_three (by omega)]
    simp [Utf8.encode, v, show ¬ r < 128 by omega, show ¬ r < 2048 by omega, h.2.1]
    refine ⟨?_, ?_, ?_⟩ <;> (apply UInt8.toNat_inj.1; simp; omega)
  · have v : Utf8.valid (r : Int) = true := by simp [Utf8.valid]; omega
    rw [Lib.encodeRuneZ_four (by omega) (by omega)]
    simp [Utf8.encode, v, show ¬ r < 128 by omega, show ¬ r < 2048 by omega, show ¬ r < 65536 by omega]
    refine ⟨?_, ?_, ?_, ?_⟩ <;> (apply UInt8.toNat_inj.1; simp; omega)
  · have v : Utf8.valid (r : Int) = false := by simp [Utf8.valid]; omega
    rw [Lib.encodeRuneZ_bad (by omega)]
    simp [Utf8.encode, v, Utf8.runeError]
theorem enc_size (r : Nat) : (Utf8.encode (r : Int)).size = (encR r).length := by rw [Lib.size_eq, enc_list]
theorem encR_len (r : Nat) : (encR r).length ≤ 4 := by
  unfold encR Lib.encodeRune Lib.encodeRuneZ
  rw [List.length_map]
  split
  · simp
  split
  · simp
  split
  · simp
  split
  · simp
  · simp
end Garner

/-! texts, plain: a rune's bytes read back -/
namespace Garner
open Go
def goodR (r : Nat) : Prop := r < 55296 ∨ (57343 < r ∧ r ≤ 1114111)
theorem decN_one {n b0 b1 b2 b3 r : Nat} (h : r < 128) (e0 : b0 = r) : Lib.decodeN n b0 b1 b2 b3 = (r, 1) := by
  subst e0; unfold Lib.decodeN; rw [if_pos h]
theorem decN_two {n b0 b1 b2 b3 r : Nat} (h : 128 ≤ r ∧ r < 2048) (hn : 2 ≤ n) (e0 : b0 = 192 + r / 64) (e1 : b1 = 128 + r % 64) : Lib.decodeN n b0 b1 b2 b3 = (r, 2) := by
  subst e0; subst e1
  unfold Lib.decodeN
  rw [if_neg (by omega), if_pos ⟨by omega, by omega, by omega⟩, if_pos (by omega)]
  exact Prod.ext (by show _ = r; omega) rfl
theorem decN_three {n b0 b1 b2 b3 r : Nat} (h : 2048 ≤ r ∧ r < 65536 ∧ (r < 55296 ∨ 57343 < r)) (hn : 3 ≤ n) (e0 : b0 = 224 + r / 4096) (e1 : b1 = 128 + r / 64 % 64) (e2 : b2 = 128 + r % 64) : Lib.decodeN n b0 b1 b2 b3 = (r, 3) := by
  subst e0; subst e1; subst e2
  have e : (224 + r / 4096) % 16 * 4096 + (128 + r / 64 % 64) % 64 * 64 + (128 + r % 64) % 64 = r := by omega
  unfold Lib.decodeN
  rw [if_neg (by omega), if_neg (by omega), if_pos ⟨by omega, ⟨by omega, by omega⟩, by omega, by omega⟩, e, if_pos (by omega)]
theorem decN_four {n b0 b1 b2 b3 r : Nat} (h : 65536 ≤ r ∧ r ≤ 1114111) (hn : 4 ≤ n) (e0 : b0 = 240 + r / 262144) (e1 : b1 = 128 + r / 4096 % 64) (e2 : b2 = 128 + r / 64 % 64) (e3 : b3 = 128 + r % 64) : Lib.decodeN n b0 b1 b2 b3 = (r, 4) := by
  subst e0; subst e1; subst e2; subst e3
  have e : (240 + r / 262144) % 8 * 262144 + (128 + r / 4096 % 64) % 64 * 4096 + (128 + r / 64 % 64) % 64 * 64 + (128 + r % 64) % 64 = r := by omega
  unfold Lib.decodeN
  rw [if_neg (by omega), if_neg (by omega), if_neg (by omega), if_pos ⟨by omega, ⟨by omega, by omega⟩, ⟨by omega, by omega⟩, by omega, by omega⟩, e, if_pos (by omega)]
theorem dec_enc {r : Nat} (h : goodR r) (b : Bs) : Lib.decodeL (encR r ++ b) = (r, (encR r).length) := by
  unfold goodR at h
  rw [Lib.decodeL_N]
  unfold encR Lib.encodeRune
  have hcase : r < 128 ∨ (128 ≤ r ∧ r < 2048) ∨ (2048 ≤ r ∧ r < 65536 ∧ (r < 55296 ∨ 57343 < r)) ∨ (65536 ≤ r ∧ r ≤ 1114111) := by omega
  rcases hcase with h | h | h | h
  · rw [Lib.encodeRuneZ_one (by omega) (by omega)]
    exact decN_one h (by simp; omega)
  · rw [Lib.encodeRuneZ_two (by omega) (by omega)]
    exact decN_two h (by simp) (by simp; omega) (by simp; omega)
  · rw [Lib.encodeRuneZ_three (by omega)]
    exact decN_three h (by simp) (by simp; omega) (by simp; omega) (by simp; omega)
  · rw [Lib.encodeRuneZ_four (by omega) (by omega)]
    exact decN_four h (by simp) (by simp; omega) (by simp; omega) (by simp; omega) (by simp; omega)
theorem decN_good (n b0 b1 b2 b3 : Nat) : goodR (Lib.decodeN n b0 b1 b2 b3).1 := by
  unfold Lib.decodeN goodR
  split
  · left; show b0 < _; omega
  split
  · split
    · left; show b0 % 32 * 64 + b1 % 64 < _; omega
    · right; show _ ∧ 65533 ≤ _; omega
  split
  · split
    · rename_i h
      show (b0 % 16 * 4096 + b1 % 64 * 64 + b2 % 64 < 55296 ∨ _)
      omega
    · right; show _ ∧ 65533 ≤ _; omega
  split
  · split
    · rename_i h
      show (b0 % 8 * 262144 + b1 % 64 * 4096 + b2 % 64 * 64 + b3 % 64 < 55296 ∨ _)
      omega
    · right; show _ ∧ 65533 ≤ _; omega
  · right; show _ ∧ 65533 ≤ _; omega
theorem dec_good (l : Bs) : goodR (Lib.decodeL l).1 := by rw [Lib.decodeL_N]; exact decN_good _ _ _ _ _
theorem runes_good : ∀ (n : Nat) (l : Bs), l.length ≤ n → ∀ r ∈ runesP l, goodR r
  | 0, l, hn, r, hr => by
    rw [List.eq_nil_of_length_eq_zero (by omega : l.length = 0), runes_nil] at hr
    cases hr
  | n + 1, l, hn, r, hr => by
    by_cases hl : l = []
    · rw [hl, runes_nil] at hr; cases hr
    · have hw := Lib.decodeL_width l
      have h0 : 0 < l.length := List.length_pos_iff.2 hl
      rw [runes_step hl] at hr
      rcases List.mem_cons.1 hr with rfl | hr
      · exact dec_good l
      · exact runes_good n _ (by rw [List.length_drop]; omega) r hr
theorem encT_cons (r : Nat) (rs : List Nat) : encT (r :: rs) = encR r ++ encT rs := by simp [encT, encR]
/-- texts made of runes are read back -/
theorem runes_enc : ∀ rs : List Nat, (∀ r ∈ rs, goodR r) → runesP (encT rs) = rs
  | [], _ => by simp [encT, runes_nil]
  | r :: rs, h => by
    have hne : encR r ++ encT rs ≠ [] := by simp [encR_ne]
    rw [encT_cons, runes_step hne, dec_enc (h r (by simp)), List.drop_left, runes_enc rs fun x hx => h x (by simp [hx])]
theorem items_enc : ∀ (rs : List Nat) (pos : Nat), (∀ r ∈ rs, goodR r) → (itemsOf pos (encT rs)).map (·.2) = rs ∧ ∀ a x, itemsOf pos (encT rs) = a ++ [x] → x.1 + (encR x.2).length = pos + (encT rs).length
  | [], pos, _ => ⟨by simp [encT, items_nil], fun a x h => by
    have e : encT [] = [] := rfl
    rw [e, items_nil] at h
    simp at h⟩
  | r :: rs, pos, h => by
    have hne : encR r ++ encT rs ≠ [] := by simp [encR_ne]
    obtain ⟨h1, h2⟩ := items_enc rs (pos + (encR r).length) fun x hx => h x (by simp [hx])
    rw [encT_cons, items_step hne, dec_enc (h r (by simp)), List.drop_left]
    refine ⟨by rw [List.map_cons, h1], fun a x hx => ?_⟩
    cases a with
    | nil =>
      injection hx with h3 h4
      have h5 : rs = [] := by rw [← h1, h4]; rfl
      subst h5
      rw [← h3]
      simp [encT]
    | cons y a =>
      injection hx with h3 h4
      have := h2 a x h4
      rw [this, List.length_append]; omega
end Garner

/-! Patterns, plain: a set of one rune is a rune that a text may have -/
namespace Garner
open Go
def surR (x : Nat) : Prop := 55296 ≤ x ∧ x ≤ 57343
/-- a set that holds no rune above the last, and all surrogates or none -/
def UniR (l : List Nat) : Prop := (∀ x, hasR l x = true → x ≤ 1114111) ∧ ∀ x y, surR x → surR y → hasR l x = true → hasR l y = true
theorem shas_one (r x : Nat) : hasR [r, r] x = true ↔ x = r := by
  have e : hasR [r, r] x = (decide (r ≤ x) && decide (x ≤ r)) := by simp [hasR]
  rw [e, Bool.and_eq_true, decide_eq_true_iff, decide_eq_true_iff]
  omega
theorem UniR.solo {r : Nat} (h : UniR [r, r]) : goodR r := by
  have h1 := h.1 r ((shas_one r r).2 rfl)
  unfold goodR
  rcases Nat.lt_or_ge r 55296 with h2 | h2
  · exact .inl h2
  · rcases Nat.lt_or_ge 57343 r with h3 | h3
    · exact .inr ⟨h3, h1⟩
    · exfalso
      obtain ⟨y, hy, hne⟩ : ∃ y, surR y ∧ y ≠ r := by
        by_cases e : r = 55296
        · exact ⟨55297, by unfold surR; omega, by omega⟩
        · exact ⟨55296, by unfold surR; omega, by omega⟩
      exact hne ((shas_one r y).1 (h.2 r y ⟨h2, h3⟩ hy ((shas_one r r).2 rfl)))
theorem uni_one {r : Nat} (h : goodR r) : UniR [r, r] := by
  unfold goodR at h
  refine ⟨fun x hx => ?_, fun x y hx _ hh => ?_⟩
  · rw [(shas_one r x).1 hx]; omega
  · have := (shas_one r x).1 hh
    unfold surR at hx; omega
/-- pairs of such runes -/
def GPs (ps : List (Nat × Nat)) : Prop := ∀ p ∈ ps, p.1 ≤ p.2 ∧ goodR p.1 ∧ goodR p.2
theorem GPs.app {a b : List (Nat × Nat)} (h : GPs a) (k : GPs b) : GPs (a ++ b) := fun p hp => (List.mem_append.1 hp).elim (h p) (k p)
theorem sflatR_app (a b : List (Nat × Nat)) : flatR (a ++ b) = flatR a ++ flatR b := by unfold flatR; rw [List.flatMap_append]
theorem GPs.sur {ps : List (Nat × Nat)} (h : GPs ps) {x y : Nat} (hx : surR x) (hy : surR y) (hi : inI ps x) : inI ps y := by
  obtain ⟨p, hp, h1, h2⟩ := hi
  obtain ⟨-, g1, g2⟩ := h p hp
  unfold goodR at g1 g2
  unfold surR at hx hy
  exact ⟨p, hp, by omega, by omega⟩
theorem GPs.le {ps : List (Nat × Nat)} (h : GPs ps) {x : Nat} (hi : inI ps x) : x ≤ 1114111 := by
  obtain ⟨p, hp, h1, h2⟩ := hi
  obtain ⟨-, g1, g2⟩ := h p hp
  unfold goodR at g2
  omega
theorem uni_flat {ps : List (Nat × Nat)} (h : GPs ps) : UniR (flatR ps) :=
  ⟨fun x hx => h.le ((has_flat ps x).1 hx), fun x y hx hy hh => (has_flat ps y).2 (h.sur hx hy ((has_flat ps x).1 hh))⟩
theorem merged_inI {ps : List (Nat × Nat)} (h : GPs ps) : CanonI (mergeI (sortR ps)) ∧ ∀ x, inI (mergeI (sortR ps)) x ↔ inI ps x := by
  obtain ⟨h1, h2⟩ := merge_canon (sorted_sort ps) fun p hp => (h p (mem_sort.1 hp)).1
  exact ⟨h1, fun x => (h2 x).trans (inI_congr (fun p => mem_sort) x)⟩
theorem uni_merged {ps : List (Nat × Nat)} (h : GPs ps) : UniR (mergedR (flatR ps)) := by
  obtain ⟨h1, h2⟩ := merged_inI h
  unfold mergedR
  rw [pairs_flat]
  exact ⟨fun x hx => h.le ((h2 x).1 ((has_flat _ x).1 hx)), fun x y hx hy hh => (has_flat _ y).2 ((h2 y).2 (h.sur hx hy ((h2 x).1 ((has_flat _ x).1 hh))))⟩
theorem uni_others {ps : List (Nat × Nat)} (h : GPs ps) : UniR (othersR (mergedR (flatR ps))) := by
  obtain ⟨h1, h2⟩ := merged_inI h
  unfold othersR mergedR
  rw [pairs_flat, pairs_flat]
  obtain ⟨-, -, h3⟩ := others_canon (mergeI (sortR ps)) 0 h1 fun p hp => ⟨Nat.zero_le _, by
    have hc : inI (mergeI (sortR ps)) p.2 := ⟨p, hp, by
      have : ∀ {l : List (Nat × Nat)}, CanonI l → ∀ q ∈ l, q.1 ≤ q.2 := fun {l} => by
        induction l with
        | nil => intro _ q hq; cases hq
        | cons a l ih =>
          intro hc q hq
          rcases List.mem_cons.1 hq with rfl | hq
          · exact hc.head
          · exact ih hc.tail q hq
      exact this h1 p hp, Nat.le_refl _⟩
    exact h.le ((h2 _).1 hc)⟩
  refine ⟨fun x hx => ((h3 x).1 ((has_flat _ x).1 hx)).2.1, fun x y hx hy hh => (has_flat _ y).2 ((h3 y).2 ?_)⟩
  have h4 := (h3 x).1 ((has_flat _ x).1 hh)
  refine ⟨Nat.zero_le _, by unfold surR at hy; omega, fun hi => h4.2.2 ((h2 x).2 (h.sur hy hx ((h2 y).1 hi)))⟩
theorem escR_gp {s m s1 : List Nat} (h : escR s = some (m, s1)) : ∃ ps, m = flatR ps ∧ GPs ps := by
  have key : ∀ ps : List (Nat × Nat), (ps.all fun p => decide (p.1 ≤ p.2) && decide (p.2 < 128)) = true → GPs ps := fun ps h p hp => by
    have := List.all_eq_true.1 h p hp
    rw [Bool.and_eq_true, decide_eq_true_iff, decide_eq_true_iff] at this
    exact ⟨this.1, .inl (by omega), .inl (by omega)⟩
  cases s with
  | nil => cases h
  | cons r s =>
    simp only [escR] at h
    split at h
    · cases h; exact ⟨[(10, 10)], rfl, key _ (by decide)⟩
    split at h
    · cases h; exact ⟨[(9, 9)], rfl, key _ (by decide)⟩
    split at h
    · cases h; exact ⟨[(48, 57)], rfl, key _ (by decide)⟩
    split at h
    · cases h; exact ⟨[(48, 57), (65, 90), (95, 95), (97, 122)], rfl, key _ (by decide)⟩
    split at h
    · cases h; exact ⟨[(9, 10), (13, 13), (32, 32)], rfl, key _ (by decide)⟩
    split at h
    · rename_i hr
      cases h
      refine ⟨[(r, r)], rfl, key _ ?_⟩
      have hlt : r < 128 := by
        rcases hr with hr | rfl
        · have hall : ∀ x ∈ specR, x < 128 := by decide
          exact hall r hr
        · decide
      simp [hlt]
    · cases h
theorem memR_gp {s m s1 : List Nat} (hs : ∀ x ∈ s, goodR x) (h : memR s = some (m, s1)) : ∃ ps, m = flatR ps ∧ GPs ps := by
  cases s with
  | nil => cases h
  | cons r s =>
    simp only [memR] at h
    split at h
    · exact escR_gp h
    split at h
    · cases h
    · cases h
      exact ⟨[(r, r)], rfl, fun p hp => by rw [List.mem_singleton.1 hp]; exact ⟨Nat.le_refl _, hs r (by simp), hs r (by simp)⟩⟩
theorem sflat_two {ps : List (Nat × Nat)} {a b : Nat} (h : [a, b] = flatR ps) (hp : GPs ps) : goodR a ∧ goodR b := by
  cases ps with
  | nil => cases h
  | cons p ps =>
    have e : flatR (p :: ps) = p.1 :: p.2 :: flatR ps := by simp [flatR]
    rw [e] at h
    injection h with h1 h
    injection h with h2 h
    have := hp p (by simp)
    rw [h1, h2]
    exact this.2
theorem rngR_gp {m t q : List Nat} (hm : ∃ ps, m = flatR ps ∧ GPs ps) (ht : ∃ ps, t = flatR ps ∧ GPs ps) (h : rngR m t = some q) : ∃ ps, q = flatR ps ∧ GPs ps := by
  obtain ⟨pm, em, gm⟩ := hm
  obtain ⟨pt, et, gt⟩ := ht
  unfold rngR at h
  split at h
  · rename_i a b c d
    split at h
    · rename_i hc
      cases h
      exact ⟨[(a, c)], rfl, fun p hp => by rw [List.mem_singleton.1 hp]; exact ⟨hc.2.2, (sflat_two em gm).1, (sflat_two et gt).1⟩⟩
    · cases h
  · cases h
theorem clsR_gp : ∀ {n : Nat} {f : Bool} {s acc m s1 : List Nat}, (∀ x ∈ s, goodR x) → (∃ ps, acc = flatR ps ∧ GPs ps) → clsR n f s acc = some (m, s1) → ∃ ps, m = flatR ps ∧ GPs ps
  | 0, f, s, acc, m, s1, _, _, h => by cases h
  | n + 1, f, s, acc, m, s1, hs, ha, h => by
    obtain ⟨pa, ea, ga⟩ := ha
    rw [clsR] at h
    split at h
    · cases h; exact ⟨pa, ea, ga⟩
    · split at h
      · cases h
      · rename_i m1 s2 h1
        have k1 := memR_gp hs h1
        have l1 := memR_mem h1
        split at h
        · split at h
          · cases h
          · rename_i t s3 h2
            have k2 := memR_gp (fun x hx => hs x (l1 x (tail_mem hx))) h2
            have l2 := memR_mem h2
            split at h
            · cases h
            · rename_i q h3
              obtain ⟨pq, eq, gq⟩ := rngR_gp k1 k2 h3
              exact clsR_gp (fun x hx => hs x (l1 x (tail_mem (l2 x hx)))) ⟨pa ++ pq, by rw [sflatR_app, ea, eq], ga.app gq⟩ h
        · obtain ⟨pq, eq, gq⟩ := k1
          exact clsR_gp (fun x hx => hs x (l1 x hx)) ⟨pa ++ pq, by rw [sflatR_app, ea, eq], ga.app gq⟩ h
theorem classR_uni {s m s1 : List Nat} (hs : ∀ x ∈ s, goodR x) (h : classR s = some (m, s1)) : UniR m := by
  unfold classR at h
  split at h
  · obtain ⟨p, hp, e⟩ := Option.map_eq_some_iff.1 h
    cases e
    obtain ⟨ps, e1, g1⟩ := clsR_gp (m := p.1) (s1 := p.2) (fun x hx => hs x (tail_mem hx)) ⟨[], rfl, fun p hp => by cases hp⟩ hp
    rw [e1]
    exact uni_others g1
  · obtain ⟨p, hp, e⟩ := Option.map_eq_some_iff.1 h
    cases e
    obtain ⟨ps, e1, g1⟩ := clsR_gp (m := p.1) (s1 := p.2) hs ⟨[], rfl, fun p hp => by cases hp⟩ hp
    rw [e1]
    exact uni_merged g1
mutual
/-- all sets of a tree are so -/
def Re.uni : Re → Prop
  | .emp => True
  | .set l => UniR l
  | .seq l => unis l
  | .alt l => unis l
  | .rep k _ _ => k.uni
  | .bgn => True
  | .fin => True
def unis : List Re → Prop
  | [] => True
  | t :: ts => t.uni ∧ unis ts
end
theorem unis_at : ∀ {l : List Re} {t : Re}, unis l → t ∈ l → t.uni
  | u :: l, t, h, ht => by
    rcases List.mem_cons.1 ht with rfl | ht
    · exact h.1
    · exact unis_at h.2 ht
theorem many_uni {mk : List Re → Re} (h : ∀ l, (mk l).uni = unis l) {l : List Re} (hl : unis l) : (manyR mk l).uni := by
  match l, hl with
  | [], hl => exact (h []).symm ▸ hl
  | [t], hl => exact hl.1
  | t :: u :: r, hl => exact (h (t :: u :: r)).symm ▸ hl
theorem rowOf_uni {l : List Re} (hl : unis l) : (rowOf l).uni := by
  unfold rowOf
  split
  · trivial
  · exact many_uni (mk := .seq) (fun _ => rfl) hl
theorem quant_uni {t u : Re} {s s1 : List Nat} (h : quantR t s = some (u, s1)) (ht : t.uni) : u.uni := by
  cases s with
  | nil => cases h; exact ht
  | cons r s =>
    rw [quantR] at h
    split at h
    · cases h; exact ht
    split at h
    · cases h; exact ht
    split at h
    · cases h; exact ht
    split at h
    · split at h
      · cases h
      · split at h
        · split at h
          · cases h
          · split at h
            · injection h with h; injection h with h3 h4
              subst h3
              exact ht
            · cases h
        · split at h
          · injection h with h; injection h with h3 h4
            subst h3
            exact ht
          · cases h
    · cases h; exact ht
theorem parse_uni : ∀ n : Nat,
    (∀ {s s1 : List Nat} {ts : List Re} {d : Nat}, (∀ x ∈ s, goodR x) → altsR n s = some (ts, s1, d) → unis ts) ∧
    (∀ {s s1 : List Nat} {ts : List Re} {d : Nat}, (∀ x ∈ s, goodR x) → rowsR n s = some (ts, s1, d) → unis ts) ∧
    (∀ {s s1 : List Nat} {t : Re} {d : Nat}, (∀ x ∈ s, goodR x) → itemR n s = some (t, s1, d) → t.uni) ∧
    (∀ {s s1 : List Nat} {t : Re} {d : Nat}, (∀ x ∈ s, goodR x) → atomR n s = some (t, s1, d) → t.uni)
  | 0 => ⟨fun _ h => (by cases h), fun _ h => (by cases h), fun _ h => (by cases h), fun _ h => (by cases h)⟩
  | n + 1 => by
    obtain ⟨ia, ir, ii, it⟩ := parse_uni n
    obtain ⟨la, lr, li, lt⟩ := parse_free n
    refine ⟨?_, ?_, ?_, ?_⟩
    · intro s s1 ts d hb h
      rw [altsR] at h
      split at h
      · cases h
      · rename_i us s2 e hr
        have h2 := ir hb hr
        have k2 := (lr hr).1
        split at h
        · split at h
          · cases h
          · rename_i vs s3 e2 ha
            have h4 := ia (fun x hx => hb x (k2 x (tail_mem hx))) ha
            cases h
            exact ⟨rowOf_uni h2, h4⟩
        · cases h
          exact ⟨rowOf_uni h2, trivial⟩
    · intro s s1 ts d hb h
      rw [rowsR] at h
      split at h
      · cases h; trivial
      · split at h
        · cases h
        · rename_i t s2 e hi
          have h2 := ii hb hi
          have k2 := (li hi).1
          split at h
          · cases h
          · rename_i vs s3 e2 hr
            have h4 := ir (fun x hx => hb x (k2 x hx)) hr
            cases h
            exact ⟨h2, h4⟩
    · intro s s1 t d hb h
      rw [itemR] at h
      split at h
      · cases h
      · rename_i v s2 e ha
        have h2 := it hb ha
        obtain ⟨p, hp, e⟩ := Option.map_eq_some_iff.1 h
        cases e
        exact quant_uni (u := p.1) (s1 := p.2) hp h2
    · intro s s1 t d hb h
      cases s with
      | nil => cases h
      | cons r s =>
        have hbs : ∀ x ∈ s, goodR x := fun x hx => hb x (List.mem_cons_of_mem _ hx)
        rw [atomR] at h
        split at h
        · split at h
          · cases h
          · rename_i us s2 e ha
            have h2 := ia hbs ha
            split at h
            · cases h
              exact many_uni (mk := .alt) (fun _ => rfl) h2
            · cases h
        split at h
        · obtain ⟨p, hp, e⟩ := Option.map_eq_some_iff.1 h
          cases e
          exact classR_uni (m := p.1) (s1 := p.2) hbs hp
        split at h
        · cases h
          exact uni_flat (ps := [(0, 9), (11, 1114111)]) fun p hp => by
            simp only [List.mem_cons, List.not_mem_nil, or_false] at hp
            rcases hp with rfl | rfl
            · exact ⟨by decide, .inl (by decide), .inl (by decide)⟩
            · exact ⟨by decide, .inl (by decide), .inr (by decide)⟩
        split at h
        · cases h; trivial
        split at h
        · cases h; trivial
        split at h
        · obtain ⟨p, hp, e⟩ := Option.map_eq_some_iff.1 h
          cases e
          obtain ⟨ps, e1, g1⟩ := escR_gp (m := p.1) (s1 := p.2) hp
          show UniR p.1
          rw [e1]; exact uni_flat g1
        split at h
        · cases h
        · cases h; exact uni_one (hb r (by simp))
/-- a pattern's plain runes are runes that a text may have -/
theorem rexp_uni {l : Bs} {t : Re} (h : rexpP l = .ok t) : t.uni := by
  unfold rexpP at h
  split at h
  · cases h
  split at h
  · cases h
  · obtain ⟨ts, d, h1, rfl⟩ := read_ok h
    exact many_uni (mk := .alt) (fun _ => rfl) ((parse_uni _).1 (runes_good _ l (Nat.le_refl _)) h1)
theorem Re.uni.lit {t : Re} (h : t.uni) {r : Nat} (hr : litP t = some r) : goodR r := by
  unfold litP at hr
  split at hr
  · split at hr
    · rename_i a b hc
      injection hr with hr
      subst hr
      obtain ⟨rfl, -⟩ := hc
      exact UniR.solo h
    · cases hr
  · cases hr
end Garner

/-! text, plain: runs told by where they stand -/
namespace Garner
open Go
def wordOf (seg : List (Nat × Nat)) : List Nat := (seg.take 32).map fun x => smallR x.2
/-- a row of word runes that ends on both sides -/
structure SegP (its p seg q : List (Nat × Nat)) : Prop where
  eq : its = p ++ seg ++ q
  ne : seg ≠ []
  all : ∀ x ∈ seg, wordR x.2 = true
  left : p = [] ∨ ∃ p' y, p = p' ++ [y] ∧ wordR y.2 = false
  right : q = [] ∨ ∃ y q', q = y :: q' ∧ wordR y.2 = false
/-- a run that is such a row -/
structure RunOf (its : List (Nat × Nat)) (u : RunP) (p seg q : List (Nat × Nat)) : Prop where
  sp : SegP its p seg q
  word : u.word = wordOf seg
  fr : ∃ x r, seg = x :: r ∧ u.fr = x.1
  to' : ∃ r x, seg = r ++ [x] ∧ u.to = x.1 + (encR x.2).length
theorem wordOf_snoc (seg : List (Nat × Nat)) (x : Nat × Nat) : wordOf (seg ++ [x]) = if (wordOf seg).length < 32 then wordOf seg ++ [smallR x.2] else wordOf seg := by
  unfold wordOf
  rw [List.length_map, List.length_take]
  by_cases h : seg.length < 32
  · rw [if_pos (by omega), List.take_of_length_le (by simp; omega), List.take_of_length_le (by omega)]
    simp
  · rw [if_neg (by omega), List.take_append_of_le_length (by omega)]
/-- what the fold keeps: runs that are done, and the open one -/
structure RunInv (its : List (Nat × Nat)) (F : List RunP) (c : Option RunP) : Prop where
  sound : ∀ v ∈ F, ∃ p seg q, q ≠ [] ∧ RunOf its v p seg q
  comp : ∀ p seg q, q ≠ [] → SegP its p seg q → wordOf seg ∈ F.map (·.word)
  some_ : ∀ u, c = some u → ∃ p seg, RunOf its u p seg []
  none_ : c = none → its = [] ∨ ∃ r y, its = r ++ [y] ∧ wordR y.2 = false
theorem SegP.grow {its p seg q : List (Nat × Nat)} (h : SegP its p seg q) (hq : q ≠ []) (x : Nat × Nat) : SegP (its ++ [x]) p seg (q ++ [x]) :=
  ⟨by rw [h.eq]; simp, h.ne, h.all, h.left, by
    rcases h.right with h1 | ⟨y, q', h1, h2⟩
    · exact absurd h1 hq
    · exact .inr ⟨y, q' ++ [x], by rw [h1]; rfl, h2⟩⟩
theorem RunOf.grow {its p seg q : List (Nat × Nat)} {u : RunP} (h : RunOf its u p seg q) (hq : q ≠ []) (x : Nat × Nat) : RunOf (its ++ [x]) u p seg (q ++ [x]) := ⟨h.sp.grow hq x, h.word, h.fr, h.to'⟩
theorem SegP.uniq {its p seg p0 seg0 : List (Nat × Nat)} (h : SegP its p seg []) (h0 : SegP its p0 seg0 []) : seg = seg0 := by
  have key : ∀ {p seg p0 seg0 : List (Nat × Nat)}, SegP its p seg [] → SegP its p0 seg0 [] → p0.length ≤ p.length := fun {p seg p0 seg0} h h0 => by
    rcases Nat.lt_or_ge p.length p0.length with hl | hl
    · exfalso
      rcases h0.left with h1 | ⟨p', y, h1, h2⟩
      · subst h1; simp at hl
      · have e := h.eq
        rw [h0.eq, List.append_nil, List.append_nil, h1] at e
        have hp' : p.length ≤ p'.length := by rw [h1] at hl; simp at hl; omega
        have hy : (p' ++ [y] ++ seg0)[p'.length]? = some y := by simp
        rw [e, List.getElem?_append_right hp'] at hy
        have := h.all y (List.mem_of_getElem? hy)
        rw [h2] at this
        cases this
    · exact hl
  have hl : p.length = p0.length := Nat.le_antisymm (key h0 h) (key h h0)
  have e := h.eq
  rw [h0.eq, List.append_nil, List.append_nil] at e
  exact (List.append_inj e hl.symm).2.symm
theorem RunInv.cur {its : List (Nat × Nat)} {F : List RunP} {c : Option RunP} (h : RunInv its F c) {p seg : List (Nat × Nat)} (hs : SegP its p seg []) : ∃ u, c = some u ∧ u.word = wordOf seg := by
  cases hc : c with
  | none =>
    exfalso
    rcases List.eq_nil_or_concat seg with h2 | ⟨s', z, h2⟩
    · exact hs.ne h2
    · rw [List.concat_eq_append] at h2
      subst h2
      rcases h.none_ hc with h1 | ⟨r, y, h1, h3⟩
      · have e := congrArg List.length hs.eq
        rw [h1] at e
        simp at e
      · have e := hs.eq
        rw [h1, List.append_nil, ← List.append_assoc] at e
        have e2 := List.append_inj' e rfl
        injection e2.2 with e3
        have := hs.all z (by simp)
        rw [← e3, h3] at this
        cases this
  | some u =>
    obtain ⟨p0, s0, hr⟩ := h.some_ u hc
    exact ⟨u, rfl, by rw [hr.word, hr.sp.uniq hs]⟩
end Garner

