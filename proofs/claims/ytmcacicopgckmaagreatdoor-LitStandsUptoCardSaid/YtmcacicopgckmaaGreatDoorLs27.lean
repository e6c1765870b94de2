import Derived.Test.YtmcacicopgckmaaGreatDoorLs24
import Derived.Test.YtmcacicopgckmaaGreatDoorLs26
import Derived.Test.YtmcacicopgckmaaGreatDoorLs15
/-! lit, plain: what a tree needs -/
namespace Garner
open Go
def encR (r : Nat) : Bs := Lib.encodeRune (r : Int)
/-- a plain tree's rune -/
def litP : Re → Option Nat
  | .set [a, b] => if a = b ∧ a ≠ 65533 then some a else none
  | _ => none
def addL (run : Bs) : List Bs := if run = [] then [] else [run]
mutual
/-- what kids need that stand one behind the other, behind a run -/
def litRow : List Re → Bs → List Bs
  | [], run => addL run
  | t :: ts, run => match litP t with
    | some r => litRow ts (run ++ encR r)
    | none => addL run ++ (litSub t ++ litRow ts [])
def litSub : Re → List Bs
  | .emp => []
  | .set _ => []
  | .seq l => litRow l []
  | .alt _ => []
  | .rep k mn _ => if 0 < mn then (match litP k with | some r => addL (encR r) | none => litSub k) else []
  | .bgn => []
  | .fin => []
end
def litT (t : Re) : List Bs := litRow [t] []
def needsP (t : Re) : List Bs := onceB (litT t)
theorem litT_eq (t : Re) : litT t = match litP t with | some r => addL (encR r) | none => litSub t := by
  unfold litT
  rw [litRow]
  split <;> simp [litRow, addL]
theorem litSub_rep (k : Re) (mn : Nat) (mx : Option Nat) : litSub (.rep k mn mx) = if 0 < mn then litT k else [] := by
  rw [litSub, litT_eq]
theorem litRow_none {t : Re} (h : litP t = none) (ts : List Re) (run : Bs) : litRow (t :: ts) run = addL run ++ (litSub t ++ litRow ts []) := by rw [litRow, h]
theorem litRow_some {t : Re} {r : Nat} (h : litP t = some r) (ts : List Re) (run : Bs) : litRow (t :: ts) run = litRow ts (run ++ encR r) := by rw [litRow, h]
theorem encR_ne (r : Nat) : encR r ≠ [] := by
  unfold encR Lib.encodeRune Lib.encodeRuneZ
  intro h
  rw [List.map_eq_nil_iff] at h
  split at h
  · cases h
  split at h
  · cases h
  split at h
  · cases h
  split at h
  · cases h
  · cases h
theorem litT_some {t : Re} {r : Nat} (h : litP t = some r) : litT t = [encR r] := by
  rw [litT_eq, h]
  simp [addL, encR_ne]
theorem litT_none {t : Re} (h : litP t = none) : litT t = litSub t := by rw [litT_eq, h]
/-- two patterns with a class between them -/
theorem joins_lit {a b : Re} {m : List Nat} (hm : litP (.set m) = none) : litT (.seq [a, .set m, b]) = litT a ++ litT b := by
  rw [litT_none rfl, litSub]
  have h2 : ∀ run, litRow [.set m, b] run = addL run ++ litT b := fun run => by
    rw [litRow_none hm, litSub, List.nil_append]; rfl
  cases ha : litP a with
  | some r =>
    rw [litRow_some ha, h2, litT_some ha]
    simp [addL, encR_ne]
  | none =>
    rw [litRow_none ha, h2, litT_none ha]
    simp [addL]
theorem alt_lit (l : List Re) : litT (.alt l) = [] := by rw [litT_none rfl, litSub]
theorem rep_lit (k : Re) (mn : Nat) (mx : Option Nat) : litT (.rep k mn mx) = if 0 < mn then litT k else [] := by rw [litT_none rfl, litSub_rep]
/-- a row of plain runes -/
theorem litP_lit {r : Nat} (h : r ≠ 65533) : litP (litS r) = some r := by simp [litP, h]
theorem litRow_lits : ∀ (rs : List Nat) (run : Bs), (∀ r ∈ rs, r ≠ 65533) → litRow (rs.map litS) run = addL (run ++ encT rs)
  | [], run, _ => by simp [litRow, encT]
  | r :: rs, run, h => by
    rw [List.map_cons, litRow_some (litP_lit (h r (by simp))), litRow_lits rs _ fun x hx => h x (by simp [hx])]
    simp [encT, encR]
theorem rowOf_one (t : Re) : rowOf [t] = t := by simp [rowOf, manyR]
theorem rowOf_two (t u : Re) (l : List Re) : rowOf (t :: u :: l) = .seq (t :: u :: l) := by simp [rowOf, manyR]
theorem litP_seq (l : List Re) : litP (.seq l) = none := by simp [litP]
theorem plain_lit (rs : List Nat) (h : ∀ r ∈ rs, r ≠ 65533) : litT (rowOf (rs.map litS)) = addL (encT rs) := by
  cases rs with
  | nil =>
    have e : rowOf (([] : List Nat).map litS) = .emp := by simp [rowOf]
    rw [e, litT_eq]
    simp [litP, litSub, addL, encT]
  | cons r rs =>
    have h1 := litRow_lits (r :: rs) [] h
    rw [List.nil_append] at h1
    cases rs with
    | nil =>
      rw [List.map_cons, List.map_nil] at h1 ⊢
      rw [rowOf_one, litT, h1]
    | cons s rs =>
      rw [List.map_cons, List.map_cons] at h1 ⊢
      rw [rowOf_two, litT_none (litP_seq _), litSub, h1]
theorem onceB_append (a b : List Bs) : onceB (onceB a ++ onceB b) = onceB (a ++ b) := onceB_eq fun x => by
  rw [List.mem_append, mem_onceB, mem_onceB, List.mem_append]
theorem onceB_once (a : List Bs) : onceB (onceB a) = onceB a := onceB_of_asc (onceB_asc a)
end Garner
/-! lit, plain: what a tree needs stands in every text that it matches in part -/
namespace Garner
open Go
/-- runes that stand at place k -/
def AtR (s : List Nat) (k : Nat) (rs : List Nat) : Prop := ∀ m r, rs[m]? = some r → s[k + m]? = some r
theorem AtR.nil (s : List Nat) (k : Nat) : AtR s k [] := fun m r h => by simp at h
theorem AtR.snoc {s : List Nat} {k r : Nat} {rs : List Nat} (h : AtR s k rs) (hr : s[k + rs.length]? = some r) : AtR s k (rs ++ [r]) := fun m x hx => by
  rcases Nat.lt_trichotomy m rs.length with hm | hm | hm
  · rw [List.getElem?_append_left hm] at hx; exact h m x hx
  · subst hm
    rw [List.getElem?_append_right (Nat.le_refl _), Nat.sub_self] at hx
    simp at hx
    rw [hr, hx]
  · rw [List.getElem?_eq_none (by simp; omega)] at hx
    cases hx
theorem AtR.tail {s : List Nat} {k r : Nat} {rs : List Nat} (h : AtR s k (r :: rs)) : AtR s (k + 1) rs := fun m x hx => by
  have := h (m + 1) x (by simpa using hx)
  rwa [show k + (m + 1) = k + 1 + m by omega] at this
/-- a text of plain runes that stands in s -/
def Stands (s : List Nat) (x : Bs) : Prop := ∃ rs k, x = encT rs ∧ (∀ r ∈ rs, r ≠ 65533) ∧ AtR s k rs
theorem litP_M {s : List Nat} {t : Re} {r i j : Nat} (h : litP t = some r) (hm : t.M s i j) : j = i + 1 ∧ s[i]? = some r ∧ r ≠ 65533 := by
  unfold litP at h
  split at h
  · split at h
    · rename_i a b hab
      obtain ⟨rfl, hne⟩ := hab
      injection h with h
      subst h
      obtain ⟨h1, x, h2, h3⟩ := hm
      simp [hasR] at h3
      obtain rfl : x = a := by omega
      exact ⟨h1, h2, hne⟩
    · cases h
  · cases h
theorem encT_snoc (rs : List Nat) (r : Nat) : encT (rs ++ [r]) = encT rs ++ encR r := by simp [encT, encR]
theorem encT_one (r : Nat) : encT [r] = encR r := by simp [encT, encR]
theorem addL_stands {s rr : List Nat} {i : Nat} {run x : Bs} (h : AtR s i rr) (he : run = encT rr) (hn : ∀ r ∈ rr, r ≠ 65533) (hx : x ∈ addL run) : Stands s x := by
  unfold addL at hx
  split at hx
  · cases hx
  · exact ⟨rr, i, by rw [List.mem_singleton.1 hx, he], hn, h⟩
mutual
theorem litRow_stands (s : List Nat) : ∀ (ts : List Re) (run : Bs) (rr : List Nat) (i0 j : Nat) (x : Bs), AtR s i0 rr → run = encT rr → (∀ r ∈ rr, r ≠ 65533) → Ms s ts (i0 + rr.length) j → x ∈ litRow ts run → Stands s x
  | [], run, rr, i0, j, x, ha, he, hn, _, hx => by
    rw [litRow] at hx
    exact addL_stands ha he hn hx
  | t :: ts, run, rr, i0, j, x, ha, he, hn, hm, hx => by
    obtain ⟨k, h1, h2⟩ := hm
    cases hp : litP t with
    | some r =>
      rw [litRow_some hp] at hx
      obtain ⟨hk, hs, hr⟩ := litP_M hp h1
      refine litRow_stands s ts _ (rr ++ [r]) i0 j x (ha.snoc hs) (by rw [encT_snoc, he]) (fun y hy => ?_) ?_ hx
      · rcases List.mem_append.1 hy with hy | hy
        · exact hn y hy
        · rw [List.mem_singleton.1 hy]; exact hr
      · rw [List.length_append, List.length_singleton, ← Nat.add_assoc, ← hk]; exact h2
    | none =>
      rw [litRow_none hp, List.mem_append, List.mem_append] at hx
      rcases hx with hx | hx | hx
      · exact addL_stands ha he hn hx
      · exact litSub_stands s t _ _ x h1 hx
      · exact litRow_stands s ts [] [] k j x (AtR.nil _ _) rfl (by simp) (by simpa using h2) hx
theorem litSub_stands (s : List Nat) : ∀ (t : Re) (i j : Nat) (x : Bs), t.M s i j → x ∈ litSub t → Stands s x
  | .emp, i, j, x, _, hx => by simp [litSub] at hx
  | .set _, i, j, x, _, hx => by simp [litSub] at hx
  | .seq l, i, j, x, hm, hx => by
    rw [litSub] at hx
    exact litRow_stands s l [] [] i j x (AtR.nil _ _) rfl (by simp) (show Ms s l (i + 0) j from hm) hx
  | .alt _, i, j, x, _, hx => by simp [litSub] at hx
  | .rep k mn mx, i, j, x, hm, hx => by
    rw [litSub] at hx
    split at hx
    · obtain ⟨n, h1, -, h2⟩ := hm
      obtain ⟨n', rfl⟩ : ∃ n', n = n' + 1 := ⟨n - 1, by omega⟩
      obtain ⟨q, h3, -⟩ := h2
      split at hx
      · rename_i r hp
        obtain ⟨-, hs, hr⟩ := litP_M hp h3
        exact addL_stands (rr := [r]) (i := i) ((AtR.nil s i).snoc (by simpa using hs)) (encT_one r).symm (by simpa using hr) hx
      · exact litSub_stands s k i q x h3 hx
    · cases hx
  | .bgn, i, j, x, _, hx => by simp [litSub] at hx
  | .fin, i, j, x, _, hx => by simp [litSub] at hx
end
/-- bytes whose runes are plain are those runes' bytes -/
theorem at_bytes0 : ∀ (rs : List Nat) (l : Bs), (∀ r ∈ rs, r ≠ 65533) → AtR (runesP l) 0 rs → ∃ b, l = encT rs ++ b
  | [], l, _, _ => ⟨l, by simp [encT]⟩
  | r :: rs, l, hn, h => by
    by_cases hl : l = []
    · subst hl
      have := h 0 r rfl
      rw [runes_nil] at this
      cases this
    · rw [runes_step hl] at h
      have h0 := h 0 r rfl
      simp at h0
      have hr := hn r (by simp)
      have he := Lib.encode_decode l hl (fun hh => hr (by rw [← h0]; exact hh.1))
      obtain ⟨b, hb⟩ := at_bytes0 rs (l.drop (Lib.decodeL l).2) (fun x hx => hn x (by simp [hx])) (fun m x hx => by
        have := h (m + 1) x (by simpa using hx)
        simpa using this)
      refine ⟨b, ?_⟩
      have e : encT (r :: rs) = encR r ++ encT rs := by simp [encT, encR]
      rw [e, List.append_assoc, ← hb, ← h0]
      show l = Lib.encodeRune _ ++ _
      rw [he, List.take_append_drop]
theorem at_bytes : ∀ (k : Nat) (rs : List Nat) (l : Bs), (∀ r ∈ rs, r ≠ 65533) → AtR (runesP l) k rs → ∃ a b, l = a ++ encT rs ++ b
  | 0, rs, l, hn, h => by
    obtain ⟨b, hb⟩ := at_bytes0 rs l hn h
    exact ⟨[], b, by simpa using hb⟩
  | k + 1, rs, l, hn, h => by
    by_cases hl : l = []
    · subst hl
      obtain ⟨b, hb⟩ := at_bytes0 rs [] hn (fun m x hx => by
        have := h m x hx
        rw [runes_nil] at this
        cases this)
      exact ⟨[], b, by simpa using hb⟩
    · rw [runes_step hl] at h
      obtain ⟨a, b, hb⟩ := at_bytes k rs (l.drop (Lib.decodeL l).2) hn (fun m x hx => by
        have := h m x hx
        rw [show k + 1 + m = (k + m) + 1 by omega] at this
        simpa using this)
      exact ⟨l.take (Lib.decodeL l).2 ++ a, b, by rw [List.append_assoc, List.append_assoc, ← List.append_assoc a, ← hb, List.take_append_drop]⟩
theorem litT_stands {s : List Nat} {t : Re} {i j : Nat} (h : t.M s i j) {x : Bs} (hx : x ∈ litT t) : Stands s x :=
  litRow_stands s [t] [] [] i j x (AtR.nil _ _) rfl (by simp) ⟨j, by simpa using h, rfl⟩ hx
theorem needs_stand {l : Bs} {t : Re} (h : partB t (runesP l) = true) {x : Bs} (hx : x ∈ needsP t) : Lib.contains l x = true := by
  obtain ⟨i, j, -, hm⟩ := part_iff.1 h
  rw [needsP, mem_onceB] at hx
  obtain ⟨rs, k, rfl, hn, ha⟩ := litT_stands hm hx
  exact contains_iff.2 (at_bytes k rs l hn ha)
theorem whole_part {l : Bs} {t : Re} (h : wholeB t (runesP l) = true) : partB t (runesP l) = true :=
  part_iff.2 ⟨0, _, Nat.zero_le _, whole_iff.1 h⟩
end Garner
