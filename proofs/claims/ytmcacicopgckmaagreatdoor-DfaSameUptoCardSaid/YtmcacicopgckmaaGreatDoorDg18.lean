import Derived.Test.YtmcacicopgckmaaGreatDoorDg06
import Derived.Test.YtmcacicopgckmaaGreatDoorDg05
/-! Patterns, plain: repetitions ask for at most eight -/
namespace Garner
open Go
mutual
def Re.lim : Re → Prop
  | .emp => True
  | .set _ => True
  | .seq l => lims l
  | .alt l => lims l
  | .rep k mn mx => k.lim ∧ mn ≤ 8 ∧ ∀ m, mx = some m → m ≤ 8
  | .bgn => True
  | .fin => True
def lims : List Re → Prop
  | [] => True
  | t :: ts => t.lim ∧ lims ts
end
theorem many_lim {mk : List Re → Re} (h : ∀ l, (mk l).lim = lims l) {l : List Re} (hl : lims l) : (manyR mk l).lim := by
  match l, hl with
  | [], hl => exact (h []).symm ▸ hl
  | [t], hl => exact hl.1
  | t :: u :: r, hl => exact (h (t :: u :: r)).symm ▸ hl
theorem rowOf_lim {l : List Re} (hl : lims l) : (rowOf l).lim := by
  unfold rowOf
  split
  · trivial
  · exact many_lim (mk := .seq) (fun _ => rfl) hl
theorem quant_lim {t u : Re} {s s1 : List Nat} (h : quantR t s = some (u, s1)) (ht : t.lim) : u.lim := by
  cases s with
  | nil => cases h; exact ht
  | cons r s =>
    rw [quantR] at h
    split at h
    · cases h; exact ⟨ht, by omega, fun m e => (by cases e)⟩
    split at h
    · cases h; exact ⟨ht, by omega, fun m e => (by cases e)⟩
    split at h
    · cases h; exact ⟨ht, by omega, fun m e => (by cases e; omega)⟩
    split at h
    · split at h
      · cases h
      · rename_i lo s2 h1
        have l1 := (digR_len h1).2
        split at h
        · split at h
          · cases h
          · rename_i hi s3 h2
            have l2 := (digR_len h2).2
            split at h
            · injection h with h; injection h with h3 h4
              subst h3
              exact ⟨ht, l1, fun m e => (by cases e; exact l2)⟩
            · cases h
        · split at h
          · injection h with h; injection h with h3 h4
            subst h3
            exact ⟨ht, l1, fun m e => (by cases e; exact l1)⟩
          · cases h
    · cases h; exact ht
theorem parse_lim : ∀ n : Nat,
    (∀ {s s1 : List Nat} {ts : List Re} {d : Nat}, altsR n s = some (ts, s1, d) → lims ts) ∧
    (∀ {s s1 : List Nat} {ts : List Re} {d : Nat}, rowsR n s = some (ts, s1, d) → lims ts) ∧
    (∀ {s s1 : List Nat} {t : Re} {d : Nat}, itemR n s = some (t, s1, d) → t.lim) ∧
    (∀ {s s1 : List Nat} {t : Re} {d : Nat}, atomR n s = some (t, s1, d) → t.lim)
  | 0 => ⟨fun h => (by cases h), fun h => (by cases h), fun h => (by cases h), fun h => (by cases h)⟩
  | n + 1 => by
    obtain ⟨ia, ir, ii, it⟩ := parse_lim n
    refine ⟨?_, ?_, ?_, ?_⟩
    · intro s s1 ts d h
      rw [altsR] at h
      split at h
      · cases h
      · rename_i us s2 e hr
        have h2 := ir hr
        split at h
        · split at h
          · cases h
          · rename_i vs s3 e2 ha
            have h4 := ia ha
            cases h
            exact ⟨rowOf_lim h2, h4⟩
        · cases h
          exact ⟨rowOf_lim h2, trivial⟩
    · intro s s1 ts d h
      rw [rowsR] at h
      split at h
      · cases h; trivial
      · split at h
        · cases h
        · rename_i t s2 e hi
          have h2 := ii hi
          split at h
          · cases h
          · rename_i vs s3 e2 hr
            have h4 := ir hr
            cases h
            exact ⟨h2, h4⟩
    · intro s s1 t d h
      rw [itemR] at h
      split at h
      · cases h
      · rename_i v s2 e ha
        have h2 := it ha
        obtain ⟨p, hp, e⟩ := Option.map_eq_some_iff.1 h
        cases e
        exact quant_lim (u := p.1) (s1 := p.2) hp h2
    · intro s s1 t d h
      cases s with
      | nil => cases h
      | cons r s =>
        rw [atomR] at h
        split at h
        · split at h
          · cases h
          · rename_i us s2 e ha
            have h2 := ia ha
            split at h
            · cases h
              exact many_lim (mk := .alt) (fun _ => rfl) h2
            · cases h
        split at h
        · obtain ⟨p, hp, e⟩ := Option.map_eq_some_iff.1 h
          cases e; trivial
        split at h
        · cases h; trivial
        split at h
        · cases h; trivial
        split at h
        · cases h; trivial
        split at h
        · obtain ⟨p, hp, e⟩ := Option.map_eq_some_iff.1 h
          cases e; trivial
        split at h
        · cases h
        · cases h; trivial
theorem len_cnts : ∀ l : List Re, l.length ≤ cnts l
  | [] => Nat.le_refl _
  | t :: ts => by
    have := len_cnts ts
    have := cnt_pos t
    simp only [List.length_cons, cnts]; omega
def LimN (C : Nat) (n : NodeP) : Prop := n.kind ≤ 7 ∧ n.mn ≤ 8 ∧ -1 ≤ n.mx ∧ n.mx ≤ 8 ∧ n.kids.length ≤ C
theorem LimN.mono {C D : Nat} {n : NodeP} (h : LimN C n) (hc : C ≤ D) : LimN D n := ⟨h.1, h.2.1, h.2.2.1, h.2.2.2.1, Nat.le_trans h.2.2.2.2 hc⟩
mutual
theorem flat_lim : ∀ (t : Re) (b : Nat), t.lim → ∀ n ∈ t.flat b, LimN t.cnt n
  | .emp, b, _, n, hn => by simp [Re.flat] at hn; subst hn; exact ⟨by simp, by simp, by simp, by simp, by simp⟩
  | .set l, b, _, n, hn => by simp [Re.flat] at hn; subst hn; exact ⟨by simp, by simp, by simp, by simp, by simp⟩
  | .bgn, b, _, n, hn => by simp [Re.flat] at hn; subst hn; exact ⟨by simp, by simp, by simp, by simp, by simp⟩
  | .fin, b, _, n, hn => by simp [Re.flat] at hn; subst hn; exact ⟨by simp, by simp, by simp, by simp, by simp⟩
  | .seq l, b, hl, n, hn => by
    rw [Re.flat] at hn
    have := len_cnts l
    rcases List.mem_append.1 hn with hn | hn
    · exact (flats_lim l b hl n hn).mono (by simp only [Re.cnt]; omega)
    · rw [List.mem_singleton.1 hn]
      exact ⟨by simp, by simp, by simp, by simp, by rw [roots_len]; simp only [Re.cnt]; omega⟩
  | .alt l, b, hl, n, hn => by
    rw [Re.flat] at hn
    have := len_cnts l
    rcases List.mem_append.1 hn with hn | hn
    · exact (flats_lim l b hl n hn).mono (by simp only [Re.cnt]; omega)
    · rw [List.mem_singleton.1 hn]
      exact ⟨by simp, by simp, by simp, by simp, by rw [roots_len]; simp only [Re.cnt]; omega⟩
  | .rep t mn mx, b, hl, n, hn => by
    rw [rep_flatM] at hn
    have := cnt_pos t
    rcases List.mem_append.1 hn with hn | hn
    · exact (flat_lim t b hl.1 n hn).mono (by simp only [Re.cnt]; omega)
    · rw [List.mem_singleton.1 hn]
      refine ⟨by simp, hl.2.1, ?_, ?_, by simp only [Re.cnt]; simp⟩
      · cases mx with
        | none => simp [mxM]
        | some m => simp only [mxM]; omega
      · cases mx with
        | none => simp [mxM]
        | some m => have := hl.2.2 m rfl; simp only [mxM]; omega
theorem flats_lim : ∀ (ts : List Re) (b : Nat), lims ts → ∀ n ∈ flats b ts, LimN (cnts ts) n
  | [], b, _, n, hn => by simp [flats] at hn
  | t :: ts, b, hl, n, hn => by
    rw [flats] at hn
    rcases List.mem_append.1 hn with hn | hn
    · exact (flat_lim t b hl.1 n hn).mono (by simp only [cnts]; omega)
    · exact (flats_lim ts _ hl.2 n hn).mono (by simp only [cnts]; omega)
end
end Garner

/-! Patterns, plain: the laws of patterns that are put together -/
namespace Garner
open Go

noncomputable def wholeB (t : Re) (s : List Nat) : Bool := @decide (t.M s 0 s.length) (Classical.propDecidable _)
noncomputable def partB (t : Re) (s : List Nat) : Bool := @decide (∃ i j, i ≤ s.length ∧ t.M s i j) (Classical.propDecidable _)
theorem whole_iff {t : Re} {s : List Nat} : wholeB t s = true ↔ t.M s 0 s.length := @decide_eq_true_iff _ (Classical.propDecidable _)
theorem part_iff {t : Re} {s : List Nat} : partB t s = true ↔ ∃ i j, i ≤ s.length ∧ t.M s i j := @decide_eq_true_iff _ (Classical.propDecidable _)
theorem iter_le {R : Nat → Nat → Prop} {m : Nat} (h : ∀ {i j}, R i j → i ≤ m → i ≤ j ∧ j ≤ m) : ∀ n {i j}, iterR R n i j → i ≤ m → i ≤ j ∧ j ≤ m
  | 0, i, j, e, hi => by
    have e : i = j := e
    omega
  | n + 1, i, j, ⟨k, h1, h2⟩, hi => by
    have h3 := h h1 hi
    have h4 := iter_le h n h2 h3.2
    omega
mutual
theorem M_le {s : List Nat} : ∀ (t : Re) {i j : Nat}, t.M s i j → i ≤ s.length → i ≤ j ∧ j ≤ s.length
  | .emp, i, j, h, hi => by
    have e : i = j := h
    omega
  | .set l, i, j, h, hi => by
    obtain ⟨e, r, hr, -⟩ := h
    have := (List.getElem?_eq_some_iff.1 hr).1
    omega
  | .seq l, i, j, h, hi => Ms_le l h hi
  | .alt l, i, j, h, hi => Ma_le l h hi
  | .rep k mn mx, i, j, h, hi => by
    obtain ⟨n, -, -, h⟩ := h
    have hk : ∀ {i j}, k.M s i j → i ≤ s.length → i ≤ j ∧ j ≤ s.length := fun h hi => M_le k h hi
    exact iter_le hk n h hi
  | .bgn, i, j, h, hi => by
    have e : i = j := h.1
    omega
  | .fin, i, j, h, hi => by
    have e : i = j := h.1
    omega
theorem Ms_le {s : List Nat} : ∀ (l : List Re) {i j : Nat}, Ms s l i j → i ≤ s.length → i ≤ j ∧ j ≤ s.length
  | [], i, j, h, hi => by
    have e : i = j := h
    omega
  | t :: ts, i, j, ⟨k, h1, h2⟩, hi => by
    have h3 := M_le t h1 hi
    have h4 := Ms_le ts h2 h3.2
    omega
theorem Ma_le {s : List Nat} : ∀ (l : List Re) {i j : Nat}, Ma s l i j → i ≤ s.length → i ≤ j ∧ j ≤ s.length
  | [], i, j, h, hi => h.elim
  | t :: ts, i, j, h, hi => by
    rcases h with h | h
    · exact M_le t h hi
    · exact Ma_le ts h hi
end

/-- a pattern that was read -/
def ReadsTo (s : List Nat) (t : Re) : Prop := ∃ ts d, altsR (4 * s.length + 4) s = some (ts, [], d) ∧ t = manyR .alt ts
theorem ReadsTo.ok {s : List Nat} {t : Re} (h : ReadsTo s t) : t.ok := by
  obtain ⟨ts, d, h1, rfl⟩ := h
  obtain ⟨-, h2, h3⟩ := (parse_cnt _).1 h1
  exact many_ok h2 (fun h hne => ⟨hne, h⟩) h3
section
variable {s : List Nat} {a b : Re}
end
end Garner

/-! Patterns, plain: rows of sets: dots, classes, plain runes -/
namespace Garner
open Go

section
variable {s : List Nat}
theorem Ms_app2 {ts us : List Re} {i j : Nat} : Ms s (ts ++ us) i j ↔ ∃ k, Ms s ts i k ∧ Ms s us k j := by
  induction ts generalizing i with
  | nil =>
    show _ ↔ ∃ k, i = k ∧ _
    simp
  | cons t ts ih =>
    constructor
    · rintro ⟨m, h1, h2⟩
      obtain ⟨k, h3, h4⟩ := ih.1 h2
      exact ⟨k, ⟨m, h1, h3⟩, h4⟩
    · rintro ⟨k, ⟨m, h1, h3⟩, h4⟩
      exact ⟨m, h1, ih.2 ⟨k, h3, h4⟩⟩
end

/-! ### dots -/
section
variable {s : List Nat}
end
end Garner

/-! Patterns, plain: a text quoted; classes of two runes -/
namespace Garner
open Go

abbrev litS (r : Nat) : Re := .set [r, r]
section
variable {l : List Nat}
theorem lit_has {r x : Nat} : hasR [r, r] x = true ↔ x = r := by
  simp [hasR]; omega
end
end Garner

/-! Patterns, plain: what is asked first of matching -/
namespace Garner
open Go
def awT : Re := .seq [.rep (litS 97) 0 none, litS 98]
theorem aw_ok : rexpP [97, 42, 98] = .ok awT := by
  have h1 : Lib.validD [97, 42, 98] = true := by kernel_rfl
  have h2 : runesP [97, 42, 98] = [97, 42, 98] := by kernel_rfl
  have h3 : readR [97, 42, 98] = .ok awT := by kernel_rfl
  unfold rexpP
  rw [if_neg (by decide), if_neg (by rw [h1]; decide), h2, h3]
theorem lit_M {s : List Nat} {r i j : Nat} : (litS r).M s i j ↔ j = i + 1 ∧ s[i]? = some r := by
  constructor
  · rintro ⟨h1, x, h2, h3⟩
    rw [lit_has] at h3
    subst h3
    exact ⟨h1, h2⟩
  · rintro ⟨h1, h2⟩
    exact ⟨h1, r, h2, lit_has.2 rfl⟩
theorem awT_M {s : List Nat} {i j : Nat} : awT.M s i j ↔ ∃ n, iterR ((litS 97).M s) n i (j - 1) ∧ 0 < j ∧ s[j - 1]? = some 98 := by
  constructor
  · rintro ⟨k, ⟨n, -, -, h⟩, k2, h2, h3⟩
    obtain rfl : k2 = j := h3
    rw [lit_M] at h2
    obtain ⟨rfl, h2⟩ := h2
    exact ⟨n, h, by omega, h2⟩
  · rintro ⟨n, h, h0, h2⟩
    exact ⟨j - 1, ⟨n, Nat.zero_le _, fun m e => (by cases e), h⟩, j, lit_M.2 ⟨by omega, h2⟩, rfl⟩
theorem aw_whole : wholeB awT [97, 97, 98] = true :=
  whole_iff.2 (awT_M.2 ⟨2, ⟨1, lit_M.2 ⟨rfl, rfl⟩, 2, lit_M.2 ⟨rfl, rfl⟩, rfl⟩, by decide, rfl⟩)
theorem aw_not : wholeB awT [97, 98, 120] = false := by
  rw [Bool.eq_false_iff]
  intro h
  obtain ⟨n, -, -, h2⟩ := awT_M.1 (whole_iff.1 h)
  cases h2
theorem aw_part : partB awT [120, 97, 98, 121] = true :=
  part_iff.2 ⟨1, 3, by decide, awT_M.2 ⟨1, ⟨2, lit_M.2 ⟨rfl, rfl⟩, rfl⟩, by decide, rfl⟩⟩
theorem aw_r1 : runesP [97, 97, 98] = [97, 97, 98] := by kernel_rfl
theorem aw_r2 : runesP [97, 98, 120] = [97, 98, 120] := by kernel_rfl
theorem aw_r3 : runesP [120, 97, 98, 121] = [120, 97, 98, 121] := by kernel_rfl
end Garner

/-! Patterns, plain: classes of two letters -/
namespace Garner
open Go

section
variable {p q : Nat}
variable {s : List Nat}
end
end Garner

/-! garnerref18.Clean, plain: the runes at which something may change, in order -/
namespace Garner
open Go
def swapC (xs : List Nat) (j : Nat) : List Nat := (xs.set (j + 1) (xs[j]?.getD 0)).set j (xs[j + 1]?.getD 0)
def downC : Nat → List Nat → List Nat
  | 0, xs => xs
  | j + 1, xs => if xs[j + 1]?.getD 0 < xs[j]?.getD 0 then downC j (swapC xs j) else xs
/-- the list behind so many rounds -/
def sortC : Nat → List Nat → List Nat
  | 0, xs => xs
  | i + 1, xs => downC (i + 1) (sortC i xs)
theorem swapC_len (xs : List Nat) (j : Nat) : (swapC xs j).length = xs.length := by simp [swapC]
theorem downC_len : ∀ (j : Nat) (xs : List Nat), (downC j xs).length = xs.length
  | 0, _ => rfl
  | j + 1, xs => by
    rw [downC]; split
    · rw [downC_len j, swapC_len]
    · rfl
theorem sortC_len : ∀ (i : Nat) (xs : List Nat), (sortC i xs).length = xs.length
  | 0, _ => rfl
  | i + 1, xs => by rw [sortC, downC_len, sortC_len i]
theorem swapC_at {xs : List Nat} {j : Nat} (hj : j + 1 < xs.length) (m : Nat) : (swapC xs j)[m]?.getD 0 = if m = j then xs[j + 1]?.getD 0 else if m = j + 1 then xs[j]?.getD 0 else xs[m]?.getD 0 := by
  unfold swapC
  by_cases h1 : m = j
  · subst h1
    rw [if_pos rfl, List.getElem?_set_self (by simp; omega)]; rfl
  · rw [if_neg h1, List.getElem?_set_ne (fun e => h1 e.symm)]
    by_cases h2 : m = j + 1
    · subst h2
      rw [if_pos rfl, List.getElem?_set_self hj]; rfl
    · rw [if_neg h2, List.getElem?_set_ne (fun e => h2 e.symm)]
theorem mem_getD {xs : List Nat} {c : Nat} : c ∈ xs ↔ ∃ m, m < xs.length ∧ xs[m]?.getD 0 = c := by
  rw [List.mem_iff_getElem]
  constructor
  · rintro ⟨m, hm, h⟩
    exact ⟨m, hm, by rw [List.getElem?_eq_getElem hm, h]; rfl⟩
  · rintro ⟨m, hm, h⟩
    exact ⟨m, hm, by rw [List.getElem?_eq_getElem hm] at h; exact h⟩
theorem mem_swapC {xs : List Nat} {j : Nat} (hj : j + 1 < xs.length) (c : Nat) : c ∈ swapC xs j ↔ c ∈ xs := by
  rw [mem_getD, mem_getD, swapC_len]
  constructor
  · rintro ⟨m, hm, h⟩
    rw [swapC_at hj] at h
    split at h
    · exact ⟨j + 1, hj, h⟩
    · split at h
      · exact ⟨j, by omega, h⟩
      · exact ⟨m, hm, h⟩
  · rintro ⟨m, hm, h⟩
    by_cases h1 : m = j
    · exact ⟨j + 1, hj, by rw [swapC_at hj, if_neg (by omega), if_pos rfl, ← h1]; exact h⟩
    · by_cases h2 : m = j + 1
      · exact ⟨j, by omega, by rw [swapC_at hj, if_pos rfl, ← h2]; exact h⟩
      · exact ⟨m, hm, by rw [swapC_at hj, if_neg h1, if_neg h2]; exact h⟩
theorem mem_downC : ∀ (j : Nat) (xs : List Nat), j < xs.length → ∀ c, c ∈ downC j xs ↔ c ∈ xs
  | 0, _, _, _ => Iff.rfl
  | j + 1, xs, hj, c => by
    rw [downC]
    split
    · rw [mem_downC j _ (by rw [swapC_len]; omega), mem_swapC hj]
    · rfl
theorem mem_sortC : ∀ (i : Nat) (xs : List Nat), i < xs.length → ∀ c, c ∈ sortC i xs ↔ c ∈ xs
  | 0, _, _, _ => Iff.rfl
  | i + 1, xs, hi, c => by rw [sortC, mem_downC _ _ (by rw [sortC_len]; omega), mem_sortC i xs (by omega)]
/-- in order up to a place -/
def UpTo (xs : List Nat) (n : Nat) : Prop := ∀ a b, a < b → b < n → xs[a]?.getD 0 ≤ xs[b]?.getD 0
theorem downC_up : ∀ (j : Nat) (xs : List Nat) (i : Nat), j ≤ i → i < xs.length → (∀ a b, a < b → b ≤ i → a ≠ j → b ≠ j → xs[a]?.getD 0 ≤ xs[b]?.getD 0) → (∀ b, j < b → b ≤ i → xs[j]?.getD 0 ≤ xs[b]?.getD 0) → UpTo (downC j xs) (i + 1)
  | 0, xs, i, _, _, h1, h2 => fun a b hab hb => by
    show xs[a]?.getD 0 ≤ xs[b]?.getD 0
    by_cases ha : a = 0
    · subst ha; exact h2 b hab (by omega)
    · exact h1 a b hab (by omega) ha (by omega)
  | j + 1, xs, i, hj, hi, h1, h2 => by
    rw [downC]
    split
    · rename_i hlt
      refine downC_up j (swapC xs j) i (by omega) (by rw [swapC_len]; exact hi) (fun a b hab hb ha hbj => ?_) (fun b hb1 hb2 => ?_)
      · rw [swapC_at (by omega), swapC_at (by omega), if_neg ha, if_neg hbj]
        by_cases ha1 : a = j + 1
        · rw [if_pos ha1, if_neg (by omega)]
          exact h1 j b (by omega) hb (by omega) (by omega)
        · rw [if_neg ha1]
          by_cases hb1 : b = j + 1
          · rw [if_pos hb1]
            exact h1 a j (by omega) (by omega) ha1 (by omega)
          · rw [if_neg hb1]
            exact h1 a b hab hb ha1 hb1
      · rw [swapC_at (by omega), swapC_at (by omega), if_pos rfl, if_neg (by omega)]
        by_cases hb3 : b = j + 1
        · rw [if_pos hb3]; omega
        · rw [if_neg hb3]
          exact h2 b (by omega) hb2
    · rename_i hlt
      intro a b hab hb
      by_cases ha : a = j + 1
      · subst ha; exact h2 b hab (by omega)
      · by_cases hb1 : b = j + 1
        · subst hb1
          by_cases ha2 : a = j
          · subst ha2; omega
          · have := h1 a j (by omega) (by omega) ha (by omega)
            omega
        · exact h1 a b hab (by omega) ha hb1
theorem sortC_up : ∀ (i : Nat) (xs : List Nat), i < xs.length → UpTo (sortC i xs) (i + 1)
  | 0, _, _ => fun a b hab hb => by omega
  | i + 1, xs, hi => by
    have ih := sortC_up i xs (by omega)
    rw [sortC]
    refine downC_up (i + 1) _ (i + 1) (Nat.le_refl _) (by rw [sortC_len]; exact hi) (fun a b hab hb ha hbj => ih a b hab (by omega)) (fun b h1 h2 => by omega)
/-- the runes at which something may change -/
def cutsP (P : List (Nat × Nat)) : List Nat := 0 :: 1114112 :: P.flatMap fun p => [p.1, p.2 + 1]
def hasB (P : List (Nat × Nat)) (x : Nat) : Bool := P.any fun p => decide (p.1 ≤ x) && decide (x ≤ p.2)
theorem hasB_iff {P : List (Nat × Nat)} {x : Nat} : hasB P x = true ↔ inI P x := by
  unfold hasB inI
  rw [List.any_eq_true]
  constructor
  · rintro ⟨p, hp, h⟩
    rw [Bool.and_eq_true, decide_eq_true_iff, decide_eq_true_iff] at h
    exact ⟨p, hp, h⟩
  · rintro ⟨p, hp, h⟩
    exact ⟨p, hp, by rw [Bool.and_eq_true, decide_eq_true_iff, decide_eq_true_iff]; exact h⟩
def stepC (P : List (Nat × Nat)) (nt : Bool) (out : List (Nat × Nat)) (a b : Nat) : List (Nat × Nat) :=
  if a = b ∨ hasB P a = nt then out else
  match out.getLast? with
  | some p => if p.2 + 1 = a then out.dropLast ++ [(p.1, b - 1)] else out ++ [(a, b - 1)]
  | none => [(a, b - 1)]
/-- the pairs behind so many cuts -/
def cleanN (P : List (Nat × Nat)) (nt : Bool) (L : List Nat) : Nat → List (Nat × Nat)
  | 0 => []
  | i + 1 => stepC P nt (cleanN P nt L i) (L[i]?.getD 0) (L[i + 1]?.getD 0)
theorem const_mid {P : List (Nat × Nat)} {a b : Nat} (hP : ∀ p ∈ P, (p.1 ≤ a ∨ b ≤ p.1) ∧ (p.2 + 1 ≤ a ∨ b ≤ p.2 + 1)) {x : Nat} (h1 : a ≤ x) (h2 : x < b) : hasB P x = hasB P a := by
  rw [Bool.eq_iff_iff, hasB_iff, hasB_iff]
  constructor
  · rintro ⟨p, hp, h3, h4⟩
    have := hP p hp
    exact ⟨p, hp, by omega, by omega⟩
  · rintro ⟨p, hp, h3, h4⟩
    have := hP p hp
    exact ⟨p, hp, by omega, by omega⟩
theorem canon_all : ∀ {l : List (Nat × Nat)}, CanonI l → ∀ p ∈ l, p.1 ≤ p.2
  | [], _, p, hp => by cases hp
  | q :: l, h, p, hp => by
    rcases List.mem_cons.1 hp with rfl | hp
    · exact h.head
    · exact canon_all h.tail p hp
theorem step_law {P : List (Nat × Nat)} {nt : Bool} {out : List (Nat × Nat)} {a b : Nat} (hab : a ≤ b) (hP : ∀ p ∈ P, (p.1 ≤ a ∨ b ≤ p.1) ∧ (p.2 + 1 ≤ a ∨ b ≤ p.2 + 1)) (hc : CanonI out) (hi : ∀ x, inI out x ↔ x < a ∧ hasB P x ≠ nt) :
    CanonI (stepC P nt out a b) ∧ ∀ x, inI (stepC P nt out a b) x ↔ x < b ∧ hasB P x ≠ nt := by
  have hcm := fun x => const_mid hP (x := x)
  unfold stepC
  split
  · rename_i h
    refine ⟨hc, fun x => ?_⟩
    rw [hi]
    constructor
    · rintro ⟨h1, h2⟩; exact ⟨by omega, h2⟩
    · rintro ⟨h1, h2⟩
      refine ⟨?_, h2⟩
      rcases Nat.lt_or_ge x a with h3 | h3
      · exact h3
      · rcases h with h | h
        · omega
        · exact absurd ((hcm x h3 h1).trans h) h2
  · rename_i h
    have h1 : a < b := by
      rcases Nat.lt_or_ge a b with h2 | h2
      · exact h2
      · exact absurd (.inl (by omega)) h
    have h2 : hasB P a ≠ nt := fun e => h (.inr e)
    have hnew : ∀ x, (inI out x ∨ inI [(a, b - 1)] x) ↔ x < b ∧ hasB P x ≠ nt := fun x => by
      rw [hi, inI_one]
      dsimp only
      constructor
      · rintro (⟨h3, h4⟩ | ⟨h3, h4⟩)
        · exact ⟨by omega, h4⟩
        · exact ⟨by omega, by rw [hcm x h3 (by omega)]; exact h2⟩
      · rintro ⟨h3, h4⟩
        rcases Nat.lt_or_ge x a with h5 | h5
        · exact .inl ⟨h5, h4⟩
        · exact .inr ⟨h5, by omega⟩
    cases hg : out.getLast? with
    | none =>
      have : out = [] := by simpa using hg
      subst this
      refine ⟨by show a ≤ b - 1; omega, fun x => ?_⟩
      rw [← hnew]
      simp [inI]
    | some p =>
      obtain ⟨pre, rfl⟩ : ∃ pre, out = pre ++ [p] := by
        obtain ⟨pre, h⟩ := List.getLast?_eq_some_iff.1 hg
        exact ⟨pre, h⟩
      obtain ⟨c1, c2, c3⟩ := canon_snoc.1 hc
      have hpa : p.2 < a := ((hi p.2).1 (inI_append.2 (.inr (inI_one.2 ⟨c2, Nat.le_refl _⟩)))).1
      dsimp only
      split
      · rename_i hj
        rw [List.dropLast_concat]
        refine ⟨canon_snoc.2 ⟨c1, by simp; omega, c3⟩, fun x => ?_⟩
        rw [← hnew, inI_append, inI_append, inI_one, inI_one, inI_one]
        dsimp only
        constructor
        · rintro (h3 | ⟨h3, h4⟩)
          · exact .inl (.inl h3)
          · by_cases hx : x ≤ p.2
            · exact .inl (.inr ⟨h3, hx⟩)
            · exact .inr ⟨by omega, h4⟩
        · rintro ((h3 | ⟨h3, h4⟩) | ⟨h3, h4⟩)
          · exact .inl h3
          · exact .inr ⟨h3, by omega⟩
          · exact .inr ⟨by omega, h4⟩
      · rename_i hj
        refine ⟨canon_snoc.2 ⟨hc, by simp; omega, fun q hq => ?_⟩, fun x => by rw [inI_append]; exact hnew x⟩
        have hq2 : q.2 < a := by
          obtain ⟨m, hm, e⟩ := List.mem_iff_getElem.1 hq
          have hcq : q.1 ≤ q.2 := by
            rcases List.mem_append.1 hq with hq | hq
            · exact (canon_all c1 q hq)
            · rw [List.mem_singleton.1 hq]; exact c2
          exact ((hi q.2).1 ⟨q, hq, hcq, Nat.le_refl _⟩).1
        rcases List.mem_append.1 hq with hq' | hq'
        · have := c3 q hq'
          show q.2 + 1 < a
          omega
        · rw [List.mem_singleton.1 hq'] at hq2 ⊢
          show p.2 + 1 < a
          omega
theorem clean_law {P : List (Nat × Nat)} (hP : ∀ p ∈ P, p.1 ≤ p.2 ∧ p.2 ≤ 1114111) (nt : Bool) (L : List Nat) (n : Nat) (hn : L.length = n + 1) (hu : UpTo L (n + 1)) (hm : ∀ c, c ∈ L ↔ c ∈ cutsP P) :
    cleanN P nt L n = if nt = true then othersGo 0 (mergeI (sortR P)) else mergeI (sortR P) := by
  have hall : ∀ i, i ≤ n → (∀ p ∈ P, ∀ c, (c = p.1 ∨ c = p.2 + 1) → ∃ m, m ≤ n ∧ L[m]?.getD 0 = c) := fun i _ p hp c hc => by
    have h1 : c ∈ cutsP P := by
      unfold cutsP
      refine List.mem_cons_of_mem _ (List.mem_cons_of_mem _ (List.mem_flatMap.2 ⟨p, hp, ?_⟩))
      rcases hc with rfl | rfl <;> simp
    obtain ⟨m, hm1, hm2⟩ := mem_getD.1 ((hm c).2 h1)
    exact ⟨m, by omega, hm2⟩
  have h0 : L[0]?.getD 0 = 0 := by
    obtain ⟨m, hm1, hm2⟩ := mem_getD.1 ((hm 0).2 (by simp [cutsP]))
    by_cases hm0 : m = 0
    · subst hm0; exact hm2
    · have := hu 0 m (by omega) (by omega)
      omega
  have hend : L[n]?.getD 0 = 1114112 := by
    obtain ⟨m, hm1, hm2⟩ := mem_getD.1 ((hm 1114112).2 (by simp [cutsP]))
    have h1 : 1114112 ≤ L[n]?.getD 0 := by
      by_cases hmn : m = n
      · rw [← hmn, hm2]; exact Nat.le_refl _
      · have := hu m n (by omega) (by omega)
        omega
    have h2 : L[n]?.getD 0 ∈ cutsP P := (hm _).1 (mem_getD.2 ⟨n, by omega, rfl⟩)
    unfold cutsP at h2
    rcases List.mem_cons.1 h2 with h2 | h2
    · omega
    rcases List.mem_cons.1 h2 with h2 | h2
    · exact h2
    obtain ⟨p, hp, h3⟩ := List.mem_flatMap.1 h2
    have := hP p hp
    simp at h3
    omega
  have key : ∀ i, i ≤ n → CanonI (cleanN P nt L i) ∧ ∀ x, inI (cleanN P nt L i) x ↔ x < L[i]?.getD 0 ∧ hasB P x ≠ nt := by
    intro i
    induction i with
    | zero =>
      intro _
      refine ⟨trivial, fun x => ?_⟩
      rw [h0]
      simp [cleanN, inI]
    | succ i ih =>
      intro hi
      obtain ⟨i1, i2⟩ := ih (by omega)
      rw [cleanN]
      refine step_law (hu i (i + 1) (by omega) (by omega)) (fun p hp => ?_) i1 i2
      have hc : ∀ c, (c = p.1 ∨ c = p.2 + 1) → c ≤ L[i]?.getD 0 ∨ L[i + 1]?.getD 0 ≤ c := fun c hc => by
        obtain ⟨m, hm1, hm2⟩ := hall i (by omega) p hp c hc
        rcases Nat.lt_or_ge i m with h1 | h1
        · right
          by_cases hmi : m = i + 1
          · rw [← hmi, hm2]; exact Nat.le_refl _
          · have := hu (i + 1) m (by omega) (by omega)
            omega
        · left
          by_cases hmi : m = i
          · rw [← hmi, hm2]; exact Nat.le_refl _
          · have := hu m i (by omega) (by omega)
            omega
      exact ⟨hc _ (.inl rfl), hc _ (.inr rfl)⟩
  obtain ⟨k1, k2⟩ := key n (Nat.le_refl _)
  rw [hend] at k2
  obtain ⟨m1, m2⟩ := merge_canon (sorted_sort P) fun p hp => (hP p (mem_sort.1 hp)).1
  have m3 : ∀ x, inI (mergeI (sortR P)) x ↔ inI P x := fun x => by rw [m2, inI_congr (fun p => mem_sort)]
  have hb : ∀ x, inI P x → x ≤ 1114111 := fun x ⟨p, hp, h1, h2⟩ => Nat.le_trans h2 (hP p hp).2
  cases nt with
  | false =>
    rw [if_neg (by simp)]
    refine canon_eq k1 m1 fun x => ?_
    rw [k2, m3]
    constructor
    · rintro ⟨h1, h2⟩
      exact hasB_iff.1 (by simpa using h2)
    · intro h
      exact ⟨by have := hb x h; omega, by rw [hasB_iff.2 h]; simp⟩
  | true =>
    rw [if_pos rfl]
    have hbb : ∀ p ∈ mergeI (sortR P), 0 ≤ p.1 ∧ p.2 ≤ 1114111 := fun p hp => ⟨Nat.zero_le _, hb _ ((m3 _).1 ⟨p, hp, canon_all m1 p hp, Nat.le_refl _⟩)⟩
    obtain ⟨o1, -, o3⟩ := others_canon _ 0 m1 hbb
    refine canon_eq k1 o1 fun x => ?_
    rw [k2, o3, m3]
    constructor
    · rintro ⟨h1, h2⟩
      exact ⟨Nat.zero_le _, by omega, fun h => h2 (hasB_iff.2 h)⟩
    · rintro ⟨-, h1, h2⟩
      exact ⟨by omega, fun h => h2 (hasB_iff.1 h)⟩
end Garner

