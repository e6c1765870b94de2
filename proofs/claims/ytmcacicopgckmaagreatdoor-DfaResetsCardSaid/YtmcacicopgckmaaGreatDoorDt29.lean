import Derived.Test.YtmcacicopgckmaaGreatDoorDt22
import Derived.Test.YtmcacicopgckmaaGreatDoorDt18
/-! Patterns, plain: repetitions ask for at most eight -/
namespace Garner
open Go
mutual
def Re.lim : Re → Prop
  | .emp => True
  | .set _ => True
  | .seq l => lims l
  | .alt l => lims l
  | .rep k mn mx => k.lim ∧ mn ≤ 8 ∧ ∀ m, mx = some m → m ≤ 8
  | .bgn => True
  | .fin => True
def lims : List Re → Prop
  | [] => True
  | t :: ts => t.lim ∧ lims ts
end
theorem many_lim {mk : List Re → Re} (h : ∀ l, (mk l).lim = lims l) {l : List Re} (hl : lims l) : (manyR mk l).lim := by
  match l, hl with
  | [], hl => exact (h []).symm ▸ hl
  | [t], hl => exact hl.1
  | t :: u :: r, hl => exact (h (t :: u :: r)).symm ▸ hl
theorem rowOf_lim {l : List Re} (hl : lims l) : (rowOf l).lim := by
  unfold rowOf
  split
  · trivial
  · exact many_lim (mk := .seq) (fun _ => rfl) hl
theorem quant_lim {t u : Re} {s s1 : List Nat} (h : quantR t s = some (u, s1)) (ht : t.lim) : u.lim := by
  cases s with
  | nil => cases h; exact ht
  | cons r s =>
    rw [quantR] at h
    split at h
    · cases h; exact ⟨ht, by omega, fun m e => (by cases e)⟩
    split at h
    · cases h; exact ⟨ht, by omega, fun m e => (by cases e)⟩
    split at h
    · cases h; exact ⟨ht, by omega, fun m e => (by cases e; omega)⟩
    split at h
    · split at h
      · cases h
      · rename_i lo s2 h1
        have l1 := (digR_len h1).2
        split at h
        · split at h
          · cases h
          · rename_i hi s3 h2
            have l2 := (digR_len h2).2
            split at h
            · injection h with h; injection h with h3 h4
              subst h3
              exact ⟨ht, l1, fun m e => (by cases e; exact l2)⟩
            · cases h
        · split at h
          · injection h with h; injection h with h3 h4
            subst h3
            exact ⟨ht, l1, fun m e => (by cases e; exact l1)⟩
          · cases h
    · cases h; exact ht
theorem parse_lim : ∀ n : Nat,
    (∀ {s s1 : List Nat} {ts : List Re} {d : Nat}, altsR n s = some (ts, s1, d) → lims ts) ∧
    (∀ {s s1 : List Nat} {ts : List Re} {d : Nat}, rowsR n s = some (ts, s1, d) → lims ts) ∧
    (∀ {s s1 : List Nat} {t : Re} {d : Nat}, itemR n s = some (t, s1, d) → t.lim) ∧
    (∀ {s s1 : List Nat} {t : Re} {d : Nat}, atomR n s = some (t, s1, d) → t.lim)
  | 0 => ⟨fun h => (by cases h), fun h => (by cases h), fun h => (by cases h), fun h => (by cases h)⟩
  | n + 1 => by
    obtain ⟨ia, ir, ii, it⟩ := parse_lim n
    refine ⟨?_, ?_, ?_, ?_⟩
    · intro s s1 ts d h
      rw [altsR] at h
      split at h
      · cases h
      · rename_i us s2 e hr
        have h2 := ir hr
        split at h
        · split at h
          · cases h
          · rename_i vs s3 e2 ha
            have h4 := ia ha
            cases h
            exact ⟨rowOf_lim h2, h4⟩
        · cases h
          exact ⟨rowOf_lim h2, trivial⟩
    · intro s s1 ts d h
      rw [rowsR] at h
      split at h
      · cases h; trivial
      · split at h
        · cases h
        · rename_i t s2 e hi
          have h2 := ii hi
          split at h
          · cases h
          · rename_i vs s3 e2 hr
            have h4 := ir hr
            cases h
            exact ⟨h2, h4⟩
    · intro s s1 t d h
      rw [itemR] at h
      split at h
      · cases h
      · rename_i v s2 e ha
        have h2 := it ha
        obtain ⟨p, hp, e⟩ := Option.map_eq_some_iff.1 h
        cases e
        exact quant_lim (u := p.1) (s1 := p.2) hp h2
    · intro s s1 t d h
      cases s with
      | nil => cases h
      | cons r s =>
        rw [atomR] at h
        split at h
        · split at h
          · cases h
          · rename_i us s2 e ha
            have h2 := ia ha
            split at h
            · cases h
              exact many_lim (mk := .alt) (fun _ => rfl) h2
            · cases h
        split at h
        · obtain ⟨p, hp, e⟩ := Option.map_eq_some_iff.1 h
          cases e; trivial
        split at h
        · cases h; trivial
        split at h
        · cases h; trivial
        split at h
        · cases h; trivial
        split at h
        · obtain ⟨p, hp, e⟩ := Option.map_eq_some_iff.1 h
          cases e; trivial
        split at h
        · cases h
        · cases h; trivial
theorem len_cnts : ∀ l : List Re, l.length ≤ cnts l
  | [] => Nat.le_refl _
  | t :: ts => by
    have := len_cnts ts
    have := cnt_pos t
    simp only [List.length_cons, cnts]; omega
def LimN (C : Nat) (n : NodeP) : Prop := n.kind ≤ 7 ∧ n.mn ≤ 8 ∧ -1 ≤ n.mx ∧ n.mx ≤ 8 ∧ n.kids.length ≤ C
theorem LimN.mono {C D : Nat} {n : NodeP} (h : LimN C n) (hc : C ≤ D) : LimN D n := ⟨h.1, h.2.1, h.2.2.1, h.2.2.2.1, Nat.le_trans h.2.2.2.2 hc⟩
mutual
theorem flat_lim : ∀ (t : Re) (b : Nat), t.lim → ∀ n ∈ t.flat b, LimN t.cnt n
  | .emp, b, _, n, hn => by simp [Re.flat] at hn; subst hn; exact ⟨by simp, by simp, by simp, by simp, by simp⟩
  | .set l, b, _, n, hn => by simp [Re.flat] at hn; subst hn; exact ⟨by simp, by simp, by simp, by simp, by simp⟩
  | .bgn, b, _, n, hn => by simp [Re.flat] at hn; subst hn; exact ⟨by simp, by simp, by simp, by simp, by simp⟩
  | .fin, b, _, n, hn => by simp [Re.flat] at hn; subst hn; exact ⟨by simp, by simp, by simp, by simp, by simp⟩
  | .seq l, b, hl, n, hn => by
    rw [Re.flat] at hn
    have := len_cnts l
    rcases List.mem_append.1 hn with hn | hn
    · exact (flats_lim l b hl n hn).mono (by simp only [Re.cnt]; omega)
    · rw [List.mem_singleton.1 hn]
      exact ⟨by simp, by simp, by simp, by simp, by rw [roots_len]; simp only [Re.cnt]; omega⟩
  | .alt l, b, hl, n, hn => by
    rw [Re.flat] at hn
    have := len_cnts l
    rcases List.mem_append.1 hn with hn | hn
    · exact (flats_lim l b hl n hn).mono (by simp only [Re.cnt]; omega)
    · rw [List.mem_singleton.1 hn]
      exact ⟨by simp, by simp, by simp, by simp, by rw [roots_len]; simp only [Re.cnt]; omega⟩
  | .rep t mn mx, b, hl, n, hn => by
    rw [rep_flatM] at hn
    have := cnt_pos t
    rcases List.mem_append.1 hn with hn | hn
    · exact (flat_lim t b hl.1 n hn).mono (by simp only [Re.cnt]; omega)
    · rw [List.mem_singleton.1 hn]
      refine ⟨by simp, hl.2.1, ?_, ?_, by simp only [Re.cnt]; simp⟩
      · cases mx with
        | none => simp [mxM]
        | some m => simp only [mxM]; omega
      · cases mx with
        | none => simp [mxM]
        | some m => have := hl.2.2 m rfl; simp only [mxM]; omega
theorem flats_lim : ∀ (ts : List Re) (b : Nat), lims ts → ∀ n ∈ flats b ts, LimN (cnts ts) n
  | [], b, _, n, hn => by simp [flats] at hn
  | t :: ts, b, hl, n, hn => by
    rw [flats] at hn
    rcases List.mem_append.1 hn with hn | hn
    · exact (flat_lim t b hl.1 n hn).mono (by simp only [cnts]; omega)
    · exact (flats_lim ts _ hl.2 n hn).mono (by simp only [cnts]; omega)
end
end Garner
/-! Patterns, plain: classes of two letters -/
namespace Garner
open Go

def twoR (p q : Nat) : List Nat := mergedR [p, p, q, q]
theorem two_canon (p q : Nat) : CanonI (mergeI (sortR [(p, p), (q, q)])) ∧ ∀ x, inI (mergeI (sortR [(p, p), (q, q)])) x ↔ x = p ∨ x = q := by
  have hm : ∀ r ∈ sortR [(p, p), (q, q)], r.1 ≤ r.2 := fun r hr => by
    have := mem_sort.1 hr
    simp at this
    rcases this with rfl | rfl <;> exact Nat.le_refl _
  obtain ⟨h1, h2⟩ := merge_canon (sorted_sort [(p, p), (q, q)]) hm
  refine ⟨h1, fun x => ?_⟩
  rw [h2, inI_congr (m := [(p, p), (q, q)]) fun r => mem_sort]
  simp [inI]; omega
theorem two_has {p q x : Nat} : hasR (twoR p q) x = true ↔ x = p ∨ x = q := by
  show hasR (flatR (mergeI (sortR [(p, p), (q, q)]))) x = true ↔ _
  rw [has_flat]
  exact (two_canon p q).2 x
theorem canon_mem {l : List (Nat × Nat)} (h : CanonI l) {r : Nat × Nat} (hr : r ∈ l) : r.1 ≤ r.2 := by
  induction l with
  | nil => cases hr
  | cons a l ih =>
    rcases List.mem_cons.1 hr with rfl | hr
    · exact h.head
    · exact ih h.tail hr
theorem not_has {p q x : Nat} (hp : p ≤ 1114111) (hq : q ≤ 1114111) : hasR (othersR (twoR p q)) x = true ↔ x ≤ 1114111 ∧ ¬ (x = p ∨ x = q) := by
  obtain ⟨h1, h2⟩ := two_canon p q
  have e : othersR (twoR p q) = flatR (othersGo 0 (mergeI (sortR [(p, p), (q, q)]))) := by
    show flatR (othersGo 0 (pairsR (flatR (mergeI (sortR [(p, p), (q, q)]))))) = _
    rw [pairs_flat]
  rw [e, has_flat]
  obtain ⟨-, -, h3⟩ := others_canon _ 0 h1 fun r hr => ⟨Nat.zero_le _, by
    have := (h2 r.2).1 ⟨r, hr, canon_mem h1 hr, Nat.le_refl _⟩
    omega⟩
  rw [h3, h2]
  simp
section
variable {p q : Nat}
theorem mem_letter {p : Nat} (h1 : 97 ≤ p) (h2 : p ≤ 112) (r : List Nat) : memR (p :: r) = some ([p, p], r) := by
  rw [memR, if_neg (by omega), if_neg (by omega)]
theorem cls_two (hp : 97 ≤ p ∧ p ≤ 112) (hq : 97 ≤ q ∧ q ≤ 112) (r : List Nat) (n : Nat) : clsR (n + 3) false (p :: q :: 93 :: r) [] = some ([p, p, q, q], r) := by
  have e1 : ¬ ((false = true) ∧ (p :: q :: 93 :: r).head? = some 93) := by simp
  have e2 : ¬ ((q :: 93 :: r).head? = some 45) := by simp; omega
  have e3 : ¬ ((true = true) ∧ (q :: 93 :: r).head? = some 93) := by simp; omega
  have e4 : ¬ ((93 :: r).head? = some 45) := by simp
  have e5 : (true = true) ∧ (93 :: r).head? = some 93 := by simp
  rw [clsR, if_neg e1, mem_letter hp.1 hp.2]
  dsimp only
  rw [if_neg e2, clsR, if_neg e3, mem_letter hq.1 hq.2]
  dsimp only
  rw [if_neg e4, clsR, if_pos e5]
  rfl
theorem class_two (hp : 97 ≤ p ∧ p ≤ 112) (hq : 97 ≤ q ∧ q ≤ 112) (r : List Nat) : classR (p :: q :: 93 :: r) = some (twoR p q, r) := by
  have e : ¬ ((p :: q :: 93 :: r).head? = some 94) := by simp; omega
  unfold classR
  rw [if_neg e, show (p :: q :: 93 :: r).length + 1 = r.length + 1 + 3 from rfl, cls_two hp hq]
  rfl
theorem class_not (hp : 97 ≤ p ∧ p ≤ 112) (hq : 97 ≤ q ∧ q ≤ 112) (r : List Nat) : classR (94 :: p :: q :: 93 :: r) = some (othersR (twoR p q), r) := by
  have e : ((94 :: p :: q :: 93 :: r).head? = some 94) := rfl
  unfold classR
  rw [if_pos e, List.tail_cons, show (94 :: p :: q :: 93 :: r).length + 1 = r.length + 2 + 3 from rfl, cls_two hp hq]
  rfl
theorem atom_class {s m r : List Nat} {n : Nat} (h : classR s = some (m, r)) : atomR (n + 1) (91 :: s) = some (.set m, r, 0) := by
  rw [atomR, if_neg (by decide), if_pos rfl, h]
  rfl
theorem read_one {s m : List Nat} (h : classR s = some (m, [])) : readR (91 :: s) = .ok (.set m) := by
  obtain ⟨n, hn⟩ : ∃ n, 4 * (91 :: s).length + 4 = n + 4 := ⟨_, rfl⟩
  have h1 := alts_one (rows_cons (a := 91) (by decide) (by decide) (item_of (atom_class (n := n) h) rfl) (rows_end (n + 1)))
  exact read_mk (ts := [.set m]) (by rw [hn]; exact h1) (by decide) (by show Re.size (.set m) ≤ 1000; simp [Re.size])
theorem read_star {s m : List Nat} (h : classR s = some (m, [42])) : readR (91 :: s) = .ok (.rep (.set m) 0 none) := by
  obtain ⟨n, hn⟩ : ∃ n, 4 * (91 :: s).length + 4 = n + 4 := ⟨_, rfl⟩
  have h1 := alts_one (rows_cons (a := 91) (by decide) (by decide) (item_of (atom_class (n := n) h) quant_star) (rows_end (n + 1)))
  exact read_mk (ts := [.rep (.set m) 0 none]) (by rw [hn]; exact h1) (by decide) (by show Re.size (.rep (.set m) 0 none) ≤ 1000; simp [Re.size, timesR])
theorem letter_spec {p : Nat} (h : 97 ≤ p ∧ p ≤ 112) : p ∉ specR := fun e => by
  have : ∀ r ∈ specR, ¬ (97 ≤ r ∧ r ≤ 112) := by decide
  exact this p e h
theorem read_alt (hp : 97 ≤ p ∧ p ≤ 112) (hq : 97 ≤ q ∧ q ≤ 112) : readR [p, 124, q] = .ok (.alt [litS p, litS q]) := by
  have h1 := alts_one (rows_cons (a := q) (by omega) (by omega) (item_of (atom_lit (n := 11) (s := []) (letter_spec hq)) rfl) (rows_end 12))
  have h2 := alts_more (rows_cons (a := p) (by omega) (by omega) (item_of (atom_lit (n := 12) (s := [124, q]) (letter_spec hp)) (quant_none (by decide) (by decide) (by decide) (by decide))) (rows_bar 13 [q])) h1
  exact read_mk (ts := [litS p, litS q]) h2 (by decide) (by simp [manyR, Re.size, sizes])
variable {s : List Nat}
theorem cls_law (hp : p ≤ 1114111) (hq : q ≤ 1114111) (hs : ∀ r ∈ s, r ≤ 1114111) :
    (s.length = 1 → wholeB (.set (twoR p q)) s ≠ wholeB (.set (othersR (twoR p q))) s) ∧
    wholeB (.set (twoR p q)) s = wholeB (.alt [litS p, litS q]) s ∧ partB (.set (twoR p q)) s = partB (.alt [litS p, litS q]) s ∧
    wholeB (.rep (.set (othersR (twoR p q))) 0 none) s = (!partB (.set (twoR p q)) s) ∧ wholeB (.rep (.set (twoR p q)) 0 none) s = (!partB (.set (othersR (twoR p q))) s) := by
  refine ⟨fun h e => ?_, ?_, ?_, ?_, ?_⟩
  · obtain ⟨r, rfl⟩ : ∃ r, s = [r] := by
      match s, h with
      | [r], _ => exact ⟨r, rfl⟩
    have h1 : wholeB (.set (twoR p q)) [r] = true ↔ (r = p ∨ r = q) := by rw [set_whole]; simp [two_has]
    have h2 : wholeB (.set (othersR (twoR p q))) [r] = true ↔ ¬ (r = p ∨ r = q) := by
      rw [set_whole]
      have := hs r (by simp)
      simp [not_has hp hq, this]
    rw [e] at h1
    exact (iff_not_self (h1.symm.trans h2)).elim
  · rw [alt_whole, Bool.eq_iff_iff, Bool.or_eq_true, set_whole, set_whole, set_whole]
    simp only [two_has, lit_has]
    constructor
    · rintro ⟨r, h1, h2 | h2⟩
      · exact .inl ⟨r, h1, h2⟩
      · exact .inr ⟨r, h1, h2⟩
    · rintro (⟨r, h1, h2⟩ | ⟨r, h1, h2⟩)
      · exact ⟨r, h1, .inl h2⟩
      · exact ⟨r, h1, .inr h2⟩
  · rw [alt_part, Bool.eq_iff_iff, Bool.or_eq_true, set_part, set_part, set_part]
    simp only [two_has, lit_has]
    constructor
    · rintro ⟨r, h1, h2 | h2⟩
      · exact .inl ⟨r, h1, h2⟩
      · exact .inr ⟨r, h1, h2⟩
    · rintro (⟨r, h1, h2⟩ | ⟨r, h1, h2⟩)
      · exact ⟨r, h1, .inl h2⟩
      · exact ⟨r, h1, .inr h2⟩
  · rw [Bool.eq_iff_iff, Bool.not_eq_true', ← Bool.not_eq_true, star_set, set_part]
    simp only [two_has, not_has hp hq]
    constructor
    · rintro h ⟨r, h1, h2⟩
      exact (h r h1).2 h2
    · exact fun h r hr => ⟨hs r hr, fun h2 => h ⟨r, hr, h2⟩⟩
  · rw [Bool.eq_iff_iff, Bool.not_eq_true', ← Bool.not_eq_true, star_set, set_part]
    simp only [two_has, not_has hp hq]
    constructor
    · rintro h ⟨r, h1, h2⟩
      exact h2.2 (h r h1)
    · exact fun h r hr => Classical.byContradiction fun h2 => h ⟨r, hr, hs r hr, h2⟩
end
end Garner
