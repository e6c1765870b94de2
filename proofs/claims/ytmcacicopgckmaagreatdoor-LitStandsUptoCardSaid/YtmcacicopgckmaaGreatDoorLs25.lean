import Derived.Test.YtmcacicopgckmaaGreatDoorLs17
import Derived.Test.YtmcacicopgckmaaGreatDoorLs18
import Derived.Test.YtmcacicopgckmaaGreatDoorLs14
/-! Patterns, plain: classes of two letters -/
namespace Garner
open Go

def twoR (p q : Nat) : List Nat := mergedR [p, p, q, q]
theorem two_canon (p q : Nat) : CanonI (mergeI (sortR [(p, p), (q, q)])) ∧ ∀ x, inI (mergeI (sortR [(p, p), (q, q)])) x ↔ x = p ∨ x = q := by
  have hm : ∀ r ∈ sortR [(p, p), (q, q)], r.1 ≤ r.2 := fun r hr => by
    have := mem_sort.1 hr
    simp at this
    rcases this with rfl | rfl <;> exact Nat.le_refl _
  obtain ⟨h1, h2⟩ := merge_canon (sorted_sort [(p, p), (q, q)]) hm
  refine ⟨h1, fun x => ?_⟩
  rw [h2, inI_congr (m := [(p, p), (q, q)]) fun r => mem_sort]
  simp [inI]; omega
theorem two_has {p q x : Nat} : hasR (twoR p q) x = true ↔ x = p ∨ x = q := by
  show hasR (flatR (mergeI (sortR [(p, p), (q, q)]))) x = true ↔ _
  rw [has_flat]
  exact (two_canon p q).2 x
theorem canon_mem {l : List (Nat × Nat)} (h : CanonI l) {r : Nat × Nat} (hr : r ∈ l) : r.1 ≤ r.2 := by
  induction l with
  | nil => cases hr
  | cons a l ih =>
    rcases List.mem_cons.1 hr with rfl | hr
    · exact h.head
    · exact ih h.tail hr
theorem not_has {p q x : Nat} (hp : p ≤ 1114111) (hq : q ≤ 1114111) : hasR (othersR (twoR p q)) x = true ↔ x ≤ 1114111 ∧ ¬ (x = p ∨ x = q) := by
  obtain ⟨h1, h2⟩ := two_canon p q
  have e : othersR (twoR p q) = flatR (othersGo 0 (mergeI (sortR [(p, p), (q, q)]))) := by
    show flatR (othersGo 0 (pairsR (flatR (mergeI (sortR [(p, p), (q, q)]))))) = _
    rw [pairs_flat]
  rw [e, has_flat]
  obtain ⟨-, -, h3⟩ := others_canon _ 0 h1 fun r hr => ⟨Nat.zero_le _, by
    have := (h2 r.2).1 ⟨r, hr, canon_mem h1 hr, Nat.le_refl _⟩
    omega⟩
  rw [h3, h2]
  simp
section
variable {p q : Nat}
theorem mem_letter {p : Nat} (h1 : 97 ≤ p) (h2 : p ≤ 112) (r : List Nat) : memR (p :: r) = some ([p, p], r) := by
  rw [memR, if_neg (by omega), if_neg (by omega)]
theorem cls_two (hp : 97 ≤ p ∧ p ≤ 112) (hq : 97 ≤ q ∧ q ≤ 112) (r : List Nat) (n : Nat) : clsR (n + 3) false (p :: q :: 93 :: r) [] = some ([p, p, q, q], r) := by
  have e1 : ¬ ((false = true) ∧ (p :: q :: 93 :: r).head? = some 93) := by simp
  have e2 : ¬ ((q :: 93 :: r).head? = some 45) := by simp; omega
  have e3 : ¬ ((true = true) ∧ (q :: 93 :: r).head? = some 93) := by simp; omega
  have e4 : ¬ ((93 :: r).head? = some 45) := by simp
  have e5 : (true = true) ∧ (93 :: r).head? = some 93 := by simp
  rw [clsR, if_neg e1, mem_letter hp.1 hp.2]
  dsimp only
  rw [if_neg e2, clsR, if_neg e3, mem_letter hq.1 hq.2]
  dsimp only
  rw [if_neg e4, clsR, if_pos e5]
  rfl
theorem class_two (hp : 97 ≤ p ∧ p ≤ 112) (hq : 97 ≤ q ∧ q ≤ 112) (r : List Nat) : classR (p :: q :: 93 :: r) = some (twoR p q, r) := by
  have e : ¬ ((p :: q :: 93 :: r).head? = some 94) := by simp; omega
  unfold classR
  rw [if_neg e, show (p :: q :: 93 :: r).length + 1 = r.length + 1 + 3 from rfl, cls_two hp hq]
  rfl
theorem class_not (hp : 97 ≤ p ∧ p ≤ 112) (hq : 97 ≤ q ∧ q ≤ 112) (r : List Nat) : classR (94 :: p :: q :: 93 :: r) = some (othersR (twoR p q), r) := by
  have e : ((94 :: p :: q :: 93 :: r).head? = some 94) := rfl
  unfold classR
  rw [if_pos e, List.tail_cons, show (94 :: p :: q :: 93 :: r).length + 1 = r.length + 2 + 3 from rfl, cls_two hp hq]
  rfl
theorem atom_class {s m r : List Nat} {n : Nat} (h : classR s = some (m, r)) : atomR (n + 1) (91 :: s) = some (.set m, r, 0) := by
  rw [atomR, if_neg (by decide), if_pos rfl, h]
  rfl
theorem read_one {s m : List Nat} (h : classR s = some (m, [])) : readR (91 :: s) = .ok (.set m) := by
  obtain ⟨n, hn⟩ : ∃ n, 4 * (91 :: s).length + 4 = n + 4 := ⟨_, rfl⟩
  have h1 := alts_one (rows_cons (a := 91) (by decide) (by decide) (item_of (atom_class (n := n) h) rfl) (rows_end (n + 1)))
  exact read_mk (ts := [.set m]) (by rw [hn]; exact h1) (by decide) (by show Re.size (.set m) ≤ 1000; simp [Re.size])
theorem read_star {s m : List Nat} (h : classR s = some (m, [42])) : readR (91 :: s) = .ok (.rep (.set m) 0 none) := by
  obtain ⟨n, hn⟩ : ∃ n, 4 * (91 :: s).length + 4 = n + 4 := ⟨_, rfl⟩
  have h1 := alts_one (rows_cons (a := 91) (by decide) (by decide) (item_of (atom_class (n := n) h) quant_star) (rows_end (n + 1)))
  exact read_mk (ts := [.rep (.set m) 0 none]) (by rw [hn]; exact h1) (by decide) (by show Re.size (.rep (.set m) 0 none) ≤ 1000; simp [Re.size, timesR])
theorem letter_spec {p : Nat} (h : 97 ≤ p ∧ p ≤ 112) : p ∉ specR := fun e => by
  have : ∀ r ∈ specR, ¬ (97 ≤ r ∧ r ≤ 112) := by decide
  exact this p e h
theorem read_alt (hp : 97 ≤ p ∧ p ≤ 112) (hq : 97 ≤ q ∧ q ≤ 112) : readR [p, 124, q] = .ok (.alt [litS p, litS q]) := by
  have h1 := alts_one (rows_cons (a := q) (by omega) (by omega) (item_of (atom_lit (n := 11) (s := []) (letter_spec hq)) rfl) (rows_end 12))
  have h2 := alts_more (rows_cons (a := p) (by omega) (by omega) (item_of (atom_lit (n := 12) (s := [124, q]) (letter_spec hp)) (quant_none (by decide) (by decide) (by decide) (by decide))) (rows_bar 13 [q])) h1
  exact read_mk (ts := [litS p, litS q]) h2 (by decide) (by simp [manyR, Re.size, sizes])
variable {s : List Nat}
theorem cls_law (hp : p ≤ 1114111) (hq : q ≤ 1114111) (hs : ∀ r ∈ s, r ≤ 1114111) :
    (s.length = 1 → wholeB (.set (twoR p q)) s ≠ wholeB (.set (othersR (twoR p q))) s) ∧
    wholeB (.set (twoR p q)) s = wholeB (.alt [litS p, litS q]) s ∧ partB (.set (twoR p q)) s = partB (.alt [litS p, litS q]) s ∧
    wholeB (.rep (.set (othersR (twoR p q))) 0 none) s = (!partB (.set (twoR p q)) s) ∧ wholeB (.rep (.set (twoR p q)) 0 none) s = (!partB (.set (othersR (twoR p q))) s) := by
  refine ⟨fun h e => ?_, ?_, ?_, ?_, ?_⟩
  · obtain ⟨r, rfl⟩ : ∃ r, s = [r] := by
      match s, h with
      | [r], _ => exact ⟨r, rfl⟩
    have h1 : wholeB (.set (twoR p q)) [r] = true ↔ (r = p ∨ r = q) := by rw [set_whole]; simp [two_has]
    have h2 : wholeB (.set (othersR (twoR p q))) [r] = true ↔ ¬ (r = p ∨ r = q) := by
      rw [set_whole]
      have := hs r (by simp)
      simp [not_has hp hq, this]
    rw [e] at h1
    exact (iff_not_self (h1.symm.trans h2)).elim
  · rw [alt_whole, Bool.eq_iff_iff, Bool.or_eq_true, set_whole, set_whole, set_whole]
    simp only [two_has, lit_has]
    constructor
    · rintro ⟨r, h1, h2 | h2⟩
      · exact .inl ⟨r, h1, h2⟩
      · exact .inr ⟨r, h1, h2⟩
    · rintro (⟨r, h1, h2⟩ | ⟨r, h1, h2⟩)
      · exact ⟨r, h1, .inl h2⟩
      · exact ⟨r, h1, .inr h2⟩
  · rw [alt_part, Bool.eq_iff_iff, Bool.or_eq_true, set_part, set_part, set_part]
    simp only [two_has, lit_has]
    constructor
    · rintro ⟨r, h1, h2 | h2⟩
      · exact .inl ⟨r, h1, h2⟩
      · exact .inr ⟨r, h1, h2⟩
    · rintro (⟨r, h1, h2⟩ | ⟨r, h1, h2⟩)
      · exact ⟨r, h1, .inl h2⟩
      · exact ⟨r, h1, .inr h2⟩
  · rw [Bool.eq_iff_iff, Bool.not_eq_true', ← Bool.not_eq_true, star_set, set_part]
    simp only [two_has, not_has hp hq]
    constructor
    · rintro h ⟨r, h1, h2⟩
      exact (h r h1).2 h2
    · exact fun h r hr => ⟨hs r hr, fun h2 => h ⟨r, hr, h2⟩⟩
  · rw [Bool.eq_iff_iff, Bool.not_eq_true', ← Bool.not_eq_true, star_set, set_part]
    simp only [two_has, not_has hp hq]
    constructor
    · rintro h ⟨r, h1, h2⟩
      exact h2.2 (h r h1)
    · exact fun h r hr => Classical.byContradiction fun h2 => h ⟨r, hr, hs r hr, h2⟩
end
end Garner
/-! Patterns, plain: repetitions ask for at most eight -/
namespace Garner
open Go
mutual
def Re.lim : Re → Prop
  | .emp => True
  | .set _ => True
  | .seq l => lims l
  | .alt l => lims l
  | .rep k mn mx => k.lim ∧ mn ≤ 8 ∧ ∀ m, mx = some m → m ≤ 8
  | .bgn => True
  | .fin => True
def lims : List Re → Prop
  | [] => True
  | t :: ts => t.lim ∧ lims ts
end
theorem many_lim {mk : List Re → Re} (h : ∀ l, (mk l).lim = lims l) {l : List Re} (hl : lims l) : (manyR mk l).lim := by
  match l, hl with
  | [], hl => exact (h []).symm ▸ hl
  | [t], hl => exact hl.1
  | t :: u :: r, hl => exact (h (t :: u :: r)).symm ▸ hl
theorem rowOf_lim {l : List Re} (hl : lims l) : (rowOf l).lim := by
  unfold rowOf
  split
  · trivial
  · exact many_lim (mk := .seq) (fun _ => rfl) hl
theorem quant_lim {t u : Re} {s s1 : List Nat} (h : quantR t s = some (u, s1)) (ht : t.lim) : u.lim := by
  cases s with
  | nil => cases h; exact ht
  | cons r s =>
    rw [quantR] at h
    split at h
    · cases h; exact ⟨ht, by omega, fun m e => (by cases e)⟩
    split at h
    · cases h; exact ⟨ht, by omega, fun m e => (by cases e)⟩
    split at h
    · cases h; exact ⟨ht, by omega, fun m e => (by cases e; omega)⟩
    split at h
    · split at h
      · cases h
      · rename_i lo s2 h1
        have l1 := (digR_len h1).2
        split at h
        · split at h
          · cases h
          · rename_i hi s3 h2
            have l2 := (digR_len h2).2
            split at h
            · injection h with h; injection h with h3 h4
              subst h3
              exact ⟨ht, l1, fun m e => (by cases e; exact l2)⟩
            · cases h
        · split at h
          · injection h with h; injection h with h3 h4
            subst h3
            exact ⟨ht, l1, fun m e => (by cases e; exact l1)⟩
          · cases h
    · cases h; exact ht
theorem parse_lim : ∀ n : Nat,
    (∀ {s s1 : List Nat} {ts : List Re} {d : Nat}, altsR n s = some (ts, s1, d) → lims ts) ∧
    (∀ {s s1 : List Nat} {ts : List Re} {d : Nat}, rowsR n s = some (ts, s1, d) → lims ts) ∧
    (∀ {s s1 : List Nat} {t : Re} {d : Nat}, itemR n s = some (t, s1, d) → t.lim) ∧
    (∀ {s s1 : List Nat} {t : Re} {d : Nat}, atomR n s = some (t, s1, d) → t.lim)
  | 0 => ⟨fun h => (by cases h), fun h => (by cases h), fun h => (by cases h), fun h => (by cases h)⟩
  | n + 1 => by
    obtain ⟨ia, ir, ii, it⟩ := parse_lim n
    refine ⟨?_, ?_, ?_, ?_⟩
    · intro s s1 ts d h
      rw [altsR] at h
      split at h
      · cases h
      · rename_i us s2 e hr
        have h2 := ir hr
        split at h
        · split at h
          · cases h
          · rename_i vs s3 e2 ha
            have h4 := ia ha
            cases h
            exact ⟨rowOf_lim h2, h4⟩
        · cases h
          exact ⟨rowOf_lim h2, trivial⟩
    · intro s s1 ts d h
      rw [rowsR] at h
      split at h
      · cases h; trivial
      · split at h
        · cases h
        · rename_i t s2 e hi
          have h2 := ii hi
          split at h
          · cases h
          · rename_i vs s3 e2 hr
            have h4 := ir hr
            cases h
            exact ⟨h2, h4⟩
    · intro s s1 t d h
      rw [itemR] at h
      split at h
      · cases h
      · rename_i v s2 e ha
        have h2 := it ha
        obtain ⟨p, hp, e⟩ := Option.map_eq_some_iff.1 h
        cases e
        exact quant_lim (u := p.1) (s1 := p.2) hp h2
    · intro s s1 t d h
      cases s with
      | nil => cases h
      | cons r s =>
        rw [atomR] at h
        split at h
        · split at h
          · cases h
          · rename_i us s2 e ha
            have h2 := ia ha
            split at h
            · cases h
              exact many_lim (mk := .alt) (fun _ => rfl) h2
            · cases h
        split at h
        · obtain ⟨p, hp, e⟩ := Option.map_eq_some_iff.1 h
          cases e; trivial
        split at h
        · cases h; trivial
        split at h
        · cases h; trivial
        split at h
        · cases h; trivial
        split at h
        · obtain ⟨p, hp, e⟩ := Option.map_eq_some_iff.1 h
          cases e; trivial
        split at h
        · cases h
        · cases h; trivial
theorem len_cnts : ∀ l : List Re, l.length ≤ cnts l
  | [] => Nat.le_refl _
  | t :: ts => by
    have := len_cnts ts
    have := cnt_pos t
    simp only [List.length_cons, cnts]; omega
def LimN (C : Nat) (n : NodeP) : Prop := n.kind ≤ 7 ∧ n.mn ≤ 8 ∧ -1 ≤ n.mx ∧ n.mx ≤ 8 ∧ n.kids.length ≤ C
theorem LimN.mono {C D : Nat} {n : NodeP} (h : LimN C n) (hc : C ≤ D) : LimN D n := ⟨h.1, h.2.1, h.2.2.1, h.2.2.2.1, Nat.le_trans h.2.2.2.2 hc⟩
mutual
theorem flat_lim : ∀ (t : Re) (b : Nat), t.lim → ∀ n ∈ t.flat b, LimN t.cnt n
  | .emp, b, _, n, hn => by simp [Re.flat] at hn; subst hn; exact ⟨by simp, by simp, by simp, by simp, by simp⟩
  | .set l, b, _, n, hn => by simp [Re.flat] at hn; subst hn; exact ⟨by simp, by simp, by simp, by simp, by simp⟩
  | .bgn, b, _, n, hn => by simp [Re.flat] at hn; subst hn; exact ⟨by simp, by simp, by simp, by simp, by simp⟩
  | .fin, b, _, n, hn => by simp [Re.flat] at hn; subst hn; exact ⟨by simp, by simp, by simp, by simp, by simp⟩
  | .seq l, b, hl, n, hn => by
    rw [Re.flat] at hn
    have := len_cnts l
    rcases List.mem_append.1 hn with hn | hn
    · exact (flats_lim l b hl n hn).mono (by simp only [Re.cnt]; omega)
    · rw [List.mem_singleton.1 hn]
      exact ⟨by simp, by simp, by simp, by simp, by rw [roots_len]; simp only [Re.cnt]; omega⟩
  | .alt l, b, hl, n, hn => by
    rw [Re.flat] at hn
    have := len_cnts l
    rcases List.mem_append.1 hn with hn | hn
    · exact (flats_lim l b hl n hn).mono (by simp only [Re.cnt]; omega)
    · rw [List.mem_singleton.1 hn]
      exact ⟨by simp, by simp, by simp, by simp, by rw [roots_len]; simp only [Re.cnt]; omega⟩
  | .rep t mn mx, b, hl, n, hn => by
    rw [rep_flatM] at hn
    have := cnt_pos t
    rcases List.mem_append.1 hn with hn | hn
    · exact (flat_lim t b hl.1 n hn).mono (by simp only [Re.cnt]; omega)
    · rw [List.mem_singleton.1 hn]
      refine ⟨by simp, hl.2.1, ?_, ?_, by simp only [Re.cnt]; simp⟩
      · cases mx with
        | none => simp [mxM]
        | some m => simp only [mxM]; omega
      · cases mx with
        | none => simp [mxM]
        | some m => have := hl.2.2 m rfl; simp only [mxM]; omega
theorem flats_lim : ∀ (ts : List Re) (b : Nat), lims ts → ∀ n ∈ flats b ts, LimN (cnts ts) n
  | [], b, _, n, hn => by simp [flats] at hn
  | t :: ts, b, hl, n, hn => by
    rw [flats] at hn
    rcases List.mem_append.1 hn with hn | hn
    · exact (flat_lim t b hl.1 n hn).mono (by simp only [cnts]; omega)
    · exact (flats_lim ts _ hl.2 n hn).mono (by simp only [cnts]; omega)
end
end Garner
/-! Patterns, plain: sets are rows of pairs, and short -/
namespace Garner
open Go
def SetOk (b : Nat) (l : List Nat) : Prop := l.length ≤ b ∧ ∃ k, l.length = 2 * k
mutual
def Re.evs (b : Nat) : Re → Prop
  | .emp => True
  | .set l => SetOk b l
  | .seq l => evss b l
  | .alt l => evss b l
  | .rep k _ _ => k.evs b
  | .bgn => True
  | .fin => True
def evss (b : Nat) : List Re → Prop
  | [] => True
  | t :: ts => t.evs b ∧ evss b ts
end
variable {b : Nat}
theorem many_evs {mk : List Re → Re} (h : ∀ l, (mk l).evs b = evss b l) {l : List Re} (hl : evss b l) : (manyR mk l).evs b := by
  match l, hl with
  | [], hl => exact (h []).symm ▸ hl
  | [t], hl => exact hl.1
  | t :: u :: r, hl => exact (h (t :: u :: r)).symm ▸ hl
theorem rowOf_evs {l : List Re} (hl : evss b l) : (rowOf l).evs b := by
  unfold rowOf
  split
  · trivial
  · exact many_evs (mk := .seq) (fun _ => rfl) hl
theorem quant_evs {t u : Re} {s s1 : List Nat} (h : quantR t s = some (u, s1)) (ht : t.evs b) : u.evs b := by
  cases s with
  | nil => cases h; exact ht
  | cons r s =>
    rw [quantR] at h
    split at h
    · cases h; exact ht
    split at h
    · cases h; exact ht
    split at h
    · cases h; exact ht
    split at h
    · split at h
      · cases h
      · split at h
        · split at h
          · cases h
          · split at h
            · injection h with h; injection h with h3 h4
              subst h3
              exact ht
            · cases h
        · split at h
          · injection h with h; injection h with h3 h4
            subst h3
            exact ht
          · cases h
    · cases h; exact ht
theorem flatR_two : ∀ l : List (Nat × Nat), (flatR l).length = 2 * l.length
  | [] => rfl
  | p :: l => by
    have := flatR_two l
    unfold flatR at this ⊢
    rw [List.flatMap_cons, List.length_append, this]
    simp; omega
theorem pairsR_two : ∀ l : List Nat, 2 * (pairsR l).length ≤ l.length
  | [] => by simp [pairsR]
  | [_] => by simp [pairsR]
  | a :: c :: r => by
    have := pairsR_two r
    simp only [pairsR, List.length_cons]; omega
theorem insR_len (x : Nat × Nat) : ∀ l, (insR x l).length = l.length + 1
  | [] => rfl
  | y :: r => by
    rw [insR]
    split
    · rfl
    · simp only [List.length_cons, insR_len x r]
theorem sortR_len : ∀ l, (sortR l).length = l.length
  | [] => rfl
  | x :: r => by rw [sortR, insR_len, sortR_len r]; rfl
theorem stepI_len (out : List (Nat × Nat)) (x : Nat × Nat) : (stepI out x).length ≤ out.length + 1 := by
  unfold stepI
  split
  · split
    · rw [List.length_append, List.length_dropLast]; simp
    · simp
  · simp
theorem mergeI_len (l : List (Nat × Nat)) : (mergeI l).length ≤ l.length := by
  have : ∀ (l out : List (Nat × Nat)), (l.foldl stepI out).length ≤ out.length + l.length := fun l => by
    induction l with
    | nil => intro out; simp
    | cons x r ih =>
      intro out
      have h1 := ih (stepI out x)
      have h2 := stepI_len out x
      rw [List.foldl_cons, List.length_cons]; omega
  have h := this l []
  simpa [mergeI] using h
theorem othersGo_len1 : ∀ (l : List (Nat × Nat)) (f : Nat), (othersGo f l).length ≤ l.length + 1
  | [], f => by rw [othersGo]; split <;> simp
  | (a, c) :: r, f => by
    have := othersGo_len1 r (c + 1)
    rw [othersGo, List.length_append, List.length_cons]
    split <;> simp <;> omega
theorem merged_ok {l : List Nat} (h : l.length ≤ b) : SetOk b (mergedR l) := by
  have h1 := mergeI_len (sortR (pairsR l))
  rw [sortR_len] at h1
  have h2 := pairsR_two l
  exact ⟨by unfold mergedR; rw [flatR_two]; omega, _, flatR_two _⟩
theorem others_ok {l : List Nat} (h : l.length + 2 ≤ b) : SetOk b (othersR l) := by
  have h1 := othersGo_len1 (pairsR l) 0
  have h2 := pairsR_two l
  exact ⟨by unfold othersR; rw [flatR_two]; omega, _, flatR_two _⟩
theorem escR_ok {s m s1 : List Nat} (h : escR s = some (m, s1)) : SetOk 8 m := by
  cases s with
  | nil => cases h
  | cons r s =>
    simp only [escR] at h
    split at h
    · cases h; exact ⟨by simp, 1, rfl⟩
    split at h
    · cases h; exact ⟨by simp, 1, rfl⟩
    split at h
    · cases h; exact ⟨by simp, 1, rfl⟩
    split at h
    · cases h; exact ⟨by simp, 4, rfl⟩
    split at h
    · cases h; exact ⟨by simp, 3, rfl⟩
    split at h
    · cases h; exact ⟨by simp, 1, rfl⟩
    · cases h
theorem memR_ok {s m s1 : List Nat} (h : memR s = some (m, s1)) : m.length ≤ 8 := by
  cases s with
  | nil => cases h
  | cons r s =>
    simp only [memR] at h
    split at h
    · exact (escR_ok h).1
    split at h
    · cases h
    · cases h; simp
theorem rngR_ok {m t q : List Nat} (h : rngR m t = some q) : q.length ≤ 8 := by
  unfold rngR at h
  split at h
  · split at h
    · cases h; simp
    · cases h
  · cases h
theorem clsR_ok : ∀ {n : Nat} {f : Bool} {s acc m s1 : List Nat}, clsR n f s acc = some (m, s1) → m.length ≤ acc.length + 8 * s.length
  | 0, f, s, acc, m, s1, h => by cases h
  | n + 1, f, s, acc, m, s1, h => by
    rw [clsR] at h
    split at h
    · cases h; omega
    · split at h
      · cases h
      · rename_i m1 s2 h1
        have l1 := memR_len h1
        have k1 := memR_ok h1
        split at h
        · split at h
          · cases h
          · rename_i t s3 h2
            have l2 := memR_len h2
            have l3 := tail_le s2
            split at h
            · cases h
            · rename_i q h3
              have k3 := rngR_ok h3
              have := clsR_ok h
              rw [List.length_append] at this
              omega
        · have := clsR_ok h
          rw [List.length_append] at this
          omega
theorem classR_ok {s m s1 : List Nat} (h : classR s = some (m, s1)) (hb : 8 * s.length + 2 ≤ b) : SetOk b m := by
  unfold classR at h
  split at h
  · obtain ⟨p, hp, e⟩ := Option.map_eq_some_iff.1 h
    cases e
    have := clsR_ok (m := p.1) (s1 := p.2) hp
    have l3 := tail_le s
    have hm : SetOk (8 * s.length) (mergedR p.1) := merged_ok (by simp at this; omega)
    exact others_ok (by have := hm.1; omega)
  · obtain ⟨p, hp, e⟩ := Option.map_eq_some_iff.1 h
    cases e
    have := clsR_ok (m := p.1) (s1 := p.2) hp
    exact merged_ok (by simp at this; omega)
theorem parse_evs : ∀ n : Nat,
    (∀ {s s1 : List Nat} {ts : List Re} {d : Nat}, 8 * s.length + 2 ≤ b → altsR n s = some (ts, s1, d) → evss b ts) ∧
    (∀ {s s1 : List Nat} {ts : List Re} {d : Nat}, 8 * s.length + 2 ≤ b → rowsR n s = some (ts, s1, d) → evss b ts) ∧
    (∀ {s s1 : List Nat} {t : Re} {d : Nat}, 8 * s.length + 2 ≤ b → itemR n s = some (t, s1, d) → t.evs b) ∧
    (∀ {s s1 : List Nat} {t : Re} {d : Nat}, 8 * s.length + 2 ≤ b → atomR n s = some (t, s1, d) → t.evs b)
  | 0 => ⟨fun _ h => (by cases h), fun _ h => (by cases h), fun _ h => (by cases h), fun _ h => (by cases h)⟩
  | n + 1 => by
    obtain ⟨ia, ir, ii, it⟩ := parse_evs n
    obtain ⟨la, lr, li, lt⟩ := parse_len n
    refine ⟨?_, ?_, ?_, ?_⟩
    · intro s s1 ts d hb h
      rw [altsR] at h
      split at h
      · cases h
      · rename_i us s2 e hr
        have h2 := ir hb hr
        have k2 := lr hr
        split at h
        · split at h
          · cases h
          · rename_i vs s3 e2 ha
            have k3 := tail_le s2
            have h4 := ia (by omega) ha
            cases h
            exact ⟨rowOf_evs h2, h4⟩
        · cases h
          exact ⟨rowOf_evs h2, trivial⟩
    · intro s s1 ts d hb h
      rw [rowsR] at h
      split at h
      · cases h; trivial
      · split at h
        · cases h
        · rename_i t s2 e hi
          have h2 := ii hb hi
          have k2 := li hi
          split at h
          · cases h
          · rename_i vs s3 e2 hr
            have h4 := ir (by omega) hr
            cases h
            exact ⟨h2, h4⟩
    · intro s s1 t d hb h
      rw [itemR] at h
      split at h
      · cases h
      · rename_i v s2 e ha
        have h2 := it hb ha
        obtain ⟨p, hp, e⟩ := Option.map_eq_some_iff.1 h
        cases e
        exact quant_evs (u := p.1) (s1 := p.2) hp h2
    · intro s s1 t d hb h
      cases s with
      | nil => cases h
      | cons r s =>
        rw [List.length_cons] at hb
        rw [atomR] at h
        split at h
        · split at h
          · cases h
          · rename_i us s2 e ha
            have h2 := ia (by omega) ha
            split at h
            · cases h
              exact many_evs (mk := .alt) (fun _ => rfl) h2
            · cases h
        split at h
        · obtain ⟨p, hp, e⟩ := Option.map_eq_some_iff.1 h
          cases e
          exact classR_ok (m := p.1) (s1 := p.2) hp (by omega)
        split at h
        · cases h; exact ⟨by simp; omega, 2, rfl⟩
        split at h
        · cases h; trivial
        split at h
        · cases h; trivial
        split at h
        · obtain ⟨p, hp, e⟩ := Option.map_eq_some_iff.1 h
          cases e
          have := escR_ok (m := p.1) (s1 := p.2) hp
          exact ⟨by have := this.1; omega, this.2⟩
        split at h
        · cases h
        · cases h; exact ⟨by simp; omega, 1, rfl⟩
/-- instructions whose runes are rows of pairs -/
def EvL (b : Nat) (l : List InstP) : Prop := ∀ c ∈ l, SetOk b c.runes
theorem EvL.app {l m : List InstP} (h : EvL b l) (k : EvL b m) : EvL b (l ++ m) := fun c hc => (List.mem_append.1 hc).elim (h c) (k c)
theorem EvL.nil : EvL b [] := fun c hc => by cases hc
theorem EvL.cons {a : InstP} {l : List InstP} (h1 : SetOk b a.runes) (h : EvL b l) : EvL b (a :: l) := fun c hc => by
  rcases List.mem_cons.1 hc with rfl | hc
  · exact h1
  · exact h c hc
theorem set_nil : SetOk b [] := ⟨Nat.zero_le _, 0, rfl⟩
theorem repC_ev {c : Nat → List InstP} {len : Nat} (h : ∀ p, EvL b (c p)) : ∀ n p, EvL b (repC c len n p)
  | 0, p => .nil
  | n + 1, p => by rw [repC]; exact (h p).app (repC_ev h n _)
theorem optC_ev {c : Nat → List InstP} {len e : Nat} (h : ∀ p, EvL b (c p)) : ∀ n p, EvL b (optC c len e n p)
  | 0, p => .nil
  | n + 1, p => by rw [optC]; exact .cons set_nil ((h _).app (optC_ev h n _))
mutual
theorem code_ev : ∀ (t : Re) (p : Nat), t.evs b → EvL b (t.code p)
  | .emp, p, _ => .nil
  | .set l, p, h => by simp only [Re.code]; exact .cons h .nil
  | .seq l, p, h => by simp only [Re.code]; exact codes_ev l p h
  | .alt l, p, h => by simp only [Re.code]; exact altC_ev l p _ h
  | .rep k mn none, p, h => by
    have ih : ∀ p, EvL b (k.code p) := fun p => code_ev k p h
    simp only [Re.code]
    exact (repC_ev ih mn p).app (.cons set_nil ((ih _).app (.cons set_nil .nil)))
  | .rep k mn (some m), p, h => by
    have ih : ∀ p, EvL b (k.code p) := fun p => code_ev k p h
    simp only [Re.code]
    exact (repC_ev ih mn p).app (optC_ev ih _ _)
  | .bgn, p, _ => by simp only [Re.code]; exact .cons set_nil .nil
  | .fin, p, _ => by simp only [Re.code]; exact .cons set_nil .nil
theorem codes_ev : ∀ (l : List Re) (p : Nat), evss b l → EvL b (codes l p)
  | [], p, _ => .nil
  | t :: ts, p, h => by simp only [codes]; exact (code_ev t p h.1).app (codes_ev ts _ h.2)
theorem altC_ev : ∀ (l : List Re) (p e : Nat), evss b l → EvL b (altC l p e)
  | [], p, e, _ => .nil
  | [t], p, e, h => by simp only [altC]; exact code_ev t p h.1
  | t :: u :: ts, p, e, h => by
    have ih := altC_ev (u :: ts)
    simp only [altC]
    exact .cons set_nil ((code_ev t _ h.1).app (.cons set_nil (ih _ _ h.2)))
end
/-- what a program must be, so that matching goes through it -/
structure GoodR (ins : List InstP) : Prop where
  tgt : TgtR ins
  pos : 0 < ins.length
  small : ins.length ≤ 100000
  ev : EvL 2000 ins
theorem read_lim {s : List Nat} {t : Re} (h : readR s = .ok t) : ∃ ts d, altsR (4 * s.length + 4) s = some (ts, [], d) ∧ t = manyR .alt ts ∧ t.size ≤ 1000 := by
  unfold readR at h
  split at h
  · cases h
  · rename_i ts rest d e
    split at h
    · cases h
    · rename_i hr
      split at h
      · cases h
      · split at h
        · cases h
        · rename_i hz
          cases h
          have : rest = [] := Classical.byContradiction hr
          subst this
          exact ⟨ts, d, e, rfl, by omega⟩
/-- what a pattern that was read is -/
structure GoodT (t : Re) : Prop where
  ok : t.ok
  lim : t.lim
  cnt : t.cnt ≤ 10000
  len : t.len ≤ 80000
  prog : GoodR (progR t)
theorem read_good {s : List Nat} (hs : s.length ≤ 200) {t : Re} (h : readR s = .ok t) : GoodT t := by
  obtain ⟨ts, d, h1, rfl, hz⟩ := read_lim h
  obtain ⟨h3, h4, h5⟩ := (parse_cnt _).1 h1
  have ok : (manyR Re.alt ts).ok := many_ok h4 (fun h hne => ⟨hne, h⟩) h5
  have lim : (manyR Re.alt ts).lim := many_lim (mk := .alt) (fun _ => rfl) ((parse_lim _).1 h1)
  have ev : (manyR Re.alt ts).evs 2000 := many_evs (mk := .alt) (fun _ => rfl) ((parse_evs _).1 (by omega) h1)
  have hl := len_size _ ok
  have hpl : (progR (manyR Re.alt ts)).length = (manyR Re.alt ts).len + 1 := by unfold progR; rw [List.length_append, code_len]; rfl
  refine ⟨ok, lim, ?_, by omega, prog_tgt _, by omega, by omega, ?_⟩
  · have := many_cnt Re.alt (fun _ => rfl) ts
    omega
  · unfold progR
    exact (code_ev _ 0 ev).app (.cons set_nil .nil)
end Garner
