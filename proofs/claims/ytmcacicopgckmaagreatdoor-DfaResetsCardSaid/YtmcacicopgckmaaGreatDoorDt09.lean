import Derived.Test.YtmcacicopgckmaaGreatDoorDt08
import Derived.Test.YtmcacicopgckmaaGreatDoorDt07
/-! Patterns, plain: how great trees, their rows of nodes and their instructions are -/
namespace Garner
open Go

mutual
theorem size_pos : ∀ t : Re, 1 ≤ t.size
  | .emp => Nat.le_refl _
  | .set _ => Nat.le_refl _
  | .seq l => by simp only [Re.size]; omega
  | .alt l => by simp only [Re.size]; omega
  | .rep k mn mx => by simp only [Re.size]; omega
  | .bgn => Nat.le_refl _
  | .fin => Nat.le_refl _
end
theorem times_pos (mn : Nat) (mx : Option Nat) : 1 ≤ timesR mn mx := by
  cases mx with
  | none => simp [timesR]
  | some m => simp only [timesR]; omega
mutual
theorem len_size : ∀ t : Re, t.ok → t.len + 2 ≤ 3 * t.size
  | .emp, _ => by simp [Re.len, Re.size]
  | .set _, _ => by simp [Re.len, Re.size]
  | .seq l, h => by
    have := lens_size l h
    simp only [Re.len, Re.size]; omega
  | .alt l, h => by
    have := altLen_size l h.2
    simp only [Re.len, Re.size]; omega
  | .rep k mn none, h => by
    have h1 := len_size k h.1
    have h2 : (mn + 1) * (k.len + 2) ≤ (mn + 1) * (3 * k.size) := Nat.mul_le_mul_left _ h1
    have h3 : (mn + 1) * (3 * k.size) = 3 * ((mn + 1) * k.size) := by rw [← Nat.mul_assoc, ← Nat.mul_assoc, Nat.mul_comm (mn + 1) 3]
    have h4 : (mn + 1) * (k.len + 2) = mn * k.len + k.len + 2 * mn + 2 := by rw [Nat.add_mul, Nat.mul_add]; omega
    simp only [Re.len, Re.size, timesR]
    omega
  | .rep k mn (some m), h => by
    have h1 := len_size k h.1
    have hm : mn ≤ m := h.2 m rfl
    have h2 : m * (k.len + 1) ≤ m * (3 * k.size) := Nat.mul_le_mul_left _ (by omega)
    have h3 : m * (3 * k.size) = 3 * (m * k.size) := by rw [← Nat.mul_assoc, ← Nat.mul_assoc, Nat.mul_comm m 3]
    have h4 : mn * k.len ≤ mn * (k.len + 1) := Nat.mul_le_mul_left _ (by omega)
    have h5 : mn * (k.len + 1) + (m - mn) * (k.len + 1) = m * (k.len + 1) := by rw [← Nat.add_mul]; congr 1; omega
    have h6 : m * k.size ≤ max m 1 * k.size := Nat.mul_le_mul_right _ (by omega)
    simp only [Re.len, Re.size, timesR]
    omega
  | .bgn, _ => by simp [Re.len, Re.size]
  | .fin, _ => by simp [Re.len, Re.size]
theorem lens_size : ∀ l : List Re, oks l → lens l ≤ 3 * sizes l
  | [], _ => Nat.le_refl _
  | t :: ts, h => by
    have := len_size t h.1
    have := lens_size ts h.2
    simp only [lens, sizes]; omega
theorem altLen_size : ∀ l : List Re, oks l → altLen l ≤ 3 * sizes l
  | [], _ => Nat.le_refl _
  | [t], h => by
    have := len_size t h.1
    simp only [altLen, sizes]; omega
  | t :: u :: ts, h => by
    have := len_size t h.1
    have := altLen_size (u :: ts) h.2
    simp only [altLen, sizes] at this ⊢; omega
end
mutual
theorem flat_len : ∀ (t : Re) (b : Nat), (t.flat b).length = t.cnt
  | .emp, _ => rfl
  | .set _, _ => rfl
  | .seq l, b => by simp only [Re.flat, Re.cnt, List.length_append, flats_len l b]; rfl
  | .alt l, b => by simp only [Re.flat, Re.cnt, List.length_append, flats_len l b]; rfl
  | .rep k mn mx, b => by simp only [Re.flat, Re.cnt, List.length_append, flat_len k b]; rfl
  | .bgn, _ => rfl
  | .fin, _ => rfl
theorem flats_len : ∀ (l : List Re) (b : Nat), (flats b l).length = cnts l
  | [], _ => rfl
  | t :: ts, b => by simp only [flats, cnts, List.length_append, flat_len t b, flats_len ts]
end
theorem cnt_pos : ∀ t : Re, 1 ≤ t.cnt
  | .emp => Nat.le_refl _
  | .set _ => Nat.le_refl _
  | .seq l => by simp only [Re.cnt]; omega
  | .alt l => by simp only [Re.cnt]; omega
  | .rep k mn mx => by simp only [Re.cnt]; omega
  | .bgn => Nat.le_refl _
  | .fin => Nat.le_refl _
theorem roots_len : ∀ (l : List Re) (b : Nat), (roots b l).length = l.length
  | [], _ => rfl
  | t :: ts, b => by simp only [roots, List.length_cons, roots_len ts]
theorem many_cnt (mk : List Re → Re) (h : ∀ l, (mk l).cnt = cnts l + 1) (l : List Re) : (manyR mk l).cnt ≤ cnts l + 1 := by
  match l with
  | [] => exact Nat.le_of_eq (h [])
  | [t] => simp only [manyR, cnts]; omega
  | t :: u :: r => exact Nat.le_of_eq (h (t :: u :: r))
theorem rowOf_cnt (l : List Re) : (rowOf l).cnt ≤ cnts l + 1 := by
  unfold rowOf
  split
  · simp [Re.cnt]
  · exact many_cnt .seq (fun l => rfl) l
theorem quant_cnt {t u : Re} {s s1 : List Nat} (h : quantR t s = some (u, s1)) : u.cnt ≤ t.cnt + 1 ∧ (u.ok ↔ t.ok) := by
  cases s with
  | nil => cases h; exact ⟨by omega, Iff.rfl⟩
  | cons r s =>
    rw [quantR] at h
    repeat' split at h
    all_goals first
      | (cases h; done)
      | (rename_i hl; have hl1 := hl.1; cases h; exact ⟨by simp [Re.cnt], by simp [Re.ok, hl1]⟩)
      | (cases h; exact ⟨by simp [Re.cnt], by simp [Re.ok]⟩)
      | (cases h; exact ⟨by omega, Iff.rfl⟩)
theorem many_ok {mk : List Re → Re} {l : List Re} (hl : oks l) (h : oks l → l ≠ [] → (mk l).ok) (hne : l ≠ []) : (manyR mk l).ok := by
  match l, hl, h, hne with
  | [t], hl, _, _ => exact hl.1
  | t :: u :: r, hl, h, _ => exact h hl (by simp)
theorem rowOf_ok {l : List Re} (hl : oks l) : (rowOf l).ok := by
  unfold rowOf
  split
  · trivial
  · rename_i h
    exact many_ok hl (fun h _ => h) (fun e => h (by rw [e]; rfl))
/-- as many nodes as what was read allows; and trees are as they should be -/
theorem parse_cnt : ∀ n : Nat,
    (∀ {s s1 : List Nat} {ts : List Re} {d : Nat}, altsR n s = some (ts, s1, d) → cnts ts + 4 * s1.length ≤ 4 * s.length + 1 ∧ oks ts ∧ ts ≠ []) ∧
    (∀ {s s1 : List Nat} {ts : List Re} {d : Nat}, rowsR n s = some (ts, s1, d) → cnts ts + 4 * s1.length ≤ 4 * s.length ∧ oks ts) ∧
    (∀ {s s1 : List Nat} {t : Re} {d : Nat}, itemR n s = some (t, s1, d) → t.cnt + 4 * s1.length ≤ 4 * s.length ∧ t.ok) ∧
    (∀ {s s1 : List Nat} {t : Re} {d : Nat}, atomR n s = some (t, s1, d) → t.cnt + 1 + 4 * s1.length ≤ 4 * s.length ∧ t.ok)
  | 0 => ⟨fun h => (by cases h), fun h => (by cases h), fun h => (by cases h), fun h => (by cases h)⟩
  | n + 1 => by
    obtain ⟨ia, ir, ii, it⟩ := parse_cnt n
    refine ⟨?_, ?_, ?_, ?_⟩
    · intro s s1 ts d h
      rw [altsR] at h
      split at h
      · cases h
      · rename_i us s2 e hr
        obtain ⟨h1, h2⟩ := ir hr
        have h3 := rowOf_cnt us
        have h4 := rowOf_ok h2
        split at h
        · rename_i hc
          split at h
          · cases h
          · rename_i vs s3 e2 ha
            obtain ⟨h5, h6, h7⟩ := ia ha
            have := tail_lt hc
            cases h
            exact ⟨by simp only [cnts]; omega, ⟨h4, h6⟩, by simp⟩
        · cases h
          exact ⟨by simp only [cnts]; omega, ⟨h4, trivial⟩, by simp⟩
    · intro s s1 ts d h
      rw [rowsR] at h
      split at h
      · cases h
        exact ⟨by simp [cnts], trivial⟩
      · split at h
        · cases h
        · rename_i t s2 e hi
          obtain ⟨h1, h2⟩ := ii hi
          split at h
          · cases h
          · rename_i vs s3 e2 hr
            obtain ⟨h3, h4⟩ := ir hr
            cases h
            exact ⟨by simp only [cnts]; omega, h2, h4⟩
    · intro s s1 t d h
      rw [itemR] at h
      split at h
      · cases h
      · rename_i v s2 e ha
        obtain ⟨h1, h2⟩ := it ha
        obtain ⟨p, hp, e⟩ := Option.map_eq_some_iff.1 h
        have h3 := quantR_len (u := p.1) (s1 := p.2) hp
        obtain ⟨h4, h5⟩ := quant_cnt (u := p.1) (s1 := p.2) hp
        cases e
        exact ⟨by omega, h5.2 h2⟩
    · intro s s1 t d h
      cases s with
      | nil => cases h
      | cons r s =>
        rw [atomR] at h
        split at h
        · split at h
          · cases h
          · rename_i us s2 e ha
            obtain ⟨h1, h2, h3⟩ := ia ha
            split at h
            · rename_i hc
              have h4 := tail_lt hc
              have h5 := many_cnt .alt (fun l => rfl) us
              cases h
              exact ⟨by simp only [List.length_cons]; omega, many_ok h2 (fun h hne => ⟨hne, h⟩) h3⟩
            · cases h
        · split at h
          · obtain ⟨p, hp, e⟩ := Option.map_eq_some_iff.1 h
            have := classR_len (m := p.1) (s1 := p.2) hp
            cases e
            exact ⟨by simp only [List.length_cons, Re.cnt]; omega, trivial⟩
          · repeat' split at h
            all_goals first
              | (cases h; done)
              | (cases h; exact ⟨by simp only [List.length_cons, Re.cnt]; omega, trivial⟩)
              | (obtain ⟨p, hp, e⟩ := Option.map_eq_some_iff.1 h
                 have := escR_len (m := p.1) (s1 := p.2) hp
                 cases e
                 exact ⟨by simp only [List.length_cons, Re.cnt]; omega, trivial⟩)
end Garner
/-! Patterns, plain: what is read stays so where a bracket or the end stands behind -/
namespace Garner
open Go

theorem head_app {s u : List Nat} (h : s ≠ []) : (s ++ u).head? = s.head? := by cases s with
  | nil => exact absurd rfl h
  | cons a s => rfl
theorem tail_app {s u : List Nat} (h : s ≠ []) : (s ++ u).tail = s.tail ++ u := by cases s with
  | nil => exact absurd rfl h
  | cons a s => rfl
theorem ne_of_head {s : List Nat} {c : Nat} (h : s.head? = some c) : s ≠ [] := fun e => by rw [e] at h; cases h
theorem escR_app {s m s1 : List Nat} (u : List Nat) (h : escR s = some (m, s1)) : escR (s ++ u) = some (m, s1 ++ u) := by
  cases s with
  | nil => cases h
  | cons r s =>
    rw [escR] at h
    show escR (r :: (s ++ u)) = _
    rw [escR]
    repeat' split at h
    all_goals first | (cases h; simp_all; done) | cases h
theorem memR_app {s m s1 : List Nat} (u : List Nat) (h : memR s = some (m, s1)) : memR (s ++ u) = some (m, s1 ++ u) := by
  cases s with
  | nil => cases h
  | cons r s =>
    rw [memR] at h
    show memR (r :: (s ++ u)) = _
    rw [memR]
    split at h
    · rename_i hr
      rw [if_pos hr]; exact escR_app u h
    · rename_i hr
      rw [if_neg hr]
      split at h
      · cases h
      · rename_i hr2
        rw [if_neg hr2]
        cases h; rfl
theorem clsR_nil : ∀ (n : Nat) (f : Bool) (acc : List Nat), clsR n f [] acc = none
  | 0, _, _ => rfl
  | n + 1, f, acc => by simp [clsR, memR]
theorem clsR_app : ∀ {n : Nat} {f : Bool} {s acc m s1 : List Nat} (u : List Nat) {k : Nat}, n ≤ k → clsR n f s acc = some (m, s1) → clsR k f (s ++ u) acc = some (m, s1 ++ u)
  | 0, _, _, _, _, _, _, _, _, h => by cases h
  | n + 1, f, s, acc, m, s1, u, 0, hk, h => by omega
  | n + 1, f, s, acc, m, s1, u, k + 1, hk, h => by
    have hs : s ≠ [] := fun e => by rw [e, clsR_nil] at h; cases h
    rw [clsR] at h ⊢
    rw [head_app hs, tail_app hs]
    split at h
    · rename_i hc
      rw [if_pos hc]
      cases h; rfl
    · rename_i hc
      rw [if_neg hc]
      split at h
      · cases h
      · rename_i m1 s2 hm
        rw [memR_app u hm]
        dsimp only
        by_cases h2 : s2 = []
        · subst h2
          rw [if_neg (by simp), clsR_nil] at h
          cases h
        · rw [head_app h2, tail_app h2]
          split at h
          · rename_i hd
            rw [if_pos hd]
            split at h
            · cases h
            · rename_i t s3 ht
              rw [memR_app u ht]
              dsimp only
              split at h
              · cases h
              · exact clsR_app u (by omega) h
          · rename_i hd
            rw [if_neg hd]
            exact clsR_app u (by omega) h
theorem classR_app {s m s1 : List Nat} (u : List Nat) (h : classR s = some (m, s1)) : classR (s ++ u) = some (m, s1 ++ u) := by
  have hs : s ≠ [] := fun e => by
    subst e
    unfold classR at h
    rw [if_neg (by simp), clsR_nil] at h
    cases h
  unfold classR at h ⊢
  rw [head_app hs, tail_app hs]
  split at h
  · rename_i hc
    rw [if_pos hc]
    obtain ⟨p, hp, e⟩ := Option.map_eq_some_iff.1 h
    rw [clsR_app (m := p.1) (s1 := p.2) u (by simp) hp]
    cases e; rfl
  · rename_i hc
    rw [if_neg hc]
    obtain ⟨p, hp, e⟩ := Option.map_eq_some_iff.1 h
    rw [clsR_app (m := p.1) (s1 := p.2) u (by simp) hp]
    cases e; rfl
theorem digR_app {s s1 : List Nat} {d : Nat} (u : List Nat) (h : digR s = some (d, s1)) : digR (s ++ u) = some (d, s1 ++ u) := by
  cases s with
  | nil => cases h
  | cons r s =>
    rw [digR] at h
    show digR (r :: (s ++ u)) = _
    rw [digR]
    split at h
    · rename_i hr
      rw [if_pos hr]; cases h; rfl
    · cases h
/-- the end, or a closing bracket -/
def CtxR (u : List Nat) : Prop := u = [] ∨ u.head? = some 41
theorem CtxR.ne {u : List Nat} (h : CtxR u) {c : Nat} (hc : c ≠ 41) : u.head? ≠ some c := by
  rcases h with rfl | h
  · simp
  · rw [h]; intro e; injection e with e; exact hc e.symm
theorem CtxR.head {s u : List Nat} (h : CtxR u) {c : Nat} (hc : c ≠ 41) : ((s ++ u).head? = some c) = (s.head? = some c) := by
  cases s with
  | nil => simp [h.ne hc]
  | cons a s => rfl
theorem quantR_app {t v : Re} {s s1 : List Nat} {u : List Nat} (hu : CtxR u) (h : quantR t s = some (v, s1)) : quantR t (s ++ u) = some (v, s1 ++ u) := by
  cases s with
  | nil =>
    cases h
    show quantR t u = some (t, u)
    rcases hu with rfl | hu
    · rfl
    · cases u with
      | nil => cases hu
      | cons a u =>
        injection hu with hu
        subst hu
        simp [quantR]
  | cons r s =>
    rw [quantR] at h
    show quantR t (r :: (s ++ u)) = _
    rw [quantR]
    split at h
    · rename_i hr; rw [if_pos hr]; cases h; rfl
    rename_i hr1; rw [if_neg hr1]
    split at h
    · rename_i hr; rw [if_pos hr]; cases h; rfl
    rename_i hr2; rw [if_neg hr2]
    split at h
    · rename_i hr; rw [if_pos hr]; cases h; rfl
    rename_i hr3; rw [if_neg hr3]
    split at h
    · rename_i hr; rw [if_pos hr]
      split at h
      · cases h
      · rename_i lo s2 hd
        rw [digR_app u hd]
        dsimp only
        by_cases h2 : s2 = []
        · subst h2
          rw [if_neg (by simp), if_neg (by simp)] at h
          cases h
        · rw [head_app h2, tail_app h2]
          split at h
          · rename_i hc
            rw [if_pos hc]
            split at h
            · cases h
            · rename_i hi s3 hd3
              rw [digR_app u hd3]
              dsimp only
              split at h
              · rename_i hl
                have h3 := ne_of_head hl.2
                rw [head_app h3, tail_app h3, if_pos hl]
                cases h; rfl
              · cases h
          · rename_i hc
            rw [if_neg hc]
            split at h
            · rename_i hl
              rw [if_pos hl]
              cases h; rfl
            · cases h
    · rename_i hr; rw [if_neg hr]; cases h; rfl
theorem parse_app {u : List Nat} (hu : CtxR u) : ∀ n : Nat,
    (∀ {s s1 : List Nat} {ts : List Re} {d : Nat}, altsR n s = some (ts, s1, d) → altsR n (s ++ u) = some (ts, s1 ++ u, d)) ∧
    (∀ {s s1 : List Nat} {ts : List Re} {d : Nat}, rowsR n s = some (ts, s1, d) → rowsR n (s ++ u) = some (ts, s1 ++ u, d)) ∧
    (∀ {s s1 : List Nat} {t : Re} {d : Nat}, itemR n s = some (t, s1, d) → itemR n (s ++ u) = some (t, s1 ++ u, d)) ∧
    (∀ {s s1 : List Nat} {t : Re} {d : Nat}, atomR n s = some (t, s1, d) → atomR n (s ++ u) = some (t, s1 ++ u, d))
  | 0 => ⟨fun h => (by cases h), fun h => (by cases h), fun h => (by cases h), fun h => (by cases h)⟩
  | n + 1 => by
    obtain ⟨ia, ir, ii, it⟩ := parse_app hu n
    refine ⟨?_, ?_, ?_, ?_⟩
    · intro s s1 ts d h
      rw [altsR] at h ⊢
      split at h
      · cases h
      · rename_i us s2 e hr
        rw [ir hr]
        simp only [hu.head (by decide : (124 : Nat) ≠ 41)]
        split at h
        · rename_i hc
          rw [if_pos hc, tail_app (ne_of_head hc)]
          split at h
          · cases h
          · rename_i vs s3 e2 ha
            rw [ia ha]
            cases h; rfl
        · rename_i hc
          rw [if_neg hc]
          cases h; rfl
    · intro s s1 ts d h
      rw [rowsR] at h ⊢
      by_cases hs : s = []
      · subst hs
        rw [if_pos (.inl rfl)] at h
        cases h
        have hc : ([] ++ u : List Nat) = [] ∨ ([] ++ u : List Nat).head? = some 124 ∨ ([] ++ u : List Nat).head? = some 41 := by
          rcases hu with hu | hu
          · exact .inl hu
          · exact .inr (.inr hu)
        rw [if_pos hc]
      · have hsu : s ++ u ≠ [] := by simp [hs]
        rw [head_app hs]
        split at h
        · rename_i hc
          rw [if_pos (.inr (hc.resolve_left hs))]
          cases h; rfl
        · rename_i hc
          rw [if_neg (fun e => hc (.inr (e.resolve_left hsu)))]
          split at h
          · cases h
          · rename_i t s2 e hi
            rw [ii hi]
            dsimp only
            split at h
            · cases h
            · rename_i vs s3 e2 hr
              rw [ir hr]
              cases h; rfl
    · intro s s1 t d h
      rw [itemR] at h ⊢
      split at h
      · cases h
      · rename_i v s2 e ha
        rw [it ha]
        obtain ⟨p, hp, e⟩ := Option.map_eq_some_iff.1 h
        dsimp only
        rw [quantR_app (v := p.1) (s1 := p.2) hu hp]
        cases e; rfl
    · intro s s1 t d h
      cases s with
      | nil => cases h
      | cons r s =>
        show atomR (n + 1) (r :: (s ++ u)) = _
        rw [atomR] at h ⊢
        split at h
        · rename_i hr
          rw [if_pos hr]
          split at h
          · cases h
          · rename_i us s2 e ha
            rw [ia ha]
            dsimp only
            split at h
            · rename_i hc
              have h2 := ne_of_head hc
              rw [head_app h2, tail_app h2, if_pos hc]
              cases h; rfl
            · cases h
        · rename_i hr1
          rw [if_neg hr1]
          split at h
          · rename_i hr
            rw [if_pos hr]
            obtain ⟨p, hp, e⟩ := Option.map_eq_some_iff.1 h
            rw [classR_app (m := p.1) (s1 := p.2) u hp]
            cases e; rfl
          · rename_i hr2
            rw [if_neg hr2]
            split at h
            · rename_i hr; rw [if_pos hr]; cases h; rfl
            rename_i hr3; rw [if_neg hr3]
            split at h
            · rename_i hr; rw [if_pos hr]; cases h; rfl
            rename_i hr4; rw [if_neg hr4]
            split at h
            · rename_i hr; rw [if_pos hr]; cases h; rfl
            rename_i hr5; rw [if_neg hr5]
            split at h
            · rename_i hr; rw [if_pos hr]
              obtain ⟨p, hp, e⟩ := Option.map_eq_some_iff.1 h
              rw [escR_app (m := p.1) (s1 := p.2) u hp]
              cases e; rfl
            rename_i hr6; rw [if_neg hr6]
            split at h
            · cases h
            · rename_i hr
              rw [if_neg hr]
              cases h; rfl
end Garner
