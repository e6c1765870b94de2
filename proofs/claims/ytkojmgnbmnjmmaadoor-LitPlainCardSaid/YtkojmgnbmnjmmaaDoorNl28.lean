import Derived.Test.YtkojmgnbmnjmmaaDoorNl17
/-! Patterns, plain: without ^ and $ they match wherever a text stands; repetitions -/
namespace Garner
open Go

mutual
def Re.free : Re → Prop
  | .emp => True
  | .set _ => True
  | .seq l => frees l
  | .alt l => frees l
  | .rep k _ _ => k.free
  | .bgn => False
  | .fin => False
def frees : List Re → Prop
  | [] => True
  | t :: ts => t.free ∧ frees ts
end
theorem iter_app {R T : Nat → Nat → Prop} {m a : Nat} (hle : ∀ {i j}, R i j → i ≤ m → i ≤ j ∧ j ≤ m) (h : ∀ {i j}, R i j → i ≤ m → T (a + i) (a + j)) : ∀ n {i j}, iterR R n i j → i ≤ m → iterR T n (a + i) (a + j)
  | 0, i, j, e, hi => by
    have e : i = j := e
    rw [e]; rfl
  | n + 1, i, j, ⟨k, h1, h2⟩, hi => ⟨a + k, h h1 hi, iter_app hle h n h2 (hle h1 hi).2⟩
mutual
theorem M_app {u s v : List Nat} : ∀ (t : Re), t.free → ∀ {i j : Nat}, t.M s i j → i ≤ s.length → t.M (u ++ s ++ v) (u.length + i) (u.length + j)
  | .emp, _, i, j, h, _ => by
    have e : i = j := h
    rw [e]; rfl
  | .set l, _, _, _, h, _ => by
    obtain ⟨e, r, hr, hh⟩ := h
    exact ⟨by omega, r, at_app hr, hh⟩
  | .seq l, hf, i, j, h, hi => Ms_app l hf h hi
  | .alt l, hf, i, j, h, hi => Ma_app l hf h hi
  | .rep k mn mx, hf, i, j, h, hi => by
    obtain ⟨n, h1, h2, h⟩ := h
    have hk : ∀ {i j}, k.M s i j → i ≤ s.length → k.M (u ++ s ++ v) (u.length + i) (u.length + j) := fun h hi => M_app k hf h hi
    exact ⟨n, h1, h2, iter_app (fun h hi => M_le k h hi) hk n h hi⟩
  | .bgn, hf, _, _, _, _ => hf.elim
  | .fin, hf, _, _, _, _ => hf.elim
theorem Ms_app {u s v : List Nat} : ∀ (l : List Re), frees l → ∀ {i j : Nat}, Ms s l i j → i ≤ s.length → Ms (u ++ s ++ v) l (u.length + i) (u.length + j)
  | [], _, i, j, h, _ => by
    have e : i = j := h
    rw [e]; rfl
  | t :: ts, hf, _, _, ⟨k, h1, h2⟩, hi => ⟨u.length + k, M_app t hf.1 h1 hi, Ms_app ts hf.2 h2 (M_le t h1 hi).2⟩
theorem Ma_app {u s v : List Nat} : ∀ (l : List Re), frees l → ∀ {i j : Nat}, Ma s l i j → i ≤ s.length → Ma (u ++ s ++ v) l (u.length + i) (u.length + j)
  | [], _, _, _, h, _ => h.elim
  | t :: ts, hf, _, _, h, hi => h.elim (fun h => .inl (M_app t hf.1 h hi)) fun h => .inr (Ma_app ts hf.2 h hi)
end
/-- what is left when something was read is of what stood there -/
theorem tail_mem {s : List Nat} {x : Nat} (h : x ∈ s.tail) : x ∈ s := List.mem_of_mem_tail h
theorem escR_mem {s m s1 : List Nat} (h : escR s = some (m, s1)) : ∀ x ∈ s1, x ∈ s := by
  cases s with
  | nil => cases h
  | cons r s =>
    rw [escR] at h
    repeat' split at h
    all_goals first
      | (injection h with h; injection h with h1 h2; subst h2; intro x hx; exact List.mem_cons_of_mem _ hx)
      | (cases h)
theorem memR_mem {s m s1 : List Nat} (h : memR s = some (m, s1)) : ∀ x ∈ s1, x ∈ s := by
  cases s with
  | nil => cases h
  | cons r s =>
    rw [memR] at h
    split at h
    · intro x hx; exact List.mem_cons_of_mem _ (escR_mem h x hx)
    · split at h
      · cases h
      · injection h with h; injection h with h1 h2; subst h2; intro x hx; exact List.mem_cons_of_mem _ hx
theorem clsR_mem : ∀ {n : Nat} {f : Bool} {s acc m s1 : List Nat}, clsR n f s acc = some (m, s1) → ∀ x ∈ s1, x ∈ s
  | 0, _, _, _, _, _, h => by cases h
  | n + 1, f, s, acc, m, s1, h => by
    rw [clsR] at h
    split at h
    · injection h with h; injection h with h1 h2
      intro x hx; rw [← h2] at hx; exact tail_mem hx
    · split at h
      · cases h
      · rename_i m1 s2 hm
        have h1 := memR_mem hm
        split at h
        · split at h
          · cases h
          · rename_i t s3 ht
            have h2 := memR_mem ht
            split at h
            · cases h
            · intro x hx; exact h1 x (tail_mem (h2 x (clsR_mem h x hx)))
        · intro x hx; exact h1 x (clsR_mem h x hx)
theorem classR_mem {s m s1 : List Nat} (h : classR s = some (m, s1)) : ∀ x ∈ s1, x ∈ s := by
  unfold classR at h
  split at h
  · obtain ⟨p, hp, e⟩ := Option.map_eq_some_iff.1 h
    injection e with e1 e2
    intro x hx; rw [← e2] at hx
    exact tail_mem (clsR_mem (m := p.1) (s1 := p.2) hp x hx)
  · obtain ⟨p, hp, e⟩ := Option.map_eq_some_iff.1 h
    injection e with e1 e2
    intro x hx; rw [← e2] at hx
    exact clsR_mem (m := p.1) (s1 := p.2) hp x hx
theorem digR_mem {s s1 : List Nat} {d : Nat} (h : digR s = some (d, s1)) : ∀ x ∈ s1, x ∈ s := by
  cases s with
  | nil => cases h
  | cons r s =>
    rw [digR] at h
    split at h
    · injection h with h; injection h with h1 h2; subst h2; intro x hx; exact List.mem_cons_of_mem _ hx
    · cases h
theorem quantR_mem {t u : Re} {s s1 : List Nat} (h : quantR t s = some (u, s1)) : (∀ x ∈ s1, x ∈ s) ∧ (t.free → u.free) := by
  cases s with
  | nil => cases h; exact ⟨fun _ h => h, id⟩
  | cons r s =>
    rw [quantR] at h
    split at h
    · cases h; exact ⟨fun x hx => List.mem_cons_of_mem _ hx, id⟩
    split at h
    · cases h; exact ⟨fun x hx => List.mem_cons_of_mem _ hx, id⟩
    split at h
    · cases h; exact ⟨fun x hx => List.mem_cons_of_mem _ hx, id⟩
    split at h
    · split at h
      · cases h
      · rename_i lo s2 h1
        have m1 := digR_mem h1
        split at h
        · split at h
          · cases h
          · rename_i hi s3 h2
            have m2 := digR_mem h2
            split at h
            · injection h with h; injection h with h3 h4
              subst h3 h4
              exact ⟨fun x hx => List.mem_cons_of_mem _ (m1 x (tail_mem (m2 x (tail_mem hx)))), id⟩
            · cases h
        · split at h
          · injection h with h; injection h with h3 h4
            subst h3 h4
            exact ⟨fun x hx => List.mem_cons_of_mem _ (m1 x (tail_mem hx)), id⟩
          · cases h
    · cases h; exact ⟨fun _ h => h, id⟩
theorem many_free {mk : List Re → Re} (h : ∀ l, (mk l).free = frees l) {l : List Re} (hl : frees l) : (manyR mk l).free := by
  match l, hl with
  | [], hl => exact (h []).symm ▸ hl
  | [t], hl => exact hl.1
  | t :: u :: r, hl => exact (h (t :: u :: r)).symm ▸ hl
theorem rowOf_free {l : List Re} (hl : frees l) : (rowOf l).free := by
  unfold rowOf
  split
  · trivial
  · exact many_free (mk := .seq) (fun _ => rfl) hl
theorem parse_free : ∀ n : Nat,
    (∀ {s s1 : List Nat} {ts : List Re} {d : Nat}, altsR n s = some (ts, s1, d) → (∀ x ∈ s1, x ∈ s) ∧ (94 ∉ s → 36 ∉ s → frees ts)) ∧
    (∀ {s s1 : List Nat} {ts : List Re} {d : Nat}, rowsR n s = some (ts, s1, d) → (∀ x ∈ s1, x ∈ s) ∧ (94 ∉ s → 36 ∉ s → frees ts)) ∧
    (∀ {s s1 : List Nat} {t : Re} {d : Nat}, itemR n s = some (t, s1, d) → (∀ x ∈ s1, x ∈ s) ∧ (94 ∉ s → 36 ∉ s → t.free)) ∧
    (∀ {s s1 : List Nat} {t : Re} {d : Nat}, atomR n s = some (t, s1, d) → (∀ x ∈ s1, x ∈ s) ∧ (94 ∉ s → 36 ∉ s → t.free))
  | 0 => ⟨fun h => (by cases h), fun h => (by cases h), fun h => (by cases h), fun h => (by cases h)⟩
  | n + 1 => by
    obtain ⟨ia, ir, ii, it⟩ := parse_free n
    refine ⟨?_, ?_, ?_, ?_⟩
    · intro s s1 ts d h
      rw [altsR] at h
      split at h
      · cases h
      · rename_i us s2 e hr
        obtain ⟨h1, h2⟩ := ir hr
        split at h
        · split at h
          · cases h
          · rename_i vs s3 e2 ha
            obtain ⟨h3, h4⟩ := ia ha
            cases h
            exact ⟨fun x hx => h1 x (tail_mem (h3 x hx)), fun p q => ⟨rowOf_free (h2 p q), h4 (fun h => p (h1 _ (tail_mem h))) (fun h => q (h1 _ (tail_mem h)))⟩⟩
        · cases h
          exact ⟨h1, fun p q => ⟨rowOf_free (h2 p q), trivial⟩⟩
    · intro s s1 ts d h
      rw [rowsR] at h
      split at h
      · cases h
        exact ⟨fun _ h => h, fun _ _ => trivial⟩
      · split at h
        · cases h
        · rename_i t s2 e hi
          obtain ⟨h1, h2⟩ := ii hi
          split at h
          · cases h
          · rename_i vs s3 e2 hr
            obtain ⟨h3, h4⟩ := ir hr
            cases h
            exact ⟨fun x hx => h1 x (h3 x hx), fun p q => ⟨h2 p q, h4 (fun h => p (h1 _ h)) (fun h => q (h1 _ h))⟩⟩
    · intro s s1 t d h
      rw [itemR] at h
      split at h
      · cases h
      · rename_i v s2 e ha
        obtain ⟨h1, h2⟩ := it ha
        obtain ⟨p, hp, e⟩ := Option.map_eq_some_iff.1 h
        obtain ⟨h3, h4⟩ := quantR_mem (u := p.1) (s1 := p.2) hp
        cases e
        exact ⟨fun x hx => h1 x (h3 x hx), fun a b => h4 (h2 a b)⟩
    · intro s s1 t d h
      cases s with
      | nil => cases h
      | cons r s =>
        rw [atomR] at h
        split at h
        · split at h
          · cases h
          · rename_i us s2 e ha
            obtain ⟨h1, h2⟩ := ia ha
            split at h
            · cases h
              exact ⟨fun x hx => List.mem_cons_of_mem _ (h1 x (tail_mem hx)), fun p q => many_free (mk := .alt) (fun _ => rfl) (h2 (fun h => p (List.mem_cons_of_mem _ h)) (fun h => q (List.mem_cons_of_mem _ h)))⟩
            · cases h
        split at h
        · obtain ⟨p, hp, e⟩ := Option.map_eq_some_iff.1 h
          have h1 := classR_mem (m := p.1) (s1 := p.2) hp
          cases e
          exact ⟨fun x hx => List.mem_cons_of_mem _ (h1 x hx), fun _ _ => trivial⟩
        split at h
        · cases h; exact ⟨fun x hx => List.mem_cons_of_mem _ hx, fun _ _ => trivial⟩
        split at h
        · rename_i hc
          cases h
          exact ⟨fun x hx => List.mem_cons_of_mem _ hx, fun p _ => (p (by rw [hc]; exact List.mem_cons_self)).elim⟩
        split at h
        · rename_i hc
          cases h
          exact ⟨fun x hx => List.mem_cons_of_mem _ hx, fun _ p => (p (by rw [hc]; exact List.mem_cons_self)).elim⟩
        split at h
        · obtain ⟨p, hp, e⟩ := Option.map_eq_some_iff.1 h
          have h1 := escR_mem (m := p.1) (s1 := p.2) hp
          cases e
          exact ⟨fun x hx => List.mem_cons_of_mem _ (h1 x hx), fun _ _ => trivial⟩
        split at h
        · cases h
        · cases h; exact ⟨fun x hx => List.mem_cons_of_mem _ hx, fun _ _ => trivial⟩
theorem ReadsTo.free {s : List Nat} {t : Re} (h : ReadsTo s t) (h1 : 94 ∉ s) (h2 : 36 ∉ s) : t.free := by
  obtain ⟨ts, d, h3, rfl⟩ := h
  exact many_free (mk := .alt) (fun _ => rfl) (((parse_free _).1 h3).2 h1 h2)

/-- texts laid together, each of which a free pattern matches whole -/
theorem iter_lines {a : Re} (hf : a.free) : ∀ (ls : List (List Nat)) (u : List Nat), (∀ l ∈ ls, wholeB a l = true) → iterR (a.M (u ++ ls.flatten)) ls.length u.length (u ++ ls.flatten).length
  | [], u, _ => by
    show u.length = _
    simp
  | l :: ls, u, h => by
    have h1 := whole_iff.1 (h l (by simp))
    have h2 := iter_lines hf ls (u ++ l) fun x hx => h x (by simp [hx])
    have e : u ++ (l :: ls).flatten = u ++ l ++ ls.flatten := by simp
    rw [e]
    refine ⟨(u ++ l).length, ?_, h2⟩
    have := M_app (u := u) (s := l) (v := ls.flatten) a hf h1 (Nat.zero_le _)
    simpa using this
theorem star_lines {a : Re} (hf : a.free) (ls : List (List Nat)) (h : ∀ l ∈ ls, wholeB a l = true) : wholeB (.rep a 0 none) ls.flatten = true := by
  rw [whole_iff]
  exact ⟨ls.length, Nat.zero_le _, fun m hm => (by cases hm), iter_lines hf ls [] h⟩
theorem times_lines {a : Re} (hf : a.free) (ls : List (List Nat)) (h : ∀ l ∈ ls, wholeB a l = true) : wholeB (.rep a ls.length (some ls.length)) ls.flatten = true := by
  rw [whole_iff]
  exact ⟨ls.length, Nat.le_refl _, fun m hm => (by cases hm; exact Nat.le_refl _), iter_lines hf ls [] h⟩
theorem star_nil {a : Re} : wholeB (.rep a 0 none) [] = true := by
  rw [whole_iff]
  exact ⟨0, Nat.le_refl _, fun m hm => (by cases hm), rfl⟩
end Garner
