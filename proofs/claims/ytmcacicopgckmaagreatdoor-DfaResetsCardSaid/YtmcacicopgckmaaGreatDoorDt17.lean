import Derived.Test.YtmcacicopgckmaaGreatDoorDt16
/-! Patterns, plain: rows of sets: dots, classes, plain runes -/
namespace Garner
open Go

section
variable {s : List Nat}
/-- sets one behind the other -/
theorem iter_set {l : List Nat} : ∀ {n i j : Nat}, iterR ((Re.set l).M s) n i j ↔ j = i + n ∧ ∀ m, m < n → ∃ r, s[i + m]? = some r ∧ hasR l r = true
  | 0, i, j => by
    constructor
    · intro h
      have h : i = j := h
      exact ⟨by omega, fun m hm => by omega⟩
    · rintro ⟨rfl, -⟩; rfl
  | n + 1, i, j => by
    constructor
    · rintro ⟨k, ⟨rfl, r, hr, hh⟩, h2⟩
      obtain ⟨rfl, h3⟩ := iter_set.1 h2
      refine ⟨by omega, fun m hm => ?_⟩
      cases m with
      | zero => exact ⟨r, hr, hh⟩
      | succ m =>
        have := h3 m (by omega)
        rwa [show i + 1 + m = i + (m + 1) by omega] at this
    · rintro ⟨rfl, h⟩
      obtain ⟨r, hr, hh⟩ := h 0 (by omega)
      exact ⟨i + 1, ⟨rfl, r, hr, hh⟩, iter_set.2 ⟨by omega, fun m hm => by
        have := h (m + 1) (by omega)
        rwa [show i + (m + 1) = i + 1 + m by omega] at this⟩⟩
theorem all_iff {l : List Nat} {n i : Nat} (h : i + n = s.length) : (∀ m, m < n → ∃ r, s[i + m]? = some r ∧ hasR l r = true) ↔ ∀ r ∈ s.drop i, hasR l r = true := by
  constructor
  · intro h1 r hr
    obtain ⟨m, hm, e⟩ := List.mem_iff_getElem.1 hr
    rw [List.length_drop] at hm
    rw [List.getElem_drop] at e
    obtain ⟨r', h2, h3⟩ := h1 m (by omega)
    rw [List.getElem?_eq_getElem (by omega), e] at h2
    cases h2; exact h3
  · intro h1 m hm
    exact ⟨s[i + m]'(by omega), List.getElem?_eq_getElem (by omega), h1 _ (by
      rw [List.mem_iff_getElem]
      exact ⟨m, by rw [List.length_drop]; omega, by rw [List.getElem_drop]⟩)⟩
theorem set_whole {l : List Nat} : wholeB (.set l) s = true ↔ ∃ r, s = [r] ∧ hasR l r = true := by
  rw [whole_iff]
  constructor
  · rintro ⟨h, r, hr, hh⟩
    match s, h, hr with
    | [a], _, hr => cases hr; exact ⟨_, rfl, hh⟩
  · rintro ⟨r, rfl, hh⟩
    exact ⟨rfl, r, rfl, hh⟩
theorem set_part {l : List Nat} : partB (.set l) s = true ↔ ∃ r ∈ s, hasR l r = true := by
  rw [part_iff]
  constructor
  · rintro ⟨i, j, -, -, r, hr, hh⟩
    exact ⟨r, List.mem_of_getElem? hr, hh⟩
  · rintro ⟨r, hr, hh⟩
    obtain ⟨i, hi, e⟩ := List.mem_iff_getElem.1 hr
    exact ⟨i, i + 1, by omega, rfl, r, by rw [List.getElem?_eq_getElem hi, e], hh⟩
theorem star_set {l : List Nat} : wholeB (.rep (.set l) 0 none) s = true ↔ ∀ r ∈ s, hasR l r = true := by
  rw [whole_iff]
  constructor
  · rintro ⟨n, -, -, h⟩
    obtain ⟨h1, h2⟩ := iter_set.1 h
    have := (all_iff (l := l) (n := n) (i := 0) (by omega)).1 h2
    simpa using this
  · intro h
    refine ⟨s.length, Nat.zero_le _, fun m hm => (by cases hm), iter_set.2 ⟨by omega, ?_⟩⟩
    exact (all_iff (by omega)).2 (by simpa using h)
theorem rowOf_M {ts : List Re} {i j : Nat} : (rowOf ts).M s i j ↔ Ms s ts i j := by
  match ts with
  | [] => exact Iff.rfl
  | [t] =>
    show t.M s i j ↔ ∃ k, t.M s i k ∧ k = j
    simp
  | t :: u :: r => exact Iff.rfl
theorem Ms_app2 {ts us : List Re} {i j : Nat} : Ms s (ts ++ us) i j ↔ ∃ k, Ms s ts i k ∧ Ms s us k j := by
  induction ts generalizing i with
  | nil =>
    show _ ↔ ∃ k, i = k ∧ _
    simp
  | cons t ts ih =>
    constructor
    · rintro ⟨m, h1, h2⟩
      obtain ⟨k, h3, h4⟩ := ih.1 h2
      exact ⟨k, ⟨m, h1, h3⟩, h4⟩
    · rintro ⟨k, ⟨m, h1, h3⟩, h4⟩
      exact ⟨m, h1, ih.2 ⟨k, h3, h4⟩⟩
theorem Ms_rep {t : Re} : ∀ {n i j : Nat}, Ms s (List.replicate n t) i j ↔ iterR (t.M s) n i j
  | 0, i, j => Iff.rfl
  | n + 1, i, j => by
    constructor
    · rintro ⟨k, h1, h2⟩; exact ⟨k, h1, Ms_rep.1 h2⟩
    · rintro ⟨k, h1, h2⟩; exact ⟨k, h1, Ms_rep.2 h2⟩
end

/-! ### dots -/
abbrev dotS : Re := .set [0, 9, 11, 1114111]
theorem rows_dots {rest : List Nat} {ts : List Re} {s2 : List Nat} {e n : Nat} (h : rowsR (n + 2) rest = some (ts, s2, e)) (hq : ∀ t, quantR t rest = some (t, rest)) :
    ∀ k, rowsR (n + 2 + k) (List.replicate k 46 ++ rest) = some (List.replicate k dotS ++ ts, s2, e)
  | 0 => h
  | k + 1 => by
    have ih := rows_dots h hq k
    have hq2 : quantR dotS (List.replicate k 46 ++ rest) = some (dotS, List.replicate k 46 ++ rest) := by
      cases k with
      | zero => exact hq _
      | succ k => exact quant_none (by decide) (by decide) (by decide) (by decide)
    have hi := item_of (atom_dot (n + k) (List.replicate k 46 ++ rest)) hq2
    have := rows_cons (n := n + 2 + k) (a := 46) (by decide) (by decide) (by rw [show n + 2 + k = n + k + 1 + 1 by omega]; exact hi) ih
    rw [Nat.zero_max] at this
    exact this
theorem read_mk {s : List Nat} {ts : List Re} {d : Nat} (h : altsR (4 * s.length + 4) s = some (ts, [], d)) (hd : d ≤ 16) (hs : (manyR .alt ts).size ≤ 1000) : readR s = .ok (manyR .alt ts) := by
  unfold readR
  rw [h]
  dsimp only
  rw [if_neg (by simp), if_neg (by omega), if_neg (by omega)]
theorem sizes_app (ts us : List Re) : sizes (ts ++ us) = sizes ts + sizes us := by
  induction ts with
  | nil => simp [sizes]
  | cons t ts ih => simp only [List.cons_append, sizes, ih]; omega
theorem sizes_dots : ∀ k, sizes (List.replicate k dotS) = k
  | 0 => rfl
  | k + 1 => by simp only [List.replicate_succ, sizes, sizes_dots k, Re.size]; omega
theorem many_size {mk : List Re → Re} (h : ∀ l, (mk l).size = sizes l + 1) (l : List Re) : (manyR mk l).size ≤ sizes l + 1 := by
  match l with
  | [] => exact Nat.le_of_eq (h [])
  | [t] => simp only [manyR, sizes]; omega
  | t :: u :: r => exact Nat.le_of_eq (h _)
theorem rowOf_size (l : List Re) : (rowOf l).size ≤ sizes l + 1 := by
  unfold rowOf
  split
  · simp [Re.size]
  · exact many_size (mk := .seq) (fun _ => rfl) l
theorem dots_ok (k : Nat) (hk : k ≤ 100) : readR (List.replicate k 46) = .ok (rowOf (List.replicate k dotS)) := by
  have hl : (List.replicate k 46).length = k := List.length_replicate ..
  have h := rows_dots (n := 3 * k + 1) (rows_end _) (fun _ => rfl) k
  rw [List.append_nil, List.append_nil] at h
  have h2 := alts_one h
  have := rowOf_size (List.replicate k dotS)
  rw [sizes_dots] at this
  exact read_mk (ts := [rowOf (List.replicate k dotS)]) (d := 0) (by rw [hl, show 4 * k + 4 = 3 * k + 1 + 2 + k + 1 by omega]; exact h2) (by omega) (by show (rowOf _).size ≤ _; omega)
theorem dotsB_ok (k : Nat) (hk : k ≤ 100) : readR (94 :: (List.replicate k 46 ++ [36])) = .ok (rowOf (.bgn :: (List.replicate k dotS ++ [.fin]))) := by
  have hl : (94 :: (List.replicate k 46 ++ [36])).length = k + 2 := by simp
  have h0 := rows_cons (n := 3 * k + 9) (by decide) (by decide) (item_of (atom_fin (3 * k + 7) []) rfl) (rows_end (3 * k + 8))
  have h := rows_dots (n := 3 * k + 8) h0 (fun _ => quant_none (by decide) (by decide) (by decide) (by decide)) k
  have hq : quantR .bgn (List.replicate k 46 ++ [36]) = some (.bgn, List.replicate k 46 ++ [36]) := by
    cases k with
    | zero => exact quant_none (by decide) (by decide) (by decide) (by decide)
    | succ k => exact quant_none (by decide) (by decide) (by decide) (by decide)
  have hi := item_of (atom_bgn (3 * k + 8 + k) (List.replicate k 46 ++ [36])) hq
  have h3 := rows_cons (n := 3 * k + 8 + 2 + k) (a := 94) (by decide) (by decide) (by rw [show 3 * k + 8 + 2 + k = 3 * k + 8 + k + 1 + 1 by omega]; exact hi) h
  have h2 := alts_one h3
  have := rowOf_size (.bgn :: (List.replicate k dotS ++ [.fin]))
  have hs : sizes (.bgn :: (List.replicate k dotS ++ [.fin])) = k + 2 := by simp only [sizes, sizes_app, sizes_dots, Re.size]; omega
  exact read_mk (ts := [rowOf (.bgn :: (List.replicate k dotS ++ [.fin]))]) (by rw [hl, show 4 * (k + 2) + 4 = 3 * k + 8 + 2 + k + 1 + 1 by omega]; exact h2) (by decide) (by show (rowOf _).size ≤ _; omega)
theorem dotsC_ok (k : Nat) (hk : k ≤ 100) : readR (List.replicate k 46 ++ [46, 42]) = .ok (rowOf (List.replicate k dotS ++ [.rep dotS 0 none])) := by
  have hl : (List.replicate k 46 ++ [46, 42]).length = k + 2 := by simp
  have h0 := rows_cons (n := 3 * k + 10) (by decide) (by decide) (item_of (atom_dot (3 * k + 8) [42]) quant_star) (rows_end (3 * k + 9))
  have h := rows_dots (n := 3 * k + 9) h0 (fun _ => quant_none (by decide) (by decide) (by decide) (by decide)) k
  have h2 := alts_one h
  have := rowOf_size (List.replicate k dotS ++ [.rep dotS 0 none])
  have hs : sizes (List.replicate k dotS ++ [.rep dotS 0 none]) = k + 2 := by simp only [sizes, sizes_app, sizes_dots, Re.size, timesR]
  exact read_mk (ts := [rowOf (List.replicate k dotS ++ [.rep dotS 0 none])]) (by rw [hl, show 4 * (k + 2) + 4 = 3 * k + 9 + 2 + k + 1 by omega]; exact h2) (by decide) (by show (rowOf _).size ≤ _; omega)

section
variable {s : List Nat}
/-- a text without line feeds -/
def NoLf (s : List Nat) : Prop := 10 ∉ s
theorem dots_i (hs : ∀ r ∈ s, r ≤ 1114111) {k i : Nat} : (∀ m, m < k → ∃ r, s[i + m]? = some r ∧ hasR [0, 9, 11, 1114111] r = true) ↔ ∀ m, m < k → ∃ r, s[i + m]? = some r ∧ r ≠ 10 :=
  ⟨fun h m hm => by
    obtain ⟨r, h1, h2⟩ := h m hm
    exact ⟨r, h1, has_dot h2⟩, fun h m hm => by
    obtain ⟨r, h1, h2⟩ := h m hm
    exact ⟨r, h1, dot_has h2 (hs r (List.mem_of_getElem? h1))⟩⟩
theorem nolf_iff {k : Nat} (h : k = s.length) : (∀ m, m < k → ∃ r, s[0 + m]? = some r ∧ r ≠ 10) ↔ NoLf s := by
  constructor
  · intro h1 h2
    obtain ⟨m, hm, e⟩ := List.mem_iff_getElem.1 h2
    obtain ⟨r, h3, h4⟩ := h1 m (by omega)
    rw [Nat.zero_add, List.getElem?_eq_getElem hm, e] at h3
    cases h3; exact h4 rfl
  · intro h1 m hm
    refine ⟨s[m]'(by omega), by rw [Nat.zero_add]; exact List.getElem?_eq_getElem (by omega), fun e => h1 ?_⟩
    rw [← e]; exact List.getElem_mem ..
theorem dotsA_whole (hs : ∀ r ∈ s, r ≤ 1114111) (k : Nat) : wholeB (rowOf (List.replicate k dotS)) s = true ↔ NoLf s ∧ s.length = k := by
  rw [whole_iff, rowOf_M, Ms_rep, iter_set, dots_i hs]
  constructor
  · rintro ⟨h1, h2⟩
    exact ⟨(nolf_iff (by omega)).1 h2, by omega⟩
  · rintro ⟨h1, h2⟩
    exact ⟨by omega, (nolf_iff (by omega)).2 h1⟩
theorem dotsB_part (hs : ∀ r ∈ s, r ≤ 1114111) (k : Nat) : partB (rowOf (.bgn :: (List.replicate k dotS ++ [.fin]))) s = true ↔ NoLf s ∧ s.length = k := by
  rw [← dotsA_whole hs k, whole_iff, part_iff]
  simp only [rowOf_M]
  constructor
  · rintro ⟨i, j, -, m, ⟨h1, h2⟩, h3⟩
    obtain ⟨l, h4, n, ⟨h5, h6⟩, h7⟩ := Ms_app2.1 h3
    subst h1 h2 h6
    exact h4
  · intro h
    exact ⟨0, s.length, Nat.zero_le _, 0, ⟨rfl, rfl⟩, Ms_app2.2 ⟨_, h, _, ⟨rfl, rfl⟩, rfl⟩⟩
theorem dotsC_whole (hs : ∀ r ∈ s, r ≤ 1114111) (k : Nat) : wholeB (rowOf (List.replicate k dotS ++ [.rep dotS 0 none])) s = true ↔ NoLf s ∧ k ≤ s.length := by
  rw [whole_iff, rowOf_M, Ms_app2]
  constructor
  · rintro ⟨m, h1, n, ⟨q, -, -, h2⟩, h3⟩
    have h3 : n = s.length := h3
    subst h3
    rw [Ms_rep, iter_set] at h1
    rw [iter_set] at h2
    refine ⟨?_, by omega⟩
    refine (nolf_iff (k := k + q) (by omega)).1 ?_
    refine (dots_i hs).1 fun x hx => ?_
    by_cases hk : x < k
    · exact h1.2 x hk
    · have := h2.2 (x - k) (by omega)
      rwa [h1.1, show 0 + k + (x - k) = 0 + x by omega] at this
  · rintro ⟨h1, h2⟩
    have h3 := (dots_i hs).2 ((nolf_iff (k := s.length) rfl).2 h1)
    refine ⟨k, ?_, s.length, ⟨s.length - k, Nat.zero_le _, fun m hm => (by cases hm), ?_⟩, rfl⟩
    · rw [Ms_rep, iter_set]
      exact ⟨by omega, fun m hm => h3 m (by omega)⟩
    · rw [iter_set]
      refine ⟨by omega, fun m hm => ?_⟩
      have := h3 (k + m) (by omega)
      rwa [Nat.zero_add] at this
theorem dotsA_part (hs : ∀ r ∈ s, r ≤ 1114111) (k : Nat) (h0 : NoLf s) : partB (rowOf (List.replicate k dotS)) s = true ↔ k ≤ s.length := by
  rw [part_iff]
  constructor
  · rintro ⟨i, j, hi, h⟩
    have := M_le _ h hi
    rw [rowOf_M, Ms_rep, iter_set] at h
    omega
  · intro h
    have h3 := (dots_i hs).2 ((nolf_iff (k := s.length) rfl).2 h0)
    refine ⟨0, k, Nat.zero_le _, ?_⟩
    rw [rowOf_M, Ms_rep, iter_set]
    exact ⟨by omega, fun m hm => h3 m (by omega)⟩
end
end Garner
/-! Patterns, plain: without ^ and $ they match wherever a text stands; repetitions -/
namespace Garner
open Go

mutual
def Re.free : Re → Prop
  | .emp => True
  | .set _ => True
  | .seq l => frees l
  | .alt l => frees l
  | .rep k _ _ => k.free
  | .bgn => False
  | .fin => False
def frees : List Re → Prop
  | [] => True
  | t :: ts => t.free ∧ frees ts
end
theorem iter_app {R T : Nat → Nat → Prop} {m a : Nat} (hle : ∀ {i j}, R i j → i ≤ m → i ≤ j ∧ j ≤ m) (h : ∀ {i j}, R i j → i ≤ m → T (a + i) (a + j)) : ∀ n {i j}, iterR R n i j → i ≤ m → iterR T n (a + i) (a + j)
  | 0, i, j, e, hi => by
    have e : i = j := e
    rw [e]; rfl
  | n + 1, i, j, ⟨k, h1, h2⟩, hi => ⟨a + k, h h1 hi, iter_app hle h n h2 (hle h1 hi).2⟩
mutual
theorem M_app {u s v : List Nat} : ∀ (t : Re), t.free → ∀ {i j : Nat}, t.M s i j → i ≤ s.length → t.M (u ++ s ++ v) (u.length + i) (u.length + j)
  | .emp, _, i, j, h, _ => by
    have e : i = j := h
    rw [e]; rfl
  | .set l, _, _, _, h, _ => by
    obtain ⟨e, r, hr, hh⟩ := h
    exact ⟨by omega, r, at_app hr, hh⟩
  | .seq l, hf, i, j, h, hi => Ms_app l hf h hi
  | .alt l, hf, i, j, h, hi => Ma_app l hf h hi
  | .rep k mn mx, hf, i, j, h, hi => by
    obtain ⟨n, h1, h2, h⟩ := h
    have hk : ∀ {i j}, k.M s i j → i ≤ s.length → k.M (u ++ s ++ v) (u.length + i) (u.length + j) := fun h hi => M_app k hf h hi
    exact ⟨n, h1, h2, iter_app (fun h hi => M_le k h hi) hk n h hi⟩
  | .bgn, hf, _, _, _, _ => hf.elim
  | .fin, hf, _, _, _, _ => hf.elim
theorem Ms_app {u s v : List Nat} : ∀ (l : List Re), frees l → ∀ {i j : Nat}, Ms s l i j → i ≤ s.length → Ms (u ++ s ++ v) l (u.length + i) (u.length + j)
  | [], _, i, j, h, _ => by
    have e : i = j := h
    rw [e]; rfl
  | t :: ts, hf, _, _, ⟨k, h1, h2⟩, hi => ⟨u.length + k, M_app t hf.1 h1 hi, Ms_app ts hf.2 h2 (M_le t h1 hi).2⟩
theorem Ma_app {u s v : List Nat} : ∀ (l : List Re), frees l → ∀ {i j : Nat}, Ma s l i j → i ≤ s.length → Ma (u ++ s ++ v) l (u.length + i) (u.length + j)
  | [], _, _, _, h, _ => h.elim
  | t :: ts, hf, _, _, h, hi => h.elim (fun h => .inl (M_app t hf.1 h hi)) fun h => .inr (Ma_app ts hf.2 h hi)
end
/-- what is left when something was read is of what stood there -/
theorem tail_mem {s : List Nat} {x : Nat} (h : x ∈ s.tail) : x ∈ s := List.mem_of_mem_tail h
theorem escR_mem {s m s1 : List Nat} (h : escR s = some (m, s1)) : ∀ x ∈ s1, x ∈ s := by
  cases s with
  | nil => cases h
  | cons r s =>
    rw [escR] at h
    repeat' split at h
    all_goals first
      | (injection h with h; injection h with h1 h2; subst h2; intro x hx; exact List.mem_cons_of_mem _ hx)
      | (cases h)
theorem memR_mem {s m s1 : List Nat} (h : memR s = some (m, s1)) : ∀ x ∈ s1, x ∈ s := by
  cases s with
  | nil => cases h
  | cons r s =>
    rw [memR] at h
    split at h
    · intro x hx; exact List.mem_cons_of_mem _ (escR_mem h x hx)
    · split at h
      · cases h
      · injection h with h; injection h with h1 h2; subst h2; intro x hx; exact List.mem_cons_of_mem _ hx
theorem clsR_mem : ∀ {n : Nat} {f : Bool} {s acc m s1 : List Nat}, clsR n f s acc = some (m, s1) → ∀ x ∈ s1, x ∈ s
  | 0, _, _, _, _, _, h => by cases h
  | n + 1, f, s, acc, m, s1, h => by
    rw [clsR] at h
    split at h
    · injection h with h; injection h with h1 h2
      intro x hx; rw [← h2] at hx; exact tail_mem hx
    · split at h
      · cases h
      · rename_i m1 s2 hm
        have h1 := memR_mem hm
        split at h
        · split at h
          · cases h
          · rename_i t s3 ht
            have h2 := memR_mem ht
            split at h
            · cases h
            · intro x hx; exact h1 x (tail_mem (h2 x (clsR_mem h x hx)))
        · intro x hx; exact h1 x (clsR_mem h x hx)
theorem classR_mem {s m s1 : List Nat} (h : classR s = some (m, s1)) : ∀ x ∈ s1, x ∈ s := by
  unfold classR at h
  split at h
  · obtain ⟨p, hp, e⟩ := Option.map_eq_some_iff.1 h
    injection e with e1 e2
    intro x hx; rw [← e2] at hx
    exact tail_mem (clsR_mem (m := p.1) (s1 := p.2) hp x hx)
  · obtain ⟨p, hp, e⟩ := Option.map_eq_some_iff.1 h
    injection e with e1 e2
    intro x hx; rw [← e2] at hx
    exact clsR_mem (m := p.1) (s1 := p.2) hp x hx
theorem digR_mem {s s1 : List Nat} {d : Nat} (h : digR s = some (d, s1)) : ∀ x ∈ s1, x ∈ s := by
  cases s with
  | nil => cases h
  | cons r s =>
    rw [digR] at h
    split at h
    · injection h with h; injection h with h1 h2; subst h2; intro x hx; exact List.mem_cons_of_mem _ hx
    · cases h
theorem quantR_mem {t u : Re} {s s1 : List Nat} (h : quantR t s = some (u, s1)) : (∀ x ∈ s1, x ∈ s) ∧ (t.free → u.free) := by
  cases s with
  | nil => cases h; exact ⟨fun _ h => h, id⟩
  | cons r s =>
    rw [quantR] at h
    split at h
    · cases h; exact ⟨fun x hx => List.mem_cons_of_mem _ hx, id⟩
    split at h
    · cases h; exact ⟨fun x hx => List.mem_cons_of_mem _ hx, id⟩
    split at h
    · cases h; exact ⟨fun x hx => List.mem_cons_of_mem _ hx, id⟩
    split at h
    · split at h
      · cases h
      · rename_i lo s2 h1
        have m1 := digR_mem h1
        split at h
        · split at h
          · cases h
          · rename_i hi s3 h2
            have m2 := digR_mem h2
            split at h
            · injection h with h; injection h with h3 h4
              subst h3 h4
              exact ⟨fun x hx => List.mem_cons_of_mem _ (m1 x (tail_mem (m2 x (tail_mem hx)))), id⟩
            · cases h
        · split at h
          · injection h with h; injection h with h3 h4
            subst h3 h4
            exact ⟨fun x hx => List.mem_cons_of_mem _ (m1 x (tail_mem hx)), id⟩
          · cases h
    · cases h; exact ⟨fun _ h => h, id⟩
theorem many_free {mk : List Re → Re} (h : ∀ l, (mk l).free = frees l) {l : List Re} (hl : frees l) : (manyR mk l).free := by
  match l, hl with
  | [], hl => exact (h []).symm ▸ hl
  | [t], hl => exact hl.1
  | t :: u :: r, hl => exact (h (t :: u :: r)).symm ▸ hl
theorem rowOf_free {l : List Re} (hl : frees l) : (rowOf l).free := by
  unfold rowOf
  split
  · trivial
  · exact many_free (mk := .seq) (fun _ => rfl) hl
theorem parse_free : ∀ n : Nat,
    (∀ {s s1 : List Nat} {ts : List Re} {d : Nat}, altsR n s = some (ts, s1, d) → (∀ x ∈ s1, x ∈ s) ∧ (94 ∉ s → 36 ∉ s → frees ts)) ∧
    (∀ {s s1 : List Nat} {ts : List Re} {d : Nat}, rowsR n s = some (ts, s1, d) → (∀ x ∈ s1, x ∈ s) ∧ (94 ∉ s → 36 ∉ s → frees ts)) ∧
    (∀ {s s1 : List Nat} {t : Re} {d : Nat}, itemR n s = some (t, s1, d) → (∀ x ∈ s1, x ∈ s) ∧ (94 ∉ s → 36 ∉ s → t.free)) ∧
    (∀ {s s1 : List Nat} {t : Re} {d : Nat}, atomR n s = some (t, s1, d) → (∀ x ∈ s1, x ∈ s) ∧ (94 ∉ s → 36 ∉ s → t.free))
  | 0 => ⟨fun h => (by cases h), fun h => (by cases h), fun h => (by cases h), fun h => (by cases h)⟩
  | n + 1 => by
    obtain ⟨ia, ir, ii, it⟩ := parse_free n
    refine ⟨?_, ?_, ?_, ?_⟩
    · intro s s1 ts d h
      rw [altsR] at h
      split at h
      · cases h
      · rename_i us s2 e hr
        obtain ⟨h1, h2⟩ := ir hr
        split at h
        · split at h
          · cases h
          · rename_i vs s3 e2 ha
            obtain ⟨h3, h4⟩ := ia ha
            cases h
            exact ⟨fun x hx => h1 x (tail_mem (h3 x hx)), fun p q => ⟨rowOf_free (h2 p q), h4 (fun h => p (h1 _ (tail_mem h))) (fun h => q (h1 _ (tail_mem h)))⟩⟩
        · cases h
          exact ⟨h1, fun p q => ⟨rowOf_free (h2 p q), trivial⟩⟩
    · intro s s1 ts d h
      rw [rowsR] at h
      split at h
      · cases h
        exact ⟨fun _ h => h, fun _ _ => trivial⟩
      · split at h
        · cases h
        · rename_i t s2 e hi
          obtain ⟨h1, h2⟩ := ii hi
          split at h
          · cases h
          · rename_i vs s3 e2 hr
            obtain ⟨h3, h4⟩ := ir hr
            cases h
            exact ⟨fun x hx => h1 x (h3 x hx), fun p q => ⟨h2 p q, h4 (fun h => p (h1 _ h)) (fun h => q (h1 _ h))⟩⟩
    · intro s s1 t d h
      rw [itemR] at h
      split at h
      · cases h
      · rename_i v s2 e ha
        obtain ⟨h1, h2⟩ := it ha
        obtain ⟨p, hp, e⟩ := Option.map_eq_some_iff.1 h
        obtain ⟨h3, h4⟩ := quantR_mem (u := p.1) (s1 := p.2) hp
        cases e
        exact ⟨fun x hx => h1 x (h3 x hx), fun a b => h4 (h2 a b)⟩
    · intro s s1 t d h
      cases s with
      | nil => cases h
      | cons r s =>
        rw [atomR] at h
        split at h
        · split at h
          · cases h
          · rename_i us s2 e ha
            obtain ⟨h1, h2⟩ := ia ha
            split at h
            · cases h
              exact ⟨fun x hx => List.mem_cons_of_mem _ (h1 x (tail_mem hx)), fun p q => many_free (mk := .alt) (fun _ => rfl) (h2 (fun h => p (List.mem_cons_of_mem _ h)) (fun h => q (List.mem_cons_of_mem _ h)))⟩
            · cases h
        split at h
        · obtain ⟨p, hp, e⟩ := Option.map_eq_some_iff.1 h
          have h1 := classR_mem (m := p.1) (s1 := p.2) hp
          cases e
          exact ⟨fun x hx => List.mem_cons_of_mem _ (h1 x hx), fun _ _ => trivial⟩
        split at h
        · cases h; exact ⟨fun x hx => List.mem_cons_of_mem _ hx, fun _ _ => trivial⟩
        split at h
        · rename_i hc
          cases h
          exact ⟨fun x hx => List.mem_cons_of_mem _ hx, fun p _ => (p (by rw [hc]; exact List.mem_cons_self)).elim⟩
        split at h
        · rename_i hc
          cases h
          exact ⟨fun x hx => List.mem_cons_of_mem _ hx, fun _ p => (p (by rw [hc]; exact List.mem_cons_self)).elim⟩
        split at h
        · obtain ⟨p, hp, e⟩ := Option.map_eq_some_iff.1 h
          have h1 := escR_mem (m := p.1) (s1 := p.2) hp
          cases e
          exact ⟨fun x hx => List.mem_cons_of_mem _ (h1 x hx), fun _ _ => trivial⟩
        split at h
        · cases h
        · cases h; exact ⟨fun x hx => List.mem_cons_of_mem _ hx, fun _ _ => trivial⟩
theorem ReadsTo.free {s : List Nat} {t : Re} (h : ReadsTo s t) (h1 : 94 ∉ s) (h2 : 36 ∉ s) : t.free := by
  obtain ⟨ts, d, h3, rfl⟩ := h
  exact many_free (mk := .alt) (fun _ => rfl) (((parse_free _).1 h3).2 h1 h2)

/-- texts laid together, each of which a free pattern matches whole -/
theorem iter_lines {a : Re} (hf : a.free) : ∀ (ls : List (List Nat)) (u : List Nat), (∀ l ∈ ls, wholeB a l = true) → iterR (a.M (u ++ ls.flatten)) ls.length u.length (u ++ ls.flatten).length
  | [], u, _ => by
    show u.length = _
    simp
  | l :: ls, u, h => by
    have h1 := whole_iff.1 (h l (by simp))
    have h2 := iter_lines hf ls (u ++ l) fun x hx => h x (by simp [hx])
    have e : u ++ (l :: ls).flatten = u ++ l ++ ls.flatten := by simp
    rw [e]
    refine ⟨(u ++ l).length, ?_, h2⟩
    have := M_app (u := u) (s := l) (v := ls.flatten) a hf h1 (Nat.zero_le _)
    simpa using this
theorem star_lines {a : Re} (hf : a.free) (ls : List (List Nat)) (h : ∀ l ∈ ls, wholeB a l = true) : wholeB (.rep a 0 none) ls.flatten = true := by
  rw [whole_iff]
  exact ⟨ls.length, Nat.zero_le _, fun m hm => (by cases hm), iter_lines hf ls [] h⟩
theorem times_lines {a : Re} (hf : a.free) (ls : List (List Nat)) (h : ∀ l ∈ ls, wholeB a l = true) : wholeB (.rep a ls.length (some ls.length)) ls.flatten = true := by
  rw [whole_iff]
  exact ⟨ls.length, Nat.le_refl _, fun m hm => (by cases hm; exact Nat.le_refl _), iter_lines hf ls [] h⟩
theorem star_nil {a : Re} : wholeB (.rep a 0 none) [] = true := by
  rw [whole_iff]
  exact ⟨0, Nat.le_refl _, fun m hm => (by cases hm), rfl⟩
end Garner
