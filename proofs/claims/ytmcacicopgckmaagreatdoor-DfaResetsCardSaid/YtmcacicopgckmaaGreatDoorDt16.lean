import Derived.Test.YtmcacicopgckmaaGreatDoorDt14
import Derived.Test.YtmcacicopgckmaaGreatDoorDt09
import Derived.Test.YtmcacicopgckmaaGreatDoorDt15
/-! Patterns, plain: the laws of patterns that are put together -/
namespace Garner
open Go

noncomputable def wholeB (t : Re) (s : List Nat) : Bool := @decide (t.M s 0 s.length) (Classical.propDecidable _)
noncomputable def partB (t : Re) (s : List Nat) : Bool := @decide (∃ i j, i ≤ s.length ∧ t.M s i j) (Classical.propDecidable _)
theorem whole_iff {t : Re} {s : List Nat} : wholeB t s = true ↔ t.M s 0 s.length := @decide_eq_true_iff _ (Classical.propDecidable _)
theorem part_iff {t : Re} {s : List Nat} : partB t s = true ↔ ∃ i j, i ≤ s.length ∧ t.M s i j := @decide_eq_true_iff _ (Classical.propDecidable _)
theorem iter_le {R : Nat → Nat → Prop} {m : Nat} (h : ∀ {i j}, R i j → i ≤ m → i ≤ j ∧ j ≤ m) : ∀ n {i j}, iterR R n i j → i ≤ m → i ≤ j ∧ j ≤ m
  | 0, i, j, e, hi => by
    have e : i = j := e
    omega
  | n + 1, i, j, ⟨k, h1, h2⟩, hi => by
    have h3 := h h1 hi
    have h4 := iter_le h n h2 h3.2
    omega
mutual
theorem M_le {s : List Nat} : ∀ (t : Re) {i j : Nat}, t.M s i j → i ≤ s.length → i ≤ j ∧ j ≤ s.length
  | .emp, i, j, h, hi => by
    have e : i = j := h
    omega
  | .set l, i, j, h, hi => by
    obtain ⟨e, r, hr, -⟩ := h
    have := (List.getElem?_eq_some_iff.1 hr).1
    omega
  | .seq l, i, j, h, hi => Ms_le l h hi
  | .alt l, i, j, h, hi => Ma_le l h hi
  | .rep k mn mx, i, j, h, hi => by
    obtain ⟨n, -, -, h⟩ := h
    have hk : ∀ {i j}, k.M s i j → i ≤ s.length → i ≤ j ∧ j ≤ s.length := fun h hi => M_le k h hi
    exact iter_le hk n h hi
  | .bgn, i, j, h, hi => by
    have e : i = j := h.1
    omega
  | .fin, i, j, h, hi => by
    have e : i = j := h.1
    omega
theorem Ms_le {s : List Nat} : ∀ (l : List Re) {i j : Nat}, Ms s l i j → i ≤ s.length → i ≤ j ∧ j ≤ s.length
  | [], i, j, h, hi => by
    have e : i = j := h
    omega
  | t :: ts, i, j, ⟨k, h1, h2⟩, hi => by
    have h3 := M_le t h1 hi
    have h4 := Ms_le ts h2 h3.2
    omega
theorem Ma_le {s : List Nat} : ∀ (l : List Re) {i j : Nat}, Ma s l i j → i ≤ s.length → i ≤ j ∧ j ≤ s.length
  | [], i, j, h, hi => h.elim
  | t :: ts, i, j, h, hi => by
    rcases h with h | h
    · exact M_le t h hi
    · exact Ma_le ts h hi
end

/-- a pattern that was read -/
def ReadsTo (s : List Nat) (t : Re) : Prop := ∃ ts d, altsR (4 * s.length + 4) s = some (ts, [], d) ∧ t = manyR .alt ts
theorem read_ok {s : List Nat} {t : Re} (h : readR s = .ok t) : ReadsTo s t := by
  unfold readR at h
  split at h
  · cases h
  · rename_i ts rest d e
    split at h
    · cases h
    · rename_i hr
      split at h
      · cases h
      · split at h
        · cases h
        · cases h
          have : rest = [] := Classical.byContradiction hr
          subst this
          exact ⟨ts, d, e, rfl⟩
/-- what else may come is a refusal -/
theorem read_of {s : List Nat} {ts : List Re} {d : Nat} {c : Re} (h : altsR (4 * s.length + 4) s = some (ts, [], d)) (hc : readR s = .ok c) : c = manyR .alt ts := by
  obtain ⟨us, e, h2, h3⟩ := read_ok hc
  rw [h] at h2
  cases h2
  exact h3
theorem ReadsTo.ok {s : List Nat} {t : Re} (h : ReadsTo s t) : t.ok := by
  obtain ⟨ts, d, h1, rfl⟩ := h
  obtain ⟨-, h2, h3⟩ := (parse_cnt _).1 h1
  exact many_ok h2 (fun h hne => ⟨hne, h⟩) h3
/-- a pattern in brackets -/
theorem atom_paren {s : List Nat} {t : Re} (h : ReadsTo s t) : ∃ d, ∀ (rest : List Nat) (n : Nat), 4 * s.length + 5 ≤ n → atomR n (40 :: (s ++ 41 :: rest)) = some (t, rest, d) := by
  obtain ⟨ts, d, h1, rfl⟩ := h
  refine ⟨d + 1, fun rest n hn => ?_⟩
  obtain ⟨k, rfl⟩ : ∃ k, n = k + 1 := ⟨n - 1, by omega⟩
  have h2 : altsR k s = some (ts, [], d) := by rw [alts_fuel (Nat.le_refl _) (by omega)]; exact h1
  have h3 := (parse_app (u := 41 :: rest) (.inr rfl) k).1 h2
  rw [atomR, if_pos rfl, h3]
  simp
theorem item_paren {s : List Nat} {t : Re} (h : ReadsTo s t) : ∃ d, ∀ (rest : List Nat) (n : Nat), 4 * s.length + 6 ≤ n → itemR n (40 :: (s ++ 41 :: rest)) = (quantR t rest).map fun p => (p.1, p.2, d) := by
  obtain ⟨d, h1⟩ := atom_paren h
  refine ⟨d, fun rest n hn => ?_⟩
  obtain ⟨k, rfl⟩ : ∃ k, n = k + 1 := ⟨n - 1, by omega⟩
  rw [itemR, h1 rest k (by omega)]
/-- a row's steps -/
theorem rows_end (n : Nat) : rowsR (n + 1) [] = some ([], [], 0) := by rw [rowsR, if_pos (.inl rfl)]
theorem rows_bar (n : Nat) (r : List Nat) : rowsR (n + 1) (124 :: r) = some ([], 124 :: r, 0) := by rw [rowsR, if_pos (.inr (.inl rfl))]
theorem rows_cons {n a : Nat} {r s1 : List Nat} {t : Re} {d : Nat} (h1 : a ≠ 124) (h2 : a ≠ 41) (h : itemR n (a :: r) = some (t, s1, d)) {ts : List Re} {s2 : List Nat} {e : Nat} (h3 : rowsR n s1 = some (ts, s2, e)) : rowsR (n + 1) (a :: r) = some (t :: ts, s2, max d e) := by
  have hc : ¬ (a :: r = [] ∨ (a :: r).head? = some 124 ∨ (a :: r).head? = some 41) := by simp [h1, h2]
  rw [rowsR, if_neg hc, h]
  dsimp only
  rw [h3]
theorem alts_one {n : Nat} {s : List Nat} {ts : List Re} {d : Nat} (h : rowsR n s = some (ts, [], d)) : altsR (n + 1) s = some ([rowOf ts], [], d) := by
  rw [altsR, h]; rfl
theorem alts_more {n : Nat} {s r s2 : List Nat} {ts us : List Re} {d e : Nat} (h : rowsR n s = some (ts, 124 :: r, d)) (h2 : altsR n r = some (us, s2, e)) : altsR (n + 1) s = some (rowOf ts :: us, s2, max d e) := by
  rw [altsR, h]
  dsimp only
  rw [if_pos (show (124 :: r).head? = some 124 from rfl), List.tail_cons, h2]
theorem atom_dot (n : Nat) (r : List Nat) : atomR (n + 1) (46 :: r) = some (.set [0, 9, 11, 1114111], r, 0) := by
  rw [atomR, if_neg (by decide), if_neg (by decide), if_pos rfl]
theorem atom_bgn (n : Nat) (r : List Nat) : atomR (n + 1) (94 :: r) = some (.bgn, r, 0) := by
  rw [atomR, if_neg (by decide), if_neg (by decide), if_neg (by decide), if_pos rfl]
theorem atom_fin (n : Nat) (r : List Nat) : atomR (n + 1) (36 :: r) = some (.fin, r, 0) := by
  rw [atomR, if_neg (by decide), if_neg (by decide), if_neg (by decide), if_neg (by decide), if_pos rfl]
theorem item_of {n : Nat} {s s1 s2 : List Nat} {t u : Re} {d : Nat} (h : atomR n s = some (t, s1, d)) (hq : quantR t s1 = some (u, s2)) : itemR (n + 1) s = some (u, s2, d) := by
  rw [itemR, h]
  dsimp only
  rw [hq]; rfl
theorem quant_none {t : Re} {a : Nat} {r : List Nat} (h1 : a ≠ 42) (h2 : a ≠ 43) (h3 : a ≠ 63) (h4 : a ≠ 123) : quantR t (a :: r) = some (t, a :: r) := by
  rw [quantR, if_neg h1, if_neg h2, if_neg h3, if_neg h4]
theorem quant_star {t : Re} {r : List Nat} : quantR t (42 :: r) = some (.rep t 0 none, r) := by rw [quantR, if_pos rfl]
/-- (s)|(t) -/
theorem alt_read {s t : List Nat} {a b c : Re} (hs : ReadsTo s a) (ht : ReadsTo t b) (h : readR (40 :: (s ++ 41 :: 124 :: 40 :: (t ++ [41]))) = .ok c) : c = .alt [a, b] := by
  obtain ⟨d, h1⟩ := item_paren hs
  obtain ⟨e, h2⟩ := item_paren ht
  obtain ⟨n, hn⟩ : ∃ n, 4 * (40 :: (s ++ 41 :: 124 :: 40 :: (t ++ [41]))).length + 4 = n + 4 := ⟨_, rfl⟩
  have hl : (40 :: (s ++ 41 :: 124 :: 40 :: (t ++ [41]))).length = s.length + t.length + 5 := by simp only [List.length_cons, List.length_append, List.length_nil]; omega
  have i1 := h1 (124 :: 40 :: (t ++ [41])) (n + 2) (by omega)
  rw [quant_none (by decide) (by decide) (by decide) (by decide)] at i1
  simp only [Option.map_some] at i1
  have i2 := h2 [] (n + 1) (by omega)
  have r2 := alts_one (rows_cons (by decide) (by decide) i2 (rows_end n))
  have r1 := alts_more (rows_cons (by decide) (by decide) i1 (rows_bar (n + 1) _)) r2
  exact read_of (by rw [hn]; exact r1) h
/-- ^(s)$ -/
theorem ends_read {s : List Nat} {a c : Re} (hs : ReadsTo s a) (h : readR (94 :: 40 :: (s ++ 41 :: [36])) = .ok c) : c = .seq [.bgn, a, .fin] := by
  obtain ⟨d, h1⟩ := item_paren hs
  obtain ⟨n, hn⟩ : ∃ n, 4 * (94 :: 40 :: (s ++ 41 :: [36])).length + 4 = n + 6 := ⟨4 * (94 :: 40 :: (s ++ 41 :: [36])).length - 2, by simp; omega⟩
  have hl : (94 :: 40 :: (s ++ 41 :: [36])).length = s.length + 4 := by simp
  have i1 := h1 [36] (n + 3) (by omega)
  rw [quant_none (by decide) (by decide) (by decide) (by decide)] at i1
  simp only [Option.map_some] at i1
  have r3 := rows_cons (by decide) (by decide) (item_of (atom_fin n []) rfl) (rows_end (n + 1))
  have r2 := rows_cons (by decide) (by decide) i1 r3
  have r1 := rows_cons (by decide) (by decide) (item_of (atom_bgn (n + 2) (40 :: (s ++ 41 :: [36]))) (quant_none (by decide) (by decide) (by decide) (by decide))) r2
  exact read_of (by rw [hn]; exact alts_one r1) h
/-- .*(s).* -/
theorem dots_read {s : List Nat} {a c : Re} (hs : ReadsTo s a) (h : readR (46 :: 42 :: 40 :: (s ++ 41 :: [46, 42])) = .ok c) : c = .seq [.rep (.set [0, 9, 11, 1114111]) 0 none, a, .rep (.set [0, 9, 11, 1114111]) 0 none] := by
  obtain ⟨d, h1⟩ := item_paren hs
  obtain ⟨n, hn⟩ : ∃ n, 4 * (46 :: 42 :: 40 :: (s ++ 41 :: [46, 42])).length + 4 = n + 6 := ⟨4 * (46 :: 42 :: 40 :: (s ++ 41 :: [46, 42])).length - 2, by simp; omega⟩
  have hl : (46 :: 42 :: 40 :: (s ++ 41 :: [46, 42])).length = s.length + 6 := by simp
  have i1 := h1 [46, 42] (n + 3) (by omega)
  rw [quant_none (by decide) (by decide) (by decide) (by decide)] at i1
  simp only [Option.map_some] at i1
  have r3 := rows_cons (by decide) (by decide) (item_of (atom_dot n [42]) quant_star) (rows_end (n + 1))
  have r2 := rows_cons (by decide) (by decide) i1 r3
  have r1 := rows_cons (by decide) (by decide) (item_of (atom_dot (n + 2) (42 :: 40 :: (s ++ 41 :: [46, 42]))) quant_star) r2
  exact read_of (by rw [hn]; exact alts_one r1) h
/-- (s)* -/
theorem star_read {s : List Nat} {a c : Re} (hs : ReadsTo s a) (h : readR (40 :: (s ++ 41 :: [42])) = .ok c) : c = .rep a 0 none := by
  obtain ⟨d, h1⟩ := item_paren hs
  obtain ⟨n, hn⟩ : ∃ n, 4 * (40 :: (s ++ 41 :: [42])).length + 4 = n + 3 := ⟨4 * (40 :: (s ++ 41 :: [42])).length + 1, by omega⟩
  have hl : (40 :: (s ++ 41 :: [42])).length = s.length + 3 := by simp
  have i1 := h1 [42] (n + 1) (by omega)
  rw [quant_star] at i1
  simp only [Option.map_some] at i1
  have r1 := rows_cons (by decide) (by decide) i1 (rows_end n)
  exact read_of (by rw [hn]; exact alts_one r1) h
/-- (s){k} -/
theorem times_read {s : List Nat} {a c : Re} {k : Nat} (hs : ReadsTo s a) (hk : k ≤ 8) (h : readR (40 :: (s ++ 41 :: [123, 48 + k, 125])) = .ok c) : c = .rep a k (some k) := by
  obtain ⟨d, h1⟩ := item_paren hs
  obtain ⟨n, hn⟩ : ∃ n, 4 * (40 :: (s ++ 41 :: [123, 48 + k, 125])).length + 4 = n + 3 := ⟨4 * (40 :: (s ++ 41 :: [123, 48 + k, 125])).length + 1, by omega⟩
  have hl : (40 :: (s ++ 41 :: [123, 48 + k, 125])).length = s.length + 5 := by simp
  have i1 := h1 [123, 48 + k, 125] (n + 1) (by omega)
  have hd : digR [48 + k, 125] = some (k, [125]) := by
    rw [digR, if_pos ⟨by omega, by omega⟩, Nat.add_sub_cancel_left]
  have hq : quantR a [123, 48 + k, 125] = some (.rep a k (some k), []) := by
    rw [quantR, if_neg (by decide), if_neg (by decide), if_neg (by decide), if_pos rfl, hd]
    rfl
  rw [hq] at i1
  simp only [Option.map_some] at i1
  have r1 := rows_cons (by decide) (by decide) i1 (rows_end n)
  exact read_of (by rw [hn]; exact alts_one r1) h

section
variable {s : List Nat} {a b : Re}
theorem alt_whole : wholeB (.alt [a, b]) s = (wholeB a s || wholeB b s) := by
  rw [Bool.eq_iff_iff, Bool.or_eq_true, whole_iff, whole_iff, whole_iff]
  exact ⟨fun h => h.elim .inl fun h => h.elim .inr False.elim, fun h => h.elim .inl fun h => .inr (.inl h)⟩
theorem alt_part : partB (.alt [a, b]) s = (partB a s || partB b s) := by
  rw [Bool.eq_iff_iff, Bool.or_eq_true, part_iff, part_iff, part_iff]
  constructor
  · rintro ⟨i, j, hi, h | h | h⟩
    · exact .inl ⟨i, j, hi, h⟩
    · exact .inr ⟨i, j, hi, h⟩
    · exact h.elim
  · rintro (⟨i, j, hi, h⟩ | ⟨i, j, hi, h⟩)
    · exact ⟨i, j, hi, .inl h⟩
    · exact ⟨i, j, hi, .inr (.inl h)⟩
theorem ends_M {i j : Nat} : (Re.seq [.bgn, a, .fin]).M s i j ↔ i = 0 ∧ j = s.length ∧ a.M s 0 s.length := by
  constructor
  · rintro ⟨k, ⟨h1, h2⟩, m, h3, l, ⟨h4, h5⟩, h6⟩
    have h6 : l = j := h6
    subst h1 h2 h4 h5 h6
    exact ⟨rfl, rfl, h3⟩
  · rintro ⟨rfl, rfl, h⟩
    exact ⟨0, ⟨rfl, rfl⟩, _, h, _, ⟨rfl, rfl⟩, rfl⟩
theorem ends_whole : wholeB (.seq [.bgn, a, .fin]) s = wholeB a s := by
  rw [Bool.eq_iff_iff, whole_iff, whole_iff, ends_M]
  exact ⟨fun h => h.2.2, fun h => ⟨rfl, rfl, h⟩⟩
theorem ends_part : partB (.seq [.bgn, a, .fin]) s = wholeB a s := by
  rw [Bool.eq_iff_iff, whole_iff, part_iff]
  exact ⟨fun ⟨i, j, _, h⟩ => (ends_M.1 h).2.2, fun h => ⟨0, s.length, Nat.zero_le _, ends_M.2 ⟨rfl, rfl, h⟩⟩⟩
theorem dot_has {r : Nat} (h : r ≠ 10) (hr : r ≤ 1114111) : hasR [0, 9, 11, 1114111] r = true := by
  simp [hasR]; omega
theorem has_dot {r : Nat} (h : hasR [0, 9, 11, 1114111] r = true) : r ≠ 10 := by
  rintro rfl
  revert h; decide
theorem dots_iter (hs : ∀ r ∈ s, r ≠ 10 ∧ r ≤ 1114111) : ∀ (n i : Nat), i + n ≤ s.length → iterR ((Re.set [0, 9, 11, 1114111]).M s) n i (i + n)
  | 0, i, _ => rfl
  | n + 1, i, h => by
    obtain ⟨r, hr⟩ : ∃ r, s[i]? = some r := ⟨_, List.getElem?_eq_getElem (by omega)⟩
    have hm := hs r (List.mem_of_getElem? hr)
    refine ⟨i + 1, ⟨rfl, r, hr, dot_has hm.1 hm.2⟩, ?_⟩
    have := dots_iter hs n (i + 1) (by omega)
    rwa [show i + 1 + n = i + (n + 1) by omega] at this
theorem dots_all (hs : ∀ r ∈ s, r ≠ 10 ∧ r ≤ 1114111) {i j : Nat} (h : i ≤ j) (hj : j ≤ s.length) : (Re.rep (.set [0, 9, 11, 1114111]) 0 none).M s i j := by
  refine ⟨j - i, Nat.zero_le _, fun m hm => (by cases hm), ?_⟩
  have := dots_iter hs (j - i) i (by omega)
  rwa [show i + (j - i) = j by omega] at this
theorem dots_whole (hs : ∀ r ∈ s, r ≠ 10 ∧ r ≤ 1114111) : wholeB (.seq [.rep (.set [0, 9, 11, 1114111]) 0 none, a, .rep (.set [0, 9, 11, 1114111]) 0 none]) s = partB a s := by
  rw [Bool.eq_iff_iff, whole_iff, part_iff]
  constructor
  · rintro ⟨i, h1, j, h2, -⟩
    exact ⟨i, j, (M_le _ h1 (Nat.zero_le _)).2, h2⟩
  · rintro ⟨i, j, hi, h⟩
    have := M_le a h hi
    exact ⟨i, dots_all hs (Nat.zero_le _) hi, j, h, _, dots_all hs this.2 (Nat.le_refl _), rfl⟩
end
theorem at_app {u s v : List Nat} {i r : Nat} (h : s[i]? = some r) : (u ++ s ++ v)[u.length + i]? = some r := by
  have hi := (List.getElem?_eq_some_iff.1 h).1
  rw [List.append_assoc, List.getElem?_append_right (by omega), Nat.add_sub_cancel_left, List.getElem?_append_left hi, h]
/-- a rune below 128 stands among the runes where the byte does -/
theorem mem_runes {c : UInt8} (hc : c.toNat < 128) : ∀ (n : Nat) (l : Bs), l.length ≤ n → (c.toNat ∈ runesP l ↔ c ∈ l)
  | 0, l, hn => by rw [List.eq_nil_of_length_eq_zero (by omega : l.length = 0)]; simp [runes_nil]
  | n + 1, l, hn => by
    cases l with
    | nil => simp [runes_nil]
    | cons b r =>
      by_cases hb : b.toNat < 128
      · rw [runes_ascii hb, List.mem_cons, List.mem_cons, mem_runes hc n r (by simpa using hn)]
        constructor
        · rintro (h | h)
          · exact .inl (UInt8.toNat_inj.1 h)
          · exact .inr h
        · rintro (h | h)
          · exact .inl (by rw [h])
          · exact .inr h
      · have hl : (b :: r) ≠ [] := by simp
        have hw := Lib.decodeL_width (b :: r)
        have hle := Lib.decodeL_le (b :: r) hl
        have ih := mem_runes hc n ((b :: r).drop (Lib.decodeL (b :: r)).2) (by rw [List.length_drop]; simp at hn ⊢; omega)
        rw [runes_step hl, List.mem_cons, ih]
        have h1 := decode_high (l := b :: r) (by simpa using hb)
        have h2 : c ∈ (b :: r) ↔ c ∈ (b :: r).drop (Lib.decodeL (b :: r)).2 := by
          conv => lhs; rw [← List.take_append_drop (Lib.decodeL (b :: r)).2 (b :: r)]
          rw [List.mem_append]
          constructor
          · rintro (h | h)
            · exfalso
              obtain ⟨k, hk, e⟩ := List.mem_iff_getElem.1 h
              rw [List.length_take] at hk
              have e2 : (b :: r).getD k 0 = c := by
                rw [← e]
                simp [List.getD, List.getElem?_eq_getElem (show k < (b :: r).length by omega)]
              have := h1.2 k (by omega)
              rw [e2] at this; omega
            · exact h
          · exact .inr
        rw [h2]
        constructor
        · rintro (h | h)
          · have := h1.1; omega
          · exact h
        · exact .inr
end Garner
