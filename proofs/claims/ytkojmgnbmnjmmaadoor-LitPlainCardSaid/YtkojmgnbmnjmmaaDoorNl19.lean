import Derived.Test.YtkojmgnbmnjmmaaDoorNl18
/-! Patterns, plain: a text quoted; classes of two runes -/
namespace Garner
open Go

def specB : Bs := [92, 40, 41, 91, 93, 123, 125, 42, 43, 63, 124, 46, 94, 36]
/-- a text as a pattern of its runes -/
def quoteB (s : Bs) : Bs := s.flatMap fun c => if c ∈ specB then [92, c] else [c]
def quoteR (rs : List Nat) : List Nat := rs.flatMap fun r => if r ∈ specR then [92, r] else [r]
theorem spec_iff (c : UInt8) : c ∈ specB ↔ c.toNat ∈ specR := by
  have h : ∀ d : Nat, d < 256 → ((UInt8.ofNat d) ∈ specB ↔ d ∈ specR) := by decide +kernel
  have := h c.toNat c.toNat_lt
  rwa [UInt8.ofNat_toNat] at this
theorem spec_low : ∀ r ∈ specR, r < 128 := by decide
theorem spec_lowB {c : UInt8} (h : c ∈ specB) : c.toNat < 128 := spec_low _ ((spec_iff c).1 h)
theorem quoteB_app (a b : Bs) : quoteB (a ++ b) = quoteB a ++ quoteB b := List.flatMap_append ..
theorem quoteR_app (a b : List Nat) : quoteR (a ++ b) = quoteR a ++ quoteR b := List.flatMap_append ..
theorem quoteB_high : ∀ {l : Bs}, (∀ c ∈ l, 128 ≤ c.toNat) → quoteB l = l
  | [], _ => rfl
  | c :: l, h => by
    have h1 : c ∉ specB := fun e => by have := spec_lowB e; have := h c (by simp); omega
    show (if c ∈ specB then [92, c] else [c]) ++ quoteB l = _
    rw [if_neg h1, quoteB_high fun x hx => h x (by simp [hx])]
    rfl
theorem quoteR_high : ∀ {l : List Nat}, (∀ c ∈ l, 128 ≤ c) → quoteR l = l
  | [], _ => rfl
  | c :: l, h => by
    have h1 : c ∉ specR := fun e => by have := spec_low _ e; have := h c (by simp); omega
    show (if c ∈ specR then [92, c] else [c]) ++ quoteR l = _
    rw [if_neg h1, quoteR_high fun x hx => h x (by simp [hx])]
    rfl
/-- bytes from 128 on, and what stands behind them -/
theorem high_split (s : Bs) : ∃ h t, s = h ++ t ∧ (∀ c ∈ h, 128 ≤ c.toNat) ∧ (t = [] ∨ (t.getD 0 0).toNat < 128) := by
  induction s with
  | nil => exact ⟨[], [], rfl, by simp, .inl rfl⟩
  | cons c s ih =>
    by_cases hc : c.toNat < 128
    · exact ⟨[], c :: s, rfl, by simp, .inr hc⟩
    · obtain ⟨h, t, e, h1, h2⟩ := ih
      refine ⟨c :: h, t, by rw [e]; rfl, fun x hx => ?_, h2⟩
      rcases List.mem_cons.1 hx with rfl | hx
      · omega
      · exact h1 x hx
theorem valid_parts {h t : Bs} (ht : t = [] ∨ (t.getD 0 0).toNat < 128) : Lib.validD (h ++ t) = (Lib.validD h && Lib.validD t) := by
  by_cases te : t = []
  · subst te; rw [List.append_nil, Lib.validD_nil, Bool.and_true]
  · have h0 : (t.getD 0 0).toNat / 64 ≠ 2 := by have := ht.resolve_left te; omega
    cases hh : Lib.validD h with
    | true => rw [valid_app _ h t (Nat.le_refl _) hh, Bool.true_and]
    | false =>
      rw [Bool.false_and]
      cases hv : Lib.validD (h ++ t) with
      | false => rfl
      | true => rw [valid_left _ h t (Nat.le_refl _) hv te h0] at hh; cases hh
theorem quote_first : ∀ {t : Bs}, (t = [] ∨ (t.getD 0 0).toNat < 128) → (quoteB t = [] ∨ ((quoteB t).getD 0 0).toNat < 128)
  | [], _ => .inl rfl
  | c :: t, h => by
    right
    have hc : c.toNat < 128 := by simpa using h.resolve_left (by simp)
    show (((if c ∈ specB then [92, c] else [c]) ++ quoteB t).getD 0 0).toNat < 128
    split
    · simp
    · simpa using hc
theorem quote_valid : ∀ (n : Nat) (s : Bs), s.length ≤ n → Lib.validD (quoteB s) = Lib.validD s ∧ (Lib.validD s = true → runesP (quoteB s) = quoteR (runesP s))
  | 0, s, hn => by rw [List.eq_nil_of_length_eq_zero (by omega : s.length = 0)]; exact ⟨rfl, fun _ => rfl⟩
  | n + 1, s, hn => by
    cases s with
    | nil => exact ⟨rfl, fun _ => rfl⟩
    | cons c r =>
      by_cases hc : c.toNat < 128
      · obtain ⟨h1, h2⟩ := quote_valid n r (by simpa using hn)
        have e : quoteB (c :: r) = (if c ∈ specB then [92, c] else [c]) ++ quoteB r := rfl
        rw [e, Lib.validD_cons c r hc]
        split
        · rename_i hs
          refine ⟨?_, fun hv => ?_⟩
          · show Lib.validD (92 :: c :: quoteB r) = _
            rw [Lib.validD_cons _ _ (by decide), Lib.validD_cons _ _ hc, h1]
          · show runesP (92 :: c :: quoteB r) = _
            rw [runes_ascii (by decide), runes_ascii hc, runes_ascii hc, h2 hv]
            show _ = (if c.toNat ∈ specR then [92, c.toNat] else [c.toNat]) ++ quoteR _
            rw [if_pos ((spec_iff c).1 hs)]
            rfl
        · rename_i hs
          refine ⟨?_, fun hv => ?_⟩
          · show Lib.validD (c :: quoteB r) = _
            rw [Lib.validD_cons _ _ hc, h1]
          · show runesP (c :: quoteB r) = _
            rw [runes_ascii hc, runes_ascii hc, h2 hv]
            show _ = (if c.toNat ∈ specR then [92, c.toNat] else [c.toNat]) ++ quoteR _
            rw [if_neg fun e => hs ((spec_iff c).2 e)]
            rfl
      · obtain ⟨h, t, e, h1, h2⟩ := high_split (c :: r)
        have hh : h ≠ [] := by
          rintro rfl
          rw [List.nil_append] at e
          rcases h2 with h2 | h2
          · rw [h2] at e; cases e
          · rw [← e] at h2; exact hc h2
        have hp := List.length_pos_iff.2 hh
        have hl := congrArg List.length e
        rw [List.length_append] at hl
        obtain ⟨h3, h4⟩ := quote_valid n t (by omega)
        rw [e, quoteB_app, quoteB_high h1, valid_parts h2, valid_parts (quote_first h2), h3]
        refine ⟨rfl, fun hv => ?_⟩
        rw [Bool.and_eq_true] at hv
        have hq : quoteR (runesP h) = runesP h := quoteR_high fun x hx => by
          rcases Nat.lt_or_ge x 128 with hlt | hge
          · exfalso
            have hxx : (UInt8.ofNat x).toNat = x := by simp; omega
            have := (mem_runes (c := UInt8.ofNat x) (by rw [hxx]; exact hlt) _ h (Nat.le_refl _)).1 (by rw [hxx]; exact hx)
            have := h1 _ this
            omega
          · exact hge
        rw [runes_app _ h _ (Nat.le_refl _) hv.1, runes_app _ h _ (Nat.le_refl _) hv.1, h4 hv.2, quoteR_app, hq]
theorem quote_len (s : Bs) : s.length ≤ (quoteB s).length := by
  induction s with
  | nil => exact Nat.le_refl _
  | cons c s ih =>
    show _ ≤ ((if c ∈ specB then [92, c] else [c]) ++ quoteB s).length
    rw [List.length_append, List.length_cons]
    split <;> simp <;> omega
theorem atom_esc {n r : Nat} {s : List Nat} (h : r ∈ specR) : atomR (n + 1) (92 :: r :: s) = some (.set [r, r], s, 0) := by
  have hne : r ≠ 110 ∧ r ≠ 116 ∧ r ≠ 100 ∧ r ≠ 119 ∧ r ≠ 115 := by
    refine ⟨?_, ?_, ?_, ?_, ?_⟩ <;> (rintro rfl; revert h; decide)
  have e : escR (r :: s) = some ([r, r], s) := by
    rw [escR, if_neg hne.1, if_neg hne.2.1, if_neg hne.2.2.1, if_neg hne.2.2.2.1, if_neg hne.2.2.2.2, if_pos (.inl h)]
  rw [atomR, if_neg (by decide), if_neg (by decide), if_neg (by decide), if_neg (by decide), if_neg (by decide), if_pos rfl, e]
  rfl
theorem atom_lit {n r : Nat} {s : List Nat} (h : r ∉ specR) : atomR (n + 1) (r :: s) = some (.set [r, r], s, 0) := by
  have hne : r ≠ 40 ∧ r ≠ 91 ∧ r ≠ 46 ∧ r ≠ 94 ∧ r ≠ 36 ∧ r ≠ 92 := by
    refine ⟨?_, ?_, ?_, ?_, ?_, ?_⟩ <;> (rintro rfl; exact h (by decide))
  rw [atomR, if_neg hne.1, if_neg hne.2.1, if_neg hne.2.2.1, if_neg hne.2.2.2.1, if_neg hne.2.2.2.2.1, if_neg hne.2.2.2.2.2, if_neg h]
theorem quant_quote {t : Re} {rs : List Nat} : quantR t (quoteR rs) = some (t, quoteR rs) := by
  cases rs with
  | nil => rfl
  | cons r rs =>
    show quantR t ((if r ∈ specR then [92, r] else [r]) ++ quoteR rs) = _
    by_cases h : r ∈ specR
    · rw [show quoteR (r :: rs) = (if r ∈ specR then [92, r] else [r]) ++ quoteR rs from rfl, if_pos h]
      exact quant_none (by decide) (by decide) (by decide) (by decide)
    · rw [show quoteR (r :: rs) = (if r ∈ specR then [92, r] else [r]) ++ quoteR rs from rfl, if_neg h]
      refine quant_none ?_ ?_ ?_ ?_ <;> (rintro rfl; exact h (by decide))
abbrev litS (r : Nat) : Re := .set [r, r]
theorem rows_quote : ∀ (rs : List Nat) (n : Nat), rowsR (n + 2 + rs.length) (quoteR rs) = some (rs.map litS, [], 0)
  | [], n => rows_end (n + 1)
  | r :: rs, n => by
    have ih := rows_quote rs n
    by_cases h : r ∈ specR
    · have e : quoteR (r :: rs) = 92 :: r :: quoteR rs := by
        show (if r ∈ specR then [92, r] else [r]) ++ quoteR rs = _
        rw [if_pos h]; rfl
      rw [e]
      have hi := item_of (atom_esc (n := n + rs.length) (s := quoteR rs) h) quant_quote
      exact rows_cons (n := n + 2 + rs.length) (a := 92) (by decide) (by decide) (by rw [show n + 2 + rs.length = n + rs.length + 1 + 1 by omega]; exact hi) ih
    · have e : quoteR (r :: rs) = r :: quoteR rs := by
        show (if r ∈ specR then [92, r] else [r]) ++ quoteR rs = _
        rw [if_neg h]; rfl
      rw [e]
      have hi := item_of (atom_lit (n := n + rs.length) (s := quoteR rs) h) quant_quote
      refine rows_cons (n := n + 2 + rs.length) ?_ ?_ (by rw [show n + 2 + rs.length = n + rs.length + 1 + 1 by omega]; exact hi) ih <;> (rintro rfl; exact h (by decide))
theorem sizes_lits : ∀ rs : List Nat, sizes (rs.map litS) = rs.length
  | [] => rfl
  | r :: rs => by simp only [List.map_cons, sizes, sizes_lits rs, Re.size, List.length_cons]; omega
theorem quoteR_len (rs : List Nat) : rs.length ≤ (quoteR rs).length := by
  induction rs with
  | nil => exact Nat.le_refl _
  | cons c s ih =>
    show _ ≤ ((if c ∈ specR then [92, c] else [c]) ++ quoteR s).length
    rw [List.length_append, List.length_cons]
    split <;> simp <;> omega
theorem quote_ok (rs : List Nat) (h : rs.length ≤ 900) : readR (quoteR rs) = .ok (rowOf (rs.map litS)) := by
  have hl := quoteR_len rs
  obtain ⟨n, hn⟩ : ∃ n, 4 * (quoteR rs).length + 4 = n + 2 + rs.length + 1 := ⟨4 * (quoteR rs).length + 1 - rs.length, by omega⟩
  have := rowOf_size (rs.map litS)
  rw [sizes_lits] at this
  exact read_mk (ts := [rowOf (rs.map litS)]) (d := 0) (by rw [hn]; exact alts_one (rows_quote rs n)) (by omega) (by show (rowOf _).size ≤ _; omega)
/-- rexp.Parse of a quoted text -/
theorem quote_parse (s : Bs) : rexpP (quoteB s) = if 128 < (quoteB s).length then .error 4 else if Lib.validD s = false then .error 8 else .ok (rowOf ((runesP s).map litS)) := by
  unfold rexpP
  split
  · rfl
  · rename_i hl
    obtain ⟨h1, h2⟩ := quote_valid _ s (Nat.le_refl _)
    rw [h1]
    split
    · rfl
    · rename_i hv
      have := quote_len s
      have := runes_len _ s (Nat.le_refl _)
      rw [h2 (by simpa using hv), quote_ok _ (by omega)]

section
variable {l : List Nat}
theorem lit_has {r x : Nat} : hasR [r, r] x = true ↔ x = r := by
  simp [hasR]; omega
theorem Ms_lits : ∀ {rs : List Nat} {i j : Nat}, Ms l (rs.map litS) i j ↔ j = i + rs.length ∧ ∀ m x, rs[m]? = some x → l[i + m]? = some x
  | [], i, j => by
    constructor
    · intro h
      have h : i = j := h
      exact ⟨by simp [h], fun m x hx => by simp at hx⟩
    · rintro ⟨rfl, -⟩; rfl
  | r :: rs, i, j => by
    constructor
    · rintro ⟨k, ⟨rfl, x, hx, hh⟩, h2⟩
      obtain ⟨rfl, h3⟩ := Ms_lits.1 h2
      have := lit_has.1 hh
      subst this
      refine ⟨by simp; omega, fun m y hy => ?_⟩
      cases m with
      | zero => simp at hy; rw [← hy]; exact hx
      | succ m =>
        have := h3 m y (by simpa using hy)
        rwa [show i + 1 + m = i + (m + 1) by omega] at this
    · rintro ⟨rfl, h⟩
      refine ⟨i + 1, ⟨rfl, r, h 0 r rfl, lit_has.2 rfl⟩, Ms_lits.2 ⟨by simp; omega, fun m x hx => ?_⟩⟩
      have := h (m + 1) x (by simpa using hx)
      rwa [show i + (m + 1) = i + 1 + m by omega] at this
theorem lits_whole {rs : List Nat} : wholeB (rowOf (rs.map litS)) l = true ↔ l = rs := by
  rw [whole_iff, rowOf_M, Ms_lits]
  constructor
  · rintro ⟨h1, h2⟩
    refine List.ext_getElem (by omega) fun m h3 h4 => ?_
    have := h2 m _ (List.getElem?_eq_getElem h4)
    rw [Nat.zero_add, List.getElem?_eq_getElem h3] at this
    exact Option.some.inj this
  · rintro rfl
    exact ⟨by omega, fun m x hx => by rw [Nat.zero_add]; exact hx⟩
theorem lits_part {rs : List Nat} : partB (rowOf (rs.map litS)) l = true ↔ ∃ u v, l = u ++ rs ++ v := by
  rw [part_iff]
  constructor
  · rintro ⟨i, j, hi, h⟩
    have hj := M_le _ h hi
    rw [rowOf_M, Ms_lits] at h
    obtain ⟨rfl, h⟩ := h
    refine ⟨l.take i, l.drop (i + rs.length), ?_⟩
    have e : rs = (l.drop i).take rs.length := by
      refine List.ext_getElem? fun m => ?_
      rw [List.getElem?_take]
      split
      · rename_i hm
        rw [List.getElem?_drop, List.getElem?_eq_getElem hm]
        exact (h m _ (List.getElem?_eq_getElem hm)).symm
      · rename_i hm
        exact List.getElem?_eq_none (by omega)
    conv => rhs; lhs; rhs; rw [e]
    rw [List.append_assoc, ← List.drop_drop, List.take_append_drop, List.take_append_drop]
  · rintro ⟨u, v, rfl⟩
    refine ⟨u.length, u.length + rs.length, by simp, ?_⟩
    rw [rowOf_M, Ms_lits]
    refine ⟨rfl, fun m x hx => ?_⟩
    exact at_app hx
end
end Garner
