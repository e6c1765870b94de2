import Derived.Test.YtmcacicopgckmaaGreatDoorDt22
import Derived.Test.YtmcacicopgckmaaGreatDoorDt17
import Derived.Test.YtmcacicopgckmaaGreatDoorDt29
import Derived.Lib.IndexMore
import Derived.Lib.RuneBytes
/-! Patterns, plain: patterns that are put together, as texts -/
namespace Garner
open Go
theorem rexp_ok {l : Bs} {t : Re} (h : rexpP l = .ok t) : Lib.validD l = true ∧ readR (runesP l) = .ok t := by
  unfold rexpP at h
  split at h
  · cases h
  split at h
  · cases h
  · rename_i hv
    exact ⟨by simpa using hv, h⟩
theorem asc1 (c : UInt8) (h : c.toNat < 128 := by decide) (l : Bs) : runesP (c :: l) = c.toNat :: runesP l := runes_ascii h l
theorem app1 {a : Bs} (h : Lib.validD a = true) (b : Bs) : runesP (a ++ b) = runesP a ++ runesP b := runes_app _ a b (Nat.le_refl _) h
theorem alt_parse {s t : Bs} {a b c : Re} (hs : rexpP s = .ok a) (ht : rexpP t = .ok b) (h : rexpP (40 :: (s ++ 41 :: 124 :: 40 :: (t ++ [41]))) = .ok c) : c = .alt [a, b] := by
  obtain ⟨v1, r1⟩ := rexp_ok hs
  obtain ⟨v2, r2⟩ := rexp_ok ht
  obtain ⟨v3, r3⟩ := rexp_ok h
  rw [asc1 40, app1 v1, asc1 41, asc1 124, asc1 40, app1 v2, asc1 41, runes_nil] at r3
  exact alt_read (read_ok r1) (read_ok r2) r3
theorem ends_parse {s : Bs} {a c : Re} (hs : rexpP s = .ok a) (h : rexpP (94 :: 40 :: (s ++ 41 :: [36])) = .ok c) : c = .seq [.bgn, a, .fin] := by
  obtain ⟨v1, r1⟩ := rexp_ok hs
  obtain ⟨v3, r3⟩ := rexp_ok h
  rw [asc1 94, asc1 40, app1 v1, asc1 41, asc1 36, runes_nil] at r3
  exact ends_read (read_ok r1) r3
theorem dots_parse {s : Bs} {a c : Re} (hs : rexpP s = .ok a) (h : rexpP (46 :: 42 :: 40 :: (s ++ 41 :: [46, 42])) = .ok c) : c = .seq [.rep (.set [0, 9, 11, 1114111]) 0 none, a, .rep (.set [0, 9, 11, 1114111]) 0 none] := by
  obtain ⟨v1, r1⟩ := rexp_ok hs
  obtain ⟨v3, r3⟩ := rexp_ok h
  rw [asc1 46, asc1 42, asc1 40, app1 v1, asc1 41, asc1 46, asc1 42, runes_nil] at r3
  exact dots_read (read_ok r1) r3
theorem star_parse {s : Bs} {a c : Re} (hs : rexpP s = .ok a) (h : rexpP (40 :: (s ++ 41 :: [42])) = .ok c) : c = .rep a 0 none := by
  obtain ⟨v1, r1⟩ := rexp_ok hs
  obtain ⟨v3, r3⟩ := rexp_ok h
  rw [asc1 40, app1 v1, asc1 41, asc1 42, runes_nil] at r3
  exact star_read (read_ok r1) r3
theorem dig_nat {k : Nat} (hk : k ≤ 8) : (UInt8.ofNat (48 + k)).toNat = 48 + k := by
  rw [UInt8.toNat_ofNat']; omega
theorem times_parse {s : Bs} {a c : Re} {k : Nat} (hk : k ≤ 8) (hs : rexpP s = .ok a) (h : rexpP (40 :: (s ++ 41 :: [123, UInt8.ofNat (48 + k), 125])) = .ok c) : c = .rep a k (some k) := by
  obtain ⟨v1, r1⟩ := rexp_ok hs
  obtain ⟨v3, r3⟩ := rexp_ok h
  have hd := dig_nat hk
  rw [asc1 40, app1 v1, asc1 41, asc1 123, asc1 (UInt8.ofNat (48 + k)) (by omega), asc1 125, runes_nil, hd] at r3
  exact times_read (read_ok r1) hk r3
theorem enc_low (r : Nat) (h : r < 128) : Lib.encodeRune (r : Int) = [UInt8.ofNat r] := by
  unfold Lib.encodeRune
  rw [Lib.encodeRuneZ_one (by omega) (by omega)]
  simp
theorem contains_iff {l p : Bs} : Lib.contains l p = true ↔ ∃ a b, l = a ++ p ++ b := by
  unfold Lib.contains
  rw [decide_eq_true_iff]
  rcases Lib.index_spec l p with ⟨h1, h2⟩ | ⟨i, h1, h2, h3, -⟩
  · rw [h1]
    constructor
    · intro h; omega
    · rintro ⟨a, b, e⟩
      have := h2 a.length (by rw [e]; simp)
      rw [e] at this
      unfold Lib.occAt at this
      rw [List.append_assoc, List.drop_left] at this
      rw [List.isPrefixOf_iff_prefix.2 ⟨b, rfl⟩] at this
      cases this
  · rw [h1]
    refine ⟨fun _ => ?_, fun _ => by omega⟩
    unfold Lib.occAt at h3
    obtain ⟨t, ht⟩ := List.isPrefixOf_iff_prefix.1 h3
    exact ⟨l.take i, t, by rw [List.append_assoc, ht, List.take_append_drop]⟩
theorem contains_one {l : Bs} {c : UInt8} : Lib.contains l [c] = true ↔ c ∈ l := by
  rw [contains_iff]
  constructor
  · rintro ⟨a, b, rfl⟩; simp
  · intro h
    obtain ⟨a, b, rfl⟩ := List.append_of_mem h
    exact ⟨a, b, by simp⟩
/-- an ASCII sign in a text -/
theorem has_sign {l : Bs} {c : UInt8} (h : c.toNat < 128) : Lib.contains l [c] = decide (c.toNat ∈ runesP l) := by
  rw [Bool.eq_iff_iff, contains_one, decide_eq_true_iff, mem_runes h _ l (Nat.le_refl _)]
theorem has_lf (l : Bs) : Lib.contains l [10] = decide ((10 : Nat) ∈ runesP l) := has_sign (c := 10) (by decide)
theorem lf_nolf {l : Bs} (h : Lib.contains l [10] = false) : ∀ r ∈ runesP l, r ≠ 10 ∧ r ≤ 1114111 := fun r hr => by
  rw [has_lf, decide_eq_false_iff_not] at h
  exact ⟨fun e => h (by rw [← e]; exact hr), runes_le _ l (Nat.le_refl _) r hr⟩
end Garner
