import Derived.Test.YtmalkgakdmghiaaPa32
/-! layer 11: BinarySearch, And at short rows; Same -/
namespace Go.Proofs.Ytmalkgakdmghiaa
open Go.RowKit Go.Shelf Go.Lib Go.Sort Garner

theorem mem_at {l : List Nat} (hp : l.Pairwise (· < ·)) {x i : Nat} (hi : ∀ a, a < i → ∀ y, l[a]? = some y → y < x) (hj : ∀ a, i ≤ a → ∀ y, l[a]? = some y → x ≤ y) : x ∈ l ↔ l[i]? = some x := by
  constructor
  · intro h
    obtain ⟨a, ha, e⟩ := List.mem_iff_getElem.1 h
    have h1 : l[a]? = some x := by rw [List.getElem?_eq_getElem ha, e]
    rcases Nat.lt_trichotomy a i with h2 | h2 | h2
    · exact absurd (hi a h2 x h1) (Nat.lt_irrefl _)
    · rw [← h2]; exact h1
    · have h3 := List.pairwise_iff_getElem.1 hp i a (by omega) ha h2
      have h4 := hj i (Nat.le_refl _) l[i] (List.getElem?_eq_getElem (by omega))
      omega
  · intro h
    exact List.mem_of_getElem? h

theorem sIsNaN (x : Int) (w : World) : Calls Try.prog 37 #[.int .u64 x] w fun e w' => e = .returned (.bool false) ∧ w' = w := by
  go_enter Try.func37, Try.ntmps37
  go_wp2
  go_ret
  exact ⟨by simp, rfl⟩
set_option maxRecDepth 100000 in
set_option maxHeartbeats 4000000 in
theorem vBin (l : List Nat) (x c B : Nat) (A : Option Addr) (w : World) (hr : Row w B 1 A l.length (l.map u64v)) (hp : l.Pairwise (· < ·)) (hl : l.length ≤ 35184372088832) :
    Calls Try.prog 25 #[.slice A l.length c, .int .u64 x] w fun e w' => (∃ i : Int, e = .returned (.tuple #[.int .i64 i, .bool (decide (x ∈ l))])) ∧ w' = w := by
  obtain ⟨n, hn⟩ : ∃ n, n = l.length := ⟨_, rfl⟩
  rw [← hn] at hl hr ⊢
  have Hn := Lib.hid hn; clear hn
  go_enter Try.func25, Try.ntmps25
  go_wp2
  go_loopw [7, 8] (fun vi vj wr => ∃ (i j : Nat), i ≤ j ∧ j ≤ n ∧ vi = .int .i64 i ∧ vj = .int .i64 j ∧ Hid (∀ a, a < i → ∀ y, l[a]? = some y → y < x) ∧ Hid (∀ a, j ≤ a → ∀ y, l[a]? = some y → x ≤ y) ∧ wr = w) (fun vi vj _ => (intOf vj).toNat - (intOf vi).toNat)
  case atStart => exact ⟨0, n, by omega, by omega, rfl, rfl, Lib.hid (by intro a h; omega), Lib.hid (by intro a h y hy; have h2 := (List.getElem?_eq_some_iff.1 hy).1; have := Hn.out; omega), rfl⟩
  case round =>
    obtain ⟨i, j, hij, hjn, rfl, rfl, hi, hj, rfl⟩ := hrel
    by_cases hlt : i < j
    · have lt1 : (i : Int) < (j : Int) := by omega
      obtain ⟨h, hh⟩ : ∃ h, h = (i + j) / 2 := ⟨_, rfl⟩
      have hh1 : i ≤ h := by omega
      have hh2 : h < j := by omega
      obtain ⟨b, off, rfl, hb, hc⟩ := hr.at_ (k := h) (by omega)
      obtain ⟨y, hy⟩ : ∃ y, l[h]? = some y := ⟨_, List.getElem?_eq_getElem (by have := Hn.out; omega)⟩
      have cy : wr.cell? ⟨b, off + h, none⟩ = some (.int .u64 (y : Int)) := by
        rw [hc h (by have := Hn.out; simp; omega), List.getElem_map]
        rw [List.getElem?_eq_getElem (by have := Hn.out; omega)] at hy
        cases hy; rfl
      clear hc
      have w1 : IntKind.i64.wrap ((i : Int) + (j : Int)) = ((i + j : Nat) : Int) := by rw [IntKind.wrap_i64]; omega
      have w2 : IntKind.u64.wrap ((i : Int) + (j : Int)) = ((i + j : Nat) : Int) := by rw [IntKind.wrap_u64]; omega
      have w3 : ((i : Int) + (j : Int)) / 2 = (h : Int) := by omega
      have w4 : IntKind.i64.wrap (h : Int) = (h : Int) := by rw [IntKind.wrap_i64]; omega
      have w5 : IntKind.i64.wrap ((h : Int) + 1) = (h : Int) + 1 := by rw [IntKind.wrap_i64]; omega
      have lh : (h : Int) < (n : Int) := by omega
      have Hh := Lib.hid hh; clear hh
      have Hy := Lib.hid hy; clear hy
      by_cases hyx : y < x
      · go_wp2_with (go_at_call 36; refine (vLessN _ _ _).mono ?_; rintro e w' ⟨rfl, rfl⟩)
        refine ⟨⟨h + 1, j, by omega, by omega, by simp, rfl, Lib.hid (fun a ha z hz => ?_), hj, trivial⟩, by simp [intOf]; omega⟩
        obtain ⟨ha2, rfl⟩ := List.getElem?_eq_some_iff.1 hz
        obtain ⟨hh3, e⟩ := List.getElem?_eq_some_iff.1 Hy.out
        rcases Nat.lt_or_ge a h with h1 | h1
        · have := List.pairwise_iff_getElem.1 hp a h ha2 hh3 h1
          omega
        · obtain rfl : a = h := by omega
          omega
      · go_wp2_with (go_at_call 36; refine (vLessN _ _ _).mono ?_; rintro e w' ⟨rfl, rfl⟩)
        refine ⟨⟨i, h, by omega, by omega, rfl, rfl, hi, Lib.hid (fun a ha z hz => ?_), trivial⟩, by simp [intOf]; omega⟩
        obtain ⟨ha2, rfl⟩ := List.getElem?_eq_some_iff.1 hz
        obtain ⟨hh3, e⟩ := List.getElem?_eq_some_iff.1 Hy.out
        rcases Nat.lt_or_ge h a with h1 | h1
        · have := List.pairwise_iff_getElem.1 hp h a hh3 ha2 h1
          omega
        · obtain rfl : a = h := by omega
          omega
    · obtain rfl : i = j := by omega
      have hm := mem_at hp hi.out hj.out
      by_cases hin : i < n
      · have li : (i : Int) < (n : Int) := by omega
        obtain ⟨b, off, rfl, hb, hc⟩ := hr.at_ (k := i) hin
        obtain ⟨y, hy⟩ : ∃ y, l[i]? = some y := ⟨_, List.getElem?_eq_getElem (by have := Hn.out; omega)⟩
        have cy : wr.cell? ⟨b, off + i, none⟩ = some (.int .u64 (y : Int)) := by
          rw [hc i (by have := Hn.out; simp; omega), List.getElem_map]
          rw [List.getElem?_eq_getElem (by have := Hn.out; omega)] at hy
          cases hy; rfl
        clear hc
        rw [hy] at hm
        have Hy := Lib.hid hy; clear hy
        by_cases hyx : y = x
        · subst hyx
          have Hm := Lib.hid (decide_eq_true (hm.2 rfl)); clear hm
          go_wp2
          go_ret2
          exact ⟨⟨_, by rw [Hm.out]; rfl⟩, rfl⟩
        · have hyx' : ¬ (y : Int) = (x : Int) := by omega
          have hbe : ((y : Int) == (x : Int)) = false := by simp; omega
          have Hm := Lib.hid (decide_eq_false (fun h => hyx (Option.some.inj (hm.1 h)))); clear hm
          go_wp2_with (go_at_call 37; refine (sIsNaN _ _).mono ?_; rintro e w' ⟨rfl, rfl⟩)
          go_ret2
          exact ⟨⟨_, by rw [Hm.out]; rfl⟩, rfl⟩
      · have li : ¬ (i : Int) < (n : Int) := by omega
        rw [List.getElem?_eq_none (by have := Hn.out; omega)] at hm
        have Hm := Lib.hid (decide_eq_false (fun h => by cases hm.1 h)); clear hm
        go_wp2
        go_ret2
        exact ⟨⟨_, by rw [Hm.out]; rfl⟩, rfl⟩

/-- the closure that And hands to DeleteFunc -/
theorem vAnd1 (l : List Nat) (x c B b : Nat) (A : Option Addr) (W : World) (hr : Row W B 1 A l.length (l.map u64v)) (hp : l.Pairwise (· < ·)) (hl : l.length ≤ 35184372088832) (hc : W.cell? ⟨b, 0, none⟩ = some (.slice A l.length c)) :
    FnGives Try.prog 24 #[.pointer (some ⟨b, 0, none⟩)] #[u64v x] (.bool (!decide (x ∈ l))) W := by
  show Calls Try.prog 24 #[.int .u64 x, .pointer (some ⟨b, 0, none⟩)] W _
  go_enter Try.func24, Try.ntmps24
  go_wp2_with fail
  refine (vBin l x c B A W hr hp hl).mono ?_
  rintro e w' ⟨⟨i, rfl⟩, rfl⟩
  go_wp2
  go_ret
  exact ⟨rfl, 0, rfl⟩
end Go.Proofs.Ytmalkgakdmghiaa
