import Derived.Test.YtecejnilajbdpaaGreatDoorTu06
import Derived.Lib.MapLaws
import Derived.Test.YtecejnilajbdpaaGreatDoorTu07
/-! Texts, plain: their runes -/
namespace Garner
open Go

theorem decodeN_app {n m b0 b1 b2 b3 c1 c2 c3 : Nat} (h1 : 1 < n → c1 = b1) (h2 : 2 < n → c2 = b2) (h3 : 3 < n → c3 = b3) (hok : Lib.decodeN n b0 b1 b2 b3 ≠ (65533, 1)) : Lib.decodeN (n + m) b0 c1 c2 c3 = Lib.decodeN n b0 b1 b2 b3 := by
  unfold Lib.decodeN at hok ⊢
  by_cases a0 : b0 < 128
  · rw [if_pos a0, if_pos a0]
  rw [if_neg a0] at hok ⊢
  rw [if_neg a0]
  by_cases a1 : b0 / 32 = 6 ∧ (1 < n ∧ b1 / 64 = 2)
  · obtain ⟨e1, e2, e3⟩ := a1
    have p1 : b0 / 32 = 6 ∧ (1 < n + m ∧ b1 / 64 = 2) := ⟨e1, by omega, e3⟩
    have p2 : b0 / 32 = 6 ∧ (1 < n ∧ b1 / 64 = 2) := ⟨e1, e2, e3⟩
    rw [h1 e2, if_pos p1, if_pos p2]
  rw [if_neg a1] at hok
  rw [if_neg a1]
  by_cases a2 : b0 / 16 = 14 ∧ (1 < n ∧ b1 / 64 = 2) ∧ (2 < n ∧ b2 / 64 = 2)
  · obtain ⟨e1, ⟨e2, e3⟩, e4, e5⟩ := a2
    have p0 : ¬ (b0 / 32 = 6 ∧ (1 < n + m ∧ b1 / 64 = 2)) := fun h => by have := h.1; omega
    have p1 : b0 / 16 = 14 ∧ (1 < n + m ∧ b1 / 64 = 2) ∧ (2 < n + m ∧ b2 / 64 = 2) := ⟨e1, ⟨by omega, e3⟩, by omega, e5⟩
    have p2 : b0 / 16 = 14 ∧ (1 < n ∧ b1 / 64 = 2) ∧ (2 < n ∧ b2 / 64 = 2) := ⟨e1, ⟨e2, e3⟩, e4, e5⟩
    rw [h1 e2, h2 e4, if_neg p0, if_pos p1, if_pos p2]
  rw [if_neg a2] at hok
  rw [if_neg a2]
  by_cases a3 : b0 / 8 = 30 ∧ (1 < n ∧ b1 / 64 = 2) ∧ (2 < n ∧ b2 / 64 = 2) ∧ (3 < n ∧ b3 / 64 = 2)
  · obtain ⟨e1, ⟨e2, e3⟩, ⟨e4, e5⟩, e6, e7⟩ := a3
    have p0 : ¬ (b0 / 32 = 6 ∧ (1 < n + m ∧ b1 / 64 = 2)) := fun h => by have := h.1; omega
    have p3 : ¬ (b0 / 16 = 14 ∧ (1 < n + m ∧ b1 / 64 = 2) ∧ (2 < n + m ∧ b2 / 64 = 2)) := fun h => by have := h.1; omega
    have p1 : b0 / 8 = 30 ∧ (1 < n + m ∧ b1 / 64 = 2) ∧ (2 < n + m ∧ b2 / 64 = 2) ∧ (3 < n + m ∧ b3 / 64 = 2) := ⟨e1, ⟨by omega, e3⟩, ⟨by omega, e5⟩, by omega, e7⟩
    have p2 : b0 / 8 = 30 ∧ (1 < n ∧ b1 / 64 = 2) ∧ (2 < n ∧ b2 / 64 = 2) ∧ (3 < n ∧ b3 / 64 = 2) := ⟨e1, ⟨e2, e3⟩, ⟨e4, e5⟩, e6, e7⟩
    rw [h1 e2, h2 e4, h3 e6, if_neg p0, if_neg p3, if_pos p1, if_pos p2]
  rw [if_neg a3] at hok
  exact absurd rfl hok
theorem getD_app {a b : Bs} {i : Nat} (h : i < a.length) : (a ++ b).getD i 0 = a.getD i 0 := by
  simp only [List.getD, List.getElem?_append_left h]
theorem decodeL_app {a : Bs} (b : Bs) (ha : a ≠ []) (hok : Lib.decodeL a ≠ (65533, 1)) : Lib.decodeL (a ++ b) = Lib.decodeL a := by
  have hl : 0 < a.length := List.length_pos_iff.2 ha
  rw [Lib.decodeL_N] at hok ⊢
  rw [Lib.decodeL_N, List.length_append, getD_app hl]
  exact decodeN_app (fun h => by rw [getD_app h]) (fun h => by rw [getD_app h]) (fun h => by rw [getD_app h]) hok
theorem valid_ne {a : Bs} (ha : a ≠ []) (hv : Lib.validD a = true) : Lib.decodeL a ≠ (65533, 1) ∧ Lib.validD (a.drop (Lib.decodeL a).2) = true := by
  rw [Lib.validD_step a ha] at hv
  split at hv
  · cases hv
  · rename_i h
    exact ⟨fun e => h (by rw [e]; exact ⟨rfl, rfl⟩), hv⟩
theorem valid_app : ∀ (n : Nat) (a b : Bs), a.length ≤ n → Lib.validD a = true → Lib.validD (a ++ b) = Lib.validD b
  | 0, a, b, hn, _ => by rw [List.eq_nil_of_length_eq_zero (by omega : a.length = 0)]; rfl
  | n + 1, a, b, hn, hv => by
    by_cases ha : a = []
    · subst ha; rfl
    · obtain ⟨h1, h2⟩ := valid_ne ha hv
      have hw := Lib.decodeL_width a
      have hle := Lib.decodeL_le a ha
      have h0 : 0 < a.length := List.length_pos_iff.2 ha
      have e := decodeL_app b ha h1
      rw [Lib.validD_step _ (by simp [ha]), e]
      have hbad : ¬ ((Lib.decodeL a).1 = 65533 ∧ (Lib.decodeL a).2 = 1) := fun h => h1 (Prod.ext h.1 h.2)
      rw [if_neg hbad, List.drop_append_of_le_length hle]
      exact valid_app n _ b (by rw [List.length_drop]; omega) h2
theorem runesGo_nil : ∀ n, runesGo n [] = []
  | 0 => rfl
  | n + 1 => by simp [runesGo]
theorem runesGo_fuel : ∀ (n m : Nat) (l : Bs), l.length ≤ n → l.length ≤ m → runesGo n l = runesGo m l
  | 0, m, l, hn, _ => by
    rw [List.eq_nil_of_length_eq_zero (by omega : l.length = 0), runesGo_nil, runesGo_nil]
  | n + 1, 0, l, _, hm => by
    rw [List.eq_nil_of_length_eq_zero (by omega : l.length = 0), runesGo_nil, runesGo_nil]
  | n + 1, m + 1, l, hn, hm => by
    unfold runesGo
    by_cases hl : l = []
    · rw [if_pos hl, if_pos hl]
    · have hw := Lib.decodeL_width l
      have h0 : 0 < l.length := List.length_pos_iff.2 hl
      rw [if_neg hl, if_neg hl, runesGo_fuel n m _ (by rw [List.length_drop]; omega) (by rw [List.length_drop]; omega)]
theorem runes_step {l : Bs} (hl : l ≠ []) : runesP l = (Lib.decodeL l).1 :: runesP (l.drop (Lib.decodeL l).2) := by
  have hw := Lib.decodeL_width l
  have h0 : 0 < l.length := List.length_pos_iff.2 hl
  obtain ⟨n, hn⟩ : ∃ n, l.length = n + 1 := ⟨l.length - 1, by omega⟩
  unfold runesP
  rw [hn]
  conv => lhs; unfold runesGo
  rw [if_neg hl, runesGo_fuel n _ _ (by rw [List.length_drop]; omega) (Nat.le_refl _)]
theorem runes_le : ∀ (n : Nat) (l : Bs), l.length ≤ n → ∀ r ∈ runesP l, r ≤ 1114111
  | 0, l, hn, r, hr => by rw [List.eq_nil_of_length_eq_zero (by omega : l.length = 0)] at hr; cases hr
  | n + 1, l, hn, r, hr => by
    by_cases hl : l = []
    · subst hl; cases hr
    · have hw := Lib.decodeL_width l
      have h0 : 0 < l.length := List.length_pos_iff.2 hl
      rw [runes_step hl] at hr
      rcases List.mem_cons.1 hr with rfl | hr
      · exact Lib.decodeL_rune l
      · exact runes_le n _ (by rw [List.length_drop]; omega) r hr
theorem runes_len : ∀ (n : Nat) (l : Bs), l.length ≤ n → (runesP l).length ≤ l.length
  | 0, l, hn => by rw [List.eq_nil_of_length_eq_zero (by omega : l.length = 0)]; exact Nat.le_refl _
  | n + 1, l, hn => by
    by_cases hl : l = []
    · subst hl; exact Nat.le_refl _
    · have hw := Lib.decodeL_width l
      have h0 : 0 < l.length := List.length_pos_iff.2 hl
      have := runes_len n (l.drop (Lib.decodeL l).2) (by rw [List.length_drop]; omega)
      rw [runes_step hl, List.length_cons]
      rw [List.length_drop] at this
      omega
end Garner

/-! Texts, plain: valid ones are their runes; parts of them -/
namespace Garner
open Go

/-- a byte inside a rune -/
theorem decodeN_cont {n b0 b1 b2 b3 : Nat} (hok : Lib.decodeN n b0 b1 b2 b3 ≠ (65533, 1)) :
    (1 < (Lib.decodeN n b0 b1 b2 b3).2 → b1 / 64 = 2) ∧ (2 < (Lib.decodeN n b0 b1 b2 b3).2 → b2 / 64 = 2) ∧ (3 < (Lib.decodeN n b0 b1 b2 b3).2 → b3 / 64 = 2) ∧ (Lib.decodeN n b0 b1 b2 b3).2 ≤ 4 := by
  unfold Lib.decodeN at hok ⊢
  by_cases a0 : b0 < 128
  · rw [if_pos a0]; exact ⟨fun h => absurd h (by simp), fun h => absurd h (by simp), fun h => absurd h (by simp), by simp⟩
  rw [if_neg a0] at hok ⊢
  by_cases a1 : b0 / 32 = 6 ∧ (1 < n ∧ b1 / 64 = 2)
  · rw [if_pos a1]
    have := a1.2.2
    split
    · exact ⟨fun _ => this, fun h => absurd h (by simp), fun h => absurd h (by simp), by simp⟩
    · exact ⟨fun h => absurd h (by simp), fun h => absurd h (by simp), fun h => absurd h (by simp), by simp⟩
  rw [if_neg a1] at hok ⊢
  by_cases a2 : b0 / 16 = 14 ∧ (1 < n ∧ b1 / 64 = 2) ∧ (2 < n ∧ b2 / 64 = 2)
  · rw [if_pos a2]
    have h1 := a2.2.1.2
    have h2 := a2.2.2.2
    split
    · exact ⟨fun _ => h1, fun _ => h2, fun h => absurd h (by simp), by simp⟩
    · exact ⟨fun _ => h1, fun _ => h2, fun h => absurd h (by simp), by simp⟩
  rw [if_neg a2] at hok ⊢
  by_cases a3 : b0 / 8 = 30 ∧ (1 < n ∧ b1 / 64 = 2) ∧ (2 < n ∧ b2 / 64 = 2) ∧ (3 < n ∧ b3 / 64 = 2)
  · rw [if_pos a3]
    have h1 := a3.2.1.2
    have h2 := a3.2.2.1.2
    have h3 := a3.2.2.2.2
    split
    · exact ⟨fun _ => h1, fun _ => h2, fun _ => h3, by simp⟩
    · exact ⟨fun _ => h1, fun _ => h2, fun _ => h3, by simp⟩
  rw [if_neg a3] at hok
  exact absurd rfl hok
theorem decodeL_cont {l : Bs} (hok : Lib.decodeL l ≠ (65533, 1)) {k : Nat} (h0 : 0 < k) (hk : k < (Lib.decodeL l).2) : (l.getD k 0).toNat / 64 = 2 := by
  rw [Lib.decodeL_N] at hok hk
  obtain ⟨h1, h2, h3, h4⟩ := decodeN_cont hok
  have : k = 1 ∨ k = 2 ∨ k = 3 := by omega
  rcases this with rfl | rfl | rfl
  · exact h1 hk
  · exact h2 hk
  · exact h3 hk
theorem decodeN_cut {n m b0 b1 b2 b3 c1 c2 c3 : Nat} (hw : (Lib.decodeN n b0 b1 b2 b3).2 ≤ m) (h1 : 1 < m → c1 = b1) (h2 : 2 < m → c2 = b2) (h3 : 3 < m → c3 = b3) (hok : Lib.decodeN n b0 b1 b2 b3 ≠ (65533, 1)) : Lib.decodeN m b0 c1 c2 c3 = Lib.decodeN n b0 b1 b2 b3 := by
  unfold Lib.decodeN at hok hw ⊢
  by_cases a0 : b0 < 128
  · rw [if_pos a0, if_pos a0]
  rw [if_neg a0] at hok hw ⊢
  rw [if_neg a0]
  by_cases a1 : b0 / 32 = 6 ∧ (1 < n ∧ b1 / 64 = 2)
  · rw [if_pos a1] at hok hw ⊢
    by_cases v : b0 % 32 * 64 + b1 % 64 ≥ 128
    · rw [if_pos v] at hw ⊢
      have hm2 : 2 ≤ m := hw
      have p : b0 / 32 = 6 ∧ (1 < m ∧ b1 / 64 = 2) := ⟨a1.1, by omega, a1.2.2⟩
      rw [h1 (by omega), if_pos p, if_pos v]
    · rw [if_neg v] at hok; exact absurd rfl hok
  rw [if_neg a1] at hok hw ⊢
  by_cases a2 : b0 / 16 = 14 ∧ (1 < n ∧ b1 / 64 = 2) ∧ (2 < n ∧ b2 / 64 = 2)
  · rw [if_pos a2] at hok hw ⊢
    by_cases v : b0 % 16 * 4096 + b1 % 64 * 64 + b2 % 64 ≥ 2048 ∧ (b0 % 16 * 4096 + b1 % 64 * 64 + b2 % 64 < 55296 ∨ (57344 ≤ b0 % 16 * 4096 + b1 % 64 * 64 + b2 % 64 ∧ b0 % 16 * 4096 + b1 % 64 * 64 + b2 % 64 ≤ 1114111))
    · rw [if_pos v] at hw ⊢
      have hm3 : 3 ≤ m := hw
      have p0 : ¬ (b0 / 32 = 6 ∧ (1 < m ∧ b1 / 64 = 2)) := fun h => by have := h.1; have := a2.1; omega
      have p : b0 / 16 = 14 ∧ (1 < m ∧ b1 / 64 = 2) ∧ (2 < m ∧ b2 / 64 = 2) := ⟨a2.1, ⟨by omega, a2.2.1.2⟩, by omega, a2.2.2.2⟩
      rw [h1 (by omega), h2 (by omega), if_neg p0, if_pos p, if_pos v]
    · rw [if_neg v] at hok; exact absurd rfl hok
  rw [if_neg a2] at hok hw ⊢
  by_cases a3 : b0 / 8 = 30 ∧ (1 < n ∧ b1 / 64 = 2) ∧ (2 < n ∧ b2 / 64 = 2) ∧ (3 < n ∧ b3 / 64 = 2)
  · rw [if_pos a3] at hok hw ⊢
    by_cases v : b0 % 8 * 262144 + b1 % 64 * 4096 + b2 % 64 * 64 + b3 % 64 ≥ 65536 ∧ (b0 % 8 * 262144 + b1 % 64 * 4096 + b2 % 64 * 64 + b3 % 64 < 55296 ∨ (57344 ≤ b0 % 8 * 262144 + b1 % 64 * 4096 + b2 % 64 * 64 + b3 % 64 ∧ b0 % 8 * 262144 + b1 % 64 * 4096 + b2 % 64 * 64 + b3 % 64 ≤ 1114111))
    · rw [if_pos v] at hw ⊢
      have hm4 : 4 ≤ m := hw
      have p0 : ¬ (b0 / 32 = 6 ∧ (1 < m ∧ b1 / 64 = 2)) := fun h => by have := h.1; have := a3.1; omega
      have p1 : ¬ (b0 / 16 = 14 ∧ (1 < m ∧ b1 / 64 = 2) ∧ (2 < m ∧ b2 / 64 = 2)) := fun h => by have := h.1; have := a3.1; omega
      have p : b0 / 8 = 30 ∧ (1 < m ∧ b1 / 64 = 2) ∧ (2 < m ∧ b2 / 64 = 2) ∧ (3 < m ∧ b3 / 64 = 2) := ⟨a3.1, ⟨by omega, a3.2.1.2⟩, ⟨by omega, a3.2.2.1.2⟩, by omega, a3.2.2.2.2⟩
      rw [h1 (by omega), h2 (by omega), h3 (by omega), if_neg p0, if_neg p1, if_pos p, if_pos v]
    · rw [if_neg v] at hok; exact absurd rfl hok
  rw [if_neg a3] at hok
  exact absurd rfl hok
theorem decodeL_cut {a b : Bs} (ha : a ≠ []) (hok : Lib.decodeL (a ++ b) ≠ (65533, 1)) (hw : (Lib.decodeL (a ++ b)).2 ≤ a.length) : Lib.decodeL a = Lib.decodeL (a ++ b) := by
  have hl : 0 < a.length := List.length_pos_iff.2 ha
  rw [Lib.decodeL_N] at hok hw ⊢
  rw [Lib.decodeL_N, ← getD_app (b := b) hl]
  exact decodeN_cut hw (fun h => by rw [getD_app h]) (fun h => by rw [getD_app h]) (fun h => by rw [getD_app h]) (by simpa using hok)
/-- a valid text parted where no byte inside a rune stands -/
theorem valid_left : ∀ (n : Nat) (a b : Bs), a.length ≤ n → Lib.validD (a ++ b) = true → b ≠ [] → (b.getD 0 0).toNat / 64 ≠ 2 → Lib.validD a = true
  | 0, a, b, hn, _, _, _ => by rw [List.eq_nil_of_length_eq_zero (by omega : a.length = 0)]; rfl
  | n + 1, a, b, hn, hv, hb, h2 => by
    by_cases ha : a = []
    · subst ha; rfl
    · have hab : a ++ b ≠ [] := by simp [ha]
      obtain ⟨h3, h4⟩ := valid_ne hab hv
      have hw := Lib.decodeL_width (a ++ b)
      have hlen : (Lib.decodeL (a ++ b)).2 ≤ a.length := by
        rcases Nat.lt_or_ge a.length (Lib.decodeL (a ++ b)).2 with h | h
        · exfalso
          have h5 := decodeL_cont h3 (List.length_pos_iff.2 ha) h
          apply h2
          rw [← h5]
          simp [List.getD, List.getElem?_append_right]
        · exact h
      rw [List.drop_append_of_le_length hlen] at h4
      have ih := valid_left n _ b (by rw [List.length_drop]; omega) h4 hb h2
      have e : Lib.decodeL a = Lib.decodeL (a ++ b) := decodeL_cut ha h3 hlen
      have hbad : ¬ ((Lib.decodeL a).1 = 65533 ∧ (Lib.decodeL a).2 = 1) := fun h => h3 (by rw [← e]; exact Prod.ext h.1 h.2)
      rw [Lib.validD_step a ha, if_neg hbad, e]
      exact ih
end Garner

/-! autom, plain: the search that closure goes -/
namespace Garner
open Go
/-- all that an instruction goes to is there -/
def TgtR (ins : List InstP) : Prop := ∀ (pc : Nat) (c : InstP), ins[pc]? = some c → (c.kind ≠ 4 → c.x < ins.length) ∧ (c.kind = 1 → c.y < ins.length)
/-- targets of laid instructions -/
def TgtL (e : Nat) (l : List InstP) : Prop := ∀ c ∈ l, c.x ≤ e ∧ c.y ≤ e
theorem TgtL.app {e : Nat} {l m : List InstP} (h : TgtL e l) (k : TgtL e m) : TgtL e (l ++ m) := fun c hc => (List.mem_append.1 hc).elim (h c) (k c)
theorem TgtL.mono {e f : Nat} {l : List InstP} (h : TgtL e l) (hf : e ≤ f) : TgtL f l := fun c hc => ⟨Nat.le_trans (h c hc).1 hf, Nat.le_trans (h c hc).2 hf⟩
theorem TgtL.nil {e : Nat} : TgtL e [] := fun c hc => by cases hc
theorem TgtL.cons {e : Nat} {a : InstP} {l : List InstP} (h1 : a.x ≤ e) (h2 : a.y ≤ e) (h : TgtL e l) : TgtL e (a :: l) := fun c hc => by
  rcases List.mem_cons.1 hc with rfl | hc
  · exact ⟨h1, h2⟩
  · exact h c hc
theorem repC_tgt {c : Nat → List InstP} {len : Nat} (h : ∀ p, TgtL (p + len) (c p)) : ∀ n p, TgtL (p + n * len) (repC c len n p)
  | 0, p => .nil
  | n + 1, p => by
    rw [repC]
    have e : (n + 1) * len = len + n * len := by rw [Nat.add_mul]; omega
    refine ((h p).mono (by omega)).app ((repC_tgt h n (p + len)).mono (by omega))
theorem optC_tgt {c : Nat → List InstP} {len e : Nat} (h : ∀ p, TgtL (p + len) (c p)) : ∀ n p, p + n * (len + 1) ≤ e → TgtL e (optC c len e n p)
  | 0, p, _ => .nil
  | n + 1, p, he => by
    have e1 : (n + 1) * (len + 1) = (len + 1) + n * (len + 1) := by rw [Nat.add_mul]; omega
    rw [optC]
    refine .cons (by show p + 1 ≤ e; omega) (Nat.le_refl _) (((h (p + 1)).mono (by omega)).app (optC_tgt h n _ (by omega)))
mutual
theorem code_tgt : ∀ (t : Re) (p : Nat), TgtL (p + t.len) (t.code p)
  | .emp, p => .nil
  | .set l, p => by simp only [Re.code, Re.len]; exact .cons (Nat.le_refl _) (Nat.zero_le _) .nil
  | .seq l, p => by simp only [Re.code, Re.len]; exact codes_tgt l p
  | .alt l, p => by simp only [Re.code, Re.len]; exact altC_tgt l p _ (Nat.le_refl _)
  | .rep k mn none, p => by
    have ih := code_tgt k
    simp only [Re.code, Re.len]
    refine ((repC_tgt ih mn p).mono (by omega)).app (.cons (by show p + mn * k.len + 1 ≤ _; omega) (by show p + mn * k.len + k.len + 2 ≤ _; omega) ((TgtL.mono (ih _) (by omega)).app (.cons (by show p + mn * k.len ≤ _; omega) (by show p + mn * k.len ≤ _; omega) .nil)))
  | .rep k mn (some m), p => by
    have ih := code_tgt k
    simp only [Re.code, Re.len]
    rw [← Nat.add_assoc]
    exact ((repC_tgt ih mn p).mono (by omega)).app (optC_tgt ih (m - mn) (p + mn * k.len) (Nat.le_refl _))
  | .bgn, p => by simp only [Re.code, Re.len]; exact .cons (Nat.le_refl _) (Nat.zero_le _) .nil
  | .fin, p => by simp only [Re.code, Re.len]; exact .cons (Nat.le_refl _) (Nat.zero_le _) .nil
theorem codes_tgt : ∀ (l : List Re) (p : Nat), TgtL (p + lens l) (codes l p)
  | [], p => .nil
  | t :: ts, p => by
    simp only [codes, lens]
    refine ((code_tgt t p).mono (by omega)).app ((codes_tgt ts _).mono (by omega))
theorem altC_tgt : ∀ (l : List Re) (p e : Nat), p + altLen l ≤ e → TgtL e (altC l p e)
  | [], p, e, _ => .nil
  | [t], p, e, he => by
    simp only [altC]
    simp only [altLen] at he
    exact (code_tgt t p).mono he
  | t :: u :: ts, p, e, he => by
    have ih := altC_tgt (u :: ts)
    simp only [altC]
    rw [altLen] at he
    refine .cons (by simp; omega) (by simp; omega) (((code_tgt t _).mono (by omega)).app (.cons (Nat.le_refl _) (Nat.le_refl _) (ih _ _ (by omega))))
end
theorem prog_tgt (t : Re) : TgtR (progR t) := by
  intro pc c hc
  have hl : (progR t).length = t.len + 1 := by unfold progR; rw [List.length_append, code_len]; rfl
  unfold progR at hc
  rw [hl]
  have hm := List.mem_of_getElem? hc
  rcases List.mem_append.1 hm with h | h
  · have := code_tgt t 0 c h
    exact ⟨fun _ => by omega, fun _ => by omega⟩
  · rw [List.mem_singleton.1 h]
    exact ⟨fun e => absurd rfl e, fun e => by cases e⟩

section
variable (ins : List InstP) (first last : Bool) (fr : List Nat)
/-- where the search stands: what it has seen, what it must still look at, what it keeps -/
structure DfsR (S : List Bool) (work out : List Nat) : Prop where
  len : S.length = ins.length
  wk : ∀ a ∈ work, a < ins.length ∧ ∃ f ∈ fr, ReachR ins first last f a
  seen : ∀ a, S[a]? = some true → (∃ f ∈ fr, ReachR ins first last f a) ∧ ∀ q, EdgeR ins first last a q → S[q]? = some true ∨ q ∈ work
  all : ∀ f ∈ fr, S[f]? = some true ∨ f ∈ work
  mem : ∀ a, a ∈ out ↔ S[a]? = some true ∧ KeptR ins last a
  nd : out.Nodup
  big : work.length + 2 * S.count false ≤ fr.length + 2 * ins.length
  low : out.length + S.count false ≤ ins.length
end
section
variable {ins : List InstP} {first last : Bool} {fr : List Nat}
theorem ReachR.snoc {a b c : Nat} (h : ReachR ins first last a b) (e : EdgeR ins first last b c) : ReachR ins first last a c := by
  induction h with
  | here a => exact .step e (.here _)
  | step h1 _ ih => exact .step h1 (ih e)
theorem DfsR.start (h : ∀ f ∈ fr, f < ins.length) : DfsR ins first last fr (List.replicate ins.length false) fr [] where
  len := List.length_replicate
  wk a ha := ⟨h a ha, a, ha, .here a⟩
  seen a ha := by
    obtain ⟨hl, e⟩ := List.getElem?_eq_some_iff.1 ha
    rw [List.getElem_replicate] at e
    cases e
  all f hf := .inr hf
  mem a := by
    constructor
    · intro h; cases h
    · rintro ⟨ha, -⟩
      obtain ⟨hl, e⟩ := List.getElem?_eq_some_iff.1 ha
      rw [List.getElem_replicate] at e
      cases e
  nd := List.nodup_nil
  big := by rw [List.count_replicate_self]; exact Nat.le_refl _
  low := by rw [List.count_replicate_self]; simp
/-- what was seen is passed over -/
theorem DfsR.pass {S : List Bool} {l out : List Nat} {pc : Nat} (h : DfsR ins first last fr S (l ++ [pc]) out) (hs : S[pc]? = some true) : DfsR ins first last fr S l out where
  len := h.len
  wk a ha := h.wk a (List.mem_append_left _ ha)
  seen a ha := ⟨(h.seen a ha).1, fun q hq => by
    rcases (h.seen a ha).2 q hq with e | e
    · exact .inl e
    · rcases List.mem_append.1 e with e | e
      · exact .inr e
      · rw [List.mem_singleton.1 e]; exact .inl hs⟩
  all f hf := by
    rcases h.all f hf with e | e
    · exact .inl e
    · rcases List.mem_append.1 e with e | e
      · exact .inr e
      · rw [List.mem_singleton.1 e]; exact .inl hs
  mem := h.mem
  nd := h.nd
  big := by have := h.big; rw [List.length_append] at this; simp at this; omega
  low := h.low
theorem count_mark : ∀ {S : List Bool} {pc : Nat}, S[pc]? = some false → (S.set pc true).count false + 1 = S.count false
  | [], pc, h => by simp at h
  | b :: S, 0, h => by simp at h; subst h; simp
  | b :: S, pc + 1, h => by
    have := count_mark (S := S) (pc := pc) (by simpa using h)
    rw [List.set_cons_succ, List.count_cons, List.count_cons]
    omega
/-- what was not seen is marked, and what it goes to must be looked at -/
theorem DfsR.mark {S : List Bool} {l out add keep : List Nat} {pc : Nat} (ht : TgtR ins) (h : DfsR ins first last fr S (l ++ [pc]) out) (hs : S[pc]? = some false) (ha : ∀ q, EdgeR ins first last pc q ↔ q ∈ add) (h2 : add.length ≤ 2) (hk : (KeptR ins last pc ∧ keep = [pc]) ∨ (¬ KeptR ins last pc ∧ keep = [])) :
    DfsR ins first last fr (S.set pc true) (l ++ add) (out ++ keep) := by
  have hpl : pc < S.length := (List.getElem?_eq_some_iff.1 hs).1
  have hset : ∀ a, (S.set pc true)[a]? = some true ↔ a = pc ∨ S[a]? = some true := fun a => by
    rw [List.getElem?_set]
    by_cases e : pc = a
    · subst e; simp [hpl]
    · rw [if_neg e]; constructor
      · exact .inr
      · rintro (e2 | e2)
        · exact absurd e2.symm e
        · exact e2
  have hpr := h.wk pc (by simp)
  refine ⟨by rw [List.length_set]; exact h.len, fun a hm => ?_, fun a hm => ?_, fun f hf => ?_, fun a => ?_, ?_, ?_, ?_⟩
  · rcases List.mem_append.1 hm with hm | hm
    · exact h.wk a (List.mem_append_left _ hm)
    · have he := (ha a).2 hm
      obtain ⟨f, hf, hr⟩ := hpr.2
      refine ⟨?_, f, hf, hr.snoc he⟩
      obtain ⟨c, hc, k⟩ := he
      have := ht pc c hc
      rcases k with ⟨k1, rfl | rfl⟩ | ⟨k1, -, rfl⟩ | ⟨k1, -, rfl⟩
      · exact this.1 (by omega)
      · exact this.2 k1
      · exact this.1 (by omega)
      · exact this.1 (by omega)
  · rcases (hset a).1 hm with rfl | hm
    · exact ⟨hpr.2, fun q hq => .inr (List.mem_append_right _ ((ha q).1 hq))⟩
    · refine ⟨(h.seen a hm).1, fun q hq => ?_⟩
      rcases (h.seen a hm).2 q hq with e | e
      · exact .inl ((hset q).2 (.inr e))
      · rcases List.mem_append.1 e with e | e
        · exact .inr (List.mem_append_left _ e)
        · exact .inl ((hset q).2 (.inl (List.mem_singleton.1 e)))
  · rcases h.all f hf with e | e
    · exact .inl ((hset f).2 (.inr e))
    · rcases List.mem_append.1 e with e | e
      · exact .inr (List.mem_append_left _ e)
      · exact .inl ((hset f).2 (.inl (List.mem_singleton.1 e)))
  · rw [List.mem_append, h.mem a, hset a]
    rcases hk with ⟨k, rfl⟩ | ⟨k, rfl⟩
    · rw [List.mem_singleton]
      constructor
      · rintro (⟨e1, e2⟩ | rfl)
        · exact ⟨.inr e1, e2⟩
        · exact ⟨.inl rfl, k⟩
      · rintro ⟨rfl | e1, e2⟩
        · exact .inr rfl
        · exact .inl ⟨e1, e2⟩
    · constructor
      · rintro (⟨e1, e2⟩ | e)
        · exact ⟨.inr e1, e2⟩
        · cases e
      · rintro ⟨rfl | e1, e2⟩
        · exact absurd e2 k
        · exact .inl ⟨e1, e2⟩
  · rcases hk with ⟨k, rfl⟩ | ⟨k, rfl⟩
    · rw [List.nodup_append]
      refine ⟨h.nd, by simp, fun a hm b hb => ?_⟩
      rw [List.mem_singleton.1 hb]
      rintro rfl
      have := ((h.mem a).1 hm).1
      rw [hs] at this
      cases this
    · rw [List.append_nil]; exact h.nd
  · have := h.big
    have hc := count_mark hs
    rw [List.length_append] at this ⊢
    simp at this
    omega
  · have := h.low
    have hc := count_mark hs
    rw [List.length_append]
    rcases hk with ⟨k, rfl⟩ | ⟨k, rfl⟩ <;> simp <;> omega
theorem DfsR.reach {S : List Bool} {out : List Nat} (h : DfsR ins first last fr S [] out) {a b : Nat} (hr : ReachR ins first last a b) : S[a]? = some true → S[b]? = some true := by
  induction hr with
  | here a => exact id
  | step e _ ih => exact fun ha => ih (((h.seen _ ha).2 _ e).elim id fun e => by cases e)
theorem DfsR.mem_ {S : List Bool} {out : List Nat} (h : DfsR ins first last fr S [] out) (a : Nat) : a ∈ out ↔ InClos ins first last fr a := by
  rw [h.mem a]
  unfold InClos
  constructor
  · rintro ⟨h1, h2⟩
    exact ⟨(h.seen a h1).1, h2⟩
  · rintro ⟨⟨f, hf, hr⟩, h2⟩
    exact ⟨h.reach hr ((h.all f hf).elim id fun e => by cases e), h2⟩
/-- in order, and each once -/
theorem asc_of : ∀ {l : List Nat}, l.Nodup → l.Pairwise (· ≤ ·) → AscN l
  | [], _, _ => trivial
  | [_], _, _ => trivial
  | a :: b :: r, hn, hp => by
    have h1 := (List.pairwise_cons.1 hp).1 b (by simp)
    have h2 : a ≠ b := fun e => (List.nodup_cons.1 hn).1 (by simp [e])
    exact ⟨by omega, asc_of (List.nodup_cons.1 hn).2 (List.pairwise_cons.1 hp).2⟩
theorem DfsR.done {S : List Bool} {out l : List Nat} (h : DfsR ins first last fr S [] out) (hp : l.Perm out) (hs : l.Pairwise (· ≤ ·)) : l = closP ins first last fr :=
  asc_eq (asc_of (hp.nodup_iff.2 h.nd) hs) asc_clos fun x => by rw [hp.mem_iff, h.mem_ x, mem_clos]
theorem clos_lt : ∀ x ∈ closP ins first last fr, x < ins.length := fun x hx => by
  obtain ⟨-, c, hc, -⟩ := mem_clos.1 hx
  exact (List.getElem?_eq_some_iff.1 hc).1
theorem clos_len : (closP ins first last fr).length ≤ ins.length := by
  unfold closP
  exact Nat.le_trans (List.length_filter_le _ _) (by simp)
end
end Garner

