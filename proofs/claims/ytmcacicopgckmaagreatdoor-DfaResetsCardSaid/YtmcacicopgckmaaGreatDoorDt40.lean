import Derived.Test.YtmcacicopgckmaaGreatDoorDt01
import Derived.Lib.ItoaNum
/-! Plain functions of layer 10: names of a log's files, what bytes hold, torn ends. -/
namespace Garner
open Go

/-- the name of file n -/
def walNm (n : Nat) : Bs := [119, 97, 108, 45] ++ Lib.decDigits n
/-- the number that digits say -/
def digVal (l : Bs) : Nat := l.foldl (fun a c => 10 * a + (c.toNat - 48)) 0
theorem digVal_snoc (l : Bs) (c : UInt8) : digVal (l ++ [c]) = 10 * digVal l + (c.toNat - 48) := by simp [digVal]
theorem dig_val {i : Nat} (h : i < 10) : (UInt8.ofNat (48 + i)).toNat = 48 + i := ofNat_toNat (by omega)
theorem digVal_dec : ∀ (n : Nat), digVal (Lib.decDigits n) = n := by
  intro n
  induction n using Nat.strongRecOn with
  | ind n ih =>
    rw [Lib.decDigits]
    split
    · rename_i h
      simp only [digVal, List.foldl_cons, List.foldl_nil, dig_val h]; omega
    · rename_i h
      rw [digVal_snoc, ih (n / 10) (by omega), dig_val (Nat.mod_lt _ (by omega))]; omega
theorem dec_inj {a b : Nat} (h : Lib.decDigits a = Lib.decDigits b) : a = b := by rw [← digVal_dec a, h, digVal_dec]
theorem walNm_inj {a b : Nat} (h : walNm a = walNm b) : a = b := by
  unfold walNm at h
  exact dec_inj (List.append_cancel_left h)
theorem walNm_ne {a b : Nat} (h : a ≠ b) : walNm a ≠ walNm b := fun e => h (walNm_inj e)
theorem dec_digits : ∀ (n : Nat), ∀ c ∈ Lib.decDigits n, 48 ≤ c.toNat ∧ c.toNat ≤ 57 := by
  intro n
  induction n using Nat.strongRecOn with
  | ind n ih =>
    intro c hc
    rw [Lib.decDigits] at hc
    split at hc
    · rename_i h
      rw [List.mem_singleton] at hc; subst hc
      rw [dig_val h]; omega
    · rename_i h
      rcases List.mem_append.1 hc with hc | hc
      · exact ih (n / 10) (by omega) c hc
      · rw [List.mem_singleton] at hc; subst hc
        rw [dig_val (Nat.mod_lt _ (by omega))]; omega
theorem dec_len_le : ∀ (k n : Nat), n < 10 ^ (k + 1) → (Lib.decDigits n).length ≤ k + 1 := by
  intro k
  induction k with
  | zero => intro n h; rw [Lib.decDigits, dif_pos (by omega)]; simp
  | succ k ih =>
    intro n h
    rw [Lib.decDigits]
    split
    · simp
    · rw [List.length_append]
      have := ih (n / 10) (by rw [Nat.pow_succ] at h; omega)
      simp; omega
theorem dec_len {n : Nat} (h : n ≤ 1000000000) : (Lib.decDigits n).length ≤ 10 := dec_len_le 9 n (by omega)

/-- a frame's bytes -/
def frB (p : Bs) : Bs := put1 p.length ++ p ++ four (crc p)
theorem frame_eq (p : Bs) : frame p = if 65536 < p.length then .error 4 else .ok (frB p) := rfl
theorem frame_frB {p : Bs} (h : p.length ≤ 65536) : frame p = .ok (frB p) := by rw [frame_eq, if_neg (by omega)]
theorem frB_len (p : Bs) : (frB p).length = (put1 p.length).length + p.length + 4 := by simp [frB, four]; omega
theorem frB_pos (p : Bs) : 5 ≤ (frB p).length := by rw [frB_len]; have := put1_pos p.length; omega
theorem frB_le {p : Bs} (h : p.length ≤ 65536) : (frB p).length ≤ 65550 := by rw [frB_len]; have := put1_len (n := p.length) (by omega); omega

/-- what bytes hold -/
def heldA : Nat → Bs → Nat → List Bs
  | 0, _, _ => []
  | f + 1, b, at_ => match fread b at_ with
    | .error _ => []
    | .ok (p, k) => p :: heldA f b k
def held (b : Bs) : List Bs := heldA (b.length + 1) b 0
theorem heldA_err {f : Nat} {b : Bs} {i k : Nat} (h : fread b i = .error k) : heldA f b i = [] := by
  cases f with
  | zero => rfl
  | succ f => simp only [heldA, h]
theorem heldA_ok {f : Nat} {b p : Bs} {i k : Nat} (h : fread b i = .ok (p, k)) : heldA (f + 1) b i = p :: heldA f b k := by simp only [heldA, h]
theorem fread_next {b p : Bs} {i k : Nat} (h : fread b i = .ok (p, k)) : i + 5 ≤ k ∧ k ≤ b.length ∧ p.length ≤ 65536 ∧ i + p.length + 5 ≤ k := by
  obtain ⟨f, h1, h2, h3, h4⟩ := fread_ok h
  rw [frame_eq] at h1
  split at h1
  · cases h1
  · injection h1 with h1
    subst h1
    have := frB_pos p
    have := frB_len p
    have := put1_pos p.length
    omega
/-- fuel enough: more changes nothing -/
theorem heldA_fuel : ∀ (f f' : Nat) (b : Bs) (i : Nat), b.length < f + i → b.length < f' + i → heldA f b i = heldA f' b i := by
  intro f
  induction f with
  | zero =>
    intro f' b i h1 h2
    have hf : ∃ k, fread b i = .error k := by
      cases h : fread b i with
      | error k => exact ⟨k, rfl⟩
      | ok r => obtain ⟨p, k⟩ := r; have := fread_next h; omega
    obtain ⟨k, hk⟩ := hf
    rw [heldA_err hk, heldA_err hk]
  | succ f ih =>
    intro f' b i h1 h2
    cases h : fread b i with
    | error k => rw [heldA_err h, heldA_err h]
    | ok r =>
      obtain ⟨p, k⟩ := r
      have hn := fread_next h
      obtain ⟨f'', rfl⟩ : ∃ f'', f' = f'' + 1 := ⟨f' - 1, by omega⟩
      rw [heldA_ok h, heldA_ok h, ih f'' b k (by omega) (by omega)]
/-- a row of frames -/
def flat (ps : List Bs) : Bs := ps.flatMap frB
theorem flat_nil : flat [] = [] := rfl
theorem flat_cons (p : Bs) (ps : List Bs) : flat (p :: ps) = frB p ++ flat ps := rfl
theorem flatW_app (a b : List Bs) : flat (a ++ b) = flat a ++ flat b := by unfold flat; rw [List.flatMap_append]
theorem flat_one (p : Bs) : flat [p] = frB p := by rw [flat_cons, flat_nil, List.append_nil]
theorem flat_len_le {ps : List Bs} (h : ∀ p ∈ ps, p.length ≤ 65536) : (flat ps).length ≤ 65550 * ps.length := by
  induction ps with
  | nil => simp [flat_nil]
  | cons p ps ih =>
    rw [flat_cons, List.length_append, List.length_cons]
    have := ih fun q hq => h q (by simp [hq])
    have := frB_le (h p (by simp))
    omega
theorem flat_ge (ps : List Bs) : 5 * ps.length ≤ (flat ps).length := by
  induction ps with
  | nil => simp [flat_nil]
  | cons p ps ih => rw [flat_cons, List.length_append, List.length_cons]; have := frB_pos p; omega
/-- an end that no frame begins -/
def Torn (t : Bs) : Prop := ∀ a : Bs, ∃ k, fread (a ++ t) a.length = .error k
theorem held_flat (ps : List Bs) (hps : ∀ p ∈ ps, p.length ≤ 65536) (t : Bs) (ht : Torn t) : ∀ (f : Nat) (a : Bs), ps.length < f → heldA f (a ++ (flat ps ++ t)) a.length = ps := by
  induction ps with
  | nil =>
    intro f a hf
    obtain ⟨k, hk⟩ := ht a
    rw [flat_nil, List.nil_append, heldA_err hk]
  | cons p ps ih =>
    intro f a hf
    obtain ⟨f, rfl⟩ : ∃ g, f = g + 1 := ⟨f - 1, by simp only [List.length_cons] at hf; omega⟩
    have h1 := fread_frame a (flat ps ++ t) (frame_frB (hps p (by simp)))
    rw [flat_cons, List.append_assoc, heldA_ok h1]
    have h2 := ih (fun q hq => hps q (by simp [hq])) f (a ++ frB p) (by simpa using hf)
    rw [List.append_assoc, List.length_append] at h2
    rw [h2]
theorem held_torn {ps : List Bs} (hps : ∀ p ∈ ps, p.length ≤ 65536) {t : Bs} (ht : Torn t) : held (flat ps ++ t) = ps := by
  have := held_flat ps hps t ht ((flat ps ++ t).length + 1) [] (by have := flat_ge ps; rw [List.length_append]; omega)
  simpa [held] using this
theorem torn_nil : Torn [] := fun a => by
  refine ⟨5, ?_⟩
  rw [List.append_nil]
  have h : vget a a.length = .error 5 := by unfold vget; rw [List.drop_length]; rfl
  exact fread_e1 h
theorem held_flat0 {ps : List Bs} (hps : ∀ p ∈ ps, p.length ≤ 65536) : held (flat ps) = ps := by
  have := held_torn hps torn_nil
  rwa [List.append_nil] at this
/-- a proper beginning of a frame -/
theorem torn_prefix {p : Bs} (hp : p.length ≤ 65536) {k : Nat} (hk : k < (frB p).length) : Torn ((frB p).take k) := by
  intro a
  cases h : fread (a ++ (frB p).take k) a.length with
  | error e => exact ⟨e, rfl⟩
  | ok r =>
    exfalso
    obtain ⟨q, m⟩ := r
    obtain ⟨f, h1, h2, h3, h4⟩ := fread_ok h
    rw [List.drop_left] at h2
    rw [List.length_append, List.length_take] at h4
    have hfk : f.length ≤ k := by omega
    rw [List.take_take, Nat.min_eq_left hfk] at h2
    -- the frame of q begins the frame of p
    have hspl : frB p = f ++ (frB p).drop f.length := by
      conv => lhs; rw [← List.take_append_drop f.length (frB p)]
      rw [h2]
    have e1 := fread_frame [] ((frB p).drop f.length) h1
    have e2 := fread_frame [] [] (frame_frB hp)
    rw [List.append_nil, ] at e2
    rw [← hspl] at e1
    rw [e1] at e2
    injection e2 with e2
    injection e2 with e3 e4
    simp only [List.length_nil, Nat.zero_add] at e4
    omega
/-- what is left of a row of frames that is cut -/
theorem flat_cut (ps : List Bs) (hps : ∀ p ∈ ps, p.length ≤ 65536) (k : Nat) : ∃ n t, n ≤ ps.length ∧ (flat ps).take k = flat (ps.take n) ++ t ∧ Torn t ∧ (∀ j, j ≤ ps.length → ((flat (ps.take j)).length ≤ k ↔ j ≤ n)) := by
  induction ps generalizing k with
  | nil => exact ⟨0, [], by simp, by simp [flat_nil], torn_nil, fun j hj => by simp at hj; subst hj; simp [flat_nil]⟩
  | cons p ps ih =>
    rw [flat_cons]
    by_cases hk : k < (frB p).length
    · refine ⟨0, (frB p).take k, by simp, ?_, torn_prefix (hps p (by simp)) hk, fun j hj => ?_⟩
      · rw [List.take_append_of_le_length (by omega)]; simp [flat_nil]
      · rcases j with _ | j
        · simp [flat_nil]
        · rw [List.take_succ_cons, flat_cons, List.length_append]; omega
    · obtain ⟨n, t, h1, h2, h3, h4⟩ := ih (fun q hq => hps q (by simp [hq])) (k - (frB p).length)
      refine ⟨n + 1, t, by simp; omega, ?_, h3, fun j hj => ?_⟩
      · rw [List.take_append, h2, List.take_of_length_le (by omega), List.take_succ_cons, flat_cons, List.append_assoc]
      · rcases j with _ | j
        · simp [flat_nil]
        · rw [List.take_succ_cons, flat_cons, List.length_append]
          have := h4 j (by simpa using hj)
          omega
end Garner
