import Derived.Lib.ItoaNum
import Derived.Test.YtmalkgakdmghiaaPkP
/-! layer 3, plain: a rising list in bits -/
namespace Garner
open Go

def gapsN : List Nat → List Nat
  | a :: b :: r => (b - a - 1) :: gapsN (b :: r)
  | _ => []
theorem gapsN_len : ∀ l : List Nat, (gapsN l).length = l.length - 1
  | [] => rfl
  | [_] => rfl
  | a :: b :: r => by rw [gapsN, List.length_cons, gapsN_len (b :: r)]; simp
theorem gapsN_at : ∀ (l : List Nat) (i : Nat) (h : i + 1 < l.length), (gapsN l)[i]? = some (l[i + 1] - l[i] - 1)
  | [], i, h => by simp at h
  | [_], i, h => by simp at h
  | a :: b :: r, 0, _ => rfl
  | a :: b :: r, i + 1, h => by
    rw [gapsN, List.getElem?_cons_succ, gapsN_at (b :: r) i (by simpa using h)]
    rfl
def maxBits (ds : List Nat) : Nat := ds.foldl (fun w d => max w (Lib.bitLen d)) 0
theorem foldl_max_ge (ds : List Nat) : ∀ w, w ≤ ds.foldl (fun w d => max w (Lib.bitLen d)) w ∧ ∀ d ∈ ds, Lib.bitLen d ≤ ds.foldl (fun w d => max w (Lib.bitLen d)) w := by
  induction ds with
  | nil => intro w; exact ⟨Nat.le_refl _, by simp⟩
  | cons x ds ih =>
    intro w
    rw [List.foldl_cons]
    obtain ⟨h1, h2⟩ := ih (max w (Lib.bitLen x))
    refine ⟨by omega, fun d hd => ?_⟩
    rcases List.mem_cons.1 hd with rfl | hd
    · omega
    · exact h2 d hd
theorem maxBits_ge {ds : List Nat} {d : Nat} (h : d ∈ ds) : Lib.bitLen d ≤ maxBits ds := (foldl_max_ge ds 0).2 d h
theorem maxBits_snoc (ds : List Nat) (d : Nat) : maxBits (ds ++ [d]) = max (maxBits ds) (Lib.bitLen d) := by simp [maxBits]
theorem foldl_max_le (ds : List Nat) {n : Nat} (h : ∀ d ∈ ds, Lib.bitLen d ≤ n) : ∀ w, w ≤ n → ds.foldl (fun w d => max w (Lib.bitLen d)) w ≤ n := by
  induction ds with
  | nil => intro w hw; exact hw
  | cons x ds ih =>
    intro w hw
    rw [List.foldl_cons]
    exact ih (fun d hd => h d (by simp [hd])) _ (by have := h x (by simp); omega)
theorem maxBits_le {ds : List Nat} {n : Nat} (h : ∀ d ∈ ds, Lib.bitLen d ≤ n) : maxBits ds ≤ n := foldl_max_le ds h 0 (Nat.zero_le _)
theorem gap_lt {l : List Nat} (hl : ∀ x ∈ l, x < 18446744073709551616) {d : Nat} (h : d ∈ gapsN l) : d < 18446744073709551616 := by
  obtain ⟨i, hi, rfl⟩ := List.mem_iff_getElem.1 h
  have h1 : i + 1 < l.length := by rw [gapsN_len] at hi; omega
  have h2 := gapsN_at l i h1
  rw [List.getElem?_eq_getElem hi] at h2
  have h3 := Option.some.inj h2
  have := hl _ (List.getElem_mem h1)
  omega
theorem lt_bitLen {d : Nat} (h : d < 18446744073709551616) : d < 2 ^ Lib.bitLen d := by
  by_cases e : d = 0
  · subst e; exact Nat.two_pow_pos _
  · exact (Lib.bitLenAux_bounds 64 d (by simpa using h) e).2.2
theorem bits_lt {ds : List Nat} (hd : ∀ d ∈ ds, d < 18446744073709551616) : ∀ d ∈ ds, d < 2 ^ maxBits ds := fun d h =>
  Nat.lt_of_lt_of_le (lt_bitLen (hd d h)) (Nat.pow_le_pow_right (by omega) (maxBits_ge h))
theorem bitLen_le64 {d : Nat} (h : d < 18446744073709551616) : Lib.bitLen d ≤ 64 := by
  by_cases e : d = 0
  · subst e; decide
  · obtain ⟨h1, h2, _⟩ := Lib.bitLenAux_bounds 64 d (by simpa using h) e
    apply Nat.le_of_not_lt
    intro h3
    have h4 : 2 ^ 64 ≤ 2 ^ (Lib.bitLen d - 1) := Nat.pow_le_pow_right (by omega) (by omega)
    have h5 : 2 ^ (Lib.bitLen d - 1) ≤ d := h2
    have : (2:Nat) ^ 64 = 18446744073709551616 := by decide
    omega
theorem maxBits_le64 {ds : List Nat} (h : ∀ d ∈ ds, d < 18446744073709551616) : maxBits ds ≤ 64 := maxBits_le fun d hd => bitLen_le64 (h d hd)
/-- the bytes of the gaps -/
def bodyN (l : List Nat) : Bs := packN (maxBits (gapsN l)) (List.replicate (szN (l.length - 1) (maxBits (gapsN l))) 0) (gapsN l) (gapsN l).length
theorem bodyN_len (l : List Nat) : (bodyN l).length = szN (l.length - 1) (maxBits (gapsN l)) := by unfold bodyN; rw [packN_len, List.length_replicate]
def packB (l : List Nat) : Bs :=
  put1 l.length ++ match l with
    | [] => []
    | [x] => put1 x
    | x :: _ :: _ => put1 x ++ (UInt8.ofNat (maxBits (gapsN l)) :: bodyN l)
def risingB : List Nat → Bool
  | a :: b :: r => decide (a < b) && risingB (b :: r)
  | _ => true
theorem rising_at : ∀ {l : List Nat}, risingB l = true → ∀ (i : Nat) (h : i + 1 < l.length), l[i] < l[i + 1]
  | [], _, i, h => by simp at h
  | [_], _, i, h => by simp at h
  | a :: b :: r, hr, 0, _ => by
    rw [risingB, Bool.and_eq_true, decide_eq_true_eq] at hr
    exact hr.1
  | a :: b :: r, hr, i + 1, h => by
    rw [risingB, Bool.and_eq_true, decide_eq_true_eq] at hr
    exact rising_at hr.2 i (by simpa using h)
theorem rising_of : ∀ {l : List Nat}, (∀ (i : Nat) (h : i + 1 < l.length), l[i] < l[i + 1]) → risingB l = true
  | [], _ => rfl
  | [_], _ => rfl
  | a :: b :: r, h => by
    rw [risingB, Bool.and_eq_true, decide_eq_true_eq]
    exact ⟨h 0 (by simp), rising_of fun i hi => h (i + 1) (by simpa using hi)⟩
theorem rising_not {l : List Nat} {i : Nat} (h : i + 1 < l.length) (hn : ¬ l[i] < l[i + 1]) : risingB l = false := by
  cases e : risingB l
  · rfl
  · exact absurd (rising_at e i h) hn
def packP (l : List Nat) : Except Nat Bs := if 65536 < l.length then .error 3 else if risingB l then .ok (packB l) else .error 1
end Garner
