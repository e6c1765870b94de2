import Derived.Lib.ItoaNum
import Derived.Test.YtmalkgakdmghiaaPa11
/-! layer 3, plain: a rising list in bits -/
namespace Garner
open Go

def gapsN : List Nat → List Nat
  | a :: b :: r => (b - a - 1) :: gapsN (b :: r)
  | _ => []
theorem gapsN_len : ∀ l : List Nat, (gapsN l).length = l.length - 1
  | [] => rfl
  | [_] => rfl
  | a :: b :: r => by rw [gapsN, List.length_cons, gapsN_len (b :: r)]; simp
theorem gapsN_at : ∀ (l : List Nat) (i : Nat) (h : i + 1 < l.length), (gapsN l)[i]? = some (l[i + 1] - l[i] - 1)
  | [], i, h => by simp at h
  | [_], i, h => by simp at h
  | a :: b :: r, 0, _ => rfl
  | a :: b :: r, i + 1, h => by
    rw [gapsN, List.getElem?_cons_succ, gapsN_at (b :: r) i (by simpa using h)]
    rfl
def maxBits (ds : List Nat) : Nat := ds.foldl (fun w d => max w (Lib.bitLen d)) 0
theorem foldl_max_ge (ds : List Nat) : ∀ w, w ≤ ds.foldl (fun w d => max w (Lib.bitLen d)) w ∧ ∀ d ∈ ds, Lib.bitLen d ≤ ds.foldl (fun w d => max w (Lib.bitLen d)) w := by
  induction ds with
  | nil => intro w; exact ⟨Nat.le_refl _, by simp⟩
  | cons x ds ih =>
    intro w
    rw [List.foldl_cons]
    obtain ⟨h1, h2⟩ := ih (max w (Lib.bitLen x))
    refine ⟨by omega, fun d hd => ?_⟩
    rcases List.mem_cons.1 hd with rfl | hd
    · omega
    · exact h2 d hd
theorem maxBits_ge {ds : List Nat} {d : Nat} (h : d ∈ ds) : Lib.bitLen d ≤ maxBits ds := (foldl_max_ge ds 0).2 d h
theorem maxBits_snoc (ds : List Nat) (d : Nat) : maxBits (ds ++ [d]) = max (maxBits ds) (Lib.bitLen d) := by simp [maxBits]
theorem foldl_max_le (ds : List Nat) {n : Nat} (h : ∀ d ∈ ds, Lib.bitLen d ≤ n) : ∀ w, w ≤ n → ds.foldl (fun w d => max w (Lib.bitLen d)) w ≤ n := by
  induction ds with
  | nil => intro w hw; exact hw
  | cons x ds ih =>
    intro w hw
    rw [List.foldl_cons]
    exact ih (fun d hd => h d (by simp [hd])) _ (by have := h x (by simp); omega)
theorem maxBits_le {ds : List Nat} {n : Nat} (h : ∀ d ∈ ds, Lib.bitLen d ≤ n) : maxBits ds ≤ n := foldl_max_le ds h 0 (Nat.zero_le _)
theorem gap_lt {l : List Nat} (hl : ∀ x ∈ l, x < 18446744073709551616) {d : Nat} (h : d ∈ gapsN l) : d < 18446744073709551616 := by
  obtain ⟨i, hi, rfl⟩ := List.mem_iff_getElem.1 h
  have h1 : i + 1 < l.length := by rw [gapsN_len] at hi; omega
  have h2 := gapsN_at l i h1
  rw [List.getElem?_eq_getElem hi] at h2
  have h3 := Option.some.inj h2
  have := hl _ (List.getElem_mem h1)
  omega
theorem lt_bitLen {d : Nat} (h : d < 18446744073709551616) : d < 2 ^ Lib.bitLen d := by
  by_cases e : d = 0
  · subst e; exact Nat.two_pow_pos _
  · exact (Lib.bitLenAux_bounds 64 d (by simpa using h) e).2.2
theorem bits_lt {ds : List Nat} (hd : ∀ d ∈ ds, d < 18446744073709551616) : ∀ d ∈ ds, d < 2 ^ maxBits ds := fun d h =>
  Nat.lt_of_lt_of_le (lt_bitLen (hd d h)) (Nat.pow_le_pow_right (by omega) (maxBits_ge h))
theorem bitLen_le64 {d : Nat} (h : d < 18446744073709551616) : Lib.bitLen d ≤ 64 := by
  by_cases e : d = 0
  · subst e; decide
  · obtain ⟨h1, h2, _⟩ := Lib.bitLenAux_bounds 64 d (by simpa using h) e
    apply Nat.le_of_not_lt
    intro h3
    have h4 : 2 ^ 64 ≤ 2 ^ (Lib.bitLen d - 1) := Nat.pow_le_pow_right (by omega) (by omega)
    have h5 : 2 ^ (Lib.bitLen d - 1) ≤ d := h2
    have : (2:Nat) ^ 64 = 18446744073709551616 := by decide
    omega
theorem maxBits_le64 {ds : List Nat} (h : ∀ d ∈ ds, d < 18446744073709551616) : maxBits ds ≤ 64 := maxBits_le fun d hd => bitLen_le64 (h d hd)
/-- the bytes of the gaps -/
def bodyN (l : List Nat) : Bs := packN (maxBits (gapsN l)) (List.replicate (szN (l.length - 1) (maxBits (gapsN l))) 0) (gapsN l) (gapsN l).length
theorem bodyN_len (l : List Nat) : (bodyN l).length = szN (l.length - 1) (maxBits (gapsN l)) := by unfold bodyN; rw [packN_len, List.length_replicate]
def packB (l : List Nat) : Bs :=
  put1 l.length ++ match l with
    | [] => []
    | [x] => put1 x
    | x :: _ :: _ => put1 x ++ (UInt8.ofNat (maxBits (gapsN l)) :: bodyN l)
def risingB : List Nat → Bool
  | a :: b :: r => decide (a < b) && risingB (b :: r)
  | _ => true
theorem rising_at : ∀ {l : List Nat}, risingB l = true → ∀ (i : Nat) (h : i + 1 < l.length), l[i] < l[i + 1]
  | [], _, i, h => by simp at h
  | [_], _, i, h => by simp at h
  | a :: b :: r, hr, 0, _ => by
    rw [risingB, Bool.and_eq_true, decide_eq_true_eq] at hr
    exact hr.1
  | a :: b :: r, hr, i + 1, h => by
    rw [risingB, Bool.and_eq_true, decide_eq_true_eq] at hr
    exact rising_at hr.2 i (by simpa using h)
theorem rising_of : ∀ {l : List Nat}, (∀ (i : Nat) (h : i + 1 < l.length), l[i] < l[i + 1]) → risingB l = true
  | [], _ => rfl
  | [_], _ => rfl
  | a :: b :: r, h => by
    rw [risingB, Bool.and_eq_true, decide_eq_true_eq]
    exact ⟨h 0 (by simp), rising_of fun i hi => h (i + 1) (by simpa using hi)⟩
theorem rising_not {l : List Nat} {i : Nat} (h : i + 1 < l.length) (hn : ¬ l[i] < l[i + 1]) : risingB l = false := by
  cases e : risingB l
  · rfl
  · exact absurd (rising_at e i h) hn
def packP (l : List Nat) : Except Nat Bs := if 65536 < l.length then .error 3 else if risingB l then .ok (packB l) else .error 1
end Garner
/-! layers 3 and 11, plain: what is read of a packed list; blocks; seeks -/
namespace Garner
open Go

theorem szN_ge {n k w : Nat} (h : k < n) : ((k + 1) * w + 7) / 8 ≤ szN n w := by
  unfold szN
  have : (k + 1) * w ≤ n * w := Nat.mul_le_mul_right _ h
  omega
theorem body_get {l : List Nat} (hl : ∀ x ∈ l, x < 18446744073709551616) {i : Nat} (hi : i + 1 < l.length) : getN (bodyN l) (i * maxBits (gapsN l)) (maxBits (gapsN l)) = l[i + 1] - l[i] - 1 := by
  have hi2 : i < (gapsN l).length := by rw [gapsN_len]; omega
  have h := getN_pack (maxBits (gapsN l)) (gapsN l) (szN (l.length - 1) (maxBits (gapsN l))) (fun k hk => szN_ge (by rw [gapsN_len] at hk; exact hk)) (bits_lt fun d hd => gap_lt hl hd) hi2
  have h2 := gapsN_at l i hi
  rw [List.getElem?_eq_getElem hi2] at h2
  rw [← Option.some.inj h2, ← h]
  rfl
theorem body_rest {l : List Nat} (hl : ∀ x ∈ l, x < 18446744073709551616) (m : Nat) : getN (bodyN l) ((l.length - 1) * maxBits (gapsN l)) m = 0 := by
  have h := getN_rest (maxBits (gapsN l)) (gapsN l) (szN (l.length - 1) (maxBits (gapsN l))) (fun k hk => szN_ge (by rw [gapsN_len] at hk; exact hk)) (bits_lt fun d hd => gap_lt hl hd) m
  rw [gapsN_len] at h
  rw [← h, bodyN, gapsN_len]
theorem packN_take {w : Nat} {b : Bs} {ds : List Nat} {k : Nat} (h : k < ds.length) : packN w b ds (k + 1) = putN (packN w b ds k) (k * w) ds[k] w := by
  rw [packN, List.getElem?_eq_getElem h]; rfl
theorem maxBits_take {ds : List Nat} {k : Nat} (h : k < ds.length) : maxBits (ds.take (k + 1)) = max (maxBits (ds.take k)) (Lib.bitLen ds[k]) := by
  rw [List.take_succ_eq_append_getElem h, maxBits_snoc]
theorem packB_len {l : List Nat} (hl : ∀ x ∈ l, x < 18446744073709551616) (h32 : l.length ≤ 65536) : (packB l).length ≤ 21 + l.length * 8 := by
  unfold packB
  rw [List.length_append]
  have h1 := put1_len (n := l.length) (by omega)
  match l, hl with
  | [], _ => simp at h1 ⊢; omega
  | [x], hl =>
    have := put1_len (hl x (by simp))
    simp at h1 ⊢; omega
  | x :: y :: r, hl =>
    have h2 := put1_len (hl x (by simp))
    have h3 := maxBits_le64 (ds := gapsN (x :: y :: r)) fun d hd => gap_lt hl hd
    have h4 : (bodyN (x :: y :: r)).length ≤ (x :: y :: r).length * 8 := by
      rw [bodyN_len]; unfold szN
      have : ((x :: y :: r).length - 1) * maxBits (gapsN (x :: y :: r)) ≤ ((x :: y :: r).length - 1) * 64 := Nat.mul_le_mul_left _ h3
      simp at this ⊢; omega
    simp only [List.length_append, List.length_cons] at *
    omega

/-! a rising list and its blocks -/
theorem rising_pw : ∀ {l : List Nat}, risingB l = true → l.Pairwise (· < ·)
  | [], _ => List.Pairwise.nil
  | [_], _ => by simp
  | a :: b :: r, h => by
    rw [risingB, Bool.and_eq_true, decide_eq_true_eq] at h
    have ih := rising_pw h.2
    refine List.Pairwise.cons (fun x hx => ?_) ih
    rcases List.mem_cons.1 hx with rfl | hx
    · exact h.1
    · exact Nat.lt_trans h.1 ((List.pairwise_cons.1 ih).1 x hx)
theorem pw_rising {l : List Nat} (h : l.Pairwise (· < ·)) : risingB l = true :=
  rising_of fun i hi => List.pairwise_iff_getElem.1 h i (i + 1) (by omega) hi (by omega)

/-- pieces of 32 -/
def blocks : Nat → List Nat → List (List Nat)
  | 0, _ => []
  | n + 1, l => l.take 32 :: blocks n (l.drop 32)
def nBlk (l : List Nat) : Nat := (l.length + 31) / 32
theorem blocks_len : ∀ (n : Nat) (l : List Nat), (blocks n l).length = n
  | 0, _ => rfl
  | n + 1, l => by rw [blocks, List.length_cons, blocks_len]
theorem blocks_at : ∀ (n : Nat) (l : List Nat) (k : Nat) (h : k < (blocks n l).length), (blocks n l)[k] = (l.drop (32 * k)).take 32
  | 0, _, k, h => by simp [blocks] at h
  | n + 1, l, 0, _ => by simp [blocks]
  | n + 1, l, k + 1, h => by
    simp only [blocks, List.getElem_cons_succ]
    rw [blocks_at n (l.drop 32) k (by simpa [blocks] using h), List.drop_drop]
    congr 2; omega
theorem blocks_flat : ∀ (n : Nat) (l : List Nat), l.length ≤ 32 * n → (blocks n l).flatten = l
  | 0, l, h => by
    have : l = [] := List.length_eq_zero_iff.1 (by omega)
    subst this; rfl
  | n + 1, l, h => by
    rw [blocks, List.flatten_cons, blocks_flat n _ (by rw [List.length_drop]; omega), List.take_append_drop]
def lastN (p : List Nat) : Nat := (p[p.length - 1]?).getD 0
def headB (bs : List (List Nat)) : Bs := bs.flatMap fun p => put1 (lastN p) ++ put1 (packB p).length
def bodyB (bs : List (List Nat)) : Bs := bs.flatMap packB
def postB (l : List Nat) : Bs := put1 (nBlk l) ++ (headB (blocks (nBlk l) l) ++ bodyB (blocks (nBlk l) l))
def postP (l : List Nat) : Except Nat Bs := if 65536 < l.length then .error 3 else if risingB l then .ok (postB l) else .error 1
theorem headB_snoc (bs : List (List Nat)) (p : List Nat) : headB (bs ++ [p]) = headB bs ++ (put1 (lastN p) ++ put1 (packB p).length) := by simp [headB]
theorem bodyB_snoc (bs : List (List Nat)) (p : List Nat) : bodyB (bs ++ [p]) = bodyB bs ++ packB p := by simp [bodyB]
theorem headB_take {bs : List (List Nat)} {k : Nat} (h : k < bs.length) : headB (bs.take (k + 1)) = headB (bs.take k) ++ (put1 (lastN bs[k]) ++ put1 (packB bs[k]).length) := by
  rw [List.take_succ_eq_append_getElem h, headB_snoc]
theorem bodyB_take {bs : List (List Nat)} {k : Nat} (h : k < bs.length) : bodyB (bs.take (k + 1)) = bodyB (bs.take k) ++ packB bs[k] := by
  rw [List.take_succ_eq_append_getElem h, bodyB_snoc]
theorem headB_split (bs : List (List Nat)) (k : Nat) : headB bs = headB (bs.take k) ++ headB (bs.drop k) := by
  unfold headB; rw [← List.flatMap_append, List.take_append_drop]
theorem bodyB_split (bs : List (List Nat)) (k : Nat) : bodyB bs = bodyB (bs.take k) ++ bodyB (bs.drop k) := by
  unfold bodyB; rw [← List.flatMap_append, List.take_append_drop]
theorem headB_drop {bs : List (List Nat)} {k : Nat} (h : k < bs.length) : headB (bs.drop k) = put1 (lastN bs[k]) ++ (put1 (packB bs[k]).length ++ headB (bs.drop (k + 1))) := by
  unfold headB; rw [List.drop_eq_getElem_cons h, List.flatMap_cons, List.append_assoc]
theorem bodyB_drop {bs : List (List Nat)} {k : Nat} (h : k < bs.length) : bodyB (bs.drop k) = packB bs[k] ++ bodyB (bs.drop (k + 1)) := by
  unfold bodyB; rw [List.drop_eq_getElem_cons h, List.flatMap_cons]

/-! seeks -/
def seekR (n : Nat) (r : List Nat) : List Nat := r.dropWhile fun x => decide (x < n)
theorem seekR_skip {n : Nat} {a : List Nat} (h : ∀ x ∈ a, x < n) (r : List Nat) : seekR n (a ++ r) = seekR n r := by
  unfold seekR
  induction a with
  | nil => rfl
  | cons x a ih =>
    rw [List.cons_append, List.dropWhile_cons_of_pos (by simpa using h x (by simp)), ih fun y hy => h y (by simp [hy])]
theorem seekR_hit {n x : Nat} {a r : List Nat} (h : ∀ x ∈ a, x < n) (hx : n ≤ x) : seekR n (a ++ x :: r) = x :: r := by
  rw [seekR_skip h]
  unfold seekR
  rw [List.dropWhile_cons_of_neg (by simpa using hx)]
theorem seekR_none {n : Nat} {a : List Nat} (h : ∀ x ∈ a, x < n) : seekR n a = [] := by
  have := seekR_skip h []
  rw [List.append_nil] at this
  rw [this]; rfl
/-- of a rising piece all are at most its last -/
theorem le_last {p : List Nat} (h : p.Pairwise (· < ·)) {x : Nat} (hx : x ∈ p) : x ≤ lastN p := by
  obtain ⟨i, hi, rfl⟩ := List.mem_iff_getElem.1 hx
  unfold lastN
  rw [List.getElem?_eq_getElem (by omega)]
  simp only [Option.getD_some]
  by_cases e : i = p.length - 1
  · subst e; omega
  · exact Nat.le_of_lt (List.pairwise_iff_getElem.1 h i (p.length - 1) hi (by omega) (by omega))
theorem last_mem {p : List Nat} (h : p ≠ []) : lastN p ∈ p := by
  have hp : 0 < p.length := List.length_pos_iff.2 h
  unfold lastN
  rw [List.getElem?_eq_getElem (by omega)]
  exact List.getElem_mem _
end Garner
