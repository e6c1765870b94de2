import Derived.Test.YtcjapjnhejenaaaDoorHtO
import Derived.Test.YtcjapjnhejenaaaDoorHtS
/-! HttpLimits, plain -/
namespace Garner
open Go

theorem index_none_skip {c : UInt8} {t v : Bs} (hv : Lib.index v (c :: t) = -1) : ∀ {u : Bs}, (∀ x ∈ u, x ≠ c) → Lib.index (u ++ v) (c :: t) = -1
  | [], _ => hv
  | x :: u, h => by
    have ih := index_none_skip hv (u := u) fun y hy => h y (by simp [hy])
    show Lib.index (x :: (u ++ v)) (c :: t) = -1
    simp [Lib.index, prefix_ne (h x (by simp)), ih]
theorem index_hd_none (u : Bs) (hu : NoCr u) : ∀ (ls : List Bs), Lines ls → Lib.index (hdP ls ++ u) crlf2 = -1
  | [], _ => by
    have := index_none_skip (c := 13) (t := [10, 13, 10]) (v := []) rfl hu
    rw [List.append_nil] at this
    exact this
  | l :: ls, h => by
    have ih := index_hd_none u hu ls fun x hx => h x (List.mem_cons_of_mem _ hx)
    obtain ⟨X, hX⟩ : ∃ X, X = hdP ls ++ u := ⟨_, rfl⟩
    have hs : X = [] ∨ ∃ y s, X = y :: s ∧ y ≠ 13 := by
      cases ls with
      | nil =>
        rw [hX]
        cases u with
        | nil => exact Or.inl rfl
        | cons y s => exact Or.inr ⟨y, s, rfl, hu y (by simp)⟩
      | cons l2 r =>
        obtain ⟨hne, h3⟩ := h l2 (by simp)
        cases l2 with
        | nil => exact absurd rfl hne
        | cons y t => exact Or.inr ⟨y, t ++ (crlf ++ hdP r) ++ u, by rw [hX, hdP_cons]; simp, h3 y (by simp)⟩
    rw [← hX] at ih
    have e1 : Lib.index (10 :: X) crlf2 = -1 := by
      have : crlf2.isPrefixOf (10 :: X) = false := rfl
      simp [Lib.index, this, ih]
    have e2 : Lib.index (13 :: 10 :: X) crlf2 = -1 := by
      have : crlf2.isPrefixOf (13 :: 10 :: X) = false := by
        rcases hs with hs | ⟨y, s, hs, hy⟩
        · rw [hs]; rfl
        · rw [hs]; simp [crlf2, List.isPrefixOf]; exact fun e => absurd e.symm hy
      unfold Lib.index
      rw [this]
      simp [e1]
    have := index_none_skip (c := 13) (t := [10, 13, 10]) (v := 13 :: 10 :: X) e2 (h l (by simp)).2
    rw [hdP_cons, List.append_assoc, List.append_assoc, ← hX]
    exact this
theorem trim_none {ds : Bs} (h : ∀ c ∈ ds, [32, 9].contains c = false) : Lib.trimS ds [32, 9] = ds := by
  have hr : Lib.trimRightS ds [32, 9] = ds := by
    have := Lib.trimRightS_take ds [32, 9] ds.length (Nat.le_refl _) (fun j b hj hb => by rw [List.getElem?_eq_none hj] at hb; cases hb) (fun b _ hb => h b (List.mem_of_getElem? hb))
    rw [this, List.take_length]
  unfold Lib.trimS
  rw [hr]
  exact Lib.trimLeftS_drop ds [32, 9] 0 (by omega) (fun j b hj _ => by omega) (fun b hb => h b (List.mem_of_getElem? hb))
def getL : Bs := [71, 69, 84, 32, 47, 32, 72, 84, 84, 80, 47, 49, 46, 49]
def postL : Bs := [80, 79, 83, 84, 32, 47, 32, 72, 84, 84, 80, 47, 49, 46, 49]
def hostL : Bs := [72, 111, 115, 116, 58, 32, 120]
def padL (n : Nat) : Bs := 88 :: 58 :: List.replicate n 121
theorem host_step : stepL ⟨true, 0, 0, 0, false⟩ hostL = ⟨true, 1, 0, 0, false⟩ := by kernel_rfl
theorem pad_step (n : Nat) : stepL ⟨true, 1, 0, 0, false⟩ (padL n) = ⟨true, 1, 0, 0, false⟩ := by
  have hc := cut_one (u := [88]) (c := 58) (List.replicate n 121) (by decide)
  have ht : Lib.trimS (List.replicate n 121) [32, 9] = List.replicate n 121 := trim_none fun c hc => by rw [(List.mem_replicate.1 hc).2]; rfl
  have hcl : cleanP (List.replicate n 121) = true := List.all_eq_true.2 fun c hc => by rw [(List.mem_replicate.1 hc).2]; rfl
  have htk : tokenP [88] = true := by decide +kernel
  have hlow : lowP [88] = [120] := by decide +kernel
  unfold stepL
  rw [if_pos rfl]
  unfold lineP
  have hc' : Lib.cut (padL n) [58] = ([88], List.replicate n 121, true) := hc
  simp only [hc', ht, hcl, htk, hlow, Bool.and_true]
  rw [if_neg (by decide), if_neg (by decide), if_neg (by decide)]
theorem pad_nocr (n : Nat) : NoCr (padL n) := by
  intro x hx
  simp only [padL, List.mem_cons, List.mem_replicate] at hx
  rcases hx with rfl | rfl | ⟨-, rfl⟩ <;> decide
theorem get_lines (n : Nat) : Lines [getL, hostL, padL n] := by
  intro l hl
  simp only [List.mem_cons, List.not_mem_nil, or_false] at hl
  rcases hl with rfl | rfl | rfl
  · exact ⟨by decide, by unfold NoCr; decide⟩
  · exact ⟨by decide, by unfold NoCr; decide⟩
  · exact ⟨by simp [padL], pad_nocr n⟩
theorem get_len (n : Nat) : (hdP [getL, hostL, padL n]).length = n + 29 := by
  simp [hdP, getL, hostL, padL, crlf]
theorem get_read (n : Nat) : readL getL [hostL, padL n] = ⟨[71, 69, 84], [47], [], 0, false, true⟩ := by
  have h1 : firstP getL = some ([71, 69, 84], [47]) := by kernel_rfl
  have h2 : targetP [47] = ([47], [], true) := by kernel_rfl
  unfold readL
  rw [h1]
  dsimp only
  rw [h2]
  simp only [List.foldl_cons, List.foldl_nil, host_step, pad_step]
  rfl
def longL : Bs := hdP [getL, hostL] ++ padL 2017
theorem long_eq (n m : Nat) (v : Bs) : hdP [getL, hostL] ++ padL n ++ (List.replicate m 121 ++ v) = hdP [getL, hostL] ++ padL (n + m) ++ v := by
  simp only [padL, List.append_assoc, List.cons_append]
  rw [← List.append_assoc (List.replicate n 121), List.replicate_append_replicate]
theorem hd_pad (n : Nat) (v : Bs) : hdP [getL, hostL] ++ padL n ++ (crlf ++ v) = hdP [getL, hostL, padL n] ++ v := by simp [hdP]
theorem pre_len (n : Nat) : (hdP [getL, hostL] ++ padL n).length = n + 27 := by simp [hdP, getL, hostL, padL, crlf]
theorem long_len : longL.length = 2044 := pre_len 2017
theorem lim1 : ∃ q, parseP (longL ++ crlf2) = .ok (q, 2048) := by
  have e : longL ++ crlf2 = hdP [getL, hostL, padL 2017] ++ (crlf ++ []) := hd_pad 2017 crlf
  rw [e, parseP_mk _ _ _ (get_lines 2017), get_len, get_read, if_neg (by decide), if_neg (by decide)]
  exact ⟨_, rfl⟩
theorem lim2 : parseP (longL ++ (121 :: crlf2)) = .error 61 := by
  have e : longL ++ (121 :: crlf2) = hdP [getL, hostL, padL 2018] ++ (crlf ++ []) := (long_eq 2017 1 crlf2).trans (hd_pad 2018 crlf)
  rw [e, parseP_mk _ _ _ (get_lines 2018), get_len, if_pos (by decide)]
theorem lim34 (m : Nat) : parseP (longL ++ List.replicate m 121) = .error (if 2044 + m < 2048 then 5 else 61) := by
  have e : longL ++ List.replicate m 121 = hdP [getL, hostL] ++ padL (2017 + m) := by
    have := long_eq 2017 m []
    simpa [longL] using this
  have hi : Lib.index (longL ++ List.replicate m 121) crlf2 = -1 := by
    rw [e]
    exact index_hd_none _ (pad_nocr _) _ fun l hl => get_lines 0 l (by simp at hl ⊢; rcases hl with h | h <;> simp [h])
  unfold parseP
  rw [if_pos (by rw [hi]; decide), List.length_append, long_len, List.length_replicate]
/-- the second half: a post with a body of d bytes told -/
def lenL (d : Nat) : Bs := lenName ++ 58 :: 32 :: decP d
def postH (d : Nat) : Bs := hdP [postL, hostL, lenL d]
theorem len_step (d : Nat) (hd : d ≤ 100000) : stepL ⟨true, 1, 0, 0, false⟩ (lenL d) = ⟨true, 1, 1, d, false⟩ := by
  have h := lineP_len ⟨true, 1, 0, 0, false⟩ true (ds := decP d) (decP_digs d) (decP_pos d) (Nat.le_trans (decP_len 5 d (by omega)) (by decide))
  rw [digN_dec d (by omega)] at h
  unfold stepL
  rw [if_pos rfl]
  exact h
theorem dig_nocr (d : Nat) : NoCr (decP d) := fun x hx e => by
  have := dig_facts (decP_digs d x hx)
  subst e; simp at this
theorem post_lines (d : Nat) : Lines [postL, hostL, lenL d] := by
  intro l hl
  simp only [List.mem_cons, List.not_mem_nil, or_false] at hl
  rcases hl with rfl | rfl | rfl
  · exact ⟨by decide, by unfold NoCr; decide⟩
  · exact ⟨by decide, by unfold NoCr; decide⟩
  · refine ⟨by simp [lenL], fun x hx => ?_⟩
    simp only [lenL, List.mem_append, List.mem_cons] at hx
    rcases hx with h | rfl | rfl | h
    · exact (by decide : ∀ x ∈ lenName, x ≠ 13) x h
    · decide
    · decide
    · exact dig_nocr d x h
theorem post_read (d : Nat) (hd : d ≤ 100000) : readL postL [hostL, lenL d] = ⟨[80, 79, 83, 84], [47], [], d, false, true⟩ := by
  have h1 : firstP postL = some ([80, 79, 83, 84], [47]) := by kernel_rfl
  have h2 : targetP [47] = ([47], [], true) := by kernel_rfl
  unfold readL
  rw [h1]
  dsimp only
  rw [h2]
  simp only [List.foldl_cons, List.foldl_nil, host_step, len_step d hd]
  rfl
theorem post_len (d : Nat) (hd : d ≤ 100000) : (postH d).length ≤ 60 := by
  have := decP_len 5 d (by omega)
  simp [postH, hdP, postL, hostL, lenL, lenName, crlf]; omega
theorem lim5 (d : Nat) (hd : d ≤ 100000) (v : Bs) (hv : d ≤ v.length) : eOf (parseP (postH d ++ (crlf ++ v))) = if 8192 < d then 62 else 0 := by
  have hl := post_len d hd
  unfold postH at hl ⊢
  rw [parseP_mk _ _ _ (post_lines d), if_neg (by omega), post_read d hd, if_neg (by simp)]
  simp only [bodyP, plainP]
  rw [if_neg (by decide)]
  by_cases h : 8192 < d
  · simp [h, eOf]
  · rw [if_neg h, if_neg (by omega), if_neg h]; rfl
theorem lim6 (d : Nat) (hd : d ≤ 100000) (h8 : 8192 < d) (v : Bs) : eOf (parseP (postH d ++ (crlf ++ v))) = 62 := by
  have hl := post_len d hd
  unfold postH at hl ⊢
  rw [parseP_mk _ _ _ (post_lines d), if_neg (by omega), post_read d hd, if_neg (by simp)]
  simp only [bodyP, plainP]
  rw [if_neg (by decide)]
  simp [h8, eOf]
end Garner
