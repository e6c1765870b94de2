import Derived.Test.YtkojmgnbmnjmmaaDoorNlRow
/-! LitPlain: the walk -/
namespace Garner
open Go
theorem quoteB_ge (l : Bs) : l.length ≤ (quoteB l).length := by
  induction l with
  | nil => simp [quoteB]
  | cons c l ih =>
    have e : quoteB (c :: l) = (if c ∈ specB then [92, c] else [c]) ++ quoteB l := by simp [quoteB]
    rw [e, List.length_append, List.length_cons]
    split <;> simp <;> omega
theorem no_repl {s : Bs} (hv : Lib.validD s = true) (h : Lib.contains s [239, 191, 189] = false) : ∀ r ∈ runesP s, r ≠ 65533 := by
  rintro r hr rfl
  rw [← Bool.not_eq_true, contains_iff] at h
  obtain ⟨a, b, e⟩ := List.append_of_mem hr
  have h1 := valid_enc _ s (Nat.le_refl _) hv
  have e2 : encR 65533 = [239, 191, 189] := by kernel_rfl
  have e3 : encT (65533 :: b) = encR 65533 ++ encT b := by simp [encT, encR]
  have e4 : encT (a ++ 65533 :: b) = encT a ++ encT (65533 :: b) := by simp [encT]
  rw [e, e4, e3, e2] at h1
  exact h ⟨encT a, encT b, by rw [← h1, List.append_assoc]⟩
theorem once_addL (s : Bs) : onceB (addL s) = addL s := by
  apply onceB_of_asc
  unfold addL
  split <;> simp [AscB]
theorem plain_needs {s : Bs} (hv : Lib.validD s = true) (h : Lib.contains s [239, 191, 189] = false) : onceB (litT (rowOf ((runesP s).map litS))) = addL s := by
  rw [plain_lit _ (no_repl hv h), valid_enc _ s (Nat.le_refl _) hv, once_addL]
end Garner
namespace Go.Proofs.YtkojmgnbmnjmmaaDoor
open Go.RowKit Garner
/-- what a quoted text needs -/
theorem quote_needs (s : Bs) : (∃ k, (k = 4 ∨ k = 8) ∧ needsE (quoteB s) = .error k ∧ wordsE (quoteB s) = .error k) ∨ ∃ N W, needsE (quoteB s) = .ok N ∧ wordsE (quoteB s) = .ok W ∧ s.length ≤ 128 ∧ (Lib.contains s [239, 191, 189] = false → N = addL s ∧ W = (if s = [] then [] else innerP s)) := by
  have hp := quote_parse s
  by_cases hl : 128 < (quoteB s).length
  · rw [if_pos hl] at hp
    have h1 : needsE (quoteB s) = .error 4 := by unfold needsE; rw [hp]
    exact .inl ⟨4, .inl rfl, h1, by unfold wordsE; rw [h1]⟩
  rw [if_neg hl] at hp
  by_cases hv : Lib.validD s = false
  · rw [if_pos hv] at hp
    have h1 : needsE (quoteB s) = .error 8 := by unfold needsE; rw [hp]
    exact .inl ⟨8, .inr rfl, h1, by unfold wordsE; rw [h1]⟩
  rw [if_neg hv] at hp
  have h1 : needsE (quoteB s) = .ok (onceB (litT (rowOf ((runesP s).map litS)))) := by unfold needsE; rw [hp]; rfl
  refine .inr ⟨_, _, h1, by unfold wordsE; rw [h1], by have := quoteB_ge s; omega, fun hc => ?_⟩
  have h2 := plain_needs (by simpa using hv) hc
  rw [h2]
  refine ⟨rfl, ?_⟩
  unfold addL
  by_cases h0 : s = []
  · rw [if_pos h0, if_pos h0, ← onceR_eq]; rfl
  · rw [if_neg h0, if_neg h0, List.flatMap_cons, List.flatMap_nil, List.append_nil]
    exact onceB_once _
set_option maxRecDepth 100000 in
set_option maxHeartbeats 32000000 in
theorem lawLP (S : ByteArray) (s : Bs) (hS : S = ⟨s.toArray⟩) (w : World) (hL : Lt w) (hs : s.length ≤ 140737488355328) :
    Calls Tryd.prog 5 #[.string S] w fun e w' => e = .returned (.bool true) ∧ Below w.heap.size w w' := by
  have h0 := vAwake21 w hL
  obtain ⟨n, hn⟩ : ∃ n, s.length = n := ⟨_, rfl⟩
  have zS : S.size = n := by rw [hS, ← hn]; exact str_size s
  rw [hn] at hs
  have HS := Lib.hid hS; have Hn := Lib.hid hn; have H0 := Lib.hid h0; have HL := Lib.hid hL
  clear hS hn h0 hL
  go_enter Tryd.func5, Tryd.ntmps5
  go_wp2_with fail
  refine H0.out.mono ?_
  rintro e w1 ⟨rfl, hb1⟩
  have HW1 := Lib.hid hb1
  clear hb1
  go_wp2
  go_loopw [3, 4] (fun v i wr => ∃ (j : Nat) (D : ByteArray), j ≤ n ∧ i = .int .i64 j ∧ v = .string D ∧ Hid (D = ⟨(quoteB (s.take j)).toArray⟩) ∧ D.size ≤ 2 * j ∧ wr = w1) (fun _ i _ => n - (intOf i).toNat)
  case atStart => exact ⟨0, _, Nat.zero_le _, rfl, rfl, Lib.hid rfl, Nat.le_refl _, rfl⟩
  case round =>
    obtain ⟨j, D, hj, rfl, rfl, hD, hDs, hwr⟩ := hrel
    obtain rfl : w1 = wr := hwr.symm
    have wj1 : IntKind.i64.wrap ((j : Int) + 1) = ((j + 1 : Nat) : Int) := by rw [IntKind.wrap_i64]; omega
    by_cases hlt : j < n
    · have z1 : (j : Int) < (n : Int) := by omega
      obtain ⟨c, hc⟩ : ∃ c, s[j]? = some c := ⟨_, List.getElem?_eq_getElem (by rw [Hn.out]; exact hlt)⟩
      have htk : s.take (j + 1) = s.take j ++ [c] := by rw [List.take_add_one, hc]; rfl
      have hex : S.extract j (j + 1) = ⟨#[c]⟩ := by
        rw [HS.out]
        apply ByteArray.ext
        apply Array.toList_inj.1
        have h2 := (List.getElem?_eq_some_iff.1 hc)
        simp [ByteArray.extract_mk]
        rw [List.drop_eq_getElem_cons h2.1, h2.2]
        rfl
      have hq := quoteB_snoc (s.take j) c
      rw [← htk] at hq
      have hH := vHas1 specB ⟨#[92, 40, 41, 91, 93, 123, 125, 42, 43, 63, 124, 46, 94, 36]⟩ rfl c w1
      have hcon : Lib.contains specB [c] = decide (c ∈ specB) := by rw [Bool.eq_iff_iff, contains_one, decide_eq_true_iff]
      rw [hcon] at hH
      have zD : D.size ≤ 1000000000000000 := by omega
      have hlen := quoteB_le (s.take (j + 1))
      by_cases hsp : c ∈ specB
      · rw [if_pos hsp] at hq
        rw [decide_eq_true hsp] at hH
        obtain ⟨D2, d2, e2, s2⟩ := cat2 (B := ⟨#[92, c]⟩) (b := [92, c]) hD.out rfl
        have hd2 : D2 = ⟨(quoteB (s.take (j + 1))).toArray⟩ := by rw [e2, hq]
        have hs2 : D2.size ≤ 2 * (j + 1) := by
          rw [hd2, str_size]
          rw [List.length_take] at hlen
          omega
        have d3 : (⟨#[92]⟩ : ByteArray) ++ ⟨#[c]⟩ = ⟨#[92, c]⟩ := by apply ByteArray.ext; simp
        have HH := Lib.hid hH; have HD2 := Lib.hid hd2; have HS2 := Lib.hid hs2
        clear hH hd2 hs2 e2 s2 hq hlen htk hc hcon hsp hDs
        go_wp2_with (with_reducible refine HH.out.mono ?_; rintro e wy ⟨rfl, hz⟩; obtain rfl : w1 = wy := hz.symm)
        go_roundw
        case rel => exact ⟨j + 1, D2, by omega, by go_num, rfl, HD2, HS2.out, by first | rfl | trivial⟩
        case measure => simp [intOf]; omega
      · rw [if_neg hsp] at hq
        rw [decide_eq_false hsp] at hH
        obtain ⟨D2, d2, e2, s2⟩ := cat2 (B := ⟨#[c]⟩) (b := [c]) hD.out rfl
        have hd2 : D2 = ⟨(quoteB (s.take (j + 1))).toArray⟩ := by rw [e2, hq]
        have hs2 : D2.size ≤ 2 * (j + 1) := by
          rw [hd2, str_size]
          rw [List.length_take] at hlen
          omega
        have HH := Lib.hid hH; have HD2 := Lib.hid hd2; have HS2 := Lib.hid hs2
        clear hH hd2 hs2 e2 s2 hq hlen htk hc hcon hsp hDs
        go_wp2_with (with_reducible refine HH.out.mono ?_; rintro e wy ⟨rfl, hz⟩; obtain rfl : w1 = wy := hz.symm)
        go_roundw
        case rel => exact ⟨j + 1, D2, by omega, by go_num, rfl, HD2, HS2.out, by first | rfl | trivial⟩
        case measure => simp [intOf]; omega
    · obtain rfl : j = n := by omega
      have z1 : ¬ (j : Int) < (j : Int) := by omega
      have hfin : str (quoteB s) = .string D := by rw [hD.out, List.take_of_length_le (by rw [Hn.out]; exact Nat.le_refl _)]
      have hql := quoteB_le s
      have h1 := vNeeds (quoteB s) w1 (HL.out.below HW1.out) (by have := Hn.out; omega)
      have h2 : ∀ wx, Below w1.heap.size w1 wx → Calls Tryd.prog 20 #[.string D] wx fun e w' => Below wx.heap.size wx w' ∧ StrsP (wordsE (quoteB s)) wx.heap.size e w' := fun wx hx => by
        have := vWords (quoteB s) wx (HL.out.below (HW1.out.trans (hx.mono HW1.out.size))) (by have := Hn.out; omega)
        rw [hfin] at this
        exact this
      rw [hfin] at h1
      have HF := Lib.hid hfin
      clear hfin hD hql
      rcases quote_needs s with ⟨k, hk, en, ew⟩ | ⟨N, W, en, ew, hsl, hNW⟩
      · rw [en] at h1
        rw [ew] at h2
        have H1 := Lib.hid h1; have H2 := Lib.hid h2
        clear h1 h2 en ew
        rcases hk with rfl | rfl
        all_goals
          go_wp2_with fail
          refine H1.out.mono ?_
          rintro e w2 ⟨hb2, he⟩
          obtain rfl : e = _ := he
          have H3 := Lib.hid (H2.out w2 hb2)
          have HW2 := Lib.hid (HW1.out.trans (hb2.mono HW1.out.size))
          clear hb2
          go_wp2_with fail
          refine H3.out.mono ?_
          rintro e w3 ⟨hb3, he⟩
          obtain rfl : e = _ := he
          have HW3 := Lib.hid (HW2.out.trans (hb3.mono HW2.out.size))
          clear hb3
          go_wp2
          go_ret
          exact ⟨rfl, HW3.out⟩
      · rw [en] at h1
        rw [ew] at h2
        have hnl := (needs_ok en).1
        have H1 := Lib.hid h1; have H2 := Lib.hid h2; have HNW := Lib.hid hNW; have Hnl := Lib.hid hnl; have Hsl := Lib.hid hsl
        clear h1 h2 en ew hNW hnl hsl
        go_wp2_with fail
        refine H1.out.mono ?_
        rintro e w2 ⟨hb2, v2, rfl, o2⟩
        obtain ⟨A2, c2, rfl, -⟩ := own_form o2
        obtain ⟨n2, hn2⟩ : ∃ n2, N.length = n2 := ⟨_, rfl⟩
        rw [hn2] at o2 ⊢
        have H3 := Lib.hid (H2.out w2 hb2)
        have HW2 := Lib.hid (HW1.out.trans (hb2.mono HW1.out.size)); have O2 := Lib.hid o2; have Hn2 := Lib.hid hn2
        clear hb2 o2 hn2
        go_wp2_with fail
        refine H3.out.mono ?_
        rintro e w3 ⟨hb3, v3, rfl, o3⟩
        obtain ⟨A3, c3, rfl, -⟩ := own_form o3
        obtain ⟨n3, hn3⟩ : ∃ n3, W.length = n3 := ⟨_, rfl⟩
        rw [hn3] at o3 ⊢
        have HW3 := Lib.hid (HW2.out.trans (hb3.mono HW2.out.size)); have O23 := Lib.hid (own_below O2.out hb3); have O3 := Lib.hid o3; have Hn3 := Lib.hid hn3
        clear hb3 o3 hn3
        by_cases h0 : s = []
        · subst h0
          have e0 : S = ⟨#[]⟩ := by rw [HS.out]
          have hc0 : Lib.contains [] [239, 191, 189] = false := by
            rw [← Bool.not_eq_true, contains_iff]
            rintro ⟨a, b, e⟩
            have := congrArg List.length e
            simp at this
          obtain ⟨hN0, hW0⟩ := HNW.out hc0
          obtain rfl : n2 = 0 := by rw [← Hn2.out, hN0]; rfl
          obtain rfl : n3 = 0 := by rw [← Hn3.out, hW0]; rfl
          subst e0
          go_wp2
          go_ret
          exact ⟨rfl, HW3.out⟩
        · have hq : S.toList.isEmpty = false := by
            rw [Lib.toList_data, HS.out]
            cases s with
            | nil => exact absurd rfl h0
            | cons _ _ => rfl
          have hh := vHas s [239, 191, 189] w3 (HL.out.below HW3.out) (by have := Hsl.out; omega)
          rw [show str s = .string S by rw [HS.out]] at hh
          cases hc : Lib.contains s [239, 191, 189] with
          | true =>
            rw [hc] at hh
            have HH := Lib.hid hh
            clear hh hc h0
            go_wp2_with fail
            refine HH.out.mono ?_
            rintro e w4 ⟨rfl, hw4⟩
            obtain rfl : w3 = w4 := hw4.symm
            go_wp2
            go_ret
            exact ⟨rfl, HW3.out⟩
          | false =>
            rw [hc] at hh
            obtain ⟨hN, hW⟩ := HNW.out hc
            rw [addL, if_neg h0] at hN
            rw [if_neg h0] at hW
            subst hN
            subst hW
            obtain rfl : n2 = 1 := by rw [← Hn2.out]; rfl
            obtain ⟨X, hX⟩ : ∃ X, X = w3.alloc (.cells #[.string S] 9) := ⟨_, rfl⟩
            have hbX : Below w3.heap.size w3 X := by rw [hX]; exact (Below.refl _ _).alloc (Nat.le_refl _) _
            have rX : Row X X.heap.size 1 (some ⟨w3.heap.size, 0, none⟩) 1 ([s].map strV) := by
              have h := row_new w3 9 ([s].map strV)
              have e : X.heap.size = w3.heap.size + 1 := by rw [hX]; simp
              rw [e, hX, HS.out]
              exact h
            have s1 := vSame7 [s] [s] A2 (some ⟨w3.heap.size, 0, none⟩) 1 1 c2 1 X.heap.size X rfl rfl (Row.of_own (own_below O23.out hbX)) rX (Nat.le_refl _) (by omega)
            rw [decide_eq_true rfl] at s1
            have HH := Lib.hid hh; have S1 := Lib.hid s1; have HWX := Lib.hid (HW3.out.trans (hbX.mono HW3.out.size)); have O3X := Lib.hid (own_below O3.out hbX)
            clear hh s1 hbX rX hc h0
            go_wp2_with fail
            refine HH.out.mono ?_
            rintro e w4 ⟨rfl, hw4⟩
            obtain rfl : w3 = w4 := hw4.symm
            go_wp2_with fail
            rw [← hX]
            with_reducible refine S1.out.mono ?_
            rintro e w5 ⟨rfl, hb5⟩
            have hin := vInner S s HS.out w5 (by have := Hsl.out; omega)
            have HW5 := Lib.hid (HWX.out.trans (hb5.mono HWX.out.size)); have O35 := Lib.hid (own_below O3X.out hb5); have HIn := Lib.hid hin
            clear hin hb5 hX
            go_wp2_with fail
            refine HIn.out.mono ?_
            rintro e w6 ⟨v6, rfl, o6, hb6⟩
            obtain ⟨A6, c6, rfl, -⟩ := own_form o6
            rw [Hn3.out] at o6 ⊢
            have hi := inner_len s
            have s2 := vSame7 (innerP s) (innerP s) A3 A6 n3 n3 c3 c6 w6.heap.size w6 Hn3.out Hn3.out (Row.of_own (own_below O35.out hb6)) (Row.of_own o6) (Nat.le_refl _) (by have := Hsl.out; have := Hn3.out; omega)
            rw [decide_eq_true rfl] at s2
            have HW6 := Lib.hid (HW5.out.trans (hb6.mono HW5.out.size)); have S2 := Lib.hid s2
            clear s2 hi o6 hb6
            go_wp2_with fail
            with_reducible refine S2.out.mono ?_
            rintro e w7 ⟨rfl, hb7⟩
            have HW7 := Lib.hid (HW6.out.trans (hb7.mono HW6.out.size))
            clear hb7
            go_wp2
            go_ret
            exact ⟨rfl, HW7.out⟩
end Go.Proofs.YtkojmgnbmnjmmaaDoor
