import Derived.Test.YtkojmgnbmnjmmaaDoorRyQuk
/-! NfaPlain: the walk -/
namespace Garner
open Go
/-- what a pattern of a text's own runes answers -/
theorem plain_part {l p : Bs} (hl : Lib.validD l = true) (hp : Lib.validD p = true) : partB (rowOf ((runesP p).map litS)) (runesP l) = Lib.contains l p := by
  rw [Bool.eq_iff_iff, lits_part, contains_iff, infix_runes hl hp]
theorem plain_whole {l p : Bs} (hl : Lib.validD l = true) (hp : Lib.validD p = true) : wholeB (rowOf ((runesP p).map litS)) (runesP l) = decide (l = p) := by
  rw [Bool.eq_iff_iff, lits_whole, decide_eq_true_iff]
  exact ⟨runes_inj hl hp, fun e => by rw [e]⟩
theorem plain_self (p : Bs) : wholeB (rowOf ((runesP p).map litS)) (runesP p) = true := lits_whole.2 rfl
theorem plain_mid {l p : Bs} (hl : Lib.validD l = true) (hp : Lib.validD p = true) : partB (rowOf ((runesP p).map litS)) (runesP (l ++ p ++ l)) = true := by
  rw [lits_part, List.append_assoc, app1 hl, app1 hp]
  exact ⟨_, _, by rw [List.append_assoc]⟩
end Garner
namespace Go.Proofs.YtkojmgnbmnjmmaaDoor
open Go.RowKit Garner
set_option maxRecDepth 100000 in
set_option maxHeartbeats 32000000 in
theorem lawNP (P T : ByteArray) (p l : Bs) (hP : P = ⟨p.toArray⟩) (hT : T = ⟨l.toArray⟩) (w : World) (hL : Lt w) (b1 : p.length ≤ 1048576) (b2 : l.length ≤ 1048576) :
    Calls Tryd.prog 6 #[.string P, .string T] w fun e w' => e = .returned (.bool true) ∧ Below w.heap.size w w' := by
  have h1 := vAwake19 w hL
  have hpar := quote_parse p
  have hql := quoteB_le p
  have eP : str p = .string P := by rw [hP]
  have eT : str l = .string T := by rw [hT]
  have HP := Lib.hid hP; have HT := Lib.hid hT; have HL := Lib.hid hL; have H1 := Lib.hid h1; have EP := Lib.hid eP; have ET := Lib.hid eT
  clear h1 hL eP eT
  go_enter Tryd.func6, Tryd.ntmps6
  clear hP hT
  go_wp2_with fail
  refine H1.out.mono ?_
  rintro e w1 ⟨rfl, hb1⟩
  have hq := vQuote P p HP.out w1 (by omega)
  have Hq := Lib.hid hq; have HB1 := Lib.hid hb1
  clear hq hb1
  go_wp2_with fail
  refine Hq.out.mono ?_
  rintro e wq ⟨rfl, hwq⟩
  obtain rfl : w1 = wq := hwq.symm
  have h2 := vNewA (quoteB p) _ rfl w1 (HL.out.below HB1.out) (by omega)
  have H2 := Lib.hid h2
  clear h2 hwq
  go_wp2_with fail
  refine H2.out.mono ?_
  rintro e w2 ⟨pa, ka, rfl, hb2, hk2⟩
  have hw2 := HB1.out.trans (hb2.mono HB1.out.size)
  have hv := cValid p w2 (HL.out.below hw2) (by omega)
  rw [EP.out] at hv
  obtain ⟨vp, hvp⟩ : ∃ vp, Lib.validD p = vp := ⟨_, rfl⟩
  rw [hvp] at hv hpar
  have HV := Lib.hid hv; have HW2 := Lib.hid hw2; have HK2 := Lib.hid hk2; have Hvp := Lib.hid hvp
  clear hv hw2 hk2 hvp hb2
  go_wp2_with fail
  refine HV.out.mono ?_
  rintro e w3 ⟨rfl, hb3⟩
  have hw3 := HW2.out.trans (hb3.mono HW2.out.size)
  have hk3 := HK2.out.below hb3
  by_cases hlong : 128 < (quoteB p).length
  · rw [if_pos hlong] at hpar
    rw [hpar] at hk3
    obtain ⟨h0, rfl, -, -⟩ := hk3
    have HW3 := Lib.hid hw3
    clear hw3 hpar hb3 hlong HK2 hql b1 b2
    cases vp <;> (go_wp2_with fail; go_ret; exact ⟨rfl, HW3.out⟩)
  · rw [if_neg hlong] at hpar
    cases vp with
    | false =>
      rw [if_pos rfl] at hpar
      rw [hpar] at hk3
      obtain ⟨h0, rfl, -, -⟩ := hk3
      have HW3 := Lib.hid hw3
      clear hw3 hpar hb3 hlong HK2 hql b1 b2
      go_wp2_with fail
      go_ret
      exact ⟨rfl, HW3.out⟩
    | true =>
      rw [if_neg (by simp)] at hpar
      rw [hpar] at hk3
      obtain ⟨rfl, ba, rfl, hma⟩ := hk3
      have hvl := cValid l w3 (HL.out.below hw3) (by omega)
      rw [ET.out] at hvl
      obtain ⟨vl, hvl2⟩ : ∃ vl, Lib.validD l = vl := ⟨_, rfl⟩
      rw [hvl2] at hvl
      have HVl := Lib.hid hvl; have HW3 := Lib.hid hw3; have MA := Lib.hid hma; have Hvl := Lib.hid hvl2
      clear hvl hw3 hma hpar hb3 hlong HK2 hql hvl2
      go_wp2_with fail
      refine HVl.out.mono ?_
      rintro e w4 ⟨rfl, hb4⟩
      have hw4 := HW3.out.trans (hb4.mono HW3.out.size)
      have hma4 := MA.out.below hb4
      cases vl with
      | false =>
        have pW := hma4.wholeA HP.out
        rw [plain_self] at pW
        have r0 : Below w4.heap.size w4 w4 := Below.refl _ _
        have PW := Lib.hid pW; have HW4 := Lib.hid hw4
        clear pW hw4 hma4 hb4 b1 b2
        go_wp2_with (with_reducible refine (PW.out _ (by assumption)).mono ?_; rintro e wy ⟨rfl, hby⟩)
        go_ret
        refine ⟨rfl, HW4.out.trans (Below.mono (?_ : Below w4.heap.size w4 _) HW4.out.size)⟩
        assumption
      | true =>
        obtain ⟨D1, d1, e1, s1⟩ := cat2 HT.out HP.out
        obtain ⟨D2, d2, e2, s2⟩ := cat2 e1 HT.out
        have zT : T.size ≤ 1048576 := by rw [HT.out, str_size]; exact b2
        have zP : P.size ≤ 1048576 := by rw [HP.out, str_size]; exact b1
        have zD : D1.size ≤ 3000000 := by omega
        have lP := hma4.partA HT.out
        have lW := hma4.wholeA HT.out
        have mP := hma4.partA e2
        have pW := hma4.wholeA HP.out
        rw [plain_part Hvl.out Hvp.out] at lP
        rw [plain_whole Hvl.out Hvp.out] at lW
        rw [plain_mid Hvl.out Hvp.out] at mP
        rw [plain_self] at pW
        obtain ⟨x1, hx1⟩ : ∃ x1, Lib.contains l p = x1 := ⟨_, rfl⟩
        obtain ⟨x2, hx2⟩ : ∃ x2, decide (l = p) = x2 := ⟨_, rfl⟩
        rw [hx1] at lP
        have hH : ∀ wx, Below w4.heap.size w4 wx → Calls Tryd.prog 19 #[.string T, .string P] wx fun e w' => e = .returned (.bool x1) ∧ Below w4.heap.size w4 w' := fun wx hx => by
          have h := vHas l p wx (HL.out.below (hw4.trans (hx.mono hw4.size))) (by omega)
          rw [ET.out, EP.out, hx1] at h
          exact h.mono fun e w' ⟨he, hw⟩ => ⟨he, by rw [hw]; exact hx⟩
        rw [hx2] at lW
        have tl : ∀ (l : Bs), (⟨l.toArray⟩ : ByteArray).toList = l := fun l => by simp
        have q2 : (T.toList == P.toList) = x2 := by
          rw [← hx2, Bool.eq_iff_iff, beq_iff_eq, decide_eq_true_iff, HT.out, HP.out, tl, tl]
        have r0 : Below w4.heap.size w4 w4 := Below.refl _ _
        have HH := Lib.hid hH; have LP := Lib.hid lP; have LW := Lib.hid lW; have MP := Lib.hid mP; have PW := Lib.hid pW; have HW4 := Lib.hid hw4
        clear hH lP lW mP pW hw4 hma4 hb4 b1 b2 e1 e2 s1 s2 hx1 hx2 tl
        cases x1 <;> cases x2
        all_goals
          go_wp2_with (first | (with_reducible refine (HH.out _ (by assumption)).mono ?_; rintro e wy ⟨rfl, hby⟩) | (with_reducible refine (LP.out _ (by assumption)).mono ?_; rintro e wy ⟨rfl, hby⟩) | (with_reducible refine (LW.out _ (by assumption)).mono ?_; rintro e wy ⟨rfl, hby⟩) | (with_reducible refine (MP.out _ (by assumption)).mono ?_; rintro e wy ⟨rfl, hby⟩) | (with_reducible refine (PW.out _ (by assumption)).mono ?_; rintro e wy ⟨rfl, hby⟩))
          go_ret
          refine ⟨rfl, HW4.out.trans (Below.mono (?_ : Below w4.heap.size w4 _) HW4.out.size)⟩
          assumption
end Go.Proofs.YtkojmgnbmnjmmaaDoor
