import Derived.Test.YtkojmgnbmnjmmaaDoorNcRow
/-! NfaAlgebra: the walk -/
namespace Go.Proofs.YtkojmgnbmnjmmaaDoor
open Go.RowKit Garner
set_option maxRecDepth 100000 in
set_option maxHeartbeats 32000000 in
theorem lawNA (S T Ln : ByteArray) (s t l : Bs) (hS : S = ⟨s.toArray⟩) (hT : T = ⟨t.toArray⟩) (hLn : Ln = ⟨l.toArray⟩) (w : World) (hL : Lt w) (b1 : s.length ≤ 140737488355328) (b2 : t.length ≤ 140737488355328) :
    Calls Tryd.prog 7 #[.string S, .string T, .string Ln] w fun e w' => e = .returned (.bool true) ∧ Below w.heap.size w w' := by
  have h1 := vAwake19 w hL
  obtain ⟨Q1, q1, e1, z1⟩ := cat2 (A := ⟨#[40]⟩) (a := [40]) rfl hS
  obtain ⟨Q2, q2, e2, z2⟩ := cat2 (B := ⟨#[41, 124, 40]⟩) (b := [41, 124, 40]) e1 rfl
  obtain ⟨Q3, q3, e3, z3⟩ := cat2 e2 hT
  obtain ⟨Q4, q4, e4, z4⟩ := cat2 (B := ⟨#[41]⟩) (b := [41]) e3 rfl
  obtain ⟨P1, p1, f1, y1⟩ := cat2 (A := ⟨#[94, 40]⟩) (a := [94, 40]) rfl hS
  obtain ⟨P2, p2, f2, y2⟩ := cat2 (B := ⟨#[41, 36]⟩) (b := [41, 36]) f1 rfl
  obtain ⟨R1, r1, g1, x1⟩ := cat2 (A := ⟨#[46, 42, 40]⟩) (a := [46, 42, 40]) rfl hS
  obtain ⟨R2, r2, g2, x2⟩ := cat2 (B := ⟨#[41, 46, 42]⟩) (b := [41, 46, 42]) g1 rfl
  have zS : S.size = s.length := by rw [hS]; exact str_size s
  have zT : T.size = t.length := by rw [hT]; exact str_size t
  have e4' : Q4 = ⟨(40 :: (s ++ 41 :: 124 :: 40 :: (t ++ [41]))).toArray⟩ := by rw [e4]; simp
  have f2' : P2 = ⟨(94 :: 40 :: (s ++ 41 :: [36])).toArray⟩ := by rw [f2]; simp
  have g2' : R2 = ⟨(46 :: 42 :: 40 :: (s ++ 41 :: [46, 42])).toArray⟩ := by rw [g2]; simp
  simp only [List.length_append, List.length_cons, List.length_nil] at z1 z2 z3 z4 y1 y2 x1 x2
  have zQ1 : Q1.size ≤ 1000000000000000 := by omega
  have zQ2 : Q2.size ≤ 1000000000000000 := by omega
  have zQ3 : Q3.size ≤ 1000000000000000 := by omega
  have zP1 : P1.size ≤ 1000000000000000 := by omega
  have zR1 : R1.size ≤ 1000000000000000 := by omega
  have zS1 : S.size ≤ 1000000000000000 := by omega
  have zT1 : T.size ≤ 1000000000000000 := by omega
  obtain ⟨rl, hrl⟩ : ∃ rl, runesP l = rl := ⟨_, rfl⟩
  have hhas := has_lf l
  have hnolf := @lf_nolf l
  have HS := Lib.hid hS; have HT := Lib.hid hT; have HLn := Lib.hid hLn; have HL := Lib.hid hL; have E4 := Lib.hid e4'; have F2 := Lib.hid f2'; have G2 := Lib.hid g2'; have H1 := Lib.hid h1; have Hrl := Lib.hid hrl; have Hlf := Lib.hid hnolf
  clear h1 hS hT hLn hL e1 e2 e3 e4 f1 f2 g1 g2 e4' f2' g2' hrl hhas hnolf z1 z2 z3 z4 y1 y2 x1 x2 zS zT
  go_enter Tryd.func7, Tryd.ntmps7
  go_wp2_with fail
  refine H1.out.mono ?_
  rintro e w1 ⟨rfl, hb1⟩
  have h2 := vNewA s S HS.out w1 (HL.out.below hb1) (by omega)
  have H2 := Lib.hid h2; have HB1 := Lib.hid hb1
  clear h2 hb1
  go_wp2_with fail
  refine H2.out.mono ?_
  rintro e w2 ⟨pa, ka, rfl, hb2, hk2⟩
  have hw2 := HB1.out.trans (hb2.mono HB1.out.size)
  have h3 := vNewA t T HT.out w2 (HL.out.below hw2) (by omega)
  have H3 := Lib.hid h3; have HK2 := Lib.hid hk2; have HB2 := Lib.hid hw2
  clear h3 hb2 hk2 hw2
  go_wp2_with fail
  refine H3.out.mono ?_
  rintro e w3 ⟨pb, kb, rfl, hb3, hk3⟩
  have hw3 := HB2.out.trans (hb3.mono HB2.out.size)
  have hk2 := HK2.out.below hb3
  have HK2' := Lib.hid hk2; have HK3 := Lib.hid hk3; have HB3 := Lib.hid hw3
  clear hk2 HK2 hk3 hw3 hb3
  by_cases hka : ka = 0
  · by_cases hkb : kb = 0
    · obtain ⟨ta, ba, ha, rfl, hma⟩ := HK2'.out.zero hka
      obtain ⟨tb, bb, hb, rfl, hmb⟩ := HK3.out.zero hkb
      subst hka; subst hkb
      have h4 := vNewA _ Q4 E4.out w3 (HL.out.below HB3.out) (by simp; omega)
      have H4 := Lib.hid h4; have HA := Lib.hid ha; have HBt := Lib.hid hb; have MA := Lib.hid hma; have MB := Lib.hid hmb
      clear h4 ha hb hma hmb HK2' HK3
      go_wp2_with fail
      refine H4.out.mono ?_
      rintro e w4 ⟨pc, kc, rfl, hb4, hk4⟩
      have hw4 := HB3.out.trans (hb4.mono HB3.out.size)
      have hma4 := MA.out.below hb4
      have hmb4 := MB.out.below hb4
      have HK4 := Lib.hid hk4; have HB4 := Lib.hid hw4; have MA4 := Lib.hid hma4; have MB4 := Lib.hid hmb4
      clear hk4 hw4 hma4 hmb4 hb4 MA MB
      go_upto_region 8 with fail
      go_cut [69] (fun s9 wx => s9 = .bool false ∧ Below w4.heap.size w4 wx)
      case first =>
        by_cases hkc : kc = 0
        · obtain ⟨tc, bc, hc, rfl, hmc⟩ := HK4.out.zero hkc
          subst hkc
          obtain rfl := alt_parse HA.out HBt.out hc
          have cW := hmc.wholeA HLn.out
          have cP := hmc.partA HLn.out
          have aW := MA4.out.wholeA HLn.out
          have aP := MA4.out.partA HLn.out
          have bW := MB4.out.wholeA HLn.out
          have bP := MB4.out.partA HLn.out
          rw [Hrl.out, alt_whole] at cW
          rw [Hrl.out, alt_part] at cP
          rw [Hrl.out] at aW aP bW bP
          obtain ⟨x1, hx1⟩ : ∃ x1, wholeB ta rl = x1 := ⟨_, rfl⟩
          obtain ⟨x2, hx2⟩ : ∃ x2, wholeB tb rl = x2 := ⟨_, rfl⟩
          obtain ⟨x3, hx3⟩ : ∃ x3, partB ta rl = x3 := ⟨_, rfl⟩
          obtain ⟨x4, hx4⟩ : ∃ x4, partB tb rl = x4 := ⟨_, rfl⟩
          rw [hx1, hx2] at cW
          rw [hx3, hx4] at cP
          rw [hx1] at aW
          rw [hx2] at bW
          rw [hx3] at aP
          rw [hx4] at bP
          obtain ⟨x5, hx5⟩ : ∃ x5, (x1 || x2) = x5 := ⟨_, rfl⟩
          obtain ⟨x6, hx6⟩ : ∃ x6, (x3 || x4) = x6 := ⟨_, rfl⟩
          rw [hx5] at cW
          rw [hx6] at cP
          have r0 : Below w4.heap.size w4 w4 := Below.refl _ _
          have CW := Lib.hid cW; have CP := Lib.hid cP; have AW := Lib.hid aW; have AP := Lib.hid aP; have BW := Lib.hid bW; have BP := Lib.hid bP
          clear cW cP aW aP bW bP hx1 hx2 hx3 hx4 hc hmc
          cases x1 <;> cases x2 <;> cases x3 <;> cases x4 <;> (simp at hx5 hx6; subst hx5; subst hx6)
          all_goals
            go_wp2_with (first | (with_reducible refine (CW.out _ (by assumption)).mono ?_; rintro e wy ⟨rfl, hby⟩) | (with_reducible refine (AW.out _ (by assumption)).mono ?_; rintro e wy ⟨rfl, hby⟩) | (with_reducible refine (BW.out _ (by assumption)).mono ?_; rintro e wy ⟨rfl, hby⟩) | (with_reducible refine (CP.out _ (by assumption)).mono ?_; rintro e wy ⟨rfl, hby⟩) | (with_reducible refine (AP.out _ (by assumption)).mono ?_; rintro e wy ⟨rfl, hby⟩) | (with_reducible refine (BP.out _ (by assumption)).mono ?_; rintro e wy ⟨rfl, hby⟩))
            go_meet
            exact ⟨rfl, by assumption⟩
        · have z : ¬ (kc : Int) = 0 := by omega
          go_wp2_with fail
          go_meet
          exact ⟨rfl, Below.refl _ _⟩
      case rest =>
        obtain ⟨rfl, hbc⟩ := hcut
        have hwc := HB4.out.trans (hbc.mono HB4.out.size)
        have hma5 := MA4.out.below hbc
        have h5 := vNewA _ P2 F2.out wc (HL.out.below hwc) (by simp; omega)
        have H5 := Lib.hid h5; have HBc := Lib.hid hwc; have MA5 := Lib.hid hma5
        clear h5 hwc hma5 hbc HK4 MB4
        go_wp2_with fail
        refine H5.out.mono ?_
        rintro e w5 ⟨pc2, kc2, rfl, hb5, hk5⟩
        have hw5 := HBc.out.trans (hb5.mono HBc.out.size)
        have hma6 := MA5.out.below hb5
        have HK5 := Lib.hid hk5; have HB5 := Lib.hid hw5; have MA6 := Lib.hid hma6
        clear hk5 hw5 hma6 hb5
        go_upto_region 11 with fail
        go_cut [96] (fun s9 wx => s9 = .bool false ∧ Below w5.heap.size w5 wx)
        case first =>
          by_cases hkc : kc2 = 0
          · obtain ⟨tc, bc, hc, rfl, hmc⟩ := HK5.out.zero hkc
            subst hkc
            obtain rfl := ends_parse HA.out hc
            have cW := hmc.wholeA HLn.out
            have cP := hmc.partA HLn.out
            have aW := MA6.out.wholeA HLn.out
            rw [Hrl.out, ends_whole] at cW
            rw [Hrl.out, ends_part] at cP
            rw [Hrl.out] at aW
            obtain ⟨x1, hx1⟩ : ∃ x1, wholeB ta rl = x1 := ⟨_, rfl⟩
            rw [hx1] at cW cP aW
            have r0 : Below w5.heap.size w5 w5 := Below.refl _ _
            have CW := Lib.hid cW; have CP := Lib.hid cP; have AW := Lib.hid aW
            clear cW cP aW hx1 hc hmc
            cases x1
            all_goals
              go_wp2_with (first | (with_reducible refine (CW.out _ (by assumption)).mono ?_; rintro e wy ⟨rfl, hby⟩) | (with_reducible refine (AW.out _ (by assumption)).mono ?_; rintro e wy ⟨rfl, hby⟩) | (with_reducible refine (CP.out _ (by assumption)).mono ?_; rintro e wy ⟨rfl, hby⟩))
              go_meet
              exact ⟨rfl, by assumption⟩
          · have z : ¬ (kc2 : Int) = 0 := by omega
            go_wp2_with fail
            go_meet
            exact ⟨rfl, Below.refl _ _⟩
        case rest =>
          obtain ⟨rfl, hbd⟩ := hcut
          have hwd := HB5.out.trans (hbd.mono HB5.out.size)
          have hma7 := MA6.out.below hbd
          have h6 := vNewA _ R2 G2.out wc (HL.out.below hwd) (by simp; omega)
          have H6 := Lib.hid h6; have HBd := Lib.hid hwd; have MA7 := Lib.hid hma7
          clear h6 hwd hma7 hbd HK5
          go_wp2_with fail
          refine H6.out.mono ?_
          rintro e w6 ⟨pc3, kc3, rfl, hb6, hk6⟩
          have hw6 := HBd.out.trans (hb6.mono HBd.out.size)
          have hma8 := MA7.out.below hb6
          by_cases hkc : kc3 = 0
          · obtain ⟨tc, bc, hc, rfl, hmc⟩ := hk6.zero hkc
            subst hkc
            obtain rfl := dots_parse HA.out hc
            have hH := vHas1 l Ln HLn.out 10 w6
            cases hl0 : Lib.contains l [10] with
            | true =>
              rw [hl0] at hH
              have HH := Lib.hid hH; have HB6 := Lib.hid hw6
              clear hH hw6 hma8 hc hmc hl0 hk6 hb6
              go_wp2_with (with_reducible refine HH.out.mono ?_; rintro e wy ⟨rfl, hz⟩; obtain rfl : w6 = wy := hz.symm)
              go_ret
              exact ⟨rfl, HB6.out⟩
            | false =>
              rw [hl0] at hH
              have hnl := Hlf.out hl0
              rw [Hrl.out] at hnl
              have cW := hmc.wholeA HLn.out
              have aP := hma8.partA HLn.out
              rw [Hrl.out, dots_whole hnl] at cW
              rw [Hrl.out] at aP
              obtain ⟨x1, hx1⟩ : ∃ x1, partB ta rl = x1 := ⟨_, rfl⟩
              rw [hx1] at cW aP
              have r0 : Below w6.heap.size w6 w6 := Below.refl _ _
              have HH := Lib.hid hH; have HB6 := Lib.hid hw6; have CW := Lib.hid cW; have AP := Lib.hid aP
              clear hH hw6 hma8 hc hmc hl0 hk6 hb6 hnl cW aP hx1
              cases x1
              all_goals
                go_wp2_with (first | (with_reducible refine HH.out.mono ?_; rintro e wy ⟨rfl, hz⟩; obtain rfl : w6 = wy := hz.symm) | (with_reducible refine (CW.out _ (by assumption)).mono ?_; rintro e wy ⟨rfl, hby⟩) | (with_reducible refine (AP.out _ (by assumption)).mono ?_; rintro e wy ⟨rfl, hby⟩))
                go_ret
                refine ⟨rfl, HB6.out.trans (Below.mono (?_ : Below w6.heap.size w6 _) HB6.out.size)⟩
                assumption
          · have z : ¬ (kc3 : Int) = 0 := by omega
            have HB6 := Lib.hid hw6
            clear hw6 hma8 hk6 hb6
            go_wp2_with fail
            go_ret
            exact ⟨rfl, HB6.out⟩
    · have z1 : (ka : Int) = 0 := by omega
      have z2 : ¬ (kb : Int) = 0 := by omega
      go_wp2_with fail
      go_ret
      exact ⟨rfl, HB3.out⟩
  · have z1 : ¬ (ka : Int) = 0 := by omega
    go_wp2_with fail
    go_ret
    exact ⟨rfl, HB3.out⟩
end Go.Proofs.YtkojmgnbmnjmmaaDoor
