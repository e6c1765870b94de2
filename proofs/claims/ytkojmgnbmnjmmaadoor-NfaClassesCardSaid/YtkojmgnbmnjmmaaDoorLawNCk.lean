import Derived.Test.YtkojmgnbmnjmmaaDoorNcRow
import Derived.Test.YtkojmgnbmnjmmaaDoorRyZk
/-! NfaClasses: the walk -/
namespace Go.Proofs.YtkojmgnbmnjmmaaDoor
open Go.RowKit Garner
set_option maxRecDepth 100000 in
set_option maxHeartbeats 32000000 in
theorem lawNC (S : ByteArray) (s : Bs) (x y : Int) (hS : S = ⟨s.toArray⟩) (w : World) (hL : Lt w) (b1 : s.length ≤ 140737488355328) :
    Calls Tryd.prog 4 #[.int .i32 x, .int .i32 y, .string S] w fun e w' => e = .returned (.bool true) ∧ Below w.heap.size w w' := by
  have h1 := vAwake19 w hL
  obtain ⟨p, hp, rx⟩ := and15 x
  obtain ⟨q, hq, ry⟩ := and15 y
  have wp : wrap32 (97 + (p : Int)) = 97 + (p : Int) := by unfold wrap32; omega
  have wq : wrap32 (97 + (q : Int)) = 97 + (q : Int) := by unfold wrap32; omega
  obtain ⟨PB, pb⟩ : ∃ PB, Utf8.encode (97 + (p : Int)) = PB := ⟨_, rfl⟩
  obtain ⟨QB, qb⟩ : ∃ QB, Utf8.encode (97 + (q : Int)) = QB := ⟨_, rfl⟩
  obtain ⟨a, ha⟩ : ∃ a, UInt8.ofNat (97 + p) = a := ⟨_, rfl⟩
  obtain ⟨b, hb⟩ : ∃ b, UInt8.ofNat (97 + q) = b := ⟨_, rfl⟩
  have ha2 : 97 ≤ a.toNat ∧ a.toNat ≤ 112 := by rw [← ha, UInt8.toNat_ofNat']; omega
  have hb2 : 97 ≤ b.toNat ∧ b.toNat ≤ 112 := by rw [← hb, UInt8.toNat_ofNat']; omega
  have eP : PB = ⟨([a] : Bs).toArray⟩ := by rw [← pb, enc_letter ⟨p, by omega⟩, ← ha]
  have eQ : QB = ⟨([b] : Bs).toArray⟩ := by rw [← qb, enc_letter ⟨q, by omega⟩, ← hb]
  obtain ⟨A1, a1, f1, z1⟩ := cat2 (A := ⟨#[91]⟩) (a := [91]) rfl eP
  obtain ⟨A2, a2, f2, z2⟩ := cat2 f1 eQ
  obtain ⟨A3, a3, f3, z3⟩ := cat2 (B := ⟨#[93]⟩) (b := [93]) f2 rfl
  obtain ⟨A4, a4, f4, z4⟩ := cat2 (B := ⟨#[93, 42]⟩) (b := [93, 42]) f2 rfl
  obtain ⟨B1, b1', g1, y1⟩ := cat2 (A := ⟨#[91, 94]⟩) (a := [91, 94]) rfl eP
  obtain ⟨B2, b2, g2, y2⟩ := cat2 g1 eQ
  obtain ⟨B3, b3, g3, y3'⟩ := cat2 (B := ⟨#[93]⟩) (b := [93]) g2 rfl
  obtain ⟨B4, b4, g4, y4'⟩ := cat2 (B := ⟨#[93, 42]⟩) (b := [93, 42]) g2 rfl
  obtain ⟨C1, c1, k1, x1'⟩ := cat2 (B := ⟨#[124]⟩) (b := [124]) eP rfl
  obtain ⟨C2, c2, k2, x2'⟩ := cat2 k1 eQ
  have zP : PB.size = 1 := by rw [eP]; rfl
  have zQ : QB.size = 1 := by rw [eQ]; rfl
  simp only [List.length_append, List.length_cons, List.length_nil] at z1 z2 z3 z4 y1 y2 y3' y4' x1' x2'
  have pA := cls_parse1 ha2 hb2
  have pB := cls_parse2 ha2 hb2
  have pC := cls_parse3 ha2 hb2
  have pD := cls_parse4 ha2 hb2
  have pE := cls_parse5 ha2 hb2
  obtain ⟨rs, hrs⟩ : ∃ rs, runesP s = rs := ⟨_, rfl⟩
  have hle : ∀ r ∈ rs, r ≤ 1114111 := by rw [← hrs]; exact runes_le _ s (Nat.le_refl _)
  obtain ⟨q1, q2, q3, q4, q5⟩ := cls_law (p := a.toNat) (q := b.toNat) (by omega) (by omega) hle
  obtain ⟨x1, hx1⟩ : ∃ v, wholeB (.set (twoR a.toNat b.toNat)) rs = v := ⟨_, rfl⟩
  obtain ⟨x2, hx2⟩ : ∃ v, wholeB (.set (othersR (twoR a.toNat b.toNat))) rs = v := ⟨_, rfl⟩
  obtain ⟨x3, hx3⟩ : ∃ v, partB (.set (twoR a.toNat b.toNat)) rs = v := ⟨_, rfl⟩
  obtain ⟨x4, hx4⟩ : ∃ v, partB (.set (othersR (twoR a.toNat b.toNat))) rs = v := ⟨_, rfl⟩
  rw [hx1, hx2] at q1
  rw [hx1] at q2
  rw [hx3] at q3
  rw [hx3] at q4
  rw [hx4] at q5
  obtain ⟨N, hN⟩ : ∃ N, rs.length = N := ⟨_, rfl⟩
  rw [hN] at q1
  have hNs : N ≤ 140737488355328 := by rw [← hN, ← hrs]; exact Nat.le_trans (runes_len _ s (Nat.le_refl _)) b1
  have HS := Lib.hid hS; have HL := Lib.hid hL; have H1 := Lib.hid h1
  have F3 := Lib.hid (show A3 = ⟨([91, a, b, 93] : Bs).toArray⟩ by rw [f3]; simp)
  have F4 := Lib.hid (show A4 = ⟨([91, a, b, 93, 42] : Bs).toArray⟩ by rw [f4]; simp)
  have G3 := Lib.hid (show B3 = ⟨([91, 94, a, b, 93] : Bs).toArray⟩ by rw [g3]; simp)
  have G4 := Lib.hid (show B4 = ⟨([91, 94, a, b, 93, 42] : Bs).toArray⟩ by rw [g4]; simp)
  have K2 := Lib.hid (show C2 = ⟨([a, 124, b] : Bs).toArray⟩ by rw [k2]; simp)
  have HPA := Lib.hid pA; have HPB := Lib.hid pB; have HPC := Lib.hid pC; have HPD := Lib.hid pD; have HPE := Lib.hid pE
  have X1 := Lib.hid hx1; have X2 := Lib.hid hx2; have X3 := Lib.hid hx3; have X4 := Lib.hid hx4
  have Q1 := Lib.hid q1; have Q2 := Lib.hid q2; have Q3 := Lib.hid q3; have Q4 := Lib.hid q4; have Q5 := Lib.hid q5; have Hrs := Lib.hid hrs; have HN := Lib.hid hN
  clear h1 hS hL f1 f2 f3 f4 g1 g2 g3 g4 k1 k2 eP eQ ha hb ha2 hb2 pA pB pC pD pE hx1 hx2 hx3 hx4 q1 q2 q3 q4 q5 hrs hN hle
  go_enter Tryd.func4, Tryd.ntmps4
  go_wp2_with fail
  refine H1.out.mono ?_
  rintro e w1 ⟨rfl, hb1⟩
  have h2 := vNewOk _ A3 F3.out _ HPA.out w1 (HL.out.below hb1)
  have HB1 := Lib.hid hb1; have H2 := Lib.hid h2
  clear hb1 h2
  go_wp2_with fail
  refine H2.out.mono ?_
  rintro e w2 ⟨ba, rfl, hb2, hma⟩
  have hw2 := HB1.out.trans (hb2.mono HB1.out.size)
  have h3 := vNewOk _ B3 G3.out _ HPB.out w2 (HL.out.below hw2)
  have HW2 := Lib.hid hw2; have H3 := Lib.hid h3; have MA := Lib.hid hma
  clear hw2 h3 hma hb2
  go_wp2_with fail
  refine H3.out.mono ?_
  rintro e w3 ⟨bb, rfl, hb3, hmb⟩
  have hw3 := HW2.out.trans (hb3.mono HW2.out.size)
  have h4 := vNewOk _ C2 K2.out _ HPC.out w3 (HL.out.below hw3)
  have HW3 := Lib.hid hw3; have H4 := Lib.hid h4; have MA3 := Lib.hid (MA.out.below hb3); have MB3 := Lib.hid hmb
  clear hw3 h4 hmb hb3 MA
  go_wp2_with fail
  refine H4.out.mono ?_
  rintro e w4 ⟨bc, rfl, hb4, hmc⟩
  have hw4 := HW3.out.trans (hb4.mono HW3.out.size)
  have h5 := vNewOk _ A4 F4.out _ HPD.out w4 (HL.out.below hw4)
  have HW4 := Lib.hid hw4; have H5 := Lib.hid h5; have MA4 := Lib.hid (MA3.out.below hb4); have MB4 := Lib.hid (MB3.out.below hb4); have MC4 := Lib.hid hmc
  clear hw4 h5 hmc hb4 MA3 MB3
  go_wp2_with fail
  refine H5.out.mono ?_
  rintro e w5 ⟨bd, rfl, hb5, hmd⟩
  have hw5 := HW4.out.trans (hb5.mono HW4.out.size)
  have h6 := vNewOk _ B4 G4.out _ HPE.out w5 (HL.out.below hw5)
  have HW5 := Lib.hid hw5; have H6 := Lib.hid h6; have MA5 := Lib.hid (MA4.out.below hb5); have MB5 := Lib.hid (MB4.out.below hb5); have MC5 := Lib.hid (MC4.out.below hb5); have MD5 := Lib.hid hmd
  clear hw5 h6 hmd hb5 MA4 MB4 MC4
  go_wp2_with fail
  refine H6.out.mono ?_
  rintro e w6 ⟨be, rfl, hb6, hme⟩
  have hw6 := HW5.out.trans (hb6.mono HW5.out.size)
  have hc := vCount s w6 (by omega)
  rw [Hrs.out, HN.out, str, ← HS.out] at hc
  have HW6 := Lib.hid hw6; have HC := Lib.hid hc; have MA6 := Lib.hid (MA5.out.below hb6); have MB6 := Lib.hid (MB5.out.below hb6); have MC6 := Lib.hid (MC5.out.below hb6); have MD6 := Lib.hid (MD5.out.below hb6); have ME6 := Lib.hid hme
  clear hw6 hc hme hb6 MA5 MB5 MC5 MD5 H2 H3 H4 H5 H6
  go_wp2_with fail
  refine HC.out.mono ?_
  rintro e w7 ⟨rfl, hb7⟩
  have hw7 := HW6.out.trans (hb7.mono HW6.out.size)
  have aW := (MA6.out.below hb7).wholeA HS.out
  have bW := (MB6.out.below hb7).wholeA HS.out
  have cW := (MC6.out.below hb7).wholeA HS.out
  have dW := (MD6.out.below hb7).wholeA HS.out
  have eW := (ME6.out.below hb7).wholeA HS.out
  have aP := (MA6.out.below hb7).partA HS.out
  have bP := (MB6.out.below hb7).partA HS.out
  have cP := (MC6.out.below hb7).partA HS.out
  rw [Hrs.out, X1.out] at aW
  rw [Hrs.out, X2.out] at bW
  rw [Hrs.out, ← Q2.out] at cW
  rw [Hrs.out, Q5.out] at dW
  rw [Hrs.out, Q4.out] at eW
  rw [Hrs.out, X3.out] at aP
  rw [Hrs.out, X4.out] at bP
  rw [Hrs.out, ← Q3.out] at cP
  have r0 : Below w7.heap.size w7 w7 := Below.refl _ _
  have HW7 := Lib.hid hw7
  obtain ⟨y3, hy3⟩ : ∃ y3, (!x3) = y3 := ⟨_, rfl⟩
  obtain ⟨y4, hy4⟩ : ∃ y4, (!x4) = y4 := ⟨_, rfl⟩
  rw [hy3] at eW
  rw [hy4] at dW
  have CA := Lib.hid aW; have CB := Lib.hid bW; have CC := Lib.hid cW; have CD := Lib.hid dW; have CE := Lib.hid eW; have DA := Lib.hid aP; have DB := Lib.hid bP; have DC := Lib.hid cP
  clear aW bW cW dW eW aP bP cP hw7 hb7 MA6 MB6 MC6 MD6 ME6 X1 X2 X3 X4 Q2 Q3 Q4 Q5 HN Hrs HPA HPB HPC HPD HPE F3 F4 G3 G4 K2
  clear a1 a2 a3 a4 b1' b2 b3 b4 c1 c2 z1 z2 z3 z4 y1 y2 y3' y4' x1' x2' pb qb rx ry wp wq zP zQ
  by_cases hN1 : N = 1
  · have z : (N : Int) = 1 := by omega
    have hne := Q1.out hN1
    clear Q1 hN1
    cases x1 <;> cases x2 <;> cases x3 <;> cases x4 <;> (simp at hy3 hy4; subst hy3; subst hy4) <;> first | exact absurd rfl hne | skip
    all_goals
      clear hne
      go_wp2_with (first | (with_reducible refine (CA.out _ (by assumption)).mono ?_; rintro e wy ⟨rfl, hby⟩) | (with_reducible refine (CB.out _ (by assumption)).mono ?_; rintro e wy ⟨rfl, hby⟩) | (with_reducible refine (CC.out _ (by assumption)).mono ?_; rintro e wy ⟨rfl, hby⟩) | (with_reducible refine (CD.out _ (by assumption)).mono ?_; rintro e wy ⟨rfl, hby⟩) | (with_reducible refine (CE.out _ (by assumption)).mono ?_; rintro e wy ⟨rfl, hby⟩) | (with_reducible refine (DA.out _ (by assumption)).mono ?_; rintro e wy ⟨rfl, hby⟩) | (with_reducible refine (DB.out _ (by assumption)).mono ?_; rintro e wy ⟨rfl, hby⟩) | (with_reducible refine (DC.out _ (by assumption)).mono ?_; rintro e wy ⟨rfl, hby⟩))
      go_ret
      refine ⟨rfl, HW7.out.trans (Below.mono (?_ : Below w7.heap.size w7 _) HW7.out.size)⟩
      assumption
  · have z : ¬ (N : Int) = 1 := by omega
    clear Q1 hN1
    cases x1 <;> cases x3 <;> cases x4 <;> (simp at hy3 hy4; subst hy3; subst hy4)
    all_goals
      go_wp2_with (first | (with_reducible refine (CA.out _ (by assumption)).mono ?_; rintro e wy ⟨rfl, hby⟩) | (with_reducible refine (CB.out _ (by assumption)).mono ?_; rintro e wy ⟨rfl, hby⟩) | (with_reducible refine (CC.out _ (by assumption)).mono ?_; rintro e wy ⟨rfl, hby⟩) | (with_reducible refine (CD.out _ (by assumption)).mono ?_; rintro e wy ⟨rfl, hby⟩) | (with_reducible refine (CE.out _ (by assumption)).mono ?_; rintro e wy ⟨rfl, hby⟩) | (with_reducible refine (DA.out _ (by assumption)).mono ?_; rintro e wy ⟨rfl, hby⟩) | (with_reducible refine (DB.out _ (by assumption)).mono ?_; rintro e wy ⟨rfl, hby⟩) | (with_reducible refine (DC.out _ (by assumption)).mono ?_; rintro e wy ⟨rfl, hby⟩))
      go_ret
      refine ⟨rfl, HW7.out.trans (Below.mono (?_ : Below w7.heap.size w7 _) HW7.out.size)⟩
      assumption
end Go.Proofs.YtkojmgnbmnjmmaaDoor
