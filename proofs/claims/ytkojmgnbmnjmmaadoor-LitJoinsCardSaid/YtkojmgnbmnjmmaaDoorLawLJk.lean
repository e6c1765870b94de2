import Derived.Test.YtkojmgnbmnjmmaaDoorNlRow
/-! LitJoins: the walk -/
namespace Go.Proofs.YtkojmgnbmnjmmaaDoor
open Go.RowKit Garner
theorem len_needs {l : Bs} {L : List Bs} (h : needsE l = .ok L) : L.length ≤ 20001 := (needs_ok h).1
set_option maxRecDepth 100000 in
set_option maxHeartbeats 64000000 in
theorem lawLJ (S T : ByteArray) (s t : Bs) (hS : S = ⟨s.toArray⟩) (hT : T = ⟨t.toArray⟩) (w : World) (hL : Lt w) (b1 : s.length ≤ 140737488355328) (b2 : t.length ≤ 140737488355328) :
    Calls Tryd.prog 3 #[.string S, .string T] w fun e w' => e = .returned (.bool true) ∧ Below w.heap.size w w' := by
  have h0 := vAwake21 w hL
  obtain ⟨Q1, q1, e1, z1⟩ := cat2 (A := ⟨#[40]⟩) (a := [40]) rfl hS
  obtain ⟨X2, x2, e2, z2⟩ := cat2 (B := ⟨#[41, 91, 120, 121, 93, 40]⟩) (b := [41, 91, 120, 121, 93, 40]) e1 rfl
  obtain ⟨X3, x3, e3, z3⟩ := cat2 e2 hT
  obtain ⟨X4, x4, e4, z4⟩ := cat2 (B := ⟨#[41]⟩) (b := [41]) e3 rfl
  obtain ⟨Y2, y2, f2, a2⟩ := cat2 (B := ⟨#[41, 124, 40]⟩) (b := [41, 124, 40]) e1 rfl
  obtain ⟨Y3, y3, f3, a3⟩ := cat2 f2 hT
  obtain ⟨Y4, y4, f4, a4⟩ := cat2 (B := ⟨#[41]⟩) (b := [41]) f3 rfl
  obtain ⟨Z2, z2', g2, a5⟩ := cat2 (B := ⟨#[41, 43]⟩) (b := [41, 43]) e1 rfl
  obtain ⟨V2, v2', g3, a6⟩ := cat2 (B := ⟨#[41, 63]⟩) (b := [41, 63]) e1 rfl
  have zS : S.size = s.length := by rw [hS]; exact str_size s
  have zT : T.size = t.length := by rw [hT]; exact str_size t
  obtain ⟨c1, k1⟩ : ∃ c1, c1 = 40 :: (s ++ 41 :: 91 :: 120 :: 121 :: 93 :: 40 :: (t ++ [41])) := ⟨_, rfl⟩
  obtain ⟨c2, k2⟩ : ∃ c2, c2 = 40 :: (s ++ 41 :: 124 :: 40 :: (t ++ [41])) := ⟨_, rfl⟩
  obtain ⟨c3, k3⟩ : ∃ c3, c3 = 40 :: (s ++ 41 :: [43]) := ⟨_, rfl⟩
  obtain ⟨c4, k4⟩ : ∃ c4, c4 = 40 :: (s ++ 41 :: [63]) := ⟨_, rfl⟩
  have r1 : str c1 = .string X4 := by rw [e4, k1]; simp [str]
  have r2 : str c2 = .string Y4 := by rw [f4, k2]; simp [str]
  have r3 : str c3 = .string Z2 := by rw [g2, k3]; simp [str]
  have r4 : str c4 = .string V2 := by rw [g3, k4]; simp [str]
  have m1 : c1.length ≤ 1000000000000000 := by rw [k1]; simp; omega
  have m2 : c2.length ≤ 1000000000000000 := by rw [k2]; simp; omega
  have m3 : c3.length ≤ 1000000000000000 := by rw [k3]; simp; omega
  have m4 : c4.length ≤ 1000000000000000 := by rw [k4]; simp; omega
  have rS : str s = .string S := by rw [hS]
  have rT : str t = .string T := by rw [hT]
  simp only [List.length_append, List.length_cons, List.length_nil] at z1 z2 z3 z4 a2 a3 a4 a5 a6
  have zQ1 : Q1.size ≤ 1000000000000000 := by omega
  have zX2 : X2.size ≤ 1000000000000000 := by omega
  have zX3 : X3.size ≤ 1000000000000000 := by omega
  have zY2 : Y2.size ≤ 1000000000000000 := by omega
  have zY3 : Y3.size ≤ 1000000000000000 := by omega
  have zS1 : S.size ≤ 1000000000000000 := by omega
  have zT1 : T.size ≤ 1000000000000000 := by omega
  have H0 := Lib.hid h0; have HL := Lib.hid hL; have R1 := Lib.hid r1; have R2 := Lib.hid r2; have R3 := Lib.hid r3; have R4 := Lib.hid r4; have RS := Lib.hid rS; have RT := Lib.hid rT; have M1 := Lib.hid m1; have M2 := Lib.hid m2; have M3 := Lib.hid m3; have M4 := Lib.hid m4; have K1 := Lib.hid k1; have K2 := Lib.hid k2; have K3 := Lib.hid k3; have K4 := Lib.hid k4; have B1 := Lib.hid b1; have B2 := Lib.hid b2
  clear h0 hL r1 r2 r3 r4 rS rT m1 m2 m3 m4 k1 k2 k3 k4 hS hT e1 e2 e3 e4 f2 f3 f4 g2 g3 z1 z2 z3 z4 a2 a3 a4 a5 a6 zS zT b1 b2
  go_enter Tryd.func3, Tryd.ntmps3
  go_wp2_with fail
  refine H0.out.mono ?_
  rintro e w1 ⟨rfl, hb1⟩
  have h1 := vNeeds s w1 (HL.out.below hb1) (by have := B1.out; omega)
  have h2 : ∀ wx, Below w1.heap.size w1 wx → Calls Tryd.prog 11 #[.string T] wx fun e w' => Below wx.heap.size wx w' ∧ StrsP (needsE t) wx.heap.size e w' := fun wx hx => by
    have := vNeeds t wx (HL.out.below (hb1.trans (hx.mono hb1.size))) (by have := B2.out; omega)
    rw [RT.out] at this
    exact this
  rw [RS.out] at h1
  have HW1 := Lib.hid hb1
  clear hb1
  cases hA : needsE s with
  | error k =>
    have hk := needs_err hA
    rw [hA] at h1
    have zk : ((k : Int) != 0) = true := by simp; omega
    have zk' : ¬ (k : Int) = 0 := by omega
    have H1 := Lib.hid h1; have H2 := Lib.hid h2
    clear h1 h2 hk hA
    go_wp2_with fail
    refine H1.out.mono ?_
    rintro e w2 ⟨hb2, he⟩
    obtain rfl : e = _ := he
    have h2 := H2.out w2 hb2
    have HW2 := Lib.hid (HW1.out.trans (hb2.mono HW1.out.size))
    clear hb2
    obtain ⟨OUT, hO⟩ : ∃ OUT, needsE t = OUT := ⟨_, rfl⟩
    rw [hO] at h2
    have H2 := Lib.hid h2
    clear h2 hO
    cases OUT with
    | error k2 =>
      go_wp2_with fail
      refine H2.out.mono ?_
      rintro e w3 ⟨hb3, he⟩
      obtain rfl : e = _ := he
      have HW3 := Lib.hid (HW2.out.trans (hb3.mono HW2.out.size))
      clear hb3
      go_wp2
      go_ret
      exact ⟨rfl, HW3.out⟩
    | ok L =>
      go_wp2_with fail
      refine H2.out.mono ?_
      rintro e w3 ⟨hb3, v3, rfl, -⟩
      have HW3 := Lib.hid (HW2.out.trans (hb3.mono HW2.out.size))
      clear hb3
      go_wp2
      go_ret
      exact ⟨rfl, HW3.out⟩
  | ok A =>
    rw [hA] at h1
    have HA := Lib.hid hA; have H1 := Lib.hid h1; have H2 := Lib.hid h2
    clear h1 h2 hA
    go_wp2_with fail
    refine H1.out.mono ?_
    rintro e w2 ⟨hb2, v2, rfl, o2⟩
    have h2 := H2.out w2 hb2
    have hw2 := HW1.out.trans (hb2.mono HW1.out.size)
    obtain ⟨A2, n2c, rfl, -⟩ := own_form o2
    obtain ⟨na, hna⟩ : ∃ na, A.length = na := ⟨_, rfl⟩
    have hla := len_needs HA.out
    rw [hna] at o2 hla ⊢
    have HW2 := Lib.hid hw2; have O2 := Lib.hid o2; have HNA := Lib.hid hna
    clear hb2 o2 hna hw2
    cases hB : needsE t with
    | error k =>
      have hk := needs_err hB
      rw [hB] at h2
      have zk : ((k : Int) != 0) = true := by simp; omega
      have zk' : ¬ (k : Int) = 0 := by omega
      have H2 := Lib.hid h2
      clear h2 hk hB
      go_wp2_with fail
      refine H2.out.mono ?_
      rintro e w3 ⟨hb3, he⟩
      obtain rfl : e = _ := he
      have HW3 := Lib.hid (HW2.out.trans (hb3.mono HW2.out.size))
      clear hb3
      go_wp2
      go_ret
      exact ⟨rfl, HW3.out⟩
    | ok B =>
      rw [hB] at h2
      have HB := Lib.hid hB; have H2 := Lib.hid h2
      clear h2 hB
      go_wp2_with fail
      refine H2.out.mono ?_
      rintro e w3 ⟨hb3, v3, rfl, o3⟩
      obtain ⟨A3, n3c, rfl, -⟩ := own_form o3
      obtain ⟨nb, hnb⟩ : ∃ nb, B.length = nb := ⟨_, rfl⟩
      have hlb := len_needs HB.out
      rw [hnb] at o3 hlb ⊢
      have oa := own_below O2.out hb3
      have HW3 := Lib.hid (HW2.out.trans (hb3.mono HW2.out.size)); have OA := Lib.hid oa; have OB := Lib.hid o3; have HNB := Lib.hid hnb
      clear hb3 o3 hnb oa
      go_upto_region 9 with (at_builtin; refine wpList_app _ rfl strE rfl rfl (World.ownsRow_nil w3 w3.heap.size 9 1) rfl (Row.of_own OA.out) (strV_one _) (by omega) (Nat.le_refl _) ?_; intro v4 w4 own4 hg4 hb4 hx4)
      obtain ⟨A4, n4c, rfl, -⟩ := own_form own4
      have s4 := hb4.size
      have ob4 := own_below OB.out hb4
      have O4 := Lib.hid own4; have OB4 := Lib.hid ob4; have HB4 := Lib.hid hb4; have S4 := Lib.hid s4
      clear own4 hg4 hb4 hx4 ob4 s4
      go_upto_region 10 with (at_builtin; refine wpList_app _ rfl strE rfl rfl O4.out rfl (Row.of_own OB4.out) (strV_one _) (by omega) S4.out ?_; intro v5 w5 own5 hg5 hb5 hx5)
      obtain ⟨A5, n5c, rfl, -⟩ := own_form own5
      have hb35 : Below w3.heap.size w3 w5 := HB4.out.trans hb5
      have o5 : w5.ownsRow w3.heap.size 9 1 (.slice A5 (na + nb) n5c) (na + nb) ((A ++ B).map strV) := by
        rw [List.map_append]
        have := own5
        simp only [Nat.zero_add, List.nil_append] at this
        exact this
      have OA5 := Lib.hid (own_below OA.out hb35); have O5 := Lib.hid o5; have W5 := Lib.hid (HW3.out.trans (hb35.mono HW3.out.size))
      clear own5 hg5 hb5 hx5 hb35 o5
      have hab : (A ++ B).length = na + nb := by rw [List.length_append, HNA.out, HNB.out]
      have HAB := Lib.hid hab; have HLA := Lib.hid hla; have HLB := Lib.hid hlb
      clear hab hla hlb
      simp only [Nat.zero_add]
      have g1 := vNeeds c1 w5 (HL.out.below W5.out) (by have := M1.out; omega)
      rw [R1.out] at g1
      cases hC1 : needsE c1 with
      | error k =>
        have hk := needs_err hC1
        rw [hC1] at g1
        have zk : ((k : Int) == 0) = false := by simp; omega
        have zl : ((k : Int) != 0) = true := by simp; omega
        have zk' : ¬ (k : Int) = 0 := by omega
        have G1 := Lib.hid g1
        clear g1 hk hC1
        go_wp2_with fail
        refine G1.out.mono ?_
        rintro e w6 ⟨hb6, he⟩
        obtain rfl : e = _ := he
        have OA6 := Lib.hid (own_below OA5.out hb6); have W6 := Lib.hid (W5.out.trans (hb6.mono W5.out.size))
        clear hb6
        go_upto_region 13 with fail
        clear zk zl zk'
        have g2 := vNeeds c2 w6 (HL.out.below W6.out) (by have := M2.out; omega)
        rw [R2.out] at g2
        cases hC2 : needsE c2 with
        | error k =>
          have hk := needs_err hC2
          rw [hC2] at g2
          have zk : ((k : Int) == 0) = false := by simp; omega
          have zl : ((k : Int) != 0) = true := by simp; omega
          have zk' : ¬ (k : Int) = 0 := by omega
          have G2 := Lib.hid g2
          clear g2 hk hC2
          go_wp2_with fail
          refine G2.out.mono ?_
          rintro e w7 ⟨hb7, he⟩
          obtain rfl : e = _ := he
          have OA7 := Lib.hid (own_below OA6.out hb7); have W7 := Lib.hid (W6.out.trans (hb7.mono W6.out.size))
          clear hb7
          go_upto_region 16 with fail
          clear zk zl zk'
          have g3 := vNeeds c3 w7 (HL.out.below W7.out) (by have := M3.out; omega)
          rw [R3.out] at g3
          cases hC3 : needsE c3 with
          | error k =>
            have hk := needs_err hC3
            rw [hC3] at g3
            have zk : ((k : Int) == 0) = false := by simp; omega
            have zl : ((k : Int) != 0) = true := by simp; omega
            have zk' : ¬ (k : Int) = 0 := by omega
            have G3 := Lib.hid g3
            clear g3 hk hC3
            go_wp2_with fail
            refine G3.out.mono ?_
            rintro e w8 ⟨hb8, he⟩
            obtain rfl : e = _ := he
            have OA8 := Lib.hid (own_below OA7.out hb8); have W8 := Lib.hid (W7.out.trans (hb8.mono W7.out.size))
            clear hb8
            go_upto_region 19 with fail
            clear zk zl zk'
            have g4 := vNeeds c4 w8 (HL.out.below W8.out) (by have := M4.out; omega)
            rw [R4.out] at g4
            cases hC4 : needsE c4 with
            | error k =>
              have hk := needs_err hC4
              rw [hC4] at g4
              have zk : ((k : Int) == 0) = false := by simp; omega
              have zl : ((k : Int) != 0) = true := by simp; omega
              have zk' : ¬ (k : Int) = 0 := by omega
              have G4 := Lib.hid g4
              clear g4 hk hC4
              go_wp2_with fail
              refine G4.out.mono ?_
              rintro e w9 ⟨hb9, he⟩
              obtain rfl : e = _ := he
              have OA9 := Lib.hid (own_below OA8.out hb9); have W9 := Lib.hid (W8.out.trans (hb9.mono W8.out.size))
              clear hb9
              go_wp2
              go_ret
              exact ⟨rfl, W9.out⟩
            | ok C =>
              have hc := opt_needs HA.out (by rw [← K4.out]; exact hC4)
              rw [hC4] at g4
              subst hc
              have HC := Lib.hid True.intro; have G4 := Lib.hid g4
              have hcl := len_needs hC4
              clear g4  hC4
              go_wp2_with fail
              refine G4.out.mono ?_
              rintro e w9 ⟨hb9, v9, rfl, o9⟩
              obtain ⟨A9, c9', rfl, -⟩ := own_form o9
              have OA9 := Lib.hid (own_below OA8.out hb9); have W9 := Lib.hid (W8.out.trans (hb9.mono W8.out.size)); have OC := Lib.hid o9
              clear hb9 o9 hcl OC
              go_wp2
              go_ret
              exact ⟨rfl, W9.out⟩
          | ok C =>
            have hc := plus_needs HA.out (by rw [← K3.out]; exact hC3)
            rw [hC3] at g3
            have HC := Lib.hid hc; have G3 := Lib.hid g3
            have hcl := len_needs hC3
            clear g3 hc hC3
            go_wp2_with fail
            refine G3.out.mono ?_
            rintro e w8 ⟨hb8, v8, rfl, o8⟩
            obtain ⟨A8, c8', rfl, -⟩ := own_form o8
            obtain ⟨nc, hnc⟩ : ∃ nc, C.length = nc := ⟨_, rfl⟩
            rw [hnc] at o8 hcl ⊢
            have HNC := Lib.hid hnc
            clear hnc
            have OA8 := Lib.hid (own_below OA7.out hb8); have W8 := Lib.hid (W7.out.trans (hb8.mono W7.out.size)); have OC := Lib.hid o8
            have sm := vSame7 C A A8 A2 nc na c8' n2c w8.heap.size w8 HNC.out HNA.out (Row.of_own o8) (Row.of_own OA8.out) (Nat.le_refl _) (by omega)
            rw [decide_eq_true HC.out] at sm
            have SM := Lib.hid sm
            clear sm hb8 o8 hcl OC
            go_wp2_with fail
            refine SM.out.mono ?_
            rintro e w9 ⟨rfl, hb9⟩
            have OA9 := Lib.hid (own_below OA8.out hb9); have W9 := Lib.hid (W8.out.trans (hb9.mono W8.out.size))
            clear hb9 SM
            go_upto_region 19 with fail
            have g4 := vNeeds c4 w9 (HL.out.below W9.out) (by have := M4.out; omega)
            rw [R4.out] at g4
            cases hC4 : needsE c4 with
            | error k =>
              have hk := needs_err hC4
              rw [hC4] at g4
              have zk : ((k : Int) == 0) = false := by simp; omega
              have zl : ((k : Int) != 0) = true := by simp; omega
              have zk' : ¬ (k : Int) = 0 := by omega
              have G4 := Lib.hid g4
              clear g4 hk hC4
              go_wp2_with fail
              refine G4.out.mono ?_
              rintro e w10 ⟨hb10, he⟩
              obtain rfl : e = _ := he
              have OA10 := Lib.hid (own_below OA9.out hb10); have W10 := Lib.hid (W9.out.trans (hb10.mono W9.out.size))
              clear hb10
              go_wp2
              go_ret
              exact ⟨rfl, W10.out⟩
            | ok C =>
              have hc := opt_needs HA.out (by rw [← K4.out]; exact hC4)
              rw [hC4] at g4
              subst hc
              have HC := Lib.hid True.intro; have G4 := Lib.hid g4
              have hcl := len_needs hC4
              clear g4  hC4
              go_wp2_with fail
              refine G4.out.mono ?_
              rintro e w10 ⟨hb10, v10, rfl, o10⟩
              obtain ⟨A10, c10', rfl, -⟩ := own_form o10
              have OA10 := Lib.hid (own_below OA9.out hb10); have W10 := Lib.hid (W9.out.trans (hb10.mono W9.out.size)); have OC := Lib.hid o10
              clear hb10 o10 hcl OC
              go_wp2
              go_ret
              exact ⟨rfl, W10.out⟩
        | ok C =>
          have hc := alt_needs HA.out HB.out (by rw [← K2.out]; exact hC2)
          rw [hC2] at g2
          subst hc
          have HC := Lib.hid True.intro; have G2 := Lib.hid g2
          have hcl := len_needs hC2
          clear g2  hC2
          go_wp2_with fail
          refine G2.out.mono ?_
          rintro e w7 ⟨hb7, v7, rfl, o7⟩
          obtain ⟨A7, c7', rfl, -⟩ := own_form o7
          have OA7 := Lib.hid (own_below OA6.out hb7); have W7 := Lib.hid (W6.out.trans (hb7.mono W6.out.size)); have OC := Lib.hid o7
          clear hb7 o7 hcl OC
          go_upto_region 16 with fail
          have g3 := vNeeds c3 w7 (HL.out.below W7.out) (by have := M3.out; omega)
          rw [R3.out] at g3
          cases hC3 : needsE c3 with
          | error k =>
            have hk := needs_err hC3
            rw [hC3] at g3
            have zk : ((k : Int) == 0) = false := by simp; omega
            have zl : ((k : Int) != 0) = true := by simp; omega
            have zk' : ¬ (k : Int) = 0 := by omega
            have G3 := Lib.hid g3
            clear g3 hk hC3
            go_wp2_with fail
            refine G3.out.mono ?_
            rintro e w8 ⟨hb8, he⟩
            obtain rfl : e = _ := he
            have OA8 := Lib.hid (own_below OA7.out hb8); have W8 := Lib.hid (W7.out.trans (hb8.mono W7.out.size))
            clear hb8
            go_upto_region 19 with fail
            clear zk zl zk'
            have g4 := vNeeds c4 w8 (HL.out.below W8.out) (by have := M4.out; omega)
            rw [R4.out] at g4
            cases hC4 : needsE c4 with
            | error k =>
              have hk := needs_err hC4
              rw [hC4] at g4
              have zk : ((k : Int) == 0) = false := by simp; omega
              have zl : ((k : Int) != 0) = true := by simp; omega
              have zk' : ¬ (k : Int) = 0 := by omega
              have G4 := Lib.hid g4
              clear g4 hk hC4
              go_wp2_with fail
              refine G4.out.mono ?_
              rintro e w9 ⟨hb9, he⟩
              obtain rfl : e = _ := he
              have OA9 := Lib.hid (own_below OA8.out hb9); have W9 := Lib.hid (W8.out.trans (hb9.mono W8.out.size))
              clear hb9
              go_wp2
              go_ret
              exact ⟨rfl, W9.out⟩
            | ok C =>
              have hc := opt_needs HA.out (by rw [← K4.out]; exact hC4)
              rw [hC4] at g4
              subst hc
              have HC := Lib.hid True.intro; have G4 := Lib.hid g4
              have hcl := len_needs hC4
              clear g4  hC4
              go_wp2_with fail
              refine G4.out.mono ?_
              rintro e w9 ⟨hb9, v9, rfl, o9⟩
              obtain ⟨A9, c9', rfl, -⟩ := own_form o9
              have OA9 := Lib.hid (own_below OA8.out hb9); have W9 := Lib.hid (W8.out.trans (hb9.mono W8.out.size)); have OC := Lib.hid o9
              clear hb9 o9 hcl OC
              go_wp2
              go_ret
              exact ⟨rfl, W9.out⟩
          | ok C =>
            have hc := plus_needs HA.out (by rw [← K3.out]; exact hC3)
            rw [hC3] at g3
            have HC := Lib.hid hc; have G3 := Lib.hid g3
            have hcl := len_needs hC3
            clear g3 hc hC3
            go_wp2_with fail
            refine G3.out.mono ?_
            rintro e w8 ⟨hb8, v8, rfl, o8⟩
            obtain ⟨A8, c8', rfl, -⟩ := own_form o8
            obtain ⟨nc, hnc⟩ : ∃ nc, C.length = nc := ⟨_, rfl⟩
            rw [hnc] at o8 hcl ⊢
            have HNC := Lib.hid hnc
            clear hnc
            have OA8 := Lib.hid (own_below OA7.out hb8); have W8 := Lib.hid (W7.out.trans (hb8.mono W7.out.size)); have OC := Lib.hid o8
            have sm := vSame7 C A A8 A2 nc na c8' n2c w8.heap.size w8 HNC.out HNA.out (Row.of_own o8) (Row.of_own OA8.out) (Nat.le_refl _) (by omega)
            rw [decide_eq_true HC.out] at sm
            have SM := Lib.hid sm
            clear sm hb8 o8 hcl OC
            go_wp2_with fail
            refine SM.out.mono ?_
            rintro e w9 ⟨rfl, hb9⟩
            have OA9 := Lib.hid (own_below OA8.out hb9); have W9 := Lib.hid (W8.out.trans (hb9.mono W8.out.size))
            clear hb9 SM
            go_upto_region 19 with fail
            have g4 := vNeeds c4 w9 (HL.out.below W9.out) (by have := M4.out; omega)
            rw [R4.out] at g4
            cases hC4 : needsE c4 with
            | error k =>
              have hk := needs_err hC4
              rw [hC4] at g4
              have zk : ((k : Int) == 0) = false := by simp; omega
              have zl : ((k : Int) != 0) = true := by simp; omega
              have zk' : ¬ (k : Int) = 0 := by omega
              have G4 := Lib.hid g4
              clear g4 hk hC4
              go_wp2_with fail
              refine G4.out.mono ?_
              rintro e w10 ⟨hb10, he⟩
              obtain rfl : e = _ := he
              have OA10 := Lib.hid (own_below OA9.out hb10); have W10 := Lib.hid (W9.out.trans (hb10.mono W9.out.size))
              clear hb10
              go_wp2
              go_ret
              exact ⟨rfl, W10.out⟩
            | ok C =>
              have hc := opt_needs HA.out (by rw [← K4.out]; exact hC4)
              rw [hC4] at g4
              subst hc
              have HC := Lib.hid True.intro; have G4 := Lib.hid g4
              have hcl := len_needs hC4
              clear g4  hC4
              go_wp2_with fail
              refine G4.out.mono ?_
              rintro e w10 ⟨hb10, v10, rfl, o10⟩
              obtain ⟨A10, c10', rfl, -⟩ := own_form o10
              have OA10 := Lib.hid (own_below OA9.out hb10); have W10 := Lib.hid (W9.out.trans (hb10.mono W9.out.size)); have OC := Lib.hid o10
              clear hb10 o10 hcl OC
              go_wp2
              go_ret
              exact ⟨rfl, W10.out⟩
      | ok C =>
        have hc := join_needs HA.out HB.out (by rw [← K1.out]; exact hC1)
        rw [hC1] at g1
        have HC := Lib.hid hc; have G1 := Lib.hid g1
        have hcl := len_needs hC1
        clear g1 hc hC1
        go_wp2_with fail
        refine G1.out.mono ?_
        rintro e w6 ⟨hb6, v6, rfl, o6⟩
        obtain ⟨A6, c6', rfl, -⟩ := own_form o6
        obtain ⟨nc, hnc⟩ : ∃ nc, C.length = nc := ⟨_, rfl⟩
        rw [hnc] at o6 hcl ⊢
        have HNC := Lib.hid hnc
        clear hnc
        have OA6 := Lib.hid (own_below OA5.out hb6); have W6 := Lib.hid (W5.out.trans (hb6.mono W5.out.size)); have OC := Lib.hid o6
        have ob := vOnce7 (A ++ B) A5 (na + nb) n5c w6.heap.size w6 HAB.out (Row.of_own (own_below O5.out hb6)) (Nat.le_refl _) (by have := HLA.out; have := HLB.out; omega)
        have OB1 := Lib.hid ob
        clear hb6 ob o6 hcl
        go_wp2_with fail
        refine OB1.out.mono ?_
        rintro e w7 ⟨v7, rfl, o7, hb7⟩
        obtain ⟨A7, c7', rfl, -⟩ := own_form o7
        obtain ⟨nd, hnd⟩ : ∃ nd, (onceB (A ++ B)).length = nd := ⟨_, rfl⟩
        rw [hnd] at o7 ⊢
        have hl1 := once_len (A ++ B)
        have sm := vSame7 C (onceB (A ++ B)) A6 A7 nc nd c6' c7' w7.heap.size w7 HNC.out hnd (Row.of_own (own_below OC.out hb7)) (Row.of_own o7) (Nat.le_refl _) (by have h1 := congrArg List.length HC.out; rw [HNC.out] at h1; have := HAB.out; have := HLA.out; have := HLB.out; omega)
        rw [decide_eq_true HC.out] at sm
        have SM := Lib.hid sm
        have OA7 := Lib.hid (own_below OA6.out hb7); have W7 := Lib.hid (W6.out.trans (hb7.mono W6.out.size))
        clear sm hnd hl1 o7 hb7 OC OB1
        go_wp2_with fail
        refine SM.out.mono ?_
        rintro e w8 ⟨rfl, hb8⟩
        have OA8 := Lib.hid (own_below OA7.out hb8); have W8 := Lib.hid (W7.out.trans (hb8.mono W7.out.size))
        clear hb8 SM
        go_upto_region 13 with fail
        have g2 := vNeeds c2 w8 (HL.out.below W8.out) (by have := M2.out; omega)
        rw [R2.out] at g2
        cases hC2 : needsE c2 with
        | error k =>
          have hk := needs_err hC2
          rw [hC2] at g2
          have zk : ((k : Int) == 0) = false := by simp; omega
          have zl : ((k : Int) != 0) = true := by simp; omega
          have zk' : ¬ (k : Int) = 0 := by omega
          have G2 := Lib.hid g2
          clear g2 hk hC2
          go_wp2_with fail
          refine G2.out.mono ?_
          rintro e w9 ⟨hb9, he⟩
          obtain rfl : e = _ := he
          have OA9 := Lib.hid (own_below OA8.out hb9); have W9 := Lib.hid (W8.out.trans (hb9.mono W8.out.size))
          clear hb9
          go_upto_region 16 with fail
          clear zk zl zk'
          have g3 := vNeeds c3 w9 (HL.out.below W9.out) (by have := M3.out; omega)
          rw [R3.out] at g3
          cases hC3 : needsE c3 with
          | error k =>
            have hk := needs_err hC3
            rw [hC3] at g3
            have zk : ((k : Int) == 0) = false := by simp; omega
            have zl : ((k : Int) != 0) = true := by simp; omega
            have zk' : ¬ (k : Int) = 0 := by omega
            have G3 := Lib.hid g3
            clear g3 hk hC3
            go_wp2_with fail
            refine G3.out.mono ?_
            rintro e w10 ⟨hb10, he⟩
            obtain rfl : e = _ := he
            have OA10 := Lib.hid (own_below OA9.out hb10); have W10 := Lib.hid (W9.out.trans (hb10.mono W9.out.size))
            clear hb10
            go_upto_region 19 with fail
            clear zk zl zk'
            have g4 := vNeeds c4 w10 (HL.out.below W10.out) (by have := M4.out; omega)
            rw [R4.out] at g4
            cases hC4 : needsE c4 with
            | error k =>
              have hk := needs_err hC4
              rw [hC4] at g4
              have zk : ((k : Int) == 0) = false := by simp; omega
              have zl : ((k : Int) != 0) = true := by simp; omega
              have zk' : ¬ (k : Int) = 0 := by omega
              have G4 := Lib.hid g4
              clear g4 hk hC4
              go_wp2_with fail
              refine G4.out.mono ?_
              rintro e w11 ⟨hb11, he⟩
              obtain rfl : e = _ := he
              have OA11 := Lib.hid (own_below OA10.out hb11); have W11 := Lib.hid (W10.out.trans (hb11.mono W10.out.size))
              clear hb11
              go_wp2
              go_ret
              exact ⟨rfl, W11.out⟩
            | ok C =>
              have hc := opt_needs HA.out (by rw [← K4.out]; exact hC4)
              rw [hC4] at g4
              subst hc
              have HC := Lib.hid True.intro; have G4 := Lib.hid g4
              have hcl := len_needs hC4
              clear g4  hC4
              go_wp2_with fail
              refine G4.out.mono ?_
              rintro e w11 ⟨hb11, v11, rfl, o11⟩
              obtain ⟨A11, c11', rfl, -⟩ := own_form o11
              have OA11 := Lib.hid (own_below OA10.out hb11); have W11 := Lib.hid (W10.out.trans (hb11.mono W10.out.size)); have OC := Lib.hid o11
              clear hb11 o11 hcl OC
              go_wp2
              go_ret
              exact ⟨rfl, W11.out⟩
          | ok C =>
            have hc := plus_needs HA.out (by rw [← K3.out]; exact hC3)
            rw [hC3] at g3
            have HC := Lib.hid hc; have G3 := Lib.hid g3
            have hcl := len_needs hC3
            clear g3 hc hC3
            go_wp2_with fail
            refine G3.out.mono ?_
            rintro e w10 ⟨hb10, v10, rfl, o10⟩
            obtain ⟨A10, c10', rfl, -⟩ := own_form o10
            obtain ⟨nc, hnc⟩ : ∃ nc, C.length = nc := ⟨_, rfl⟩
            rw [hnc] at o10 hcl ⊢
            have HNC := Lib.hid hnc
            clear hnc
            have OA10 := Lib.hid (own_below OA9.out hb10); have W10 := Lib.hid (W9.out.trans (hb10.mono W9.out.size)); have OC := Lib.hid o10
            have sm := vSame7 C A A10 A2 nc na c10' n2c w10.heap.size w10 HNC.out HNA.out (Row.of_own o10) (Row.of_own OA10.out) (Nat.le_refl _) (by omega)
            rw [decide_eq_true HC.out] at sm
            have SM := Lib.hid sm
            clear sm hb10 o10 hcl OC
            go_wp2_with fail
            refine SM.out.mono ?_
            rintro e w11 ⟨rfl, hb11⟩
            have OA11 := Lib.hid (own_below OA10.out hb11); have W11 := Lib.hid (W10.out.trans (hb11.mono W10.out.size))
            clear hb11 SM
            go_upto_region 19 with fail
            have g4 := vNeeds c4 w11 (HL.out.below W11.out) (by have := M4.out; omega)
            rw [R4.out] at g4
            cases hC4 : needsE c4 with
            | error k =>
              have hk := needs_err hC4
              rw [hC4] at g4
              have zk : ((k : Int) == 0) = false := by simp; omega
              have zl : ((k : Int) != 0) = true := by simp; omega
              have zk' : ¬ (k : Int) = 0 := by omega
              have G4 := Lib.hid g4
              clear g4 hk hC4
              go_wp2_with fail
              refine G4.out.mono ?_
              rintro e w12 ⟨hb12, he⟩
              obtain rfl : e = _ := he
              have OA12 := Lib.hid (own_below OA11.out hb12); have W12 := Lib.hid (W11.out.trans (hb12.mono W11.out.size))
              clear hb12
              go_wp2
              go_ret
              exact ⟨rfl, W12.out⟩
            | ok C =>
              have hc := opt_needs HA.out (by rw [← K4.out]; exact hC4)
              rw [hC4] at g4
              subst hc
              have HC := Lib.hid True.intro; have G4 := Lib.hid g4
              have hcl := len_needs hC4
              clear g4  hC4
              go_wp2_with fail
              refine G4.out.mono ?_
              rintro e w12 ⟨hb12, v12, rfl, o12⟩
              obtain ⟨A12, c12', rfl, -⟩ := own_form o12
              have OA12 := Lib.hid (own_below OA11.out hb12); have W12 := Lib.hid (W11.out.trans (hb12.mono W11.out.size)); have OC := Lib.hid o12
              clear hb12 o12 hcl OC
              go_wp2
              go_ret
              exact ⟨rfl, W12.out⟩
        | ok C =>
          have hc := alt_needs HA.out HB.out (by rw [← K2.out]; exact hC2)
          rw [hC2] at g2
          subst hc
          have HC := Lib.hid True.intro; have G2 := Lib.hid g2
          have hcl := len_needs hC2
          clear g2  hC2
          go_wp2_with fail
          refine G2.out.mono ?_
          rintro e w9 ⟨hb9, v9, rfl, o9⟩
          obtain ⟨A9, c9', rfl, -⟩ := own_form o9
          have OA9 := Lib.hid (own_below OA8.out hb9); have W9 := Lib.hid (W8.out.trans (hb9.mono W8.out.size)); have OC := Lib.hid o9
          clear hb9 o9 hcl OC
          go_upto_region 16 with fail
          have g3 := vNeeds c3 w9 (HL.out.below W9.out) (by have := M3.out; omega)
          rw [R3.out] at g3
          cases hC3 : needsE c3 with
          | error k =>
            have hk := needs_err hC3
            rw [hC3] at g3
            have zk : ((k : Int) == 0) = false := by simp; omega
            have zl : ((k : Int) != 0) = true := by simp; omega
            have zk' : ¬ (k : Int) = 0 := by omega
            have G3 := Lib.hid g3
            clear g3 hk hC3
            go_wp2_with fail
            refine G3.out.mono ?_
            rintro e w10 ⟨hb10, he⟩
            obtain rfl : e = _ := he
            have OA10 := Lib.hid (own_below OA9.out hb10); have W10 := Lib.hid (W9.out.trans (hb10.mono W9.out.size))
            clear hb10
            go_upto_region 19 with fail
            clear zk zl zk'
            have g4 := vNeeds c4 w10 (HL.out.below W10.out) (by have := M4.out; omega)
            rw [R4.out] at g4
            cases hC4 : needsE c4 with
            | error k =>
              have hk := needs_err hC4
              rw [hC4] at g4
              have zk : ((k : Int) == 0) = false := by simp; omega
              have zl : ((k : Int) != 0) = true := by simp; omega
              have zk' : ¬ (k : Int) = 0 := by omega
              have G4 := Lib.hid g4
              clear g4 hk hC4
              go_wp2_with fail
              refine G4.out.mono ?_
              rintro e w11 ⟨hb11, he⟩
              obtain rfl : e = _ := he
              have OA11 := Lib.hid (own_below OA10.out hb11); have W11 := Lib.hid (W10.out.trans (hb11.mono W10.out.size))
              clear hb11
              go_wp2
              go_ret
              exact ⟨rfl, W11.out⟩
            | ok C =>
              have hc := opt_needs HA.out (by rw [← K4.out]; exact hC4)
              rw [hC4] at g4
              subst hc
              have HC := Lib.hid True.intro; have G4 := Lib.hid g4
              have hcl := len_needs hC4
              clear g4  hC4
              go_wp2_with fail
              refine G4.out.mono ?_
              rintro e w11 ⟨hb11, v11, rfl, o11⟩
              obtain ⟨A11, c11', rfl, -⟩ := own_form o11
              have OA11 := Lib.hid (own_below OA10.out hb11); have W11 := Lib.hid (W10.out.trans (hb11.mono W10.out.size)); have OC := Lib.hid o11
              clear hb11 o11 hcl OC
              go_wp2
              go_ret
              exact ⟨rfl, W11.out⟩
          | ok C =>
            have hc := plus_needs HA.out (by rw [← K3.out]; exact hC3)
            rw [hC3] at g3
            have HC := Lib.hid hc; have G3 := Lib.hid g3
            have hcl := len_needs hC3
            clear g3 hc hC3
            go_wp2_with fail
            refine G3.out.mono ?_
            rintro e w10 ⟨hb10, v10, rfl, o10⟩
            obtain ⟨A10, c10', rfl, -⟩ := own_form o10
            obtain ⟨nc, hnc⟩ : ∃ nc, C.length = nc := ⟨_, rfl⟩
            rw [hnc] at o10 hcl ⊢
            have HNC := Lib.hid hnc
            clear hnc
            have OA10 := Lib.hid (own_below OA9.out hb10); have W10 := Lib.hid (W9.out.trans (hb10.mono W9.out.size)); have OC := Lib.hid o10
            have sm := vSame7 C A A10 A2 nc na c10' n2c w10.heap.size w10 HNC.out HNA.out (Row.of_own o10) (Row.of_own OA10.out) (Nat.le_refl _) (by omega)
            rw [decide_eq_true HC.out] at sm
            have SM := Lib.hid sm
            clear sm hb10 o10 hcl OC
            go_wp2_with fail
            refine SM.out.mono ?_
            rintro e w11 ⟨rfl, hb11⟩
            have OA11 := Lib.hid (own_below OA10.out hb11); have W11 := Lib.hid (W10.out.trans (hb11.mono W10.out.size))
            clear hb11 SM
            go_upto_region 19 with fail
            have g4 := vNeeds c4 w11 (HL.out.below W11.out) (by have := M4.out; omega)
            rw [R4.out] at g4
            cases hC4 : needsE c4 with
            | error k =>
              have hk := needs_err hC4
              rw [hC4] at g4
              have zk : ((k : Int) == 0) = false := by simp; omega
              have zl : ((k : Int) != 0) = true := by simp; omega
              have zk' : ¬ (k : Int) = 0 := by omega
              have G4 := Lib.hid g4
              clear g4 hk hC4
              go_wp2_with fail
              refine G4.out.mono ?_
              rintro e w12 ⟨hb12, he⟩
              obtain rfl : e = _ := he
              have OA12 := Lib.hid (own_below OA11.out hb12); have W12 := Lib.hid (W11.out.trans (hb12.mono W11.out.size))
              clear hb12
              go_wp2
              go_ret
              exact ⟨rfl, W12.out⟩
            | ok C =>
              have hc := opt_needs HA.out (by rw [← K4.out]; exact hC4)
              rw [hC4] at g4
              subst hc
              have HC := Lib.hid True.intro; have G4 := Lib.hid g4
              have hcl := len_needs hC4
              clear g4  hC4
              go_wp2_with fail
              refine G4.out.mono ?_
              rintro e w12 ⟨hb12, v12, rfl, o12⟩
              obtain ⟨A12, c12', rfl, -⟩ := own_form o12
              have OA12 := Lib.hid (own_below OA11.out hb12); have W12 := Lib.hid (W11.out.trans (hb12.mono W11.out.size)); have OC := Lib.hid o12
              clear hb12 o12 hcl OC
              go_wp2
              go_ret
              exact ⟨rfl, W12.out⟩
end Go.Proofs.YtkojmgnbmnjmmaaDoor
