import Derived.Test.YtmalkgakdmghiaaPa52
/-! PostAlgebra: the walk (printed by gen_pa.py) -/
namespace Go.Proofs.Ytmalkgakdmghiaa
open Go.RowKit Go.Shelf Go.Lib Go.Sort Garner

set_option maxRecDepth 100000 in
set_option maxHeartbeats 8000000 in
theorem lawPA (a b cc : List Nat) (A0 A1 A2 : Option Addr) (c0 c1 c2 B : Nat) (w : World) (ra : Row w B 1 A0 a.length (a.map u64v)) (rb : Row w B 1 A1 b.length (b.map u64v)) (rc : Row w B 1 A2 cc.length (cc.map u64v)) (hB : B ≤ w.heap.size) (na : a.length ≤ 17592186044000) (nb : b.length ≤ 17592186044000) (nc : cc.length ≤ 17592186044000) :
    Calls Try.prog 4 #[.slice A0 a.length c0, .slice A1 b.length c1, .slice A2 cc.length c2] w fun e w' => e = .returned (.bool true) ∧ Below w.heap.size w w' := by
  obtain ⟨X, hX⟩ : ∃ X, X = andP a b := ⟨_, rfl⟩
  obtain ⟨Y, hY⟩ : ∃ Y, Y = orP (a ++ b) := ⟨_, rfl⟩
  have Xa : X.length ≤ a.length := by rw [hX]; exact Nat.le_trans (List.length_filter_le _ _) (orP_le _)
  have hcnt : X.length + Y.length = (orP a).length + (orP b).length := by rw [hX, hY]; exact count_law a b
  have hoa := orP_le a
  have hob := orP_le b
  have hXY : andP X Y = X := by rw [hX, hY]; exact andP_in a b
  have hOXY : orP (X ++ Y) = Y := by rw [hX, hY]; exact orP_in a b
  have hba : andP b a = X := by rw [hX]; exact andP_comm a b
  have hoba : orP (b ++ a) = Y := by rw [hY]; exact orP_comm a b
  obtain ⟨T, hT⟩ : ∃ T, T = orP (b ++ cc) := ⟨_, rfl⟩
  obtain ⟨V, hV⟩ : ∃ V, V = andP a cc := ⟨_, rfl⟩
  obtain ⟨U, hU⟩ : ∃ U, U = andP a T := ⟨_, rfl⟩
  have hUV : orP (X ++ V) = U := by rw [hU, hT, hX, hV]; exact (andP_or a b cc).symm
  have Tl : T.length ≤ b.length + cc.length := by rw [hT, ← List.length_append]; exact orP_le _
  have Vl : V.length ≤ a.length := by rw [hV]; exact Nat.le_trans (List.length_filter_le _ _) (orP_le _)
  have Ul : U.length ≤ a.length := by rw [hU]; exact Nat.le_trans (List.length_filter_le _ _) (orP_le _)
  have HX := Lib.hid hX; clear hX
  have HY := Lib.hid hY; clear hY
  have HT := Lib.hid hT; clear hT
  have HV := Lib.hid hV; clear hV
  have HU := Lib.hid hU; clear hU
  have HXY := Lib.hid hXY; clear hXY
  have HOXY := Lib.hid hOXY; clear hOXY
  have Hba := Lib.hid hba; clear hba
  have Hoba := Lib.hid hoba; clear hoba
  have HUV := Lib.hid hUV; clear hUV
  go_enter Try.func4, Try.ntmps4
  go_wp2_with fail
  refine (awakeP w).mono ?_
  rintro e w1 ⟨rfl, hb1⟩
  have s1 := hb1.size
  have own0 := own_none w1 s1
  have ra1' := (ra.below (hb1.mono hB)).alloc (Nat.le_trans hB s1) (.cells #[] 31)
  go_upto_region 4 with (at_builtin; first | (refine wpList_app _ rfl u64E rfl rfl (own2.alloc (.cells #[u64v 77] 31)) rfl (row_new w2 31 [u64v 77]) (u64v_one [77]) (by simp; omega) (by simp; omega) ?_; intro v3 w3 own3 hg3 hb3 _; have own4 : OwnU w3 w.heap.size v3 (a ++ [77]) := (by unfold OwnU; simpa using own3); obtain ⟨A5, c5, rfl, hc5⟩ := own_form own4; obtain ⟨g, rfl, -, hg4, -, -, -⟩ := own_at own4 (by simp)) | (refine wpList_app _ rfl u64E rfl rfl own0 rfl ra1' (u64v_one _) (by simp; omega) (by simp; omega) ?_; intro v2 w2 own2 hg2 hb2 _; have s2 := hb2.size; simp only [World.size_alloc] at s2))
  clear own3 hg3 own0 ra1'
  simp only [List.length_append, List.length_singleton] at hc5 own4
  have hbX : Below w.heap.size w w3 := by
    have h1 : Below w.heap.size w (w1.alloc (.cells #[] 31)) := hb1.alloc s1 _
    exact ((h1.trans hb2).alloc (by omega) _).trans hb3
  clear hb1 hb2 hb3
  have lc : (a.length : Int) ≤ (c5 : Int) := by omega
  have lc2 : a.length ≤ c5 := by omega
  clear own2 hg2 s2 s1
  have s3 := hbX.size
  go_wp2_with fail
  refine (cAnd2 (some ⟨g, 0, none⟩) A1 c5 c1 a b w3.heap.size w3 (row_own (own_cutU own4)) ((rb.below (hbX.mono hB)).more (Nat.le_trans hB hbX.size)) (Nat.le_refl _) (by omega) (by omega)).mono ?_
  rintro e w4 ⟨Ax, cx, rfl, ownx, hb4⟩
  rw [← HX.out] at ownx ⊢
  have ownx' : OwnU w4 (g + 1) (.slice Ax X.length cx) X := own_mono ownx (by omega)
  have own4' := own_below own4 hb4
  have hbY : Below w.heap.size w w4 := hbX.trans (hb4.mono s3)
  clear ownx own4 hbX hb4 s3
  have s3 := hbY.size
  go_wp2_with fail
  refine (cOr2 (some ⟨g, 0, none⟩) A1 c5 c1 a b w4.heap.size w4 (row_own (own_cutU own4')) ((rb.below (hbY.mono hB)).more (Nat.le_trans hB hbY.size)) (Nat.le_refl _) (by omega)).mono ?_
  rintro e w5 ⟨Ay, cy, rfl, owny, hb5⟩
  rw [← HY.out] at owny ⊢
  have hP5 : Pas w g c5 a Ax cx X Ay cy Y w5 := ⟨hbY.trans (hb5.mono s3), own_below own4' hb5, own_below ownx' hb5, own_mono owny s3⟩
  clear own4' ownx' owny hbY hb5 s3
  have l77 : w5.cell? ⟨g, a.length, none⟩ = some (.int .u64 77) := hP5.c77
  go_wp2_with fail
  refine (vSame a (some ⟨g, 0, none⟩) A0 c5 c0 w5.heap.size w5 (row_own (own_cutU hP5.full)) ((ra.below (hP5.bel.mono hB)).more (Nat.le_trans hB hP5.bel.size)) (Nat.le_refl _) (by omega)).mono ?_
  rintro e w6 ⟨rfl, hb6⟩
  have hP6 := hP5.step hb6
  clear hP5
  clear hb6 l77
  have l77 : w6.cell? ⟨g, a.length, none⟩ = some (.int .u64 77) := hP6.c77
  have la5 : (a.length : Int) < ((a.length + 1 : Nat) : Int) := by omega
  obtain ⟨N, hN⟩ : ∃ N, N = X.length + Y.length := ⟨_, rfl⟩
  have wn1 : IntKind.i64.wrap ((X.length : Int) + (Y.length : Int)) = (N : Int) := by rw [IntKind.wrap_i64]; omega
  have wn2 : IntKind.i64.wrap (((orP a).length : Int) + ((orP b).length : Int)) = (N : Int) := by rw [IntKind.wrap_i64]; omega
  go_wp2_with fail
  refine (cOr1 A0 c0 a w6.heap.size w6 ((ra.below (hP6.bel.mono hB)).more (Nat.le_trans hB hP6.bel.size)) (Nat.le_refl _) (by omega)).mono ?_
  rintro e w7 ⟨Aq, cq, rfl, -, hb7⟩
  have hP7 := hP6.step hb7
  clear hP6 hb7 l77
  go_wp2_with fail
  refine (cOr1 A1 c1 b w7.heap.size w7 ((rb.below (hP7.bel.mono hB)).more (Nat.le_trans hB hP7.bel.size)) (Nat.le_refl _) (by omega)).mono ?_
  rintro e w8 ⟨Ar, cr, rfl, -, hb8⟩
  have hP8 := hP7.step hb8
  clear hP7 hb8
  go_wp2_with fail
  refine (cAnd2 Ax Ay cx cy X Y w8.heap.size w8 (row_own hP8.x) (row_own hP8.y) (Nat.le_refl _) (by omega) (by omega)).mono ?_
  rintro e w9 ⟨At1, ct1, rfl, ownt1, hb9⟩
  rw [HXY.out] at ownt1 ⊢
  have hP9 := hP8.step hb9
  clear hP8 hb9
  go_wp2_with fail
  refine (vSame X At1 Ax ct1 cx w9.heap.size w9 (row_own ownt1) (row_own hP9.x) (Nat.le_refl _) (by omega)).mono ?_
  rintro e w10 ⟨rfl, hb10⟩
  have hP10 := hP9.step hb10
  clear hP9 hb10
  clear ownt1
  go_wp2_with fail
  refine (cOr2 Ax Ay cx cy X Y w10.heap.size w10 (row_own hP10.x) (row_own hP10.y) (Nat.le_refl _) (by omega)).mono ?_
  rintro e w11 ⟨At2, ct2, rfl, ownt2, hb11⟩
  rw [HOXY.out] at ownt2 ⊢
  have hP11 := hP10.step hb11
  clear hP10 hb11
  go_wp2_with fail
  refine (vSame Y At2 Ay ct2 cy w11.heap.size w11 (row_own ownt2) (row_own hP11.y) (Nat.le_refl _) (by omega)).mono ?_
  rintro e w12 ⟨rfl, hb12⟩
  have hP12 := hP11.step hb12
  clear hP11 hb12
  clear ownt2
  go_wp2_with fail
  refine (cAnd2 A1 A0 c1 c0 b a w12.heap.size w12 ((rb.below (hP12.bel.mono hB)).more (Nat.le_trans hB hP12.bel.size)) ((ra.below (hP12.bel.mono hB)).more (Nat.le_trans hB hP12.bel.size)) (Nat.le_refl _) (by omega) (by omega)).mono ?_
  rintro e w13 ⟨At3, ct3, rfl, ownt3, hb13⟩
  rw [Hba.out] at ownt3 ⊢
  have hP13 := hP12.step hb13
  clear hP12 hb13
  go_wp2_with fail
  refine (vSame X At3 Ax ct3 cx w13.heap.size w13 (row_own ownt3) (row_own hP13.x) (Nat.le_refl _) (by omega)).mono ?_
  rintro e w14 ⟨rfl, hb14⟩
  have hP14 := hP13.step hb14
  clear hP13 hb14
  clear ownt3
  go_wp2_with fail
  refine (cOr2 A1 A0 c1 c0 b a w14.heap.size w14 ((rb.below (hP14.bel.mono hB)).more (Nat.le_trans hB hP14.bel.size)) ((ra.below (hP14.bel.mono hB)).more (Nat.le_trans hB hP14.bel.size)) (Nat.le_refl _) (by omega)).mono ?_
  rintro e w15 ⟨At4, ct4, rfl, ownt4, hb15⟩
  rw [Hoba.out] at ownt4 ⊢
  have hP15 := hP14.step hb15
  clear hP14 hb15
  go_wp2_with fail
  refine (vSame Y At4 Ay ct4 cy w15.heap.size w15 (row_own ownt4) (row_own hP15.y) (Nat.le_refl _) (by omega)).mono ?_
  rintro e w16 ⟨rfl, hb16⟩
  have hP16 := hP15.step hb16
  clear hP15 hb16
  clear ownt4
  go_wp2_with fail
  refine (cOr2 A1 A2 c1 c2 b cc w16.heap.size w16 ((rb.below (hP16.bel.mono hB)).more (Nat.le_trans hB hP16.bel.size)) ((rc.below (hP16.bel.mono hB)).more (Nat.le_trans hB hP16.bel.size)) (Nat.le_refl _) (by omega)).mono ?_
  rintro e w17 ⟨At5, ct5, rfl, ownt5, hb17⟩
  rw [← HT.out] at ownt5 ⊢
  have hP17 := hP16.step hb17
  clear hP16 hb17
  go_wp2_with fail
  refine (cAnd2 A0 At5 c0 ct5 a T w17.heap.size w17 ((ra.below (hP17.bel.mono hB)).more (Nat.le_trans hB hP17.bel.size)) (row_own ownt5) (Nat.le_refl _) (by omega) (by omega)).mono ?_
  rintro e w18 ⟨At6, ct6, rfl, ownt6, hb18⟩
  rw [← HU.out] at ownt6 ⊢
  have hP18 := hP17.step hb18
  clear hP17 hb18
  clear ownt5
  go_wp2_with fail
  refine (cAnd2 A0 A1 c0 c1 a b w18.heap.size w18 ((ra.below (hP18.bel.mono hB)).more (Nat.le_trans hB hP18.bel.size)) ((rb.below (hP18.bel.mono hB)).more (Nat.le_trans hB hP18.bel.size)) (Nat.le_refl _) (by omega) (by omega)).mono ?_
  rintro e w19 ⟨At7, ct7, rfl, ownt7, hb19⟩
  rw [← HX.out] at ownt7 ⊢
  have hP19 := hP18.step hb19
  replace ownt6 := own_below ownt6 hb19
  clear hP18 hb19
  go_wp2_with fail
  refine (cAnd2 A0 A2 c0 c2 a cc w19.heap.size w19 ((ra.below (hP19.bel.mono hB)).more (Nat.le_trans hB hP19.bel.size)) ((rc.below (hP19.bel.mono hB)).more (Nat.le_trans hB hP19.bel.size)) (Nat.le_refl _) (by omega) (by omega)).mono ?_
  rintro e w20 ⟨At8, ct8, rfl, ownt8, hb20⟩
  rw [← HV.out] at ownt8 ⊢
  have hP20 := hP19.step hb20
  replace ownt6 := own_below ownt6 hb20
  replace ownt7 := own_below ownt7 hb20
  clear hP19 hb20
  go_wp2_with fail
  refine (cOr2 At7 At8 ct7 ct8 X V w20.heap.size w20 (row_own ownt7) (row_own ownt8) (Nat.le_refl _) (by omega)).mono ?_
  rintro e w21 ⟨At9, ct9, rfl, ownt9, hb21⟩
  rw [HUV.out] at ownt9 ⊢
  have hP21 := hP20.step hb21
  replace ownt6 := own_below ownt6 hb21
  replace ownt7 := own_below ownt7 hb21
  clear hP20 hb21
  clear ownt7 ownt8
  go_wp2_with fail
  refine (vSame U At6 At9 ct6 ct9 w21.heap.size w21 (row_own ownt6) (row_own ownt9) (Nat.le_refl _) (by omega)).mono ?_
  rintro e w22 ⟨rfl, hb22⟩
  have hP22 := hP21.step hb22
  clear hP21 hb22
  clear ownt6 ownt9
  obtain ⟨full, ox, sW, bel⟩ : OwnU w22 w.heap.size (.slice (some ⟨g, 0, none⟩) (a.length + 1) c5) (a ++ [77]) ∧ OwnU w22 (g + 1) (.slice Ax X.length cx) X ∧ g + 1 ≤ w22.heap.size ∧ Below w.heap.size w w22 := ⟨hP22.full, hP22.x, hP22.gsize, hP22.bel⟩
  clear hP22
  obtain ⟨A9, c9, wz, hrun, ox2, hgz, hbz⟩ := run_app3 (P := Try.prog) 22 (w22.alloc (.cells #[.int .u64 1, .int .u64 2, .int .u64 3] 31)) u64E (ox.alloc _) rfl (c' := 3) (news := [1, 2, 3]) (m := 3) (A' := some ⟨w22.heap.size, 0, none⟩) (B := w22.heap.size + 1) (row_new w22 31 [u64v 1, u64v 2, u64v 3]) (by omega) (by omega) (by simp; omega)
  have full2 := own_grown (full.alloc (.cells #[.int .u64 1, .int .u64 2, .int .u64 3] 31)) hgz (.inr fun e => by have h1 := (own_ge ox g (by rw [← e]; simp [Value.ownBlock])).1; omega)
  have belz : Below w.heap.size w wz := (bel.alloc bel.size _).trans (hbz.mono (by have := own_ge full g (by simp [Value.ownBlock]); omega))
  clear full ox hgz hbz
  obtain ⟨n3, hn3⟩ : ∃ n3, n3 = X.length + 3 := ⟨_, rfl⟩
  have wn3 : IntKind.i64.wrap ((X.length : Int) + 3) = (n3 : Int) := by rw [IntKind.wrap_i64]; omega
  go_wp2_with (at_builtin; refine Lib.wpList_append_run _ rfl _ _ _ _ rfl _ _ rfl rfl _ _ hrun ?_)
  clear hrun
  go_loopw [11] (fun i wr => ∃ (k : Nat) (xs : List Value), k ≤ X.length ∧ i = .int .i64 k ∧ wr.ownsRow (g + 1) 31 1 (.slice Ax X.length cx) X.length xs ∧ OwnU wr w.heap.size (.slice (some ⟨g, 0, none⟩) (a.length + 1) c5) (a ++ [77]) ∧ Below w.heap.size w wr) (fun i _ => X.length - (intOf i).toNat)
  case atStart => exact ⟨0, _, by omega, rfl, ox2, full2, belz⟩
  case round =>
    obtain ⟨k, xs, hk, rfl, own4, full4, hb4⟩ := hrel
    obtain ⟨wo, rfl⟩ : ∃ wo : World, wo = wr := ⟨_, rfl⟩
    by_cases hlt : k < X.length
    · have lt1 : (k : Int) < (X.length : Int) := by omega
      have w1' : IntKind.i64.wrap ((k : Int) + 1) = (k : Int) + 1 := by rw [IntKind.wrap_i64]; omega
      obtain ⟨q, rfl, hq, -, -, -, hcell⟩ := own_at own4 (by omega)
      have hxl : xs.length = X.length := by have := own4.1; omega
      have ck : wo.cell? ⟨q, k, none⟩ = some (xs[k]'(by omega)) := by rw [hcell k (by omega), List.getElem?_eq_getElem (by omega)]
      have fk := own4.frozenAt k
      clear hcell
      have gw := (own_ge full4 g (by simp [Value.ownBlock])).1
      have full5 := own_but full4 ((But.refl [q] wo).setCell (p := ⟨q, k, none⟩) (by simp) (.int .u64 99)) (fun j hj => by simp [Value.ownBlock] at hj; simp; omega)
      have hb5 : Below w.heap.size w (wo.setCell ⟨q, k, none⟩ (.int .u64 99)) := hb4.setCell (p := ⟨q, k, none⟩) (by show w.heap.size ≤ q; omega) _
      have own5 := own_setC (j := k) (u := .int .u64 99) own4
      clear full4 hb4 own4
      go_wp2
      refine ⟨⟨k + 1, _, by omega, by simp, own5, full5, hb5⟩, by simp [intOf]; omega⟩
    · obtain rfl : k = X.length := by omega
      have hP : Below w.heap.size w wo := hb4
      have sO := hP.size
      have rfull : Row wo wo.heap.size 1 (some ⟨g, 0, none⟩) a.length (a.map u64v) := row_own (own_cutU full4)
      go_wp2_with fail
      refine (vSame a (some ⟨g, 0, none⟩) A0 c5 c0 wo.heap.size wo rfull ((ra.below (hP.mono hB)).more (Nat.le_trans hB hP.size)) (Nat.le_refl _) (by omega)).mono ?_
      rintro e wa ⟨rfl, hba⟩
      have hPa : Below w.heap.size w wa := hP.trans (hba.mono sO)
      clear rfull
      go_wp2_with fail
      refine (vAndN 0 wa).mono ?_
      rintro e wb ⟨rfl, hbb⟩
      have hPb : Below w.heap.size w wb := hPa.trans (hbb.mono hPa.size)
      go_wp2_with fail
      refine (cOr0 wb).mono ?_
      rintro e wc ⟨Az, cz, rfl, hbc⟩
      have hPc : Below w.heap.size w wc := hPb.trans (hbc.mono hPb.size)
      go_wp2
      go_ret
      exact ⟨rfl, hPc⟩
end Go.Proofs.Ytmalkgakdmghiaa
