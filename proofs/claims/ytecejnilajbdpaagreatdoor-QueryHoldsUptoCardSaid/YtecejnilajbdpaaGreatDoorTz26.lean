import Derived.Test.YtecejnilajbdpaaGreatDoorTz25
set_option maxRecDepth 100000
set_option maxHeartbeats 16000000
namespace Go.Proofs.YtecejnilajbdpaaGreatDoor
open Go.RowKit Garner
theorem QX.cell5 {w : World} {g n : Nat} (h : QX w g n) : w.cell? ⟨g, 5, none⟩ = some (.bool true) ∧ w.frozen? ⟨g, 5, none⟩ = false := by
 obtain ⟨s, a, de, mo, O, m, xs, h1, -⟩ := h
 exact ⟨h1.cell 5, h1.frozen 5⟩
theorem QS.cell5 {F : Nat → Prop} {w : World} {g N : Nat} {rs : List Nat} {ns : List NodeP} {deep most : Nat} (h : QS F w g N rs ns deep most) : w.cell? ⟨g, 5, none⟩ = some (.bool false) ∧ w.frozen? ⟨g, 5, none⟩ = false := by
 obtain ⟨A, c, O, m, rs0, p, h1, -⟩ := h.ex
 exact ⟨h1.cell 5, h1.frozen 5⟩
theorem qClass {F : Nat → Prop} (g N : Nat) (w : World) (rs : List Nat) (ns : List NodeP) (deep most : Nat) (h : QS F w g N rs ns deep most) (hns : ns.length < 100000) :
  Calls Tryz.prog 187 #[.pointer (some ⟨g, 0, none⟩)] w fun e w' => QP g w w' ∧ OutQ 0 F ((classR rs).map fun p => (Re.set p.1, p.2)) w g N ns deep most e w' := by
 have hgw := h.lt
 have hlb := h.lb
 have hrl := h.len
 have HF := Lh h.hF
 have hcls : classR rs = (clsR (rs.length + 1) false (if rs.head? = some 94 then rs.tail else rs) []).map fun p => (if decide (rs.head? = some 94) = true then othersR (mergedR p.1) else mergedR p.1, p.2) := by
  unfold classR
  by_cases hc : rs.head? = some 94
  ·simp [hc]
  simp [hc]
 have hv := qIs_any 94 g N w rs ns deep most h
 have hs0 : (if rs.head? = some 94 then rs.tail else rs).length ≤ rs.length := by
  split
  ·exact tail_le rs
  exact Nat.le_refl _
 obtain ⟨nt, hnt⟩ : ∃ nt, decide (rs.head? = some 94) = nt := ⟨_, rfl⟩
 obtain ⟨s0, hs0e⟩ : ∃ s0, (if rs.head? = some 94 then rs.tail else rs) = s0 := ⟨_, rfl⟩
 rw [hnt, hs0e] at hcls hv
 rw [hs0e] at hs0
 obtain ⟨ANS, hANS⟩ : ∃ ANS, clsR (rs.length + 1) false s0 [] = ANS := ⟨_, rfl⟩
 rw [hANS] at hcls
 obtain ⟨OUT, hOUT⟩ : ∃ OUT, (classR rs).map (fun p => (Re.set p.1, p.2)) = OUT := ⟨_, rfl⟩
 rw [hOUT]
 rw [hcls] at hOUT
 have HO := Lh hOUT; have HA := Lh hANS
 clear hOUT hANS hcls hnt hs0e
 obtain ⟨T, hT⟩ : ∃ T, T = rs.length := ⟨_, rfl⟩
 rw [← hT] at hrl hs0
 have HT := Lh hT; clear hT
 go_enter Tryz.func187, Tryz.ntmps187
 go_wp2_with fail
 refine hv.mono ?_
 rintro e w1 ⟨rfl, h1, k1⟩
 clear hv
 go_wp2
 go_loopw [4, 5] (fun v sm wr => ClsR F ANS w g N ns deep most T v sm wr) (fun _ _ wr => qLen N g wr)
 case atStart => exact .inl ⟨[], s0, T + 1, false, rfl, World.ownsRow_nil _ _ _ _, h1, k1, by rw [HT.out]; exact HA.out, fun e => (by cases e), by omega, by simp, by simp; omega⟩
 obtain ⟨wo, rfl⟩ : ∃ wo : World, wo = wr := ⟨_, rfl⟩
 rcases hrel with ⟨P, s, f, b, hI⟩ | ⟨hx, hpk, rfl, hno⟩
 ·obtain ⟨rfl, hown, hps, hpk, hans, hsm, hfu, hbd, hlen⟩ := hI
  obtain ⟨f, rfl⟩ : ∃ f', f = f' + 1 := ⟨f - 1, by omega⟩
  obtain ⟨A4, c4, rfl, hc4⟩ := own_form hown
  have hfl := flat_length P
  have hlS := hps.qLen
  have hrb := hps.rb
  have Hsm := Lh hsm; have Hbd := Lh hbd; have Hans := Lh hans; have Hfl := Lh hfl
  have HlS := Lh hlS; have Hrb := Lh hrb; have Hps := Lh hps; have Hpk := Lh hpk; have Hown := Lh hown
  clear hsm hbd hans hfl hlS hrb hps hpk hown
  by_cases hend : b = true ∧ s.head? = some 93
  ·obtain ⟨rfl, hh⟩ := hend
   cases s with
   | nil => cases hh
   | cons x r =>
    injection hh with hh
    subst hh
    go_wp2_with fail
    refine (qIs_yes 93 g N wo r ns deep most Hps.out).mono ?_
    rintro e w2 ⟨rfl, h2, k2⟩
    go_wp2_with fail
    have own2 := k2.keep.own Hown.out (by decide)
    have hPl : P.length ≤ 1000 := by omega
    obtain ⟨RES, hRES⟩ : ∃ RES, (if nt = true then othersGo 0 (mergeI (sortR P)) else mergeI (sortR P)) = RES := ⟨_, rfl⟩
    have hans := Hans.out
    rw [clsR, if_pos ⟨rfl, rfl⟩] at hans
    have hOUT : OUT = some (.set (flatR RES), r) := by
     rw [← HO.out, ← hans, ← hRES]
     cases nt <;> simp [mergedR, othersR, pairs_flat]
    have hpk2 := Hpk.out.trans k2
    have hs2 := hpk2.keep.size
    refine (qClean P nt A4 c4 (flatR P).length w2 Hfl.out (RowT.of_own own2) Hbd.out hPl RES hRES).mono ?_
    rintro e w3 ⟨v3, rfl, own3, b3⟩
    obtain ⟨A3, c3, rfl, -⟩ := own_form own3
    have h3 := h2.below b3
    have hpk3 := hpk2.trans (.of_below b3 (Nat.le_of_lt h2.lt))
    have hA3 : ∀ a, A3 = some a → w2.heap.size ≤ a.block ∧ a.block < w3.heap.size := fun a e => own3.lt a.block (by rw [e]; rfl)
    have hr3 := RowT.of_own own3
    have hv := qSetNode 0 (flatR RES) A3 c3 (flatR RES).length g N w w3 r ns deep most rfl h3 HF.out hpk3 hr3 (fun a e => ⟨Nat.le_trans hs2 (hA3 a e).1, (hA3 a e).2⟩) hns
    obtain ⟨n3, hn3⟩ : ∃ n3, (flatR RES).length = n3 := ⟨_, rfl⟩
    rw [hn3] at hv ⊢
    have HV := Lh hv; have HOU := Lh hOUT
    clear hv hOUT hans hRES hA3 own2 own3 hr3 h3 hn3 hpk2 hpk3 h2 k2 b3
    go_wp2_with fail
    refine HV.out.mono ?_
    rintro e w4 ⟨k4, rfl, h4⟩
    go_wp2
    go_ret
    refine ⟨k4, ?_⟩
    rw [HOU.out]
    exact ⟨rfl, h4⟩
  have hans := Hans.out
  rw [clsR, if_neg hend] at hans
  have hno : b = true → s.head? ≠ some 93 := fun hb hh => hend ⟨hb, hh⟩
  have Hno := Lh hno; have Hans2 := Lh hans
  clear hend hno hans
  go_upto_region 4 with fail
  go_cut [15] from 10 to 15 (fun c wx => c = .bool true ∧ Below wo.heap.size wo wx)
  case first =>
   cases b with
   | false =>
    go_wp2
    go_meet
    exact ⟨rfl, Below.refl _ _⟩
   | true =>
    go_wp2_with fail
    refine (qIs_no 93 g N wo s ns deep most Hps.out (Hno.out (by trivial))).mono ?_
    rintro e w2 ⟨rfl, hb⟩
    go_wp2
    go_meet
    exact ⟨rfl, hb⟩
  obtain ⟨rfl, hb1⟩ := hcut
  obtain ⟨w2, rfl⟩ : ∃ w2 : World, w2 = wc := ⟨_, rfl⟩
  have h2 := Hps.out.below hb1
  have k2 := Hpk.out.trans (.of_below hb1 (Nat.le_of_lt Hps.out.lt))
  have o2 := own_below Hown.out hb1
  obtain ⟨c5, f5⟩ := h2.cell5
  have hp := qPeek g N w2 s ns deep most h2
  have H2 := Lh h2; have K2 := Lh k2; have O2 := Lh o2; have HP := Lh hp
  clear h2 k2 o2 hp Hps Hpk Hown hb1 Hno
  cases s with
  | nil =>
   have hans := Hans2.out
   have hnone : ANS = none := hans.symm
   have hp : Calls _ _ _ _ fun e w' => e = .returned (.int .i32 (-1)) ∧ Below w2.heap.size w2 w' := HP.out
   have HP2 := Lh hp; have HN := Lh hnone
   clear hp hans hnone HP
   go_wp2_with fail
   refine HP2.out.mono ?_
   rintro e w3 ⟨rfl, hb3⟩
   have h3 := H2.out.below hb3
   obtain ⟨c53, f53⟩ := h3.cell5
   obtain ⟨hx3, k3⟩ := h3.bad
   have hk3 := (K2.out.trans (.of_below hb3 (Nat.le_of_lt H2.out.lt))).trans k3
   have HX3 := Lh hx3; have HK3 := Lh hk3
   clear h3 hx3 k3 hk3
   go_wp2
   go_ret
   refine ⟨HK3.out, ?_⟩
   have hout : OUT = none := by rw [← HO.out, HN.out]; rfl
   rw [hout]
   exact ⟨0, _, rfl, HX3.out, Nat.le_add_right _ _⟩
  | cons a s =>
   have hp : Calls _ _ _ _ fun e w' => e = .returned (.int .i32 (a : Nat)) ∧ Below w2.heap.size w2 w' := HP.out
   have za : ¬ (a : Int) = -1 := by omega
   have HP2 := Lh hp
   clear hp HP
   go_wp2_with fail
   refine HP2.out.mono ?_
   rintro e w3 ⟨rfl, hb3⟩
   have hmem := qMember g N w3 (a :: s) ns deep most (H2.out.below hb3)
   have K3 := Lh (K2.out.trans (.of_below hb3 (Nat.le_of_lt H2.out.lt)))
   have O3 := Lh (own_below O2.out hb3)
   have Hm := Lh hmem
   clear hmem H2 K2 O2 HP2 hb3 c5 f5
   go_wp2_with fail
   refine Hm.out.mono ?_
   rintro e w4 ⟨k4, o4⟩
   have K4 := Lh (K3.out.trans k4)
   have O4 := Lh (k4.keep.own O3.out (by decide))
   have hans := Hans2.out
   have g3 := K3.out.keep.size
   have g4 := k4.keep.size
   clear K3 O3 Hm
   have hm4 : (a :: s).length < 1000 := by omega
   cases hm : memR (a :: s) with
   | none =>
    rw [hm] at o4 hans
    obtain ⟨b6, c6, x6, rfl, hr6, hx6, -, -⟩ := o4
    have hnone : ANS = none := hans.symm
    have hE : ClsE F ANS w g N ns deep most T f (a :: s).length P (flatR P).length (.slice A4 (flatR P).length c4) [.int .i32 x6, .int .i32 x6] w4 := ⟨K4.out, O4.out, hx6.lt, .inl ⟨hx6, hnone⟩⟩
    have HE := Lh hE; have HX6 := Lh hx6; have HR6 := Lh hr6
    clear hans hnone hE hx6 hr6 hm
    go_wp2_with fail
    refine (xIs 45 g _ w4 HX6.out).mono ?_
    rintro e w5 ⟨rfl, hb5⟩
    have hE5 := HE.out.below hb5
    have row5 := (HR6.out.below hb5).row
    have g5 := hE5.pk.keep.size
    have bdm : (flatR P).length + 2 ≤ 100000 := by have := Hfl.out; omega
    go_wp2_with (at_builtin; refine wpList_app _ rfl runeE rfl rfl hE5.own rfl row5 (by simp [Value.oneCell']) (by omega) (by omega) ?_; intro v8 w8 own8 hg8 hb8 _)
    obtain ⟨e1, e2⟩ := hE5.end_ HF.out hgw rfl rfl own8 hg8 Hbd.out
    go_roundw
    case rel => exact e1
    case measure => rw [HlS.out]; omega
   | some q =>
    obtain ⟨m, s1⟩ := q
    rw [hm] at o4 hans
    obtain ⟨A6, c6, rfl, hr6, h4, -⟩ := o4
    dsimp only at hans
    obtain ⟨Pm, hPm, hPne, hPl, hPb⟩ := memR_pairs hm Hrb.out
    have hml := memR_len hm
    have hml2 : s1.length ≤ s.length := by have := hml; simp at this; omega
    obtain ⟨⟨m0, m1⟩, Pr, hPr⟩ : ∃ p Pr, Pm = p :: Pr := by
     cases Pm with
     | nil => exact absurd rfl hPne
     | cons p Pr => exact ⟨p, Pr, rfl⟩
    have em : m = m0 :: m1 :: flatR Pr := by rw [hPm, hPr]; simp [flatR]
    have hm01 : m0 ≤ m1 ∧ m1 ≤ 1114111 := hPb (m0, m1) (by rw [hPr]; simp)
    obtain ⟨nm, hnm⟩ : ∃ nm, m.length = nm := ⟨_, rfl⟩
    have hnm2 : 2 ≤ nm := by rw [← hnm, em]; simp
    have hnm8 : nm ≤ 8 := by rw [← hnm, hPm, flat_length]; omega
    rw [hnm] at hr6 ⊢
    have bdm : (flatR P).length + nm ≤ 100000 := by have := Hfl.out; omega
    by_cases hd : s1.head? = some 45
    ·rw [if_pos hd] at hans
     obtain ⟨r1, rfl⟩ : ∃ r1, s1 = 45 :: r1 := by
      cases s1 with
      | nil => cases hd
      | cons y r1 => injection hd with hd; exact ⟨r1, by rw [hd]⟩
     rw [List.tail_cons] at hans
     have hv := qIs_yes 45 g N w4 r1 ns deep most h4
     have hr1 : r1.length < s.length := by simp at hml2; omega
     have hrb4 := h4.rb
     have Hv := Lh hv; have Hans4 := Lh hans; have HPm := Lh hPm; have Hem := Lh em; have Hnm := Lh hnm; have HR6 := Lh hr6; have Hrb4 := Lh hrb4
     clear hv hans hPm em hnm hr6 hPr hPb hPne hd hm h4 hml Hans2 Hans Hrb hrb4
     go_wp2_with fail
     refine Hv.out.mono ?_
     rintro e w5 ⟨rfl, h5, k5⟩
     have hmem2 := qMember g N w5 r1 ns deep most h5
     have Hm2 := Lh hmem2
     have K5 := Lh (K4.out.trans k5)
     have O5 := Lh (k5.keep.own O4.out (by decide))
     have R5 := Lh (HR6.out.keep k5.keep (by decide))
     clear hmem2 K4 O4 HR6 Hv h5 k5
     go_wp2_with fail
     refine Hm2.out.mono ?_
     rintro e w6 ⟨k6, o6⟩
     have K6 := Lh (K5.out.trans k6)
     have O6 := Lh (k6.keep.own O5.out (by decide))
     have R6 := Lh (R5.out.keep k6.keep (by decide))
     have g6 := K6.out.keep.size
     have hpart : ∃ (A7 : Option Addr) (c7 : Nat) (tv : List Int) (t0 t1 : Int), e = .returned (.slice A7 tv.length c7) ∧ RowT w6 21 A7 tv.length (tv.map (Value.int .i32)) ∧ tv[0]? = some t0 ∧ tv[1]? = some t1 ∧ g < w6.heap.size ∧ ((QX w6 g ns.length ∧ ANS = none) ∨ ∃ (t s2 : List Nat) (d0 d1 : Nat), tv = t.map (fun x : Nat => (x : Int)) ∧ t0 = (d0 : Int) ∧ t1 = (d1 : Int) ∧ t[0]? = some d0 ∧ t[1]? = some d1 ∧ d0 ≤ 1114111 ∧ memR r1 = some (t, s2) ∧ QS F w6 g N s2 ns deep most) := by
      have hans := Hans4.out
      cases ht : memR r1 with
      | none =>
       rw [ht] at o6 hans
       obtain ⟨b7, c7, x7, rfl, hr7, hx7, -, -⟩ := o6
       exact ⟨_, c7, [x7, x7], x7, x7, rfl, hr7, rfl, rfl, hx7.lt, .inl ⟨hx7, hans.symm⟩⟩
      | some q =>
       obtain ⟨t, s2⟩ := q
       rw [ht] at o6
       obtain ⟨A7, c7, rfl, hr7, h6, -⟩ := o6
       obtain ⟨Pt, hPt, hPtne, hPtl, hPtb⟩ := memR_pairs ht (fun r hr => Hrb4.out r (by simp [hr]))
       obtain ⟨⟨d0, d1⟩, Pr', hPr'⟩ : ∃ p Pr, Pt = p :: Pr := by
        cases Pt with
        | nil => exact absurd rfl hPtne
        | cons p Pr => exact ⟨p, Pr, rfl⟩
       have et : t = d0 :: d1 :: flatR Pr' := by rw [hPt, hPr']; simp [flatR]
       have hd01 : d0 ≤ d1 ∧ d1 ≤ 1114111 := hPtb (d0, d1) (by rw [hPr']; simp)
       refine ⟨A7, c7, t.map (fun x : Nat => (x : Int)), d0, d1, by rw [List.length_map], ?_, by rw [et]; rfl, by rw [et]; rfl, h6.lt, .inr ⟨t, s2, d0, d1, rfl, rfl, rfl, by rw [et]; rfl, by rw [et]; rfl, by omega, rfl, h6⟩⟩
       rw [List.length_map, List.map_map]
       exact hr7
     obtain ⟨A7, c7, tv, t0, t1, rfl, hr7, ht0, ht1, hgl, hst⟩ := hpart
     obtain ⟨n7, hn7⟩ : ∃ n7, tv.length = n7 := ⟨_, rfl⟩
     obtain ⟨BAD, hBAD⟩ : ∃ BAD, badR nm n7 (m0 : Int) (m1 : Int) t0 t1 = BAD := ⟨_, rfl⟩
     obtain ⟨LP, hLP⟩ : ∃ LP, (flatR P).length = LP := ⟨_, rfl⟩
     have hgood : BAD = false → ∀ wy, Below w6.heap.size w6 wy → ClsE F ANS w g N ns deep most T f (a :: s).length P LP (.slice A4 LP c4) [.int .i32 (m0 : Int), .int .i32 t0] wy := fun hB wy hb => by
      have hO := O6.out
      rw [hLP] at hO
      refine ClsE.below ⟨K6.out, hO, hgl, ?_⟩ hb
      rcases hst with h | ⟨t, s2, d0, d1, e1, e2, e3, e4, e5, e6, e7, e8⟩
      ·exact .inl h
      have hans := Hans4.out
      rw [e7] at hans
      dsimp only at hans
      have hq := rng_bad (m := m) (t := t) (m0 := m0) (m1 := m1) (by rw [Hem.out]; rfl) (by rw [Hem.out]; rfl) e4 e5
      have hln : t.length = n7 := by rw [← hn7, e1, List.length_map]
      rw [Hnm.out, hln, ← e2, ← e3, hBAD, hB, if_neg (by simp)] at hq
      rw [hq] at hans
      have hle : m0 ≤ d0 := by
       rw [hB] at hBAD
       unfold badR at hBAD
       simp only [Bool.or_eq_false_iff, decide_eq_false_iff_not] at hBAD
       have := hBAD.2
       omega
      have htl := memR_len e7
      exact .inr ⟨[(m0, d0)], s2, by subst e2; rfl, by simp, by intro p hp; simp at hp; subst hp; exact ⟨hle, e6⟩, e8, hans, by simp at hfu; omega, by simp; omega, by simp at hlen ⊢; omega⟩
     have hbad : BAD = true → ∀ wx, Below w6.heap.size w6 wx → ∃ u, wx.cell? ⟨g, 5, none⟩ = some (.bool u) ∧ wx.frozen? ⟨g, 5, none⟩ = false ∧ QP g w6 (wx.setCell ⟨g, 5, none⟩ (.bool true)) ∧ ClsE F ANS w g N ns deep most T f (a :: s).length P LP (.slice A4 LP c4) [.int .i32 (m0 : Int), .int .i32 t0] (wx.setCell ⟨g, 5, none⟩ (.bool true)) := fun hB wx hb => by
      have hO := O6.out
      rw [hLP] at hO
      have hgx := Nat.lt_of_lt_of_le hgl hb.size
      have kx := K6.out.trans (.of_below hb (Nat.le_of_lt hgl))
      rcases hst with ⟨h1, h2⟩ | ⟨t, s2, d0, d1, e1, e2, e3, e4, e5, e6, e7, e8⟩
      ·obtain ⟨y1, y2⟩ := (h1.below hb).bad
       exact ⟨true, (h1.below hb).cell5.1, (h1.below hb).cell5.2, (QP.of_below hb (Nat.le_of_lt hgl)).trans y2, kx.trans y2, y2.keep.own (own_below hO hb) (by decide), by simpa [World.setCell] using hgx, .inl ⟨y1, h2⟩⟩
      obtain ⟨y1, y2⟩ := (e8.below hb).bad
      have hans := Hans4.out
      rw [e7] at hans
      dsimp only at hans
      have hq := rng_bad (m := m) (t := t) (m0 := m0) (m1 := m1) (by rw [Hem.out]; rfl) (by rw [Hem.out]; rfl) e4 e5
      have hln : t.length = n7 := by rw [← hn7, e1, List.length_map]
      rw [Hnm.out, hln, ← e2, ← e3, hBAD, hB, if_pos rfl] at hq
      rw [hq] at hans
      exact ⟨false, (e8.below hb).cell5.1, (e8.below hb).cell5.2, (QP.of_below hb (Nat.le_of_lt hgl)).trans y2, kx.trans y2, y2.keep.own (own_below hO hb) (by decide), by simpa [World.setCell] using hgx, .inl ⟨y1, hans.symm⟩⟩
     obtain ⟨b6, o6', rfl, -⟩ := R6.out.at_ (k := 0) (u := .int .i32 (m0 : Int)) (by rw [Hem.out]; rfl)
     obtain ⟨b7, o7, rfl, -⟩ := hr7.at_ (k := 0) (u := .int .i32 t0) (by rw [List.getElem?_map, ht0]; rfl)
     have hc6 : ∀ W, Below w6.heap.size w6 W → W.cell? ⟨b6, o6', none⟩ = some (.int .i32 (m0 : Int)) ∧ W.cell? ⟨b6, o6' + 1, none⟩ = some (.int .i32 (m1 : Int)) := fun W hW => by
      obtain ⟨b, o, e, d⟩ := (R6.out.below hW).at_ (k := 0) (u := .int .i32 (m0 : Int)) (by rw [Hem.out]; rfl)
      cases e
      obtain ⟨b', o', e', d'⟩ := (R6.out.below hW).at_ (k := 1) (u := .int .i32 (m1 : Int)) (by rw [Hem.out]; rfl)
      cases e'
      exact ⟨d, d'⟩
     have hc7 : ∀ W, Below w6.heap.size w6 W → W.cell? ⟨b7, o7, none⟩ = some (.int .i32 t0) ∧ W.cell? ⟨b7, o7 + 1, none⟩ = some (.int .i32 t1) := fun W hW => by
      obtain ⟨b, o, e, d⟩ := (hr7.below hW).at_ (k := 0) (u := .int .i32 t0) (by rw [List.getElem?_map, ht0]; rfl)
      cases e
      obtain ⟨b', o', e', d'⟩ := (hr7.below hW).at_ (k := 1) (u := .int .i32 t1) (by rw [List.getElem?_map, ht1]; rfl)
      cases e'
      exact ⟨d, d'⟩
     have hcq : ∀ W, QP g w6 W → W.cell? ⟨b6, o6', none⟩ = some (.int .i32 (m0 : Int)) ∧ W.cell? ⟨b7, o7, none⟩ = some (.int .i32 t0) := fun W hW => by
      obtain ⟨b, o, e, d⟩ := (R6.out.keep hW.keep (by decide)).at_ (k := 0) (u := .int .i32 (m0 : Int)) (by rw [Hem.out]; rfl)
      cases e
      obtain ⟨b', o', e', d'⟩ := (hr7.keep hW.keep (by decide)).at_ (k := 0) (u := .int .i32 t0) (by rw [List.getElem?_map, ht0]; rfl)
      cases e'
      exact ⟨d, d'⟩
     have hn72 : 2 ≤ n7 := by
      rw [← hn7]
      exact Nat.lt_of_not_le fun h => by rw [List.getElem?_eq_none (by omega)] at ht1; cases ht1
     have Hgood := Lh hgood; have Hbad := Lh hbad; have HBAD := Lh hBAD; have HLP := Lh hLP
     have HC6 := Lh hc6; have HC7 := Lh hc7; have HCQ := Lh hcq
     have bdp : LP + 2 ≤ 100000 := by omega
     rw [hn7, hLP]
     clear hgood hbad hBAD hLP hst hc6 hc7 hcq hr7 ht0 ht1 hn7 o6 k6 K5 O5 R5 Hm2 K6 O6 R6 hm01
     go_upto_region 12 with fail
     go_cut [68] from 34 to 68 (fun c wx => c = .bool BAD ∧ Below w6.heap.size w6 wx)
     case first =>
      have sS : Below w6.heap.size w6 w6.drew := (Below.refl _ _).drew
      have z6 : (1 : Int) < (nm : Int) := by omega
      have z60 : (0 : Int) < (nm : Int) := by omega
      have z7 : (1 : Int) < (n7 : Int) := by omega
      have z70 : (0 : Int) < (n7 : Int) := by omega
      have z60n : 0 < nm := by omega
      have z70n : 0 < n7 := by omega
      by_cases e1 : nm = 2
      ·have q1 : ((nm : Int) != 2) = false := by simp; omega
       have E1 := Lh e1
       clear e1
       by_cases e2 : n7 = 2
       ·have q2 : ((n7 : Int) != 2) = false := by simp; omega
        have E2 := Lh e2
        clear e2
        by_cases e3 : (m0 : Int) = (m1 : Int)
        ·have q3 : ((m0 : Int) != (m1 : Int)) = false := by simp; omega
         have E3 := Lh e3
         clear e3
         by_cases e4 : t0 = t1
         ·have q4 : (t0 != t1) = false := by simp [e4]
          have E4 := Lh e4
          clear e4
          by_cases e5 : (m0 : Int) ≤ t0
          ·have q5 : decide ((m0 : Int) > t0) = false := by simp; omega
           refine rgQ (fun w' => Below w6.heap.size w6 w') 100 (by kernel_rfl) (fun _ _ d _ _ h => by cases d <;> exact h) fun qP => ?_
           apply tkq 0 (by kernel_rfl) rfl qP sS
           ·intro w' hS'; go_simp; exact ⟨rfl, rfl⟩
           apply tkq 1 (v := (.int .i64 (nm : Nat))) (by kernel_rfl) rfl qP sS
           ·intro w' hS'
            (go_simp; exact ⟨rfl, rfl⟩)
           apply tkq 2 (v := (.bool false)) (by kernel_rfl) rfl qP sS
           ·intro w' hS'
            (go_simp; first | exact ⟨rfl, rfl⟩ | exact ⟨congrArg Value.bool q1, rfl⟩)
           apply tkq 3 (by kernel_rfl) rfl qP sS
           ·intro w' hS'; go_simp; exact ⟨rfl, rfl⟩
           apply tkq 4 (by kernel_rfl) rfl qP sS
           ·intro w' hS'; go_simp; exact ⟨rfl, rfl⟩
           apply tkq 5 (v := (.int .i64 (n7 : Nat))) (by kernel_rfl) rfl qP sS
           ·intro w' hS'
            (go_simp; exact ⟨rfl, rfl⟩)
           apply tkq 6 (v := (.bool false)) (by kernel_rfl) rfl qP sS
           ·intro w' hS'
            (go_simp; first | exact ⟨rfl, rfl⟩ | exact ⟨congrArg Value.bool q2, rfl⟩)
           apply tkq 7 (v := (.bool false)) (by kernel_rfl) rfl qP sS
           ·intro w' hS'
            (go_simp; exact ⟨rfl, rfl⟩)
           apply tkq 8 (by kernel_rfl) rfl qP sS
           ·intro w' hS'; go_simp; exact ⟨rfl, rfl⟩
           apply tkq 9 (by kernel_rfl) rfl qP sS
           ·intro w' hS'; go_simp; exact ⟨rfl, rfl⟩
           apply tkq 10 (v := (.pointer (some ⟨b6, o6', none⟩))) (by kernel_rfl) rfl qP sS
           ·intro w' hS'
            (go_simp; exact ⟨rfl, rfl⟩)
           apply tkq 11 (v := (.int .i32 (m0 : Int))) (by kernel_rfl) rfl qP sS
           ·intro w' hS'; have k1 := (HC6.out w' hS').1; go_simp; exact ⟨rfl, rfl⟩
           apply tkq 12 (by kernel_rfl) rfl qP sS
           ·intro w' hS'; go_simp; exact ⟨rfl, rfl⟩
           apply tkq 13 (v := (.pointer (some ⟨b6, o6' + 1, none⟩))) (by kernel_rfl) rfl qP sS
           ·intro w' hS'
            (go_simp; exact ⟨rfl, rfl⟩)
           apply tkq 14 (v := (.int .i32 (m1 : Int))) (by kernel_rfl) rfl qP sS
           ·intro w' hS'; have k1 := (HC6.out w' hS').2; go_simp; exact ⟨rfl, rfl⟩
           apply tkq 15 (v := (.bool false)) (by kernel_rfl) rfl qP sS
           ·intro w' hS'
            (go_simp; first | exact ⟨rfl, rfl⟩ | exact ⟨congrArg Value.bool q3, rfl⟩)
           apply tkq 16 (v := (.bool false)) (by kernel_rfl) rfl qP sS
           ·intro w' hS'
            (go_simp; exact ⟨rfl, rfl⟩)
           apply tkq 17 (by kernel_rfl) rfl qP sS
           ·intro w' hS'; go_simp; exact ⟨rfl, rfl⟩
           apply tkq 18 (by kernel_rfl) rfl qP sS
           ·intro w' hS'; go_simp; exact ⟨rfl, rfl⟩
           apply tkq 19 (v := (.pointer (some ⟨b7, o7, none⟩))) (by kernel_rfl) rfl qP sS
           ·intro w' hS'
            (go_simp; exact ⟨rfl, rfl⟩)
           apply tkq 20 (v := (.int .i32 t0)) (by kernel_rfl) rfl qP sS
           ·intro w' hS'; have k1 := (HC7.out w' hS').1; go_simp; exact ⟨rfl, rfl⟩
           apply tkq 21 (by kernel_rfl) rfl qP sS
           ·intro w' hS'; go_simp; exact ⟨rfl, rfl⟩
           apply tkq 22 (v := (.pointer (some ⟨b7, o7 + 1, none⟩))) (by kernel_rfl) rfl qP sS
           ·intro w' hS'
            (go_simp; exact ⟨rfl, rfl⟩)
           apply tkq 23 (v := (.int .i32 t1)) (by kernel_rfl) rfl qP sS
           ·intro w' hS'; have k1 := (HC7.out w' hS').2; go_simp; exact ⟨rfl, rfl⟩
           apply tkq 24 (v := (.bool false)) (by kernel_rfl) rfl qP sS
           ·intro w' hS'
            (go_simp; first | exact ⟨rfl, rfl⟩ | exact ⟨congrArg Value.bool q4, rfl⟩)
           apply tkq 25 (v := (.bool false)) (by kernel_rfl) rfl qP sS
           ·intro w' hS'
            (go_simp; exact ⟨rfl, rfl⟩)
           apply tkq 26 (by kernel_rfl) rfl qP sS
           ·intro w' hS'; go_simp; exact ⟨rfl, rfl⟩
           apply tkq 27 (by kernel_rfl) rfl qP sS
           ·intro w' hS'; go_simp; exact ⟨rfl, rfl⟩
           apply tkq 28 (v := (.pointer (some ⟨b6, o6', none⟩))) (by kernel_rfl) rfl qP sS
           ·intro w' hS'
            (go_simp; exact ⟨rfl, rfl⟩)
           apply tkq 29 (v := (.int .i32 (m0 : Int))) (by kernel_rfl) rfl qP sS
           ·intro w' hS'; have k1 := (HC6.out w' hS').1; go_simp; exact ⟨rfl, rfl⟩
           apply tkq 30 (by kernel_rfl) rfl qP sS
           ·intro w' hS'; go_simp; exact ⟨rfl, rfl⟩
           apply tkq 31 (v := (.pointer (some ⟨b7, o7, none⟩))) (by kernel_rfl) rfl qP sS
           ·intro w' hS'
            (go_simp; exact ⟨rfl, rfl⟩)
           apply tkq 32 (v := (.int .i32 t0)) (by kernel_rfl) rfl qP sS
           ·intro w' hS'; have k1 := (HC7.out w' hS').1; go_simp; exact ⟨rfl, rfl⟩
           apply tkq 33 (v := (.bool false)) (by kernel_rfl) rfl qP sS
           ·intro w' hS'
            (go_simp; first | exact ⟨rfl, rfl⟩ | exact ⟨congrArg Value.bool (decide_eq_false (by omega)), rfl⟩)
           apply tkq 34 (v := (.bool false)) (by kernel_rfl) rfl qP sS
           ·intro w' hS'
            (go_simp; exact ⟨rfl, rfl⟩)
           (try simp only [Act.put]); (try simp only [List.setIfInBounds_toArray]); (try simp only [List.set])
           refine dnL (by kernel_rfl) ?_ _
           go_wp2
           go_meet
           exact ⟨congrArg Value.bool (by rw [← HBAD.out]; unfold badR; simp [E1.out, E2.out, E3.out, E4.out] <;> (have x3 := E3.out; have x4 := E4.out; omega)), sS⟩
          have q5 : decide ((m0 : Int) > t0) = true := by simp; omega
          refine rgQ (fun w' => Below w6.heap.size w6 w') 100 (by kernel_rfl) (fun _ _ d _ _ h => by cases d <;> exact h) fun qP => ?_
          apply tkq 0 (by kernel_rfl) rfl qP sS
          ·intro w' hS'; go_simp; exact ⟨rfl, rfl⟩
          apply tkq 1 (v := (.int .i64 (nm : Nat))) (by kernel_rfl) rfl qP sS
          ·intro w' hS'
           (go_simp; exact ⟨rfl, rfl⟩)
          apply tkq 2 (v := (.bool false)) (by kernel_rfl) rfl qP sS
          ·intro w' hS'
           (go_simp; first | exact ⟨rfl, rfl⟩ | exact ⟨congrArg Value.bool q1, rfl⟩)
          apply tkq 3 (by kernel_rfl) rfl qP sS
          ·intro w' hS'; go_simp; exact ⟨rfl, rfl⟩
          apply tkq 4 (by kernel_rfl) rfl qP sS
          ·intro w' hS'; go_simp; exact ⟨rfl, rfl⟩
          apply tkq 5 (v := (.int .i64 (n7 : Nat))) (by kernel_rfl) rfl qP sS
          ·intro w' hS'
           (go_simp; exact ⟨rfl, rfl⟩)
          apply tkq 6 (v := (.bool false)) (by kernel_rfl) rfl qP sS
          ·intro w' hS'
           (go_simp; first | exact ⟨rfl, rfl⟩ | exact ⟨congrArg Value.bool q2, rfl⟩)
          apply tkq 7 (v := (.bool false)) (by kernel_rfl) rfl qP sS
          ·intro w' hS'
           (go_simp; exact ⟨rfl, rfl⟩)
          apply tkq 8 (by kernel_rfl) rfl qP sS
          ·intro w' hS'; go_simp; exact ⟨rfl, rfl⟩
          apply tkq 9 (by kernel_rfl) rfl qP sS
          ·intro w' hS'; go_simp; exact ⟨rfl, rfl⟩
          apply tkq 10 (v := (.pointer (some ⟨b6, o6', none⟩))) (by kernel_rfl) rfl qP sS
          ·intro w' hS'
           (go_simp; exact ⟨rfl, rfl⟩)
          apply tkq 11 (v := (.int .i32 (m0 : Int))) (by kernel_rfl) rfl qP sS
          ·intro w' hS'; have k1 := (HC6.out w' hS').1; go_simp; exact ⟨rfl, rfl⟩
          apply tkq 12 (by kernel_rfl) rfl qP sS
          ·intro w' hS'; go_simp; exact ⟨rfl, rfl⟩
          apply tkq 13 (v := (.pointer (some ⟨b6, o6' + 1, none⟩))) (by kernel_rfl) rfl qP sS
          ·intro w' hS'
           (go_simp; exact ⟨rfl, rfl⟩)
          apply tkq 14 (v := (.int .i32 (m1 : Int))) (by kernel_rfl) rfl qP sS
          ·intro w' hS'; have k1 := (HC6.out w' hS').2; go_simp; exact ⟨rfl, rfl⟩
          apply tkq 15 (v := (.bool false)) (by kernel_rfl) rfl qP sS
          ·intro w' hS'
           (go_simp; first | exact ⟨rfl, rfl⟩ | exact ⟨congrArg Value.bool q3, rfl⟩)
          apply tkq 16 (v := (.bool false)) (by kernel_rfl) rfl qP sS
          ·intro w' hS'
           (go_simp; exact ⟨rfl, rfl⟩)
          apply tkq 17 (by kernel_rfl) rfl qP sS
          ·intro w' hS'; go_simp; exact ⟨rfl, rfl⟩
          apply tkq 18 (by kernel_rfl) rfl qP sS
          ·intro w' hS'; go_simp; exact ⟨rfl, rfl⟩
          apply tkq 19 (v := (.pointer (some ⟨b7, o7, none⟩))) (by kernel_rfl) rfl qP sS
          ·intro w' hS'
           (go_simp; exact ⟨rfl, rfl⟩)
          apply tkq 20 (v := (.int .i32 t0)) (by kernel_rfl) rfl qP sS
          ·intro w' hS'; have k1 := (HC7.out w' hS').1; go_simp; exact ⟨rfl, rfl⟩
          apply tkq 21 (by kernel_rfl) rfl qP sS
          ·intro w' hS'; go_simp; exact ⟨rfl, rfl⟩
          apply tkq 22 (v := (.pointer (some ⟨b7, o7 + 1, none⟩))) (by kernel_rfl) rfl qP sS
          ·intro w' hS'
           (go_simp; exact ⟨rfl, rfl⟩)
          apply tkq 23 (v := (.int .i32 t1)) (by kernel_rfl) rfl qP sS
          ·intro w' hS'; have k1 := (HC7.out w' hS').2; go_simp; exact ⟨rfl, rfl⟩
          apply tkq 24 (v := (.bool false)) (by kernel_rfl) rfl qP sS
          ·intro w' hS'
           (go_simp; first | exact ⟨rfl, rfl⟩ | exact ⟨congrArg Value.bool q4, rfl⟩)
          apply tkq 25 (v := (.bool false)) (by kernel_rfl) rfl qP sS
          ·intro w' hS'
           (go_simp; exact ⟨rfl, rfl⟩)
          apply tkq 26 (by kernel_rfl) rfl qP sS
          ·intro w' hS'; go_simp; exact ⟨rfl, rfl⟩
          apply tkq 27 (by kernel_rfl) rfl qP sS
          ·intro w' hS'; go_simp; exact ⟨rfl, rfl⟩
          apply tkq 28 (v := (.pointer (some ⟨b6, o6', none⟩))) (by kernel_rfl) rfl qP sS
          ·intro w' hS'
           (go_simp; exact ⟨rfl, rfl⟩)
          apply tkq 29 (v := (.int .i32 (m0 : Int))) (by kernel_rfl) rfl qP sS
          ·intro w' hS'; have k1 := (HC6.out w' hS').1; go_simp; exact ⟨rfl, rfl⟩
          apply tkq 30 (by kernel_rfl) rfl qP sS
          ·intro w' hS'; go_simp; exact ⟨rfl, rfl⟩
          apply tkq 31 (v := (.pointer (some ⟨b7, o7, none⟩))) (by kernel_rfl) rfl qP sS
          ·intro w' hS'
           (go_simp; exact ⟨rfl, rfl⟩)
          apply tkq 32 (v := (.int .i32 t0)) (by kernel_rfl) rfl qP sS
          ·intro w' hS'; have k1 := (HC7.out w' hS').1; go_simp; exact ⟨rfl, rfl⟩
          apply tkq 33 (v := (.bool true)) (by kernel_rfl) rfl qP sS
          ·intro w' hS'
           (go_simp; first | exact ⟨rfl, rfl⟩ | exact ⟨congrArg Value.bool (decide_eq_true (by omega)), rfl⟩)
          apply tkq 34 (v := (.bool true)) (by kernel_rfl) rfl qP sS
          ·intro w' hS'
           (go_simp; exact ⟨rfl, rfl⟩)
          (try simp only [Act.put]); (try simp only [List.setIfInBounds_toArray]); (try simp only [List.set])
          refine dnL (by kernel_rfl) ?_ _
          go_wp2
          go_meet
          exact ⟨congrArg Value.bool (by rw [← HBAD.out]; unfold badR; simp [E1.out, E2.out, E3.out, E4.out] <;> (have x3 := E3.out; have x4 := E4.out; omega)), sS⟩
         have q4 : (t0 != t1) = true := by simp [e4]
         refine rgQ (fun w' => Below w6.heap.size w6 w') 100 (by kernel_rfl) (fun _ _ d _ _ h => by cases d <;> exact h) fun qP => ?_
         apply tkq 0 (by kernel_rfl) rfl qP sS
         ·intro w' hS'; go_simp; exact ⟨rfl, rfl⟩
         apply tkq 1 (v := (.int .i64 (nm : Nat))) (by kernel_rfl) rfl qP sS
         ·intro w' hS'
          (go_simp; exact ⟨rfl, rfl⟩)
         apply tkq 2 (v := (.bool false)) (by kernel_rfl) rfl qP sS
         ·intro w' hS'
          (go_simp; first | exact ⟨rfl, rfl⟩ | exact ⟨congrArg Value.bool q1, rfl⟩)
         apply tkq 3 (by kernel_rfl) rfl qP sS
         ·intro w' hS'; go_simp; exact ⟨rfl, rfl⟩
         apply tkq 4 (by kernel_rfl) rfl qP sS
         ·intro w' hS'; go_simp; exact ⟨rfl, rfl⟩
         apply tkq 5 (v := (.int .i64 (n7 : Nat))) (by kernel_rfl) rfl qP sS
         ·intro w' hS'
          (go_simp; exact ⟨rfl, rfl⟩)
         apply tkq 6 (v := (.bool false)) (by kernel_rfl) rfl qP sS
         ·intro w' hS'
          (go_simp; first | exact ⟨rfl, rfl⟩ | exact ⟨congrArg Value.bool q2, rfl⟩)
         apply tkq 7 (v := (.bool false)) (by kernel_rfl) rfl qP sS
         ·intro w' hS'
          (go_simp; exact ⟨rfl, rfl⟩)
         apply tkq 8 (by kernel_rfl) rfl qP sS
         ·intro w' hS'; go_simp; exact ⟨rfl, rfl⟩
         apply tkq 9 (by kernel_rfl) rfl qP sS
         ·intro w' hS'; go_simp; exact ⟨rfl, rfl⟩
         apply tkq 10 (v := (.pointer (some ⟨b6, o6', none⟩))) (by kernel_rfl) rfl qP sS
         ·intro w' hS'
          (go_simp; exact ⟨rfl, rfl⟩)
         apply tkq 11 (v := (.int .i32 (m0 : Int))) (by kernel_rfl) rfl qP sS
         ·intro w' hS'; have k1 := (HC6.out w' hS').1; go_simp; exact ⟨rfl, rfl⟩
         apply tkq 12 (by kernel_rfl) rfl qP sS
         ·intro w' hS'; go_simp; exact ⟨rfl, rfl⟩
         apply tkq 13 (v := (.pointer (some ⟨b6, o6' + 1, none⟩))) (by kernel_rfl) rfl qP sS
         ·intro w' hS'
          (go_simp; exact ⟨rfl, rfl⟩)
         apply tkq 14 (v := (.int .i32 (m1 : Int))) (by kernel_rfl) rfl qP sS
         ·intro w' hS'; have k1 := (HC6.out w' hS').2; go_simp; exact ⟨rfl, rfl⟩
         apply tkq 15 (v := (.bool false)) (by kernel_rfl) rfl qP sS
         ·intro w' hS'
          (go_simp; first | exact ⟨rfl, rfl⟩ | exact ⟨congrArg Value.bool q3, rfl⟩)
         apply tkq 16 (v := (.bool false)) (by kernel_rfl) rfl qP sS
         ·intro w' hS'
          (go_simp; exact ⟨rfl, rfl⟩)
         apply tkq 17 (by kernel_rfl) rfl qP sS
         ·intro w' hS'; go_simp; exact ⟨rfl, rfl⟩
         apply tkq 18 (by kernel_rfl) rfl qP sS
         ·intro w' hS'; go_simp; exact ⟨rfl, rfl⟩
         apply tkq 19 (v := (.pointer (some ⟨b7, o7, none⟩))) (by kernel_rfl) rfl qP sS
         ·intro w' hS'
          (go_simp; exact ⟨rfl, rfl⟩)
         apply tkq 20 (v := (.int .i32 t0)) (by kernel_rfl) rfl qP sS
         ·intro w' hS'; have k1 := (HC7.out w' hS').1; go_simp; exact ⟨rfl, rfl⟩
         apply tkq 21 (by kernel_rfl) rfl qP sS
         ·intro w' hS'; go_simp; exact ⟨rfl, rfl⟩
         apply tkq 22 (v := (.pointer (some ⟨b7, o7 + 1, none⟩))) (by kernel_rfl) rfl qP sS
         ·intro w' hS'
          (go_simp; exact ⟨rfl, rfl⟩)
         apply tkq 23 (v := (.int .i32 t1)) (by kernel_rfl) rfl qP sS
         ·intro w' hS'; have k1 := (HC7.out w' hS').2; go_simp; exact ⟨rfl, rfl⟩
         apply tkq 24 (v := (.bool true)) (by kernel_rfl) rfl qP sS
         ·intro w' hS'
          (go_simp; first | exact ⟨rfl, rfl⟩ | exact ⟨congrArg Value.bool q4, rfl⟩)
         apply tkq 25 (v := (.bool true)) (by kernel_rfl) rfl qP sS
         ·intro w' hS'
          (go_simp; exact ⟨rfl, rfl⟩)
         apply tkq 26 (by kernel_rfl) rfl qP sS
         ·intro w' hS'; go_simp; exact ⟨rfl, rfl⟩
         refine skq 27 (by kernel_rfl) rfl qP sS ?_
         refine skq 28 (by kernel_rfl) rfl qP sS ?_
         refine skq 29 (by kernel_rfl) rfl qP sS ?_
         refine skq 30 (by kernel_rfl) rfl qP sS ?_
         refine skq 31 (by kernel_rfl) rfl qP sS ?_
         refine skq 32 (by kernel_rfl) rfl qP sS ?_
         refine skq 33 (by kernel_rfl) rfl qP sS ?_
         apply tkq 34 (v := (.bool true)) (by kernel_rfl) rfl qP sS
         ·intro w' hS'
          (go_simp; exact ⟨rfl, rfl⟩)
         (try simp only [Act.put]); (try simp only [List.setIfInBounds_toArray]); (try simp only [List.set])
         refine dnL (by kernel_rfl) ?_ _
         go_wp2
         go_meet
         exact ⟨congrArg Value.bool (by rw [← HBAD.out]; unfold badR; simp [E1.out, E2.out, E3.out, e4]), sS⟩
        have q3 : ((m0 : Int) != (m1 : Int)) = true := by simp; omega
        refine rgQ (fun w' => Below w6.heap.size w6 w') 100 (by kernel_rfl) (fun _ _ d _ _ h => by cases d <;> exact h) fun qP => ?_
        apply tkq 0 (by kernel_rfl) rfl qP sS
        ·intro w' hS'; go_simp; exact ⟨rfl, rfl⟩
        apply tkq 1 (v := (.int .i64 (nm : Nat))) (by kernel_rfl) rfl qP sS
        ·intro w' hS'
         (go_simp; exact ⟨rfl, rfl⟩)
        apply tkq 2 (v := (.bool false)) (by kernel_rfl) rfl qP sS
        ·intro w' hS'
         (go_simp; first | exact ⟨rfl, rfl⟩ | exact ⟨congrArg Value.bool q1, rfl⟩)
        apply tkq 3 (by kernel_rfl) rfl qP sS
        ·intro w' hS'; go_simp; exact ⟨rfl, rfl⟩
        apply tkq 4 (by kernel_rfl) rfl qP sS
        ·intro w' hS'; go_simp; exact ⟨rfl, rfl⟩
        apply tkq 5 (v := (.int .i64 (n7 : Nat))) (by kernel_rfl) rfl qP sS
        ·intro w' hS'
         (go_simp; exact ⟨rfl, rfl⟩)
        apply tkq 6 (v := (.bool false)) (by kernel_rfl) rfl qP sS
        ·intro w' hS'
         (go_simp; first | exact ⟨rfl, rfl⟩ | exact ⟨congrArg Value.bool q2, rfl⟩)
        apply tkq 7 (v := (.bool false)) (by kernel_rfl) rfl qP sS
        ·intro w' hS'
         (go_simp; exact ⟨rfl, rfl⟩)
        apply tkq 8 (by kernel_rfl) rfl qP sS
        ·intro w' hS'; go_simp; exact ⟨rfl, rfl⟩
        apply tkq 9 (by kernel_rfl) rfl qP sS
        ·intro w' hS'; go_simp; exact ⟨rfl, rfl⟩
        apply tkq 10 (v := (.pointer (some ⟨b6, o6', none⟩))) (by kernel_rfl) rfl qP sS
        ·intro w' hS'
         (go_simp; exact ⟨rfl, rfl⟩)
        apply tkq 11 (v := (.int .i32 (m0 : Int))) (by kernel_rfl) rfl qP sS
        ·intro w' hS'; have k1 := (HC6.out w' hS').1; go_simp; exact ⟨rfl, rfl⟩
        apply tkq 12 (by kernel_rfl) rfl qP sS
        ·intro w' hS'; go_simp; exact ⟨rfl, rfl⟩
        apply tkq 13 (v := (.pointer (some ⟨b6, o6' + 1, none⟩))) (by kernel_rfl) rfl qP sS
        ·intro w' hS'
         (go_simp; exact ⟨rfl, rfl⟩)
        apply tkq 14 (v := (.int .i32 (m1 : Int))) (by kernel_rfl) rfl qP sS
        ·intro w' hS'; have k1 := (HC6.out w' hS').2; go_simp; exact ⟨rfl, rfl⟩
        apply tkq 15 (v := (.bool true)) (by kernel_rfl) rfl qP sS
        ·intro w' hS'
         (go_simp; first | exact ⟨rfl, rfl⟩ | exact ⟨congrArg Value.bool q3, rfl⟩)
        apply tkq 16 (v := (.bool true)) (by kernel_rfl) rfl qP sS
        ·intro w' hS'
         (go_simp; exact ⟨rfl, rfl⟩)
        apply tkq 17 (by kernel_rfl) rfl qP sS
        ·intro w' hS'; go_simp; exact ⟨rfl, rfl⟩
        refine skq 18 (by kernel_rfl) rfl qP sS ?_
        refine skq 19 (by kernel_rfl) rfl qP sS ?_
        refine skq 20 (by kernel_rfl) rfl qP sS ?_
        refine skq 21 (by kernel_rfl) rfl qP sS ?_
        refine skq 22 (by kernel_rfl) rfl qP sS ?_
        refine skq 23 (by kernel_rfl) rfl qP sS ?_
        refine skq 24 (by kernel_rfl) rfl qP sS ?_
        apply tkq 25 (v := (.bool true)) (by kernel_rfl) rfl qP sS
        ·intro w' hS'
         (go_simp; exact ⟨rfl, rfl⟩)
        apply tkq 26 (by kernel_rfl) rfl qP sS
        ·intro w' hS'; go_simp; exact ⟨rfl, rfl⟩
        refine skq 27 (by kernel_rfl) rfl qP sS ?_
        refine skq 28 (by kernel_rfl) rfl qP sS ?_
        refine skq 29 (by kernel_rfl) rfl qP sS ?_
        refine skq 30 (by kernel_rfl) rfl qP sS ?_
        refine skq 31 (by kernel_rfl) rfl qP sS ?_
        refine skq 32 (by kernel_rfl) rfl qP sS ?_
        refine skq 33 (by kernel_rfl) rfl qP sS ?_
        apply tkq 34 (v := (.bool true)) (by kernel_rfl) rfl qP sS
        ·intro w' hS'
         (go_simp; exact ⟨rfl, rfl⟩)
        (try simp only [Act.put]); (try simp only [List.setIfInBounds_toArray]); (try simp only [List.set])
        refine dnL (by kernel_rfl) ?_ _
        go_wp2
        go_meet
        exact ⟨congrArg Value.bool (by rw [← HBAD.out]; unfold badR; simp [E1.out, E2.out, e3]), sS⟩
       have q2 : ((n7 : Int) != 2) = true := by simp; omega
       refine rgQ (fun w' => Below w6.heap.size w6 w') 100 (by kernel_rfl) (fun _ _ d _ _ h => by cases d <;> exact h) fun qP => ?_
       apply tkq 0 (by kernel_rfl) rfl qP sS
       ·intro w' hS'; go_simp; exact ⟨rfl, rfl⟩
       apply tkq 1 (v := (.int .i64 (nm : Nat))) (by kernel_rfl) rfl qP sS
       ·intro w' hS'
        (go_simp; exact ⟨rfl, rfl⟩)
       apply tkq 2 (v := (.bool false)) (by kernel_rfl) rfl qP sS
       ·intro w' hS'
        (go_simp; first | exact ⟨rfl, rfl⟩ | exact ⟨congrArg Value.bool q1, rfl⟩)
       apply tkq 3 (by kernel_rfl) rfl qP sS
       ·intro w' hS'; go_simp; exact ⟨rfl, rfl⟩
       apply tkq 4 (by kernel_rfl) rfl qP sS
       ·intro w' hS'; go_simp; exact ⟨rfl, rfl⟩
       apply tkq 5 (v := (.int .i64 (n7 : Nat))) (by kernel_rfl) rfl qP sS
       ·intro w' hS'
        (go_simp; exact ⟨rfl, rfl⟩)
       apply tkq 6 (v := (.bool true)) (by kernel_rfl) rfl qP sS
       ·intro w' hS'
        (go_simp; first | exact ⟨rfl, rfl⟩ | exact ⟨congrArg Value.bool q2, rfl⟩)
       apply tkq 7 (v := (.bool true)) (by kernel_rfl) rfl qP sS
       ·intro w' hS'
        (go_simp; exact ⟨rfl, rfl⟩)
       apply tkq 8 (by kernel_rfl) rfl qP sS
       ·intro w' hS'; go_simp; exact ⟨rfl, rfl⟩
       refine skq 9 (by kernel_rfl) rfl qP sS ?_
       refine skq 10 (by kernel_rfl) rfl qP sS ?_
       refine skq 11 (by kernel_rfl) rfl qP sS ?_
       refine skq 12 (by kernel_rfl) rfl qP sS ?_
       refine skq 13 (by kernel_rfl) rfl qP sS ?_
       refine skq 14 (by kernel_rfl) rfl qP sS ?_
       refine skq 15 (by kernel_rfl) rfl qP sS ?_
       apply tkq 16 (v := (.bool true)) (by kernel_rfl) rfl qP sS
       ·intro w' hS'
        (go_simp; exact ⟨rfl, rfl⟩)
       apply tkq 17 (by kernel_rfl) rfl qP sS
       ·intro w' hS'; go_simp; exact ⟨rfl, rfl⟩
       refine skq 18 (by kernel_rfl) rfl qP sS ?_
       refine skq 19 (by kernel_rfl) rfl qP sS ?_
       refine skq 20 (by kernel_rfl) rfl qP sS ?_
       refine skq 21 (by kernel_rfl) rfl qP sS ?_
       refine skq 22 (by kernel_rfl) rfl qP sS ?_
       refine skq 23 (by kernel_rfl) rfl qP sS ?_
       refine skq 24 (by kernel_rfl) rfl qP sS ?_
       apply tkq 25 (v := (.bool true)) (by kernel_rfl) rfl qP sS
       ·intro w' hS'
        (go_simp; exact ⟨rfl, rfl⟩)
       apply tkq 26 (by kernel_rfl) rfl qP sS
       ·intro w' hS'; go_simp; exact ⟨rfl, rfl⟩
       refine skq 27 (by kernel_rfl) rfl qP sS ?_
       refine skq 28 (by kernel_rfl) rfl qP sS ?_
       refine skq 29 (by kernel_rfl) rfl qP sS ?_
       refine skq 30 (by kernel_rfl) rfl qP sS ?_
       refine skq 31 (by kernel_rfl) rfl qP sS ?_
       refine skq 32 (by kernel_rfl) rfl qP sS ?_
       refine skq 33 (by kernel_rfl) rfl qP sS ?_
       apply tkq 34 (v := (.bool true)) (by kernel_rfl) rfl qP sS
       ·intro w' hS'
        (go_simp; exact ⟨rfl, rfl⟩)
       (try simp only [Act.put]); (try simp only [List.setIfInBounds_toArray]); (try simp only [List.set])
       refine dnL (by kernel_rfl) ?_ _
       go_wp2
       go_meet
       exact ⟨congrArg Value.bool (by rw [← HBAD.out]; unfold badR; simp [E1.out, e2]), sS⟩
      have q1 : ((nm : Int) != 2) = true := by simp; omega
      refine rgQ (fun w' => Below w6.heap.size w6 w') 100 (by kernel_rfl) (fun _ _ d _ _ h => by cases d <;> exact h) fun qP => ?_
      apply tkq 0 (by kernel_rfl) rfl qP sS
      ·intro w' hS'; go_simp; exact ⟨rfl, rfl⟩
      apply tkq 1 (v := (.int .i64 (nm : Nat))) (by kernel_rfl) rfl qP sS
      ·intro w' hS'
       (go_simp; exact ⟨rfl, rfl⟩)
      apply tkq 2 (v := (.bool true)) (by kernel_rfl) rfl qP sS
      ·intro w' hS'
       (go_simp; first | exact ⟨rfl, rfl⟩ | exact ⟨congrArg Value.bool q1, rfl⟩)
      apply tkq 3 (by kernel_rfl) rfl qP sS
      ·intro w' hS'; go_simp; exact ⟨rfl, rfl⟩
      refine skq 4 (by kernel_rfl) rfl qP sS ?_
      refine skq 5 (by kernel_rfl) rfl qP sS ?_
      refine skq 6 (by kernel_rfl) rfl qP sS ?_
      apply tkq 7 (v := (.bool true)) (by kernel_rfl) rfl qP sS
      ·intro w' hS'
       (go_simp; exact ⟨rfl, rfl⟩)
      apply tkq 8 (by kernel_rfl) rfl qP sS
      ·intro w' hS'; go_simp; exact ⟨rfl, rfl⟩
      refine skq 9 (by kernel_rfl) rfl qP sS ?_
      refine skq 10 (by kernel_rfl) rfl qP sS ?_
      refine skq 11 (by kernel_rfl) rfl qP sS ?_
      refine skq 12 (by kernel_rfl) rfl qP sS ?_
      refine skq 13 (by kernel_rfl) rfl qP sS ?_
      refine skq 14 (by kernel_rfl) rfl qP sS ?_
      refine skq 15 (by kernel_rfl) rfl qP sS ?_
      apply tkq 16 (v := (.bool true)) (by kernel_rfl) rfl qP sS
      ·intro w' hS'
       (go_simp; exact ⟨rfl, rfl⟩)
      apply tkq 17 (by kernel_rfl) rfl qP sS
      ·intro w' hS'; go_simp; exact ⟨rfl, rfl⟩
      refine skq 18 (by kernel_rfl) rfl qP sS ?_
      refine skq 19 (by kernel_rfl) rfl qP sS ?_
      refine skq 20 (by kernel_rfl) rfl qP sS ?_
      refine skq 21 (by kernel_rfl) rfl qP sS ?_
      refine skq 22 (by kernel_rfl) rfl qP sS ?_
      refine skq 23 (by kernel_rfl) rfl qP sS ?_
      refine skq 24 (by kernel_rfl) rfl qP sS ?_
      apply tkq 25 (v := (.bool true)) (by kernel_rfl) rfl qP sS
      ·intro w' hS'
       (go_simp; exact ⟨rfl, rfl⟩)
      apply tkq 26 (by kernel_rfl) rfl qP sS
      ·intro w' hS'; go_simp; exact ⟨rfl, rfl⟩
      refine skq 27 (by kernel_rfl) rfl qP sS ?_
      refine skq 28 (by kernel_rfl) rfl qP sS ?_
      refine skq 29 (by kernel_rfl) rfl qP sS ?_
      refine skq 30 (by kernel_rfl) rfl qP sS ?_
      refine skq 31 (by kernel_rfl) rfl qP sS ?_
      refine skq 32 (by kernel_rfl) rfl qP sS ?_
      refine skq 33 (by kernel_rfl) rfl qP sS ?_
      apply tkq 34 (v := (.bool true)) (by kernel_rfl) rfl qP sS
      ·intro w' hS'
       (go_simp; exact ⟨rfl, rfl⟩)
      (try simp only [Act.put]); (try simp only [List.setIfInBounds_toArray]); (try simp only [List.set])
      refine dnL (by kernel_rfl) ?_ _
      go_wp2
      go_meet
      exact ⟨congrArg Value.bool (by rw [← HBAD.out]; unfold badR; simp [e1]), sS⟩
     obtain ⟨rfl, hb7⟩ := hcut
     obtain ⟨w7, rfl⟩ : ∃ w7 : World, w7 = wc := ⟨_, rfl⟩
     have z60 : (0 : Int) < (nm : Int) := by omega
     have z70 : (0 : Int) < (n7 : Int) := by omega
     have z60n : 0 < nm := by omega
     have z70n : 0 < n7 := by omega
     cases BAD with
     | false =>
      have hE := Hgood.out rfl w7 hb7
      have qX : QP g w6 w7 := .of_below hb7 (Nat.le_of_lt hgl)
      clear Hgood Hbad HBAD
      go_upto_region 14 with fail
      obtain ⟨X, rfl⟩ : ∃ X, X = w7 := ⟨_, rfl⟩
      have sS : QP g w6 X.drew := qX.drew
      refine rgQ (fun w' => QP g w6 w') 100 (by kernel_rfl) (fun _ _ d _ _ h => by cases d <;> exact h) fun qP => ?_
      apply tkq 0 (by kernel_rfl) rfl qP sS
      ·intro w' hS'; go_simp; exact ⟨rfl, rfl⟩
      apply tkq 1 (v := (.pointer (some ⟨b6, o6', none⟩))) (by kernel_rfl) rfl qP sS
      ·intro w' hS'
       (go_simp; exact ⟨rfl, rfl⟩)
      apply tkq 2 (v := (.int .i32 (m0 : Int))) (by kernel_rfl) rfl qP sS
      ·intro w' hS'; have k1 := (HCQ.out w' hS').1; go_simp; exact ⟨rfl, rfl⟩
      apply tkq 3 (by kernel_rfl) rfl qP sS
      ·intro w' hS'; go_simp; exact ⟨rfl, rfl⟩
      apply tkq 4 (v := (.pointer (some ⟨b7, o7, none⟩))) (by kernel_rfl) rfl qP sS
      ·intro w' hS'
       (go_simp; exact ⟨rfl, rfl⟩)
      apply tkq 5 (v := (.int .i32 t0)) (by kernel_rfl) rfl qP sS
      ·intro w' hS'; have k1 := (HCQ.out w' hS').2; go_simp; exact ⟨rfl, rfl⟩
      (try simp only [Act.put]); (try simp only [List.setIfInBounds_toArray]); (try simp only [List.set])
      refine rnL 6 (by kernel_rfl) rfl (by kernel_rfl) (fun K hK => ?_)
      go_simp
      obtain ⟨Y, hY⟩ : ∃ Y, Y = (X.alloc (.cells #[.int .i32 (m0 : Int), .int .i32 t0] 21)).drew := ⟨_, rfl⟩
      rw [← hY]
      have bY : Below X.heap.size X Y := by rw [hY]; exact ((Below.refl _ _).alloc (Nat.le_refl _) _).drew
      have sY : QP g w6 Y := qX.trans (.of_below bY (Nat.le_of_lt hE.lt))
      have rowY : Row Y (X.heap.size + 1) 1 (some ⟨X.heap.size, 0, none⟩) 2 [.int .i32 (m0 : Int), .int .i32 t0] := by rw [hY]; exact (row_new X 21 [.int .i32 (m0 : Int), .int .i32 t0]).drew
      have hEY := hE.below bY
      have g7 := hEY.pk.keep.size
      clear hY
      refine hK _ _ (fun _ => sY) ?_
      clear hK K
      (try simp only [Act.put]); (try simp only [List.setIfInBounds_toArray]); (try simp only [List.set])
      refine rnL 7 (by kernel_rfl) rfl (by kernel_rfl) (fun K hK => ?_)
      go_simp
      refine hK _ _ (fun _ => sY) ?_
      clear hK K
      (try simp only [Act.put]); (try simp only [List.setIfInBounds_toArray]); (try simp only [List.set])
      refine dnL (by kernel_rfl) ?_ _
      go_wp2_with (at_builtin; refine wpList_app _ rfl runeE rfl rfl hEY.own rfl rowY (by simp [Value.oneCell']) (by omega) (by omega) ?_; intro v8 w8 own8 hg8 hb8 _)
      obtain ⟨x1, x2⟩ := hEY.end_ HF.out hgw HLP.out rfl own8 hg8 Hbd.out
      go_roundw
      case rel => exact x1
      case measure => rw [HlS.out]; omega
     | true =>
      obtain ⟨u5, c57, f57, qX, hE⟩ := Hbad.out rfl w7 hb7
      clear Hgood Hbad HBAD
      obtain ⟨X, hX⟩ : ∃ X, X = w7.setCell ⟨g, 5, none⟩ (.bool true) := ⟨_, rfl⟩
      rw [← hX] at qX hE
      go_upto_region 14 with fail
      rw [← hX]
      clear hX
      have sS : QP g w6 X.drew := qX.drew
      refine rgQ (fun w' => QP g w6 w') 100 (by kernel_rfl) (fun _ _ d _ _ h => by cases d <;> exact h) fun qP => ?_
      apply tkq 0 (by kernel_rfl) rfl qP sS
      ·intro w' hS'; go_simp; exact ⟨rfl, rfl⟩
      apply tkq 1 (v := (.pointer (some ⟨b6, o6', none⟩))) (by kernel_rfl) rfl qP sS
      ·intro w' hS'
       (go_simp; exact ⟨rfl, rfl⟩)
      apply tkq 2 (v := (.int .i32 (m0 : Int))) (by kernel_rfl) rfl qP sS
      ·intro w' hS'; have k1 := (HCQ.out w' hS').1; go_simp; exact ⟨rfl, rfl⟩
      apply tkq 3 (by kernel_rfl) rfl qP sS
      ·intro w' hS'; go_simp; exact ⟨rfl, rfl⟩
      apply tkq 4 (v := (.pointer (some ⟨b7, o7, none⟩))) (by kernel_rfl) rfl qP sS
      ·intro w' hS'
       (go_simp; exact ⟨rfl, rfl⟩)
      apply tkq 5 (v := (.int .i32 t0)) (by kernel_rfl) rfl qP sS
      ·intro w' hS'; have k1 := (HCQ.out w' hS').2; go_simp; exact ⟨rfl, rfl⟩
      (try simp only [Act.put]); (try simp only [List.setIfInBounds_toArray]); (try simp only [List.set])
      refine rnL 6 (by kernel_rfl) rfl (by kernel_rfl) (fun K hK => ?_)
      go_simp
      obtain ⟨Y, hY⟩ : ∃ Y, Y = (X.alloc (.cells #[.int .i32 (m0 : Int), .int .i32 t0] 21)).drew := ⟨_, rfl⟩
      rw [← hY]
      have bY : Below X.heap.size X Y := by rw [hY]; exact ((Below.refl _ _).alloc (Nat.le_refl _) _).drew
      have sY : QP g w6 Y := qX.trans (.of_below bY (Nat.le_of_lt hE.lt))
      have rowY : Row Y (X.heap.size + 1) 1 (some ⟨X.heap.size, 0, none⟩) 2 [.int .i32 (m0 : Int), .int .i32 t0] := by rw [hY]; exact (row_new X 21 [.int .i32 (m0 : Int), .int .i32 t0]).drew
      have hEY := hE.below bY
      have g7 := hEY.pk.keep.size
      clear hY
      refine hK _ _ (fun _ => sY) ?_
      clear hK K
      (try simp only [Act.put]); (try simp only [List.setIfInBounds_toArray]); (try simp only [List.set])
      refine rnL 7 (by kernel_rfl) rfl (by kernel_rfl) (fun K hK => ?_)
      go_simp
      refine hK _ _ (fun _ => sY) ?_
      clear hK K
      (try simp only [Act.put]); (try simp only [List.setIfInBounds_toArray]); (try simp only [List.set])
      refine dnL (by kernel_rfl) ?_ _
      go_wp2_with (at_builtin; refine wpList_app _ rfl runeE rfl rfl hEY.own rfl rowY (by simp [Value.oneCell']) (by omega) (by omega) ?_; intro v8 w8 own8 hg8 hb8 _)
      obtain ⟨x1, x2⟩ := hEY.end_ HF.out hgw HLP.out rfl own8 hg8 Hbd.out
      go_roundw
      case rel => exact x1
      case measure => rw [HlS.out]; omega
    rw [if_neg hd] at hans
    have hv := qIs_no 45 g N w4 s1 ns deep most h4 hd
    have hE : ClsE F ANS w g N ns deep most T f (a :: s).length P (flatR P).length (.slice A4 (flatR P).length c4) (m.map rv) w4 := ⟨K4.out, O4.out, h4.lt, .inr ⟨Pm, s1, by rw [hPm], hPne, hPb, h4, by rw [← hPm]; exact hans, by simp at hfu; omega, by simp; omega, by simp at hlen; omega⟩⟩
    have HE := Lh hE; have HV := Lh hv; have HR6 := Lh hr6; have Hnm := Lh hnm
    clear hans hE hv hr6 hm hnm em h4 hPm hPr hPb Hans2 Hans Hrb
    go_wp2_with fail
    refine HV.out.mono ?_
    rintro e w5 ⟨rfl, hb5⟩
    have hE5 := HE.out.below hb5
    have row5 := (HR6.out.below hb5).row
    have g5 := hE5.pk.keep.size
    go_wp2_with (at_builtin; refine wpList_app _ rfl runeE rfl rfl hE5.own rfl row5 (rv_one _) (by omega) (by omega) ?_; intro v8 w8 own8 hg8 hb8 _)
    obtain ⟨e1, e2⟩ := hE5.end_ HF.out hgw rfl (by rw [List.length_map]; exact Hnm.out) own8 hg8 Hbd.out
    go_roundw
    case rel => exact e1
    case measure => rw [HlS.out]; omega
 have HX := Lh hx; have HP := Lh hpk; have HN := Lh hno
 clear hx hpk hno
 go_wp2_with fail
 refine (xIs 93 g _ wo HX.out).mono ?_
 rintro e w2 ⟨rfl, hb⟩
 have hx2 := HX.out.below hb
 obtain ⟨c5, f5⟩ := hx2.cell5
 obtain ⟨hx3, k3⟩ := hx2.bad
 have hk3 := (HP.out.trans (.of_below hb (Nat.le_of_lt HX.out.lt))).trans k3
 have HX3 := Lh hx3; have HK3 := Lh hk3
 clear hx2 hx3 k3 hk3
 go_wp2
 go_ret
 refine ⟨HK3.out, ?_⟩
 have hout : OUT = none := by rw [← HO.out, HN.out]; rfl
 rw [hout]
 exact ⟨0, _, rfl, HX3.out, Nat.le_add_right _ _⟩
end Go.Proofs.YtecejnilajbdpaaGreatDoor
