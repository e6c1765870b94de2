import Derived.Test.YtmddgimadlmacaaDoorWalA
import Derived.Deep.CutBlock
namespace Go.Proofs.YtmddgimadlmacaaDoor
open Go.RowKit Garner

abbrev dat (ps : List ByS) : List Bs := ps.map (·.data)
theorem dat_take (ps : List ByS) (k : Nat) : dat (ps.take k) = (dat ps).take k := by simp [dat, List.map_take]
/-- the frames' ends -/
def endsN (l : List Bs) (k : Nat) : List Value := (List.range k).map fun j => .int .i64 ((flat (l.take (j + 1))).length : Nat)
theorem endsN_succ (l : List Bs) (k : Nat) : endsN l (k + 1) = endsN l k ++ [.int .i64 ((flat (l.take (k + 1))).length : Nat)] := by simp [endsN, List.range_succ]
theorem endsN_len (l : List Bs) (k : Nat) : (endsN l k).length = k := by simp [endsN]
theorem endsN_at (l : List Bs) {k j : Nat} (h : j < k) : (endsN l k)[j]? = some (.int .i64 ((flat (l.take (j + 1))).length : Nat)) := by
  simp [endsN, List.getElem?_map, List.getElem?_range h]
theorem flat_take_succ {l : List Bs} {k : Nat} (h : k < l.length) : flat (l.take (k + 1)) = flat (l.take k) ++ frB l[k] := by
  rw [List.take_succ_eq_append_getElem h, flat_app, flat_one]
theorem flat_take_le (l : List Bs) (k : Nat) (h : ∀ p ∈ l.take k, p.length ≤ 65536) : (flat (l.take k)).length ≤ 65550 * k := by
  have h1 := flat_len_le h
  have h2 : (l.take k).length ≤ k := List.length_take_le _ _
  exact Nat.le_trans h1 (Nat.mul_le_mul_left _ h2)
theorem intsE : Elem Tryd.prog 25 3 (.int .i64 0) 1 8 := ⟨Tryd.underlying25, by kernel_rfl, rfl, by omega, by omega⟩
theorem ends_one (l : List Bs) (k : Nat) : ∀ u ∈ endsN l k, u.oneCell' = true := by
  intro u hu; obtain ⟨c, _, rfl⟩ := List.mem_map.1 hu; rfl
/-- a number without a sign, modulo another one, as an int -/
theorem u64_mod2 (n : Int) (m : Nat) (hm : 0 < m) (hm2 : m ≤ 1000000000000) : ∃ k : Nat, k < m ∧ wrap64 ((IntKind.u64.wrap n).tmod m) = k := by
  obtain ⟨h1, h2⟩ := u64_lo n
  rw [Int.tmod_eq_emod_of_nonneg h1]
  have h3 := Int.emod_nonneg (IntKind.u64.wrap n) (show (m : Int) ≠ 0 by omega)
  have h4 := Int.emod_lt_of_pos (IntKind.u64.wrap n) (show (0 : Int) < m by omega)
  refine ⟨((IntKind.u64.wrap n) % m).toNat, by omega, ?_⟩
  rw [IntWalk.wrap64_in _ ⟨by omega, by omega⟩]; omega
theorem own_grown' {w w' : World} {B B' sz sz' n n' : Nat} {e e' : TypeId} {v v' : Value} {xs xs' : List Value} (h : w.ownsRow B e sz v n xs) (hv : w.ownsRow B' e' sz' v' n' xs') (hne : e ≠ e') (hg : w.grownBy w' v'.ownBlock) : w'.ownsRow B e sz v n xs := by
  refine own_grown h hg ?_
  by_cases e1 : v.ownBlock = none
  · exact Or.inl e1
  · refine Or.inr fun e2 => ?_
    obtain ⟨q, hq⟩ := Option.ne_none_iff_exists'.1 e1
    have h1 := own_own h hv hne q (by rw [← e2]; exact hq)
    rw [hq] at h1
    exact h1 (by simp)
theorem wal1 : walNm 1 = [119, 97, 108, 45, 49] := by unfold walNm; rw [Lib.decDigits_one (by omega)]; rfl
theorem wt_ap (b : Bs) : aAppend [119, 97, 108, 45, 49] b AD.new = (0, ⟨[(walNm 1, (b, 0))], false, false, -1⟩) := by
  rw [← wal1]
  exact ap_up (walNm 1) b [] (-1) (dW0 (n := 1) (by omega))
theorem wt_op {l : List Bs} {n : Nat} {t b : Bs} (hl : ∀ p ∈ l.take n, p.length ≤ 65536) (ht : Torn t) (hb : b = flat (l.take n) ++ t) : wOpen 1 ⟨[(walNm 1, (b, 0))], false, false, -1⟩ = (0, 2, l.take n) := by
  rw [op_one, hb, held_torn hl ht]
theorem op_two {b b2 : Bs} {sy sy2 : Nat} {fl : Bool} {L : Int} : wOpen 1 ⟨[(walNm 1, (b, sy)), (walNm 2, (b2, sy2))], fl, false, L⟩ = (0, 3, held b ++ held b2) := by
  have h1 := rd_some (n := 1) (by omega) (fs := [(walNm 1, (b, sy)), (walNm 2, (b2, sy2))]) (fl := fl) (L := L) (f := (b, sy)) (by simp [aget])
  have h2 := rd_some (n := 2) (by omega) (fs := [(walNm 1, (b, sy)), (walNm 2, (b2, sy2))]) (fl := fl) (L := L) (f := (b2, sy2)) (by simp only [aget]; rw [if_neg (walNm_ne (by omega))]; simp)
  have h3 := rd_none (n := 3) (by omega) (fs := [(walNm 1, (b, sy)), (walNm 2, (b2, sy2))]) (fl := fl) (L := L) (by simp only [aget]; rw [if_neg (walNm_ne (by omega)), if_neg (walNm_ne (by omega))])
  rw [wOpen_go (by omega) (by rw [h1]), wOpen_go (n := 1 + 1) (by omega) (by rw [h2]), wOpen_none (n := 1 + 1 + 1) (by omega) (by rw [h3]), h1, h2]
  simp
theorem wt_app {b more : Bs} (h : ¬ 65536 < more.length) : wApp more ⟨1, 2, false⟩ ⟨[(walNm 1, (b, 0))], false, false, -1⟩ = (0, ⟨1, 2, true⟩, ⟨[(walNm 1, (b, 0)), (walNm 2, (frB more, 0))], false, false, -1⟩) := by
  have h1 := ap_up (walNm 2) (frB more) [(walNm 1, (b, 0))] (-1) (dW0 (n := 2) (by omega))
  have e1 : fget (walNm 2) [(walNm 1, (b, 0))] = ([], 0) := by simp only [fget, aget]; rw [if_neg (walNm_ne (by omega))]; rfl
  have e2 : aput (walNm 2) ([] ++ frB more, 0) [(walNm 1, (b, 0))] = [(walNm 1, (b, 0)), (walNm 2, (frB more, 0))] := by simp only [aput]; rw [if_neg (walNm_ne (by omega))]; rfl
  rw [e1, e2] at h1
  unfold wApp
  rw [if_neg h, h1]; rfl
theorem wt_long {more : Bs} {L : WL} {d : AD} (h : 65536 < more.length) : wApp more L d = (4, L, d) := by unfold wApp; rw [if_pos h]
theorem wt_fget {b : Bs} : fget (walNm 2) [(walNm 1, (b, 0))] = ([], 0) := by simp only [fget, aget]; rw [if_neg (walNm_ne (by omega))]; rfl
set_option maxRecDepth 100000 in
set_option maxHeartbeats 4000000 in
theorem lawWT (ps : List ByS) (A0 : Option Addr) (c0 B : Nat) (cut : Int) (more : Bs) (A2 : Option Addr) (c2 : Nat) (w : World) (h0 : Pieces w B A0 ps) (hc0 : ps.length ≤ c0) (h2 : Bytes w B A2 more.length more) (hB : B ≤ w.heap.size)
    (hml : more.length ≤ 140737488351232) (hpl : ps.length ≤ 1048576) :
    Calls Tryd.prog 3 #[.slice A0 ps.length c0, .int .i64 cut, .slice A2 more.length c2] w fun e w' => e = .returned (.bool true) ∧ Below w.heap.size w w' := by
  go_enter Tryd.func3, Tryd.ntmps3
  go_wp2_with fail
  refine (vAwake10 w).mono ?_
  rintro e w0 ⟨rfl, hb0⟩
  go_wp2_with fail
  go_loopw [7, 8, 9] (fun v7 v8 i wr => ∃ k : Nat, k ≤ ps.length ∧ k ≤ 50 ∧ i = .int .i64 k ∧ OwnB wr w.heap.size v7 (flat ((dat ps).take k)) ∧ wr.ownsRow w.heap.size 3 1 v8 k (endsN (dat ps) k) ∧
      (∀ p ∈ (dat ps).take k, p.length ≤ 65536) ∧ Below w.heap.size w wr) (fun _ _ i _ => ps.length - (intOf i).toNat)
  case atStart => exact ⟨0, Nat.zero_le _, Nat.zero_le _, rfl, World.ownsRow_nil _ _ _ _, World.ownsRow_nil _ _ _ _, by simp, hb0⟩
  case round =>
    clear hb0
    obtain ⟨k, hk, hk50, rfl, hall, hends, hsm, hb⟩ := hrel
    obtain ⟨wo, rfl⟩ : ∃ wo : World, wo = wr := ⟨_, rfl⟩
    have hfl := flat_take_le (dat ps) k hsm
    by_cases hlt : (k : Int) < ps.length ∧ (k : Int) < 50
    · obtain ⟨hlt1, hlt2⟩ := hlt
      have hkl : k < ps.length := by omega
      have hkd : k < (dat ps).length := by simpa [dat] using hkl
      obtain ⟨bp, op, rfl, hbp, hcp⟩ := (h0.below (hb.mono hB)).at_ hkl
      have hpk := (h0.below (hb.mono hB)).all _ (List.getElem_mem hkl)
      have hst := flat_take_succ hkd
      have hde : (dat ps)[k] = ps[k].data := by simp [dat]
      have hsm' : ∀ hl : ps[k].data.length ≤ 65536, ∀ p ∈ (dat ps).take (k + 1), p.length ≤ 65536 := fun hl p hp => by
        rw [List.take_succ_eq_append_getElem hkd] at hp
        rcases List.mem_append.1 hp with hp | hp
        · exact hsm p hp
        · rw [List.mem_singleton] at hp; subst hp; rw [hde]; exact hl
      rw [hde] at hst
      obtain ⟨pk, hpke⟩ : ∃ p, p = ps[k] := ⟨_, rfl⟩
      rw [← hpke] at hcp hpk hst hsm'
      have Hst := Lib.hid hst; have Hsm' := Lib.hid hsm'
      clear hst hde hpke hsm'
      have hkl' : k < 50 := by omega
      go_wp2_with fail
      by_cases hlong : 65536 < (pk.data.length : Int)
      · refine (vFrame_long pk.data pk.A pk.c wo hlong (by have := hpk.cap; have := hpk.room; omega)).mono ?_
        rintro e w1 ⟨rfl, rfl⟩
        go_wp2
        go_ret
        exact ⟨rfl, hb⟩
      · refine (vFrame_ok pk.data pk.A pk.c B wo hpk.row (Nat.le_trans hB hb.size) (by omega)).mono ?_
        rintro e w1 ⟨v1, rfl, hown1, hb1⟩
        have hown1' : OwnB w1 wo.heap.size v1 (frB pk.data) := hown1
        have hfle : (frB pk.data).length ≤ 65550 := frB_le (by omega)
        have hsmk := Lib.hid (Hsm'.out (by omega))
        clear Hsm' hown1
        obtain ⟨A1, c1, rfl, _⟩ := own_form hown1'
        have hrow1 : Bytes w1 w1.heap.size A1 (frB pk.data).length (frB pk.data) := Row.of_own hown1'
        have hall1 := own_below hall hb1
        have hends1 := own_below hends hb1
        have hb01 := hb.trans (hb1.mono hb.size)
        have hs01 := hb01.size
        obtain ⟨fb, hfb⟩ : ∃ f, f = frB pk.data := ⟨_, rfl⟩
        rw [← hfb] at hrow1 hfle Hst ⊢
        clear hall hends hb hb1 hown1' hcp hpk hfb
        go_upto_region 12 with (at_builtin; refine wpList_app _ rfl bytesE rfl rfl hall1 rfl hrow1 (bv_one _) (by omega) hs01 ?_; intro v2 w2 hown2 hg2 hb2 hx2)
        have hends2 := own_grown' hends1 hall1 (by decide) hg2
        have hall2 : OwnB w2 w.heap.size v2 (flat ((dat ps).take (k + 1))) := by rw [Hst.out]; simpa [OwnB] using hown2
        have hb02 := hb01.trans hb2
        have hs02 := hb02.size
        have hln : (flat ((dat ps).take k)).length + fb.length = (flat ((dat ps).take (k + 1))).length := by rw [Hst.out, List.length_append]
        have Hln := Lib.hid hln
        have hfl2 : (flat ((dat ps).take (k + 1))).length ≤ 65550 * (k + 1) := by omega
        obtain ⟨Aa, ca, rfl, _⟩ := own_form hall2
        clear hall1 hends1 hown2 hg2 hb2 hx2 hrow1 hb01 hs01 hln
        go_wp2_with (at_builtin; refine wpList_app _ rfl intsE rfl rfl (hends2.alloc _) rfl (row_new w2 _ [_]) (by simp [Value.oneCell']) (by simp; omega) (by simp; omega) ?_; intro v3 w3 hown3 hg3 hb3 hx3)
        have hbX : Below w2.heap.size w2 (w2.alloc (.cells #[.int .i64 ((flat ((dat ps).take (k + 1))).length : Nat)] 3)) := (Below.refl _ _).alloc (Nat.le_refl _) _
        have hall3 := own_grown' (own_below hall2 hbX) (hends2.alloc _) (by decide) hg3
        have hends3 : w3.ownsRow w.heap.size 3 1 v3 (k + 1) (endsN (dat ps) (k + 1)) := by rw [endsN_succ]; exact hown3
        have hb03 := (hb02.trans (hbX.mono hs02)).trans hb3
        clear hends2 hg3 hb3 hx3 hown3 hall2 hbX hb02 hs02
        go_wp2
        go_roundw
        case rel => exact ⟨k + 1, by omega, by omega, by go_num, hall3, hends3, hsmk.out, hb03⟩
        case measure => simp [intOf]; omega
    · obtain ⟨A7, c7, rfl, hc7⟩ := own_form hall
      obtain ⟨A8, c8, rfl, hc8⟩ := own_form hends
      obtain ⟨L, hL⟩ : ∃ L, L = (dat ps).take k := ⟨_, rfl⟩
      have hLk : L.length = k := by rw [hL, List.length_take]; simp only [dat, List.length_map]; omega
      have hE : endsN (dat ps) k = endsN L k := by
        unfold endsN
        refine List.map_congr_left fun j hj => ?_
        rw [hL, List.take_take, Nat.min_eq_left (by have := List.mem_range.1 hj; omega)]
      rw [hE] at hends
      clear hE
      have HL := Lib.hid hL; have HLk := Lib.hid hLk
      rw [← hL] at hall hsm hfl hc7 ⊢
      obtain ⟨kc, hkc, hkm⟩ := u64_mod2 cut ((flat L).length + 1) (by omega) (by omega)
      obtain ⟨n, t, hnL, hcutE, htorn, hendE⟩ := flat_cut L hsm kc
      have hflen : ((flat L).length : Int) ≤ 3277500 := by omega
      have hnz : ¬ ((flat L).length : Int) + 1 = 0 := by omega
      rw [show (((flat L).length + 1 : Nat) : Int) = ((flat L).length : Int) + 1 by omega] at hkm
      have Hkm := Lib.hid hkm; have HcutE := Lib.hid hcutE
      clear hL hLk hkm hcutE
      rcases (show (¬ (k : Int) < ps.length) ∨ ((k : Int) < ps.length ∧ ¬ (k : Int) < 50) by omega) with hx | ⟨hx, hx2⟩
      all_goals
        go_upto_region 14 with fail
        rw [Hkm.out]
        go_wp2_with fail
        refine (aNew_calls w.heap.size wo hb.size).mono ?_
        rintro e w1 ⟨g, mp, rfl, hd1, hb1, hgl1, hml1⟩
        have hb01 := hb.trans (hb1.mono hb.size)
        have hall1 := own_below hall hb1
        have hends1 := own_below hends hb1
        have htl : ((flat L).take kc).length = kc := by rw [List.length_take]; omega
        have hrowk : Bytes w1 w1.heap.size A7 kc ((flat L).take kc) := row_take (Row.of_own hall1) (by omega) rfl
        have hkc1 : (0 : Int) ≤ kc := by omega
        have hkc2 : (kc : Int) ≤ c7 := by omega
        have hap := aAppend_calls [119, 97, 108, 45, 49] ((flat L).take kc) A7 c7 w1.heap.size w.heap.size g mp AD.new w1 hd1 (by rw [htl]; exact hrowk) (Nat.le_refl _) (by show 0 + ((flat L).take kc).length ≤ _; rw [htl]; omega)
        rw [htl] at hap
        have Hap := Lib.hid hap; have Htl := Lib.hid htl
        clear hap htl hb hb1 hall hends
        go_wp2_with fail
        refine Hap.out.mono ?_
        rintro e w2 ⟨rfl, hd2, hb2⟩
        rw [wt_ap] at hd2
        have hne1 := hd1.o.ne_own hends1 (by decide)
        have hends2 := own_but hends1 hb2 (fun q hq hm => by simp only [List.mem_cons, List.not_mem_nil, or_false] at hm; rcases hm with rfl | rfl <;> simp [hq] at hne1)
        have hb02 := hb01.trans (hd1.down hb2)
        have hgw : w.heap.size ≤ g ∧ w.heap.size ≤ mp := ⟨hd2.hg, hd2.hm⟩
        clear hd1 hb01 hb2 hall1 hends1 hrowk Hap hne1 hkc1 hkc2
        have hnk : n ≤ k := by have := HLk.out; omega
        have HendE := Lib.hid hendE
        clear hendE
        go_upto_block 2 with fail
        go_cut [14] (fun v wx => v = .int .i64 n ∧ wx = w2)
        case first =>
          go_wp2_with fail
          go_loopw [14] (fun v wr => ∃ m : Nat, m ≤ n ∧ v = .int .i64 m ∧ wr = w2) (fun v _ => n - (intOf v).toNat)
          case atStart => exact ⟨0, Nat.zero_le _, rfl, rfl⟩
          case round =>
            obtain ⟨m, hm, rfl, rfl⟩ := hrel
            by_cases hmk : (m : Int) < k
            · obtain ⟨g8, rfl, _, _, hcc, _, hcell⟩ := own_at hends2 (by omega)
              have hc8' : wr.cell? ⟨g8, m, none⟩ = some (.int .i64 ((flat (L.take (m + 1))).length : Nat)) := by
                rw [hcell m (by omega), endsN_at _ (by omega)]
              have hiff := HendE.out (m + 1) (by have := HLk.out; omega)
              clear hcell
              by_cases hmn : m < n
              · have hle : decide ((flat (L.take (m + 1))).length ≤ kc) = true := decide_eq_true (hiff.2 (by omega))
                clear hiff
                go_wp2
                go_roundw
                case rel => exact ⟨m + 1, by omega, by go_num, trivial⟩
                case measure => simp [intOf]; omega
              · have hle : decide ((flat (L.take (m + 1))).length ≤ kc) = false := decide_eq_false (by intro h; have := hiff.1 h; omega)
                obtain rfl : m = n := by omega
                clear hiff
                go_wp2
                go_meet
                exact ⟨rfl, rfl⟩
            · obtain rfl : m = n := by omega
              go_wp2
              go_meet
              exact ⟨rfl, rfl⟩
        case rest =>
          obtain ⟨rfl, hwc⟩ := hcut
          subst hwc
          clear hends2 HendE
          have hLn : ∀ p ∈ L.take n, p.length ≤ 65536 := fun p hp => hsm p (List.mem_of_mem_take hp)
          have hop := wt_op hLn htorn HcutE.out
          have hLnl : (L.take n).length = n := by rw [List.length_take]; omega
          have hdn : L.take n = (dat ps).take n := by rw [HL.out, List.take_take, Nat.min_eq_left hnk]
          obtain ⟨bb, hbb⟩ : ∃ b, b = (flat L).take kc := ⟨_, rfl⟩
          obtain ⟨T, hT⟩ : ∃ T, T = L.take n := ⟨_, rfl⟩
          rw [← hbb] at hd2 hop
          rw [← hT] at hop hLn hLnl hdn
          have Hop := Lib.hid hop; have HLnl := Lib.hid hLnl; have Hdn := Lib.hid hdn
          have hheld : held bb = T := by
            have := op_one (b := bb) (sy := 0) (fl := false) (L := -1)
            rw [Hop.out] at this
            injection this with _ h; injection h with _ h; exact h.symm
          have Hheld := Lib.hid hheld
          clear hbb hT hop hLnl hdn hheld
          go_wp2_with fail
          refine (vOpen 1 w.heap.size g mp _ wc hd2 (by omega) (by omega) (0, 2, T) Hop.out.symm (nms_small _ _ (by show 2 < 100; omega)) (by show 2 ≤ _; omega) (by show T.length * 24 ≤ _; rw [HLnl.out]; omega)).mono ?_
          rintro e w3 ⟨hb3, ⟨hx0, _⟩ | ⟨_, gl, v3, ps3, rfl, hgl3, hk3, hp3, hpd3⟩⟩
          · exact absurd rfl hx0
          have hl3 : ps3.length = n := by have := congrArg List.length hpd3; rw [HLnl.out] at this; simpa using this
          obtain ⟨A3, c3, rfl, _⟩ := own_form hp3.own
          have hr3 := hp3.rds
          have hd3 := hd2.below hb3
          have hb03 := hb02.trans (hb3.mono hb02.size)
          have hglw : w.heap.size ≤ gl := Nat.le_trans hb02.size hgl3
          have hpn : (ps.take n).length = n := by rw [List.length_take]; omega
          have hps3 : Rds w3 A0 (ps.take n) := ((h0.below (hb03.mono hB)).rds (Nat.le_trans hB hb03.size)).take (by omega)
          have hsm3 := vSame10 ps3 (ps.take n) A3 A0 c3 c0 w3 hr3 hps3 (by omega)
          have heq3 : eqN ps3 (ps.take n) = true := decide_eq_true (by rw [hpd3]; show T = dat (ps.take n); rw [Hdn.out, dat_take])
          rw [hl3, hpn, heq3] at hsm3
          have Hsm3 := Lib.hid hsm3
          have Hl3 := Lib.hid hl3
          have hn1 : (0 : Int) ≤ n := by omega
          have hn2 : (n : Int) ≤ c0 := by omega
          rw [hl3]
          clear hd2 hb02 hb3 hp3 hr3 hps3 hsm3 heq3 hpd3 hl3
          go_wp2_with fail
          refine Hsm3.out.mono ?_
          rintro e w4 ⟨rfl, hb4⟩
          have hk4 : LogAt w4 g gl ⟨1, 2, false⟩ := hk3.below hb4 hk3.lt
          have hd4 := hd3.below hb4
          have hb04 := hb03.trans (hb4.mono hb03.size)
          clear Hsm3 hd3 hb03 hb4 hk3
          go_wp2_with fail
          refine (vLogNum g gl ⟨1, 2, false⟩ w4 hk4).mono ?_
          rintro e w5 ⟨rfl, rfl⟩
          go_wp2_with fail
          refine (vLogApp w.heap.size g mp gl _ ⟨1, 2, false⟩ w5 more A2 c2 B hd4 hk4 (by decide) (nms_small _ _ (by decide)) (h2.below (hb04.mono hB)) (Nat.le_trans hB hb04.size) (by omega) (by show (fget (walNm 2) _).1.length + _ ≤ _; rw [wt_fget]; decide)).mono ?_
          rintro e w6 ⟨rfl, hd6, hk6, hb6⟩
          have hb06 := hb04.trans (hb6.below hb04.size (fun q hq => by simp only [List.mem_cons, List.not_mem_nil, or_false] at hq; omega))
          clear hd4 hk4 hb04 hb6
          by_cases hlong : 65536 < (more.length : Int)
          · rw [wt_long (by omega)]
            go_wp2
            go_ret
            exact ⟨rfl, hb06⟩
          · rw [wt_app (by omega)] at hd6 ⊢
            clear hk6
            go_wp2_with fail
            refine (vOpen 1 w.heap.size g mp _ w6 hd6 (by omega) (by omega) (0, 3, T ++ [more]) (by rw [op_two, Hheld.out, ← flat_one more, held_flat0 (by simp; omega)]) (nms_small _ _ (by show 3 < 100; omega)) (by show 3 ≤ _; omega) (by show (T ++ [more]).length * 24 ≤ _; rw [List.length_append, HLnl.out]; simp; omega)).mono ?_
            rintro e w7 ⟨hb7, ⟨hx0, _⟩ | ⟨_, gl7, v7, ps7, rfl, _, _, hp7, hpd7⟩⟩
            · exact absurd rfl hx0
            have hl7 : ps7.length = n + 1 := by have := congrArg List.length hpd7; rw [List.length_append, HLnl.out] at this; simpa using this
            obtain ⟨A9, c9, rfl, hc9⟩ := own_form hp7.own
            have hr7 := hp7.rds
            have hb07 := hb06.trans (hb7.mono hb06.size)
            obtain ⟨b9, o9, rfl, hb9, hcell9⟩ := hr7.at_ (k := n) (by omega)
            have hq9 := hr7.all _ (List.getElem_mem (show n < ps7.length by omega))
            have hqd : (ps7[n]'(by omega)).data = more := by
              have := congrArg (fun l => l[n]?) hpd7
              simp only [List.getElem?_map, List.getElem?_eq_getElem (show n < ps7.length by omega), Option.map_some] at this
              rw [List.getElem?_append_right (by rw [HLnl.out]; omega), HLnl.out] at this
              simpa using this
            obtain ⟨q, hq⟩ : ∃ q, q = ps7[n]'(by omega) := ⟨_, rfl⟩
            rw [← hq] at hcell9 hq9 hqd
            obtain ⟨qA, qc, qd⟩ := q
            simp only at hcell9 hq9 hqd
            subst hqd
            have htk : (ps7.take n).length = n := by rw [List.length_take]; omega
            have htd : dat (ps7.take n) = T := by rw [dat_take, show dat ps7 = T ++ [qd] from hpd7, List.take_left' HLnl.out]
            have hrt := hr7.take (k := n) (by omega)
            have hps7 : Rds w7 A0 (ps.take n) := ((h0.below (hb07.mono hB)).rds (Nat.le_trans hB hb07.size)).take (by omega)
            have hsm7 : ∀ w', Below w7.heap.size w7 w' → Calls Tryd.prog 12 #[.slice (some ⟨b9, o9, none⟩) n c9, .slice A0 n c0] w' fun e w'' => e = .returned (.bool true) ∧ Below w'.heap.size w' w'' := fun w' hb' => by
              have h1 := vSame10 (ps7.take n) (ps.take n) (some ⟨b9, o9, none⟩) A0 c9 c0 w' (hrt.below hb') (hps7.below hb') (by omega)
              have h2 : eqN (ps7.take n) (ps.take n) = true := decide_eq_true (by show dat (ps7.take n) = dat (ps.take n); rw [htd, Hdn.out, dat_take])
              rw [htk, hpn, h2] at h1
              exact h1
            have hmo : Bytes w7 w7.heap.size A2 qd.length qd := (h2.below (hb07.mono hB)).more (Nat.le_trans hB hb07.size)
            have Hsm7 := Lib.hid hsm7
            rw [hl7] at hc9 ⊢
            have hn9 : (n : Int) < c9 := by omega
            have hn8 : (n : Int) ≤ c9 := by omega
            have hn7 : (n : Int) < (n : Int) + 1 := by omega
            clear hd6 hb06 hb7 hp7 hr7 hpd7 hl7 hq htk htd hrt hps7 hsm7
            go_upto_region 25 with fail
            have y1 : ∀ w', Below w7.heap.size w7 w' → w'.cell? ⟨b9, o9 + n, none⟩ = some (.slice qA qd.length qc) := fun w' h => (h.cell (p := ⟨b9, o9 + n, none⟩) hb9).trans hcell9
            have hcv1 : ∀ w' : World, Below w7.heap.size w7 w' → ∀ c', (convert 23 9 (.slice qA qd.length c')).run Tryd.prog w' = .ok (.string ⟨qd.toArray⟩) w' := fun w' h c' => run_str (hq9.below h)
            have hcv2 : ∀ w' : World, Below w7.heap.size w7 w' → ∀ c', (convert 23 9 (.slice A2 qd.length c')).run Tryd.prog w' = .ok (.string ⟨qd.toArray⟩) w' := fun w' h c' => run_str (hmo.below h)
            have hS0 : Below w7.heap.size w7 w7.drew := (Below.refl _ _).drew
            have wq : IntKind.i64.wrap ((n : Int) + 1) = (n : Int) + 1 := IntWalk.i64_in _ ⟨by omega, by omega⟩
            refine wp_region_N (fun w' => Below w7.heap.size w7 w') 100 (by kernel_rfl) ?_
            apply wpAnyN_takeL 0 (by kernel_rfl) rfl (fun _ _ _ h => h) (by kernel_rfl) hS0
            · intro w' hS'
              go_simp; exact ⟨rfl, rfl⟩
            (try simp only [Act.put]); (try simp only [List.setIfInBounds_toArray]); (try simp only [List.set])
            apply wpAnyN_takeL 1 (by kernel_rfl) rfl (fun _ _ _ h => h) (by kernel_rfl) hS0
            · intro w' hS'
              go_simp; exact ⟨rfl, rfl⟩
            (try simp only [Act.put]); (try simp only [List.setIfInBounds_toArray]); (try simp only [List.set])
            apply wpAnyN_takeL 2 (by kernel_rfl) rfl (fun _ _ _ h => h) (by kernel_rfl) hS0
            · intro w' hS'
              go_simp; exact ⟨rfl, rfl⟩
            (try simp only [Act.put]); (try simp only [List.setIfInBounds_toArray]); (try simp only [List.set])
            apply wpAnyN_takeL 3 (by kernel_rfl) rfl (fun _ _ _ h => h) (by kernel_rfl) hS0
            · intro w' hS'
              go_simp; exact ⟨rfl, rfl⟩
            (try simp only [Act.put]); (try simp only [List.setIfInBounds_toArray]); (try simp only [List.set])
            apply wpAnyN_takeL 4 (by kernel_rfl) rfl (fun _ _ _ h => h) (by kernel_rfl) hS0
            · intro w' hS'
              go_simp; exact ⟨rfl, rfl⟩
            (try simp only [Act.put]); (try simp only [List.setIfInBounds_toArray]); (try simp only [List.set])
            apply wpAnyN_takeL 5 (by kernel_rfl) rfl (fun _ _ _ h => h) (by kernel_rfl) hS0
            · intro w' hS'
              go_simp; exact ⟨rfl, rfl⟩
            (try simp only [Act.put]); (try simp only [List.setIfInBounds_toArray]); (try simp only [List.set])
            apply wpAnyN_takeL 6 (by kernel_rfl) rfl (fun _ _ _ h => h) (by kernel_rfl) hS0
            · intro w' hS'
              go_simp; exact ⟨rfl, rfl⟩
            (try simp only [Act.put]); (try simp only [List.setIfInBounds_toArray]); (try simp only [List.set])
            apply wpAnyN_takeL 7 (by kernel_rfl) rfl (fun _ _ _ h => h) (by kernel_rfl) hS0
            · intro w' hS'
              go_simp; exact ⟨rfl, rfl⟩
            (try simp only [Act.put]); (try simp only [List.setIfInBounds_toArray]); (try simp only [List.set])
            apply wpAnyN_takeL 8 (by kernel_rfl) rfl (fun _ _ _ h => h) (by kernel_rfl) hS0
            · intro w' hS'
              go_simp; exact ⟨rfl, rfl⟩
            (try simp only [Act.put]); (try simp only [List.setIfInBounds_toArray]); (try simp only [List.set])
            apply wpAnyN_takeL 9 (by kernel_rfl) rfl (fun _ _ _ h => h) (by kernel_rfl) hS0
            · intro w' hS'
              go_simp; exact ⟨rfl, rfl⟩
            (try simp only [Act.put]); (try simp only [List.setIfInBounds_toArray]); (try simp only [List.set])
            apply wpAnyN_takeL 10 (by kernel_rfl) rfl (fun _ _ _ h => h) (by kernel_rfl) hS0
            · intro w' hS'
              go_simp; exact ⟨rfl, rfl⟩
            (try simp only [Act.put]); (try simp only [List.setIfInBounds_toArray]); (try simp only [List.set])
            apply wpAnyN_takeL 11 (by kernel_rfl) rfl (fun _ _ _ h => h) (by kernel_rfl) hS0
            · intro w' hS'
              go_simp; exact ⟨rfl, rfl⟩
            (try simp only [Act.put]); (try simp only [List.setIfInBounds_toArray]); (try simp only [List.set])
            apply wpAnyN_takeL 12 (by kernel_rfl) rfl (fun _ _ _ h => h) (by kernel_rfl) hS0
            · intro w' hS'
              go_simp; exact ⟨rfl, rfl⟩
            (try simp only [Act.put]); (try simp only [List.setIfInBounds_toArray]); (try simp only [List.set])
            apply wpAnyN_takeL 13 (by kernel_rfl) rfl (fun _ _ _ h => h) (by kernel_rfl) hS0
            · intro w' hS'
              go_simp; exact ⟨rfl, rfl⟩
            (try simp only [Act.put]); (try simp only [List.setIfInBounds_toArray]); (try simp only [List.set])
            apply wpAnyN_takeL 14 (by kernel_rfl) rfl (fun _ _ _ h => h) (by kernel_rfl) hS0
            · intro w' hS'
              go_simp; exact ⟨rfl, rfl⟩
            (try simp only [Act.put]); (try simp only [List.setIfInBounds_toArray]); (try simp only [List.set])
            apply wpAnyN_takeL 15 (by kernel_rfl) rfl (fun _ _ _ h => h) (by kernel_rfl) hS0
            · intro w' hS'
              go_simp; exact ⟨rfl, rfl⟩
            (try simp only [Act.put]); (try simp only [List.setIfInBounds_toArray]); (try simp only [List.set])
            refine wpAnyN_runL 16 (by kernel_rfl) rfl (by kernel_rfl) (fun K hK => ?_)
            go_simp
            refine (Hsm7.out w7.drew hS0).mono ?_
            rintro e w8 ⟨rfl, hb8⟩
            simp only [World.size_drew] at hb8
            have hS1 : Below w7.heap.size w7 w8 := hS0.trans hb8
            refine hK _ _ (fun _ => hS1) ?_
            clear hK K
            (try simp only [Act.put]); (try simp only [List.setIfInBounds_toArray]); (try simp only [List.set])
            apply wpAnyN_takeL 17 (by kernel_rfl) rfl (fun _ _ _ h => h) (by kernel_rfl) hS1
            · intro w' hS'
              go_simp; exact ⟨rfl, rfl⟩
            (try simp only [Act.put]); (try simp only [List.setIfInBounds_toArray]); (try simp only [List.set])
            apply wpAnyN_takeL 18 (by kernel_rfl) rfl (fun _ _ _ h => h) (by kernel_rfl) hS1
            · intro w' hS'
              go_simp; exact ⟨rfl, rfl⟩
            (try simp only [Act.put]); (try simp only [List.setIfInBounds_toArray]); (try simp only [List.set])
            apply wpAnyN_takeL 19 (by kernel_rfl) rfl (fun _ _ _ h => h) (by kernel_rfl) hS1
            · intro w' hS'
              go_simp; exact ⟨rfl, rfl⟩
            (try simp only [Act.put]); (try simp only [List.setIfInBounds_toArray]); (try simp only [List.set])
            apply wpAnyN_takeL 20 (by kernel_rfl) rfl (fun _ _ _ h => h) (by kernel_rfl) hS1
            · intro w' hS'
              go_simp; exact ⟨rfl, rfl⟩
            (try simp only [Act.put]); (try simp only [List.setIfInBounds_toArray]); (try simp only [List.set])
            apply wpAnyN_takeL 21 (by kernel_rfl) rfl (fun _ _ _ h => h) (by kernel_rfl) hS1
            · intro w' hS'
              go_simp; exact ⟨rfl, rfl⟩
            (try simp only [Act.put]); (try simp only [List.setIfInBounds_toArray]); (try simp only [List.set])
            apply wpAnyN_takeL 22 (by kernel_rfl) rfl (fun _ _ _ h => h) (by kernel_rfl) hS1
            · intro w' hS'
              go_simp; exact ⟨rfl, rfl⟩
            (try simp only [Act.put]); (try simp only [List.setIfInBounds_toArray]); (try simp only [List.set])
            apply wpAnyN_takeL 23 (by kernel_rfl) rfl (fun _ _ _ h => h) (by kernel_rfl) hS1
            · intro w' hS'
              go_simp; exact ⟨rfl, rfl⟩
            (try simp only [Act.put]); (try simp only [List.setIfInBounds_toArray]); (try simp only [List.set])
            apply wpAnyN_takeL 24 (by kernel_rfl) rfl (fun _ _ _ h => h) (by kernel_rfl) hS1
            · intro w' hS'
              go_simp; exact ⟨rfl, rfl⟩
            (try simp only [Act.put]); (try simp only [List.setIfInBounds_toArray]); (try simp only [List.set])
            apply wpAnyN_takeL 25 (by kernel_rfl) rfl (fun _ _ _ h => h) (by kernel_rfl) hS1
            · intro w' hS'
              go_simp; exact ⟨rfl, rfl⟩
            (try simp only [Act.put]); (try simp only [List.setIfInBounds_toArray]); (try simp only [List.set])
            apply wpAnyN_takeL 26 (by kernel_rfl) rfl (fun _ _ _ h => h) (by kernel_rfl) hS1
            · intro w' hS'
              go_simp; exact ⟨rfl, rfl⟩
            (try simp only [Act.put]); (try simp only [List.setIfInBounds_toArray]); (try simp only [List.set])
            apply wpAnyN_takeL 27 (by kernel_rfl) rfl (fun _ _ _ h => h) (by kernel_rfl) hS1
            · intro w' hS'
              go_simp; exact ⟨rfl, rfl⟩
            (try simp only [Act.put]); (try simp only [List.setIfInBounds_toArray]); (try simp only [List.set])
            apply wpAnyN_takeL 28 (by kernel_rfl) rfl (fun _ _ _ h => h) (by kernel_rfl) hS1
            · intro w' hS'
              go_simp; exact ⟨rfl, rfl⟩
            (try simp only [Act.put]); (try simp only [List.setIfInBounds_toArray]); (try simp only [List.set])
            refine wpAnyN_done (by kernel_rfl) ?_ _
            clear y1 hcv1 hcv2 Hsm7
            go_wp2
            go_ret
            exact ⟨rfl, hb07.trans (hS1.mono hb07.size)⟩
end Go.Proofs.YtmddgimadlmacaaDoor
