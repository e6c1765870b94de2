import Derived.Test.YtmddgimadlmacaaDoorWalF
import Derived.Test.YtmddgimadlmacaaDoorLawWT
import Derived.Deep.CutBlock
namespace Go.Proofs.YtmddgimadlmacaaDoor
open Go.RowKit Garner

theorem u64_mod3 (n : Int) (m : Nat) (hm : 0 < m) (hm2 : m ≤ 1000000000000) : ∃ k : Nat, k < m ∧ wrap64 ((IntKind.u64.wrap n).tmod (m : Int)) = k := u64_mod2 n m hm hm2
theorem Rds.shift {w : World} {A : Option Addr} {ps : List ByS} (h : Rds w A ps) {k : Nat} (hk : k < ps.length) : ∃ b off, A = some ⟨b, off, none⟩ ∧ Rds w (some ⟨b, off + k, none⟩) (ps.drop k) := by
  obtain ⟨b, off, rfl, _⟩ := h.at_ hk
  exact ⟨b, off, rfl, h.drop (by omega)⟩
set_option maxRecDepth 100000 in
set_option maxHeartbeats 4000000 in
theorem lawWD (ps : List ByS) (A0 : Option Addr) (c0 B : Nat) (below : Int) (w : World) (h0 : Pieces w B A0 ps) (hc0 : ps.length ≤ c0) (hB : B ≤ w.heap.size) (hpl : c0 * 24 ≤ 140737488351232) :
    Calls Tryd.prog 5 #[.slice A0 ps.length c0, .int .i64 below] w fun e w' => e = .returned (.bool true) ∧ Below w.heap.size w w' := by
  go_enter Tryd.func5, Tryd.ntmps5
  go_wp2_with fail
  refine (vAwake10 w).mono ?_
  rintro e w0 ⟨rfl, hb0⟩
  go_wp2_with fail
  refine (aNew_calls w.heap.size w0 hb0.size).mono ?_
  rintro e w1 ⟨g, mp, rfl, hd1, hb1, _, _⟩
  have hb01 := hb0.trans (hb1.mono hb0.size)
  clear hb0 hb1
  go_wp2_with fail
  refine (vOpen 1 w.heap.size g mp AD.new w1 hd1 (by omega) (by omega) (0, 1, []) (op_new (by omega)).symm (nms_small _ _ (by decide)) (by decide) (by decide)).mono ?_
  rintro e w2 ⟨hb2, ⟨hx0, _⟩ | ⟨_, gl, v, ps2, rfl, hgl, hk2, hp2, hpd⟩⟩
  · exact absurd rfl hx0
  obtain rfl : ps2 = [] := by simpa using hpd
  obtain ⟨A2, c2, rfl, _⟩ := own_form hp2.own
  have hd2 : DiskA w.heap.size w2 g mp ⟨fsF (dat ps) 0 0, false, false, -1⟩ := hd1.below hb2
  have hb02 := hb01.trans (hb2.mono hb01.size)
  have hglw : w.heap.size ≤ gl := Nat.le_trans hb01.size hgl
  have hgw : w.heap.size ≤ g ∧ w.heap.size ≤ mp := ⟨hd2.hg, hd2.hm⟩
  clear hd1 hb2 hp2 hpd hb01
  go_wp2_with fail
  go_loopw [9, 10] (fun v9 i wr => ∃ k : Nat, k ≤ ps.length ∧ k ≤ 50 ∧ i = .int .i64 k ∧ v9 = .int .i64 k ∧ (∀ p ∈ (dat ps).take k, p.length ≤ 65536) ∧ DiskA w.heap.size wr g mp ⟨fsF (dat ps) 0 k, false, false, -1⟩ ∧ LogAt wr g gl ⟨1, k + 1, false⟩ ∧ Below w.heap.size w wr) (fun _ i _ => ps.length - (intOf i).toNat)
  case atStart => exact ⟨0, Nat.zero_le _, Nat.zero_le _, rfl, rfl, by simp, hd2, hk2, hb02⟩
  case round =>
    clear hd2 hk2 hb02
    obtain ⟨k, hk, hk50, rfl, rfl, hsm, hd, hlog, hb⟩ := hrel
    obtain ⟨wo, rfl⟩ : ∃ wo : World, wo = wr := ⟨_, rfl⟩
    by_cases hlt : (k : Int) < ps.length ∧ (k : Int) < 50
    · obtain ⟨hlt1, hlt2⟩ := hlt
      have hkl : k < ps.length := by omega
      have hkd : k < (dat ps).length := by simpa [dat] using hkl
      obtain ⟨bp, op, rfl, hbp, hcp⟩ := (h0.below (hb.mono hB)).at_ hkl
      have hpk := (h0.below (hb.mono hB)).all _ (List.getElem_mem hkl)
      have hde : (dat ps)[k] = ps[k].data := by simp [dat]
      have happ := fun hl => wd_app (l := dat ps) hkd (by omega) hl
      have hsm' : ∀ hl : ps[k].data.length ≤ 65536, ∀ p ∈ (dat ps).take (k + 1), p.length ≤ 65536 := fun hl p hp => by
        rw [List.take_succ_eq_append_getElem hkd] at hp
        rcases List.mem_append.1 hp with hp | hp
        · exact hsm p hp
        · rw [List.mem_singleton] at hp; subst hp; rw [hde]; exact hl
      rw [hde] at happ
      obtain ⟨pk, hpke⟩ : ∃ p, p = ps[k] := ⟨_, rfl⟩
      rw [← hpke] at hcp hpk happ hsm'
      have Happ := Lib.hid happ; have Hsm' := Lib.hid hsm'
      clear happ hde hpke hsm'
      have hkl' : k < 50 := by omega
      have hpl2 : pk.data.length ≤ 140737488351232 := by have := hpk.cap; have := hpk.room; omega
      by_cases hlong : 65536 < (pk.data.length : Int)
      · go_wp2
        go_ret
        exact ⟨rfl, hb⟩
      · have hlong' : (pk.data.length : Int) ≤ 65536 := by omega
        go_wp2_with fail
        refine (vLogApp w.heap.size g mp gl _ ⟨1, k + 1, false⟩ wo pk.data pk.A pk.c B hd hlog (by show 1 ≤ k + 1; omega) (nms_small _ _ (by show k + 1 < 100; omega)) hpk.row (Nat.le_trans hB hb.size) (by omega) (by show (fget (walNm (k + 1)) (fsF (dat ps) 0 k)).1.length + 65550 ≤ _; rw [wd_fget]; decide)).mono ?_
        rintro e w3 ⟨rfl, hd3, hk3, hb3⟩
        rw [Happ.out (by omega)] at hd3 hk3 ⊢
        have hb03 := hb.trans (hb3.below hb.size (fun q hq => by simp only [List.mem_cons, List.not_mem_nil, or_false] at hq; omega))
        have hsmk := Lib.hid (Hsm'.out (by omega))
        clear Happ Hsm' hd hlog hb hb3 hcp hpk
        go_wp2_with fail
        refine (vLogRot w.heap.size g mp gl _ ⟨1, k + 1, true⟩ w3 hd3 hk3 (by show k + 1 ≤ _; omega)).mono ?_
        rintro e w4 ⟨rfl, hd4, hk4, hb4⟩
        rw [wd_rot (by omega)] at hk4 ⊢
        have hb04 := hb03.trans (hb4.below hb03.size (fun q hq => by simp only [List.mem_cons, List.not_mem_nil, or_false] at hq; omega))
        clear hd3 hk3 hb03 hb4
        go_wp2_with fail
        refine (vLogNum g gl ⟨1, k + 1 + 1, false⟩ w4 hk4).mono ?_
        rintro e w5 ⟨rfl, rfl⟩
        have hz : (((k + 1 + 1 : Nat) : Int) != (k : Int) + 2) = false := by rw [bne_eq_false_iff_eq]; omega
        have hz2 : (((k : Int) + 1 + 1) != (k : Int) + 2) = false := by rw [bne_eq_false_iff_eq]; omega
        go_wp2
        go_roundw
        case rel => exact ⟨k + 1, by omega, by omega, by go_num, by go_num, hsmk.out, hd4, hk4, hb04⟩
        case measure => simp [intOf]; omega
    · have hLk : ((dat ps).take k).length = k := by rw [List.length_take]; simp only [dat, List.length_map]; omega
      obtain ⟨K, hK, hkm⟩ := u64_mod2 below (k + 3) (by omega) (by omega)
      rw [show ((k + 3 : Nat) : Int) = (k : Int) + 3 by omega] at hkm
      have hnz : ¬ (k : Int) + 3 = 0 := by omega
      have Hkm := Lib.hid hkm; have HLk := Lib.hid hLk
      obtain ⟨m, hm⟩ : ∃ m, m = min K (k + 1) - 1 := ⟨_, rfl⟩
      obtain ⟨F, hF⟩ : ∃ F, F = max K 1 := ⟨_, rfl⟩
      have hmk : m ≤ k := by omega
      have hdr : (0, ⟨m + 1, k + 1, false⟩, ⟨fsF (dat ps) m k, false, false, -1⟩) = wDrop (min (K : Int) ((k + 1 : Nat) : Int) - ((1 : Nat) : Int)).toNat ⟨1, k + 1, false⟩ ⟨fsF (dat ps) 0 k, false, false, -1⟩ := by
        rw [show (min (K : Int) ((k + 1 : Nat) : Int) - ((1 : Nat) : Int)).toNat = m by omega]
        have h := wd_drop (l := dat ps) (n := k) (N := k + 1) (wr := false) (by omega) m 0 (by omega)
        simp only [Nat.zero_add] at h
        exact h.symm
      have Hdr := Lib.hid hdr
      have hFm : max (K : Int) 1 = (F : Int) := by omega
      have HFm := Lib.hid hFm
      have hcount : ((k - m : Nat) : Int) = max 0 ((k : Int) - F + 1) := by omega
      have Hcount := Lib.hid hcount
      have hTl : (((dat ps).take k).drop (F - 1)).length = k - m := by rw [List.length_drop, hLk]; omega
      have hopn : (0, max F (k + 1), ((dat ps).take k).drop (F - 1)) = wOpen F ⟨fsF (dat ps) m k, false, false, -1⟩ := by
        obtain ⟨f, rfl⟩ : ∃ f, F = f + 1 := ⟨F - 1, by omega⟩
        have hkl : k ≤ (dat ps).length := by simpa [dat] using hk
        by_cases hfk : f ≤ k
        · rw [wd_open hsm hkl (by omega) (k - f) f (by omega) (by omega), show max (f + 1) (k + 1) = k + 1 by omega]; rfl
        · rw [wd_open_far (by omega) (by omega), show max (f + 1) (k + 1) = f + 1 by omega, List.drop_of_length_le (by rw [hLk]; omega)]
      have Hopn := Lib.hid hopn; have HTl := Lib.hid hTl
      have hF1 : 1 ≤ F := by omega
      have hF2 : F ≤ k + 2 := by omega
      have hFk : 0 < k - m → F - 1 = m ∧ F ≤ k := fun h => by omega
      have HFk := Lib.hid hFk
      clear hkm hLk hm hF hdr hFm hcount hTl hopn hFk
      rcases (show (¬ (k : Int) < ps.length) ∨ ((k : Int) < ps.length ∧ ¬ (k : Int) < 50) by omega) with hx | ⟨hx, hx2⟩
      all_goals
        go_upto_region 15 with fail
        rw [Hkm.out]
        go_wp2_with fail
        refine (vLogDrop w.heap.size g mp gl _ ⟨1, k + 1, false⟩ wo (K : Int) hd hlog hglw (by show 1 ≤ 1; omega) (by show k + 1 ≤ _; omega) (nms_small _ _ (by show k + 1 < 100; omega)) _ Hdr.out).mono ?_
        rintro e w3 ⟨rfl, hd3, hk3, hb3⟩
        have hb03 := hb.trans (hb3.below hb.size (fun q hq => by simp only [List.mem_cons, List.not_mem_nil, or_false] at hq; omega))
        clear hd hlog hb hb3 hk3
        go_wp2_with fail
        refine (aList_calls w.heap.size g mp _ w3 hd3 (by show (fsF (dat ps) m k).length * 16 ≤ _; rw [fsF_len]; omega)).mono ?_
        rintro e w4 ⟨A4, c4, rfl, _, hb4⟩
        rw [wd_list.1, wd_list.2]
        have hd4 := hd3.below hb4
        have hb04 := hb03.trans (hb4.mono hb03.size)
        clear hd3 hb03 hb4
        go_upto_region 19 with fail
        rw [HFm.out]
        have hz1 : (((k - m : Nat) : Int) != max 0 ((k : Int) - F + 1)) = false := by rw [bne_eq_false_iff_eq]; exact Hcount.out
        go_wp2_with fail
        refine (vOpen F w.heap.size g mp _ w4 hd4 hF1 (by omega) _ Hopn.out (nms_small _ _ (by show max F (k + 1) < 100; omega)) (by show max F (k + 1) ≤ _; omega) (by show (((dat ps).take k).drop (F - 1)).length * 24 ≤ _; rw [HTl.out]; omega)).mono ?_
        rintro e w5 ⟨hb5, ⟨hx0, _⟩ | ⟨_, gl5, v5, ps5, rfl, _, hk5, hp5, hpd5⟩⟩
        · exact absurd rfl hx0
        have hl5 : ps5.length = k - m := by have := congrArg List.length hpd5; rw [HTl.out] at this; simpa using this
        obtain ⟨A5, c5, rfl, _⟩ := own_form hp5.own
        have hr5 := hp5.rds
        have hb05 := hb04.trans (hb5.mono hb04.size)
        have Hl5 := Lib.hid hl5
        rw [hl5]
        clear hd4 hb04 hb5 hp5 hz1 hl5
        have hz2 : (((max F (k + 1) : Nat) : Int) != max (F : Int) ((k : Int) + 1)) = false := by rw [bne_eq_false_iff_eq]; omega
        go_wp2_with fail
        refine (vLogNum g gl5 ⟨F, max F (k + 1), false⟩ w5 hk5).mono ?_
        rintro e w6 ⟨rfl, rfl⟩
        by_cases hkm0 : k - m = 0
        · have hz3 : (((k - m : Nat) : Int) == 0) = true := by rw [hkm0]; rfl
          clear hkm0
          go_wp2
          go_ret
          exact ⟨rfl, hb05⟩
        · have hz3 : (((k - m : Nat) : Int) == 0) = false := by rw [beq_eq_false_iff_ne]; omega
          obtain ⟨hFm', hFk'⟩ := HFk.out (by omega)
          obtain rfl : F = m + 1 := by omega
          have hps6 : Rds w6 A0 (ps.take k) := ((h0.below (hb05.mono hB)).rds (Nat.le_trans hB hb05.size)).take hk
          obtain ⟨bs, os, rfl, hdr6⟩ := hps6.shift (k := m) (by rw [List.length_take]; omega)
          have hdl : ((ps.take k).drop m).length = k - m := by rw [List.length_drop, List.length_take]; omega
          have hsm6 := vSame10 ps5 ((ps.take k).drop m) A5 (some ⟨bs, os + m, none⟩) c5 (c0 - m) w6 hr5 hdr6 (by rw [Hl5.out]; omega)
          have heq6 : eqN ps5 ((ps.take k).drop m) = true := decide_eq_true (by rw [hpd5]; simp [dat, List.map_take, List.map_drop])
          rw [Hl5.out, hdl, heq6] at hsm6
          have Hsm6 := Lib.hid hsm6
          have hs1 : (0 : Int) ≤ (m : Int) := by omega
          have hs2 : (m : Int) ≤ (k : Int) := by omega
          have hs3 : (k : Int) ≤ (c0 : Int) := by omega
          clear hps6 hdr6 hdl hsm6 heq6 hr5 hkm0 hFm' hpd5 hk5
          go_wp2_with fail
          refine Hsm6.out.mono ?_
          rintro e w7 ⟨rfl, hb7⟩
          have hb07 := hb05.trans (hb7.mono hb05.size)
          clear Hsm6
          go_wp2
          go_ret
          exact ⟨rfl, hb07⟩
end Go.Proofs.YtmddgimadlmacaaDoor
