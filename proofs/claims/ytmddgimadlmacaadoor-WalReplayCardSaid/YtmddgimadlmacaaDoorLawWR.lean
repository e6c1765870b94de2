import Derived.Test.YtmddgimadlmacaaDoorWalR
import Derived.Test.YtmddgimadlmacaaDoorLawWT
import Derived.Test.YtmddgimadlmacaaDoorWalO
namespace Go.Proofs.YtmddgimadlmacaaDoor
open Go.RowKit Garner

theorem Row.byte {w : World} {B n : Nat} {A : Option Addr} {l : Bs} (h : Bytes w B A n l) (hn : l.length = n) {k : Nat} (hk : k < n) : ∃ b off, A = some ⟨b, off, none⟩ ∧ b < B ∧ w.cell? ⟨b, off + k, none⟩ = some (.int .u8 (l[k]'(by omega)).toNat) := by
  obtain ⟨b, off, e, hb, hc⟩ := h.2 (by omega)
  refine ⟨b, off, e, hb, ?_⟩
  rw [hc k (bv (l[k]'(by omega))) (by rw [List.getElem?_map, List.getElem?_eq_getElem (by omega)]; rfl)]
  rfl
theorem rs_arm {A : Int} (hA : 1 ≤ A) : aArm A AD.new = (⟨[], [], 0, false, A⟩ : RS).d := by
  unfold aArm AD.new RS.d
  simp only [Bool.false_eq_true, if_false]
  rw [show max A (-1) = A by omega]; rfl
theorem rs_ok {A : Int} (hA : 1 ≤ A) (hA2 : A ≤ 80) : (⟨[], [], 0, false, A⟩ : RS).Ok A :=
  ⟨by show (0 : Int) ≤ A; omega, hA2, by show 2 * ((0 : Nat) : Int) + (if false = true then 1 else 0) ≤ A - A; rw [if_neg (by decide)]; omega, Nat.le_refl _, fun _ => ⟨rfl, rfl⟩, fun p hp => by simp [RS.had] at hp⟩
theorem mod3 (c : Nat) : c % 3 = 0 ∨ c % 3 = 1 ∨ c % 3 = 2 := by omega
set_option maxRecDepth 100000 in
set_option maxHeartbeats 20000000 in
theorem lawWR (ps : List ByS) (A0 : Option Addr) (c0 : Nat) (sy : Bs) (A1 : Option Addr) (c1 : Nat) (at_ : Int) (keep : List Int) (A3 : Option Addr) (c3 B : Nat) (w : World) (h0 : Pieces w B A0 ps) (h1 : Bytes w B A1 sy.length sy) (h3 : Row w B 1 A3 keep.length (keep.map (Value.int .i64))) (hB : B ≤ w.heap.size)
    (hkl : keep.length ≤ 140737488351232) (hkr : ∀ k ∈ keep, in64 k) :
    Calls Tryd.prog 15 #[.slice A0 ps.length c0, .slice A1 sy.length c1, .int .i64 at_, .slice A3 keep.length c3] w fun e w' => e = .returned (.bool true) ∧ Below w.heap.size w w' := by
  go_enter Tryd.func15, Tryd.ntmps15
  go_wp2_with fail
  refine (aNew_calls w.heap.size w (Nat.le_refl _)).mono ?_
  rintro e w1 ⟨g, mp, rfl, hd1, hb1, _, _⟩
  go_wp2_with fail
  refine (vOpen 1 w.heap.size g mp AD.new w1 hd1 (by omega) (by omega) (0, 1, []) (op_new (by omega)).symm (nms_small _ _ (by decide)) (by decide) (by decide)).mono ?_
  rintro e w2 ⟨hb2, ⟨hx0, _⟩ | ⟨_, gl, v, ps2, rfl, hgl, hk2, hp2, hpd⟩⟩
  · exact absurd rfl hx0
  obtain rfl : ps2 = [] := by simpa using hpd
  obtain ⟨A2, c2, rfl, _⟩ := own_form hp2.own
  have hd2 := hd1.below hb2
  have hb02 := hb1.trans (hb2.mono hb1.size)
  have hglw : w.heap.size ≤ gl := Nat.le_trans hb1.size hgl
  have hgw : w.heap.size ≤ g ∧ w.heap.size ≤ mp := ⟨hd2.hg, hd2.hm⟩
  clear hd1 hb2 hp2 hpd hb1
  obtain ⟨a0, ha0, ham⟩ := u64_mod2 at_ 80 (by omega) (by omega)
  rw [show ((80 : Nat) : Int) = 80 from rfl] at ham
  have Ham := Lib.hid ham
  clear ham
  go_wp2_with fail
  rw [Ham.out]
  have hA1 : (1 : Int) ≤ (a0 : Int) + 1 := by omega
  have hA2 : (a0 : Int) + 1 ≤ 80 := by omega
  obtain ⟨A, hA⟩ : ∃ A, A = (a0 : Int) + 1 := ⟨_, rfl⟩
  rw [IntWalk.wrap64_in _ ⟨by omega, by omega⟩, ← hA]
  rw [← hA] at hA1 hA2
  clear hA
  refine (aArm_calls w.heap.size g mp _ w2 A (by omega) (by omega) hd2).mono ?_
  rintro e w3 ⟨rfl, hd3, hb3⟩
  rw [rs_arm hA1] at hd3
  have hok3 := rs_ok hA1 hA2
  have hne0 := log_ne (L := ⟨1, 1, false⟩) hd2 hk2
  have hk3 : LogAt w3 g gl (⟨[], [], 0, false, A⟩ : RS).L := log_but (L := (⟨[], [], 0, false, A⟩ : RS).L) hk2 hb3 (by simp only [List.mem_cons, List.not_mem_nil, or_false]; omega)
  have hb03 := hb02.trans (hd2.down hb3)
  obtain ⟨s0, hs0⟩ : ∃ s, s = (⟨[], [], 0, false, A⟩ : RS) := ⟨_, rfl⟩
  have hsyn0 : s0.syn = 0 := by rw [hs0]; rfl
  have hhad0 : s0.had = [] := by rw [hs0]; rfl
  rw [← hs0] at hd3 hok3 hk3
  have Hsyn0 := Lib.hid hsyn0; have Hhad0 := Lib.hid hhad0
  clear hd2 hk2 hb02 hb3 hne0 hs0 hsyn0 hhad0
  go_wp2_with fail
  go_loopw [13, 14, 15] (fun v13 v14 v15 wr => ∃ (i : Nat) (s : RS) (hs : List ByS) (O : Nat → Prop), i ≤ ps.length ∧ i ≤ 100 ∧ v15 = .int .i64 i ∧ wr.ownsRow w.heap.size 23 1 v13 hs.length (hs.map ByS.v) ∧ (∀ p ∈ hs, ByOk w B p) ∧ Hid (dat hs = s.had) ∧ hs.length ≤ i ∧ v14 = .int .i64 s.syn ∧
      s.Ok A ∧ (∀ b, O b → w.heap.size ≤ b ∧ b ∉ v13.ownBlock.toList) ∧ DiskO O wr g mp s.d ∧ LogAt wr g gl s.L ∧ Below w.heap.size w wr) (fun _ _ i _ => ps.length - (intOf i).toNat)
  case atStart => exact ⟨0, s0, [], fun b => w.heap.size ≤ b, Nat.zero_le _, Nat.zero_le _, rfl, World.ownsRow_nil _ _ _ _, by simp, Lib.hid (by rw [Hhad0.out]; rfl), Nat.le_refl _, by rw [Hsyn0.out]; rfl, hok3, fun b hb => ⟨hb, by simp [Value.ownBlock]⟩, hd3.o, hk3, hb03⟩
  case round =>
    clear hd3 hk3 hok3 hb03 Hsyn0 Hhad0
    obtain ⟨i, s, hs, O, hi, hi100, rfl, hown, hby, Hhad, hsi, rfl, hok, hO, hd, hlog, hb⟩ := hrel
    obtain ⟨wo, rfl⟩ : ∃ wo : World, wo = wr := ⟨_, rfl⟩
    by_cases hlt : (i : Int) < ps.length ∧ (i : Int) < 100
    · obtain ⟨hlt1, hlt2⟩ := hlt
      have hil : i < ps.length := by omega
      obtain ⟨bp, op, rfl, hbp, hcp⟩ := (h0.below (hb.mono hB)).at_ hil
      have hpk0 := h0.all _ (List.getElem_mem hil)
      have hpk := (h0.below (hb.mono hB)).all _ (List.getElem_mem hil)
      obtain ⟨pk, hpke⟩ : ∃ p, p = ps[i] := ⟨_, rfl⟩
      rw [← hpke] at hcp hpk hpk0
      have hpl2 : pk.data.length ≤ 140737488351232 := by have := hpk.cap; have := hpk.room; omega
      have hlen40 := hok.len
      have hfg : (fget (walNm s.L.n) s.d.fs).1.length + 65550 ≤ 140737488355328 := by
        have h := s.get hok
        show (fget (walNm (s.G.length + 1)) (fsX s.G s.X)).1.length + 65550 ≤ _
        rw [h]
        have h2 := flat_len_le hok.smallC
        have h3 : s.C.length ≤ 100 := by
          have := congrArg List.length Hhad.out
          simp only [dat, List.length_map, RS.had, List.length_append] at this
          omega
        simp only
        have : 65550 * s.C.length ≤ 65550 * 100 := Nat.mul_le_mul_left _ h3
        omega
      clear hpke
      have hneO := hd.ne_own hown (by decide)
      have hneL := own_blk hown hlog (by decide)
      have hge := own_ge hown
      have hbs : B ≤ wo.heap.size := Nat.le_trans hB hb.size
      go_wp2_with fail
      refine (oLogApp O g mp gl s.d s.L wo pk.data pk.A pk.c B hd hlog (fun w' => vNm_small _ w' (by show (1 : Int) ≤ ((s.G.length + 1 : Nat) : Int); omega) (by show ((s.G.length + 1 : Nat) : Int) < 100; omega)) hpk.row hbs (by omega) hfg).mono ?_
      rintro e w4 ⟨rfl, hd4, hk4, hb4⟩
      have hown4 := own_but hown hb4 (fun q hq hm => by simp only [List.mem_cons, List.not_mem_nil, or_false] at hm; rcases hm with rfl | rfl | rfl <;> simp [hq] at hneO hneL)
      have hO4 : ∀ b, (O b ∨ wo.heap.size ≤ b) → w.heap.size ≤ b ∧ b ∉ (Value.ownBlock _).toList := fun b hb' => by
        rcases hb' with h | h
        · exact hO b h
        · exact ⟨by have := hb.size; omega, fun hm => by have := (hge b hm).2; omega⟩
      have hsub4 : ∀ q ∈ [g, mp, gl], w.heap.size ≤ q := fun q hq => by simp only [List.mem_cons, List.not_mem_nil, or_false] at hq; omega
      have hb04 := hb.trans (hb4.below hb.size hsub4)
      have hcp4 : w4.cell? ⟨bp, op + i, none⟩ = some (.slice pk.A pk.data.length pk.c) := (hb4.cell (p := ⟨bp, op + i, none⟩) (by show bp < _; omega) (fun hm => by have := hsub4 _ hm; have h9 : bp < w.heap.size := Nat.lt_of_lt_of_le hbp hB; simp only at this; omega)).trans hcp
      clear hown hd hlog hb hO hb4 hneO hneL hge hcp hpk hfg
      have hcase : (65536 < pk.data.length) ∨ (¬ 65536 < pk.data.length ∧ s.left = 0) ∨ (¬ 65536 < pk.data.length ∧ 0 < s.left) := by have := hok.lo; omega
      rcases hcase with hl | ⟨hl, hl0⟩ | ⟨hl, hl0⟩
      · rw [wt_long hl] at hd4 hk4 ⊢
        obtain ⟨s1, rfl⟩ : ∃ x, x = s := ⟨_, rfl⟩
        obtain ⟨hsL, rfl⟩ : ∃ x, x = hs := ⟨_, rfl⟩
        obtain ⟨O5, hO5e⟩ : ∃ o : Nat → Prop, o = fun b => O b ∨ wo.heap.size ≤ b := ⟨_, rfl⟩
        obtain ⟨w5, rfl⟩ : ∃ x, x = w4 := ⟨_, rfl⟩
        have hd5 : DiskO O5 w5 g mp s1.d := by rw [hO5e]; exact hd4
        have hk5 : LogAt w5 g gl s1.L := hk4
        have hown5 := hown4; have hb05 := hb04; have hok5 := hok; have Hhad5 := Hhad; have hby5 := hby
        obtain ⟨A13, c13, rfl, _⟩ := own_form hown5
        have hO5 : ∀ b, O5 b → w.heap.size ≤ b ∧ b ∉ (Value.slice A13 hsL.length c13).ownBlock.toList := by rw [hO5e]; exact hO4
        have hsi5 : hsL.length ≤ i + 1 := by omega
        clear hO4 hd4 hk4 hown4 hb04 hok Hhad hby hsi hl hcp4 hO5e
        go_upto_region 16 with fail
        have hne5 := hd5.ne_own hown5 (by decide)
        have hneL5 := own_blk hown5 hk5 (by decide)
        have hge5 := own_ge hown5
        have hlen5 := hok5.len
        have hO6 : ∀ b, (O5 b ∨ w5.heap.size ≤ b) → w.heap.size ≤ b ∧ b ∉ (Value.slice A13 hsL.length c13).ownBlock.toList := fun b hb' => by
          rcases hb' with h | h
          · exact hO5 b h
          · exact ⟨by have := hb05.size; omega, fun hm => by have := (hge5 b hm).2; omega⟩
        have hhl : hsL.length = s1.had.length := by have := congrArg List.length Hhad5.out; simpa [dat] using this
        have Hhl := Lib.hid hhl
        clear hhl
        by_cases hik : i < sy.length
        · obtain ⟨b1, o1, rfl, hb1', hc1⟩ := Row.byte (h1.below (hb05.mono hB)) rfl hik
          have hik1 : (i : Int) < sy.length := by omega
          obtain ⟨c, hc⟩ : ∃ c, c = (sy[i]'hik).toNat := ⟨_, rfl⟩
          have hc256 : c < 256 := by rw [hc]; exact (sy[i]'hik).toNat_lt
          rw [← hc] at hc1
          have hc256' : (c : Int) ≤ 255 := by omega
          clear hc
          rcases mod3 c with h30 | h31 | h32
          · have hz : ((c : Int) % 3 == 0) = true := by rw [beq_iff_eq]; omega
            clear h30
            go_wp2
            go_roundw
            case rel =>
              first
                | exact ⟨i + 1, s1, hsL, O5, by omega, by omega, by go_num, hown5, hby5, Hhad5, hsi5, rfl, hok5, hO5, hd5, hk5, hb05⟩
                | ((repeat apply Exists.intro); exact ⟨⟨i + 1, s1, hsL, O5, by omega, by omega, by go_num, hown5, hby5, Hhad5, hsi5, rfl, hok5, hO5, hd5, hk5, hb05⟩, rfl⟩)
            case measure => simp [intOf]; omega
          · have hz : ((c : Int) % 3 == 0) = false := by rw [beq_eq_false_iff_ne]; omega
            have hz2 : ((c : Int) % 3 == 2) = false := by rw [beq_eq_false_iff_ne]; omega
            clear h31
            cases hw : s1.wr with
            | false =>
              have hsq := RS.sync_no hw
              have hsyn := RS.no_syn hok5 hw
              have Hrn := Lib.hid (RS.rot_no hok5 hw)
              have Hsyn := Lib.hid hsyn
              have Hsq := Lib.hid hsq
              clear hsq hsyn hw
              go_wp2_with fail
              refine (oLogSync _ g mp gl s1.d s1.L w5 hd5 hk5 (fun w' => vNm_small _ w' (by show (1 : Int) ≤ ((s1.G.length + 1 : Nat) : Int); omega) (by show ((s1.G.length + 1 : Nat) : Int) < 100; omega))).mono ?_
              rintro e w6 ⟨rfl, hd6, hk6, hb6⟩
              have hown6 := own_but hown5 hb6 (fun q hq hm => by simp only [List.mem_cons, List.not_mem_nil, or_false] at hm; rcases hm with rfl | rfl | rfl <;> simp [hq] at hne5 hneL5)
              have hb06 := hb05.trans (hb6.below hb05.size hsub4)
              have hc6 : w6.cell? ⟨b1, o1 + i, none⟩ = some (.int .u8 c) := (hb6.cell (p := ⟨b1, o1 + i, none⟩) (by show b1 < _; have := hb05.size; omega) (fun hm => by have := hsub4 _ hm; simp only at this; omega)).trans hc1
              rw [Hsq.out] at hd6 ⊢
              clear hd5 hk5 hb05 hb6 hown5
              go_wp2
              go_roundw
              case rel =>
                first
                  | exact ⟨i + 1, s1, hsL, _, by omega, by omega, by go_num, hown6, hby5, Hhad5, hsi5, by rw [Hhl.out, Hsyn.out], hok5, hO6, hd6, hk6, hb06⟩
                  | ((repeat apply Exists.intro); exact ⟨⟨i + 1, s1, hsL, _, by omega, by omega, by go_num, hown6, hby5, Hhad5, hsi5, by rw [Hhl.out, Hsyn.out], hok5, hO6, hd6, hk6, hb06⟩, rfl⟩)
              case measure => simp [intOf]; omega
            | true =>
              by_cases hl0 : s1.left = 0
              · have Hsq := Lib.hid (RS.sync_down hok5 hw hl0)
                have hdn : s1.d.dn = true := decide_eq_true hl0
                have Hdn := Lib.hid hdn
                clear hw hl0 hdn
                go_wp2_with fail
                refine (oLogSync _ g mp gl s1.d s1.L w5 hd5 hk5 (fun w' => vNm_small _ w' (by show (1 : Int) ≤ ((s1.G.length + 1 : Nat) : Int); omega) (by show ((s1.G.length + 1 : Nat) : Int) < 100; omega))).mono ?_
                rintro e w6 ⟨rfl, hd6, hk6, hb6⟩
                have hown6 := own_but hown5 hb6 (fun q hq hm => by simp only [List.mem_cons, List.not_mem_nil, or_false] at hm; rcases hm with rfl | rfl | rfl <;> simp [hq] at hne5 hneL5)
                have hb06 := hb05.trans (hb6.below hb05.size hsub4)
                have hc6 : w6.cell? ⟨b1, o1 + i, none⟩ = some (.int .u8 c) := (hb6.cell (p := ⟨b1, o1 + i, none⟩) (by show b1 < _; have := hb05.size; omega) (fun hm => by have := hsub4 _ hm; simp only at this; omega)).trans hc1
                rw [Hsq.out] at hd6 ⊢
                go_wp2_with fail
                refine (oDown_calls _ g mp _ w6 hd6).mono ?_
                rintro e w7 ⟨rfl, hb7⟩
                rw [Hdn.out]
                have hd7 := hd6.below hb7
                have hk7 : LogAt w7 g gl s1.L := hk6.below hb7 hk6.lt
                have hown7 := own_below hown6 hb7
                have hb07 := hb06.trans (hb7.mono hb06.size)
                clear hd5 hk5 hb05 hb6 hown5 hd6 hk6 hb06 hb7 hown6
                go_wp2
                go_roundw
                case rel =>
                  first
                    | exact ⟨i + 1, s1, hsL, _, by omega, by omega, by go_num, hown7, hby5, Hhad5, hsi5, rfl, hok5, hO6, hd7, hk7, hb07⟩
                    | ((repeat apply Exists.intro); exact ⟨⟨i + 1, s1, hsL, _, by omega, by omega, by go_num, hown7, hby5, Hhad5, hsi5, rfl, hok5, hO6, hd7, hk7, hb07⟩, rfl⟩)
                case measure => simp [intOf]; omega
              · have hlp : 0 < s1.left := by have := hok5.lo; omega
                obtain ⟨hsq, hok6, hLs⟩ := RS.sync_eq hok5 hw hlp
                have Hsy := Lib.hid (RS.sync_syn s1)
                have Hsq := Lib.hid hsq; have HLs := Lib.hid hLs
                clear hsq hLs hw hl0 hlp
                go_wp2_with fail
                refine (oLogSync _ g mp gl s1.d s1.L w5 hd5 hk5 (fun w' => vNm_small _ w' (by show (1 : Int) ≤ ((s1.G.length + 1 : Nat) : Int); omega) (by show ((s1.G.length + 1 : Nat) : Int) < 100; omega))).mono ?_
                rintro e w6 ⟨rfl, hd6, hk6, hb6⟩
                have hown6 := own_but hown5 hb6 (fun q hq hm => by simp only [List.mem_cons, List.not_mem_nil, or_false] at hm; rcases hm with rfl | rfl | rfl <;> simp [hq] at hne5 hneL5)
                have hb06 := hb05.trans (hb6.below hb05.size hsub4)
                have hc6 : w6.cell? ⟨b1, o1 + i, none⟩ = some (.int .u8 c) := (hb6.cell (p := ⟨b1, o1 + i, none⟩) (by show b1 < _; have := hb05.size; omega) (fun hm => by have := hsub4 _ hm; simp only at this; omega)).trans hc1
                rw [Hsq.out] at hd6 ⊢
                have hk6' : LogAt w6 g gl (s1.sync).L := by rw [HLs.out]; exact hk6
                clear hd5 hk5 hb05 hb6 hown5
                go_wp2
                go_roundw
                case rel =>
                  first
                    | exact ⟨i + 1, s1.sync, hsL, _, by omega, by omega, by go_num, hown6, hby5, Lib.hid (by rw [Hsy.out.2]; exact Hhad5.out), hsi5, by rw [Hsy.out.1, Hsy.out.2, Hhl.out], hok6, hO6, hd6, hk6', hb06⟩
                    | ((repeat apply Exists.intro); exact ⟨⟨i + 1, s1.sync, hsL, _, by omega, by omega, by go_num, hown6, hby5, Lib.hid (by rw [Hsy.out.2]; exact Hhad5.out), hsi5, by rw [Hsy.out.1, Hsy.out.2, Hhl.out], hok6, hO6, hd6, hk6', hb06⟩, rfl⟩)
                case measure => simp [intOf]; omega
          · have hz : ((c : Int) % 3 == 0) = false := by rw [beq_eq_false_iff_ne]; omega
            have hz2 : ((c : Int) % 3 == 2) = true := by rw [beq_iff_eq]; omega
            clear h32
            cases hw : s1.wr with
            | false =>
              have hsq := RS.sync_no hw
              have hsyn := RS.no_syn hok5 hw
              have Hrn := Lib.hid (RS.rot_no hok5 hw)
              have Hsyn := Lib.hid hsyn
              have Hsq := Lib.hid hsq
              clear hsq hsyn hw
              go_wp2_with fail
              refine (oLogSync _ g mp gl s1.d s1.L w5 hd5 hk5 (fun w' => vNm_small _ w' (by show (1 : Int) ≤ ((s1.G.length + 1 : Nat) : Int); omega) (by show ((s1.G.length + 1 : Nat) : Int) < 100; omega))).mono ?_
              rintro e w6 ⟨rfl, hd6, hk6, hb6⟩
              have hown6 := own_but hown5 hb6 (fun q hq hm => by simp only [List.mem_cons, List.not_mem_nil, or_false] at hm; rcases hm with rfl | rfl | rfl <;> simp [hq] at hne5 hneL5)
              have hb06 := hb05.trans (hb6.below hb05.size hsub4)
              have hc6 : w6.cell? ⟨b1, o1 + i, none⟩ = some (.int .u8 c) := (hb6.cell (p := ⟨b1, o1 + i, none⟩) (by show b1 < _; have := hb05.size; omega) (fun hm => by have := hsub4 _ hm; simp only at this; omega)).trans hc1
              rw [Hsq.out] at hd6 ⊢
              have hne6 := hd6.ne_own hown6 (by decide)
              have hneL6 := own_blk hown6 hk6 (by decide)
              have hge6 := own_ge hown6
              go_wp2_with fail
              refine (oLogRot _ g mp gl s1.d s1.L w6 hd6 hk6 (by show s1.G.length + 1 ≤ 1000000000; omega)).mono ?_
              rintro e w7 ⟨rfl, hd7, hk7, hb7⟩
              have hown7 := own_but hown6 hb7 (fun q hq hm => by simp only [List.mem_cons, List.not_mem_nil, or_false] at hm; subst hm; simp [hq] at hneL6)
              have hb07 := hb06.trans (hb7.below hb06.size (fun q hq => hsub4 q (by simp only [List.mem_cons, List.not_mem_nil, or_false] at hq ⊢; omega)))
              have hO7 : ∀ b, ((O5 b ∨ w5.heap.size ≤ b) ∨ w6.heap.size ≤ b) → w.heap.size ≤ b ∧ b ∉ (Value.slice A13 hsL.length c13).ownBlock.toList := fun b hb' => by
                rcases hb' with h | h
                · exact hO6 b h
                · exact ⟨by have := hb06.size; omega, fun hm => by have := (hge6 b hm).2; omega⟩
              rw [Hrn.out] at hk7 ⊢
              clear hd5 hk5 hb05 hb6 hown5 hd6 hk6 hb06 hb7 hown6
              go_wp2
              go_roundw
              case rel =>
                first
                  | exact ⟨i + 1, s1, hsL, _, by omega, by omega, by go_num, hown7, hby5, Hhad5, hsi5, by rw [Hhl.out, Hsyn.out], hok5, hO7, hd7, hk7, hb07⟩
                  | ((repeat apply Exists.intro); exact ⟨⟨i + 1, s1, hsL, _, by omega, by omega, by go_num, hown7, hby5, Hhad5, hsi5, by rw [Hhl.out, Hsyn.out], hok5, hO7, hd7, hk7, hb07⟩, rfl⟩)
              case measure => simp [intOf]; omega
            | true =>
              by_cases hl0 : s1.left = 0
              · have Hsq := Lib.hid (RS.sync_down hok5 hw hl0)
                have hdn : s1.d.dn = true := decide_eq_true hl0
                have Hdn := Lib.hid hdn
                clear hw hl0 hdn
                go_wp2_with fail
                refine (oLogSync _ g mp gl s1.d s1.L w5 hd5 hk5 (fun w' => vNm_small _ w' (by show (1 : Int) ≤ ((s1.G.length + 1 : Nat) : Int); omega) (by show ((s1.G.length + 1 : Nat) : Int) < 100; omega))).mono ?_
                rintro e w6 ⟨rfl, hd6, hk6, hb6⟩
                have hown6 := own_but hown5 hb6 (fun q hq hm => by simp only [List.mem_cons, List.not_mem_nil, or_false] at hm; rcases hm with rfl | rfl | rfl <;> simp [hq] at hne5 hneL5)
                have hb06 := hb05.trans (hb6.below hb05.size hsub4)
                have hc6 : w6.cell? ⟨b1, o1 + i, none⟩ = some (.int .u8 c) := (hb6.cell (p := ⟨b1, o1 + i, none⟩) (by show b1 < _; have := hb05.size; omega) (fun hm => by have := hsub4 _ hm; simp only at this; omega)).trans hc1
                rw [Hsq.out] at hd6 ⊢
                go_wp2_with fail
                refine (oDown_calls _ g mp _ w6 hd6).mono ?_
                rintro e w7 ⟨rfl, hb7⟩
                rw [Hdn.out]
                have hd7 := hd6.below hb7
                have hk7 : LogAt w7 g gl s1.L := hk6.below hb7 hk6.lt
                have hown7 := own_below hown6 hb7
                have hb07 := hb06.trans (hb7.mono hb06.size)
                clear hd5 hk5 hb05 hb6 hown5 hd6 hk6 hb06 hb7 hown6
                go_wp2
                go_roundw
                case rel =>
                  first
                    | exact ⟨i + 1, s1, hsL, _, by omega, by omega, by go_num, hown7, hby5, Hhad5, hsi5, rfl, hok5, hO6, hd7, hk7, hb07⟩
                    | ((repeat apply Exists.intro); exact ⟨⟨i + 1, s1, hsL, _, by omega, by omega, by go_num, hown7, hby5, Hhad5, hsi5, rfl, hok5, hO6, hd7, hk7, hb07⟩, rfl⟩)
                case measure => simp [intOf]; omega
              · have hlp : 0 < s1.left := by have := hok5.lo; omega
                obtain ⟨hsq, hok6, hLs⟩ := RS.sync_eq hok5 hw hlp
                have Hsy := Lib.hid (RS.sync_syn s1)
                have Hrot := Lib.hid (RS.rot_eq hok6 hok5 hw)
                have Hsq := Lib.hid hsq; have HLs := Lib.hid hLs
                clear hsq hLs hw hl0 hlp
                go_wp2_with fail
                refine (oLogSync _ g mp gl s1.d s1.L w5 hd5 hk5 (fun w' => vNm_small _ w' (by show (1 : Int) ≤ ((s1.G.length + 1 : Nat) : Int); omega) (by show ((s1.G.length + 1 : Nat) : Int) < 100; omega))).mono ?_
                rintro e w6 ⟨rfl, hd6, hk6, hb6⟩
                have hown6 := own_but hown5 hb6 (fun q hq hm => by simp only [List.mem_cons, List.not_mem_nil, or_false] at hm; rcases hm with rfl | rfl | rfl <;> simp [hq] at hne5 hneL5)
                have hb06 := hb05.trans (hb6.below hb05.size hsub4)
                have hc6 : w6.cell? ⟨b1, o1 + i, none⟩ = some (.int .u8 c) := (hb6.cell (p := ⟨b1, o1 + i, none⟩) (by show b1 < _; have := hb05.size; omega) (fun hm => by have := hsub4 _ hm; simp only at this; omega)).trans hc1
                rw [Hsq.out] at hd6 ⊢
                have hk6' : LogAt w6 g gl (s1.sync).L := by rw [HLs.out]; exact hk6
                have hne6 := hd6.ne_own hown6 (by decide)
                have hneL6 := own_blk hown6 hk6' (by decide)
                have hge6 := own_ge hown6
                go_wp2_with fail
                refine (oLogRot _ g mp gl (s1.sync).d (s1.sync).L w6 hd6 hk6' (by show s1.G.length + 1 ≤ 1000000000; omega)).mono ?_
                rintro e w7 ⟨rfl, hd7, hk7, hb7⟩
                have hown7 := own_but hown6 hb7 (fun q hq hm => by simp only [List.mem_cons, List.not_mem_nil, or_false] at hm; subst hm; simp [hq] at hneL6)
                have hb07 := hb06.trans (hb7.below hb06.size (fun q hq => hsub4 q (by simp only [List.mem_cons, List.not_mem_nil, or_false] at hq ⊢; omega)))
                have hO7 : ∀ b, ((O5 b ∨ w5.heap.size ≤ b) ∨ w6.heap.size ≤ b) → w.heap.size ≤ b ∧ b ∉ (Value.slice A13 hsL.length c13).ownBlock.toList := fun b hb' => by
                  rcases hb' with h | h
                  · exact hO6 b h
                  · exact ⟨by have := hb06.size; omega, fun hm => by have := (hge6 b hm).2; omega⟩
                rw [Hrot.out.1] at hk7 ⊢
                rw [← Hrot.out.2.1] at hd7
                clear hd5 hk5 hb05 hb6 hown5 hd6 hk6 hb06 hb7 hown6
                go_wp2
                go_roundw
                case rel =>
                  first
                    | exact ⟨i + 1, (s1.sync).rot, hsL, _, by omega, by omega, by go_num, hown7, hby5, Lib.hid (by rw [Hrot.out.2.2.2.1]; exact Hhad5.out), hsi5, by rw [Hrot.out.2.2.2.2, Hhl.out], Hrot.out.2.2.1, hO7, hd7, hk7, hb07⟩
                    | ((repeat apply Exists.intro); exact ⟨⟨i + 1, (s1.sync).rot, hsL, _, by omega, by omega, by go_num, hown7, hby5, Lib.hid (by rw [Hrot.out.2.2.2.1]; exact Hhad5.out), hsi5, by rw [Hrot.out.2.2.2.2, Hhl.out], Hrot.out.2.2.1, hO7, hd7, hk7, hb07⟩, rfl⟩)
                case measure => simp [intOf]; omega
        · have hik1 : ¬ (i : Int) < sy.length := by omega
          have hik2 : (sy.length : Int) ≤ i := by omega
          go_wp2
          go_roundw
          case rel =>
            first
              | exact ⟨i + 1, s1, hsL, O5, by omega, by omega, by go_num, hown5, hby5, Hhad5, hsi5, rfl, hok5, hO5, hd5, hk5, hb05⟩
              | ((repeat apply Exists.intro); exact ⟨⟨i + 1, s1, hsL, O5, by omega, by omega, by go_num, hown5, hby5, Hhad5, hsi5, rfl, hok5, hO5, hd5, hk5, hb05⟩, rfl⟩)
          case measure => simp [intOf]; omega
      · rw [RS.app_down hok hl hl0] at hd4 hk4 ⊢
        go_wp2_with fail
        refine (oDown_calls _ g mp _ w4 hd4).mono ?_
        rintro e w5 ⟨rfl, hb5⟩
        have hdn : s.d.dn = true := decide_eq_true hl0
        rw [hdn]
        obtain ⟨s1, rfl⟩ : ∃ x, x = s := ⟨_, rfl⟩
        obtain ⟨hsL, rfl⟩ : ∃ x, x = hs := ⟨_, rfl⟩
        obtain ⟨O5, hO5e⟩ : ∃ o : Nat → Prop, o = fun b => O b ∨ wo.heap.size ≤ b := ⟨_, rfl⟩
        have hd5 : DiskO O5 w5 g mp s1.d := by rw [hO5e]; exact hd4.below hb5
        have hk5 : LogAt w5 g gl s1.L := hk4.below hb5 hk4.lt
        have hown5 := own_below hown4 hb5; have hb05 := hb04.trans (hb5.mono hb04.size); have hok5 := hok; have Hhad5 := Hhad; have hby5 := hby
        obtain ⟨A13, c13, rfl, _⟩ := own_form hown5
        have hO5 : ∀ b, O5 b → w.heap.size ≤ b ∧ b ∉ (Value.slice A13 hsL.length c13).ownBlock.toList := by rw [hO5e]; exact hO4
        have hsi5 : hsL.length ≤ i + 1 := by omega
        clear hO4 hd4 hk4 hown4 hb04 hok Hhad hby hsi hl hl0 hb5 hdn hcp4 hO5e
        go_upto_region 16 with fail
        have hne5 := hd5.ne_own hown5 (by decide)
        have hneL5 := own_blk hown5 hk5 (by decide)
        have hge5 := own_ge hown5
        have hlen5 := hok5.len
        have hO6 : ∀ b, (O5 b ∨ w5.heap.size ≤ b) → w.heap.size ≤ b ∧ b ∉ (Value.slice A13 hsL.length c13).ownBlock.toList := fun b hb' => by
          rcases hb' with h | h
          · exact hO5 b h
          · exact ⟨by have := hb05.size; omega, fun hm => by have := (hge5 b hm).2; omega⟩
        have hhl : hsL.length = s1.had.length := by have := congrArg List.length Hhad5.out; simpa [dat] using this
        have Hhl := Lib.hid hhl
        clear hhl
        by_cases hik : i < sy.length
        · obtain ⟨b1, o1, rfl, hb1', hc1⟩ := Row.byte (h1.below (hb05.mono hB)) rfl hik
          have hik1 : (i : Int) < sy.length := by omega
          obtain ⟨c, hc⟩ : ∃ c, c = (sy[i]'hik).toNat := ⟨_, rfl⟩
          have hc256 : c < 256 := by rw [hc]; exact (sy[i]'hik).toNat_lt
          rw [← hc] at hc1
          have hc256' : (c : Int) ≤ 255 := by omega
          clear hc
          rcases mod3 c with h30 | h31 | h32
          · have hz : ((c : Int) % 3 == 0) = true := by rw [beq_iff_eq]; omega
            clear h30
            go_wp2
            go_roundw
            case rel =>
              first
                | exact ⟨i + 1, s1, hsL, O5, by omega, by omega, by go_num, hown5, hby5, Hhad5, hsi5, rfl, hok5, hO5, hd5, hk5, hb05⟩
                | ((repeat apply Exists.intro); exact ⟨⟨i + 1, s1, hsL, O5, by omega, by omega, by go_num, hown5, hby5, Hhad5, hsi5, rfl, hok5, hO5, hd5, hk5, hb05⟩, rfl⟩)
            case measure => simp [intOf]; omega
          · have hz : ((c : Int) % 3 == 0) = false := by rw [beq_eq_false_iff_ne]; omega
            have hz2 : ((c : Int) % 3 == 2) = false := by rw [beq_eq_false_iff_ne]; omega
            clear h31
            cases hw : s1.wr with
            | false =>
              have hsq := RS.sync_no hw
              have hsyn := RS.no_syn hok5 hw
              have Hrn := Lib.hid (RS.rot_no hok5 hw)
              have Hsyn := Lib.hid hsyn
              have Hsq := Lib.hid hsq
              clear hsq hsyn hw
              go_wp2_with fail
              refine (oLogSync _ g mp gl s1.d s1.L w5 hd5 hk5 (fun w' => vNm_small _ w' (by show (1 : Int) ≤ ((s1.G.length + 1 : Nat) : Int); omega) (by show ((s1.G.length + 1 : Nat) : Int) < 100; omega))).mono ?_
              rintro e w6 ⟨rfl, hd6, hk6, hb6⟩
              have hown6 := own_but hown5 hb6 (fun q hq hm => by simp only [List.mem_cons, List.not_mem_nil, or_false] at hm; rcases hm with rfl | rfl | rfl <;> simp [hq] at hne5 hneL5)
              have hb06 := hb05.trans (hb6.below hb05.size hsub4)
              have hc6 : w6.cell? ⟨b1, o1 + i, none⟩ = some (.int .u8 c) := (hb6.cell (p := ⟨b1, o1 + i, none⟩) (by show b1 < _; have := hb05.size; omega) (fun hm => by have := hsub4 _ hm; simp only at this; omega)).trans hc1
              rw [Hsq.out] at hd6 ⊢
              clear hd5 hk5 hb05 hb6 hown5
              go_wp2
              go_roundw
              case rel =>
                first
                  | exact ⟨i + 1, s1, hsL, _, by omega, by omega, by go_num, hown6, hby5, Hhad5, hsi5, by rw [Hhl.out, Hsyn.out], hok5, hO6, hd6, hk6, hb06⟩
                  | ((repeat apply Exists.intro); exact ⟨⟨i + 1, s1, hsL, _, by omega, by omega, by go_num, hown6, hby5, Hhad5, hsi5, by rw [Hhl.out, Hsyn.out], hok5, hO6, hd6, hk6, hb06⟩, rfl⟩)
              case measure => simp [intOf]; omega
            | true =>
              by_cases hl0 : s1.left = 0
              · have Hsq := Lib.hid (RS.sync_down hok5 hw hl0)
                have hdn : s1.d.dn = true := decide_eq_true hl0
                have Hdn := Lib.hid hdn
                clear hw hl0 hdn
                go_wp2_with fail
                refine (oLogSync _ g mp gl s1.d s1.L w5 hd5 hk5 (fun w' => vNm_small _ w' (by show (1 : Int) ≤ ((s1.G.length + 1 : Nat) : Int); omega) (by show ((s1.G.length + 1 : Nat) : Int) < 100; omega))).mono ?_
                rintro e w6 ⟨rfl, hd6, hk6, hb6⟩
                have hown6 := own_but hown5 hb6 (fun q hq hm => by simp only [List.mem_cons, List.not_mem_nil, or_false] at hm; rcases hm with rfl | rfl | rfl <;> simp [hq] at hne5 hneL5)
                have hb06 := hb05.trans (hb6.below hb05.size hsub4)
                have hc6 : w6.cell? ⟨b1, o1 + i, none⟩ = some (.int .u8 c) := (hb6.cell (p := ⟨b1, o1 + i, none⟩) (by show b1 < _; have := hb05.size; omega) (fun hm => by have := hsub4 _ hm; simp only at this; omega)).trans hc1
                rw [Hsq.out] at hd6 ⊢
                go_wp2_with fail
                refine (oDown_calls _ g mp _ w6 hd6).mono ?_
                rintro e w7 ⟨rfl, hb7⟩
                rw [Hdn.out]
                have hd7 := hd6.below hb7
                have hk7 : LogAt w7 g gl s1.L := hk6.below hb7 hk6.lt
                have hown7 := own_below hown6 hb7
                have hb07 := hb06.trans (hb7.mono hb06.size)
                clear hd5 hk5 hb05 hb6 hown5 hd6 hk6 hb06 hb7 hown6
                go_wp2
                go_roundw
                case rel =>
                  first
                    | exact ⟨i + 1, s1, hsL, _, by omega, by omega, by go_num, hown7, hby5, Hhad5, hsi5, rfl, hok5, hO6, hd7, hk7, hb07⟩
                    | ((repeat apply Exists.intro); exact ⟨⟨i + 1, s1, hsL, _, by omega, by omega, by go_num, hown7, hby5, Hhad5, hsi5, rfl, hok5, hO6, hd7, hk7, hb07⟩, rfl⟩)
                case measure => simp [intOf]; omega
              · have hlp : 0 < s1.left := by have := hok5.lo; omega
                obtain ⟨hsq, hok6, hLs⟩ := RS.sync_eq hok5 hw hlp
                have Hsy := Lib.hid (RS.sync_syn s1)
                have Hsq := Lib.hid hsq; have HLs := Lib.hid hLs
                clear hsq hLs hw hl0 hlp
                go_wp2_with fail
                refine (oLogSync _ g mp gl s1.d s1.L w5 hd5 hk5 (fun w' => vNm_small _ w' (by show (1 : Int) ≤ ((s1.G.length + 1 : Nat) : Int); omega) (by show ((s1.G.length + 1 : Nat) : Int) < 100; omega))).mono ?_
                rintro e w6 ⟨rfl, hd6, hk6, hb6⟩
                have hown6 := own_but hown5 hb6 (fun q hq hm => by simp only [List.mem_cons, List.not_mem_nil, or_false] at hm; rcases hm with rfl | rfl | rfl <;> simp [hq] at hne5 hneL5)
                have hb06 := hb05.trans (hb6.below hb05.size hsub4)
                have hc6 : w6.cell? ⟨b1, o1 + i, none⟩ = some (.int .u8 c) := (hb6.cell (p := ⟨b1, o1 + i, none⟩) (by show b1 < _; have := hb05.size; omega) (fun hm => by have := hsub4 _ hm; simp only at this; omega)).trans hc1
                rw [Hsq.out] at hd6 ⊢
                have hk6' : LogAt w6 g gl (s1.sync).L := by rw [HLs.out]; exact hk6
                clear hd5 hk5 hb05 hb6 hown5
                go_wp2
                go_roundw
                case rel =>
                  first
                    | exact ⟨i + 1, s1.sync, hsL, _, by omega, by omega, by go_num, hown6, hby5, Lib.hid (by rw [Hsy.out.2]; exact Hhad5.out), hsi5, by rw [Hsy.out.1, Hsy.out.2, Hhl.out], hok6, hO6, hd6, hk6', hb06⟩
                    | ((repeat apply Exists.intro); exact ⟨⟨i + 1, s1.sync, hsL, _, by omega, by omega, by go_num, hown6, hby5, Lib.hid (by rw [Hsy.out.2]; exact Hhad5.out), hsi5, by rw [Hsy.out.1, Hsy.out.2, Hhl.out], hok6, hO6, hd6, hk6', hb06⟩, rfl⟩)
                case measure => simp [intOf]; omega
          · have hz : ((c : Int) % 3 == 0) = false := by rw [beq_eq_false_iff_ne]; omega
            have hz2 : ((c : Int) % 3 == 2) = true := by rw [beq_iff_eq]; omega
            clear h32
            cases hw : s1.wr with
            | false =>
              have hsq := RS.sync_no hw
              have hsyn := RS.no_syn hok5 hw
              have Hrn := Lib.hid (RS.rot_no hok5 hw)
              have Hsyn := Lib.hid hsyn
              have Hsq := Lib.hid hsq
              clear hsq hsyn hw
              go_wp2_with fail
              refine (oLogSync _ g mp gl s1.d s1.L w5 hd5 hk5 (fun w' => vNm_small _ w' (by show (1 : Int) ≤ ((s1.G.length + 1 : Nat) : Int); omega) (by show ((s1.G.length + 1 : Nat) : Int) < 100; omega))).mono ?_
              rintro e w6 ⟨rfl, hd6, hk6, hb6⟩
              have hown6 := own_but hown5 hb6 (fun q hq hm => by simp only [List.mem_cons, List.not_mem_nil, or_false] at hm; rcases hm with rfl | rfl | rfl <;> simp [hq] at hne5 hneL5)
              have hb06 := hb05.trans (hb6.below hb05.size hsub4)
              have hc6 : w6.cell? ⟨b1, o1 + i, none⟩ = some (.int .u8 c) := (hb6.cell (p := ⟨b1, o1 + i, none⟩) (by show b1 < _; have := hb05.size; omega) (fun hm => by have := hsub4 _ hm; simp only at this; omega)).trans hc1
              rw [Hsq.out] at hd6 ⊢
              have hne6 := hd6.ne_own hown6 (by decide)
              have hneL6 := own_blk hown6 hk6 (by decide)
              have hge6 := own_ge hown6
              go_wp2_with fail
              refine (oLogRot _ g mp gl s1.d s1.L w6 hd6 hk6 (by show s1.G.length + 1 ≤ 1000000000; omega)).mono ?_
              rintro e w7 ⟨rfl, hd7, hk7, hb7⟩
              have hown7 := own_but hown6 hb7 (fun q hq hm => by simp only [List.mem_cons, List.not_mem_nil, or_false] at hm; subst hm; simp [hq] at hneL6)
              have hb07 := hb06.trans (hb7.below hb06.size (fun q hq => hsub4 q (by simp only [List.mem_cons, List.not_mem_nil, or_false] at hq ⊢; omega)))
              have hO7 : ∀ b, ((O5 b ∨ w5.heap.size ≤ b) ∨ w6.heap.size ≤ b) → w.heap.size ≤ b ∧ b ∉ (Value.slice A13 hsL.length c13).ownBlock.toList := fun b hb' => by
                rcases hb' with h | h
                · exact hO6 b h
                · exact ⟨by have := hb06.size; omega, fun hm => by have := (hge6 b hm).2; omega⟩
              rw [Hrn.out] at hk7 ⊢
              clear hd5 hk5 hb05 hb6 hown5 hd6 hk6 hb06 hb7 hown6
              go_wp2
              go_roundw
              case rel =>
                first
                  | exact ⟨i + 1, s1, hsL, _, by omega, by omega, by go_num, hown7, hby5, Hhad5, hsi5, by rw [Hhl.out, Hsyn.out], hok5, hO7, hd7, hk7, hb07⟩
                  | ((repeat apply Exists.intro); exact ⟨⟨i + 1, s1, hsL, _, by omega, by omega, by go_num, hown7, hby5, Hhad5, hsi5, by rw [Hhl.out, Hsyn.out], hok5, hO7, hd7, hk7, hb07⟩, rfl⟩)
              case measure => simp [intOf]; omega
            | true =>
              by_cases hl0 : s1.left = 0
              · have Hsq := Lib.hid (RS.sync_down hok5 hw hl0)
                have hdn : s1.d.dn = true := decide_eq_true hl0
                have Hdn := Lib.hid hdn
                clear hw hl0 hdn
                go_wp2_with fail
                refine (oLogSync _ g mp gl s1.d s1.L w5 hd5 hk5 (fun w' => vNm_small _ w' (by show (1 : Int) ≤ ((s1.G.length + 1 : Nat) : Int); omega) (by show ((s1.G.length + 1 : Nat) : Int) < 100; omega))).mono ?_
                rintro e w6 ⟨rfl, hd6, hk6, hb6⟩
                have hown6 := own_but hown5 hb6 (fun q hq hm => by simp only [List.mem_cons, List.not_mem_nil, or_false] at hm; rcases hm with rfl | rfl | rfl <;> simp [hq] at hne5 hneL5)
                have hb06 := hb05.trans (hb6.below hb05.size hsub4)
                have hc6 : w6.cell? ⟨b1, o1 + i, none⟩ = some (.int .u8 c) := (hb6.cell (p := ⟨b1, o1 + i, none⟩) (by show b1 < _; have := hb05.size; omega) (fun hm => by have := hsub4 _ hm; simp only at this; omega)).trans hc1
                rw [Hsq.out] at hd6 ⊢
                go_wp2_with fail
                refine (oDown_calls _ g mp _ w6 hd6).mono ?_
                rintro e w7 ⟨rfl, hb7⟩
                rw [Hdn.out]
                have hd7 := hd6.below hb7
                have hk7 : LogAt w7 g gl s1.L := hk6.below hb7 hk6.lt
                have hown7 := own_below hown6 hb7
                have hb07 := hb06.trans (hb7.mono hb06.size)
                clear hd5 hk5 hb05 hb6 hown5 hd6 hk6 hb06 hb7 hown6
                go_wp2
                go_roundw
                case rel =>
                  first
                    | exact ⟨i + 1, s1, hsL, _, by omega, by omega, by go_num, hown7, hby5, Hhad5, hsi5, rfl, hok5, hO6, hd7, hk7, hb07⟩
                    | ((repeat apply Exists.intro); exact ⟨⟨i + 1, s1, hsL, _, by omega, by omega, by go_num, hown7, hby5, Hhad5, hsi5, rfl, hok5, hO6, hd7, hk7, hb07⟩, rfl⟩)
                case measure => simp [intOf]; omega
              · have hlp : 0 < s1.left := by have := hok5.lo; omega
                obtain ⟨hsq, hok6, hLs⟩ := RS.sync_eq hok5 hw hlp
                have Hsy := Lib.hid (RS.sync_syn s1)
                have Hrot := Lib.hid (RS.rot_eq hok6 hok5 hw)
                have Hsq := Lib.hid hsq; have HLs := Lib.hid hLs
                clear hsq hLs hw hl0 hlp
                go_wp2_with fail
                refine (oLogSync _ g mp gl s1.d s1.L w5 hd5 hk5 (fun w' => vNm_small _ w' (by show (1 : Int) ≤ ((s1.G.length + 1 : Nat) : Int); omega) (by show ((s1.G.length + 1 : Nat) : Int) < 100; omega))).mono ?_
                rintro e w6 ⟨rfl, hd6, hk6, hb6⟩
                have hown6 := own_but hown5 hb6 (fun q hq hm => by simp only [List.mem_cons, List.not_mem_nil, or_false] at hm; rcases hm with rfl | rfl | rfl <;> simp [hq] at hne5 hneL5)
                have hb06 := hb05.trans (hb6.below hb05.size hsub4)
                have hc6 : w6.cell? ⟨b1, o1 + i, none⟩ = some (.int .u8 c) := (hb6.cell (p := ⟨b1, o1 + i, none⟩) (by show b1 < _; have := hb05.size; omega) (fun hm => by have := hsub4 _ hm; simp only at this; omega)).trans hc1
                rw [Hsq.out] at hd6 ⊢
                have hk6' : LogAt w6 g gl (s1.sync).L := by rw [HLs.out]; exact hk6
                have hne6 := hd6.ne_own hown6 (by decide)
                have hneL6 := own_blk hown6 hk6' (by decide)
                have hge6 := own_ge hown6
                go_wp2_with fail
                refine (oLogRot _ g mp gl (s1.sync).d (s1.sync).L w6 hd6 hk6' (by show s1.G.length + 1 ≤ 1000000000; omega)).mono ?_
                rintro e w7 ⟨rfl, hd7, hk7, hb7⟩
                have hown7 := own_but hown6 hb7 (fun q hq hm => by simp only [List.mem_cons, List.not_mem_nil, or_false] at hm; subst hm; simp [hq] at hneL6)
                have hb07 := hb06.trans (hb7.below hb06.size (fun q hq => hsub4 q (by simp only [List.mem_cons, List.not_mem_nil, or_false] at hq ⊢; omega)))
                have hO7 : ∀ b, ((O5 b ∨ w5.heap.size ≤ b) ∨ w6.heap.size ≤ b) → w.heap.size ≤ b ∧ b ∉ (Value.slice A13 hsL.length c13).ownBlock.toList := fun b hb' => by
                  rcases hb' with h | h
                  · exact hO6 b h
                  · exact ⟨by have := hb06.size; omega, fun hm => by have := (hge6 b hm).2; omega⟩
                rw [Hrot.out.1] at hk7 ⊢
                rw [← Hrot.out.2.1] at hd7
                clear hd5 hk5 hb05 hb6 hown5 hd6 hk6 hb06 hb7 hown6
                go_wp2
                go_roundw
                case rel =>
                  first
                    | exact ⟨i + 1, (s1.sync).rot, hsL, _, by omega, by omega, by go_num, hown7, hby5, Lib.hid (by rw [Hrot.out.2.2.2.1]; exact Hhad5.out), hsi5, by rw [Hrot.out.2.2.2.2, Hhl.out], Hrot.out.2.2.1, hO7, hd7, hk7, hb07⟩
                    | ((repeat apply Exists.intro); exact ⟨⟨i + 1, (s1.sync).rot, hsL, _, by omega, by omega, by go_num, hown7, hby5, Lib.hid (by rw [Hrot.out.2.2.2.1]; exact Hhad5.out), hsi5, by rw [Hrot.out.2.2.2.2, Hhl.out], Hrot.out.2.2.1, hO7, hd7, hk7, hb07⟩, rfl⟩)
                case measure => simp [intOf]; omega
        · have hik1 : ¬ (i : Int) < sy.length := by omega
          have hik2 : (sy.length : Int) ≤ i := by omega
          go_wp2
          go_roundw
          case rel =>
            first
              | exact ⟨i + 1, s1, hsL, O5, by omega, by omega, by go_num, hown5, hby5, Hhad5, hsi5, rfl, hok5, hO5, hd5, hk5, hb05⟩
              | ((repeat apply Exists.intro); exact ⟨⟨i + 1, s1, hsL, O5, by omega, by omega, by go_num, hown5, hby5, Hhad5, hsi5, rfl, hok5, hO5, hd5, hk5, hb05⟩, rfl⟩)
          case measure => simp [intOf]; omega
      · obtain ⟨happ, hok5⟩ := RS.app_eq hok hl hl0
        rw [happ] at hd4 hk4 ⊢
        have hs04 := hb04.size
        have hneO4 := hd4.ne_own hown4 (by decide)
        have hneL4 := own_blk hown4 hk4 (by decide)
        have hge4 := own_ge hown4
        clear happ hl hl0
        go_upto_region 14 with (at_builtin; refine wpList_app _ rfl rowsE rfl rfl (hown4.alloc _) rfl (row_new w4 _ [_]) (by simp [Value.oneCell']) (by simp; omega) (by simp; omega) ?_; intro v5 w5 hown5 hg5 hb5 hx5)
        have hbX : Below w4.heap.size w4 (w4.alloc (.cells #[.slice pk.A pk.data.length pk.c] 23)) := (Below.refl _ _).alloc (Nat.le_refl _) _
        have hg5' : (w4.alloc (.cells #[.slice pk.A pk.data.length pk.c] 23)).grownBy w5 (Value.ownBlock _) := hg5
        have hbut := But.grown (S := (Value.ownBlock _).toList) hg5' (fun q hq => by rw [hq]; simp)
        have hd5' := (hd4.below hbX).lt.but hbut hneO4.1 hneO4.2 (fun b hb' _ => (hO4 b hb'.1).2)
        have hk5 : LogAt w5 g gl (s.app pk.data).L := log_but (hk4.below hbX hk4.lt) hbut hneL4
        have hO5' : ∀ b, ((O b ∨ wo.heap.size ≤ b) ∧ b < (w4.alloc (.cells #[.slice pk.A pk.data.length pk.c] 23)).heap.size) → w.heap.size ≤ b ∧ b ∉ v5.ownBlock.toList := fun b hb' => by
          refine ⟨(hO4 b hb'.1).1, fun hm => ?_⟩
          rcases hx5 with h | h
          · rw [h] at hm; exact (hO4 b hb'.1).2 hm
          · rw [h] at hm; simp at hm; have := hb'.2; simp at this; omega
        obtain ⟨O5, hO5e⟩ : ∃ o : Nat → Prop, o = fun b => (O b ∨ wo.heap.size ≤ b) ∧ b < (w4.alloc (.cells #[.slice pk.A pk.data.length pk.c] 23)).heap.size := ⟨_, rfl⟩
        obtain ⟨hsL, hsLe⟩ : ∃ x, x = hs ++ [pk] := ⟨_, rfl⟩
        have hll : hs.length + 1 = hsL.length := by rw [hsLe]; simp
        have hown5' : w5.ownsRow w.heap.size 23 1 v5 hsL.length (hsL.map ByS.v) := by rw [hsLe, List.map_append, List.length_append]; exact hown5
        have hb05 := (hb04.trans (hbX.mono hb04.size)).trans hb5
        have hby5 : ∀ p ∈ hsL, ByOk w B p := fun p hp => by
          rw [hsLe] at hp
          rcases List.mem_append.1 hp with hp | hp
          · exact hby p hp
          · rw [List.mem_singleton] at hp; subst hp; exact hpk0
        obtain ⟨s1, hs1⟩ : ∃ x, x = s.app pk.data := ⟨_, rfl⟩
        have Hhad5 : Hid (dat hsL = s1.had) := Lib.hid (by rw [hsLe, hs1]; simp only [dat, List.map_append, RS.had, RS.app]; rw [show hs.map (·.data) = s.had from Hhad.out]; simp [RS.had])
        have hsyn5 : s.syn = s1.syn := by rw [hs1]; rfl
        have hd5 : DiskO O5 w5 g mp s1.d := by rw [hO5e, hs1]; exact hd5'
        rw [← hs1] at hk5 hok5
        have hsi5 : hsL.length ≤ i + 1 := by omega
        clear hown5
        have hown5 := hown5'
        obtain ⟨A13, c13, rfl, _⟩ := own_form hown5
        have hO5 : ∀ b, O5 b → w.heap.size ≤ b ∧ b ∉ (Value.slice A13 hsL.length c13).ownBlock.toList := by rw [hO5e]; exact hO5'
        clear hO4 hd4 hk4 hown4 hb04 hok Hhad hby hsi hcp4 hO5e hO5' hown5' hd5' hbut hg5' hg5 hx5 hb5 hneO4 hneL4 hs04 hbX hs1 hsLe hge4 hll
        rw [hsyn5]
        clear hsyn5
        go_upto_region 16 with fail
        have hne5 := hd5.ne_own hown5 (by decide)
        have hneL5 := own_blk hown5 hk5 (by decide)
        have hge5 := own_ge hown5
        have hlen5 := hok5.len
        have hO6 : ∀ b, (O5 b ∨ w5.heap.size ≤ b) → w.heap.size ≤ b ∧ b ∉ (Value.slice A13 hsL.length c13).ownBlock.toList := fun b hb' => by
          rcases hb' with h | h
          · exact hO5 b h
          · exact ⟨by have := hb05.size; omega, fun hm => by have := (hge5 b hm).2; omega⟩
        have hhl : hsL.length = s1.had.length := by have := congrArg List.length Hhad5.out; simpa [dat] using this
        have Hhl := Lib.hid hhl
        clear hhl
        by_cases hik : i < sy.length
        · obtain ⟨b1, o1, rfl, hb1', hc1⟩ := Row.byte (h1.below (hb05.mono hB)) rfl hik
          have hik1 : (i : Int) < sy.length := by omega
          obtain ⟨c, hc⟩ : ∃ c, c = (sy[i]'hik).toNat := ⟨_, rfl⟩
          have hc256 : c < 256 := by rw [hc]; exact (sy[i]'hik).toNat_lt
          rw [← hc] at hc1
          have hc256' : (c : Int) ≤ 255 := by omega
          clear hc
          rcases mod3 c with h30 | h31 | h32
          · have hz : ((c : Int) % 3 == 0) = true := by rw [beq_iff_eq]; omega
            clear h30
            go_wp2
            go_roundw
            case rel =>
              first
                | exact ⟨i + 1, s1, hsL, O5, by omega, by omega, by go_num, hown5, hby5, Hhad5, hsi5, rfl, hok5, hO5, hd5, hk5, hb05⟩
                | ((repeat apply Exists.intro); exact ⟨⟨i + 1, s1, hsL, O5, by omega, by omega, by go_num, hown5, hby5, Hhad5, hsi5, rfl, hok5, hO5, hd5, hk5, hb05⟩, rfl⟩)
            case measure => simp [intOf]; omega
          · have hz : ((c : Int) % 3 == 0) = false := by rw [beq_eq_false_iff_ne]; omega
            have hz2 : ((c : Int) % 3 == 2) = false := by rw [beq_eq_false_iff_ne]; omega
            clear h31
            cases hw : s1.wr with
            | false =>
              have hsq := RS.sync_no hw
              have hsyn := RS.no_syn hok5 hw
              have Hrn := Lib.hid (RS.rot_no hok5 hw)
              have Hsyn := Lib.hid hsyn
              have Hsq := Lib.hid hsq
              clear hsq hsyn hw
              go_wp2_with fail
              refine (oLogSync _ g mp gl s1.d s1.L w5 hd5 hk5 (fun w' => vNm_small _ w' (by show (1 : Int) ≤ ((s1.G.length + 1 : Nat) : Int); omega) (by show ((s1.G.length + 1 : Nat) : Int) < 100; omega))).mono ?_
              rintro e w6 ⟨rfl, hd6, hk6, hb6⟩
              have hown6 := own_but hown5 hb6 (fun q hq hm => by simp only [List.mem_cons, List.not_mem_nil, or_false] at hm; rcases hm with rfl | rfl | rfl <;> simp [hq] at hne5 hneL5)
              have hb06 := hb05.trans (hb6.below hb05.size hsub4)
              have hc6 : w6.cell? ⟨b1, o1 + i, none⟩ = some (.int .u8 c) := (hb6.cell (p := ⟨b1, o1 + i, none⟩) (by show b1 < _; have := hb05.size; omega) (fun hm => by have := hsub4 _ hm; simp only at this; omega)).trans hc1
              rw [Hsq.out] at hd6 ⊢
              clear hd5 hk5 hb05 hb6 hown5
              go_wp2
              go_roundw
              case rel =>
                first
                  | exact ⟨i + 1, s1, hsL, _, by omega, by omega, by go_num, hown6, hby5, Hhad5, hsi5, by rw [Hhl.out, Hsyn.out], hok5, hO6, hd6, hk6, hb06⟩
                  | ((repeat apply Exists.intro); exact ⟨⟨i + 1, s1, hsL, _, by omega, by omega, by go_num, hown6, hby5, Hhad5, hsi5, by rw [Hhl.out, Hsyn.out], hok5, hO6, hd6, hk6, hb06⟩, rfl⟩)
              case measure => simp [intOf]; omega
            | true =>
              by_cases hl0 : s1.left = 0
              · have Hsq := Lib.hid (RS.sync_down hok5 hw hl0)
                have hdn : s1.d.dn = true := decide_eq_true hl0
                have Hdn := Lib.hid hdn
                clear hw hl0 hdn
                go_wp2_with fail
                refine (oLogSync _ g mp gl s1.d s1.L w5 hd5 hk5 (fun w' => vNm_small _ w' (by show (1 : Int) ≤ ((s1.G.length + 1 : Nat) : Int); omega) (by show ((s1.G.length + 1 : Nat) : Int) < 100; omega))).mono ?_
                rintro e w6 ⟨rfl, hd6, hk6, hb6⟩
                have hown6 := own_but hown5 hb6 (fun q hq hm => by simp only [List.mem_cons, List.not_mem_nil, or_false] at hm; rcases hm with rfl | rfl | rfl <;> simp [hq] at hne5 hneL5)
                have hb06 := hb05.trans (hb6.below hb05.size hsub4)
                have hc6 : w6.cell? ⟨b1, o1 + i, none⟩ = some (.int .u8 c) := (hb6.cell (p := ⟨b1, o1 + i, none⟩) (by show b1 < _; have := hb05.size; omega) (fun hm => by have := hsub4 _ hm; simp only at this; omega)).trans hc1
                rw [Hsq.out] at hd6 ⊢
                go_wp2_with fail
                refine (oDown_calls _ g mp _ w6 hd6).mono ?_
                rintro e w7 ⟨rfl, hb7⟩
                rw [Hdn.out]
                have hd7 := hd6.below hb7
                have hk7 : LogAt w7 g gl s1.L := hk6.below hb7 hk6.lt
                have hown7 := own_below hown6 hb7
                have hb07 := hb06.trans (hb7.mono hb06.size)
                clear hd5 hk5 hb05 hb6 hown5 hd6 hk6 hb06 hb7 hown6
                go_wp2
                go_roundw
                case rel =>
                  first
                    | exact ⟨i + 1, s1, hsL, _, by omega, by omega, by go_num, hown7, hby5, Hhad5, hsi5, rfl, hok5, hO6, hd7, hk7, hb07⟩
                    | ((repeat apply Exists.intro); exact ⟨⟨i + 1, s1, hsL, _, by omega, by omega, by go_num, hown7, hby5, Hhad5, hsi5, rfl, hok5, hO6, hd7, hk7, hb07⟩, rfl⟩)
                case measure => simp [intOf]; omega
              · have hlp : 0 < s1.left := by have := hok5.lo; omega
                obtain ⟨hsq, hok6, hLs⟩ := RS.sync_eq hok5 hw hlp
                have Hsy := Lib.hid (RS.sync_syn s1)
                have Hsq := Lib.hid hsq; have HLs := Lib.hid hLs
                clear hsq hLs hw hl0 hlp
                go_wp2_with fail
                refine (oLogSync _ g mp gl s1.d s1.L w5 hd5 hk5 (fun w' => vNm_small _ w' (by show (1 : Int) ≤ ((s1.G.length + 1 : Nat) : Int); omega) (by show ((s1.G.length + 1 : Nat) : Int) < 100; omega))).mono ?_
                rintro e w6 ⟨rfl, hd6, hk6, hb6⟩
                have hown6 := own_but hown5 hb6 (fun q hq hm => by simp only [List.mem_cons, List.not_mem_nil, or_false] at hm; rcases hm with rfl | rfl | rfl <;> simp [hq] at hne5 hneL5)
                have hb06 := hb05.trans (hb6.below hb05.size hsub4)
                have hc6 : w6.cell? ⟨b1, o1 + i, none⟩ = some (.int .u8 c) := (hb6.cell (p := ⟨b1, o1 + i, none⟩) (by show b1 < _; have := hb05.size; omega) (fun hm => by have := hsub4 _ hm; simp only at this; omega)).trans hc1
                rw [Hsq.out] at hd6 ⊢
                have hk6' : LogAt w6 g gl (s1.sync).L := by rw [HLs.out]; exact hk6
                clear hd5 hk5 hb05 hb6 hown5
                go_wp2
                go_roundw
                case rel =>
                  first
                    | exact ⟨i + 1, s1.sync, hsL, _, by omega, by omega, by go_num, hown6, hby5, Lib.hid (by rw [Hsy.out.2]; exact Hhad5.out), hsi5, by rw [Hsy.out.1, Hsy.out.2, Hhl.out], hok6, hO6, hd6, hk6', hb06⟩
                    | ((repeat apply Exists.intro); exact ⟨⟨i + 1, s1.sync, hsL, _, by omega, by omega, by go_num, hown6, hby5, Lib.hid (by rw [Hsy.out.2]; exact Hhad5.out), hsi5, by rw [Hsy.out.1, Hsy.out.2, Hhl.out], hok6, hO6, hd6, hk6', hb06⟩, rfl⟩)
                case measure => simp [intOf]; omega
          · have hz : ((c : Int) % 3 == 0) = false := by rw [beq_eq_false_iff_ne]; omega
            have hz2 : ((c : Int) % 3 == 2) = true := by rw [beq_iff_eq]; omega
            clear h32
            cases hw : s1.wr with
            | false =>
              have hsq := RS.sync_no hw
              have hsyn := RS.no_syn hok5 hw
              have Hrn := Lib.hid (RS.rot_no hok5 hw)
              have Hsyn := Lib.hid hsyn
              have Hsq := Lib.hid hsq
              clear hsq hsyn hw
              go_wp2_with fail
              refine (oLogSync _ g mp gl s1.d s1.L w5 hd5 hk5 (fun w' => vNm_small _ w' (by show (1 : Int) ≤ ((s1.G.length + 1 : Nat) : Int); omega) (by show ((s1.G.length + 1 : Nat) : Int) < 100; omega))).mono ?_
              rintro e w6 ⟨rfl, hd6, hk6, hb6⟩
              have hown6 := own_but hown5 hb6 (fun q hq hm => by simp only [List.mem_cons, List.not_mem_nil, or_false] at hm; rcases hm with rfl | rfl | rfl <;> simp [hq] at hne5 hneL5)
              have hb06 := hb05.trans (hb6.below hb05.size hsub4)
              have hc6 : w6.cell? ⟨b1, o1 + i, none⟩ = some (.int .u8 c) := (hb6.cell (p := ⟨b1, o1 + i, none⟩) (by show b1 < _; have := hb05.size; omega) (fun hm => by have := hsub4 _ hm; simp only at this; omega)).trans hc1
              rw [Hsq.out] at hd6 ⊢
              have hne6 := hd6.ne_own hown6 (by decide)
              have hneL6 := own_blk hown6 hk6 (by decide)
              have hge6 := own_ge hown6
              go_wp2_with fail
              refine (oLogRot _ g mp gl s1.d s1.L w6 hd6 hk6 (by show s1.G.length + 1 ≤ 1000000000; omega)).mono ?_
              rintro e w7 ⟨rfl, hd7, hk7, hb7⟩
              have hown7 := own_but hown6 hb7 (fun q hq hm => by simp only [List.mem_cons, List.not_mem_nil, or_false] at hm; subst hm; simp [hq] at hneL6)
              have hb07 := hb06.trans (hb7.below hb06.size (fun q hq => hsub4 q (by simp only [List.mem_cons, List.not_mem_nil, or_false] at hq ⊢; omega)))
              have hO7 : ∀ b, ((O5 b ∨ w5.heap.size ≤ b) ∨ w6.heap.size ≤ b) → w.heap.size ≤ b ∧ b ∉ (Value.slice A13 hsL.length c13).ownBlock.toList := fun b hb' => by
                rcases hb' with h | h
                · exact hO6 b h
                · exact ⟨by have := hb06.size; omega, fun hm => by have := (hge6 b hm).2; omega⟩
              rw [Hrn.out] at hk7 ⊢
              clear hd5 hk5 hb05 hb6 hown5 hd6 hk6 hb06 hb7 hown6
              go_wp2
              go_roundw
              case rel =>
                first
                  | exact ⟨i + 1, s1, hsL, _, by omega, by omega, by go_num, hown7, hby5, Hhad5, hsi5, by rw [Hhl.out, Hsyn.out], hok5, hO7, hd7, hk7, hb07⟩
                  | ((repeat apply Exists.intro); exact ⟨⟨i + 1, s1, hsL, _, by omega, by omega, by go_num, hown7, hby5, Hhad5, hsi5, by rw [Hhl.out, Hsyn.out], hok5, hO7, hd7, hk7, hb07⟩, rfl⟩)
              case measure => simp [intOf]; omega
            | true =>
              by_cases hl0 : s1.left = 0
              · have Hsq := Lib.hid (RS.sync_down hok5 hw hl0)
                have hdn : s1.d.dn = true := decide_eq_true hl0
                have Hdn := Lib.hid hdn
                clear hw hl0 hdn
                go_wp2_with fail
                refine (oLogSync _ g mp gl s1.d s1.L w5 hd5 hk5 (fun w' => vNm_small _ w' (by show (1 : Int) ≤ ((s1.G.length + 1 : Nat) : Int); omega) (by show ((s1.G.length + 1 : Nat) : Int) < 100; omega))).mono ?_
                rintro e w6 ⟨rfl, hd6, hk6, hb6⟩
                have hown6 := own_but hown5 hb6 (fun q hq hm => by simp only [List.mem_cons, List.not_mem_nil, or_false] at hm; rcases hm with rfl | rfl | rfl <;> simp [hq] at hne5 hneL5)
                have hb06 := hb05.trans (hb6.below hb05.size hsub4)
                have hc6 : w6.cell? ⟨b1, o1 + i, none⟩ = some (.int .u8 c) := (hb6.cell (p := ⟨b1, o1 + i, none⟩) (by show b1 < _; have := hb05.size; omega) (fun hm => by have := hsub4 _ hm; simp only at this; omega)).trans hc1
                rw [Hsq.out] at hd6 ⊢
                go_wp2_with fail
                refine (oDown_calls _ g mp _ w6 hd6).mono ?_
                rintro e w7 ⟨rfl, hb7⟩
                rw [Hdn.out]
                have hd7 := hd6.below hb7
                have hk7 : LogAt w7 g gl s1.L := hk6.below hb7 hk6.lt
                have hown7 := own_below hown6 hb7
                have hb07 := hb06.trans (hb7.mono hb06.size)
                clear hd5 hk5 hb05 hb6 hown5 hd6 hk6 hb06 hb7 hown6
                go_wp2
                go_roundw
                case rel =>
                  first
                    | exact ⟨i + 1, s1, hsL, _, by omega, by omega, by go_num, hown7, hby5, Hhad5, hsi5, rfl, hok5, hO6, hd7, hk7, hb07⟩
                    | ((repeat apply Exists.intro); exact ⟨⟨i + 1, s1, hsL, _, by omega, by omega, by go_num, hown7, hby5, Hhad5, hsi5, rfl, hok5, hO6, hd7, hk7, hb07⟩, rfl⟩)
                case measure => simp [intOf]; omega
              · have hlp : 0 < s1.left := by have := hok5.lo; omega
                obtain ⟨hsq, hok6, hLs⟩ := RS.sync_eq hok5 hw hlp
                have Hsy := Lib.hid (RS.sync_syn s1)
                have Hrot := Lib.hid (RS.rot_eq hok6 hok5 hw)
                have Hsq := Lib.hid hsq; have HLs := Lib.hid hLs
                clear hsq hLs hw hl0 hlp
                go_wp2_with fail
                refine (oLogSync _ g mp gl s1.d s1.L w5 hd5 hk5 (fun w' => vNm_small _ w' (by show (1 : Int) ≤ ((s1.G.length + 1 : Nat) : Int); omega) (by show ((s1.G.length + 1 : Nat) : Int) < 100; omega))).mono ?_
                rintro e w6 ⟨rfl, hd6, hk6, hb6⟩
                have hown6 := own_but hown5 hb6 (fun q hq hm => by simp only [List.mem_cons, List.not_mem_nil, or_false] at hm; rcases hm with rfl | rfl | rfl <;> simp [hq] at hne5 hneL5)
                have hb06 := hb05.trans (hb6.below hb05.size hsub4)
                have hc6 : w6.cell? ⟨b1, o1 + i, none⟩ = some (.int .u8 c) := (hb6.cell (p := ⟨b1, o1 + i, none⟩) (by show b1 < _; have := hb05.size; omega) (fun hm => by have := hsub4 _ hm; simp only at this; omega)).trans hc1
                rw [Hsq.out] at hd6 ⊢
                have hk6' : LogAt w6 g gl (s1.sync).L := by rw [HLs.out]; exact hk6
                have hne6 := hd6.ne_own hown6 (by decide)
                have hneL6 := own_blk hown6 hk6' (by decide)
                have hge6 := own_ge hown6
                go_wp2_with fail
                refine (oLogRot _ g mp gl (s1.sync).d (s1.sync).L w6 hd6 hk6' (by show s1.G.length + 1 ≤ 1000000000; omega)).mono ?_
                rintro e w7 ⟨rfl, hd7, hk7, hb7⟩
                have hown7 := own_but hown6 hb7 (fun q hq hm => by simp only [List.mem_cons, List.not_mem_nil, or_false] at hm; subst hm; simp [hq] at hneL6)
                have hb07 := hb06.trans (hb7.below hb06.size (fun q hq => hsub4 q (by simp only [List.mem_cons, List.not_mem_nil, or_false] at hq ⊢; omega)))
                have hO7 : ∀ b, ((O5 b ∨ w5.heap.size ≤ b) ∨ w6.heap.size ≤ b) → w.heap.size ≤ b ∧ b ∉ (Value.slice A13 hsL.length c13).ownBlock.toList := fun b hb' => by
                  rcases hb' with h | h
                  · exact hO6 b h
                  · exact ⟨by have := hb06.size; omega, fun hm => by have := (hge6 b hm).2; omega⟩
                rw [Hrot.out.1] at hk7 ⊢
                rw [← Hrot.out.2.1] at hd7
                clear hd5 hk5 hb05 hb6 hown5 hd6 hk6 hb06 hb7 hown6
                go_wp2
                go_roundw
                case rel =>
                  first
                    | exact ⟨i + 1, (s1.sync).rot, hsL, _, by omega, by omega, by go_num, hown7, hby5, Lib.hid (by rw [Hrot.out.2.2.2.1]; exact Hhad5.out), hsi5, by rw [Hrot.out.2.2.2.2, Hhl.out], Hrot.out.2.2.1, hO7, hd7, hk7, hb07⟩
                    | ((repeat apply Exists.intro); exact ⟨⟨i + 1, (s1.sync).rot, hsL, _, by omega, by omega, by go_num, hown7, hby5, Lib.hid (by rw [Hrot.out.2.2.2.1]; exact Hhad5.out), hsi5, by rw [Hrot.out.2.2.2.2, Hhl.out], Hrot.out.2.2.1, hO7, hd7, hk7, hb07⟩, rfl⟩)
                case measure => simp [intOf]; omega
        · have hik1 : ¬ (i : Int) < sy.length := by omega
          have hik2 : (sy.length : Int) ≤ i := by omega
          go_wp2
          go_roundw
          case rel =>
            first
              | exact ⟨i + 1, s1, hsL, O5, by omega, by omega, by go_num, hown5, hby5, Hhad5, hsi5, rfl, hok5, hO5, hd5, hk5, hb05⟩
              | ((repeat apply Exists.intro); exact ⟨⟨i + 1, s1, hsL, O5, by omega, by omega, by go_num, hown5, hby5, Hhad5, hsi5, rfl, hok5, hO5, hd5, hk5, hb05⟩, rfl⟩)
          case measure => simp [intOf]; omega
    · obtain ⟨A13, c13, rfl, hc13⟩ := own_form hown
      obtain ⟨d1, d2, N, P, ha⟩ := hok.after keep
      have hhl : hs.length = s.had.length := by have := congrArg List.length Hhad.out; simpa [dat] using this
      have hrst := Lib.hid ha.rst; have hagain := Lib.hid ha.again; have hlen1 := ha.len1; have hopn := Lib.hid ha.opn
      have hlo := ha.lo; have hhi := ha.hi; have hbeg := Lib.hid ha.beg; have hnum := ha.num; have hnum1 := ha.num1; have hfg := Lib.hid ha.fg
      have happ := Lib.hid ha.app; have hopn2 := Lib.hid ha.opn2
      have hhi2 : P.length ≤ hs.length := by omega
      have hsdl : s.d.fs.length * 16 ≤ 140737488351232 := by
        have h1 := fsX_len s.G s.X
        have h2 := hok.len
        show (fsX s.G s.X).length * 16 ≤ _
        omega
      clear ha hhl hhi
      have hneO := hd.ne_own hown (by decide)
      have hge := own_ge hown
      have hbs : B ≤ wo.heap.size := Nat.le_trans hB hb.size
      have hA3 : 0 < keep.length → ∀ b off, A3 = some ⟨b, off, none⟩ → b ≠ g ∧ b ≠ mp := fun h0' b off e => by
        obtain ⟨b', off', e', hb', _⟩ := h3.2 h0'
        rw [e] at e'
        simp only [Option.some.injEq, Addr.mk.injEq, and_true] at e'
        omega
      have hP100 : P.length ≤ 100 := by omega
      clear hok hlog
      rcases (show (¬ (i : Int) < ps.length) ∨ ((i : Int) < ps.length ∧ ¬ (i : Int) < 100) by omega) with hx | ⟨hx, hx2⟩
      all_goals
        go_wp2_with fail
        refine (oRestart_calls A3 c3 g mp s.d O wo keep hd ((h3.below (hb.mono hB)).more hbs) hA3 (by omega) hkr hsdl).mono ?_
        rintro e w4 ⟨rfl, hd4, hb4⟩
        rw [hrst.out] at hd4
        have hown4 := own_but hown hb4 (fun q hq hm => by simp only [List.mem_cons, List.not_mem_nil, or_false] at hm; rcases hm with rfl | rfl <;> simp [hq] at hneO)
        have hb04 := hb.trans (hb4.below hb.size (fun q hq => by simp only [List.mem_cons, List.not_mem_nil, or_false] at hq; omega))
        have hda4 := hd4.a (base := w.heap.size) (fun b hb' => by
          rcases hb' with h | h
          · exact (hO b h).1
          · exact Nat.le_trans hb.size h) hgw.1 hgw.2 hb04.size
        have hlt4 := hda4.lt
        clear hd hown hb hb4 hd4 hO hneO hge
        go_wp2_with fail
        refine (vOpen 1 w.heap.size g mp d1 w4 hda4 (by omega) (by omega) (0, N, P) hopn.out.symm (nms_small _ _ (by show N < 100; omega)) (by show N ≤ 1000000000; omega) (by show P.length * 24 ≤ _; omega)).mono ?_
        rintro e w5 ⟨hb5, ⟨hx0, _⟩ | ⟨_, gl5, v5, ps5, rfl, _, _, hp5, hpd5⟩⟩
        · exact absurd rfl hx0
        have hl5 : ps5.length = P.length := by have := congrArg List.length hpd5; simpa using this
        obtain ⟨A5, c5, rfl, _⟩ := own_form hp5.own
        have hda5 := hda4.below hb5
        have hown5 := own_below hown4 hb5
        have hb05 := hb04.trans (hb5.mono hb04.size)
        have hrh : Rds w5 A13 hs := ⟨Row.of_own hown5, fun p hp => ((hby p hp).row.below (hb05.mono hB)).more (Nat.le_trans hB hb05.size)⟩
        have htl : (hs.take P.length).length = P.length := by rw [List.length_take]; omega
        have hsm5 := vSame10 ps5 (hs.take P.length) A5 A13 c5 c13 w5 hp5.rds (hrh.take hhi2) (by omega)
        have heq5 : eqN ps5 (hs.take P.length) = true := decide_eq_true (by rw [hpd5]; show P = dat (hs.take P.length); rw [dat_take, Hhad.out, hbeg.out])
        rw [hl5, htl, heq5] at hsm5
        have Hsm5 := Lib.hid hsm5; have Hl5 := Lib.hid hl5; have Hpd5 := Lib.hid hpd5
        have g1 : decide (P.length < s.syn) = false := decide_eq_false (by omega)
        have g2 : decide ((P.length : Int) > (hs.length : Int)) = false := decide_eq_false (by omega)
        have g3 : (P.length : Int) ≤ (c13 : Int) := by omega
        have g4 : (0 : Int) ≤ (P.length : Int) := by omega
        rw [hl5]
        have hs5 := hb05.size
        clear hda4 hown4 hb04 hb5 hown5 hrh htl hsm5 heq5 hl5 hpd5
        go_wp2_with fail
        refine Hsm5.out.mono ?_
        rintro e w6 ⟨rfl, hb6⟩
        have hda6 := hda5.below hb6
        have hp6 := hp5.below hb6
        have hb06 := hb05.trans (hb6.mono hb05.size)
        have hs56 := hb6.size
        clear Hsm5 hda5 hb05 hb6 g1 g2 g3
        go_wp2_with fail
        refine (aRestart_calls none 0 w.heap.size g mp d1 w6 [] hda6 ⟨rfl, fun h => absurd h (by simp)⟩ (fun h => absurd h (by simp)) (by simp) (by simp) (by omega)).mono ?_
        rintro e w7 ⟨rfl, hda7, hb7⟩
        rw [hagain.out] at hda7
        have hp7 := hp6.but hb7 (fun q hq => by simp only [List.mem_cons, List.not_mem_nil, or_false] at hq; omega)
        have hb07 := hb06.trans (hda6.down hb7)
        have hs67 := hb7.size
        clear hda6 hp6 hb06 hb7
        go_wp2_with fail
        refine (vOpen 1 w.heap.size g mp d1 w7 hda7 (by omega) (by omega) (0, N, P) hopn.out.symm (nms_small _ _ (by show N < 100; omega)) (by show N ≤ 1000000000; omega) (by show P.length * 24 ≤ _; omega)).mono ?_
        rintro e w8 ⟨hb8, ⟨hx0, _⟩ | ⟨_, gl8, v8, ps8, rfl, hgl8, hk8, hp8, hpd8⟩⟩
        · exact absurd rfl hx0
        have hl8 : ps8.length = P.length := by have := congrArg List.length hpd8; simpa using this
        obtain ⟨A8, c8, rfl, _⟩ := own_form hp8.own
        have hda8 := hda7.below hb8
        have hp58 := hp7.below hb8
        have hb08 := hb07.trans (hb8.mono hb07.size)
        have hsm8 := vSame10 ps5 ps8 A5 A8 c5 c8 w8 hp58.rds hp8.rds (by rw [Hl5.out]; omega)
        have heq8 : eqN ps5 ps8 = true := decide_eq_true (by rw [Hpd5.out, hpd8])
        rw [Hl5.out, hl8, heq8] at hsm8
        have Hsm8 := Lib.hid hsm8
        rw [hl8]
        clear hda7 hp7 hb07 hb8 hsm8 heq8 hl8 hpd8 hp8
        go_wp2_with fail
        refine Hsm8.out.mono ?_
        rintro e w9 ⟨rfl, hb9⟩
        have hda9 := hda8.below hb9
        have hp9 := hp58.below hb9
        have hk9 : LogAt w9 g gl8 ⟨1, N, false⟩ := hk8.below hb9 hk8.lt
        have hb09 := hb08.trans (hb9.mono hb08.size)
        clear Hsm8 hda8 hp58 hb08 hb9 hk8
        have kc := fun (u : World) (C : Array Value) (n c : Nat) => Lib.run_convert_bytes_const (P := Tryd.prog) u 23 5 C n c Tryd.underlying23 Tryd.underlying5
        go_wp2_with fail
        clear kc
        have hbX : Below w9.heap.size w9 (w9.alloc (.cells #[.int .u8 110, .int .u8 101, .int .u8 119] 5 (3, 4))) := (Below.refl _ _).alloc (Nat.le_refl _) _
        refine (vLogApp w.heap.size g mp gl8 d1 ⟨1, N, false⟩ _ nwB (some ⟨w9.heap.size, 0, none⟩) 3 (w9.heap.size + 1) (hda9.below hbX) (hk9.below hbX hk9.lt) hnum1 (nms_small _ _ (by show N < 100; omega)) (bytes_mark w9 nwB _ _ rfl) (by simp) (by decide) (by show (fget (walNm N) d1.fs).1.length + 65550 ≤ _; rw [hfg.out]; decide)).mono ?_
        rintro e w10 ⟨rfl, hda10, _, hb10⟩
        rw [happ.out] at hda10 ⊢
        have hp9X := hp9.below hbX
        have hp10 : Pays w10 w4.heap.size (.slice A5 ps5.length c5) ps5 := hp9X.but2 hp5 hb10 (fun q hq => by simp only [List.mem_cons, List.not_mem_nil, or_false] at hq; omega)
        have hb010 := (hb09.trans (hbX.mono hb09.size)).trans (hb10.below (Nat.le_trans hb09.size hbX.size) (fun q hq => by simp only [List.mem_cons, List.not_mem_nil, or_false] at hq; omega))
        clear hda9 hk9 hb09 hbX hb10 hp9 hp9X
        go_wp2_with fail
        refine (vOpen 1 w.heap.size g mp d2 w10 hda10 (by omega) (by omega) (0, N + 1, P ++ [nwB]) hopn2.out.symm (nms_small _ _ (by show N + 1 < 100; omega)) (by show N + 1 ≤ 1000000000; omega) (by show (P ++ [nwB]).length * 24 ≤ _; rw [List.length_append]; simp; omega)).mono ?_
        rintro e w11 ⟨hb11, ⟨hx0, _⟩ | ⟨_, gl11, v11, ps11, rfl, _, _, hp11, hpd11⟩⟩
        · exact absurd rfl hx0
        have hl11 : ps11.length = P.length + 1 := by have := congrArg List.length hpd11; simpa using this
        obtain ⟨A11, c11, rfl, hc11⟩ := own_form hp11.own
        have hr11 := hp11.rds
        have hb011 := hb010.trans (hb11.mono hb010.size)
        have hp511 := hp10.below hb11
        obtain ⟨b11, o11, rfl, hlt11, hcell11⟩ := hr11.at_ (k := P.length) (by omega)
        have hq11 := hr11.all _ (List.getElem_mem (show P.length < ps11.length by omega))
        have hqd : (ps11[P.length]'(by omega)).data = nwB := by
          have := congrArg (fun l => l[P.length]?) hpd11
          simp only [List.getElem?_map, List.getElem?_eq_getElem (show P.length < ps11.length by omega), Option.map_some] at this
          rw [List.getElem?_append_right (Nat.le_refl _), Nat.sub_self] at this
          simpa using this
        obtain ⟨q, hq⟩ : ∃ q, q = ps11[P.length]'(by omega) := ⟨_, rfl⟩
        rw [← hq] at hcell11 hq11 hqd
        obtain ⟨qA, qc, qd⟩ := q
        simp only at hcell11 hq11 hqd
        subst hqd
        have htk : (ps11.take P.length).length = P.length := by rw [List.length_take]; omega
        have hsm11 := vSame10 (ps11.take P.length) ps5 (some ⟨b11, o11, none⟩) A5 c11 c5 w11 (hr11.take (by omega)) hp511.rds (by omega)
        have heq11 : eqN (ps11.take P.length) ps5 = true := decide_eq_true (by rw [Hpd5.out]; show dat (ps11.take P.length) = P; rw [dat_take, show dat ps11 = P ++ [nwB] from hpd11, List.take_left])
        rw [htk, Hl5.out, heq11] at hsm11
        have Hsm11 := Lib.hid hsm11
        rw [hl11] at hc11 ⊢
        have f1 : (P.length : Int) ≤ (c11 : Int) := by omega
        have f2 : (0 : Int) ≤ (P.length : Int) := by omega
        have f3 : (P.length : Int) < (P.length : Int) + 1 := by omega
        have f4 : (P.length : Int) + 1 ≤ 1000 := by omega
        clear hda10 hb010 hb11 hp11 hr11 hpd11 hl11 hq htk hsm11 heq11 hp511 hp10
        go_wp2_with fail
        refine Hsm11.out.mono ?_
        rintro e w12 ⟨rfl, hb12⟩
        have hcv : ∀ c', (convert 23 9 (.slice qA 3 c')).run Tryd.prog w12 = .ok (.string ⟨#[110, 101, 119]⟩) w12 := fun c' => run_str (l := nwB) (hq11.below hb12)
        have hcell12 : w12.cell? ⟨b11, o11 + P.length, none⟩ = some (.slice qA 3 qc) := (hb12.cell (p := ⟨b11, o11 + P.length, none⟩) hlt11).trans hcell11
        have hb012 := hb011.trans (hb12.mono hb011.size)
        clear Hsm11 hcell11
        go_wp2
        go_ret
        exact ⟨rfl, hb012⟩
end Go.Proofs.YtmddgimadlmacaaDoor
