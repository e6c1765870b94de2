import Derived.Test.YtmcacicopgckmaaGreatDoorDg45
import Derived.Test.YtmcacicopgckmaaGreatDoorDg39
/-! dfa: run -/
namespace Go.Proofs.YtmcacicopgckmaaGreatDoor
open Go.RowKit Garner
set_option maxRecDepth 100000 in
set_option maxHeartbeats 64000000 in
theorem vRun (B0 c : Nat) (t : Re) (lim : Nat) (d : CacheD) (S : ByteArray) (l : Bs) (hS : S = ⟨l.toArray⟩) (part : Bool) (w : World) (hc : CacheIs B0 w c t lim d) (hT : TabW B0 w) :
    Calls Tryz.prog 47 #[.pointer (some ⟨c, 0, none⟩), .string S, .bool part] w fun e w' => e = .returned (.bool (ansD part t (runesP l))) ∧ ∃ d', CacheIs B0 w' c t lim d' ∧ CStep c w d w' d' ∧ (0 < lim → 0 < d'.ds.length) := by
  have hlow := hc.low.2.2.2
  have c0 : w.cell? ⟨c, 0, none⟩ = some (.pointer (some ⟨d.g, 0, none⟩)) := hc.blk.cell 0
  obtain ⟨Bp, Lp, hp⟩ := hc.prog
  have hs := vStart hc.good.prog d.g w hp
  have hsz := str_size l
  rw [← hS] at hsz
  obtain ⟨rs, hrs⟩ : ∃ rs, runesP l = rs := ⟨_, rfl⟩
  rw [hrs]
  have HS := Lib.hid hs; have HC := Lib.hid hc; have HT := Lib.hid hT; have HSS := Lib.hid hS; have Hsz := Lib.hid hsz; have Hrs := Lib.hid hrs
  clear hs hp hc hT hS hsz hrs
  go_enter Tryz.func47, Tryz.ntmps47
  go_wp2_with fail
  refine HS.out.mono ?_
  rintro e w1 ⟨v, rfl, own1, hb1⟩
  obtain ⟨n1, hn1⟩ : ∃ n1, (startR (progR t)).length = n1 := ⟨_, rfl⟩
  rw [hn1] at own1
  obtain ⟨A1, c1, rfl, -⟩ := own_form own1
  have hs1 := hb1.size
  obtain ⟨X, hX⟩ : ∃ X, X = w1.alloc (.cells #[.slice A1 n1 c1, .bool true] 70) := ⟨_, rfl⟩
  have hbX : Below w1.heap.size w1 X := by rw [hX]; exact (Below.refl _ _).alloc (Nat.le_refl _) _
  have bX : Blk X w1.heap.size 70 [.slice A1 n1 c1, .bool true] := by rw [hX]; exact Blk.new w1 _ _
  have hwX : Below w.heap.size w X := hb1.trans (hbX.mono hs1)
  have hrow : RowT X 3 A1 n1 ((startR (progR t)).map iv) := (RowT.of_own own1).below hbX
  have hpl : PlainA A1 c1 := PlainA.of_own own1
  have hcX := HC.out.below hwX
  have hst : ∀ x ∈ startR (progR t), x < (progR t).length := run_lt (find := part) (s := rs) 0
  have hsl : (startR (progR t)).length ≤ 100000 := Nat.le_trans (run_len (find := part) (s := rs) 0) HC.out.good.prog.small
  have hke := vKeep B0 c t lim d true _ A1 n1 c1 hn1 hst (by omega) hpl X hcX hrow (HT.out.on (hwX.mono hlow))
  have x0 : X.cell? ⟨w1.heap.size, 0, none⟩ = some (.slice A1 n1 c1) := bX.cell 0
  have x1 : X.cell? ⟨w1.heap.size, 1, none⟩ = some (.bool true) := bX.cell 1
  have HKe := Lib.hid hke; have HwX := Lib.hid hwX; have BX := Lib.hid bX; have Hrow := Lib.hid hrow; have Hpl := Lib.hid hpl; have Hn1 := Lib.hid hn1; have HX := Lib.hid hX; have HcX := Lib.hid hcX
  clear hke hwX bX hrow hpl hn1 hbX hcX own1 hb1 hst hsl
  go_upto_region 2 with fail
  rw [← hX]
  clear hX
  go_wp2_with fail
  refine HKe.out.mono ?_
  rintro e w2 ⟨i2, d2, rfl, hc2, hs2, hk2, hp2⟩
  have hl0 : LoopD B0 w d (w2.iter ⟨l.toArray⟩ 0) w1.heap.size w2.heap.size c t lim d2 l rs part 0 0 A1 n1 c1 true (startR (progR t)) i2 := by
    have hbi : Below w2.heap.size w2 (w2.iter ⟨l.toArray⟩ 0) := (Below.refl _ _).alloc (Nat.le_refl _) _
    have hs := (CStep.of_below (d := d) HwX.out).trans hs2
    have b2 := hs2.keep.blk BX.out (by decide)
    exact ⟨World.iter_heap w2 _ 0, b2.below hbi b2.lt, (Hrow.out.keepM hs2.keep (by decide)).below hbi, Hpl.out, rfl, Hn1.out, rfl, by rw [← Hrs.out]; exact RunAt.start l, hc2.below hbi, hs.trans (.of_below hbi), hk2, hp2, fun _ m hm => absurd hm (Nat.not_lt_zero m), hs1, hs.but.size⟩
  rw [← HSS.out] at hl0
  have HL0 := Lib.hid hl0
  clear hl0 hc2 hs2 hk2 hp2 x0 x1 HKe
  go_wp2
  go_loopw [8] (fun v wr => ∃ pos k A n ca fb st i d', v = .int .i64 i ∧ Hid (LoopD B0 w d wr w1.heap.size w2.heap.size c t lim d' l rs part pos k A n ca fb st i)) (fun _ wr => l.length - wr.iterPos w2.heap.size)
  case atStart => exact ⟨0, 0, A1, n1, c1, true, _, i2, d2, rfl, by rw [HSS.out] at HL0 ⊢; exact HL0⟩
  case round =>
    obtain ⟨pos, k, A, n, ca, fb, st, i, d', rfl, hlo⟩ := hrel
    have hit := hlo.out.it
    rw [← HSS.out] at hit
    have hsz := Hsz.out
    by_cases hpos : pos < l.length
    · obtain ⟨r, q', hde, hq1, hrr, hrun⟩ := iter_next l pos hpos
      have hnx : ∀ ty, (Instr.next (.pointer (some ⟨w2.heap.size, 0, none⟩)) true ty).run Tryz.prog wr = _ := fun ty => Lib.run_next_any_at wr w2.heap.size S pos ty hit (by omega)
      rw [HSS.out, hde] at hnx
      obtain ⟨Y, hY⟩ : ∃ Y, Y = wr.iterAt w2.heap.size ⟨l.toArray⟩ (pos + q') := ⟨_, rfl⟩
      have hmid := hlo.out.take hrun
      rw [← hY] at hnx hmid
      have hmeas : l.length - (pos + q') < l.length - pos := by omega
      have hip : wr.iterPos w2.heap.size = pos := by simp only [World.iterPos, hlo.out.it]
      have Hmid := Lib.hid hmid; have Hmeas := Lib.hid hmeas; have Hip := Lib.hid hip
      clear hmid hmeas hip hrun hde hit hlo hpos hsz hY
      have hnl := Hmid.out.nle
      have hnext : ∃ Z, Hid (MidD B0 w d Z w1.heap.size w2.heap.size c t lim d' l rs part (pos + q') k r A n ca fb st i) := ⟨Y, Hmid⟩
      clear hnext
      have y0 : Y.cell? ⟨w1.heap.size, 0, none⟩ = some (.slice A n ca) := Hmid.out.blk.cell 0
      have y1 : Y.cell? ⟨w1.heap.size, 1, none⟩ = some (.bool fb) := Hmid.out.blk.cell 1
      have hh := vDHere B0 c t lim d' fb st A n ca Hmid.out.len Hmid.out.lt hnl Hmid.out.pl i Y Hmid.out.ci Hmid.out.row Hmid.out.ke
      obtain ⟨mb, hmb⟩ : ∃ mb, matB (progR t) st fb false = mb := ⟨_, rfl⟩
      rw [hmb] at hh
      have HH := Lib.hid hh; have Hmb := Lib.hid hmb
      clear hh hmb
      have hbr : part = true ∨ part = false := by cases part <;> simp
      rcases hbr with rfl | rfl
      · go_wp2_with fail
        refine HH.out.mono ?_
        rintro e Z ⟨rfl, hbZ⟩
        have hm2 := Hmid.out.below hbZ
        cases mb with
        | true =>
          have hf : partB t rs = true := found_part (k := k) (fb := fb) hm2.ci.good.ok hm2.rk (by rw [← hm2.eq]; exact Hmb.out)
          have hans : ansD true t rs = true := by unfold ansD; rw [if_pos rfl, hf]
          have HA := Lib.hid hans; have Hm2 := Lib.hid hm2
          clear hf hans hm2 hbZ hnx
          go_wp2
          go_ret
          refine ⟨by rw [HA.out]; rfl, d', Hm2.out.ci, Hm2.out.cs, Hm2.out.pos⟩
        | false =>
          have hno := hm2.not fun _ => Hmb.out
          have HNo := Lib.hid hno; have HM := Lib.hid hm2
          clear hno hm2 hbZ hnx y0 y1 HH Hmid
          go_upto_region 8 with fail
          have k4 : Z.cell? ⟨c, 4, none⟩ = some (.map (some d'.mE)) := HM.out.ci.blk.cell 4
          obtain ⟨hi1, hi2⟩ := HM.out.ke.range HM.out.ci
          obtain ⟨ek1, ek2, ek3⟩ := edgeAt_key (part := true) hi1 hi2 hrr
          have hlk := run_lookF edgeK_law Tryz.underlying78 HM.out.ci.mapE (z := .int .i64 0) (by kernel_rfl) (edgeAt i r true) true
          rw [ek1] at hlk
          obtain ⟨LK, hLK⟩ : ∃ LK, d'.ed (edgeAt i r true) = LK := ⟨_, rfl⟩
          rw [hLK] at hlk
          have hgo : (0 ≤ i ∧ ∃ v, LK = some v) ∨ (¬ 0 ≤ i) ∨ (0 ≤ i ∧ LK = none) := by
            by_cases h : 0 ≤ i
            · cases LK with
              | none => exact .inr (.inr ⟨h, rfl⟩)
              | some v => exact .inl ⟨h, v, rfl⟩
            · exact .inr (.inl h)
          have HLK := Lib.hid hLK; have Ek1 := Lib.hid ek1; have Ek2 := Lib.hid ek2; have Ek3 := Lib.hid ek3
          obtain ⟨M, hM⟩ : ∃ M, d'.ds.length = M := ⟨_, rfl⟩
          have hgl := HM.out.ci.gc.len
          have hgb := HM.out.ci.gc.lb
          rw [List.length_map, hM] at hgl
          have bc := HM.out.ci.blk
          rw [hM] at bc
          clear hLK ek1 ek2 ek3
          rcases hgo with ⟨z1, v, rfl⟩ | hgo
          · obtain ⟨i0, j0, s0, u0, g1, rfl, g3, g4, g5, g6⟩ := HM.out.ci.gc.ed _ _ HLK.out
            rw [Ek2.out] at g1
            rw [Ek3.out] at g6
            rw [List.getElem?_map] at g3 g4
            obtain ⟨y, hy, rfl⟩ := Option.map_eq_some_iff.1 g4
            have hs0 : s0.pcs = st := by
              rcases HM.out.ke with h | ⟨j, x, hij, hx, hx1, hx2⟩
              · omega
              · obtain rfl : j = i0 := by omega
                rw [hx] at g3
                injection g3 with g3
                rw [← g3]; exact hx1
            rw [hs0] at g6
            have g6 : y.p.pcs = stepR (progR t) true st r := g6
            obtain ⟨b, hAb, hcell⟩ := HM.out.ci.at_ hy
            have hyr := HM.out.ci.rows y (List.mem_of_getElem? hy)
            have hjM := (List.getElem?_eq_some_iff.1 hy).1
            rw [hM] at hjM
            have e0 := hcell 0 (by omega)
            have e1 := hcell 1 (by omega)
            obtain ⟨yn, hyn⟩ : ∃ yn, y.p.pcs.length = yn := ⟨_, rfl⟩
            obtain ⟨yA, hyA⟩ : ∃ yA, y.A = yA := ⟨_, rfl⟩
            obtain ⟨yc, hyc⟩ : ∃ yc, y.c = yc := ⟨_, rfl⟩
            have e0 : Z.cell? ⟨b, j0 * 4, none⟩ = some (.slice yA yn yc) := by rw [← hyn, ← hyA, ← hyc]; exact e0
            have e1 : Z.cell? ⟨b, j0 * 4 + 1, none⟩ = some (.bool false) := by rw [e1]; show some (Value.bool y.p.first) = _; rw [g5]
            rw [hyA, hyc, hyn, g6] at hyr
            rw [g6] at hyn
            rw [hAb] at bc
            have zj : (j0 : Int) < (M : Int) := by omega
            have hkn : KeptAt d' (j0 : Nat) false (stepR (progR t) true st r) := .inr ⟨j0, y, rfl, hy, g6, g5⟩
            have HyR := Lib.hid hyr; have Hyn := Lib.hid hyn; have HKn := Lib.hid hkn
            have s1 : Blk Z.drew c 80 [.pointer (some ⟨d'.g, 0, none⟩), .int .i64 lim, .slice (some ⟨b, 0, none⟩) M d'.cs, .map (some d'.mN), .map (some d'.mE)] ∧ Blk Z.drew w1.heap.size 70 [.slice A n ca, .bool fb] ∧ Z.drew.cell? ⟨b, j0 * 4, none⟩ = some (.slice yA yn yc) ∧ Z.drew.cell? ⟨b, j0 * 4 + 1, none⟩ = some (.bool false) := ⟨bc.drew, HM.out.blk.drew, e0, e1⟩
            clear hyr hyn hkn hcell hAb g1 g3 g4 g5 g6 hs0 hy hyA hyc bc e0 e1
            go_upto_region 10 with fail
            refine wp_region_N (fun w' => Blk w' c 80 [.pointer (some ⟨d'.g, 0, none⟩), .int .i64 lim, .slice (some ⟨b, 0, none⟩) M d'.cs, .map (some d'.mN), .map (some d'.mE)] ∧ Blk w' w1.heap.size 70 [.slice A n ca, .bool fb] ∧ w'.cell? ⟨b, j0 * 4, none⟩ = some (.slice yA yn yc) ∧ w'.cell? ⟨b, j0 * 4 + 1, none⟩ = some (.bool false)) 10 (by kernel_rfl) ?_
            apply wpAnyN_takeL 0 (by kernel_rfl) rfl (fun _ _ _ h => h) (by kernel_rfl) s1
            · intro w' hS'
              go_simp; exact ⟨rfl, rfl⟩
            (try simp only [Act.put]); (try simp only [List.setIfInBounds_toArray]); (try simp only [List.set])
            apply wpAnyN_takeL 1 (by kernel_rfl) rfl (fun _ _ _ h => h) (by kernel_rfl) s1
            · intro w' hS'
              go_simp; exact ⟨rfl, rfl⟩
            (try simp only [Act.put]); (try simp only [List.setIfInBounds_toArray]); (try simp only [List.set])
            apply wpAnyN_takeL 2 (by kernel_rfl) rfl (fun _ _ _ h => h) (by kernel_rfl) s1
            · intro w' hS'
              go_simp; exact ⟨rfl, rfl⟩
            (try simp only [Act.put]); (try simp only [List.setIfInBounds_toArray]); (try simp only [List.set])
            apply wpAnyN_takeL 3 (by kernel_rfl) rfl (fun _ _ _ h => h) (by kernel_rfl) s1
            · intro w' hS'
              go_simp; exact ⟨rfl, rfl⟩
            (try simp only [Act.put]); (try simp only [List.setIfInBounds_toArray]); (try simp only [List.set])
            apply wpAnyN_takeL 4 (v := (.slice (some ⟨b, 0, none⟩) M d'.cs)) (by kernel_rfl) rfl (fun _ _ _ h => h) (by kernel_rfl) s1
            · intro w' hS'
              (have k3 := hS'.1.cell 2; go_simp; exact ⟨rfl, rfl⟩)
            (try simp only [Act.put]); (try simp only [List.setIfInBounds_toArray]); (try simp only [List.set])
            apply wpAnyN_takeL 5 (by kernel_rfl) rfl (fun _ _ _ h => h) (by kernel_rfl) s1
            · intro w' hS'
              go_simp; exact ⟨rfl, rfl⟩
            (try simp only [Act.put]); (try simp only [List.setIfInBounds_toArray]); (try simp only [List.set])
            apply wpAnyN_takeL 6 (v := (.pointer (some ⟨b, j0 * 4, none⟩))) (by kernel_rfl) rfl (fun _ _ _ h => h) (by kernel_rfl) s1
            · intro w' hS'
              (go_simp; exact ⟨rfl, rfl⟩)
            (try simp only [Act.put]); (try simp only [List.setIfInBounds_toArray]); (try simp only [List.set])
            apply wpAnyN_takeL 7 (by kernel_rfl) rfl (fun _ _ _ h => h) (by kernel_rfl) s1
            · intro w' hS'
              go_simp; exact ⟨rfl, rfl⟩
            (try simp only [Act.put]); (try simp only [List.setIfInBounds_toArray]); (try simp only [List.set])
            apply wpAnyN_takeL 8 (v := (.agg #[.slice yA yn yc, .bool false])) (by kernel_rfl) rfl (fun _ _ _ h => h) (by kernel_rfl) s1
            · intro w' hS'
              (have k0 := hS'.2.2.1; have k1 := hS'.2.2.2; go_simp; exact ⟨rfl, rfl⟩)
            (try simp only [Act.put]); (try simp only [List.setIfInBounds_toArray]); (try simp only [List.set])
            refine wpAnyN_runL 9 (by kernel_rfl) rfl (by kernel_rfl) (fun K hK => ?_)
            go_simp
            refine hK _ _ (fun _ => s1) ?_
            clear hK K
            (try simp only [Act.put]); (try simp only [List.setIfInBounds_toArray]); (try simp only [List.set])
            have q0 : Z.drew.cell? ⟨w1.heap.size, 0, none⟩ = some (.slice A n ca) := s1.2.1.cell 0
            have q1 : Z.drew.cell? ⟨w1.heap.size, 1, none⟩ = some (.bool fb) := s1.2.1.cell 1
            have f0 := s1.2.1.frozen 0
            have f1 := s1.2.1.frozen 1
            have q2 : Z.cell? ⟨w1.heap.size, 0, none⟩ = some (.slice A n ca) := q0
            have q3 : Z.cell? ⟨w1.heap.size, 1, none⟩ = some (.bool fb) := q1
            have f2 : Z.frozen? ⟨w1.heap.size, 0, none⟩ = false := f0
            have f3 : Z.frozen? ⟨w1.heap.size, 1, none⟩ = false := f1
            refine wpAnyN_runL 10 (by kernel_rfl) rfl (by kernel_rfl) (fun K hK => ?_)
            go_simp
            refine hK _ _ (fun h => absurd rfl h) ?_
            clear hK K q0 q1 f0 f1 q2 q3 f2 f3
            (try simp only [Act.put])
            refine wpAnyN_done (by kernel_rfl) ?_ _
            obtain ⟨W, hW⟩ : ∃ W, W = ((Z.setCell ⟨w1.heap.size, 0, none⟩ (.slice yA yn yc)).setCell ⟨w1.heap.size, 1, none⟩ (.bool false)).drew := ⟨_, rfl⟩
            rw [← hW]
            have zb := HM.out.blk
            have bu : But [w1.heap.size] Z W := by rw [hW]; exact (((But.refl _ _).setCell (p := ⟨w1.heap.size, 0, none⟩) (by simp) _).setCell (p := ⟨w1.heap.size, 1, none⟩) (by simp) _).drew
            have ke : KeepM TD Z W := by rw [hW]; exact (((KeepM.refl _ _).setCell (p := ⟨w1.heap.size, 0, none⟩) zb (by decide) _).setCell (p := ⟨w1.heap.size, 1, none⟩) (zb.set_ 0 _) (by decide) _).drew
            have bw : Blk W w1.heap.size 70 [.slice yA yn yc, .bool false] := by rw [hW]; exact ((zb.set_ 0 _).set_ 1 _).drew
            have hst := HM.out.step (fun _ => HNo.out trivial) bu ke bw (HyR.out.1.keepM ke (by decide)) HyR.out.2 Hyn.out HKn.out
            have hmz : W.iterPos w2.heap.size = pos + q' := by simp only [World.iterPos, hst.it]
            have HSt := Lib.hid hst; have Hmz := Lib.hid hmz
            clear zb bu ke bw hst hmz s1 hW
            go_wp2
            go_roundw
            case rel => exact ⟨pos + q', k + 1, yA, yn, yc, false, _, _, d', rfl, HSt⟩
            case measure => rw [Hmz.out, Hip.out]; exact Hmeas.out
          · have hgo2 : ¬ 0 ≤ i ∨ (0 ≤ i ∧ LK = none) := hgo
            clear hgo
            rcases hgo2 with z1 | ⟨z1, rfl⟩
            all_goals
              go_upto_region 12 with fail
              obtain ⟨Bq, Lq, hpq⟩ := HM.out.ci.prog
              have hstp := vStep HM.out.ci.good.prog st HM.out.lt A n ca HM.out.len (by omega) fb r true d'.g Z.drew (HM.out.row.below (Below.refl _ _).drew) (Below.refl _ _).drew (hpq.below (Below.refl _ _).drew)
              have s1 : Blk Z.drew c 80 [.pointer (some ⟨d'.g, 0, none⟩), .int .i64 lim, .slice d'.A M d'.cs, .map (some d'.mN), .map (some d'.mE)] ∧ Blk Z.drew w1.heap.size 70 [.slice A n ca, .bool fb] := ⟨bc.drew, HM.out.blk.drew⟩
              have HStp := Lib.hid hstp
              clear hstp hpq hlk
              refine wp_region_N (fun w' => Blk w' c 80 [.pointer (some ⟨d'.g, 0, none⟩), .int .i64 lim, .slice d'.A M d'.cs, .map (some d'.mN), .map (some d'.mE)] ∧ Blk w' w1.heap.size 70 [.slice A n ca, .bool fb]) 8 (by kernel_rfl) ?_
              apply wpAnyN_takeL 0 (by kernel_rfl) rfl (fun _ _ _ h => h) (by kernel_rfl) s1
              · intro w' hS'
                go_simp; exact ⟨rfl, rfl⟩
              (try simp only [Act.put]); (try simp only [List.setIfInBounds_toArray]); (try simp only [List.set])
              apply wpAnyN_takeL 1 (by kernel_rfl) rfl (fun _ _ _ h => h) (by kernel_rfl) s1
              · intro w' hS'
                go_simp; exact ⟨rfl, rfl⟩
              (try simp only [Act.put]); (try simp only [List.setIfInBounds_toArray]); (try simp only [List.set])
              apply wpAnyN_takeL 2 (by kernel_rfl) rfl (fun _ _ _ h => h) (by kernel_rfl) s1
              · intro w' hS'
                go_simp; exact ⟨rfl, rfl⟩
              (try simp only [Act.put]); (try simp only [List.setIfInBounds_toArray]); (try simp only [List.set])
              apply wpAnyN_takeL 3 (v := (.pointer (some ⟨d'.g, 0, none⟩))) (by kernel_rfl) rfl (fun _ _ _ h => h) (by kernel_rfl) s1
              · intro w' hS'
                (have k3 := hS'.1.cell 0; go_simp; exact ⟨rfl, rfl⟩)
              (try simp only [Act.put]); (try simp only [List.setIfInBounds_toArray]); (try simp only [List.set])
              apply wpAnyN_takeL 4 (v := (.agg #[.slice A n ca, .bool fb])) (by kernel_rfl) rfl (fun _ _ _ h => h) (by kernel_rfl) s1
              · intro w' hS'
                (have k0 := hS'.2.cell 0; have k1 := hS'.2.cell 1; go_simp; exact ⟨rfl, rfl⟩)
              (try simp only [Act.put]); (try simp only [List.setIfInBounds_toArray]); (try simp only [List.set])
              apply wpAnyN_takeL 5 (by kernel_rfl) rfl (fun _ _ _ h => h) (by kernel_rfl) s1
              · intro w' hS'
                go_simp; exact ⟨rfl, rfl⟩
              (try simp only [Act.put]); (try simp only [List.setIfInBounds_toArray]); (try simp only [List.set])
              apply wpAnyN_takeL 6 (by kernel_rfl) rfl (fun _ _ _ h => h) (by kernel_rfl) s1
              · intro w' hS'
                go_simp; exact ⟨rfl, rfl⟩
              (try simp only [Act.put]); (try simp only [List.setIfInBounds_toArray]); (try simp only [List.set])
              refine wpAnyN_runL 7 (by kernel_rfl) rfl (by kernel_rfl) (fun K hK => ?_)
              go_simp
              refine HStp.out.mono ?_
              rintro e w3 ⟨v3, rfl, own3, hb3⟩
              obtain ⟨n3, hn3⟩ : ∃ n3, (stepR (progR t) true st r).length = n3 := ⟨_, rfl⟩
              rw [hn3] at own3
              obtain ⟨A3, c3, rfl, -⟩ := own_form own3
              have s2 : Blk w3 c 80 [.pointer (some ⟨d'.g, 0, none⟩), .int .i64 lim, .slice d'.A M d'.cs, .map (some d'.mN), .map (some d'.mE)] ∧ Blk w3 w1.heap.size 70 [.slice A n ca, .bool fb] := ⟨s1.1.below hb3 s1.1.lt, s1.2.below hb3 s1.2.lt⟩
              have hm3 := HM.out.below ((Below.refl _ _).drew.trans hb3)
              have q0 : w3.cell? ⟨w1.heap.size, 0, none⟩ = some (.slice A n ca) := s2.2.cell 0
              have q1 : w3.cell? ⟨w1.heap.size, 1, none⟩ = some (.bool fb) := s2.2.cell 1
              have f0 := s2.2.frozen 0
              have f1 := s2.2.frozen 1
              have HM3 := Lib.hid hm3; have Own3 := Lib.hid own3; have Hn3 := Lib.hid hn3
              refine hK _ _ (fun _ => s2) ?_
              clear hK K hb3 hm3 own3 hn3 s1
              (try simp only [Act.put]); (try simp only [List.setIfInBounds_toArray]); (try simp only [List.set])
              refine wpAnyN_runL 8 (by kernel_rfl) rfl (by kernel_rfl) (fun K hK => ?_)
              go_simp
              refine hK _ _ (fun h => absurd rfl h) ?_
              clear hK K q0 q1 f0 f1
              (try simp only [Act.put])
              refine wpAnyN_done (by kernel_rfl) ?_ _
              obtain ⟨W, hW⟩ : ∃ W, W = (w3.setCell ⟨w1.heap.size, 0, none⟩ (.slice A3 n3 c3)).setCell ⟨w1.heap.size, 1, none⟩ (.bool false) := ⟨_, rfl⟩
              rw [← hW]
              have zb := s2.2
              have bu : But [w1.heap.size] w3 W := by rw [hW]; exact ((But.refl _ _).setCell (p := ⟨w1.heap.size, 0, none⟩) (by simp) _).setCell (p := ⟨w1.heap.size, 1, none⟩) (by simp) _
              have ke : KeepM TD w3 W := by rw [hW]; exact ((KeepM.refl _ _).setCell (p := ⟨w1.heap.size, 0, none⟩) zb (by decide) _).setCell (p := ⟨w1.heap.size, 1, none⟩) (zb.set_ 0 _) (by decide) _
              have bw : Blk W w1.heap.size 70 [.slice A3 n3 c3, .bool false] := by rw [hW]; exact (zb.set_ 0 _).set_ 1 _
              have hst := HM3.out.step (i' := -1) (fun _ => HNo.out trivial) bu ke bw ((RowT.of_own Own3.out).keepM ke (by decide)) (PlainA.of_own Own3.out) Hn3.out (.inl rfl)
              have hTW : TabW B0 W := HT.out.on (hst.cs.low HC.out)
              have hkp := vKeep B0 c t lim d' false _ A3 n3 c3 Hn3.out hst.lt hst.nle (PlainA.of_own Own3.out) W hst.ci hst.row hTW
              have y0 : W.cell? ⟨w1.heap.size, 0, none⟩ = some (.slice A3 n3 c3) := bw.cell 0
              have y1 : W.cell? ⟨w1.heap.size, 1, none⟩ = some (.bool false) := bw.cell 1
              have HSt := Lib.hid hst; have HKp := Lib.hid hkp
              clear zb bu ke bw hst hkp hTW s2 hW bc
              go_wp2_with fail
              refine HKp.out.mono ?_
              rintro e w4 ⟨i4, d4, rfl, hc4, hs4, hk4, hp4⟩
              have hl4 := HSt.out.call hc4 hs4 hk4 hp4
              have hmz : w4.iterPos w2.heap.size = pos + q' := by simp only [World.iterPos, hl4.it]
              have HL4 := Lib.hid hl4; have HS4 := Lib.hid hs4; have HK4 := Lib.hid hk4; have Hmz := Lib.hid hmz
              clear hc4 hs4 hk4 hp4 hl4 hmz y0 y1 HKp HStp
              have k4' : w4.cell? ⟨c, 4, none⟩ = some (.map (some d4.mE)) := HL4.out.ci.blk.cell 4
              have hln : ∀ ty, (Builtin.len_ #[78] ty #[.map (some d4.mE)]).run Tryz.prog w4 = .ok (.int .i64 (d4.nE : Nat)) w4 := fun ty => by
                obtain ⟨es, ck, hm, hn, -⟩ := HL4.out.ci.mapE
                simp [Builtin.len_, run_underlying Tryz.underlying78, MapKept.run_getObj_map hm, Result.andThen, goInt, hn]
              have hno3 : (0 ≤ i ∧ 0 ≤ i4 ∧ ((d4.nE : Nat) : Int) < 4096) ∨ ¬ 0 ≤ i ∨ (0 ≤ i ∧ ¬ 0 ≤ i4) ∨ (0 ≤ i ∧ 0 ≤ i4 ∧ ¬ ((d4.nE : Nat) : Int) < 4096) := by omega
              obtain ⟨NE, hNE⟩ : ∃ NE, d4.nE = NE := ⟨_, rfl⟩
              rw [hNE] at hln hno3
              have HNE := Lib.hid hNE
              clear hNE
              rcases hno3 with ⟨z2, z3, z4⟩ | z2 | ⟨z2, z3⟩ | ⟨z2, z3, z4⟩
              · first
                  | omega
                  | (go_upto_region 15 with fail
                     obtain ⟨w5, n5, hrun, hm5, hn5, hg5, hs5⟩ := run_putF edgeK_law Tryz.underlying78 HL4.out.ci.mapE (edgeAt i r true) (.int .i64 i4)
                     rw [Ek1.out] at hrun
                     have hgc : GoodC (progR t) lim (d4.ds.map (·.p)) d4.nm (fun x => if x = edgeAt i r true then some (.int .i64 i4) else d4.ed x) := by
                       rcases HM.out.ke with h | ⟨j, x, hij, hx, hx1, hx2⟩
                       · omega
                       rcases HK4.out with h | ⟨j4, y, hij4, hy, hy1, hy2⟩
                       · omega
                       rw [hij4]
                       have e3 : x.p.pcs = st := hx1
                       exact HL4.out.ci.gc.edge (edgeAt i r true) (i := j) (j := j4) (s := x.p) (u := y.p) (by rw [Ek2.out]; omega) (by rw [List.getElem?_map, HS4.out.more j x hx]; rfl) (by rw [List.getElem?_map, hy]; rfl) hy2 (by rw [hy1, e3, Ek3.out]; rfl)
                     obtain ⟨hc5, hs5'⟩ := HL4.out.ci.put hm5 hg5 (by rw [HNE.out] at hn5; omega) hgc
                     have hl5 := HL4.out.call hc5 hs5' HK4.out HL4.out.pos
                     have hmz5 : w5.iterPos w2.heap.size = pos + q' := by simp only [World.iterPos, hl5.it]
                     have HL5 := Lib.hid hl5; have Hmz5 := Lib.hid hmz5
                     clear hm5 hn5 hg5 hs5 hgc hc5 hs5' hl5 hmz5
                     go_wp2_with fail
                     go_roundw
                     case rel => exact ⟨pos + q', k + 1, A3, n3, c3, false, _, i4, _, rfl, HL5⟩
                     case measure => rw [Hmz5.out, Hip.out]; exact Hmeas.out)
              all_goals
                first
                  | omega
                  | (go_wp2_with fail
                     go_roundw
                     case rel => exact ⟨pos + q', k + 1, A3, n3, c3, false, _, i4, d4, rfl, HL4⟩
                     case measure => rw [Hmz.out, Hip.out]; exact Hmeas.out)
      · obtain ⟨Z, rfl⟩ : ∃ Z : World, Z = Y := ⟨_, rfl⟩
        have HM := Hmid
        have HNo := Lib.hid (Hmid.out.not fun h => by cases h)
        clear HH Hmb
        go_upto_region 8 with fail
        clear hnx y0 y1 Hmid
        have k4 : Z.cell? ⟨c, 4, none⟩ = some (.map (some d'.mE)) := HM.out.ci.blk.cell 4
        obtain ⟨hi1, hi2⟩ := HM.out.ke.range HM.out.ci
        obtain ⟨ek1, ek2, ek3⟩ := edgeAt_key (part := false) hi1 hi2 hrr
        have hlk := run_lookF edgeK_law Tryz.underlying78 HM.out.ci.mapE (z := .int .i64 0) (by kernel_rfl) (edgeAt i r false) true
        rw [ek1] at hlk
        obtain ⟨LK, hLK⟩ : ∃ LK, d'.ed (edgeAt i r false) = LK := ⟨_, rfl⟩
        rw [hLK] at hlk
        have hgo : (0 ≤ i ∧ ∃ v, LK = some v) ∨ (¬ 0 ≤ i) ∨ (0 ≤ i ∧ LK = none) := by
          by_cases h : 0 ≤ i
          · cases LK with
            | none => exact .inr (.inr ⟨h, rfl⟩)
            | some v => exact .inl ⟨h, v, rfl⟩
          · exact .inr (.inl h)
        have HLK := Lib.hid hLK; have Ek1 := Lib.hid ek1; have Ek2 := Lib.hid ek2; have Ek3 := Lib.hid ek3
        obtain ⟨M, hM⟩ : ∃ M, d'.ds.length = M := ⟨_, rfl⟩
        have hgl := HM.out.ci.gc.len
        have hgb := HM.out.ci.gc.lb
        rw [List.length_map, hM] at hgl
        have bc := HM.out.ci.blk
        rw [hM] at bc
        clear hLK ek1 ek2 ek3
        rcases hgo with ⟨z1, v, rfl⟩ | hgo
        · obtain ⟨i0, j0, s0, u0, g1, rfl, g3, g4, g5, g6⟩ := HM.out.ci.gc.ed _ _ HLK.out
          rw [Ek2.out] at g1
          rw [Ek3.out] at g6
          rw [List.getElem?_map] at g3 g4
          obtain ⟨y, hy, rfl⟩ := Option.map_eq_some_iff.1 g4
          have hs0 : s0.pcs = st := by
            rcases HM.out.ke with h | ⟨j, x, hij, hx, hx1, hx2⟩
            · omega
            · obtain rfl : j = i0 := by omega
              rw [hx] at g3
              injection g3 with g3
              rw [← g3]; exact hx1
          rw [hs0] at g6
          have g6 : y.p.pcs = stepR (progR t) false st r := g6
          obtain ⟨b, hAb, hcell⟩ := HM.out.ci.at_ hy
          have hyr := HM.out.ci.rows y (List.mem_of_getElem? hy)
          have hjM := (List.getElem?_eq_some_iff.1 hy).1
          rw [hM] at hjM
          have e0 := hcell 0 (by omega)
          have e1 := hcell 1 (by omega)
          obtain ⟨yn, hyn⟩ : ∃ yn, y.p.pcs.length = yn := ⟨_, rfl⟩
          obtain ⟨yA, hyA⟩ : ∃ yA, y.A = yA := ⟨_, rfl⟩
          obtain ⟨yc, hyc⟩ : ∃ yc, y.c = yc := ⟨_, rfl⟩
          have e0 : Z.cell? ⟨b, j0 * 4, none⟩ = some (.slice yA yn yc) := by rw [← hyn, ← hyA, ← hyc]; exact e0
          have e1 : Z.cell? ⟨b, j0 * 4 + 1, none⟩ = some (.bool false) := by rw [e1]; show some (Value.bool y.p.first) = _; rw [g5]
          rw [hyA, hyc, hyn, g6] at hyr
          rw [g6] at hyn
          rw [hAb] at bc
          have zj : (j0 : Int) < (M : Int) := by omega
          have hkn : KeptAt d' (j0 : Nat) false (stepR (progR t) false st r) := .inr ⟨j0, y, rfl, hy, g6, g5⟩
          have HyR := Lib.hid hyr; have Hyn := Lib.hid hyn; have HKn := Lib.hid hkn
          have s1 : Blk Z.drew c 80 [.pointer (some ⟨d'.g, 0, none⟩), .int .i64 lim, .slice (some ⟨b, 0, none⟩) M d'.cs, .map (some d'.mN), .map (some d'.mE)] ∧ Blk Z.drew w1.heap.size 70 [.slice A n ca, .bool fb] ∧ Z.drew.cell? ⟨b, j0 * 4, none⟩ = some (.slice yA yn yc) ∧ Z.drew.cell? ⟨b, j0 * 4 + 1, none⟩ = some (.bool false) := ⟨bc.drew, HM.out.blk.drew, e0, e1⟩
          clear hyr hyn hkn hcell hAb g1 g3 g4 g5 g6 hs0 hy hyA hyc bc e0 e1
          go_upto_region 10 with fail
          refine wp_region_N (fun w' => Blk w' c 80 [.pointer (some ⟨d'.g, 0, none⟩), .int .i64 lim, .slice (some ⟨b, 0, none⟩) M d'.cs, .map (some d'.mN), .map (some d'.mE)] ∧ Blk w' w1.heap.size 70 [.slice A n ca, .bool fb] ∧ w'.cell? ⟨b, j0 * 4, none⟩ = some (.slice yA yn yc) ∧ w'.cell? ⟨b, j0 * 4 + 1, none⟩ = some (.bool false)) 10 (by kernel_rfl) ?_
          apply wpAnyN_takeL 0 (by kernel_rfl) rfl (fun _ _ _ h => h) (by kernel_rfl) s1
          · intro w' hS'
            go_simp; exact ⟨rfl, rfl⟩
          (try simp only [Act.put]); (try simp only [List.setIfInBounds_toArray]); (try simp only [List.set])
          apply wpAnyN_takeL 1 (by kernel_rfl) rfl (fun _ _ _ h => h) (by kernel_rfl) s1
          · intro w' hS'
            go_simp; exact ⟨rfl, rfl⟩
          (try simp only [Act.put]); (try simp only [List.setIfInBounds_toArray]); (try simp only [List.set])
          apply wpAnyN_takeL 2 (by kernel_rfl) rfl (fun _ _ _ h => h) (by kernel_rfl) s1
          · intro w' hS'
            go_simp; exact ⟨rfl, rfl⟩
          (try simp only [Act.put]); (try simp only [List.setIfInBounds_toArray]); (try simp only [List.set])
          apply wpAnyN_takeL 3 (by kernel_rfl) rfl (fun _ _ _ h => h) (by kernel_rfl) s1
          · intro w' hS'
            go_simp; exact ⟨rfl, rfl⟩
          (try simp only [Act.put]); (try simp only [List.setIfInBounds_toArray]); (try simp only [List.set])
          apply wpAnyN_takeL 4 (v := (.slice (some ⟨b, 0, none⟩) M d'.cs)) (by kernel_rfl) rfl (fun _ _ _ h => h) (by kernel_rfl) s1
          · intro w' hS'
            (have k3 := hS'.1.cell 2; go_simp; exact ⟨rfl, rfl⟩)
          (try simp only [Act.put]); (try simp only [List.setIfInBounds_toArray]); (try simp only [List.set])
          apply wpAnyN_takeL 5 (by kernel_rfl) rfl (fun _ _ _ h => h) (by kernel_rfl) s1
          · intro w' hS'
            go_simp; exact ⟨rfl, rfl⟩
          (try simp only [Act.put]); (try simp only [List.setIfInBounds_toArray]); (try simp only [List.set])
          apply wpAnyN_takeL 6 (v := (.pointer (some ⟨b, j0 * 4, none⟩))) (by kernel_rfl) rfl (fun _ _ _ h => h) (by kernel_rfl) s1
          · intro w' hS'
            (go_simp; exact ⟨rfl, rfl⟩)
          (try simp only [Act.put]); (try simp only [List.setIfInBounds_toArray]); (try simp only [List.set])
          apply wpAnyN_takeL 7 (by kernel_rfl) rfl (fun _ _ _ h => h) (by kernel_rfl) s1
          · intro w' hS'
            go_simp; exact ⟨rfl, rfl⟩
          (try simp only [Act.put]); (try simp only [List.setIfInBounds_toArray]); (try simp only [List.set])
          apply wpAnyN_takeL 8 (v := (.agg #[.slice yA yn yc, .bool false])) (by kernel_rfl) rfl (fun _ _ _ h => h) (by kernel_rfl) s1
          · intro w' hS'
            (have k0 := hS'.2.2.1; have k1 := hS'.2.2.2; go_simp; exact ⟨rfl, rfl⟩)
          (try simp only [Act.put]); (try simp only [List.setIfInBounds_toArray]); (try simp only [List.set])
          refine wpAnyN_runL 9 (by kernel_rfl) rfl (by kernel_rfl) (fun K hK => ?_)
          go_simp
          refine hK _ _ (fun _ => s1) ?_
          clear hK K
          (try simp only [Act.put]); (try simp only [List.setIfInBounds_toArray]); (try simp only [List.set])
          have q0 : Z.drew.cell? ⟨w1.heap.size, 0, none⟩ = some (.slice A n ca) := s1.2.1.cell 0
          have q1 : Z.drew.cell? ⟨w1.heap.size, 1, none⟩ = some (.bool fb) := s1.2.1.cell 1
          have f0 := s1.2.1.frozen 0
          have f1 := s1.2.1.frozen 1
          have q2 : Z.cell? ⟨w1.heap.size, 0, none⟩ = some (.slice A n ca) := q0
          have q3 : Z.cell? ⟨w1.heap.size, 1, none⟩ = some (.bool fb) := q1
          have f2 : Z.frozen? ⟨w1.heap.size, 0, none⟩ = false := f0
          have f3 : Z.frozen? ⟨w1.heap.size, 1, none⟩ = false := f1
          refine wpAnyN_runL 10 (by kernel_rfl) rfl (by kernel_rfl) (fun K hK => ?_)
          go_simp
          refine hK _ _ (fun h => absurd rfl h) ?_
          clear hK K q0 q1 f0 f1 q2 q3 f2 f3
          (try simp only [Act.put])
          refine wpAnyN_done (by kernel_rfl) ?_ _
          obtain ⟨W, hW⟩ : ∃ W, W = ((Z.setCell ⟨w1.heap.size, 0, none⟩ (.slice yA yn yc)).setCell ⟨w1.heap.size, 1, none⟩ (.bool false)).drew := ⟨_, rfl⟩
          rw [← hW]
          have zb := HM.out.blk
          have bu : But [w1.heap.size] Z W := by rw [hW]; exact (((But.refl _ _).setCell (p := ⟨w1.heap.size, 0, none⟩) (by simp) _).setCell (p := ⟨w1.heap.size, 1, none⟩) (by simp) _).drew
          have ke : KeepM TD Z W := by rw [hW]; exact (((KeepM.refl _ _).setCell (p := ⟨w1.heap.size, 0, none⟩) zb (by decide) _).setCell (p := ⟨w1.heap.size, 1, none⟩) (zb.set_ 0 _) (by decide) _).drew
          have bw : Blk W w1.heap.size 70 [.slice yA yn yc, .bool false] := by rw [hW]; exact ((zb.set_ 0 _).set_ 1 _).drew
          have hst := HM.out.step (fun h => by cases h) bu ke bw (HyR.out.1.keepM ke (by decide)) HyR.out.2 Hyn.out HKn.out
          have hmz : W.iterPos w2.heap.size = pos + q' := by simp only [World.iterPos, hst.it]
          have HSt := Lib.hid hst; have Hmz := Lib.hid hmz
          clear zb bu ke bw hst hmz s1 hW
          go_wp2
          go_roundw
          case rel => exact ⟨pos + q', k + 1, yA, yn, yc, false, _, _, d', rfl, HSt⟩
          case measure => rw [Hmz.out, Hip.out]; exact Hmeas.out
        · have hgo2 : ¬ 0 ≤ i ∨ (0 ≤ i ∧ LK = none) := hgo
          clear hgo
          rcases hgo2 with z1 | ⟨z1, rfl⟩
          all_goals
            go_upto_region 12 with fail
            obtain ⟨Bq, Lq, hpq⟩ := HM.out.ci.prog
            have hstp := vStep HM.out.ci.good.prog st HM.out.lt A n ca HM.out.len (by omega) fb r false d'.g Z.drew (HM.out.row.below (Below.refl _ _).drew) (Below.refl _ _).drew (hpq.below (Below.refl _ _).drew)
            have s1 : Blk Z.drew c 80 [.pointer (some ⟨d'.g, 0, none⟩), .int .i64 lim, .slice d'.A M d'.cs, .map (some d'.mN), .map (some d'.mE)] ∧ Blk Z.drew w1.heap.size 70 [.slice A n ca, .bool fb] := ⟨bc.drew, HM.out.blk.drew⟩
            have HStp := Lib.hid hstp
            clear hstp hpq hlk
            refine wp_region_N (fun w' => Blk w' c 80 [.pointer (some ⟨d'.g, 0, none⟩), .int .i64 lim, .slice d'.A M d'.cs, .map (some d'.mN), .map (some d'.mE)] ∧ Blk w' w1.heap.size 70 [.slice A n ca, .bool fb]) 8 (by kernel_rfl) ?_
            apply wpAnyN_takeL 0 (by kernel_rfl) rfl (fun _ _ _ h => h) (by kernel_rfl) s1
            · intro w' hS'
              go_simp; exact ⟨rfl, rfl⟩
            (try simp only [Act.put]); (try simp only [List.setIfInBounds_toArray]); (try simp only [List.set])
            apply wpAnyN_takeL 1 (by kernel_rfl) rfl (fun _ _ _ h => h) (by kernel_rfl) s1
            · intro w' hS'
              go_simp; exact ⟨rfl, rfl⟩
            (try simp only [Act.put]); (try simp only [List.setIfInBounds_toArray]); (try simp only [List.set])
            apply wpAnyN_takeL 2 (by kernel_rfl) rfl (fun _ _ _ h => h) (by kernel_rfl) s1
            · intro w' hS'
              go_simp; exact ⟨rfl, rfl⟩
            (try simp only [Act.put]); (try simp only [List.setIfInBounds_toArray]); (try simp only [List.set])
            apply wpAnyN_takeL 3 (v := (.pointer (some ⟨d'.g, 0, none⟩))) (by kernel_rfl) rfl (fun _ _ _ h => h) (by kernel_rfl) s1
            · intro w' hS'
              (have k3 := hS'.1.cell 0; go_simp; exact ⟨rfl, rfl⟩)
            (try simp only [Act.put]); (try simp only [List.setIfInBounds_toArray]); (try simp only [List.set])
            apply wpAnyN_takeL 4 (v := (.agg #[.slice A n ca, .bool fb])) (by kernel_rfl) rfl (fun _ _ _ h => h) (by kernel_rfl) s1
            · intro w' hS'
              (have k0 := hS'.2.cell 0; have k1 := hS'.2.cell 1; go_simp; exact ⟨rfl, rfl⟩)
            (try simp only [Act.put]); (try simp only [List.setIfInBounds_toArray]); (try simp only [List.set])
            apply wpAnyN_takeL 5 (by kernel_rfl) rfl (fun _ _ _ h => h) (by kernel_rfl) s1
            · intro w' hS'
              go_simp; exact ⟨rfl, rfl⟩
            (try simp only [Act.put]); (try simp only [List.setIfInBounds_toArray]); (try simp only [List.set])
            apply wpAnyN_takeL 6 (by kernel_rfl) rfl (fun _ _ _ h => h) (by kernel_rfl) s1
            · intro w' hS'
              go_simp; exact ⟨rfl, rfl⟩
            (try simp only [Act.put]); (try simp only [List.setIfInBounds_toArray]); (try simp only [List.set])
            refine wpAnyN_runL 7 (by kernel_rfl) rfl (by kernel_rfl) (fun K hK => ?_)
            go_simp
            refine HStp.out.mono ?_
            rintro e w3 ⟨v3, rfl, own3, hb3⟩
            obtain ⟨n3, hn3⟩ : ∃ n3, (stepR (progR t) false st r).length = n3 := ⟨_, rfl⟩
            rw [hn3] at own3
            obtain ⟨A3, c3, rfl, -⟩ := own_form own3
            have s2 : Blk w3 c 80 [.pointer (some ⟨d'.g, 0, none⟩), .int .i64 lim, .slice d'.A M d'.cs, .map (some d'.mN), .map (some d'.mE)] ∧ Blk w3 w1.heap.size 70 [.slice A n ca, .bool fb] := ⟨s1.1.below hb3 s1.1.lt, s1.2.below hb3 s1.2.lt⟩
            have hm3 := HM.out.below ((Below.refl _ _).drew.trans hb3)
            have q0 : w3.cell? ⟨w1.heap.size, 0, none⟩ = some (.slice A n ca) := s2.2.cell 0
            have q1 : w3.cell? ⟨w1.heap.size, 1, none⟩ = some (.bool fb) := s2.2.cell 1
            have f0 := s2.2.frozen 0
            have f1 := s2.2.frozen 1
            have HM3 := Lib.hid hm3; have Own3 := Lib.hid own3; have Hn3 := Lib.hid hn3
            refine hK _ _ (fun _ => s2) ?_
            clear hK K hb3 hm3 own3 hn3 s1
            (try simp only [Act.put]); (try simp only [List.setIfInBounds_toArray]); (try simp only [List.set])
            refine wpAnyN_runL 8 (by kernel_rfl) rfl (by kernel_rfl) (fun K hK => ?_)
            go_simp
            refine hK _ _ (fun h => absurd rfl h) ?_
            clear hK K q0 q1 f0 f1
            (try simp only [Act.put])
            refine wpAnyN_done (by kernel_rfl) ?_ _
            obtain ⟨W, hW⟩ : ∃ W, W = (w3.setCell ⟨w1.heap.size, 0, none⟩ (.slice A3 n3 c3)).setCell ⟨w1.heap.size, 1, none⟩ (.bool false) := ⟨_, rfl⟩
            rw [← hW]
            have zb := s2.2
            have bu : But [w1.heap.size] w3 W := by rw [hW]; exact ((But.refl _ _).setCell (p := ⟨w1.heap.size, 0, none⟩) (by simp) _).setCell (p := ⟨w1.heap.size, 1, none⟩) (by simp) _
            have ke : KeepM TD w3 W := by rw [hW]; exact ((KeepM.refl _ _).setCell (p := ⟨w1.heap.size, 0, none⟩) zb (by decide) _).setCell (p := ⟨w1.heap.size, 1, none⟩) (zb.set_ 0 _) (by decide) _
            have bw : Blk W w1.heap.size 70 [.slice A3 n3 c3, .bool false] := by rw [hW]; exact (zb.set_ 0 _).set_ 1 _
            have hst := HM3.out.step (i' := -1) (fun h => by cases h) bu ke bw ((RowT.of_own Own3.out).keepM ke (by decide)) (PlainA.of_own Own3.out) Hn3.out (.inl rfl)
            have hTW : TabW B0 W := HT.out.on (hst.cs.low HC.out)
            have hkp := vKeep B0 c t lim d' false _ A3 n3 c3 Hn3.out hst.lt hst.nle (PlainA.of_own Own3.out) W hst.ci hst.row hTW
            have y0 : W.cell? ⟨w1.heap.size, 0, none⟩ = some (.slice A3 n3 c3) := bw.cell 0
            have y1 : W.cell? ⟨w1.heap.size, 1, none⟩ = some (.bool false) := bw.cell 1
            have HSt := Lib.hid hst; have HKp := Lib.hid hkp
            clear zb bu ke bw hst hkp hTW s2 hW bc
            go_wp2_with fail
            refine HKp.out.mono ?_
            rintro e w4 ⟨i4, d4, rfl, hc4, hs4, hk4, hp4⟩
            have hl4 := HSt.out.call hc4 hs4 hk4 hp4
            have hmz : w4.iterPos w2.heap.size = pos + q' := by simp only [World.iterPos, hl4.it]
            have HL4 := Lib.hid hl4; have HS4 := Lib.hid hs4; have HK4 := Lib.hid hk4; have Hmz := Lib.hid hmz
            clear hc4 hs4 hk4 hp4 hl4 hmz y0 y1 HKp HStp
            have k4' : w4.cell? ⟨c, 4, none⟩ = some (.map (some d4.mE)) := HL4.out.ci.blk.cell 4
            have hln : ∀ ty, (Builtin.len_ #[78] ty #[.map (some d4.mE)]).run Tryz.prog w4 = .ok (.int .i64 (d4.nE : Nat)) w4 := fun ty => by
              obtain ⟨es, ck, hm, hn, -⟩ := HL4.out.ci.mapE
              simp [Builtin.len_, run_underlying Tryz.underlying78, MapKept.run_getObj_map hm, Result.andThen, goInt, hn]
            have hno3 : (0 ≤ i ∧ 0 ≤ i4 ∧ ((d4.nE : Nat) : Int) < 4096) ∨ ¬ 0 ≤ i ∨ (0 ≤ i ∧ ¬ 0 ≤ i4) ∨ (0 ≤ i ∧ 0 ≤ i4 ∧ ¬ ((d4.nE : Nat) : Int) < 4096) := by omega
            obtain ⟨NE, hNE⟩ : ∃ NE, d4.nE = NE := ⟨_, rfl⟩
            rw [hNE] at hln hno3
            have HNE := Lib.hid hNE
            clear hNE
            rcases hno3 with ⟨z2, z3, z4⟩ | z2 | ⟨z2, z3⟩ | ⟨z2, z3, z4⟩
            · first
                | omega
                | (go_upto_region 15 with fail
                   obtain ⟨w5, n5, hrun, hm5, hn5, hg5, hs5⟩ := run_putF edgeK_law Tryz.underlying78 HL4.out.ci.mapE (edgeAt i r false) (.int .i64 i4)
                   rw [Ek1.out] at hrun
                   have hgc : GoodC (progR t) lim (d4.ds.map (·.p)) d4.nm (fun x => if x = edgeAt i r false then some (.int .i64 i4) else d4.ed x) := by
                     rcases HM.out.ke with h | ⟨j, x, hij, hx, hx1, hx2⟩
                     · omega
                     rcases HK4.out with h | ⟨j4, y, hij4, hy, hy1, hy2⟩
                     · omega
                     rw [hij4]
                     have e3 : x.p.pcs = st := hx1
                     exact HL4.out.ci.gc.edge (edgeAt i r false) (i := j) (j := j4) (s := x.p) (u := y.p) (by rw [Ek2.out]; omega) (by rw [List.getElem?_map, HS4.out.more j x hx]; rfl) (by rw [List.getElem?_map, hy]; rfl) hy2 (by rw [hy1, e3, Ek3.out]; rfl)
                   obtain ⟨hc5, hs5'⟩ := HL4.out.ci.put hm5 hg5 (by rw [HNE.out] at hn5; omega) hgc
                   have hl5 := HL4.out.call hc5 hs5' HK4.out HL4.out.pos
                   have hmz5 : w5.iterPos w2.heap.size = pos + q' := by simp only [World.iterPos, hl5.it]
                   have HL5 := Lib.hid hl5; have Hmz5 := Lib.hid hmz5
                   clear hm5 hn5 hg5 hs5 hgc hc5 hs5' hl5 hmz5
                   go_wp2_with fail
                   go_roundw
                   case rel => exact ⟨pos + q', k + 1, A3, n3, c3, false, _, i4, _, rfl, HL5⟩
                   case measure => rw [Hmz5.out, Hip.out]; exact Hmeas.out)
            all_goals
              first
                | omega
                | (go_wp2_with fail
                   go_roundw
                   case rel => exact ⟨pos + q', k + 1, A3, n3, c3, false, _, i4, d4, rfl, HL4⟩
                   case measure => rw [Hmz.out, Hip.out]; exact Hmeas.out)
    · have hnx : ∀ ty, (Instr.next (.pointer (some ⟨w2.heap.size, 0, none⟩)) true ty).run Tryz.prog wr = _ := fun ty => Lib.run_next_end_at wr w2.heap.size S pos ty hit (by omega)
      have hk := hlo.out.at_.done hpos
      have hnl := hlo.out.nle
      obtain ⟨M, hM⟩ : ∃ M, d'.ds.length = M := ⟨_, rfl⟩
      have hgl := hlo.out.ci.gc.len
      have hgb := hlo.out.ci.gc.lb
      rw [List.length_map, hM] at hgl
      have bc := hlo.out.ci.blk
      rw [hM] at bc
      have hans : matB (progR t) st fb true = ansD part t rs := by
        have h := ans_end hlo.out.ci.good.ok part rs (by rw [← hk]; exact hlo.out.no)
        rw [← hk, ← hlo.out.eq, ← hlo.out.feq] at h
        exact h
      rcases hlo.out.ke with rfl | ⟨j, x, rfl, hx, hx1, hx2⟩
      · obtain ⟨Bp, Lp, hp⟩ := hlo.out.ci.prog
        have hm := vMatches hlo.out.ci.good.prog st hlo.out.lt A n ca hlo.out.len (by omega) hlo.out.pl fb true d'.g wr.drew (hlo.out.row.below (Below.refl _ _).drew) (hp.below (Below.refl _ _).drew)
        rw [hans] at hm
        have s1 : Blk wr.drew c 80 [.pointer (some ⟨d'.g, 0, none⟩), .int .i64 lim, .slice d'.A M d'.cs, .map (some d'.mN), .map (some d'.mE)] ∧ Blk wr.drew w1.heap.size 70 [.slice A n ca, .bool fb] := ⟨bc.drew, hlo.out.blk.drew⟩
        have HMt := Lib.hid hm
        clear hm hp hans bc hk hpos
        go_upto_region 18 with fail
        refine wp_region_N (fun w' => Blk w' c 80 [.pointer (some ⟨d'.g, 0, none⟩), .int .i64 lim, .slice d'.A M d'.cs, .map (some d'.mN), .map (some d'.mE)] ∧ Blk w' w1.heap.size 70 [.slice A n ca, .bool fb]) 100 (by kernel_rfl) ?_
        apply wpAnyN_takeL 0 (by kernel_rfl) rfl (fun _ _ _ h => h) (by kernel_rfl) s1
        · intro w' hS'
          go_simp; exact ⟨rfl, rfl⟩
        (try simp only [Act.put]); (try simp only [List.setIfInBounds_toArray]); (try simp only [List.set])
        apply wpAnyN_takeL 1 (by kernel_rfl) rfl (fun _ _ _ h => h) (by kernel_rfl) s1
        · intro w' hS'
          go_simp; exact ⟨rfl, rfl⟩
        (try simp only [Act.put]); (try simp only [List.setIfInBounds_toArray]); (try simp only [List.set])
        apply wpAnyN_takeL 2 (by kernel_rfl) rfl (fun _ _ _ h => h) (by kernel_rfl) s1
        · intro w' hS'
          go_simp; exact ⟨rfl, rfl⟩
        (try simp only [Act.put]); (try simp only [List.setIfInBounds_toArray]); (try simp only [List.set])
        apply wpAnyN_takeL 3 (v := (.pointer (some ⟨d'.g, 0, none⟩))) (by kernel_rfl) rfl (fun _ _ _ h => h) (by kernel_rfl) s1
        · intro w' hS'
          (have k3 := hS'.1.cell 0; go_simp; exact ⟨rfl, rfl⟩)
        (try simp only [Act.put]); (try simp only [List.setIfInBounds_toArray]); (try simp only [List.set])
        apply wpAnyN_takeL 4 (v := (.agg #[.slice A n ca, .bool fb])) (by kernel_rfl) rfl (fun _ _ _ h => h) (by kernel_rfl) s1
        · intro w' hS'
          (have k0 := hS'.2.cell 0; have k1 := hS'.2.cell 1; go_simp; exact ⟨rfl, rfl⟩)
        (try simp only [Act.put]); (try simp only [List.setIfInBounds_toArray]); (try simp only [List.set])
        refine wpAnyN_runL 5 (by kernel_rfl) rfl (by kernel_rfl) (fun K hK => ?_)
        go_simp
        refine HMt.out.mono ?_
        rintro e w3 ⟨rfl, hb3⟩
        have s2 : Blk w3 c 80 [.pointer (some ⟨d'.g, 0, none⟩), .int .i64 lim, .slice d'.A M d'.cs, .map (some d'.mN), .map (some d'.mE)] ∧ Blk w3 w1.heap.size 70 [.slice A n ca, .bool fb] := ⟨s1.1.below hb3 s1.1.lt, s1.2.below hb3 s1.2.lt⟩
        have hb4 : Below wr.heap.size wr w3 := (Below.refl _ _).drew.trans hb3
        have HB4 := Lib.hid hb4
        refine hK _ _ (fun _ => s2) ?_
        clear hK K hb3 hb4 s1
        (try simp only [Act.put]); (try simp only [List.setIfInBounds_toArray]); (try simp only [List.set])
        refine wpAnyN_runL 6 (by kernel_rfl) rfl (by kernel_rfl) (fun K hK => ?_)
        go_simp
        refine hK _ _ (fun _ => s2) ?_
        clear hK K
        (try simp only [Act.put])
        refine wpAnyN_done (by kernel_rfl) ?_ _
        go_wp2
        go_ret
        exact ⟨rfl, d', hlo.out.ci.below HB4.out, hlo.out.cs.trans (.of_below HB4.out), hlo.out.pos⟩
      · obtain ⟨b, hAb, hcell⟩ := hlo.out.ci.at_ hx
        have hjM := (List.getElem?_eq_some_iff.1 hx).1
        rw [hM] at hjM
        have e3 : wr.cell? ⟨b, j * 4 + 3, none⟩ = some (.bool (ansD part t rs)) := by
          rw [hcell 3 (by omega)]
          show some (Value.bool x.p.last) = _
          rw [hlo.out.ci.gc.last x.p (List.mem_map.2 ⟨x, List.mem_of_getElem? hx, rfl⟩), hx1, hx2, hans]
        rw [hAb] at bc
        have k2 : wr.cell? ⟨c, 2, none⟩ = some (.slice (some ⟨b, 0, none⟩) M d'.cs) := bc.cell 2
        have z1 : (0 : Int) ≤ (j : Int) := by omega
        have z2 : (j : Int) < (M : Int) := by omega
        clear bc hx hx1 hx2 hans hk hcell hAb hpos
        go_wp2
        go_ret
        exact ⟨rfl, d', hlo.out.ci, hlo.out.cs, hlo.out.pos⟩
end Go.Proofs.YtmcacicopgckmaaGreatDoor

