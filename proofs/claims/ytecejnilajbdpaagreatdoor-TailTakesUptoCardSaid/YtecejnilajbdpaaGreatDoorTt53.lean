import Derived.Test.YtecejnilajbdpaaGreatDoorTt52
/-! TailTakes: the walk -/
namespace Go.Proofs.YtecejnilajbdpaaGreatDoor
open Go.RowKit Go.Shelf Garner
theorem TakS.lens {w0 wr : World} {q : QueryP} {rs : List RecD} {a fa f : Nat} {VA VW VG : Value} {ov : Bool} {da dw dg : List RecD} (h : TakS w0 wr q rs a fa f VA VW VG ov da dw dg [] []) : dg.length + da.length = dw.length := by
  have := congrArg List.length h.eq
  simpa using this
set_option maxRecDepth 100000 in
set_option maxHeartbeats 64000000 in
theorem wTailTakes (q : QueryP) (rs : List RecD) (ts : List Int) (MA FA A TA : Option Addr) (nm nf cm cf n c nt ct : Nat) (w : World) (hL : Lt w) (hq : QueryAt w MA nm FA nf q) (hnm : nm ≤ 140737488355328) (hnf : nf ≤ 140737488355328) (hr : RecsAt w A n rs) (hline : ∀ d ∈ rs, d.r.line.length < 4294967281) (hn : n ≤ 1048576) (hT : Row w w.heap.size 1 TA nt (ts.map (Value.int .u8))) (htl : ts.length = nt) :
    Calls Tryz.prog 4 #[.agg #[.slice MA nm cm, .slice FA nf cf], .slice A n c, .slice TA nt ct] w fun e w' => e = .returned (.bool true) ∧ Below w.heap.size w w' := by
  obtain ⟨X, hX⟩ : ∃ X, X = w.alloc (.cells #[.slice MA nm cm, .slice FA nf cf] 25) := ⟨_, rfl⟩
  have hwX : Below w.heap.size w X := by rw [hX]; exact (Below.refl _ _).alloc (Nat.le_refl _) _
  have bX : Blk X w.heap.size 25 [.slice MA nm cm, .slice FA nf cf] := by rw [hX]; exact Blk.new w _ _
  have haw := awake28 X (hL.below hwX)
  have HQ := Lib.hid hq; have HwX := Lib.hid hwX; have BX := Lib.hid bX; have HAw := Lib.hid haw; have HL := Lib.hid hL; have HR := Lib.hid hr; have HLine := Lib.hid hline; have HTs := Lib.hid hT; have Htl := Lib.hid htl
  obtain ⟨CK, hCK⟩ : ∃ CK, checkQ q = CK := ⟨_, rfl⟩
  have HCK := Lib.hid hCK
  clear hq hwX bX haw hL hr hline hT htl
  go_enter Tryz.func4, Tryz.ntmps4
  go_upto_region 1 with fail
  rw [← hX]
  clear hX
  go_wp2_with fail
  refine HAw.out.mono ?_
  rintro e w1 ⟨rfl, hb1⟩
  have hw1 := HwX.out.trans (hb1.mono HwX.out.size)
  have bx1 := BX.out.below hb1 BX.out.lt
  have x0 : w1.cell? ⟨w.heap.size, 0, none⟩ = some (.slice MA nm cm) := bx1.cell 0
  have x1 : w1.cell? ⟨w.heap.size, 1, none⟩ = some (.slice FA nf cf) := bx1.cell 1
  have hn1 := vTNew q MA FA nm nf cm cf w1 (HL.out.below hw1) (HQ.out.below hw1) hnm hnf
  rw [hCK] at hn1
  have HN1 := Lib.hid hn1; have HW1 := Lib.hid hw1; have BX1 := Lib.hid bx1
  clear hn1 hw1 bx1 hb1 HAw BX
  go_wp2_with fail
  refine HN1.out.mono ?_
  rintro e w2 ⟨hb2, hc⟩
  have hw2 := HW1.out.trans (hb2.mono HW1.out.size)
  have bx2 := BX1.out.below hb2 BX1.out.lt
  have y0 : w2.cell? ⟨w.heap.size, 0, none⟩ = some (.slice MA nm cm) := bx2.cell 0
  have y1 : w2.cell? ⟨w.heap.size, 1, none⟩ = some (.slice FA nf cf) := bx2.cell 1
  have hn2 := vQNew q MA FA nm nf cm cf w2 (HL.out.below hw2) (HQ.out.below hw2) hnm hnf
  rw [hCK] at hn2
  have HN2 := Lib.hid hn2; have HW2 := Lib.hid hw2
  clear hn2 hw2 bx2 x0 x1 HN1 BX1
  by_cases h0 : CK = 0
  · subst h0
    obtain ⟨h16, -, -, -, -⟩ := check_zero HCK.out
    obtain ⟨a, fa, rfl, hTa⟩ := hc.elim (fun h => h.2) (fun h => absurd rfl h.1)
    have HTa := Lib.hid (hTa.mono HW1.out.size); have H16 := Lib.hid h16
    clear hc hTa hb2 h16
    go_wp2_with fail
    refine HN2.out.mono ?_
    rintro e w3 ⟨hb3, hc⟩
    obtain ⟨f, v1, v2, P, Q, pv, rfl, hF, hFl⟩ := hc.elim (fun h => h.2) (fun h => absurd rfl h.1)
    have hFA : FilAt w2.heap.size w3 f q := ⟨v1, v2, P, Q, pv, hF, hFl⟩
    have H0 : Hid (TakS w w3 q rs a fa f (.slice none 0 0) (.slice none 0 0) (.slice none 0 0) false [] [] [] [] []) := Lib.hid ⟨HTa.out.below hb3, hFA.mono HW2.out.size, World.ownsRow_nil _ _ _ _, World.ownsRow_nil _ _ _ _, (by simp), (by simp), rfl, (by simp), (fun k h => by cases h), (fun k h => by cases h), (fun k h => by cases h), HW2.out.trans (hb3.mono HW2.out.size)⟩
    clear hc hF hFl hFA hb3 y0 y1 HN2 HTa HW1 HW2
    go_wp2_with fail
    go_loopw [11, 12, 13] (fun vw vg i wr => ∃ (k : Nat) (VA : Value) (ov : Bool) (da dw dg : List RecD), k ≤ n ∧ i = .int .i64 k ∧ dw.length ≤ k ∧ Hid (TakS w wr q rs a fa f VA vw vg ov da dw dg [] [])) (fun _ _ i _ => n - (intOf i).toNat)
    case atStart => exact ⟨0, _, _, _, _, _, Nat.zero_le _, rfl, Nat.le_refl _, H0⟩
    case round =>
      obtain ⟨k, VA, ov, da, dw, dg, hk, rfl, hdw, HS⟩ := hrel
      obtain ⟨wo, rfl⟩ : ∃ wo : World, wo = wr := ⟨_, rfl⟩
      have wk1 : IntKind.i64.wrap ((k : Int) + 1) = ((k + 1 : Nat) : Int) := by rw [IntKind.wrap_i64]; omega
      by_cases hlt : k < n
      · have z1 : (k : Int) < (n : Int) := by omega
        obtain ⟨lw, hlw⟩ : ∃ lw, dw.length = lw := ⟨_, rfl⟩
        obtain ⟨lg, hlg⟩ : ∃ lg, dg.length = lg := ⟨_, rfl⟩
        have how := HS.out.ow
        rw [hlw] at how
        obtain ⟨WA, wc1, rfl, -⟩ := own_form how
        have hog := HS.out.og
        rw [hlg] at hog
        obtain ⟨GA, gc, rfl, -⟩ := own_form hog
        have Hlw := Lib.hid hlw; have Hlg := Lib.hid hlg; have Hdw := Lib.hid hdw
        clear how hog hlw hlg hdw
        obtain ⟨x, hx⟩ : ∃ x, rs[k]? = some x := ⟨_, List.getElem?_eq_getElem (by rw [HR.out.len]; exact hlt)⟩
        have hxm := List.mem_of_getElem? hx
        obtain ⟨ab, ao, rfl, hc⟩ := rec_cells HR.out.row hx hlt
        have hlab := HR.out.lab x hxm
        have hfew := HR.out.few x hxm
        have hli := HLine.out x hxm
        have hof := vOffer x.r w.heap.size a q da ov fa VA x.A x.r.labels.length x.c wo HS.out.ta (HL.out.below HS.out.low) HS.out.low.size HS.out.le ((hlab.below HS.out.low).more HS.out.low.size) rfl hfew hli
        have hofA := hof.mono fun e w' h => HS.out.offer h
        obtain ⟨R, eR, -⟩ := str_form x.r.line
        obtain ⟨tv, htv⟩ : ∃ tv, x.r.time = tv := ⟨_, rfl⟩
        obtain ⟨sv, hsv⟩ : ∃ sv, x.r.seq = sv := ⟨_, rfl⟩
        obtain ⟨ln, hln⟩ : ∃ ln, x.r.labels.length = ln := ⟨_, rfl⟩
        obtain ⟨hh, hhh⟩ : ∃ hh, holdsQ q x.r = hh := ⟨_, rfl⟩
        have hcl : x.cells = [.int .i64 tv, .int .u64 sv, .slice x.A ln x.c, .string R] := by show [Value.int .i64 x.r.time, Value.int .u64 x.r.seq, Value.slice x.A x.r.labels.length x.c, strB x.r.line] = _; rw [htv, hsv, hln, eR]
        rw [eR, htv, hsv, hln, hhh] at hofA
        rw [eR, htv, hsv, hln] at hc
        have p0 := (hc wo HS.out.low).1
        have p1 := (hc wo HS.out.low).2.1
        have p2 := (hc wo HS.out.low).2.2.1
        have p3 := (hc wo HS.out.low).2.2.2
        have HOA := Lib.hid hofA; have HC := Lib.hid hc; have HLab := Lib.hid hlab; have HFew := Lib.hid hfew; have HLi := Lib.hid hli; have Hhh := Lib.hid hhh; have HeR := Lib.hid eR; have Htv := Lib.hid htv; have Hsv := Lib.hid hsv; have Hln := Lib.hid hln; have Hxm := Lib.hid hxm; have HCl := Lib.hid hcl
        clear hof hofA hc hlab hfew hli hhh eR htv hsv hln hx hxm HS hcl
        go_wp2_with fail
        refine HOA.out.mono ?_
        rintro e w4 ⟨b, ov1, da1, VA1, rfl, hb1, hb2, hS1⟩
        have HS1 := Lib.hid hS1; have Hb1 := Lib.hid hb1; have Hb2 := Lib.hid hb2
        clear hS1 hb1 hb2 HOA p0 p1 p2 p3
        go_upto_region 13 with fail
        go_cut [83] from 45 to 131 (fun s wx => s = .bool false ∧ Below w4.heap.size w4 wx)
        case first =>
          have p0 := (HC.out w4 HS1.out.low).1
          have p1 := (HC.out w4 HS1.out.low).2.1
          have p2 := (HC.out w4 HS1.out.low).2.2.1
          have p3 := (HC.out w4 HS1.out.low).2.2.2
          have hho := vQHolds q x.r w.heap.size f x.A x.r.labels.length x.c tv sv w4 (HL.out.below HS1.out.low) HS1.out.fi HS1.out.ta.ms HS1.out.ta.fs ((HLab.out.below HS1.out.low).more HS1.out.low.size) rfl (by have := HFew.out; omega) HLi.out
          rw [Hln.out] at hho
          have hov := fun (w' : World) (h : Below w4.heap.size w4 w') => vOver w.heap.size a q da1 ov1 fa VA1 w' (HS1.out.ta.below h)
          rw [HeR.out, Hhh.out] at hho
          have HHo := Lib.hid hho; have HOv := Lib.hid hov
          clear hho hov
          cases b with
          | true =>
            obtain rfl := Hb1.out rfl
            go_wp2_with fail
            refine HHo.out.mono ?_
            rintro e w6 ⟨rfl, hb6⟩
            go_wp2
            go_meet
            case rel => exact ⟨rfl, hb6⟩
          | false =>
            cases hh with
            | true =>
              have ho1 : ov1 = true := (Hb2.out rfl).resolve_left (by simp)
              subst ho1
              go_wp2_with fail
              refine HHo.out.mono ?_
              rintro e w6 ⟨rfl, hb6⟩
              have HOv6 := Lib.hid (HOv.out _ hb6)
              go_wp2_with fail
              refine HOv6.out.mono ?_
              rintro e w7 ⟨rfl, hw7⟩
              obtain rfl : w6 = w7 := hw7.symm
              go_wp2
              go_meet
              case rel => exact ⟨rfl, hb6⟩
            | false =>
              go_wp2_with fail
              refine HHo.out.mono ?_
              rintro e w6 ⟨rfl, hb6⟩
              go_wp2
              go_meet
              case rel => exact ⟨rfl, hb6⟩
        case rest =>
          obtain ⟨rfl, hbc⟩ := hcut
          have hS3 := HS1.out.below hbc
          have hlow3 := hS3.low.size
          have p0 := (HC.out wc hS3.low).1
          have p1 := (HC.out wc hS3.low).2.1
          have p2 := (HC.out wc hS3.low).2.2.1
          have p3 := (HC.out wc hS3.low).2.2.2
          have HS3 := Lib.hid hS3
          clear hbc hS3 HS1 Hb1 Hb2
          go_upto_if 84 with fail
          go_cut [11] from 45 to 131 (fun v wx => ∃ dw2 : List RecD, dw2.length ≤ k + 1 ∧ Hid (TakS w wx q rs a fa f VA1 v (.slice GA lg gc) ov1 da1 dw2 dg [] []))
          case first =>
            have hlwk : lw ≤ 1048576 := by have := Hdw.out; rw [Hlw.out] at this; omega
            cases b with
            | true =>
              have how := HS3.out.ow
              rw [Hlw.out] at how
              have How := Lib.hid how
              have hone : ∀ u ∈ ([.int .i64 tv, .int .u64 sv, .slice x.A ln x.c, .string R] : List Value), u.oneCell' = true := by
                have h := rec_one [x]
                rw [show ([x] : List RecD).flatMap RecD.cells = [.int .i64 tv, .int .u64 sv, .slice x.A ln x.c, .string R] by simp [HCl.out]] at h
                exact h
              have HOne := Lib.hid hone
              clear how hone
              go_wp2_with (at_builtin; refine wpList_app _ rfl recE rfl rfl (How.out.alloc _) rfl (row_newN wc 38 4 1 [_, _, _, _] rfl) HOne.out (by omega) (by simp; omega) ?_; intro v8 w8 own8 hg8 hb8 hx8)
              have hS4 := (HS3.out.below ((Below.refl _ _).alloc (Nat.le_refl _) _)).appW Hxm.out hg8 (by rw [HCl.out, Hlw.out]; exact own8) hx8
              have HS4 := Lib.hid hS4
              clear own8 hg8 hb8 hx8 hS4 p0 p1 p2 p3
              go_meet
              case rel => exact ⟨dw ++ [x], by rw [List.length_append, Hlw.out]; have := Hdw.out; rw [Hlw.out] at this; simp; omega, HS4⟩
            | false =>
              go_wp2
              go_meet
              case rel => exact ⟨dw, by have := Hdw.out; omega, HS3⟩
          case rest =>
            obtain ⟨dw2, hdw2, HS4⟩ := hcut
            obtain ⟨lw2, hlw2⟩ : ∃ lw2, dw2.length = lw2 := ⟨_, rfl⟩
            have how := HS4.out.ow
            rw [hlw2] at how
            obtain ⟨WA2, wc2, rfl, -⟩ := own_form how
            have hlow4 := HS4.out.low.size
            have htk := fun m : Int => (vTTake m w.heap.size a q da1 ov1 fa VA1 wc HS4.out.ta hlow4 HS4.out.le).mono fun e w' h => HS4.out.take h
            have hlgk : lg ≤ 1048576 := by have h := HS4.out.lens; rw [Hlg.out] at h; omega
            have HTk := Lib.hid htk; have Hlw2 := Lib.hid hlw2; have Hdw2 := Lib.hid hdw2
            clear how htk hlw2 hdw2 HS3 p0 p1 p2 p3 Hlw Hdw
            go_upto_if 95 with fail
            go_cut [12] from 45 to 131 (fun v wx => ∃ (VA2 : Value) (da2 dg2 : List RecD), Hid (TakS w wx q rs a fa f VA2 (.slice WA2 lw2 wc2) v ov1 da2 dw2 dg2 [] []))
            case first =>
              by_cases hnk : k < nt
              · have z2 : (k : Int) < (nt : Int) := by omega
                obtain ⟨tb, htb⟩ : ∃ tb, ts[k]? = some tb := ⟨_, List.getElem?_eq_getElem (by rw [Htl.out]; exact hnk)⟩
                obtain ⟨tbk, toff, rfl, htc⟩ := one_cell HTs.out (u := .int .u8 tb) (k := k) (by rw [List.getElem?_map, htb]; rfl)
                have t0 := htc wc HS4.out.low
                clear htc htb
                go_wp2_with fail
                refine (HTk.out _).mono ?_
                rintro e w5 ⟨L, K, lc, VA2, -, rfl, hlen, hS5, hro⟩
                have hog5 := hS5.og
                rw [Hlg.out] at hog5
                have hlm : Row w5 w5.heap.size 4 L K ((da1.take K).flatMap RecD.cells) := by
                  have h := hro.1
                  rw [hlen] at h
                  exact Row.of_own h
                have hlow5 := hS5.low.size
                have hK8 : K ≤ 8 := by have h := HS4.out.le; rw [← hlen, List.length_take]; omega
                have hlen2 := hlen
                obtain ⟨M, hM⟩ : ∃ M, (da1.drop K).length = M := ⟨_, rfl⟩
                rw [hM]
                have HS5 := Lib.hid hS5; have HRo := Lib.hid hro; have HM := Lib.hid hM; have HLen := Lib.hid hlen; have HLm := Lib.hid hlm; have HOg5 := Lib.hid hog5
                clear hS5 hro hM hlen hlm hog5 HTk HS4 t0 hlen2
                go_upto_region 20 with (at_builtin; refine wpList_app _ rfl recE rfl rfl HOg5.out rfl HLm.out (rec_one _) (by omega) hlow5 ?_; intro v8 w8 own8 hg8 hb8 hx8)
                have hS6 := HS5.out.appG HRo.out hg8 (by rw [Hlg.out, HLen.out]; exact own8) hx8
                have hov := vOver w.heap.size a q (da1.drop K) ov1 fa VA2 w8 hS6.ta
                have hwt := vWaiting w.heap.size a q (da1.drop K) ov1 fa VA2 w8 hS6.ta
                rw [HM.out] at hwt
                have HS6 := Lib.hid hS6; have HOv := Lib.hid hov; have HWt := Lib.hid hwt
                clear own8 hg8 hb8 hx8 hS6 hov hwt HS5 HRo HLm HOg5
                cases ov1 with
                | false =>
                  rw [Bool.false_and]
                  go_wp2_with fail
                  refine HOv.out.mono ?_
                  rintro e wz ⟨rfl, hwz⟩
                  obtain rfl : w8 = wz := hwz.symm
                  go_wp2
                  go_meet
                  case rel => exact ⟨VA2, _, _, HS6⟩
                | true =>
                  rw [Bool.true_and]
                  by_cases hM0 : M = 0
                  · have z8 : (M : Int) = 0 := by omega
                    have z9 : ((M : Int) == 0) = true := by rw [z8]; rfl
                    rw [decide_eq_true hM0]
                    have Hz8 := Lib.hid z8
                    clear z8 hM0
                    go_wp2_with fail
                    refine HOv.out.mono ?_
                    rintro e wz ⟨rfl, hwz⟩
                    obtain rfl : w8 = wz := hwz.symm
                    go_wp2_with fail
                    refine HWt.out.mono ?_
                    rintro e wz ⟨rfl, hwz⟩
                    obtain rfl : w8 = wz := hwz.symm
                    go_wp2
                    go_meet
                    case rel => exact ⟨VA2, _, _, HS6⟩
                  · have z8 : ¬ (M : Int) = 0 := by omega
                    have z9 : ((M : Int) == 0) = false := beq_eq_false_iff_ne.2 z8
                    rw [decide_eq_false hM0]
                    go_wp2_with fail
                    refine HOv.out.mono ?_
                    rintro e wz ⟨rfl, hwz⟩
                    obtain rfl : w8 = wz := hwz.symm
                    go_wp2_with fail
                    refine HWt.out.mono ?_
                    rintro e wz ⟨rfl, hwz⟩
                    obtain rfl : w8 = wz := hwz.symm
                    go_wp2
                    go_meet
                    case rel => exact ⟨VA2, _, _, HS6⟩
              · have z2 : ¬ (k : Int) < (nt : Int) := by omega
                go_wp2
                go_meet
                case rel => exact ⟨VA1, da1, dg, HS4⟩
            case rest =>
              obtain ⟨VA2, da2, dg2, HS6⟩ := hcut
              obtain ⟨lg2, hlg2⟩ : ∃ lg2, dg2.length = lg2 := ⟨_, rfl⟩
              obtain ⟨M, hM⟩ : ∃ M, da2.length = M := ⟨_, rfl⟩
              have hog := HS6.out.og
              rw [hlg2] at hog
              obtain ⟨GA2, gc2, rfl, -⟩ := own_form hog
              have hls := HS6.out.lens
              rw [hlg2, hM, Hlw2.out] at hls
              have hle := HS6.out.le
              rw [hM] at hle
              have hwt := vWaiting w.heap.size a q da2 ov1 fa VA2 wc HS6.out.ta
              rw [hM] at hwt
              have hk1 : lw2 ≤ k + 1 := by have := Hdw2.out; rw [Hlw2.out] at this; exact this
              have z5 : ¬ (8 : Int) < (M : Int) := by omega
              have z6 : (lg2 : Int) + (M : Int) = (lw2 : Int) := by omega
              have z7 : IntKind.i64.wrap ((lg2 : Int) + (M : Int)) = (lw2 : Int) := by rw [IntKind.wrap_i64]; omega
              have HWt := Lib.hid hwt; have Hls := Lib.hid hls
              clear hog hls hle hwt hlg2 hM HS4 HTk
              go_wp2_with fail
              refine HWt.out.mono ?_
              rintro e wz ⟨rfl, hwz⟩
              obtain rfl : wc = wz := hwz.symm
              go_wp2_with fail
              refine HWt.out.mono ?_
              rintro e wz ⟨rfl, hwz⟩
              obtain rfl : wc = wz := hwz.symm
              go_wp2
              go_roundw
              case rel => exact ⟨k + 1, VA2, ov1, da2, dw2, dg2, by omega, by first | rfl | go_num, Hdw2.out, HS6⟩
              case measure => simp [intOf]; omega
      · obtain rfl : k = n := by omega
        have z1 : ¬ (k : Int) < (k : Int) := by omega
        obtain ⟨lw, hlw⟩ : ∃ lw, dw.length = lw := ⟨_, rfl⟩
        obtain ⟨lg, hlg⟩ : ∃ lg, dg.length = lg := ⟨_, rfl⟩
        have how := HS.out.ow
        rw [hlw] at how
        obtain ⟨WA, wc1, rfl, -⟩ := own_form how
        have hog := HS.out.og
        rw [hlg] at hog
        obtain ⟨GA, gc, rfl, -⟩ := own_form hog
        have hls := HS.out.lens
        have htk := (vTTake 100 w.heap.size a q da ov fa VA wo HS.out.ta HS.out.low.size HS.out.le).mono fun e w' h => HS.out.take h
        have hK : takeN 100 da.length = da.length := by
          have := HS.out.le
          show min (Int.toNat 100) da.length = da.length
          rw [show Int.toNat 100 = 100 from rfl]; omega
        rw [hK] at htk
        have hlgk : lg ≤ 1048576 := by omega
        have hle := HS.out.le
        have HTk := Lib.hid htk; have Hlw := Lib.hid hlw; have Hlg := Lib.hid hlg; have Hls := Lib.hid hls; have Hle := Lib.hid hle; have Hdw := Lib.hid hdw
        clear how hog hls htk hlw hlg hK hle HS hdw
        go_wp2_with fail
        refine HTk.out.mono ?_
        rintro e w5 ⟨L, K, lc, VA2, hK, rfl, hlen, hS5, hro⟩
        have hog5 := hS5.og
        rw [Hlg.out] at hog5
        have hlm : Row w5 w5.heap.size 4 L K ((da.take K).flatMap RecD.cells) := by
          have h := hro.1
          rw [hlen] at h
          exact Row.of_own h
        have hlow5 := hS5.low.size
        have hK8 : K ≤ 8 := by rw [← hlen, List.length_take]; have := Hle.out; omega
        have hnil : da.drop K = [] := List.drop_eq_nil_of_le (by omega)
        have HS5 := Lib.hid hS5; have HRo := Lib.hid hro; have HLen := Lib.hid hlen; have HLm := Lib.hid hlm; have HOg5 := Lib.hid hog5; have HNil := Lib.hid hnil; have HK := Lib.hid hK; have HnL := Lib.hid hn
        clear hS5 hro hlen hlm hog5 HTk hnil hK
        go_upto_region 26 with (at_builtin; refine wpList_app _ rfl recE rfl rfl HOg5.out rfl HLm.out (rec_one _) (by omega) hlow5 ?_; intro v8 w8 own8 hg8 hb8 hx8)
        have hS6 := HS5.out.appG HRo.out hg8 (by rw [Hlg.out, HLen.out]; exact own8) hx8
        obtain ⟨GA8, gc8, rfl, -⟩ := own_form own8
        have heq := hS6.eq
        rw [HNil.out, List.append_nil, List.append_nil, List.append_nil] at heq
        have hfew : ∀ r : RecP, r ∈ dw.map RecD.r → r.labels.length ≤ 1000000000000 := fun r hr => by
          obtain ⟨d, hd, rfl⟩ := List.mem_map.1 hr
          exact HR.out.few d (hS6.sw d hd)
        have e1 : (dg ++ da.take K).length = lg + K := by rw [List.length_append, Hlg.out, HLen.out]
        have e2 : lg + K = lw := by rw [← e1, ← Hlw.out]; have h := congrArg List.length heq; simpa only [List.length_map] using h
        have rG : RecsAt w8 GA8 (lg + K) (dg ++ da.take K) := ⟨by have h := hS6.og; rw [e1] at h; exact Row.of_own h, e1, fun d hd => Row.of_own (hS6.lg d hd), fun d hd => hfew d.r (by rw [← heq]; exact List.mem_map.2 ⟨d, hd, rfl⟩)⟩
        have rW : RecsAt w8 WA (lg + K) dw := ⟨by have h := hS6.ow; rw [Hlw.out, ← e2] at h; exact Row.of_own h, by rw [Hlw.out, e2], fun d hd => ((HR.out.lab d (hS6.sw d hd)).below hS6.low).more hS6.low.size, fun d hd => hfew d.r (List.mem_map.2 ⟨d, hd, rfl⟩)⟩
        have hsa := vRSameAll (dg ++ da.take K) dw GA8 WA (lg + K) gc8 wc1 w8 rG rW heq (by omega)
        obtain rfl := e2
        have HSa := Lib.hid hsa; have HW8 := Lib.hid hS6.low
        clear own8 hg8 hb8 hx8 hS6 heq hfew e1 rG rW hsa
        go_wp2_with fail
        refine HSa.out.mono ?_
        rintro e w9 ⟨rfl, hb9⟩
        have HW9 := Lib.hid (HW8.out.trans (hb9.mono HW8.out.size))
        clear hb9
        go_wp2
        go_ret
        exact ⟨rfl, HW9.out⟩
  · have z0 : ¬ (CK : Int) = 0 := by omega
    have H0 := Lib.hid h0
    obtain ⟨-, rfl⟩ := hc.resolve_left (fun h => h0 h.1)
    clear hc
    go_wp2_with fail
    refine HN2.out.mono ?_
    rintro e w3 ⟨hb3, hc⟩
    obtain ⟨-, rfl⟩ := hc.resolve_left (fun h => h0 h.1)
    have HW3 := Lib.hid (HW2.out.trans (hb3.mono HW2.out.size))
    clear hc hb3 h0
    go_wp2
    go_ret
    exact ⟨rfl, HW3.out⟩
end Go.Proofs.YtecejnilajbdpaaGreatDoor

