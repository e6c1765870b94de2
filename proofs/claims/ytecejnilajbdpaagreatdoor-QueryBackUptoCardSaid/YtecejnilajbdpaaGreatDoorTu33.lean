import Derived.Test.YtecejnilajbdpaaGreatDoorTu32
import Derived.Test.YtecejnilajbdpaaGreatDoorTu25
import Derived.Test.YtecejnilajbdpaaGreatDoorTu30
import Derived.Test.YtecejnilajbdpaaGreatDoorTu19
/-! query: like, not, Check -/
namespace Garner
open Go
theorem check_ms {q : QueryP} (h1 : ¬ (16 < q.ms.length ∨ 16 < q.fs.length)) (h2 : q.ms.all matOk = false) : checkQ q = 50 := by unfold checkQ; rw [if_neg h1, if_pos h2]
theorem check_fs {q : QueryP} (h1 : ¬ (16 < q.ms.length ∨ 16 < q.fs.length)) (h2 : q.ms.all matOk = true) (h3 : q.fs.all filOk = false) : checkQ q = 50 := by unfold checkQ; rw [if_neg h1, if_neg (by rw [h2]; decide), if_pos h3]
theorem check_utf {q : QueryP} (h1 : ¬ (16 < q.ms.length ∨ 16 < q.fs.length)) (h2 : q.ms.all matOk = true) (h3 : q.fs.all filOk = true) (h4 : (partsQ q).all utfOk = false) : checkQ q = 8 := by unfold checkQ; rw [if_neg h1, if_neg (by rw [h2]; decide), if_neg (by rw [h3]; decide), if_pos h4]
theorem check_pat {q : QueryP} (h1 : ¬ (16 < q.ms.length ∨ 16 < q.fs.length)) (h2 : q.ms.all matOk = true) (h3 : q.fs.all filOk = true) (h4 : (partsQ q).all utfOk = true) (h5 : (partsQ q).all patOk = false) : checkQ q = 40 := by unfold checkQ; rw [if_neg h1, if_neg (by rw [h2]; decide), if_neg (by rw [h3]; decide), if_neg (by rw [h4]; decide), if_pos h5]
theorem check_ok {q : QueryP} (h1 : ¬ (16 < q.ms.length ∨ 16 < q.fs.length)) (h2 : q.ms.all matOk = true) (h3 : q.fs.all filOk = true) (h4 : (partsQ q).all utfOk = true) (h5 : (partsQ q).all patOk = true) : checkQ q = 0 := by unfold checkQ; rw [if_neg h1, if_neg (by rw [h2]; decide), if_neg (by rw [h3]; decide), if_neg (by rw [h4]; decide), if_neg (by rw [h5]; decide)]
theorem opOk_no {o : Int} (h : o < 1 ∨ 4 < o) : opOk o = false := by
  unfold opOk
  rw [Bool.and_eq_false_iff, decide_eq_false_iff_not, decide_eq_false_iff_not]; omega
theorem opOk_yes {o : Int} (h1 : 1 ≤ o) (h2 : o ≤ 4) : opOk o = true := by unfold opOk; rw [decide_eq_true h1, decide_eq_true h2]; rfl
end Garner
namespace Go.Proofs.YtecejnilajbdpaaGreatDoor
open Go.RowKit Go.Shelf Garner
set_option maxRecDepth 100000 in
set_option maxHeartbeats 4000000 in
theorem vLike (o : Int) (w : World) : Calls Tryz.prog 39 #[.int .i64 o] w fun e w' => e = .returned (.bool (likeO o)) ∧ w' = w := by
  obtain ⟨ANS, hA⟩ : ∃ ANS, likeO o = ANS := ⟨_, rfl⟩
  have hx := hA
  unfold likeO at hx
  rw [hA]
  clear hA
  go_enter Tryz.func39, Tryz.ntmps39
  by_cases h3 : o = 3
  · subst h3
    obtain rfl := hx
    go_wp2
    go_ret
    exact ⟨rfl, rfl⟩
  · by_cases h4 : o = 4
    · subst h4
      obtain rfl := hx
      go_wp2
      go_ret
      exact ⟨rfl, rfl⟩
    · rw [decide_eq_false h3, decide_eq_false h4] at hx
      obtain rfl := hx
      have z3 : (o == 3) = false := by simp [h3]
      have z4 : (o == 4) = false := by simp [h4]
      go_wp2
      go_ret
      exact ⟨by first | rfl | simp [h3, h4], rfl⟩
set_option maxRecDepth 100000 in
set_option maxHeartbeats 32000000 in
theorem vCheck (q : QueryP) (MA FA : Option Addr) (nm nf cm cf : Nat) (w : World) (hL : Lt w) (hq : QueryAt w MA nm FA nf q) (hnm : nm ≤ 140737488355328) (hnf : nf ≤ 140737488355328) :
    Calls Tryz.prog 31 #[.agg #[.slice MA nm cm, .slice FA nf cf]] w fun e w' => e = .returned (.int .i64 (checkQ q : Nat)) ∧ Below w.heap.size w w' := by
  obtain ⟨ANS, hA⟩ : ∃ ANS, checkQ q = ANS := ⟨_, rfl⟩
  rw [hA]
  obtain ⟨X, hX⟩ : ∃ X, X = w.alloc (.cells #[.slice MA nm cm, .slice FA nf cf] 25) := ⟨_, rfl⟩
  have hwX : Below w.heap.size w X := by rw [hX]; exact (Below.refl _ _).alloc (Nat.le_refl _) _
  have bX : Blk X w.heap.size 25 [.slice MA nm cm, .slice FA nf cf] := by rw [hX]; exact Blk.new w _ _
  have x0 : X.cell? ⟨w.heap.size, 0, none⟩ = some (.slice MA nm cm) := bX.cell 0
  have x1 : X.cell? ⟨w.heap.size, 1, none⟩ = some (.slice FA nf cf) := bX.cell 1
  have hs1 := hwX.size
  have HQ := Lib.hid hq; have HwX := Lib.hid hwX; have BX := Lib.hid bX; have HA := Lib.hid hA; have HL := Lib.hid hL
  have Hnm := Lib.hid hq.nm_; have Hnf := Lib.hid hq.nf_
  clear hq hwX bX hA hL
  go_enter Tryz.func31, Tryz.ntmps31
  go_upto_region 1 with fail
  rw [← hX]
  clear hX
  by_cases hm16 : 16 < nm
  · have z1 : (16 : Int) < (nm : Int) := by omega
    have hans : ANS = 3 := by rw [← HA.out]; unfold checkQ; rw [if_pos (.inl (by rw [Hnm.out]; exact hm16))]
    have HAn := Lib.hid hans
    clear hans
    go_wp2
    go_ret
    exact ⟨by rw [HAn.out]; rfl, HwX.out⟩
  have z1 : ¬ (16 : Int) < (nm : Int) := by omega
  by_cases hf16 : 16 < nf
  · have z2 : (16 : Int) < (nf : Int) := by omega
    have hans : ANS = 3 := by rw [← HA.out]; unfold checkQ; rw [if_pos (.inr (by rw [Hnf.out]; exact hf16))]
    have HAn := Lib.hid hans
    clear hans
    go_wp2
    go_ret
    exact ⟨by rw [HAn.out]; rfl, HwX.out⟩
  have z2 : ¬ (16 : Int) < (nf : Int) := by omega
  have h16 : Hid (¬ (16 < q.ms.length ∨ 16 < q.fs.length)) := Lib.hid (by rw [Hnm.out, Hnf.out]; omega)
  go_wp2
  go_loopw [27] (fun i wr => ∃ k : Nat, k ≤ nm ∧ i = .int .i64 k ∧ Hid ((q.ms.take k).all matOk = true) ∧ Hid (Below X.heap.size X wr)) (fun i _ => nm - (intOf i).toNat)
  case atStart => exact ⟨0, Nat.zero_le _, rfl, Lib.hid rfl, Lib.hid (Below.refl _ _)⟩
  case round =>
    obtain ⟨k, hk, rfl, hall, hbw⟩ := hrel
    obtain ⟨wo, rfl⟩ : ∃ wo : World, wo = wr := ⟨_, rfl⟩
    have wk1 : IntKind.i64.wrap ((k : Int) + 1) = ((k + 1 : Nat) : Int) := by rw [IntKind.wrap_i64]; omega
    have hwo := HwX.out.trans (hbw.out.mono HwX.out.size)
    by_cases hlt : k < nm
    · have z3 : (k : Int) < (nm : Int) := by omega
      obtain ⟨m, hm⟩ : ∃ m, q.ms[k]? = some m := ⟨_, List.getElem?_eq_getElem (by rw [Hnm.out]; exact hlt)⟩
      obtain ⟨b, off, rfl, hc⟩ := HQ.out.mat hm
      obtain ⟨c0, c1, c2⟩ := hc wo hwo
      obtain ⟨N1, e1, hN1⟩ := str_form m.name
      obtain ⟨N2, e2, -⟩ := str_form m.val
      rw [e1] at c0
      rw [e2] at c2
      obtain ⟨mo, hmo⟩ : ∃ mo, m.op = mo := ⟨_, rfl⟩
      rw [hmo] at c1
      have hmk : matOk m = (nameP m.name && opOk mo) := by unfold matOk; rw [hmo]
      have htk := all_take matOk hm
      have hbad : matOk m = false → ANS = 50 := fun h => by rw [← HA.out]; exact check_ms h16.out (all_false matOk hm h)
      have hlen := (HQ.out.sm m (List.mem_of_getElem? hm)).1
      obtain ⟨V, hV⟩ : ∃ V, V = wo.alloc (.cells #[.string N1, .int .i64 mo, .string N2] 69) := ⟨_, rfl⟩
      have bV : Below wo.heap.size wo V := by rw [hV]; exact (Below.refl _ _).alloc (Nat.le_refl _) _
      have kV : Blk V wo.heap.size 69 [.string N1, .int .i64 mo, .string N2] := by rw [hV]; exact Blk.new wo _ _
      have v0 : V.cell? ⟨wo.heap.size, 0, none⟩ = some (.string N1) := kV.cell 0
      have hn := vNamed N1 m.name hN1 V (HL.out.below (hwo.trans (bV.mono hwo.size))) (by omega)
      obtain ⟨nb, hnb⟩ : ∃ nb, nameP m.name = nb := ⟨_, rfl⟩
      rw [hnb] at hn hmk
      have HN := Lib.hid hn; have KV := Lib.hid kV; have LV := Lib.hid (hbw.out.trans (bV.mono hbw.out.size)); have HMk := Lib.hid hmk; have HTk := Lib.hid htk; have HBad := Lib.hid hbad
      clear hn kV bV hmk htk hbad hc hm e1 hN1 e2 hmo hlen hnb hwo
      go_upto_region 6 with fail
      rw [← hV]
      clear hV c0 c1 c2
      cases nb with
      | false =>
        have hans := HBad.out (by rw [HMk.out]; rfl)
        have HAn := Lib.hid hans
        clear hans
        go_wp2_with fail
        refine HN.out.mono ?_
        rintro e w5 ⟨rfl, hb5⟩
        have HW5 := Lib.hid (HwX.out.trans ((LV.out.trans (hb5.mono LV.out.size)).mono HwX.out.size))
        clear hb5
        go_wp2
        go_ret
        exact ⟨by rw [HAn.out]; rfl, HW5.out⟩
      | true =>
        go_wp2_with fail
        refine HN.out.mono ?_
        rintro e w5 ⟨rfl, hb5⟩
        have y1 : w5.cell? ⟨wo.heap.size, 1, none⟩ = some (.int .i64 mo) := (KV.out.below hb5 KV.out.lt).cell 1
        have hx5 := LV.out.trans (hb5.mono LV.out.size)
        have HX5 := Lib.hid hx5; have HW5 := Lib.hid (HwX.out.trans (hx5.mono HwX.out.size))
        clear hb5 hx5 v0
        by_cases ho1 : mo < 1
        · have hans := HBad.out (by rw [HMk.out, opOk_no (.inl ho1)]; rfl)
          have HAn := Lib.hid hans
          clear hans
          go_wp2
          go_ret
          exact ⟨by rw [HAn.out]; rfl, HW5.out⟩
        · by_cases ho4 : 4 < mo
          · have hans := HBad.out (by rw [HMk.out, opOk_no (.inr ho4)]; rfl)
            have HAn := Lib.hid hans
            clear hans
            go_wp2
            go_ret
            exact ⟨by rw [HAn.out]; rfl, HW5.out⟩
          · have hnx : (q.ms.take (k + 1)).all matOk = true := by rw [HTk.out, hall.out, HMk.out, opOk_yes (by omega) (by omega)]; rfl
            have HNx := Lib.hid hnx
            clear hnx
            go_wp2
            go_roundw
            case rel => exact ⟨k + 1, by omega, by first | rfl | go_num, HNx, HX5⟩
            case measure => simp [intOf]; omega
    · obtain rfl : k = nm := by omega
      have z3 : ¬ (k : Int) < (k : Int) := by omega
      have hms : q.ms.all matOk = true := by
        have := hall.out
        rwa [List.take_of_length_le (by rw [Hnm.out]; exact Nat.le_refl _)] at this
      have HMs := Lib.hid hms; have HWo := Lib.hid hwo; have HBo := Lib.hid hbw.out
      have y1 : wo.cell? ⟨w.heap.size, 1, none⟩ = some (.slice FA nf cf) := (BX.out.below hbw.out BX.out.lt).cell 1
      clear hms hall hwo hbw x0 x1
      go_wp2
      go_loopw [49] (fun i wr => ∃ j : Nat, j ≤ nf ∧ i = .int .i64 j ∧ Hid ((q.fs.take j).all filOk = true) ∧ Hid (Below wo.heap.size wo wr)) (fun i _ => nf - (intOf i).toNat)
      case atStart => exact ⟨0, Nat.zero_le _, rfl, Lib.hid rfl, Lib.hid (Below.refl _ _)⟩
      case round =>
        obtain ⟨j, hj, rfl, hall, hbw⟩ := hrel
        obtain ⟨wp, rfl⟩ : ∃ wp : World, wp = wr := ⟨_, rfl⟩
        have wj1 : IntKind.i64.wrap ((j : Int) + 1) = ((j + 1 : Nat) : Int) := by rw [IntKind.wrap_i64]; omega
        have hwp := HWo.out.trans (hbw.out.mono HWo.out.size)
        by_cases hlt : j < nf
        · have z4 : (j : Int) < (nf : Int) := by omega
          obtain ⟨f, hf⟩ : ∃ f, q.fs[j]? = some f := ⟨_, List.getElem?_eq_getElem (by rw [Hnf.out]; exact hlt)⟩
          obtain ⟨b, off, rfl, hc⟩ := fil_cells HQ.out.fs hf hlt
          obtain ⟨c0, c1⟩ := hc wp hwp
          obtain ⟨N1, e1, -⟩ := str_form f.text
          rw [e1] at c1
          obtain ⟨fo, hfo⟩ : ∃ fo, f.op = fo := ⟨_, rfl⟩
          rw [hfo] at c0
          have hfk : filOk f = opOk fo := by unfold filOk; rw [hfo]
          have htk := all_take filOk hf
          have hbad : filOk f = false → ANS = 50 := fun h => by rw [← HA.out]; exact check_fs h16.out HMs.out (all_false filOk hf h)
          obtain ⟨V, hV⟩ : ∃ V, V = wp.alloc (.cells #[.int .i64 fo, .string N1] 71) := ⟨_, rfl⟩
          have bV : Below wp.heap.size wp V := by rw [hV]; exact (Below.refl _ _).alloc (Nat.le_refl _) _
          have kV : Blk V wp.heap.size 71 [.int .i64 fo, .string N1] := by rw [hV]; exact Blk.new wp _ _
          have v0 : V.cell? ⟨wp.heap.size, 0, none⟩ = some (.int .i64 fo) := kV.cell 0
          have LV := Lib.hid (hbw.out.trans (bV.mono hbw.out.size)); have HFk := Lib.hid hfk; have HTk := Lib.hid htk; have HBad := Lib.hid hbad; have HWV := Lib.hid (hwp.trans (bV.mono hwp.size))
          clear kV bV hfk htk hbad hc hf e1 hfo hwp
          go_upto_region 12 with fail
          rw [← hV]
          clear hV c0 c1
          by_cases ho1 : fo < 1
          · have hans := HBad.out (by rw [HFk.out, opOk_no (.inl ho1)])
            have HAn := Lib.hid hans
            clear hans
            go_wp2
            go_ret
            exact ⟨by rw [HAn.out]; rfl, HWV.out⟩
          · by_cases ho4 : 4 < fo
            · have hans := HBad.out (by rw [HFk.out, opOk_no (.inr ho4)])
              have HAn := Lib.hid hans
              clear hans
              go_wp2
              go_ret
              exact ⟨by rw [HAn.out]; rfl, HWV.out⟩
            · have hnx : (q.fs.take (j + 1)).all filOk = true := by rw [HTk.out, hall.out, HFk.out, opOk_yes (by omega) (by omega)]; rfl
              have HNx := Lib.hid hnx
              clear hnx
              go_wp2
              go_roundw
              case rel => exact ⟨j + 1, by omega, by first | rfl | go_num, HNx, LV⟩
              case measure => simp [intOf]; omega
        · obtain rfl : j = nf := by omega
          have z4 : ¬ (j : Int) < (j : Int) := by omega
          have hfs : q.fs.all filOk = true := by
            have := hall.out
            rwa [List.take_of_length_le (by rw [Hnf.out]; exact Nat.le_refl _)] at this
          have hXp := HBo.out.trans (hbw.out.mono HBo.out.size)
          have y0 : wp.cell? ⟨w.heap.size, 0, none⟩ = some (.slice MA k cm) := (BX.out.below hXp BX.out.lt).cell 0
          have y2 : wp.cell? ⟨w.heap.size, 1, none⟩ = some (.slice FA j cf) := (BX.out.below hXp BX.out.lt).cell 1
          have hallc := vAllQ q MA FA k j cm cf wp (HQ.out.below hwp) (by omega) (by omega)
          have hps : ∀ f ∈ partsQ q, f.text.length ≤ 140737488355328 := fun f hf => by
            rcases List.mem_append.1 hf with h | h
            · obtain ⟨m, hm, rfl⟩ := List.mem_map.1 h
              exact (HQ.out.sm m hm).2
            · exact HQ.out.sf f h
          obtain ⟨P, hP⟩ : ∃ P, partsQ q = P := ⟨_, rfl⟩
          rw [hP] at hallc hps
          obtain ⟨np, hnp⟩ : ∃ np, P.length = np := ⟨_, rfl⟩
          rw [hnp] at hallc
          have hnp9 : np ≤ 1000000 := by
            rw [← hnp, ← hP]
            unfold partsQ
            rw [List.length_append, List.length_map, Hnm.out, Hnf.out]; omega
          have HFs := Lib.hid hfs; have HAllc := Lib.hid hallc; have HWp := Lib.hid hwp; have HPs := Lib.hid hps; have Hnp := Lib.hid hnp; have HP := Lib.hid hP
          clear hfs hall hwp hbw hXp hallc hps hnp hP y1
          go_wp2_with fail
          refine HAllc.out.mono ?_
          rintro e w6 ⟨v6, rfl, o6, b6⟩
          obtain ⟨PA, pc, rfl, -⟩ := own_form o6
          have HR6 := Lib.hid (Row.of_own o6); have HW6 := Lib.hid (HWp.out.trans (b6.mono HWp.out.size))
          clear o6 b6 HAllc y0 y2
          go_wp2
          go_loopw [66] (fun i wr => ∃ p : Nat, p ≤ np ∧ i = .int .i64 p ∧ Hid ((P.take p).all utfOk = true) ∧ Hid (Below w6.heap.size w6 wr)) (fun i _ => np - (intOf i).toNat)
          case atStart => exact ⟨0, Nat.zero_le _, rfl, Lib.hid rfl, Lib.hid (Below.refl _ _)⟩
          case round =>
            obtain ⟨p, hp, rfl, hall, hbw⟩ := hrel
            obtain ⟨ws, rfl⟩ : ∃ ws : World, ws = wr := ⟨_, rfl⟩
            have wp1 : IntKind.i64.wrap ((p : Int) + 1) = ((p + 1 : Nat) : Int) := by rw [IntKind.wrap_i64]; omega
            have hws := HW6.out.trans (hbw.out.mono HW6.out.size)
            by_cases hlt : p < np
            · have z5 : (p : Int) < (np : Int) := by omega
              obtain ⟨f, hf⟩ : ∃ f, P[p]? = some f := ⟨_, List.getElem?_eq_getElem (by rw [Hnp.out]; exact hlt)⟩
              obtain ⟨b, off, rfl, hc⟩ := fil_cells HR6.out hf hlt
              obtain ⟨c0, c1⟩ := hc ws hbw.out
              obtain ⟨N1, e1, hN1⟩ := str_form f.text
              rw [e1] at c1
              obtain ⟨fo, hfo⟩ : ∃ fo, f.op = fo := ⟨_, rfl⟩
              rw [hfo] at c0
              have htk := all_take utfOk hf
              have hbad : utfOk f = false → ANS = 8 := fun h => by rw [← HA.out]; exact check_utf h16.out HMs.out HFs.out (by rw [HP.out]; exact all_false utfOk hf h)
              obtain ⟨V, hV⟩ : ∃ V, V = ws.alloc (.cells #[.int .i64 fo, .string N1] 71) := ⟨_, rfl⟩
              have bV : Below ws.heap.size ws V := by rw [hV]; exact (Below.refl _ _).alloc (Nat.le_refl _) _
              have kV : Blk V ws.heap.size 71 [.int .i64 fo, .string N1] := by rw [hV]; exact Blk.new ws _ _
              have v1 : V.cell? ⟨ws.heap.size, 1, none⟩ = some (.string N1) := kV.cell 1
              have hwV := hws.trans (bV.mono hws.size)
              have hu := cValid f.text V (HL.out.below hwV) (by have := HPs.out f (List.mem_of_getElem? hf); omega)
              rw [show str f.text = .string N1 by rw [hN1]] at hu
              obtain ⟨ub, hub⟩ : ∃ ub, utfOk f = ub := ⟨_, rfl⟩
              rw [show Lib.validD f.text = ub from hub] at hu
              rw [hub] at htk hbad
              have HU := Lib.hid hu; have LV := Lib.hid (hbw.out.trans (bV.mono hbw.out.size)); have HTk := Lib.hid htk; have HBad := Lib.hid hbad; have HWV := Lib.hid hwV
              clear kV bV htk hbad hc hf e1 hN1 hfo hws hwV hu hub
              go_upto_region 19 with fail
              rw [← hV]
              clear hV c0 c1
              go_wp2_with fail
              refine HU.out.mono ?_
              rintro e w7 ⟨rfl, hb7⟩
              have HW7 := Lib.hid (HWV.out.trans (hb7.mono HWV.out.size)); have L7 := Lib.hid (LV.out.trans (hb7.mono LV.out.size))
              clear hb7 HU v1
              cases ub with
              | false =>
                have hans := HBad.out rfl
                have HAn := Lib.hid hans
                clear hans
                go_wp2
                go_ret
                exact ⟨by rw [HAn.out]; rfl, HW7.out⟩
              | true =>
                have hnx : (P.take (p + 1)).all utfOk = true := by rw [HTk.out, hall.out]; rfl
                have HNx := Lib.hid hnx
                clear hnx
                go_wp2
                go_roundw
                case rel => exact ⟨p + 1, by omega, by first | rfl | go_num, HNx, L7⟩
                case measure => simp [intOf]; omega
            · obtain rfl : p = np := by omega
              have z5 : ¬ (p : Int) < (p : Int) := by omega
              have hut : (partsQ q).all utfOk = true := by
                have := hall.out
                rwa [List.take_of_length_le (by rw [Hnp.out]; exact Nat.le_refl _), ← HP.out] at this
              have HUt := Lib.hid hut; have HWs := Lib.hid hws; have HLs := Lib.hid hbw.out
              clear hut hall hws hbw
              go_wp2
              go_loopw [77] (fun i wr => ∃ u : Nat, u ≤ p ∧ i = .int .i64 u ∧ Hid ((P.take u).all patOk = true) ∧ Hid (Below ws.heap.size ws wr)) (fun i _ => p - (intOf i).toNat)
              case atStart => exact ⟨0, Nat.zero_le _, rfl, Lib.hid rfl, Lib.hid (Below.refl _ _)⟩
              case round =>
                obtain ⟨u, hu, rfl, hall, hbw⟩ := hrel
                obtain ⟨wt, rfl⟩ : ∃ wt : World, wt = wr := ⟨_, rfl⟩
                have wu1 : IntKind.i64.wrap ((u : Int) + 1) = ((u + 1 : Nat) : Int) := by rw [IntKind.wrap_i64]; omega
                have hwt := HWs.out.trans (hbw.out.mono HWs.out.size)
                by_cases hlt : u < p
                · have z6 : (u : Int) < (p : Int) := by omega
                  obtain ⟨f, hf⟩ : ∃ f, P[u]? = some f := ⟨_, List.getElem?_eq_getElem (by rw [Hnp.out]; exact hlt)⟩
                  obtain ⟨b, off, rfl, hc⟩ := fil_cells HR6.out hf hlt
                  obtain ⟨c0, c1⟩ := hc wt (HLs.out.trans (hbw.out.mono HLs.out.size))
                  obtain ⟨N1, e1, hN1⟩ := str_form f.text
                  rw [e1] at c1
                  obtain ⟨fo, hfo⟩ : ∃ fo, f.op = fo := ⟨_, rfl⟩
                  rw [hfo] at c0
                  have htk := all_take patOk hf
                  have hbad : patOk f = false → ANS = 40 := fun h => by rw [← HA.out]; exact check_pat h16.out HMs.out HFs.out HUt.out (by rw [HP.out]; exact all_false patOk hf h)
                  obtain ⟨V, hV⟩ : ∃ V, V = wt.alloc (.cells #[.int .i64 fo, .string N1] 71) := ⟨_, rfl⟩
                  have bV : Below wt.heap.size wt V := by rw [hV]; exact (Below.refl _ _).alloc (Nat.le_refl _) _
                  have kV : Blk V wt.heap.size 71 [.int .i64 fo, .string N1] := by rw [hV]; exact Blk.new wt _ _
                  have v0 : V.cell? ⟨wt.heap.size, 0, none⟩ = some (.int .i64 fo) := kV.cell 0
                  have v1 : V.cell? ⟨wt.heap.size, 1, none⟩ = some (.string N1) := kV.cell 1
                  have hwV := hwt.trans (bV.mono hwt.size)
                  have hpr := vParse f.text V (HL.out.below hwV) (by have := HPs.out f (List.mem_of_getElem? hf); omega)
                  rw [show str f.text = .string N1 by rw [hN1]] at hpr
                  have hlk := vLike fo V
                  have hpk : patOk f = (!likeO fo || (match rexpP f.text with | .ok _ => true | .error _ => false)) := by unfold patOk; rw [hfo]; cases rexpP f.text <;> rfl
                  obtain ⟨lk, hlk2⟩ : ∃ lk, likeO fo = lk := ⟨_, rfl⟩
                  rw [hlk2] at hlk hpk
                  have herr := fun n => @err_pos f.text n
                  obtain ⟨OUT, hO⟩ : ∃ OUT, rexpP f.text = OUT := ⟨_, rfl⟩
                  rw [hO] at hpr hpk
                  have herr2 : ∀ n, OUT = .error n → 0 < n := fun n h => (herr n (hO.trans h)).1
                  have HPr := Lib.hid hpr; have HLk := Lib.hid hlk; have LV := Lib.hid (hbw.out.trans (bV.mono hbw.out.size)); have HTk := Lib.hid htk; have HBad := Lib.hid hbad; have HWV := Lib.hid hwV; have HPk := Lib.hid hpk; have HErr := Lib.hid herr2
                  clear kV bV htk hbad hc hf e1 hN1 hfo hwt hwV hpr hlk hpk hlk2 herr herr2 hO
                  go_upto_region 25 with fail
                  rw [← hV]
                  clear hV c0 c1
                  cases lk with
                  | false =>
                    have hnx : (P.take (u + 1)).all patOk = true := by rw [HTk.out, hall.out, HPk.out]; rfl
                    have HNx := Lib.hid hnx
                    clear hnx
                    go_wp2_with (with_reducible refine HLk.out.mono ?_; rintro e wy ⟨rfl, hz⟩; obtain rfl : V = wy := hz.symm)
                    go_roundw
                    case rel => exact ⟨u + 1, by omega, by first | rfl | go_num, HNx, LV⟩
                    case measure => simp [intOf]; omega
                  | true =>
                    go_wp2_with (with_reducible refine HLk.out.mono ?_; rintro e wy ⟨rfl, hz⟩; obtain rfl : V = wy := hz.symm)
                    refine HPr.out.mono ?_
                    rintro e w7 ⟨hb7, ho⟩
                    have HW7 := Lib.hid (HWV.out.trans (hb7.mono HWV.out.size)); have L7 := Lib.hid (LV.out.trans (hb7.mono LV.out.size))
                    clear hb7 HPr
                    cases OUT with
                    | error n =>
                      obtain rfl := ho
                      have hn0 := HErr.out n rfl
                      have hn1 : ((n : Int) != 0) = true := by simp; omega
                      have hn2 : ¬ (n : Int) = 0 := by omega
                      have hans := HBad.out (by rw [HPk.out]; rfl)
                      have HAn := Lib.hid hans
                      clear hans
                      go_wp2
                      go_ret
                      exact ⟨by rw [HAn.out]; rfl, HW7.out⟩
                    | ok t =>
                      obtain ⟨v7, rfl, -⟩ := ho
                      have hnx : (P.take (u + 1)).all patOk = true := by rw [HTk.out, hall.out, HPk.out]; rfl
                      have HNx := Lib.hid hnx
                      clear hnx
                      go_wp2
                      go_roundw
                      case rel => exact ⟨u + 1, by omega, by first | rfl | go_num, HNx, L7⟩
                      case measure => simp [intOf]; omega
                · obtain rfl : u = p := by omega
                  have z6 : ¬ (u : Int) < (u : Int) := by omega
                  have hpt : (partsQ q).all patOk = true := by
                    have := hall.out
                    rwa [List.take_of_length_le (by rw [Hnp.out]; exact Nat.le_refl _), ← HP.out] at this
                  have hans : ANS = 0 := by rw [← HA.out]; exact check_ok h16.out HMs.out HFs.out HUt.out hpt
                  have HAn := Lib.hid hans; have HW := Lib.hid hwt
                  clear hans hpt hall hwt hbw
                  go_wp2
                  go_ret
                  exact ⟨by rw [HAn.out]; rfl, HW.out⟩
end Go.Proofs.YtecejnilajbdpaaGreatDoor

/-! query: not; label.Find; slices.Clone of matchers, filters, records -/
namespace Garner
open Go
theorem find_at {ls : List (Bs × Bs)} {n : Bs} {k : Nat} (h : ∀ x ∈ ls.take k, x.1 ≠ n) : findP ls n = findP (ls.drop k) n := by
  induction ls generalizing k with
  | nil => simp
  | cons y r ih =>
    cases k with
    | zero => rfl
    | succ k =>
      have h1 := h y (by simp)
      rw [findP, if_neg h1, List.drop_succ_cons]
      exact ih fun x hx => h x (by simp [hx])
theorem find_hit {ls : List (Bs × Bs)} {n : Bs} {k : Nat} {x : Bs × Bs} (h : ∀ x ∈ ls.take k, x.1 ≠ n) (hx : ls[k]? = some x) (he : x.1 = n) : findP ls n = x.2 := by
  rw [find_at h]
  obtain ⟨h1, h2⟩ := List.getElem?_eq_some_iff.1 hx
  rw [List.drop_eq_getElem_cons h1, h2, findP, if_pos he]
theorem labCells_len (x : Bs × Bs) : (labCells x).length = 2 := rfl
end Garner
namespace Go.Proofs.YtecejnilajbdpaaGreatDoor
open Go.RowKit Go.Shelf Garner
set_option maxRecDepth 100000 in
set_option maxHeartbeats 4000000 in
theorem vCloneMat (n : Nat) (xs : List Value) (A : Option Addr) (c B : Nat) (w : World) (hr : Row w B 3 A n xs) (h1 : ∀ u ∈ xs, u.oneCell' = true) (hB : B ≤ w.heap.size) (hl : n ≤ 1000000000000) :
    Calls Tryz.prog 36 #[.slice A n c] w fun e w' => CloneP 69 3 n xs w e w' := by
  have hq := fun (u : World) (a : Option Addr) (n c : Nat) => Lib.run_eql_slice_nil (P := Tryz.prog) u 22 69 a n c 0 0 Tryz.underlying22
  cases A with
  | none =>
    have h0 : n = 0 := by
      rcases Nat.eq_zero_or_pos n with h | h
      · exact h
      · obtain ⟨_, _, h, _⟩ := hr.2 h; cases h
    subst h0
    obtain rfl : xs = [] := List.eq_nil_of_length_eq_zero (by have := hr.1; omega)
    go_enter Tryz.func36, Tryz.ntmps36
    go_wp2
    go_ret
    exact ⟨_, rfl, World.ownsRow_nil _ _ _ _, Below.refl _ _⟩
  | some a =>
    go_enter Tryz.func36, Tryz.ntmps36
    have hown : (w.alloc (.cells #[] 69)).ownsRow w.heap.size 69 3 (.slice (some ⟨w.heap.size, 0, none⟩) 0 0) 0 [] := own_empty (heap_alloc_new _ _) (Nat.le_refl _)
    go_wp2_with (at_builtin; refine wpList_app _ rfl matE rfl rfl hown rfl (hr.alloc hB _) h1 (by omega) (by simp) ?_; intro v3 w3 hown3 hg3 hb3 _)
    go_ret
    exact ⟨v3, rfl, by simpa using hown3, ((Below.refl _ _).alloc (Nat.le_refl _) _).trans hb3⟩
set_option maxRecDepth 100000 in
set_option maxHeartbeats 4000000 in
theorem vCloneFil (n : Nat) (xs : List Value) (A : Option Addr) (c B : Nat) (w : World) (hr : Row w B 2 A n xs) (h1 : ∀ u ∈ xs, u.oneCell' = true) (hB : B ≤ w.heap.size) (hl : n ≤ 1000000000000) :
    Calls Tryz.prog 37 #[.slice A n c] w fun e w' => CloneP 71 2 n xs w e w' := by
  have hq := fun (u : World) (a : Option Addr) (n c : Nat) => Lib.run_eql_slice_nil (P := Tryz.prog) u 23 71 a n c 0 0 Tryz.underlying23
  cases A with
  | none =>
    have h0 : n = 0 := by
      rcases Nat.eq_zero_or_pos n with h | h
      · exact h
      · obtain ⟨_, _, h, _⟩ := hr.2 h; cases h
    subst h0
    obtain rfl : xs = [] := List.eq_nil_of_length_eq_zero (by have := hr.1; omega)
    go_enter Tryz.func37, Tryz.ntmps37
    go_wp2
    go_ret
    exact ⟨_, rfl, World.ownsRow_nil _ _ _ _, Below.refl _ _⟩
  | some a =>
    go_enter Tryz.func37, Tryz.ntmps37
    have hown : (w.alloc (.cells #[] 71)).ownsRow w.heap.size 71 2 (.slice (some ⟨w.heap.size, 0, none⟩) 0 0) 0 [] := own_empty (heap_alloc_new _ _) (Nat.le_refl _)
    go_wp2_with (at_builtin; refine wpList_app _ rfl filE rfl rfl hown rfl (hr.alloc hB _) h1 (by omega) (by simp) ?_; intro v3 w3 hown3 hg3 hb3 _)
    go_ret
    exact ⟨v3, rfl, by simpa using hown3, ((Below.refl _ _).alloc (Nat.le_refl _) _).trans hb3⟩
set_option maxRecDepth 100000 in
set_option maxHeartbeats 4000000 in
theorem vNot (o : Int) (w : World) : Calls Tryz.prog 43 #[.int .i64 o] w fun e w' => e = .returned (.bool (notO o)) ∧ w' = w := by
  obtain ⟨ANS, hA⟩ : ∃ ANS, notO o = ANS := ⟨_, rfl⟩
  have hx := hA
  unfold notO at hx
  rw [hA]
  clear hA
  go_enter Tryz.func43, Tryz.ntmps43
  by_cases h2 : o = 2
  · subst h2
    obtain rfl := hx
    go_wp2
    go_ret
    exact ⟨rfl, rfl⟩
  · by_cases h4 : o = 4
    · subst h4
      obtain rfl := hx
      go_wp2
      go_ret
      exact ⟨rfl, rfl⟩
    · rw [decide_eq_false h2, decide_eq_false h4] at hx
      obtain rfl := hx
      have z3 : (o == 2) = false := by simp [h2]
      have z4 : (o == 4) = false := by simp [h4]
      go_wp2
      go_ret
      exact ⟨by first | rfl | simp [h2, h4], rfl⟩
/-- a label's cells, at every world above -/
theorem lab_cells {w : World} {B : Nat} {l : List (Bs × Bs)} {A : Option Addr} {n : Nat} (h : Row w B 2 A n (l.flatMap labCells)) {k : Nat} {x : Bs × Bs} (hx : l[k]? = some x) (hk : k < n) : ∃ b off, A = some ⟨b, off, none⟩ ∧ ∀ wx, Below B w wx → wx.cell? ⟨b, off + k * 2, none⟩ = some (strB x.1) ∧ wx.cell? ⟨b, off + k * 2 + 1, none⟩ = some (strB x.2) := by
  obtain ⟨b, off, e, hb, hc⟩ := row_cells labCells_len h hx hk
  refine ⟨b, off, e, fun wx hw => ?_⟩
  have key : ∀ j, j < 2 → wx.cell? ⟨b, off + (k * 2 + j), none⟩ = (labCells x)[j]? := fun j hj => by
    rw [hw.cell (p := ⟨b, off + (k * 2 + j), none⟩) hb]; exact hc j hj
  refine ⟨key 0 (by omega), ?_⟩
  have := key 1 (by omega); rwa [← Nat.add_assoc] at this
def FindO (v : Bs) (w : World) (e : Ending) (w' : World) : Prop := ∃ b, e = .returned (.tuple #[strB v, .bool b]) ∧ Below w.heap.size w w'
set_option maxRecDepth 100000 in
set_option maxHeartbeats 16000000 in
theorem vFind (ls : List (Bs × Bs)) (name : Bs) (A : Option Addr) (n c : Nat) (w : World) (hr : Row w w.heap.size 2 A n (ls.flatMap labCells)) (hn : ls.length = n) (hl : n ≤ 140737488355328) :
    Calls Tryz.prog 41 #[.slice A n c, strB name] w fun e w' => FindO (findP ls name) w e w' := by
  obtain ⟨S, eS, hS⟩ := str_form name
  obtain ⟨ANS, hA⟩ : ∃ ANS, findP ls name = ANS := ⟨_, rfl⟩
  rw [eS, hA]
  have HR := Lib.hid hr; have Hn := Lib.hid hn; have HA := Lib.hid hA; have HS := Lib.hid hS
  clear hr hn hA eS hS
  go_enter Tryz.func41, Tryz.ntmps41
  go_wp2_with fail
  go_loopw [10] (fun i wr => ∃ k : Nat, k ≤ n ∧ i = .int .i64 k ∧ Hid (∀ x ∈ ls.take k, x.1 ≠ name) ∧ Hid (Below w.heap.size w wr)) (fun i _ => n - (intOf i).toNat)
  case atStart => exact ⟨0, Nat.zero_le _, rfl, Lib.hid (by simp), Lib.hid (Below.refl _ _)⟩
  case round =>
    obtain ⟨k, hk, rfl, hall, hbw⟩ := hrel
    obtain ⟨wo, rfl⟩ : ∃ wo : World, wo = wr := ⟨_, rfl⟩
    have wk1 : IntKind.i64.wrap ((k : Int) + 1) = ((k + 1 : Nat) : Int) := by rw [IntKind.wrap_i64]; omega
    by_cases hlt : k < n
    · have z1 : (k : Int) < (n : Int) := by omega
      obtain ⟨x, hx⟩ : ∃ x, ls[k]? = some x := ⟨_, List.getElem?_eq_getElem (by rw [Hn.out]; exact hlt)⟩
      obtain ⟨b, off, rfl, hc⟩ := lab_cells HR.out hx hlt
      obtain ⟨c0, c1⟩ := hc wo hbw.out
      obtain ⟨N1, e1, hN1⟩ := str_form x.1
      obtain ⟨N2, e2, hN2⟩ := str_form x.2
      rw [e1] at c0
      rw [e2] at c1
      obtain ⟨V, hV⟩ : ∃ V, V = wo.alloc (.cells #[.string N1, .string N2] 43) := ⟨_, rfl⟩
      have bV : Below wo.heap.size wo V := by rw [hV]; exact (Below.refl _ _).alloc (Nat.le_refl _) _
      have kV : Blk V wo.heap.size 43 [.string N1, .string N2] := by rw [hV]; exact Blk.new wo _ _
      have v0 : V.cell? ⟨wo.heap.size, 0, none⟩ = some (.string N1) := kV.cell 0
      have v1 : V.cell? ⟨wo.heap.size, 1, none⟩ = some (.string N2) := kV.cell 1
      have LV := Lib.hid (hbw.out.trans (bV.mono hbw.out.size))
      have hq : (N1.toList == S.toList) = decide (x.1 = name) := by
        rw [hN1, HS.out]
        simp
        by_cases h : x.1 = name
        · rw [decide_eq_true h, beq_iff_eq]; exact h
        · rw [decide_eq_false h, beq_eq_false_iff_ne]; exact h
      by_cases h1 : x.1 = name
      · have he : N2 = ⟨ANS.toArray⟩ := by rw [hN2, ← find_hit hall.out hx h1, HA.out]
        rw [decide_eq_true h1] at hq
        have HE := Lib.hid he
        clear he hN2 hN1 e1 e2 h1 hx hc kV bV hall
        go_upto_region 4 with fail
        rw [← hV]
        clear hV c0 c1
        go_wp2
        go_ret2
        exact ⟨true, by rw [HE.out]; rfl, LV.out⟩
      · have hnx : ∀ y ∈ ls.take (k + 1), y.1 ≠ name := by
          intro y hy
          rw [List.take_add_one, hx, Option.toList_some, List.mem_append, List.mem_singleton] at hy
          rcases hy with hy | rfl
          · exact hall.out y hy
          · exact h1
        rw [decide_eq_false h1] at hq
        have HNx := Lib.hid hnx
        clear hnx hN2 hN1 e1 e2 h1 hx hc kV bV hall
        go_upto_region 4 with fail
        rw [← hV]
        clear hV c0 c1
        go_wp2
        exact ⟨⟨k + 1, by omega, by first | rfl | go_num, HNx, LV⟩, by simp [intOf]; omega⟩
    · obtain rfl : k = n := by omega
      have z1 : ¬ (k : Int) < (k : Int) := by omega
      have he : ANS = [] := by
        have := hall.out
        rw [← HA.out, find_at this, List.drop_eq_nil_of_le (by rw [Hn.out]; exact Nat.le_refl _)]
        rfl
      have HE := Lib.hid he
      clear he hall
      go_wp2
      go_ret2
      exact ⟨false, by rw [HE.out]; rfl, hbw.out⟩
end Go.Proofs.YtecejnilajbdpaaGreatDoor

/-! the document's Name, Find, Has -/
namespace Garner
open Go
end Garner
namespace Go.Proofs.YtecejnilajbdpaaGreatDoor
open Go.RowKit Go.Shelf Garner
end Go.Proofs.YtecejnilajbdpaaGreatDoor

/-! QueryParts, plain: a part alone, and its opposite -/
namespace Garner
open Go
end Garner

