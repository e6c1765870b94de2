import Derived.Test.YtecejnilajbdpaaGreatDoorTz43
import Derived.Test.YtecejnilajbdpaaGreatDoorTz51
set_option maxRecDepth 100000
set_option maxHeartbeats 64000000
namespace Garner
open Go
theorem find_small {ls : List (Bs × Bs)} {n : Bs} {B : Nat} (h : ∀ x ∈ ls, x.2.length ≤ B) : (findP ls n).length ≤ B := by
 induction ls with
 | nil => exact Nat.zero_le _
 | cons x r ih =>
  rw [findP]
  split
  ·exact h x (by simp)
  exact ih fun y hy => h y (by simp [hy])
theorem ops_of {q : QueryP} (hc : checkQ q = 0) : ∀ f ∈ partsQ q, opOk f.op = true ∧ patOk f = true := by
 obtain ⟨-, h2, h3, -, h5⟩ := check_zero hc
 intro f hf
 refine ⟨?_, List.all_eq_true.1 h5 f hf⟩
 rcases List.mem_append.1 hf with h | h
 ·obtain ⟨m, hm, rfl⟩ := List.mem_map.1 h
  have h4 := List.all_eq_true.1 h2 m hm
  unfold matOk at h4
  rw [Bool.and_eq_true] at h4
  exact h4.2
 exact List.all_eq_true.1 h3 f h
theorem op_four {o : Int} (h : opOk o = true) : o = 1 ∨ o = 2 ∨ o = 3 ∨ o = 4 := by
 unfold opOk at h
 simp at h
 omega
end Garner
namespace Go.Proofs.YtecejnilajbdpaaGreatDoor
open Go.RowKit Go.Shelf Garner
theorem pat_parse {p : Bs} (hp : (match rexpP p with | .ok _ => true | .error _ => false) = true) {w w' : World} {e : Ending} (ho : OutP (rexpP p) w e w') :
  (∃ (A : Option Addr) (n c : Nat), e = .returned (.tuple #[.slice A n c, .int .i64 0]) ∧ ∀ (S : ByteArray) (l : Bs), S = ⟨l.toArray⟩ → l.length ≤ 1500000 → ∀ wx, Below w'.heap.size w' wx → Calls Tryz.prog 63 #[.slice A n c, .string S] wx fun e u => e = .returned (.bool (patWhole p l)) ∧ Below wx.heap.size wx u) ∧
  (∃ (A : Option Addr) (n c : Nat), e = .returned (.tuple #[.slice A n c, .int .i64 0]) ∧ ∀ (S : ByteArray) (l : Bs), S = ⟨l.toArray⟩ → l.length ≤ 1500000 → ∀ wx, Below w'.heap.size w' wx → Calls Tryz.prog 65 #[.slice A n c, .string S] wx fun e u => e = .returned (.bool (patPart p l)) ∧ Below wx.heap.size wx u) := by
 cases hr : rexpP p with
 | error k => rw [hr] at hp; cases hp
 | ok t =>
  rw [hr] at ho
  obtain ⟨v, rfl, hN⟩ := ho
  have hN2 := hN
  obtain ⟨ds, -, hown, -⟩ := hN2
  obtain ⟨A, c, rfl, -⟩ := own_form hown
  have hg := rexp_goodE hr
  refine ⟨⟨A, (t.flat 0).length, c, rfl, fun S l hS hl wx hb => ?_⟩, ⟨A, (t.flat 0).length, c, rfl, fun S l hS hl wx hb => ?_⟩⟩
  ·have h := wWhole t hg hN S l hS hl wx hb
   have e : patWhole p l = wholeB t (runesP l) := by unfold patWhole; rw [hr]
   rw [e]; exact h
  have h := wPart t hg hN S l hS hl wx hb
  have e : patPart p l = partB t (runesP l) := by unfold patPart; rw [hr]
  rw [e]; exact h
theorem gHolds (q : QueryP) (r : RecP) (MA FA LA : Option Addr) (nm nf cm cf ln lc : Nat) (tv sv : Int) (w : World) (hck : checkQ q = 0) (hq : QueryAt w MA nm FA nf q) (hr : Row w w.heap.size 2 LA ln (r.labels.flatMap labCells)) (hln : r.labels.length = ln) (hl2 : ln ≤ 140737488355328) (hline : r.line.length ≤ 1500000) (hvals : ∀ x ∈ r.labels, x.2.length ≤ 1500000) :
  Calls Tryz.prog 33 #[.agg #[.slice MA nm cm, .slice FA nf cf], .agg #[.int .i64 tv, .int .u64 sv, .slice LA ln lc, strB r.line]] w fun e w' => e = .returned (.bool (holdsQ q r)) ∧ Below w.heap.size w w' := by
 obtain ⟨R, eR, hR⟩ := str_form r.line
 rw [eR]
 obtain ⟨ANS, hA⟩ : ∃ ANS, holdsQ q r = ANS := ⟨_, rfl⟩
 rw [hA]
 obtain ⟨X, hX⟩ : ∃ X, X = w.alloc (.cells #[.slice MA nm cm, .slice FA nf cf] 25) := ⟨_, rfl⟩
 have hwX : Below w.heap.size w X := by rw [hX]; exact (Below.refl _ _).alloc (Nat.le_refl _) _
 have bX : Blk X w.heap.size 25 [.slice MA nm cm, .slice FA nf cf] := by rw [hX]; exact Blk.new w _ _
 have sX : X.heap.size = w.heap.size + 1 := by rw [hX]; simp
 obtain ⟨Y, hY⟩ : ∃ Y, Y = X.alloc (.cells #[.int .i64 tv, .int .u64 sv, .slice LA ln lc, .string R] 38) := ⟨_, rfl⟩
 have hXY : Below X.heap.size X Y := by rw [hY]; exact (Below.refl _ _).alloc (Nat.le_refl _) _
 have bY : Blk Y X.heap.size 38 [.int .i64 tv, .int .u64 sv, .slice LA ln lc, .string R] := by rw [hY]; exact Blk.new X _ _
 have bX2 := bX.below hXY bX.lt
 have hwY := hwX.trans (hXY.mono hwX.size)
 have hparts := ops_of hck
 obtain ⟨h16, -, -, -, -⟩ := check_zero hck
 rw [hq.nm_, hq.nf_] at h16
 have hnm : nm ≤ 16 := by omega
 have hnf : nf ≤ 16 := by omega
 obtain ⟨g2, hg2⟩ : ∃ g2, w.heap.size + 1 = g2 := ⟨_, rfl⟩
 have sX2 : X.heap.size = g2 := sX.trans hg2
 have HQ := Lh (hq.below hwY); have HwY := Lh hwY; have BX := Lh bX2; have BY := Lh bY; have HA := Lh hA; have HR := Lh ((hr.below hwY).more hwY.size); have Hln := Lh hln; have HRl := Lh hR; have HLine := Lh hline; have HVals := Lh hvals; have HParts := Lh hparts
 have Hnm := Lh hq.nm_; have Hnf := Lh hq.nf_; have SX := Lh sX2; have HG2 := Lh hg2
 clear hq hwX hwY hXY bX bX2 bY sX sX2 hA hr hR hln hline hvals hparts h16 hck eR
 go_enter Tryz.func33, Tryz.ntmps33
 go_upto_region 1 with fail
 rw [← hX, ← hY]
 rw [SX.out] at BY
 clear hX hY hg2
 go_wp2
 go_loopw [5] (fun i wr => ∃ k : Nat, k ≤ nm ∧ i = .int .i64 k ∧ Hid ((q.ms.take k).all (matHolds r) = true) ∧ Hid (Below Y.heap.size Y wr)) (fun i _ => nm - (intOf i).toNat)
 case atStart => exact ⟨0, Nat.zero_le _, rfl, Lh rfl, Lh (Below.refl _ _)⟩
 obtain ⟨k, hk, rfl, hall, hbw⟩ := hrel
 obtain ⟨wo, rfl⟩ : ∃ wo : World, wo = wr := ⟨_, rfl⟩
 have wk1 := wS k (by omega)
 have bq := BX.out.below hbw.out BX.out.lt
 have q0 : wo.cell? ⟨w.heap.size, 0, none⟩ = some (.slice MA nm cm) := bq.cell 0
 have q1 : wo.cell? ⟨w.heap.size, 1, none⟩ = some (.slice FA nf cf) := bq.cell 1
 clear bq
 by_cases hlt : k < nm
 ·have z3 : (k : Int) < (nm : Int) := by omega
  obtain ⟨m, hm⟩ : ∃ m, q.ms[k]? = some m := ⟨_, List.getElem?_eq_getElem (by rw [Hnm.out]; exact hlt)⟩
  obtain ⟨b, off, rfl, hc⟩ := HQ.out.mat hm
  obtain ⟨c0, c1, c2⟩ := hc wo hbw.out
  obtain ⟨N1, e1, hN1⟩ := str_form m.name
  obtain ⟨N2, e2, hN2⟩ := str_form m.val
  rw [e1] at c0
  rw [e2] at c2
  have hpt := HParts.out m.part (List.mem_append.2 (.inl (List.mem_map.2 ⟨m, List.mem_of_getElem? hm, rfl⟩)))
  have hop4 := op_four hpt.1
  have hpat := hpt.2
  obtain ⟨mo, hmo⟩ : ∃ mo, m.op = mo := ⟨_, rfl⟩
  rw [hmo] at c1
  have hop5 : mo = 1 ∨ mo = 2 ∨ mo = 3 ∨ mo = 4 := by rw [← hmo]; exact hop4
  have htk := all_take (matHolds r) hm
  have hbad : matHolds r m = false → ANS = false := fun h => by rw [← HA.out]; unfold holdsQ; rw [all_false _ hm h]; rfl
  have hok : matHolds r m = true → (q.ms.take (k + 1)).all (matHolds r) = true := fun h => by rw [htk, hall.out, h]; rfl
  have hlen := (HQ.out.sm m (List.mem_of_getElem? hm)).2
  obtain ⟨V, hV⟩ : ∃ V, V = wo.alloc (.cells #[.string N1, .int .i64 mo, .string N2] 69) := ⟨_, rfl⟩
  have bV : Below wo.heap.size wo V := by rw [hV]; exact (Below.refl _ _).alloc (Nat.le_refl _) _
  have kV : Blk V wo.heap.size 69 [.string N1, .int .i64 mo, .string N2] := by rw [hV]; exact Blk.new wo _ _
  have v0 : V.cell? ⟨wo.heap.size, 0, none⟩ = some (.string N1) := kV.cell 0
  have v1 : V.cell? ⟨wo.heap.size, 1, none⟩ = some (.int .i64 mo) := kV.cell 1
  have v2 : V.cell? ⟨wo.heap.size, 2, none⟩ = some (.string N2) := kV.cell 2
  have hYV := hbw.out.trans (bV.mono hbw.out.size)
  have r2 : V.cell? ⟨g2, 2, none⟩ = some (.slice LA ln lc) := (BY.out.below hYV BY.out.lt).cell 2
  have hfi := gFind r.labels m.name LA ln lc V ((HR.out.below hYV).more hYV.size) Hln.out hl2
  rw [e1] at hfi
  have hfl : (findP r.labels m.name).length ≤ 1500000 := find_small HVals.out
  obtain ⟨FV, hFV⟩ : ∃ FV, findP r.labels m.name = FV := ⟨_, rfl⟩
  rw [hFV] at hfi hfl
  obtain ⟨FS, eFS, hFS⟩ := str_form FV
  have hye : matYes m r = if likeO mo then patWhole m.val FV else decide (FV = m.val) := by unfold matYes; rw [hFV, hmo]
  obtain ⟨YES, hYES⟩ : ∃ YES, matYes m r = YES := ⟨_, rfl⟩
  have hmh : matHolds r m = (YES != notO mo) := by unfold matHolds; rw [hYES, hmo]
  rw [hYES] at hye
  have hyp : likeO mo = false → (FS.toList == N2.toList) = YES := fun h => by rw [str_eqlA hFS hN2, hye, h]; rfl
  have hpr : ∀ u : World, Calls Tryz.prog 56 #[.string N2] u fun e u' => Below u.heap.size u u' ∧ OutP (rexpP m.val) u e u' := fun u => by
   have h := qParse m.val u (by omega)
   rw [show str m.val = .string N2 by rw [hN2]] at h
   exact h
  have hgo : likeO mo = true → ∀ u e u', OutP (rexpP m.val) u e u' → ∃ (A : Option Addr) (n c : Nat), e = .returned (.tuple #[.slice A n c, .int .i64 0]) ∧ ∀ (S : ByteArray) (l : Bs), S = ⟨l.toArray⟩ → l.length ≤ 1500000 → ∀ wx, Below u'.heap.size u' wx → Calls Tryz.prog 63 #[.slice A n c, .string S] wx fun e u => e = .returned (.bool (patWhole m.val l)) ∧ Below wx.heap.size wx u := fun h u e u' ho => by
   refine (pat_parse ?_ ho).1
   unfold patOk at hpat
   rw [show likeO m.part.op = true by rw [← h, ← hmo]; rfl] at hpat
   cases hrx : rexpP m.val with
   | ok t => rfl
   | error k2 => rw [show m.part.text = m.val from rfl, hrx] at hpat; cases hpat
  have hgo2 : likeO mo = true → ∀ u e u', OutP (rexpP m.val) u e u' → ∃ (A : Option Addr) (n c : Nat), e = .returned (.tuple #[.slice A n c, .int .i64 0]) ∧ ∀ (S : ByteArray) (l : Bs), S = ⟨l.toArray⟩ → l.length ≤ 1500000 → ∀ wx, Below u'.heap.size u' wx → Calls Tryz.prog 63 #[.slice A n c, .string S] wx fun e u => e = .returned (.bool (if l = FV then YES else patWhole m.val l)) ∧ Below wx.heap.size wx u := fun h u e u' ho => by
   obtain ⟨A, n, c, e1, h1⟩ := hgo h u e u' ho
   refine ⟨A, n, c, e1, fun S l hS hl wx hb => ?_⟩
   have h2 := h1 S l hS hl wx hb
   split
   ·rename_i hlv
    have : YES = patWhole m.val l := by rw [hye, h, hlv]; rfl
    rw [this]; exact h2
   exact h2
  have HFi := Lh hfi; have HFl := Lh hfl; have HFS := Lh hFS; have HYp := Lh hyp; have HMh := Lh hmh; have HPr := Lh hpr; have HGo := Lh hgo2; have HBad := Lh hbad; have HOk := Lh hok; have LV := Lh hYV; have KV := Lh kV; have HEF := Lh eFS
  clear hfi hfl hyp hmh hpr hgo hgo2 hbad hok hYV kV bV hc hm e1 e2 hN1 hN2 hmo hop4 hpt hpat htk hlen hye hYES hFV eFS hFS hall hbw
  go_upto_region 5 with fail
  rw [← hV]
  clear hV c0 c1 c2 q0 q1
  go_wp2_with fail
  refine HFi.out.mono ?_
  rintro e w5 ⟨fb, rfl, hb5⟩
  rw [HEF.out]
  have k5 := KV.out.below hb5 KV.out.lt
  have v0 : w5.cell? ⟨wo.heap.size, 0, none⟩ = some (.string N1) := k5.cell 0
  have v1 : w5.cell? ⟨wo.heap.size, 1, none⟩ = some (.int .i64 mo) := k5.cell 1
  have v2 : w5.cell? ⟨wo.heap.size, 2, none⟩ = some (.string N2) := k5.cell 2
  have KV5 := Lh k5; have HL5 := Lh (LV.out.trans (hb5.mono LV.out.size)); have HW5 := Lh (HwY.out.trans ((LV.out.trans (hb5.mono LV.out.size)).mono HwY.out.size))
  clear k5 hb5 r2 LV KV HFi HEF
  rcases hop5 with h1 | h2 | h3 | h4
  ·-- 1
   subst h1
   have HYq := Lh (HYp.out rfl)
   cases YES with
   | false =>
    have hyq := HYq.out
    have HWz := HW5; have HLz := HL5
    have hans := HBad.out (by rw [HMh.out]; rfl)
    have HAn := Lh hans
    clear hans
    go_wp2
    go_ret
    exact ⟨by rw [HAn.out]; rfl, HWz.out⟩
   | true =>
    have hyq := HYq.out
    have HWz := HW5; have HLz := HL5
    have HNx := Lh (HOk.out (by rw [HMh.out]; rfl))
    go_wp2
    go_roundw
    case rel => exact ⟨k + 1, by omega, by first | rfl | go_num, HNx, HLz⟩
    case measure => simp [intOf]; omega
  ·-- 2
   subst h2
   have HYq := Lh (HYp.out rfl)
   cases YES with
   | false =>
    have hyq := HYq.out
    have HWz := HW5; have HLz := HL5
    have HNx := Lh (HOk.out (by rw [HMh.out]; rfl))
    go_wp2
    go_roundw
    case rel => exact ⟨k + 1, by omega, by first | rfl | go_num, HNx, HLz⟩
    case measure => simp [intOf]; omega
   | true =>
    have hyq := HYq.out
    have HWz := HW5; have HLz := HL5
    have hans := HBad.out (by rw [HMh.out]; rfl)
    have HAn := Lh hans
    clear hans
    go_wp2
    go_ret
    exact ⟨by rw [HAn.out]; rfl, HWz.out⟩
  ·-- 3
   subst h3
   go_wp2_with fail
   refine (HPr.out w5).mono ?_
   rintro e w6 ⟨hb6, ho⟩
   obtain ⟨nA, nn, nc, rfl, hwh⟩ := HGo.out rfl _ _ _ ho
   have hwc := hwh FS FV HFS.out HFl.out w6 (Below.refl _ _)
   have HWc := Lh hwc; have HL6 := Lh (HL5.out.trans (hb6.mono HL5.out.size)); have HW6 := Lh (HW5.out.trans (hb6.mono HW5.out.size))
   have k6 := KV5.out.below hb6 KV5.out.lt
   have d1 : w6.cell? ⟨wo.heap.size, 1, none⟩ = some (.int .i64 _) := k6.cell 1
   have KV6 := Lh k6
   clear hwh hwc hb6 ho k6 v0 v1 v2
   go_wp2_with fail
   refine HWc.out.mono ?_
   rintro e w7 ⟨rfl, hb7⟩
   have d1 : w7.cell? ⟨wo.heap.size, 1, none⟩ = some (.int .i64 _) := (KV6.out.below hb7 KV6.out.lt).cell 1
   have HLz := Lh (HL6.out.trans (hb7.mono HL6.out.size)); have HWz := Lh (HW6.out.trans (hb7.mono HW6.out.size))
   clear hb7 HWc
   cases YES with
   | false =>
    have hans := HBad.out (by rw [HMh.out]; rfl)
    have HAn := Lh hans
    clear hans
    go_wp2
    go_ret
    exact ⟨by rw [HAn.out]; rfl, HWz.out⟩
   | true =>
    have HNx := Lh (HOk.out (by rw [HMh.out]; rfl))
    go_wp2
    go_roundw
    case rel => exact ⟨k + 1, by omega, by first | rfl | go_num, HNx, HLz⟩
    case measure => simp [intOf]; omega
  -- 4
  subst h4
  go_wp2_with fail
  refine (HPr.out w5).mono ?_
  rintro e w6 ⟨hb6, ho⟩
  obtain ⟨nA, nn, nc, rfl, hwh⟩ := HGo.out rfl _ _ _ ho
  have hwc := hwh FS FV HFS.out HFl.out w6 (Below.refl _ _)
  have HWc := Lh hwc; have HL6 := Lh (HL5.out.trans (hb6.mono HL5.out.size)); have HW6 := Lh (HW5.out.trans (hb6.mono HW5.out.size))
  have k6 := KV5.out.below hb6 KV5.out.lt
  have d1 : w6.cell? ⟨wo.heap.size, 1, none⟩ = some (.int .i64 _) := k6.cell 1
  have KV6 := Lh k6
  clear hwh hwc hb6 ho k6 v0 v1 v2
  go_wp2_with fail
  refine HWc.out.mono ?_
  rintro e w7 ⟨rfl, hb7⟩
  have d1 : w7.cell? ⟨wo.heap.size, 1, none⟩ = some (.int .i64 _) := (KV6.out.below hb7 KV6.out.lt).cell 1
  have HLz := Lh (HL6.out.trans (hb7.mono HL6.out.size)); have HWz := Lh (HW6.out.trans (hb7.mono HW6.out.size))
  clear hb7 HWc
  cases YES with
  | false =>
   have HNx := Lh (HOk.out (by rw [HMh.out]; rfl))
   go_wp2
   go_roundw
   case rel => exact ⟨k + 1, by omega, by first | rfl | go_num, HNx, HLz⟩
   case measure => simp [intOf]; omega
  | true =>
   have hans := HBad.out (by rw [HMh.out]; rfl)
   have HAn := Lh hans
   clear hans
   go_wp2
   go_ret
   exact ⟨by rw [HAn.out]; rfl, HWz.out⟩
 obtain rfl : k = nm := by omega
 have z3 : ¬ (k : Int) < (k : Int) := by omega
 have hms : q.ms.all (matHolds r) = true := by
  have := hall.out
  rwa [List.take_of_length_le (by rw [Hnm.out]; exact Nat.le_refl _)] at this
 have HMs := Lh hms; have HB0 := hbw
 clear hms hall hbw
 go_wp2
 clear q0 q1
 go_loopw [12] (fun i wr => ∃ j : Nat, j ≤ nf ∧ i = .int .i64 j ∧ Hid ((q.fs.take j).all (filHolds r) = true) ∧ Hid (Below Y.heap.size Y wr)) (fun i _ => nf - (intOf i).toNat)
 case atStart => exact ⟨0, Nat.zero_le _, rfl, Lh rfl, HB0⟩
 obtain ⟨j, hj, rfl, hall, hbw⟩ := hrel
 obtain ⟨wp, rfl⟩ : ∃ wp : World, wp = wr := ⟨_, rfl⟩
 have wj1 := wS j (by omega)
 have q1 : wp.cell? ⟨w.heap.size, 1, none⟩ = some (.slice FA nf cf) := (BX.out.below hbw.out BX.out.lt).cell 1
 by_cases hlt : j < nf
 ·have z4 : (j : Int) < (nf : Int) := by omega
  obtain ⟨f, hf⟩ : ∃ f, q.fs[j]? = some f := ⟨_, List.getElem?_eq_getElem (by rw [Hnf.out]; exact hlt)⟩
  obtain ⟨b, off, rfl, hc⟩ := fil_cells HQ.out.fs hf hlt
  obtain ⟨c0, c1⟩ := hc wp hbw.out
  obtain ⟨N1, e1, hN1⟩ := str_form f.text
  rw [e1] at c1
  have hpt := HParts.out f (List.mem_append.2 (.inr (List.mem_of_getElem? hf)))
  have hop4 := op_four hpt.1
  have hpat := hpt.2
  obtain ⟨fo, hfo⟩ : ∃ fo, f.op = fo := ⟨_, rfl⟩
  rw [hfo] at c0
  have hop5 : fo = 1 ∨ fo = 2 ∨ fo = 3 ∨ fo = 4 := by rw [← hfo]; exact hop4
  have htk := all_take (filHolds r) hf
  have hbad : filHolds r f = false → ANS = false := fun h => by rw [← HA.out]; unfold holdsQ; rw [all_false (filHolds r) hf h, Bool.and_false]
  have hok : filHolds r f = true → (q.fs.take (j + 1)).all (filHolds r) = true := fun h => by rw [htk, hall.out, h]; rfl
  have hlen := HQ.out.sf f (List.mem_of_getElem? hf)
  obtain ⟨V, hV⟩ : ∃ V, V = wp.alloc (.cells #[.int .i64 fo, .string N1] 71) := ⟨_, rfl⟩
  have bV : Below wp.heap.size wp V := by rw [hV]; exact (Below.refl _ _).alloc (Nat.le_refl _) _
  have kV : Blk V wp.heap.size 71 [.int .i64 fo, .string N1] := by rw [hV]; exact Blk.new wp _ _
  have v0 : V.cell? ⟨wp.heap.size, 0, none⟩ = some (.int .i64 fo) := kV.cell 0
  have v1 : V.cell? ⟨wp.heap.size, 1, none⟩ = some (.string N1) := kV.cell 1
  have hYV := hbw.out.trans (bV.mono hbw.out.size)
  have r3 : V.cell? ⟨g2, 3, none⟩ = some (.string R) := (BY.out.below hYV BY.out.lt).cell 3
  have hha := gHas R N1 r.line f.text HRl.out hN1 V (by have := HLine.out; omega) (by omega)
  obtain ⟨HS, hHS⟩ : ∃ HS, Lib.contains r.line f.text = HS := ⟨_, rfl⟩
  rw [hHS] at hha
  have hye : filYes f r = if likeO fo then patPart f.text r.line else HS := by unfold filYes; rw [hHS, hfo]
  obtain ⟨YES, hYES⟩ : ∃ YES, filYes f r = YES := ⟨_, rfl⟩
  have hmh : filHolds r f = (YES != notO fo) := by unfold filHolds; rw [hYES, hfo]
  rw [hYES] at hye
  have hyp : likeO fo = false → HS = YES := fun h => by rw [hye, h]; rfl
  have hpr : ∀ u : World, Calls Tryz.prog 56 #[.string N1] u fun e u' => Below u.heap.size u u' ∧ OutP (rexpP f.text) u e u' := fun u => by
   have h := qParse f.text u (by omega)
   rw [show str f.text = .string N1 by rw [hN1]] at h
   exact h
  have hgo : likeO fo = true → ∀ u e u', OutP (rexpP f.text) u e u' → ∃ (A : Option Addr) (n c : Nat), e = .returned (.tuple #[.slice A n c, .int .i64 0]) ∧ ∀ (S : ByteArray) (l : Bs), S = ⟨l.toArray⟩ → l.length ≤ 1500000 → ∀ wx, Below u'.heap.size u' wx → Calls Tryz.prog 65 #[.slice A n c, .string S] wx fun e u => e = .returned (.bool (if l = r.line then YES else patPart f.text l)) ∧ Below wx.heap.size wx u := fun h u e u' ho => by
   have hx : (match rexpP f.text with | .ok _ => true | .error _ => false) = true := by
    unfold patOk at hpat
    rw [show likeO f.op = true by rw [hfo]; exact h] at hpat
    cases hrx : rexpP f.text with
    | ok t => rfl
    | error k2 => rw [hrx] at hpat; cases hpat
   obtain ⟨A, n, c, e1, h1⟩ := (pat_parse hx ho).2
   refine ⟨A, n, c, e1, fun S l hS hl wx hb => ?_⟩
   have h2 := h1 S l hS hl wx hb
   split
   ·rename_i hlv
    have : YES = patPart f.text l := by rw [hye, h, hlv]; rfl
    rw [this]; exact h2
   exact h2
  have HHa := Lh hha; have HFl := HLine; have HYp := Lh hyp; have HMh := Lh hmh; have HPr := Lh hpr; have HGo := Lh hgo; have HBad := Lh hbad; have HOk := Lh hok; have LV := Lh hYV; have KV := Lh kV
  clear hha hyp hmh hpr hgo hbad hok hYV kV bV hc hf e1 hN1 hfo hop4 hpt hpat htk hlen hye hYES hHS hall hbw
  go_upto_region 16 with fail
  rw [← hV]
  clear hV c0 c1 q1
  have KV5 := KV; have HL5 := LV; have HW5 := Lh (HwY.out.trans (LV.out.mono HwY.out.size))
  obtain ⟨w5, hw5⟩ : ∃ w5, w5 = V := ⟨_, rfl⟩
  go_wp2_with fail
  refine HHa.out.mono ?_
  rintro e wz ⟨rfl, hz⟩
  obtain rfl : V = wz := hz.symm
  subst hw5
  clear HHa LV KV
  rcases hop5 with h1 | h2 | h3 | h4
  ·-- 1
   subst h1
   obtain rfl := HYp.out rfl
   cases HS with
   | false =>
    have HWz := HW5; have HLz := HL5
    have hans := HBad.out (by rw [HMh.out]; rfl)
    have HAn := Lh hans
    clear hans
    go_wp2
    go_ret
    exact ⟨by rw [HAn.out]; rfl, HWz.out⟩
   | true =>
    have HWz := HW5; have HLz := HL5
    have HNx := Lh (HOk.out (by rw [HMh.out]; rfl))
    go_wp2
    go_roundw
    case rel => exact ⟨j + 1, by omega, by first | rfl | go_num, HNx, HLz⟩
    case measure => simp [intOf]; omega
  ·-- 2
   subst h2
   obtain rfl := HYp.out rfl
   cases HS with
   | false =>
    have HWz := HW5; have HLz := HL5
    have HNx := Lh (HOk.out (by rw [HMh.out]; rfl))
    go_wp2
    go_roundw
    case rel => exact ⟨j + 1, by omega, by first | rfl | go_num, HNx, HLz⟩
    case measure => simp [intOf]; omega
   | true =>
    have HWz := HW5; have HLz := HL5
    have hans := HBad.out (by rw [HMh.out]; rfl)
    have HAn := Lh hans
    clear hans
    go_wp2
    go_ret
    exact ⟨by rw [HAn.out]; rfl, HWz.out⟩
  ·-- 3
   subst h3
   go_wp2_with fail
   refine (HPr.out w5).mono ?_
   rintro e w6 ⟨hb6, ho⟩
   obtain ⟨nA, nn, nc, rfl, hwh⟩ := HGo.out rfl _ _ _ ho
   have hwc := hwh R r.line HRl.out HFl.out w6 (Below.refl _ _)
   have y3 : w6.cell? ⟨g2, 3, none⟩ = some (.string R) := (BY.out.below (HL5.out.trans (hb6.mono HL5.out.size)) BY.out.lt).cell 3
   have HWc := Lh hwc; have HL6 := Lh (HL5.out.trans (hb6.mono HL5.out.size)); have HW6 := Lh (HW5.out.trans (hb6.mono HW5.out.size))
   have k6 := KV5.out.below hb6 KV5.out.lt
   have KV6 := Lh k6
   clear hwh hwc hb6 ho k6 v0 v1
   go_wp2_with fail
   refine HWc.out.mono ?_
   rintro e w7 ⟨rfl, hb7⟩
   have d0 : w7.cell? ⟨wp.heap.size, 0, none⟩ = some (.int .i64 _) := (KV6.out.below hb7 KV6.out.lt).cell 0
   have HLz := Lh (HL6.out.trans (hb7.mono HL6.out.size)); have HWz := Lh (HW6.out.trans (hb7.mono HW6.out.size))
   clear hb7 HWc
   cases YES with
   | false =>
    have hans := HBad.out (by rw [HMh.out]; rfl)
    have HAn := Lh hans
    clear hans
    go_wp2
    go_ret
    exact ⟨by rw [HAn.out]; rfl, HWz.out⟩
   | true =>
    have HNx := Lh (HOk.out (by rw [HMh.out]; rfl))
    go_wp2
    go_roundw
    case rel => exact ⟨j + 1, by omega, by first | rfl | go_num, HNx, HLz⟩
    case measure => simp [intOf]; omega
  -- 4
  subst h4
  go_wp2_with fail
  refine (HPr.out w5).mono ?_
  rintro e w6 ⟨hb6, ho⟩
  obtain ⟨nA, nn, nc, rfl, hwh⟩ := HGo.out rfl _ _ _ ho
  have hwc := hwh R r.line HRl.out HFl.out w6 (Below.refl _ _)
  have y3 : w6.cell? ⟨g2, 3, none⟩ = some (.string R) := (BY.out.below (HL5.out.trans (hb6.mono HL5.out.size)) BY.out.lt).cell 3
  have HWc := Lh hwc; have HL6 := Lh (HL5.out.trans (hb6.mono HL5.out.size)); have HW6 := Lh (HW5.out.trans (hb6.mono HW5.out.size))
  have k6 := KV5.out.below hb6 KV5.out.lt
  have KV6 := Lh k6
  clear hwh hwc hb6 ho k6 v0 v1
  go_wp2_with fail
  refine HWc.out.mono ?_
  rintro e w7 ⟨rfl, hb7⟩
  have d0 : w7.cell? ⟨wp.heap.size, 0, none⟩ = some (.int .i64 _) := (KV6.out.below hb7 KV6.out.lt).cell 0
  have HLz := Lh (HL6.out.trans (hb7.mono HL6.out.size)); have HWz := Lh (HW6.out.trans (hb7.mono HW6.out.size))
  clear hb7 HWc
  cases YES with
  | false =>
   have HNx := Lh (HOk.out (by rw [HMh.out]; rfl))
   go_wp2
   go_roundw
   case rel => exact ⟨j + 1, by omega, by first | rfl | go_num, HNx, HLz⟩
   case measure => simp [intOf]; omega
  | true =>
   have hans := HBad.out (by rw [HMh.out]; rfl)
   have HAn := Lh hans
   clear hans
   go_wp2
   go_ret
   exact ⟨by rw [HAn.out]; rfl, HWz.out⟩
 obtain rfl : j = nf := by omega
 have z4 : ¬ (j : Int) < (j : Int) := by omega
 have hfs : q.fs.all (filHolds r) = true := by
  have := hall.out
  rwa [List.take_of_length_le (by rw [Hnf.out]; exact Nat.le_refl _)] at this
 have hans : ANS = true := by rw [← HA.out]; unfold holdsQ; rw [HMs.out, hfs]; rfl
 have HAn := Lh hans; have HW := Lh (HwY.out.trans (hbw.out.mono HwY.out.size))
 clear hans hfs hall hbw
 go_wp2
 go_ret
 exact ⟨by rw [HAn.out]; rfl, HW.out⟩
end Go.Proofs.YtecejnilajbdpaaGreatDoor
