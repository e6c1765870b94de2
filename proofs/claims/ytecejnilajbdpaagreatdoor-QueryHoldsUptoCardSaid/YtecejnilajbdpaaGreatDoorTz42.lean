import Derived.Test.YtecejnilajbdpaaGreatDoorTz41
set_option maxRecDepth 100000
set_option maxHeartbeats 64000000
namespace Garner
open Go
theorem part_ms {q : QueryP} {k : Nat} {m : MatP} (h : q.ms[k]? = some m) : (partsQ q)[k]? = some m.part := by
 unfold partsQ
 rw [List.getElem?_append_left (by rw [List.length_map]; exact (List.getElem?_eq_some_iff.1 h).1), List.getElem?_map, h]
 rfl
theorem part_fs {q : QueryP} {k : Nat} {f : FilP} (h : q.fs[k]? = some f) : (partsQ q)[q.ms.length + k]? = some f := by
 unfold partsQ
 rw [List.getElem?_append_right (by rw [List.length_map]; omega), List.length_map, Nat.add_sub_cancel_left, h]
theorem holds_ms {q : QueryP} {r : RecP} {k : Nat} {m : MatP} (h : q.ms[k]? = some m) (hf : matHolds r m = false) : holdsQ q r = false := by unfold holdsQ; rw [all_false _ h hf]; rfl
theorem holds_fs {q : QueryP} {r : RecP} {k : Nat} {f : FilP} (h : q.fs[k]? = some f) (hf : filHolds r f = false) : holdsQ q r = false := by unfold holdsQ; rw [all_false (filHolds r) h hf, Bool.and_false]
theorem str_eql {a b : Bs} {S T : ByteArray} (hS : S = ⟨a.toArray⟩) (hT : T = ⟨b.toArray⟩) : (S.toList == T.toList) = decide (a = b) := by
 rw [hS, hT]
 simp
 by_cases h : a = b
 ·rw [decide_eq_true h, beq_iff_eq]; exact h
 rw [decide_eq_false h, beq_eq_false_iff_ne]; exact h
end Garner
namespace Go.Proofs.YtecejnilajbdpaaGreatDoor
open Go.RowKit Go.Shelf Garner
def FilAt (B : Nat) (w : World) (g : Nat) (q : QueryP) : Prop := ∃ v1 v2 P Q pv, FilIs B w g v1 v2 P Q q pv ∧ pv.length = (partsQ q).length
theorem FilAt.below {B : Nat} {w w' : World} {g : Nat} {q : QueryP} (h : FilAt B w g q) (hb : Below w.heap.size w w') : FilAt B w' g q := by
 obtain ⟨v1, v2, P, Q, pv, h1, h2⟩ := h
 exact ⟨v1, v2, P, Q, pv, h1.below hb, h2⟩
theorem FilIs.look {B : Nat} {w : World} {g : Nat} {v1 v2 P Q : Value} {q : QueryP} {pv : List Value} (h : FilIs B w g v1 v2 P Q q pv) (hl : pv.length = (partsQ q).length) : ∃ A1 c1 A2 c2 A3 c3 A4 c4, v1 = .slice A1 q.ms.length c1 ∧ v2 = .slice A2 q.fs.length c2 ∧ P = .slice A3 q.ms.length c3 ∧ Q = .slice A4 q.fs.length c4 ∧
  Row w w.heap.size 3 A1 q.ms.length (q.ms.flatMap MatP.cells) ∧ Row w w.heap.size 2 A2 q.fs.length (q.fs.flatMap FilP.cells) ∧ Row w w.heap.size 1 A3 q.ms.length (pv.take q.ms.length) ∧ Row w w.heap.size 1 A4 q.fs.length (pv.drop q.ms.length) := by
 have l1 : (pv.take q.ms.length).length = q.ms.length := by rw [List.length_take, hl, parts_len]; omega
 have l2 : (pv.drop q.ms.length).length = q.fs.length := by rw [List.length_drop, hl, parts_len]; omega
 have h1 := h.ms; have h2 := h.fs; have h3 := h.ps; have h4 := h.qs
 rw [l1] at h3
 rw [l2] at h4
 obtain ⟨A1, c1, e1, -⟩ := own_form h1
 obtain ⟨A2, c2, e2, -⟩ := own_form h2
 obtain ⟨A3, c3, e3, -⟩ := own_form h3
 obtain ⟨A4, c4, e4, -⟩ := own_form h4
 rw [e1] at h1; rw [e2] at h2; rw [e3] at h3; rw [e4] at h4
 exact ⟨A1, c1, A2, c2, A3, c3, A4, c4, e1, e2, e3, e4, .of_own h1, .of_own h2, .of_own h3, .of_own h4⟩
theorem one_cell {w : World} {B n k : Nat} {A : Option Addr} {l : List Value} {u : Value} (h : Row w B 1 A n l) (hu : l[k]? = some u) : ∃ b off, A = some ⟨b, off, none⟩ ∧ ∀ wx, Below B w wx → wx.cell? ⟨b, off + k, none⟩ = some u := by
 have hk : k < n := by rw [← h.len]; exact (List.getElem?_eq_some_iff.1 hu).1
 obtain ⟨b, off, e, hb, hc⟩ := h.2 (by omega)
 exact ⟨b, off, e, fun wx hw => (hw.cell (p := ⟨b, off + k, none⟩) hb).trans (hc k u hu)⟩
theorem mat_cells {w : World} {B : Nat} {l : List MatP} {A : Option Addr} {n : Nat} (h : Row w B 3 A n (l.flatMap MatP.cells)) {k : Nat} {m : MatP} (hm : l[k]? = some m) (hk : k < n) : ∃ b off, A = some ⟨b, off, none⟩ ∧ ∀ wx, Below B w wx → wx.cell? ⟨b, off + k * 3, none⟩ = some (strB m.name) ∧ wx.cell? ⟨b, off + k * 3 + 1, none⟩ = some (.int .i64 m.op) ∧ wx.cell? ⟨b, off + k * 3 + 2, none⟩ = some (strB m.val) := by
 obtain ⟨b, off, e, hb, hc⟩ := row_cells MatP.cells_len h hm hk
 refine ⟨b, off, e, fun wx hx => ?_⟩
 have key : ∀ j, j < 3 → wx.cell? ⟨b, off + (k * 3 + j), none⟩ = m.cells[j]? := fun j hj => by
  rw [hx.cell (p := ⟨b, off + (k * 3 + j), none⟩) hb]; exact hc j hj
 refine ⟨key 0 (by omega), ?_, ?_⟩
 ·have := key 1 (by omega); rwa [← Nat.add_assoc] at this
 have := key 2 (by omega); rwa [← Nat.add_assoc] at this
theorem vQHolds (q : QueryP) (r : RecP) (B g : Nat) (LA : Option Addr) (ln lc : Nat) (tv sv : Int) (w : World) (hL : Lt w) (hf : FilAt B w g q) (h1 : q.ms.length ≤ 16) (h2 : q.fs.length ≤ 16) (hr : Row w w.heap.size 2 LA ln (r.labels.flatMap labCells)) (hln : r.labels.length = ln) (hl2 : ln ≤ 140737488355328) (hline : r.line.length < 4294967281) :
  Calls Tryz.prog 23 #[.pointer (some ⟨g, 0, none⟩), .agg #[.int .i64 tv, .int .u64 sv, .slice LA ln lc, strB r.line]] w fun e w' => e = .returned (.bool (holdsQ q r)) ∧ Below w.heap.size w w' := by
 obtain ⟨ANS, hA⟩ : ∃ ANS, holdsQ q r = ANS := ⟨_, rfl⟩
 obtain ⟨R, eR, hR⟩ := str_form r.line
 rw [hA, eR]
 obtain ⟨v1, v2, P, Q, pv, hf, hpl⟩ := hf
 obtain ⟨A1, c1, A2, c2, A3, c3, A4, c4, rfl, rfl, rfl, rfl, r1, r2, r3, r4⟩ := hf.look hpl
 obtain ⟨X, hX⟩ : ∃ X, X = w.alloc (.cells #[.int .i64 tv, .int .u64 sv, .slice LA ln lc, .string R] 38) := ⟨_, rfl⟩
 have hwX : Below w.heap.size w X := by rw [hX]; exact (Below.refl _ _).alloc (Nat.le_refl _) _
 have bX : Blk X w.heap.size 38 [.int .i64 tv, .int .u64 sv, .slice LA ln lc, .string R] := by rw [hX]; exact Blk.new w _ _
 obtain ⟨nm, hnm⟩ : ∃ nm, q.ms.length = nm := ⟨_, rfl⟩
 obtain ⟨nf, hnf⟩ : ∃ nf, q.fs.length = nf := ⟨_, rfl⟩
 have hpat := fun (wx : World) (hb : Below w.heap.size w wx) => (hf.below hb).pat
 have kb := hf.blk
 rw [hnm] at r1 r3 r4 h1 kb
 rw [hnf] at r2 r4 h2 kb
 have kX : Blk X g 82 [.slice A1 nm c1, .slice A2 nf c2, .slice A3 nm c3, .slice A4 nf c4] := kb.below hwX kb.lt
 have HA := Lh hA; have HwX := Lh hwX; have BX := Lh bX; have KX := Lh kX; have R1 := Lh r1; have R2 := Lh r2; have R3 := Lh r3; have R4 := Lh r4; have HPat := Lh hpat; have HL := Lh hL; have HLr := Lh hr; have Hnm := Lh hnm; have Hnf := Lh hnf; have Hln := Lh hln; have Hline := Lh hline; have HR := Lh hR; have Hpl := Lh hpl
 have x0 : X.cell? ⟨g, 0, none⟩ = some (.slice A1 nm c1) := kX.cell 0
 clear hA hwX bX kX r1 r2 r3 r4 hpat hL hr hnm hnf hln hline hR hf kb hpl eR
 go_enter Tryz.func23, Tryz.ntmps23
 go_upto_region 1 with fail
 rw [← hX]
 clear hX
 go_wp2
 go_loopw [21] (fun i wr => ∃ k : Nat, k ≤ nm ∧ i = .int .i64 k ∧ Hid ((q.ms.take k).all (matHolds r) = true) ∧ Hid (Below X.heap.size X wr)) (fun i _ => nm - (intOf i).toNat)
 case atStart => exact ⟨0, Nat.zero_le _, rfl, Lh rfl, Lh (Below.refl _ _)⟩
 obtain ⟨k, hk, rfl, hall, hbw⟩ := hrel
 obtain ⟨wo, rfl⟩ : ∃ wo : World, wo = wr := ⟨_, rfl⟩
 have wk1 := wS k (by omega)
 have hwo := HwX.out.trans (hbw.out.mono HwX.out.size)
 by_cases hlt : k < nm
 ·have z1 : (k : Int) < (nm : Int) := by omega
  obtain ⟨m, hm⟩ : ∃ m, q.ms[k]? = some m := ⟨_, List.getElem?_eq_getElem (by rw [Hnm.out]; exact hlt)⟩
  obtain ⟨b, off, rfl, hc⟩ := mat_cells R1.out hm hlt
  obtain ⟨c0, c1_, c2_⟩ := hc wo hwo
  obtain ⟨N1, e1, -⟩ := str_form m.name
  obtain ⟨N2, e2, hN2⟩ := str_form m.val
  rw [e1] at c0
  rw [e2] at c2_
  obtain ⟨mo, hmo⟩ : ∃ mo, m.op = mo := ⟨_, rfl⟩
  rw [hmo] at c1_
  obtain ⟨V, hV⟩ : ∃ V, V = wo.alloc (.cells #[.string N1, .int .i64 mo, .string N2] 69) := ⟨_, rfl⟩
  have bV : Below wo.heap.size wo V := by rw [hV]; exact (Below.refl _ _).alloc (Nat.le_refl _) _
  have kV : Blk V wo.heap.size 69 [.string N1, .int .i64 mo, .string N2] := by rw [hV]; exact Blk.new wo _ _
  have v0 : V.cell? ⟨wo.heap.size, 0, none⟩ = some (.string N1) := kV.cell 0
  have hXV := hbw.out.trans (bV.mono hbw.out.size)
  have hwV := HwX.out.trans (hXV.mono HwX.out.size)
  have x2 : V.cell? ⟨w.heap.size, 2, none⟩ = some (.slice LA ln lc) := (BX.out.below hXV BX.out.lt).cell 2
  have hfd := vFind r.labels m.name LA ln lc V ((HLr.out.below hwV).more hwV.size) Hln.out hl2
  rw [e1] at hfd
  obtain ⟨fv, hfv⟩ : ∃ fv, findP r.labels m.name = fv := ⟨_, rfl⟩
  obtain ⟨F, eF, hF⟩ := str_form fv
  rw [hfv] at hfd
  have hmh : matHolds r m = ((bif likeO mo then patWhole m.val fv else decide (fv = m.val)) != notO mo) := by unfold matHolds matYes; rw [hmo, hfv]; cases likeO mo <;> rfl
  have htk := all_take (matHolds r) hm
  have hbad : matHolds r m = false → ANS = false := fun h => by rw [← HA.out]; exact holds_ms hm h
  obtain ⟨lk, hlk⟩ : ∃ lk, likeO mo = lk := ⟨_, rfl⟩
  obtain ⟨no, hno⟩ : ∃ no, notO mo = no := ⟨_, rfl⟩
  rw [hlk, hno] at hmh
  have hql := str_eql hF hN2
  obtain ⟨eqv, heq⟩ : ∃ eqv, decide (fv = m.val) = eqv := ⟨_, rfl⟩
  rw [heq] at hql hmh
  have HFd := Lh hfd; have HMh := Lh hmh; have HTk := Lh htk; have HBad := Lh hbad; have KV := Lh kV; have HXV := Lh hXV; have Hlk := Lh hlk; have Hno := Lh hno; have Hm := Lh hm; have HF := Lh hF; have HN2 := Lh hN2; have HE2 := Lh e2; have Hmo := Lh hmo; have HEF := Lh eF
  clear heq hfd hmh htk hbad kV hXV hlk hno hm hF hN2 e1 e2 hmo hfv hc bV hwV hwo eF
  go_upto_region 6 with fail
  rw [← hV]
  clear hV c0 c1_ c2_
  go_wp2_with fail
  refine HFd.out.mono ?_
  rintro e w5 ⟨fb, rfl, hb5⟩
  have hX5 := HXV.out.trans (hb5.mono HXV.out.size)
  have y1 : w5.cell? ⟨wo.heap.size, 1, none⟩ = some (.int .i64 mo) := (KV.out.below hb5 KV.out.lt).cell 1
  have y2 : w5.cell? ⟨wo.heap.size, 2, none⟩ = some (.string N2) := (KV.out.below hb5 KV.out.lt).cell 2
  have hk5 := vLike mo w5
  rw [Hlk.out] at hk5
  have HK5 := Lh hk5; have HX5 := Lh hX5; have KV5 := Lh (KV.out.below hb5 KV.out.lt)
  rw [HEF.out]
  clear hk5 hX5 hb5 v0 x2 HFd
  go_wp2_with fail
  refine HK5.out.mono ?_
  rintro e wx ⟨rfl, hwx⟩
  obtain rfl : w5 = wx := hwx.symm
  clear HK5
  cases lk with
  | true =>
   have hw5 := HwX.out.trans (HX5.out.mono HwX.out.size)
   obtain ⟨pu, hpu⟩ : ∃ pu, pv[k]? = some pu := ⟨_, List.getElem?_eq_getElem (by rw [Hpl.out, parts_len, Hnm.out]; omega)⟩
   obtain ⟨pb, t, rfl, ht, hmi⟩ := (HPat.out w5 hw5 k m.part pu (part_ms Hm.out) hpu).2 (by show likeO m.op = true; rw [Hmo.out]; exact Hlk.out)
   obtain ⟨b3, o3, rfl, hc3⟩ := one_cell R3.out (show (pv.take nm)[k]? = some (.pointer (some ⟨pb, 0, none⟩)) by rw [List.getElem?_take_of_lt hlt]; exact hpu)
   have p3 := hc3 w5 hw5
   have kg := KX.out.below HX5.out KX.out.lt
   have g2 : w5.cell? ⟨g, 2, none⟩ = some (.slice (some ⟨b3, o3, none⟩) nm c3) := kg.cell 2
   have hwh := vWhole t pb w5 hmi fv
   rw [show str fv = Value.string F from HEF.out] at hwh
   have hyes : patWhole m.val fv = wholeB t (runesP fv) := by unfold patWhole; rw [show rexpP m.val = .ok t from ht]
   obtain ⟨yes, hy⟩ : ∃ yes, wholeB t (runesP fv) = yes := ⟨_, rfl⟩
   rw [hy] at hwh hyes
   have HWh := Lh hwh; have HYes := Lh hyes
   clear hwh hyes hy hmi ht hc3 hpu hw5 kg hql
   go_wp2_with fail
   refine HWh.out.mono ?_
   rintro e w6 ⟨rfl, hb6⟩
   have hX6 := HX5.out.trans (hb6.mono HX5.out.size)
   have y6 : w6.cell? ⟨wo.heap.size, 1, none⟩ = some (.int .i64 mo) := (KV5.out.below hb6 KV5.out.lt).cell 1
   have hHolds : matHolds r m = (yes != no) := by rw [HMh.out, HYes.out]; rfl
   have HHo := Lh hHolds; have HX6 := Lh hX6
   clear hHolds hX6 hb6 y1 y2 g2 p3 HWh HYes
   have hnt := vNot mo w6
   rw [Hno.out] at hnt
   have HNt := Lh hnt
   clear hnt
   go_wp2_with fail
   refine HNt.out.mono ?_
   rintro e wz ⟨rfl, hwz⟩
   obtain rfl : w6 = wz := hwz.symm
   clear HNt
   by_cases hyn : yes = no
   ·subst hyn
    have hans := HBad.out (by rw [HHo.out]; simp)
    have HAn := Lh hans; have HW := Lh (HwX.out.trans (HX6.out.mono HwX.out.size))
    clear hans
    go_wp2
    go_ret
    exact ⟨by rw [HAn.out]; rfl, HW.out⟩
   have hyb : (yes == no) = false := beq_eq_false_iff_ne.2 hyn
   have hnx := HTk.out
   rw [hall.out, HHo.out] at hnx
   have hnx2 : (yes != no) = true := by rw [bne, hyb]; rfl
   rw [hnx2, Bool.and_self] at hnx
   have HNx := Lh hnx
   clear hnx hnx2
   go_wp2
   exact ⟨⟨k + 1, by omega, by first | rfl | go_num, HNx, HX6⟩, by simp [intOf]; omega⟩
  | false =>
   obtain ⟨yes, rfl⟩ : ∃ yes : Bool, yes = eqv := ⟨_, rfl⟩
   have hHolds : matHolds r m = (yes != no) := by rw [HMh.out]; rfl
   have HHo := Lh hHolds
   clear hHolds y2
   have hnt := vNot mo w5
   rw [Hno.out] at hnt
   have HNt := Lh hnt
   clear hnt
   go_wp2_with fail
   refine HNt.out.mono ?_
   rintro e wz ⟨rfl, hwz⟩
   obtain rfl : w5 = wz := hwz.symm
   clear HNt
   by_cases hyn : yes = no
   ·subst hyn
    have hans := HBad.out (by rw [HHo.out]; simp)
    have HAn := Lh hans; have HW := Lh (HwX.out.trans (HX5.out.mono HwX.out.size))
    clear hans
    go_wp2
    go_ret
    exact ⟨by rw [HAn.out]; rfl, HW.out⟩
   have hyb : (yes == no) = false := beq_eq_false_iff_ne.2 hyn
   have hnx := HTk.out
   rw [hall.out, HHo.out] at hnx
   have hnx2 : (yes != no) = true := by rw [bne, hyb]; rfl
   rw [hnx2, Bool.and_self] at hnx
   have HNx := Lh hnx
   clear hnx hnx2
   go_wp2
   exact ⟨⟨k + 1, by omega, by first | rfl | go_num, HNx, HX5⟩, by simp [intOf]; omega⟩
 obtain rfl : k = nm := by omega
 have z1 : ¬ (k : Int) < (k : Int) := by omega
 have hms : q.ms.all (matHolds r) = true := by
  have := hall.out
  rwa [List.take_of_length_le (by rw [Hnm.out]; exact Nat.le_refl _)] at this
 have HMs := Lh hms; have HWo := Lh hwo; have HXo := Lh hbw.out
 have q1 : wo.cell? ⟨g, 1, none⟩ = some (.slice A2 nf c2) := (KX.out.below hbw.out KX.out.lt).cell 1
 clear hms hall hwo hbw x0
 go_wp2
 go_loopw [62] (fun i wr => ∃ j : Nat, j ≤ nf ∧ i = .int .i64 j ∧ Hid ((q.fs.take j).all (filHolds r) = true) ∧ Hid (Below X.heap.size X wr)) (fun i _ => nf - (intOf i).toNat)
 case atStart => exact ⟨0, Nat.zero_le _, rfl, Lh rfl, HXo⟩
 obtain ⟨j, hj, rfl, hall, hbw⟩ := hrel
 obtain ⟨wp, rfl⟩ : ∃ wp : World, wp = wr := ⟨_, rfl⟩
 have wj1 := wS j (by omega)
 have hwp := HwX.out.trans (hbw.out.mono HwX.out.size)
 by_cases hlt : j < nf
 ·have z2 : (j : Int) < (nf : Int) := by omega
  obtain ⟨f, hf⟩ : ∃ f, q.fs[j]? = some f := ⟨_, List.getElem?_eq_getElem (by rw [Hnf.out]; exact hlt)⟩
  obtain ⟨b, off, rfl, hc⟩ := fil_cells R2.out hf hlt
  obtain ⟨c0, c1_⟩ := hc wp hwp
  obtain ⟨N1, e1, hN1⟩ := str_form f.text
  rw [e1] at c1_
  obtain ⟨mo, hmo⟩ : ∃ mo, f.op = mo := ⟨_, rfl⟩
  rw [hmo] at c0
  obtain ⟨V, hV⟩ : ∃ V, V = wp.alloc (.cells #[.int .i64 mo, .string N1] 71) := ⟨_, rfl⟩
  have bV : Below wp.heap.size wp V := by rw [hV]; exact (Below.refl _ _).alloc (Nat.le_refl _) _
  have kV : Blk V wp.heap.size 71 [.int .i64 mo, .string N1] := by rw [hV]; exact Blk.new wp _ _
  have v0 : V.cell? ⟨wp.heap.size, 0, none⟩ = some (.int .i64 mo) := kV.cell 0
  have v1 : V.cell? ⟨wp.heap.size, 1, none⟩ = some (.string N1) := kV.cell 1
  have hXV := hbw.out.trans (bV.mono hbw.out.size)
  have hwV := HwX.out.trans (hXV.mono HwX.out.size)
  have x3 : V.cell? ⟨w.heap.size, 3, none⟩ = some (.string R) := (BX.out.below hXV BX.out.lt).cell 3
  have hmh : filHolds r f = ((bif likeO mo then patPart f.text r.line else Lib.contains r.line f.text) != notO mo) := by unfold filHolds filYes; rw [hmo]; cases likeO mo <;> rfl
  have htk := all_take (filHolds r) hf
  have hbad : filHolds r f = false → ANS = false := fun h => by rw [← HA.out]; exact holds_fs hf h
  obtain ⟨lk, hlk⟩ : ∃ lk, likeO mo = lk := ⟨_, rfl⟩
  obtain ⟨no, hno⟩ : ∃ no, notO mo = no := ⟨_, rfl⟩
  have hk5 := vLike mo V
  rw [hlk] at hk5
  rw [hlk, hno] at hmh
  have HK5 := Lh hk5; have HMh := Lh hmh; have HTk := Lh htk; have HBad := Lh hbad; have KV := Lh kV; have HXV := Lh hXV; have Hlk := Lh hlk; have Hno := Lh hno; have Hf := Lh hf; have HE1 := Lh e1; have Hmo := Lh hmo; have HwV := Lh hwV
  clear hk5 hmh htk hbad kV hXV hlk hno hf hN1 e1 hmo hc bV hwV hwp
  go_upto_region 17 with fail
  rw [← hV]
  clear hV c0 c1_
  go_wp2_with fail
  refine HK5.out.mono ?_
  rintro e wx ⟨rfl, hwx⟩
  obtain rfl : V = wx := hwx.symm
  clear HK5
  cases lk with
  | true =>
   obtain ⟨pu, hpu⟩ : ∃ pu, pv[k + j]? = some pu := ⟨_, List.getElem?_eq_getElem (by rw [Hpl.out, parts_len, Hnm.out, Hnf.out]; omega)⟩
   obtain ⟨pb, t, rfl, ht, hmi⟩ := (HPat.out V HwV.out (k + j) f pu (by rw [← Hnm.out]; exact part_fs Hf.out) hpu).2 (by rw [Hmo.out]; exact Hlk.out)
   obtain ⟨b4, o4, rfl, hc4⟩ := one_cell R4.out (show (pv.drop k)[j]? = some (.pointer (some ⟨pb, 0, none⟩)) by rw [List.getElem?_drop]; exact hpu)
   have kg := KX.out.below HXV.out KX.out.lt
   have g3 : ∀ w', Below V.heap.size V w' → w'.cell? ⟨g, 3, none⟩ = some (.slice (some ⟨b4, o4, none⟩) nf c4) := fun w' h => (kg.below h kg.lt).cell 3
   have p4 : ∀ w', Below V.heap.size V w' → w'.cell? ⟨b4, o4 + j, none⟩ = some (.pointer (some ⟨pb, 0, none⟩)) := fun w' h => hc4 w' (HwV.out.trans (h.mono HwV.out.size))
   have kb := BX.out.below HXV.out BX.out.lt
   have x3' : ∀ w', Below V.heap.size V w' → w'.cell? ⟨w.heap.size, 3, none⟩ = some (.string R) := fun w' h => (kb.below h kb.lt).cell 3
   have hT : Below V.heap.size V V.drew := (Below.refl _ _).drew
   have hwh := vPart t pb V.drew (hmi.below hT) r.line
   rw [show str r.line = Value.string R by rw [HR.out]] at hwh
   have hyes : patPart f.text r.line = partB t (runesP r.line) := by unfold patPart; rw [ht]
   obtain ⟨yes, hy⟩ : ∃ yes, partB t (runesP r.line) = yes := ⟨_, rfl⟩
   rw [hy] at hwh hyes
   have HWh := Lh hwh; have HYes := Lh hyes
   clear hwh hyes hy hmi ht hc4 hpu kg kb x3 v0 v1
   go_upto_region 18 with fail
   refine rgQ (fun w' => Below V.heap.size V w') 100 (by kernel_rfl) (fun _ _ d _ _ h => by cases d <;> exact h) fun qP => ?_
   apply tkq 0 (by kernel_rfl) rfl qP hT
   ·intro w' hS'; go_simp; exact ⟨rfl, rfl⟩
   apply tkq 1 (by kernel_rfl) rfl qP hT
   ·intro w' hS'; go_simp; exact ⟨rfl, rfl⟩
   apply tkq 2 (by kernel_rfl) rfl qP hT
   ·intro w' hS'; go_simp; exact ⟨rfl, rfl⟩
   apply tkq 3 (by kernel_rfl) rfl qP hT
   ·intro w' hS'; go_simp; exact ⟨rfl, rfl⟩
   apply tkq 4 (by kernel_rfl) rfl qP hT
   ·intro w' hS'; go_simp; exact ⟨rfl, rfl⟩
   apply tkq 5 (by kernel_rfl) rfl qP hT
   ·intro w' hS'; go_simp; exact ⟨rfl, rfl⟩
   apply tkq 6 (by kernel_rfl) rfl qP hT
   ·intro w' hS'; go_simp; exact ⟨rfl, rfl⟩
   apply tkq 7 (by kernel_rfl) rfl qP hT
   ·intro w' hS'; go_simp; exact ⟨rfl, rfl⟩
   apply tkq 8 (by kernel_rfl) rfl qP hT
   ·intro w' hS'; go_simp; exact ⟨rfl, rfl⟩
   (try simp only [Act.put]); (try simp only [List.setIfInBounds_toArray]); (try simp only [List.set])
   refine rnL 9 (by kernel_rfl) rfl (by kernel_rfl) (fun K hK => ?_)
   go_simp
   refine HWh.out.mono ?_
   rintro e w6 ⟨rfl, hb6⟩
   have hV6 := hT.trans hb6
   have hX6 := HXV.out.trans (hV6.mono HXV.out.size)
   have y6 : w6.cell? ⟨wp.heap.size, 0, none⟩ = some (.int .i64 mo) := (KV.out.below hV6 KV.out.lt).cell 0
   have hHolds : filHolds r f = (yes != no) := by rw [HMh.out, HYes.out]; rfl
   have HHo := Lh hHolds; have HX6 := Lh hX6
   refine hK _ _ (fun _ => hV6) ?_
   clear hK K g3 p4 x3' hHolds hX6 hb6 HWh HYes
   (try simp only [Act.put])
   apply tkq 10 (by kernel_rfl) rfl qP hV6
   ·intro w' hS'; go_simp; exact ⟨rfl, rfl⟩
   (try simp only [Act.put]); (try simp only [List.setIfInBounds_toArray]); (try simp only [List.set])
   refine dnL (by kernel_rfl) ?_ _
   clear hV6 hT
   have hnt := vNot mo w6
   rw [Hno.out] at hnt
   have HNt := Lh hnt
   clear hnt
   go_wp2_with fail
   refine HNt.out.mono ?_
   rintro e wz ⟨rfl, hwz⟩
   obtain rfl : w6 = wz := hwz.symm
   clear HNt
   by_cases hyn : yes = no
   ·subst hyn
    have hans := HBad.out (by rw [HHo.out]; simp)
    have HAn := Lh hans; have HW := Lh (HwX.out.trans (HX6.out.mono HwX.out.size))
    clear hans
    go_wp2
    go_ret
    exact ⟨by rw [HAn.out]; rfl, HW.out⟩
   have hyb : (yes == no) = false := beq_eq_false_iff_ne.2 hyn
   have hnx := HTk.out
   rw [hall.out, HHo.out] at hnx
   have hnx2 : (yes != no) = true := by rw [bne, hyb]; rfl
   rw [hnx2, Bool.and_self] at hnx
   have HNx := Lh hnx
   clear hnx hnx2
   go_wp2
   exact ⟨⟨j + 1, by omega, by first | rfl | go_num, HNx, HX6⟩, by simp [intOf]; omega⟩
  | false =>
   have hh := vHas r.line f.text V (HL.out.below HwV.out) Hline.out
   rw [show str r.line = Value.string R by rw [HR.out], show str f.text = Value.string N1 from HE1.out] at hh
   obtain ⟨yes, hy⟩ : ∃ yes, Lib.contains r.line f.text = yes := ⟨_, rfl⟩
   rw [hy] at hh
   have hHolds : filHolds r f = (yes != no) := by rw [HMh.out, ← hy]; rfl
   have HHo := Lh hHolds; have HH := Lh hh
   clear hHolds hy hh
   go_wp2_with fail
   refine HH.out.mono ?_
   rintro e wy ⟨rfl, hwy⟩
   obtain rfl : V = wy := hwy.symm
   clear HH
   have hnt := vNot mo V
   rw [Hno.out] at hnt
   have HNt := Lh hnt
   clear hnt
   go_wp2_with fail
   refine HNt.out.mono ?_
   rintro e wz ⟨rfl, hwz⟩
   obtain rfl : V = wz := hwz.symm
   clear HNt
   by_cases hyn : yes = no
   ·subst hyn
    have hans := HBad.out (by rw [HHo.out]; simp)
    have HAn := Lh hans; have HW := Lh (HwX.out.trans (HXV.out.mono HwX.out.size))
    clear hans
    go_wp2
    go_ret
    exact ⟨by rw [HAn.out]; rfl, HW.out⟩
   have hyb : (yes == no) = false := beq_eq_false_iff_ne.2 hyn
   have hnx := HTk.out
   rw [hall.out, HHo.out] at hnx
   have hnx2 : (yes != no) = true := by rw [bne, hyb]; rfl
   rw [hnx2, Bool.and_self] at hnx
   have HNx := Lh hnx
   clear hnx hnx2
   go_wp2
   exact ⟨⟨j + 1, by omega, by first | rfl | go_num, HNx, HXV⟩, by simp [intOf]; omega⟩
 obtain rfl : j = nf := by omega
 have z2 : ¬ (j : Int) < (j : Int) := by omega
 have hans : ANS = true := by
  have := hall.out
  rw [List.take_of_length_le (by rw [Hnf.out]; exact Nat.le_refl _)] at this
  rw [← HA.out, holdsQ, HMs.out, this]
  rfl
 have HAn := Lh hans
 clear hans hall
 go_wp2
 go_ret
 exact ⟨by rw [HAn.out]; rfl, hwp⟩
end Go.Proofs.YtecejnilajbdpaaGreatDoor
