import Derived.Test.YtecejnilajbdpaaGreatDoorTs52
namespace Go.Proofs.YtecejnilajbdpaaGreatDoor
open Go.RowKit Go.Shelf Garner
theorem FilAt.mono2 {B B' : Nat} {w : World} {g : Nat} {q : QueryP} (h : FilAt B w g q) (hB : B' ≤ B) : FilAt B' w g q := by
 obtain ⟨v1, v2, P, Q, pv, h1, h2⟩ := h
 exact ⟨v1, v2, P, Q, pv, ⟨h1.blk, own_mono h1.ms hB, own_mono h1.fs hB, own_mono h1.ps hB, own_mono h1.qs hB, h1.dis, h1.pat, Nat.le_trans hB h1.low⟩, h2⟩
theorem TailIs.mono2 {B B' : Nat} {w : World} {g f : Nat} {q : QueryP} {ds : List RecD} {ov : Bool} {V : Value} (h : TailIs B w g q ds ov f V) (hB : B' ≤ B) : TailIs B' w g q ds ov f V :=
 ⟨h.blk, h.fil.mono2 hB, own_mono h.row hB, fun d hd => own_mono (h.lab d hd) hB, h.ms, h.fs, Nat.le_trans hB h.low⟩
structure OpD where
 kind : Int
 n : Int
 d : RecD
def OpD.cells (o : OpD) : List Value := [.int .i64 o.kind, .int .i64 o.n, .int .i64 o.d.r.time, .int .u64 o.d.r.seq, .slice o.d.A o.d.r.labels.length o.d.c, strB o.d.r.line]
theorem OpD.cells_len (o : OpD) : o.cells.length = 6 := rfl
theorem op_cells {w : World} {B : Nat} {l : List OpD} {A : Option Addr} {n : Nat} (h : Row w B 6 A n (l.flatMap OpD.cells)) {k : Nat} {o : OpD} (hm : l[k]? = some o) (hk : k < n) : ∃ b off, A = some ⟨b, off, none⟩ ∧ ∀ wx, Below B w wx → wx.cell? ⟨b, off + k * 6, none⟩ = some (.int .i64 o.kind) ∧ wx.cell? ⟨b, off + k * 6 + 1, none⟩ = some (.int .i64 o.n) ∧ wx.cell? ⟨b, off + k * 6 + 2, none⟩ = some (.int .i64 o.d.r.time) ∧ wx.cell? ⟨b, off + k * 6 + 3, none⟩ = some (.int .u64 o.d.r.seq) ∧ wx.cell? ⟨b, off + k * 6 + 4, none⟩ = some (.slice o.d.A o.d.r.labels.length o.d.c) ∧ wx.cell? ⟨b, off + k * 6 + 5, none⟩ = some (strB o.d.r.line) := by
 obtain ⟨b, off, e, hb, hc⟩ := row_cells OpD.cells_len h hm hk
 refine ⟨b, off, e, fun wx hx => ?_⟩
 have key : ∀ j, j < 6 → wx.cell? ⟨b, off + (k * 6 + j), none⟩ = o.cells[j]? := fun j hj => by
  rw [hx.cell (p := ⟨b, off + (k * 6 + j), none⟩) hb]; exact hc j hj
 have k1 := key 1 (by omega); have k2 := key 2 (by omega); have k3 := key 3 (by omega); have k4 := key 4 (by omega); have k5 := key 5 (by omega)
 rw [← Nat.add_assoc] at k1 k2 k3 k4 k5
 exact ⟨key 0 (by omega), k1, k2, k3, k4, k5⟩
theorem own_heap {w : World} {B sz n c g : Nat} {e : TypeId} {xs : List Value} (h : w.ownsRow B e sz (.slice (some ⟨g, 0, none⟩) n c) n xs) : ∃ cs z, w.heap[g]? = some (.cells cs e z) := by
 rcases h.2 with ⟨h0, -⟩ | ⟨g', cap, cur, hv, -, hh, -⟩
 ·cases h0
 ·injection hv with e1
  injection e1 with e1
  injection e1 with e1
  subst e1
  exact ⟨_, _, hh⟩
set_option maxRecDepth 100000 in
set_option maxHeartbeats 64000000 in
theorem wTailScripts0 {os : List OpD} {rs : List RecD} (hrs : rs = os.map OpD.d) {CK : Nat} {MA FA A : Option Addr} {nm nf cm cf n c : Nat} {w : World} (hL : Lt w)
  (hnew : ∀ w1, Below w.heap.size w w1 → Calls Tryz.prog 12 #[.agg #[.slice MA nm cm, .slice FA nf cf]] w1 fun e w2 => Below w1.heap.size w1 w2 ∧ ∃ P, e = .returned (.tuple #[.pointer P, .int .i64 CK]) ∧ ∀ w3, Below w2.heap.size w2 w3 →
   Calls Tryz.prog 13 #[.agg #[.slice MA nm cm, .slice FA nf cf]] w3 fun e w4 => Below w3.heap.size w3 w4 ∧ ∃ R St St2 St3, e = .returned (.tuple #[.pointer R, .int .i64 CK]) ∧ ((P = none ∧ R = none) ∨ ∃ a r, P = some ⟨a, 0, none⟩ ∧ R = some ⟨r, 0, none⟩) ∧ TwoT w P R rs St St2 St3 ∧ St 0 w4)
  (hr : Row w w.heap.size 6 A n (os.flatMap OpD.cells)) (hn : os.length = n) (hlab : ∀ d ∈ rs, Row w w.heap.size 2 d.A d.r.labels.length (d.r.labels.flatMap labCells)) (hfew : ∀ d ∈ rs, d.r.labels.length ≤ 1000000000000) (hn2 : n ≤ 1048576) :
  Calls Tryz.prog 3 #[.agg #[.slice MA nm cm, .slice FA nf cf], .slice A n c] w fun e w' => e = .returned (.bool true) ∧ Below w.heap.size w w' := by
 obtain ⟨X, hX⟩ : ∃ X, X = w.alloc (.cells #[.slice MA nm cm, .slice FA nf cf] 25) := ⟨_, rfl⟩
 have hwX : Below w.heap.size w X := by rw [hX]; exact (Below.refl _ _).alloc (Nat.le_refl _) _
 have bX : Blk X w.heap.size 25 [.slice MA nm cm, .slice FA nf cf] := by rw [hX]; exact Blk.new w _ _
 have haw := awake28 X (hL.below hwX)
 have HwX := Lib.hid hwX; have BX := Lib.hid bX; have HAw := Lib.hid haw; have HR := Lib.hid hr; have HNew := Lib.hid hnew; have Hn := Lib.hid hn; have HLab := Lib.hid hlab; have HFew := Lib.hid hfew; have HRs := Lib.hid hrs
 clear hwX bX haw hL hr hnew hn hlab hfew hrs
 go_enter Tryz.func3, Tryz.ntmps3
 go_upto_region 1 with fail
 rw [← hX]
 clear hX
 go_wp2_with fail
 refine HAw.out.mono ?_
 rintro e w1 ⟨rfl, hb1⟩
 have hw1 := HwX.out.trans (hb1.mono HwX.out.size)
 have bx1 := BX.out.below hb1 BX.out.lt
 have x0 : w1.cell? ⟨w.heap.size, 0, none⟩ = some (.slice MA nm cm) := bx1.cell 0
 have x1 : w1.cell? ⟨w.heap.size, 1, none⟩ = some (.slice FA nf cf) := bx1.cell 1
 have HN1 := Lib.hid (HNew.out w1 hw1); have HW1 := Lib.hid hw1; have BX1 := Lib.hid bx1
 clear hw1 bx1 hb1 HAw BX HNew
 go_wp2_with fail
 refine HN1.out.mono ?_
 rintro e w2 ⟨hb2, P, rfl, hc⟩
 have bx2 := BX1.out.below hb2 BX1.out.lt
 have y0 : w2.cell? ⟨w.heap.size, 0, none⟩ = some (.slice MA nm cm) := bx2.cell 0
 have y1 : w2.cell? ⟨w.heap.size, 1, none⟩ = some (.slice FA nf cf) := bx2.cell 1
 have HN2 := Lib.hid (hc w2 (Below.refl _ _))
 clear hc bx2 hb2 x0 x1 HN1 BX1
 go_wp2_with fail
 refine HN2.out.mono ?_
 rintro e w4 ⟨hb4, R, St, St2, St3, rfl, hpr, hT, hS0⟩
 have HPr := Lib.hid hpr; have HT := Lib.hid hT; have HS0 := Lib.hid hS0
 clear hpr hT hS0 hb4 HN2 y0 y1 HW1
 go_upto_region 5 with fail
 go_cut [39] from 30 to 39 (fun s wx => s = .bool false ∧ wx = w4)
 case first =>
  rcases HPr.out with ⟨h1, h2⟩ | ⟨a, r, h1, h2⟩
  ·have e1 := h1; have e2 := h2
   clear HPr HT
   subst e1
   subst e2
   go_wp2
   go_meet
   case rel => exact ⟨rfl, rfl⟩
  ·have e1 := h1; have e2 := h2
   clear HPr HT
   subst e1
   subst e2
   go_wp2
   go_meet
   case rel => exact ⟨rfl, rfl⟩
 case rest =>
  obtain ⟨rfl, hz⟩ := hcut
  obtain rfl : w4 = wc := hz.symm
  go_wp2
  go_loopw [9] (fun i wr => ∃ k : Nat, k ≤ n ∧ i = .int .i64 k ∧ Hid (St k wr)) (fun i _ => n - (intOf i).toNat)
  case atStart => exact ⟨0, Nat.zero_le _, rfl, HS0⟩
  case round =>
   obtain ⟨k, hk, rfl, HS⟩ := hrel
   obtain ⟨wo, rfl⟩ : ∃ wo : World, wo = wr := ⟨_, rfl⟩
   have wk1 : IntKind.i64.wrap ((k : Int) + 1) = ((k + 1 : Nat) : Int) := by rw [IntKind.wrap_i64]; omega
   by_cases hlt : k < n
   ·have z1 : (k : Int) < (n : Int) := by omega
    obtain ⟨o, ho⟩ : ∃ o, os[k]? = some o := ⟨_, List.getElem?_eq_getElem (by rw [Hn.out]; exact hlt)⟩
    have hom : o.d ∈ rs := by rw [HRs.out]; exact List.mem_map.2 ⟨o, List.mem_of_getElem? ho, rfl⟩
    have hlow := HT.out.low _ _ HS.out
    obtain ⟨ab, ao, rfl, hc⟩ := op_cells HR.out ho hlt
    obtain ⟨T0, eT, -⟩ := str_form o.d.r.line
    obtain ⟨tv, htv⟩ : ∃ tv, o.d.r.time = tv := ⟨_, rfl⟩
    obtain ⟨sv, hsv⟩ : ∃ sv, o.d.r.seq = sv := ⟨_, rfl⟩
    obtain ⟨ln, hln⟩ : ∃ ln, o.d.r.labels.length = ln := ⟨_, rfl⟩
    obtain ⟨ok, hok⟩ : ∃ ok, o.kind = ok := ⟨_, rfl⟩
    obtain ⟨on, hon⟩ : ∃ on, o.n = on := ⟨_, rfl⟩
    rw [eT, htv, hsv, hln, hok, hon] at hc
    obtain ⟨c0, c1, c2, c3, c4, c5⟩ := hc wo hlow
    have hrv : ∀ x : RecD, x.r = o.d.r → recV x = .agg #[.int .i64 tv, .int .u64 sv, .slice x.A ln x.c, .string T0] := fun x hx => by unfold recV; rw [hx, htv, hsv, hln, eT]
    have hlabr := HLab.out _ hom
    rw [hln] at hlabr
    obtain ⟨lcs, hlcs⟩ : ∃ lcs, o.d.r.labels.flatMap labCells = lcs := ⟨_, rfl⟩
    have hfew := HFew.out _ hom
    rw [hln] at hfew
    have hl1 : ∀ u ∈ lcs, u.oneCell' = true := by rw [← hlcs]; exact lab_one _
    rw [hlcs] at hlabr
    obtain ⟨X2, hX2⟩ : ∃ X2, X2 = wo.alloc (.cells #[.int .i64 ok, .int .i64 on, .int .i64 tv, .int .u64 sv, .slice o.d.A ln o.d.c, .string T0] 40) := ⟨_, rfl⟩
    have b2 : Below wo.heap.size wo X2 := by rw [hX2]; exact (Below.refl _ _).alloc (Nat.le_refl _) _
    have k2 : Blk X2 wo.heap.size 40 [.int .i64 ok, .int .i64 on, .int .i64 tv, .int .u64 sv, .slice o.d.A ln o.d.c, .string T0] := by rw [hX2]; exact Blk.new wo _ _
    have d0 : X2.cell? ⟨wo.heap.size, 0, none⟩ = some (.int .i64 ok) := k2.cell 0
    have d1 : X2.cell? ⟨wo.heap.size, 1, none⟩ = some (.int .i64 on) := k2.cell 1
    have d2 : X2.cell? ⟨wo.heap.size, 2, none⟩ = some (.int .i64 tv) := k2.cell 2
    have d3 : X2.cell? ⟨wo.heap.size, 3, none⟩ = some (.int .u64 sv) := k2.cell 3
    have d4 : X2.cell? ⟨wo.heap.size, 4, none⟩ = some (.slice o.d.A ln o.d.c) := k2.cell 4
    have d5 : X2.cell? ⟨wo.heap.size, 5, none⟩ = some (.string T0) := k2.cell 5
    have HLow := Lib.hid hlow; have HRv := Lib.hid hrv; have HLr := Lib.hid hlabr; have HLcs := Lib.hid hlcs; have HL1 := Lib.hid hl1; have B2 := Lib.hid b2; have K2 := Lib.hid k2; have Hom := Lib.hid hom; have HFw := Lib.hid hfew; have Hln := Lib.hid hln
    clear hlow hrv hlabr hlcs hl1 b2 k2 hom hfew hln hc eT htv hsv hok hon ho
    go_upto_region 11 with fail
    rw [← hX2]
    clear hX2 c0 c1 c2 c3 c4 c5
    by_cases h1 : ok = 1
    ·subst h1
     obtain ⟨Y, hY⟩ : ∃ Y, Y = X2.alloc (.cells #[.int .i64 tv, .int .u64 sv, .slice o.d.A ln o.d.c, .string T0] 38) := ⟨_, rfl⟩
     have bY : Below X2.heap.size X2 Y := by rw [hY]; exact (Below.refl _ _).alloc (Nat.le_refl _) _
     have kY : Blk Y X2.heap.size 38 [.int .i64 tv, .int .u64 sv, .slice o.d.A ln o.d.c, .string T0] := by rw [hY]; exact Blk.new X2 _ _
     have kO := K2.out.below bY K2.out.lt
     have y4 : (Y.alloc (.cells #[] 43)).cell? ⟨wo.heap.size, 4, none⟩ = some (.slice o.d.A ln o.d.c) := (Blk.alloc kO _).cell 4
     have bYo := B2.out.trans (bY.mono B2.out.size)
     have hlY := HLow.out.trans (bYo.mono HLow.out.size)
     have hown : (Y.alloc (.cells #[] 43)).ownsRow Y.heap.size 43 2 (.slice (some ⟨Y.heap.size, 0, none⟩) 0 0) 0 [] := own_empty (heap_alloc_new _ _) (Nat.le_refl _)
     have hrowY := (HLr.out.below hlY).alloc (o := .cells #[] 43) hlY.size
     have KY := Lib.hid kY; have KO := Lib.hid kO; have BYo := Lib.hid bYo; have HlY := Lib.hid hlY; have HOwn := Lib.hid hown; have HRowY := Lib.hid hrowY; have Hyl := Lib.hid kY.lt; have HbYX := Lib.hid bY
     clear bY kY kO bYo hlY hown hrowY
     go_upto_region 14 with fail
     rw [← hY]
     clear hY d0 d1 d2 d3 d4 d5
     have hfw := HFw.out
     have hsz9 : Y.heap.size ≤ (Y.alloc (.cells #[] 43)).heap.size := by simp
     go_upto_region 15 with (at_builtin; refine wpList_app _ rfl labE rfl rfl HOwn.out rfl HRowY.out HL1.out (by omega) (by simp) ?_; intro v8 w8 own8 hg8 hb8 hx8; rw [Nat.zero_add] at own8; obtain ⟨XA, xc, rfl, -⟩ := own_form own8; have hY8 := ((Below.refl Y.heap.size Y).alloc (Nat.le_refl _) (.cells #[] 43)).trans hb8; have k8 := KY.out.below hY8 Hyl.out; have e2 : w8.cell? ⟨X2.heap.size, 2, none⟩ = some (.slice o.d.A ln o.d.c) := k8.cell 2; have f2 := k8.frozen 2; have K8 := Lib.hid k8; have HY8 := Lib.hid hY8; have O8 := Lib.hid own8; clear own8 hg8 hb8 hx8 k8 hY8)
     obtain ⟨W1, hW1⟩ : ∃ W1, W1 = w8.setCell ⟨X2.heap.size, 2, none⟩ (.slice XA ln xc) := ⟨_, rfl⟩
     rw [← hW1]
     have hxo : wo.heap.size < X2.heap.size := K2.out.lt
     have kx : Blk W1 X2.heap.size 38 [.int .i64 tv, .int .u64 sv, .slice XA ln xc, .string T0] := by rw [hW1]; exact K8.out.set_ 2 _
     have ko : Blk W1 wo.heap.size 40 [.int .i64 1, .int .i64 on, .int .i64 tv, .int .u64 sv, .slice o.d.A ln o.d.c, .string T0] := by rw [hW1]; exact (KO.out.below HY8.out KO.out.lt).far (by show wo.heap.size ≠ X2.heap.size; omega) _
     have kr : KeepM [38] w8 W1 := by rw [hW1]; exact KeepM.setCell (.refl _ w8) (p := ⟨X2.heap.size, 2, none⟩) (show w8.heap[X2.heap.size]? = _ from K8.out) (by simp) _
     have ow := kr.own O8.out (by decide)
     have hlW : Below wo.heap.size wo W1 := by rw [hW1]; exact (BYo.out.trans (HY8.out.mono BYo.out.size)).setCell (by show wo.heap.size ≤ X2.heap.size; omega) _
     have hYs : wo.heap.size ≤ Y.heap.size := BYo.out.size
     have s0 : Blk W1.drew X2.heap.size 38 [.int .i64 tv, .int .u64 sv, .slice XA ln xc, .string T0] ∧ Blk W1.drew wo.heap.size 40 [.int .i64 1, .int .i64 on, .int .i64 tv, .int .u64 sv, .slice o.d.A ln o.d.c, .string T0] := ⟨kx.drew, ko.drew⟩
     have owD := own_below ow (Below.refl _ _).drew
     have hlD : Below wo.heap.size wo W1.drew := hlW.drew
     have hrowx : Row W1.drew W1.drew.heap.size 2 XA ln lcs := Row.of_own owD
     have hoff := HT.out.off k wo W1.drew ⟨o.d.r, XA, xc⟩ o.d (by omega) HS.out Hom.out rfl hlD (by show Row W1.drew _ 2 XA o.d.r.labels.length (o.d.r.labels.flatMap labCells); rw [Hln.out, HLcs.out]; exact hrowx)
     rw [HRv.out ⟨o.d.r, XA, xc⟩ rfl, HRv.out o.d rfl] at hoff
     have HOff := Lib.hid hoff; have OwD := Lib.hid owD; have HYs := Lib.hid hYs; have HXo := Lib.hid hxo
     clear hW1 kx ko kr ow hlW hlD hrowx hoff e2 f2 hYs hxo hfw hsz9 y4 owD
     refine rgN (fun w' => Blk w' X2.heap.size 38 [.int .i64 tv, .int .u64 sv, .slice XA ln xc, .string T0] ∧ Blk w' wo.heap.size 40 [.int .i64 1, .int .i64 on, .int .i64 tv, .int .u64 sv, .slice o.d.A ln o.d.c, .string T0]) 100 (by kernel_rfl) ?_
     apply tkL 0 (by kernel_rfl) rfl (fun _ _ _ h => h) (by kernel_rfl) s0
     ·intro w' hS'; go_simp; exact ⟨rfl, rfl⟩
     apply tkL 1 (v := (.agg #[.int .i64 tv, .int .u64 sv, .slice XA ln xc, .string T0])) (by kernel_rfl) rfl (fun _ _ _ h => h) (by kernel_rfl) s0
     ·intro w' hS'; have k0 := hS'.1.cell 0; have k1 := hS'.1.cell 1; have k2 := hS'.1.cell 2; have k3 := hS'.1.cell 3; go_simp; exact ⟨rfl, rfl⟩
     apply tkL 3 (by kernel_rfl) rfl (fun _ _ _ h => h) (by kernel_rfl) s0
     ·intro w' hS'; go_simp; exact ⟨rfl, rfl⟩
     apply tkL 4 (by kernel_rfl) rfl (fun _ _ _ h => h) (by kernel_rfl) s0
     ·intro w' hS'; go_simp; exact ⟨rfl, rfl⟩
     apply tkL 5 (v := (.agg #[.int .i64 tv, .int .u64 sv, .slice o.d.A ln o.d.c, .string T0])) (by kernel_rfl) rfl (fun _ _ _ h => h) (by kernel_rfl) s0
     ·intro w' hS'; have k2 := hS'.2.cell 2; have k3 := hS'.2.cell 3; have k4 := hS'.2.cell 4; have k5 := hS'.2.cell 5; go_simp; exact ⟨rfl, rfl⟩
     (try simp only [Act.put]); (try simp only [List.setIfInBounds_toArray]); (try simp only [List.set])
     refine rnL 2 (by kernel_rfl) rfl (by kernel_rfl) (fun K hK => ?_)
     go_simp
     refine HOff.out.mono ?_
     rintro e w9 ⟨bb, rfl, hbu9, hnx9⟩
     have s9 : Blk w9 X2.heap.size 38 [.int .i64 tv, .int .u64 sv, .slice XA ln xc, .string T0] ∧ Blk w9 wo.heap.size 40 [.int .i64 1, .int .i64 on, .int .i64 tv, .int .u64 sv, .slice o.d.A ln o.d.c, .string T0] := ⟨But0.blk hbu9 s0.1 (Nat.le_of_lt HXo.out), But0.blk hbu9 s0.2 (Nat.le_refl _)⟩
     have o9 := But0.own hbu9 OwD.out HYs.out
     have HNx9 := Lib.hid (hnx9 w9 (Below.refl _ _)); have O9 := Lib.hid o9
     refine hK _ _ (fun _ => s9) ?_
     clear hK K hbu9 hnx9 o9
     (try simp only [Act.put])
     refine rnL 6 (by kernel_rfl) rfl (by kernel_rfl) (fun K hK => ?_)
     go_simp
     refine HNx9.out.mono ?_
     rintro e wa ⟨rfl, hbua, hS2⟩
     have sa : Blk wa X2.heap.size 38 [.int .i64 tv, .int .u64 sv, .slice XA ln xc, .string T0] ∧ Blk wa wo.heap.size 40 [.int .i64 1, .int .i64 on, .int .i64 tv, .int .u64 sv, .slice o.d.A ln o.d.c, .string T0] := ⟨But0.blk hbua s9.1 (Nat.le_of_lt HXo.out), But0.blk hbua s9.2 (Nat.le_refl _)⟩
     have Oa := Lib.hid (But0.own hbua O9.out HYs.out); have HS2 := Lib.hid hS2
     refine hK _ _ (fun _ => sa) ?_
     clear hK K hbua hS2
     (try simp only [Act.put])
     apply tkL 7 (by kernel_rfl) rfl (fun _ _ _ h => h) (by kernel_rfl) sa
     ·intro w' hS'; go_simp; exact ⟨rfl, rfl⟩
     (try simp only [Act.put]); (try simp only [List.setIfInBounds_toArray]); (try simp only [List.set])
     refine dnL (by kernel_rfl) ?_ _
     have Kx := Lib.hid sa.1
     clear s0 s9 sa
     obtain ⟨hi, hhi⟩ : ∃ hi, W1.drew.heap.size = hi := ⟨_, rfl⟩
     rw [hhi] at HS2
     have HHi := Lib.hid hhi
     clear hhi
     have hne : (bb != bb) = false := by cases bb <;> rfl
     have hne2 : (bb == bb) = true := by cases bb <;> rfl
     go_wp2
     clear hne hne2
     go_loopw [12] (fun i wr => ∃ (j : Nat) (xs : List Value), j ≤ ln ∧ i = .int .i64 j ∧ Hid (St2 (k + 1) wo.heap.size hi wr) ∧ Hid (Blk wr X2.heap.size 38 [.int .i64 tv, .int .u64 sv, .slice XA ln xc, .string T0]) ∧ Hid (wr.ownsRow Y.heap.size 43 2 (.slice XA ln xc) ln xs)) (fun i _ => ln - (intOf i).toNat)
     case atStart => exact ⟨0, _, Nat.zero_le _, rfl, HS2, Kx, Oa⟩
     case round =>
      obtain ⟨j, xs, hj, rfl, hst2, hkx, hox⟩ := hrel
      obtain ⟨wp, rfl⟩ : ∃ wp : World, wp = wr := ⟨_, rfl⟩
      have wj1 : IntKind.i64.wrap ((j : Int) + 1) = ((j + 1 : Nat) : Int) := by have := HFw.out; rw [IntKind.wrap_i64]; omega
      have x2 : wp.cell? ⟨X2.heap.size, 2, none⟩ = some (.slice XA ln xc) := hkx.out.cell 2
      by_cases hlt2 : j < ln
      ·have z2 : (j : Int) < (ln : Int) := by omega
       obtain ⟨xb, rfl, hxb1, -, -, -, hcell⟩ := own_at hox.out (by omega)
       have hxb2 : xb < hi := by have h := (OwD.out.lt xb rfl).2; have h2 := HHi.out; omega
       have hxl : xs.length = ln * 2 := hox.out.1
       obtain ⟨u0, hu0⟩ : ∃ u0, xs[j * 2 + 1]? = some u0 := ⟨_, List.getElem?_eq_getElem (by omega)⟩
       have ck : wp.cell? ⟨xb, j * 2 + 1, none⟩ = some u0 := by rw [hcell (j * 2 + 1) (by omega), hu0]
       have fk := hox.out.frozenAt (j * 2 + 1)
       obtain ⟨hcs, hcz, hheap⟩ := own_heap hox.out
       have hst3 : ∀ u, St2 (k + 1) wo.heap.size hi (wp.setCell ⟨xb, j * 2 + 1, none⟩ u) := fun u => HT.out.spo2 _ _ _ _ _ xb hst2.out (by have := HYs.out; omega) hxb2 ((But.refl _ _).setCell (by simp) _) (KeepM.setCell (.refl _ wp) (p := ⟨xb, j * 2 + 1, none⟩) hheap (by simp) _)
       have hne : X2.heap.size ≠ xb := by have := Hyl.out; omega
       have hkx2 := fun u => hkx.out.far (p := ⟨xb, j * 2 + 1, none⟩) hne u
       have hox2 := fun u => own_setQ (j := j * 2 + 1) (u := u) hox.out
       have HSt3 := Lib.hid hst3; have HKx2 := Lib.hid hkx2; have HOx2 := Lib.hid hox2
       clear hcell hheap hst3 hne hkx2 hox2 hst2 hkx hox hxl hxb1 hxb2 hu0
       go_wp2
       go_roundw
       case rel => exact ⟨j + 1, _, by omega, by first | rfl | go_num, Lib.hid (HSt3.out _), Lib.hid (HKx2.out _), Lib.hid (HOx2.out _)⟩
       case measure => simp [intOf]; omega
      ·obtain rfl : j = ln := by omega
       have z2 : ¬ (j : Int) < (j : Int) := by omega
       have HSx := Lib.hid (HT.out.low2 _ _ _ _ hst2.out)
       clear hst2 hkx hox
       go_upto_region 30 with fail
       clear x2
       obtain ⟨m, hwp, hwr⟩ := HT.out.wait (k + 1) wp (by omega) HSx.out
       obtain ⟨ov, hop, hor⟩ := HT.out.over (k + 1) wp HSx.out
       have HWp := Lib.hid hwp; have HWr := Lib.hid hwr; have HOp := Lib.hid hop
       clear hwp hwr hop HPr
       rcases hor with ⟨rfl, rfl⟩ | ⟨r, rfl, hcell⟩
       ·go_wp2_with fail
        refine (HWp.out _ (Below.refl _ _)).mono ?_
        rintro e wz ⟨rfl, hz⟩
        obtain rfl : wp = wz := hz.symm
        go_wp2_with fail
        refine (HWr.out _ (Below.refl _ _)).mono ?_
        rintro e w8 ⟨rfl, hb8⟩
        have HO8 := Lib.hid (HOp.out w8 hb8)
        have HSz := Lib.hid (HT.out.bel _ _ _ HSx.out hb8)
        clear hb8
        go_wp2_with fail
        refine HO8.out.mono ?_
        rintro e wz ⟨rfl, hz⟩
        obtain rfl : w8 = wz := hz.symm
        go_wp2
        go_roundw
        case rel => exact ⟨k + 1, by omega, by first | rfl | go_num, HSz⟩
        case measure => simp [intOf]; omega
       ·have HCell := Lib.hid hcell
        clear hcell
        go_wp2_with fail
        refine (HWp.out _ (Below.refl _ _)).mono ?_
        rintro e wz ⟨rfl, hz⟩
        obtain rfl : wp = wz := hz.symm
        go_wp2_with fail
        refine (HWr.out _ (Below.refl _ _)).mono ?_
        rintro e w8 ⟨rfl, hb8⟩
        have HO8 := Lib.hid (HOp.out w8 hb8)
        have r4 := HCell.out w8 hb8
        have HSz := Lib.hid (HT.out.bel _ _ _ HSx.out hb8)
        clear hb8
        go_wp2_with fail
        refine HO8.out.mono ?_
        rintro e wz ⟨rfl, hz⟩
        obtain rfl : w8 = wz := hz.symm
        cases ov with
        | false =>
         go_wp2
         go_roundw
         case rel => exact ⟨k + 1, by omega, by first | rfl | go_num, HSz⟩
         case measure => simp [intOf]; omega
        | true =>
         go_wp2
         go_roundw
         case rel => exact ⟨k + 1, by omega, by first | rfl | go_num, HSz⟩
         case measure => simp [intOf]; omega
    ·by_cases h2 : ok = 2
     ·subst h2
      have htk := HT.out.take k wo X2 on (by omega) HS.out B2.out
      have HTk := Lib.hid htk
      clear htk
      go_wp2_with fail
      refine HTk.out.mono ?_
      rintro e w5 ⟨LA, K, lc, bb, rfl, hbu5, hK8, hnx5⟩
      have k5 := But0.blk hbu5 K2.out (Nat.le_refl _)
      have e1 : w5.cell? ⟨wo.heap.size, 1, none⟩ = some (.int .i64 on) := k5.cell 1
      have HNx5 := Lib.hid (hnx5 w5 (Below.refl _ _))
      clear hbu5 hnx5 k5 d0 d1 d2 d3 d4 d5 HTk
      go_wp2_with fail
      refine HNx5.out.mono ?_
      rintro e w6 ⟨MA2, mc, da, db, xs0, rfl, -, r1, r2, heq, oX, hS3⟩
      have hsa := vRSameAll da db LA MA2 K lc mc w6 r1 r2 heq (by omega)
      have HSa := Lib.hid hsa; have OX := Lib.hid oX; have HS3 := Lib.hid hS3
      clear hsa oX hS3 r1 r2 heq e1 HNx5
      have hne : (bb != bb) = false := by cases bb <;> rfl
      have hne2 : (bb == bb) = true := by cases bb <;> rfl
      go_wp2_with fail
      refine HSa.out.mono ?_
      rintro e w7 ⟨rfl, hb7⟩
      have OX7 := Lib.hid (own_below OX.out hb7); have HS37 := Lib.hid (HT.out.bel3 _ _ _ _ HS3.out hb7)
      clear hb7
      go_wp2
      clear hne hne2
      go_loopw [17] (fun i wr => ∃ (j : Nat) (xs : List Value), j ≤ K ∧ i = .int .i64 j ∧ Hid (St3 k (Value.slice LA K lc).ownBlock wr) ∧ Hid (wr.ownsRow w.heap.size 38 4 (.slice LA K lc) K xs)) (fun i _ => K - (intOf i).toNat)
      case atStart => exact ⟨0, _, Nat.zero_le _, rfl, HS37, OX7⟩
      case round =>
       obtain ⟨j, xs, hj, rfl, hst3, hox⟩ := hrel
       obtain ⟨wp, rfl⟩ : ∃ wp : World, wp = wr := ⟨_, rfl⟩
       have wj1 : IntKind.i64.wrap ((j : Int) + 1) = ((j + 1 : Nat) : Int) := by rw [IntKind.wrap_i64]; omega
       by_cases hlt2 : j < K
       ·have z2 : (j : Int) < (K : Int) := by omega
        obtain ⟨xb, rfl, -, -, -, -, hcell⟩ := own_at hox.out (by omega)
        have hxl : xs.length = K * 4 := hox.out.1
        obtain ⟨u0, hu0⟩ : ∃ u0, xs[j * 4 + 3]? = some u0 := ⟨_, List.getElem?_eq_getElem (by omega)⟩
        have ck : wp.cell? ⟨xb, j * 4 + 3, none⟩ = some u0 := by rw [hcell (j * 4 + 3) (by omega), hu0]
        have fk := hox.out.frozenAt (j * 4 + 3)
        obtain ⟨hcs, hcz, hheap⟩ := own_heap hox.out
        have hst4 : ∀ u, St3 k (Value.slice (some ⟨xb, 0, none⟩) K lc).ownBlock (wp.setCell ⟨xb, j * 4 + 3, none⟩ u) := fun u => HT.out.spo3 _ _ _ _ hst3.out ((But.refl _ _).setCell (by simp [Value.ownBlock]) _) (KeepM.setCell (.refl _ wp) (p := ⟨xb, j * 4 + 3, none⟩) hheap (by simp) _)
        have hox2 := fun u => own_setQ (j := j * 4 + 3) (u := u) hox.out
        have HSt4 := Lib.hid hst4; have HOx2 := Lib.hid hox2
        clear hcell hheap hst4 hox2 hst3 hox hxl hu0
        go_wp2
        go_roundw
        case rel => exact ⟨j + 1, _, by omega, by first | rfl | go_num, Lib.hid (HSt4.out _), Lib.hid (HOx2.out _)⟩
        case measure => simp [intOf]; omega
       ·obtain rfl : j = K := by omega
        have z2 : ¬ (j : Int) < (j : Int) := by omega
        have HSx := Lib.hid (HT.out.more _ _ (HT.out.low3 _ _ _ hst3.out))
        clear hst3 hox
        go_upto_region 30 with fail
        obtain ⟨m, hwp, hwr⟩ := HT.out.wait (k + 1) wp (by omega) HSx.out
        obtain ⟨ov, hop, hor⟩ := HT.out.over (k + 1) wp HSx.out
        have HWp := Lib.hid hwp; have HWr := Lib.hid hwr; have HOp := Lib.hid hop
        clear hwp hwr hop HPr
        rcases hor with ⟨rfl, rfl⟩ | ⟨r, rfl, hcell⟩
        ·go_wp2_with fail
         refine (HWp.out _ (Below.refl _ _)).mono ?_
         rintro e wz ⟨rfl, hz⟩
         obtain rfl : wp = wz := hz.symm
         go_wp2_with fail
         refine (HWr.out _ (Below.refl _ _)).mono ?_
         rintro e w8 ⟨rfl, hb8⟩
         have HO8 := Lib.hid (HOp.out w8 hb8)
         have HSz := Lib.hid (HT.out.bel _ _ _ HSx.out hb8)
         clear hb8
         go_wp2_with fail
         refine HO8.out.mono ?_
         rintro e wz ⟨rfl, hz⟩
         obtain rfl : w8 = wz := hz.symm
         go_wp2
         go_roundw
         case rel => exact ⟨k + 1, by omega, by first | rfl | go_num, HSz⟩
         case measure => simp [intOf]; omega
        ·have HCell := Lib.hid hcell
         clear hcell
         go_wp2_with fail
         refine (HWp.out _ (Below.refl _ _)).mono ?_
         rintro e wz ⟨rfl, hz⟩
         obtain rfl : wp = wz := hz.symm
         go_wp2_with fail
         refine (HWr.out _ (Below.refl _ _)).mono ?_
         rintro e w8 ⟨rfl, hb8⟩
         have HO8 := Lib.hid (HOp.out w8 hb8)
         have r4 := HCell.out w8 hb8
         have HSz := Lib.hid (HT.out.bel _ _ _ HSx.out hb8)
         clear hb8
         go_wp2_with fail
         refine HO8.out.mono ?_
         rintro e wz ⟨rfl, hz⟩
         obtain rfl : w8 = wz := hz.symm
         cases ov with
         | false =>
          go_wp2
          go_roundw
          case rel => exact ⟨k + 1, by omega, by first | rfl | go_num, HSz⟩
          case measure => simp [intOf]; omega
         | true =>
          go_wp2
          go_roundw
          case rel => exact ⟨k + 1, by omega, by first | rfl | go_num, HSz⟩
          case measure => simp [intOf]; omega
     ·have HSn := Lib.hid (HT.out.bel _ _ _ (HT.out.more _ _ HS.out) B2.out)
      have z1 : ((ok : Int) == 1) = false := by simp [h1]
      have z2 : ((ok : Int) == 2) = false := by simp [h2]
      clear d1 d2 d3 d4 d5
      obtain ⟨m, hwp, hwr⟩ := HT.out.wait (k + 1) X2 (by omega) HSn.out
      obtain ⟨ov, hop, hor⟩ := HT.out.over (k + 1) X2 HSn.out
      have HWp := Lib.hid hwp; have HWr := Lib.hid hwr; have HOp := Lib.hid hop
      clear hwp hwr hop HPr
      rcases hor with ⟨rfl, rfl⟩ | ⟨r, rfl, hcell⟩
      ·go_wp2_with fail
       refine (HWp.out _ (Below.refl _ _)).mono ?_
       rintro e wz ⟨rfl, hz⟩
       obtain rfl : X2 = wz := hz.symm
       go_wp2_with fail
       refine (HWr.out _ (Below.refl _ _)).mono ?_
       rintro e w8 ⟨rfl, hb8⟩
       have HO8 := Lib.hid (HOp.out w8 hb8)
       have HSz := Lib.hid (HT.out.bel _ _ _ HSn.out hb8)
       clear hb8
       go_wp2_with fail
       refine HO8.out.mono ?_
       rintro e wz ⟨rfl, hz⟩
       obtain rfl : w8 = wz := hz.symm
       go_wp2
       go_roundw
       case rel => exact ⟨k + 1, by omega, by first | rfl | go_num, HSz⟩
       case measure => simp [intOf]; omega
      ·have HCell := Lib.hid hcell
       clear hcell
       go_wp2_with fail
       refine (HWp.out _ (Below.refl _ _)).mono ?_
       rintro e wz ⟨rfl, hz⟩
       obtain rfl : X2 = wz := hz.symm
       go_wp2_with fail
       refine (HWr.out _ (Below.refl _ _)).mono ?_
       rintro e w8 ⟨rfl, hb8⟩
       have HO8 := Lib.hid (HOp.out w8 hb8)
       have r4 := HCell.out w8 hb8
       have HSz := Lib.hid (HT.out.bel _ _ _ HSn.out hb8)
       clear hb8
       go_wp2_with fail
       refine HO8.out.mono ?_
       rintro e wz ⟨rfl, hz⟩
       obtain rfl : w8 = wz := hz.symm
       cases ov with
       | false =>
        go_wp2
        go_roundw
        case rel => exact ⟨k + 1, by omega, by first | rfl | go_num, HSz⟩
        case measure => simp [intOf]; omega
       | true =>
        go_wp2
        go_roundw
        case rel => exact ⟨k + 1, by omega, by first | rfl | go_num, HSz⟩
        case measure => simp [intOf]; omega
   ·obtain rfl : k = n := by omega
    have z1 : ¬ (k : Int) < (k : Int) := by omega
    have HW := Lib.hid (HT.out.low _ _ HS.out)
    go_wp2
    go_ret
    exact ⟨rfl, HW.out⟩
theorem wTailScripts (q : QueryP) (os : List OpD) (MA FA A : Option Addr) (nm nf cm cf n c : Nat) (w : World) (hL : Lt w) (hq : QueryAt w MA nm FA nf q) (hnm : nm ≤ 140737488355328) (hnf : nf ≤ 140737488355328) (hsm : ∀ f ∈ partsQ q, f.text.length ≤ 1000000000000)
  (hr : Row w w.heap.size 6 A n (os.flatMap OpD.cells)) (hn : os.length = n) (hlab : ∀ o ∈ os, Row w w.heap.size 2 o.d.A o.d.r.labels.length (o.d.r.labels.flatMap labCells)) (hfew : ∀ o ∈ os, o.d.r.labels.length ≤ 1000000000000) (hline : ∀ o ∈ os, o.d.r.line.length ≤ 1500000) (hvals : ∀ o ∈ os, ∀ y ∈ o.d.r.labels, y.2.length ≤ 1500000) (hn2 : n ≤ 1048576) :
  Calls Tryz.prog 3 #[.agg #[.slice MA nm cm, .slice FA nf cf], .slice A n c] w fun e w' => e = .returned (.bool true) ∧ Below w.heap.size w w' := by
 have all : ∀ {p : RecD → Prop}, (∀ o ∈ os, p o.d) → ∀ d ∈ os.map OpD.d, p d := fun h d hd => by
  obtain ⟨o, ho, rfl⟩ := List.mem_map.1 hd
  exact h o ho
 refine wTailScripts0 (rs := os.map OpD.d) rfl (CK := checkQ q) hL (fun w1 hb => ?_) hr hn (all hlab) (all hfew) hn2
 refine (vTNew q MA FA nm nf cm cf w1 (hL.below hb) (hq.below hb) hnm hnf).mono ?_
 rintro e w2 ⟨hb2, hc⟩
 refine ⟨hb2, ?_⟩
 have hw2 := hb.trans (hb2.mono hb.size)
 by_cases h0 : checkQ q = 0
 ·obtain ⟨a, fa, rfl, hTa⟩ := hc.elim (fun h => h.2) (fun h => absurd h0 h.1)
  refine ⟨some ⟨a, 0, none⟩, by rw [h0]; rfl, fun w3 hb3 => ?_⟩
  have hw3 := hw2.trans (hb3.mono hw2.size)
  refine (gTNew q MA FA nm nf cm cf w3 (hq.below hw3) hsm hnm hnf).mono ?_
  rintro e w4 ⟨hb4, hc4⟩
  obtain ⟨r, rfl, hTr⟩ := hc4.elim (fun h => h.2) (fun h => absurd h0 h.1)
  refine ⟨hb4, some ⟨r, 0, none⟩, _, _, _, by rw [h0]; rfl, .inr ⟨a, r, rfl, rfl⟩, two_real (a := a) (fa := fa) (r := r) (cm := cm) (cf := cf) h0 hL hq (all hlab) (all hfew) (all hline) (all hvals), ?_⟩
  have hTa4 := (hTa.mono2 hb.size).below (hb3.trans (hb4.mono hb3.size))
  have har : a < r := by
   have h1 := hTa.blk.lt
   have h2 := hTr.low
   have h3 := hb3.size
   omega
  exact ⟨.slice none 0 0, .slice none 0 0, false, [], [], 0, ⟨hTa4, hTr.mono hw3.size, rfl, by simp, by simp, fun k h1 h2 => by
   have e1 : k = a := by simpa [tailS, Value.ownBlock] using h1
   have e2 : k = r := by simpa [tailS, Value.ownBlock] using h2
   omega, hw3.trans (hb4.mono hw3.size)⟩, Nat.le_refl _⟩
 ·obtain ⟨-, rfl⟩ := hc.resolve_left (fun h => h0 h.1)
  refine ⟨none, rfl, fun w3 hb3 => ?_⟩
  have hw3 := hw2.trans (hb3.mono hw2.size)
  refine (gTNew q MA FA nm nf cm cf w3 (hq.below hw3) hsm hnm hnf).mono ?_
  rintro e w4 ⟨hb4, hc4⟩
  obtain ⟨-, rfl⟩ := hc4.resolve_left (fun h => h0 h.1)
  exact ⟨hb4, none, _, _, _, rfl, .inl ⟨rfl, rfl⟩, two_nil w _, hw3.trans (hb4.mono hw3.size)⟩
end Go.Proofs.YtecejnilajbdpaaGreatDoor
