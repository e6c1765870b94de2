import Derived.Test.YtecejnilajbdpaaGreatDoorTq52
import Derived.Test.YtecejnilajbdpaaGreatDoorTq35
/-! QueryParts: the law walked (under way) -/
namespace Go.Proofs.YtecejnilajbdpaaGreatDoor
open Go.RowKit Go.Shelf Garner
set_option maxRecDepth 100000 in
set_option maxHeartbeats 4000000 in
theorem qHoldsNil (tv sv : Int) (LA : Option Addr) (ln lc : Nat) (R : ByteArray) (w : World) : Calls Tryz.prog 23 #[.pointer none, .agg #[.int .i64 tv, .int .u64 sv, .slice LA ln lc, .string R]] w fun e w' => e = .returned (.bool false) ∧ Below w.heap.size w w' := by
  go_enter Tryz.func23, Tryz.ntmps23
  go_wp2
  go_ret
  exact ⟨rfl, by first | exact Below.refl _ _ | exact (Below.refl _ _).alloc (Nat.le_refl _) _⟩
theorem FilAt.wroteM {B : Nat} {w w' : World} {g mb : Nat} {q : QueryP} (h : FilAt B w g q) (hk : KeepM [69] w w') (hb : But [mb] w w') (hm : mb < B) : FilAt B w' g q := by
  obtain ⟨v1, v2, P, Q, pv, h, hl⟩ := h
  refine ⟨v1, v2, P, Q, pv, ⟨hk.blk h.blk (by decide), own_but h.ms hb (fun k hk2 hm2 => ?_), hk.own h.fs (by decide), hk.own h.ps (by decide), hk.own h.qs (by decide), h.dis, fun k f v e1 e2 => (h.pat k f v e1 e2).keepT hk (by decide) (by decide) (by decide) (by decide), h.low⟩, hl⟩
  have := (h.ms.lt k hk2).1
  rw [List.mem_singleton] at hm2
  omega
theorem FilAt.wroteF {B : Nat} {w w' : World} {g mb : Nat} {q : QueryP} (h : FilAt B w g q) (hk : KeepM [71] w w') (hb : But [mb] w w') (hm : mb < B) : FilAt B w' g q := by
  obtain ⟨v1, v2, P, Q, pv, h, hl⟩ := h
  refine ⟨v1, v2, P, Q, pv, ⟨hk.blk h.blk (by decide), hk.own h.ms (by decide), own_but h.fs hb (fun k hk2 hm2 => ?_), hk.own h.ps (by decide), hk.own h.qs (by decide), h.dis, fun k f v e1 e2 => (h.pat k f v e1 e2).keepT hk (by decide) (by decide) (by decide) (by decide), h.low⟩, hl⟩
  have := (h.fs.lt k hk2).1
  rw [List.mem_singleton] at hm2
  omega
/-- all of the first k matchers (and filters) hold -/
structure PtS (w0 wr : World) (f : Nat) (q : QueryP) (bq br : Value) : Prop where
  be : Below w0.heap.size w0 wr
  fa : FilAt w0.heap.size wr f q
set_option maxRecDepth 100000 in
set_option maxHeartbeats 32000000 in
theorem wQueryParts (q : QueryP) (r : RecP) (MA FA LA : Option Addr) (nm nf cm cf ln lc : Nat) (tv sv : Int) (w : World) (hL : Lt w) (hq : QueryAt w MA nm FA nf q) (hnm : nm ≤ 140737488355328) (hnf : nf ≤ 140737488355328) (hr : Row w w.heap.size 2 LA ln (r.labels.flatMap labCells)) (hln : r.labels.length = ln) (hl2 : ln ≤ 140737488355328) (hline : r.line.length < 4294967281) :
    Calls Tryz.prog 9 #[.agg #[.slice MA nm cm, .slice FA nf cf], .agg #[.int .i64 tv, .int .u64 sv, .slice LA ln lc, strB r.line]] w fun e w' => e = .returned (.bool true) ∧ Below w.heap.size w w' := by
  obtain ⟨R, eR, hR⟩ := str_form r.line
  rw [eR]
  obtain ⟨X0, hX0⟩ : ∃ X0, X0 = w.alloc (.cells #[.slice MA nm cm, .slice FA nf cf] 25) := ⟨_, rfl⟩
  have b0 : Below w.heap.size w X0 := by rw [hX0]; exact (Below.refl _ _).alloc (Nat.le_refl _) _
  have k0 : Blk X0 w.heap.size 25 [.slice MA nm cm, .slice FA nf cf] := by rw [hX0]; exact Blk.new w _ _
  have z0 : X0.heap.size = w.heap.size + 1 := by rw [hX0]; simp
  obtain ⟨X, hX⟩ : ∃ X, X = X0.alloc (.cells #[.int .i64 tv, .int .u64 sv, .slice LA ln lc, .string R] 38) := ⟨_, rfl⟩
  have b1 : Below X0.heap.size X0 X := by rw [hX]; exact (Below.refl _ _).alloc (Nat.le_refl _) _
  have k1 : Blk X (w.heap.size + 1) 38 [.int .i64 tv, .int .u64 sv, .slice LA ln lc, .string R] := by rw [hX, ← z0]; exact Blk.new X0 _ _
  have hwX := b0.trans (b1.mono b0.size)
  have kq := k0.below b1 k0.lt
  have haw := awake24 X (hL.below hwX)
  have HAw := Lib.hid haw; have HwX := Lib.hid hwX; have KQ := Lib.hid kq; have KR := Lib.hid k1; have HL := Lib.hid hL; have HQ := Lib.hid hq; have HRr := Lib.hid hr; have Hln := Lib.hid hln; have HeR := Lib.hid eR; have Hz := Lib.hid z0
  have Hnm := Lib.hid hq.nm_; have Hnf := Lib.hid hq.nf_; have Hline := Lib.hid hline
  clear b0 b1 k0 k1 hwX kq haw hL hq hr hln eR hR z0 hline
  go_enter Tryz.func9, Tryz.ntmps9
  go_upto_region 1 with fail
  rw [← hX0, ← hX]
  clear hX0 hX
  go_wp2_with fail
  refine HAw.out.mono ?_
  rintro e w1 ⟨rfl, hb1⟩
  have hw1 := HwX.out.trans (hb1.mono HwX.out.size)
  have kq1 := KQ.out.below hb1 KQ.out.lt
  have kr1 := KR.out.below hb1 KR.out.lt
  have x0 : w1.cell? ⟨w.heap.size, 0, none⟩ = some (.slice MA nm cm) := kq1.cell 0
  have x1 : w1.cell? ⟨w.heap.size, 1, none⟩ = some (.slice FA nf cf) := kq1.cell 1
  have hn := vQNew q MA FA nm nf cm cf w1 (HL.out.below hw1) (HQ.out.below hw1) hnm hnf
  have HN := Lib.hid hn; have Hw1 := Lib.hid hw1; have KQ1 := Lib.hid kq1; have KR1 := Lib.hid kr1
  clear hw1 kq1 kr1 hn hb1 HAw HwX KQ KR
  go_wp2_with fail
  refine HN.out.mono ?_
  rintro e w2 ⟨hb2, hc⟩
  have hw2 := Hw1.out.trans (hb2.mono Hw1.out.size)
  have kq2 := KQ1.out.below hb2 KQ1.out.lt
  have kr2 := KR1.out.below hb2 KR1.out.lt
  have y0 : w2.cell? ⟨w.heap.size + 1, 0, none⟩ = some (.int .i64 tv) := kr2.cell 0
  have y1 : w2.cell? ⟨w.heap.size + 1, 1, none⟩ = some (.int .u64 sv) := kr2.cell 1
  have y2 : w2.cell? ⟨w.heap.size + 1, 2, none⟩ = some (.slice LA ln lc) := kr2.cell 2
  have y3 : w2.cell? ⟨w.heap.size + 1, 3, none⟩ = some (.string R) := kr2.cell 3
  have Hw2 := Lib.hid hw2; have KQ2 := Lib.hid kq2; have KR2 := Lib.hid kr2
  clear hw2 kq2 kr2 x0 x1 hb2 HN Hw1 KQ1 KR1
  obtain ⟨ck, hck⟩ : ∃ ck, checkQ q = ck := ⟨_, rfl⟩
  rw [hck] at hc
  have Hck := Lib.hid hck
  clear hck
  rcases hc with ⟨rfl, g, v1, v2, P, Q, pv, rfl, hF, hpl⟩ | ⟨hne, rfl⟩
  · have HF : Hid (FilAt w1.heap.size w2 g q) := Lib.hid ⟨v1, v2, P, Q, pv, hF, hpl⟩
    clear hF hpl y0 y1 y2 y3
    have H0 : Hid (Below w2.heap.size w2 w2) := Lib.hid (Below.refl _ _)
    go_wp2_with fail
    go_loopw [7, 8] (fun v i wr => ∃ k : Nat, k ≤ nm ∧ i = .int .i64 k ∧ v = .bool ((q.ms.take k).all (matHolds r)) ∧ Hid (Below w2.heap.size w2 wr)) (fun _ i _ => nm - (intOf i).toNat)
    case atStart => exact ⟨0, Nat.zero_le _, rfl, rfl, H0⟩
    case round =>
      obtain ⟨k, hk, rfl, rfl, hst⟩ := hrel
      obtain ⟨wo, rfl⟩ : ∃ wo : World, wo = wr := ⟨_, rfl⟩
      have wk1 : IntKind.i64.wrap ((k : Int) + 1) = ((k + 1 : Nat) : Int) := by rw [IntKind.wrap_i64]; omega
      have x0 : wo.cell? ⟨w.heap.size, 0, none⟩ = some (.slice MA nm cm) := (KQ2.out.below hst.out KQ2.out.lt).cell 0
      by_cases hlt : k < nm
      · have z3 : (k : Int) < (nm : Int) := by omega
        obtain ⟨m, hm⟩ : ∃ m, q.ms[k]? = some m := ⟨_, List.getElem?_eq_getElem (by rw [Hnm.out]; exact hlt)⟩
        obtain ⟨b, off, rfl, hc⟩ := HQ.out.mat hm
        have hwo := Hw2.out.trans (hst.out.mono Hw2.out.size)
        obtain ⟨c0, c1, c2⟩ := hc wo hwo
        have hone := one_mat Hck.out hm
        have hmem := List.mem_of_getElem? hm
        have hsm := HQ.out.sm m hmem
        have hall := all_take (matHolds r) hm
        obtain ⟨A0, hA0⟩ : ∃ A0, (q.ms.take k).all (matHolds r) = A0 := ⟨_, rfl⟩
        obtain ⟨A1, hA1⟩ : ∃ A1, matHolds r m = A1 := ⟨_, rfl⟩
        rw [hA0, hA1] at hall
        rw [hA0]
        obtain ⟨N1, e1, hN1⟩ := str_form m.name
        obtain ⟨N2, e2, hN2⟩ := str_form m.val
        obtain ⟨o, ho⟩ : ∃ o, m.op = o := ⟨_, rfl⟩
        rw [e1] at c0
        rw [ho] at c1
        rw [e2] at c2
        have hcell : m.cells = [.string N1, .int .i64 o, .string N2] := by
          show [strB m.name, .int .i64 m.op, strB m.val] = _
          rw [e1, e2, ho]
        have hcellf : m.flip.cells = [.string N1, .int .i64 (flipO o), .string N2] := by
          show [strB m.name, .int .i64 (flipO m.op), strB m.val] = _
          rw [e1, e2, ho]
        obtain ⟨V, hV⟩ : ∃ V, V = wo.alloc (.cells #[.string N1, .int .i64 o, .string N2] 69) := ⟨_, rfl⟩
        have bV : Below wo.heap.size wo V := by rw [hV]; exact (Below.refl _ _).alloc (Nat.le_refl _) _
        have kV : Blk V wo.heap.size 69 [.string N1, .int .i64 o, .string N2] := by rw [hV]; exact Blk.new wo _ _
        obtain ⟨U, hU⟩ : ∃ U, U = V.alloc (.cells #[.string N1, .int .i64 o, .string N2] 69) := ⟨_, rfl⟩
        have bU : Below V.heap.size V U := by rw [hU]; exact (Below.refl _ _).alloc (Nat.le_refl _) _
        have hwU := hwo.trans ((bV.trans (bU.mono bV.size)).mono hwo.size)
        have hqa : QueryAt U (some ⟨V.heap.size, 0, none⟩) 1 none 0 ⟨[m], []⟩ := ⟨by rw [show ([m] : List MatP).flatMap MatP.cells = m.cells by simp, hcell, hU]; exact (row_newN V 69 3 1 _ rfl).more (by simp), Row.none_, rfl, rfl, fun x hx => by rw [List.mem_singleton] at hx; rw [hx]; exact hsm, by simp⟩
        have hnw := vQNew ⟨[m], []⟩ (some ⟨V.heap.size, 0, none⟩) none 1 0 1 0 U (HL.out.below hwU) hqa (by decide) (by decide)
        rw [hone.2.1] at hnw
        have kU := kV.below bU kV.lt
        have HNw := Lib.hid hnw; have HwU := Lib.hid hwU; have KU := Lib.hid kU; have Hone := Lib.hid hone; have Hsm := Lib.hid hsm; have Hall := Lib.hid hall; have HA1 := Lib.hid hA1; have Hcf := Lib.hid hcellf; have Ho := Lib.hid ho
        have hmu0 : wo.heap.size < U.heap.size := Nat.lt_of_lt_of_le kV.lt bU.size
        have hmw0 : w2.heap.size ≤ wo.heap.size := hst.out.size
        have HUo := Lib.hid (hst.out.trans ((bV.trans (bU.mono bV.size)).mono hst.out.size))
        have v0 : V.cell? ⟨wo.heap.size, 0, none⟩ = some (.string N1) := kV.cell 0
        have v1 : V.cell? ⟨wo.heap.size, 1, none⟩ = some (.int .i64 o) := kV.cell 1
        have v2 : V.cell? ⟨wo.heap.size, 2, none⟩ = some (.string N2) := kV.cell 2
        obtain ⟨mb, hmb⟩ : ∃ mb, wo.heap.size = mb := ⟨_, rfl⟩
        rw [hmb] at KU v0 v1 v2 hmu0 hmw0
        have Hmu := Lib.hid hmu0; have Hmw := Lib.hid hmw0
        clear hmu0 hmw0
        clear hc hwo hone hmem hsm hall hA0 hA1 e1 e2 hN1 hN2 ho hcell hcellf bV kV bU hwU hqa hnw kU hm hst
        go_upto_region 11 with fail
        rw [← hV]
        clear hV c0 c1 c2 x0
        go_wp2_with fail
        rw [← hU]
        clear hU
        refine HNw.out.mono ?_
        rintro e w3 ⟨hb3, hc3⟩
        obtain ⟨ga, a1, a2, a3, a4, pva, rfl, hFa, hpa⟩ := hc3.elim (fun h => h.2) (fun h => absurd rfl h.1)
        have hfa : FilAt U.heap.size w3 ga ⟨[m], []⟩ := ⟨a1, a2, a3, a4, pva, hFa, hpa⟩
        have hw3 := HwU.out.trans (hb3.mono HwU.out.size)
        have h23 := HUo.out.trans (hb3.mono HUo.out.size)
        have k3 := KU.out.below hb3 KU.out.lt
        have v1 : w3.cell? ⟨mb, 1, none⟩ = some (.int .i64 o) := k3.cell 1
        have vf := k3.frozen 1
        have Hfa := Lib.hid hfa; have Hw3 := Lib.hid hw3; have H23 := Lib.hid h23; have K3 := Lib.hid k3
        clear hc3 hFa hpa hfa hw3 h23 k3 hb3 v0 v2 HNw HwU HUo KU
        go_upto_region 13 with fail
        have hfl : wrap64 (wrap64 (o + wrap64 (2 * o.tmod 2)) - 1) = flipO o := by
          have h := Hone.out.1
          rw [Ho.out] at h
          rcases flip_cases h with ⟨h1, e⟩ | ⟨h1, e⟩ | ⟨h1, e⟩ | ⟨h1, e⟩ <;> rw [e, h1] <;> first | rfl | (simp [wrap64]; done) | (simp [wrap64, Int.tmod]; done) | (unfold wrap64; simp [Int.tmod]; done)
        rw [hfl]
        obtain ⟨W, hW⟩ : ∃ W, W = w3.setCell ⟨mb, 1, none⟩ (.int .i64 (flipO o)) := ⟨_, rfl⟩
        have kW : KeepM [69] w3 W := by rw [hW]; exact KeepM.setCell (.refl _ w3) (p := ⟨mb, 1, none⟩) (show w3.heap[mb]? = _ from K3.out) (by simp) _
        have bW : But [mb] w3 W := by rw [hW]; exact (But.refl _ _).setCell (by simp) _
        have mW : Blk W mb 69 [.string N1, .int .i64 (flipO o), .string N2] := by rw [hW]; exact K3.out.set_ 1 _
        have hmU : mb < U.heap.size := Hmu.out
        have fW := Hfa.out.wroteM kW bW hmU
        have h2W : Below w2.heap.size w2 W := H23.out.trans (bW.below H23.out.size fun x hx => by rw [List.mem_singleton] at hx; rw [hx]; exact Hmw.out)
        have hwW := Hw2.out.trans (h2W.mono Hw2.out.size)
        have v0 : W.cell? ⟨mb, 0, none⟩ = some (.string N1) := mW.cell 0
        have v1' : W.cell? ⟨mb, 1, none⟩ = some (.int .i64 (flipO o)) := mW.cell 1
        have v2 : W.cell? ⟨mb, 2, none⟩ = some (.string N2) := mW.cell 2
        obtain ⟨Y, hY⟩ : ∃ Y, Y = W.alloc (.cells #[.string N1, .int .i64 (flipO o), .string N2] 69) := ⟨_, rfl⟩
        have bY : Below W.heap.size W Y := by rw [hY]; exact (Below.refl _ _).alloc (Nat.le_refl _) _
        have hqb : QueryAt Y (some ⟨W.heap.size, 0, none⟩) 1 none 0 ⟨[m.flip], []⟩ := ⟨by rw [show ([m.flip] : List MatP).flatMap MatP.cells = m.flip.cells by simp, Hcf.out, hY]; exact (row_newN W 69 3 1 _ rfl).more (by simp), Row.none_, rfl, rfl, fun x hx => by rw [List.mem_singleton] at hx; rw [hx]; exact Hsm.out, by simp⟩
        have hnw := vQNew ⟨[m.flip], []⟩ (some ⟨W.heap.size, 0, none⟩) none 1 0 1 0 Y (HL.out.below (hwW.trans (bY.mono hwW.size))) hqb (by decide) (by decide)
        rw [Hone.out.2.2] at hnw
        have HNw := Lib.hid hnw; have HFa := Lib.hid (fW.below bY); have H2Y := Lib.hid (h2W.trans (bY.mono h2W.size))
        clear kW bW mW fW h2W hwW bY hqb hnw v1 hfl hmU
        rw [← hW]
        clear hW vf
        go_wp2_with fail
        rw [← hY]
        clear hY
        refine HNw.out.mono ?_
        rintro e w4 ⟨hb4, hc4⟩
        obtain ⟨gb, a1, a2, a3, a4, pvb, rfl, hFb, hpb⟩ := hc4.elim (fun h => h.2) (fun h => absurd rfl h.1)
        have hfb : FilAt Y.heap.size w4 gb ⟨[m.flip], []⟩ := ⟨a1, a2, a3, a4, pvb, hFb, hpb⟩
        have Hfb := Lib.hid hfb; have Hfa4 := Lib.hid (HFa.out.below hb4); have H24 := Lib.hid (H2Y.out.trans (hb4.mono H2Y.out.size))
        clear hc4 hFb hpb hfb hb4 v0 v1' v2 HNw HFa H2Y Hfa H23 K3
        go_upto_region 14 with fail
        have hT : Below w2.heap.size w2 w4.drew := H24.out.trans ((Below.refl _ _).drew.mono H24.out.size)
        have hcd : Below w4.heap.size w4 w4.drew := (Below.refl _ _).drew
        have hwT := Hw2.out.trans (hT.mono Hw2.out.size)
        have hha := vQHolds ⟨[m], []⟩ r U.heap.size ga LA ln lc tv sv w4.drew (HL.out.below hwT) (Hfa4.out.below hcd) (by simp) (by simp) ((HRr.out.below hwT).more hwT.size) Hln.out hl2 Hline.out
        rw [holds_one_m, HA1.out, show strB r.line = .string R from HeR.out] at hha
        have hhb := fun (u : World) (hu : Below w2.heap.size w2 u) (hu4 : Below w4.heap.size w4 u) => vQHolds ⟨[m.flip], []⟩ r Y.heap.size gb LA ln lc tv sv u (HL.out.below (Hw2.out.trans (hu.mono Hw2.out.size))) (Hfb.out.below hu4) (by simp) (by simp) ((HRr.out.below (Hw2.out.trans (hu.mono Hw2.out.size))).more (Hw2.out.trans (hu.mono Hw2.out.size)).size) Hln.out hl2 Hline.out
        rw [holds_one_m, mat_flip r Hone.out.1, HA1.out, show strB r.line = .string R from HeR.out] at hhb
        have HHa := Lib.hid hha; have HHb := Lib.hid hhb; have Hcd := Lib.hid hcd
        clear hcd hwT hha hhb
        refine wp_region_N (fun w' => Below w2.heap.size w2 w') 100 (by kernel_rfl) ?_
        apply wpAnyN_takeL 0 (by kernel_rfl) rfl (fun _ _ _ h => h) (by kernel_rfl) hT
        · intro w' hS'
          go_simp; exact ⟨rfl, rfl⟩
        (try simp only [Act.put]); (try simp only [List.setIfInBounds_toArray]); (try simp only [List.set])
        apply wpAnyN_takeL 1 (v := (.agg #[.int .i64 tv, .int .u64 sv, .slice LA ln lc, .string R])) (by kernel_rfl) rfl (fun _ _ _ h => h) (by kernel_rfl) hT
        · intro w' hS'
          (have k := KR2.out.below hS' KR2.out.lt; have k0 := k.cell 0; have k1 := k.cell 1; have k2 := k.cell 2; have k3 := k.cell 3; go_simp; exact ⟨rfl, rfl⟩)
        (try simp only [Act.put]); (try simp only [List.setIfInBounds_toArray]); (try simp only [List.set])
        apply wpAnyN_takeL 3 (by kernel_rfl) rfl (fun _ _ _ h => h) (by kernel_rfl) hT
        · intro w' hS'
          go_simp; exact ⟨rfl, rfl⟩
        (try simp only [Act.put]); (try simp only [List.setIfInBounds_toArray]); (try simp only [List.set])
        apply wpAnyN_takeL 4 (v := (.agg #[.int .i64 tv, .int .u64 sv, .slice LA ln lc, .string R])) (by kernel_rfl) rfl (fun _ _ _ h => h) (by kernel_rfl) hT
        · intro w' hS'
          (have k := KR2.out.below hS' KR2.out.lt; have k0 := k.cell 0; have k1 := k.cell 1; have k2 := k.cell 2; have k3 := k.cell 3; go_simp; exact ⟨rfl, rfl⟩)
        (try simp only [Act.put]); (try simp only [List.setIfInBounds_toArray]); (try simp only [List.set])
        refine wpAnyN_runL 2 (by kernel_rfl) rfl (by kernel_rfl) (fun K hK => ?_)
        go_simp
        refine HHa.out.mono ?_
        rintro e w5 ⟨rfl, hb5⟩
        have h5 := hT.trans (hb5.mono hT.size)
        have h45 := Hcd.out.trans hb5
        refine hK _ _ (fun _ => h5) ?_
        clear hK K
        (try simp only [Act.put])
        refine wpAnyN_runL 5 (by kernel_rfl) rfl (by kernel_rfl) (fun K hK => ?_)
        go_simp
        refine (HHb.out w5 h5 h45).mono ?_
        rintro e w6 ⟨rfl, hb6⟩
        have h6 := h5.trans (hb6.mono h5.size)
        have h46 := h45.trans (hb6.mono h45.size)
        refine hK _ _ (fun _ => h6) ?_
        clear hK K
        (try simp only [Act.put])
        apply wpAnyN_takeL 6 (by kernel_rfl) rfl (fun _ _ _ h => h) (by kernel_rfl) h6
        · intro w' hS'
          go_simp; exact ⟨rfl, rfl⟩
        (try simp only [Act.put]); (try simp only [List.setIfInBounds_toArray]); (try simp only [List.set])
        refine wpAnyN_done (by kernel_rfl) ?_ _
        have H6 := Lib.hid h6; have H46 := Lib.hid h46
        have hwT := Hw2.out.trans (h6.mono Hw2.out.size)
        have hha := vQHolds ⟨[m], []⟩ r U.heap.size ga LA ln lc tv sv w6 (HL.out.below hwT) (Hfa4.out.below h46) (by simp) (by simp) ((HRr.out.below hwT).more hwT.size) Hln.out hl2 Hline.out
        rw [holds_one_m, HA1.out, show strB r.line = .string R from HeR.out] at hha
        have HHc := Lib.hid hha
        have k := KR2.out.below h6 KR2.out.lt
        have k0 : w6.cell? ⟨w.heap.size + 1, 0, none⟩ = some (.int .i64 tv) := k.cell 0
        have k1 : w6.cell? ⟨w.heap.size + 1, 1, none⟩ = some (.int .u64 sv) := k.cell 1
        have k2 : w6.cell? ⟨w.heap.size + 1, 2, none⟩ = some (.slice LA ln lc) := k.cell 2
        have k3 : w6.cell? ⟨w.heap.size + 1, 3, none⟩ = some (.string R) := k.cell 3
        clear hT h5 h45 h6 h46 hb5 hb6 HHb hwT hha k
        have hx : (A1 == !A1) = false := by cases A1 <;> rfl
        (try rw [hx])
        clear hx
        cases A0 with
        | false =>
          go_wp2
          clear k0 k1 k2 k3
          go_roundw
          case rel => exact ⟨k + 1, by omega, by first | rfl | go_num, by rw [Hall.out]; rfl, H6⟩
          case measure => simp [intOf]; omega
        | true =>
          go_wp2_with fail
          refine HHc.out.mono ?_
          rintro e w7 ⟨rfl, hb7⟩
          have H7 := Lib.hid (H6.out.trans (hb7.mono H6.out.size))
          clear hb7 k0 k1 k2 k3 HHc
          go_wp2
          go_roundw
          case rel => exact ⟨k + 1, by omega, by first | rfl | go_num, by rw [Hall.out]; rfl, H7⟩
          case measure => simp [intOf]; omega
      · obtain rfl : k = nm := by omega
        have z3 : ¬ (k : Int) < (k : Int) := by omega
        rw [List.take_of_length_le (by rw [Hnm.out]; exact Nat.le_refl _)]
        obtain ⟨AM, hAM⟩ : ∃ AM, q.ms.all (matHolds r) = AM := ⟨_, rfl⟩
        rw [hAM]
        have HAM := Lib.hid hAM
        clear hAM
        go_wp2
        clear x0
        go_loopw [7, 14] (fun v i wr => ∃ k : Nat, k ≤ nf ∧ i = .int .i64 k ∧ v = .bool (AM && (q.fs.take k).all (filHolds r)) ∧ Hid (Below w2.heap.size w2 wr)) (fun _ i _ => nf - (intOf i).toNat)
        case atStart => exact ⟨0, Nat.zero_le _, rfl, by simp, hst⟩
        case round =>
          clear z3 wk1 hst
          obtain ⟨k, hk, rfl, rfl, hst⟩ := hrel
          obtain ⟨wo, rfl⟩ : ∃ wo : World, wo = wr := ⟨_, rfl⟩
          have wk1 : IntKind.i64.wrap ((k : Int) + 1) = ((k + 1 : Nat) : Int) := by rw [IntKind.wrap_i64]; omega
          have x0 : wo.cell? ⟨w.heap.size, 1, none⟩ = some (.slice FA nf cf) := (KQ2.out.below hst.out KQ2.out.lt).cell 1
          by_cases hlt : k < nf
          · have z3 : (k : Int) < (nf : Int) := by omega
            obtain ⟨m, hm⟩ : ∃ m, q.fs[k]? = some m := ⟨_, List.getElem?_eq_getElem (by rw [Hnf.out]; exact hlt)⟩
            obtain ⟨b, off, rfl, hc⟩ := fil_cells HQ.out.fs hm hlt
            have hwo := Hw2.out.trans (hst.out.mono Hw2.out.size)
            obtain ⟨c1, c2⟩ := hc wo hwo
            have hone := one_fil Hck.out hm
            have hmem := List.mem_of_getElem? hm
            have hsm := HQ.out.sf m hmem
            have hall := all_take (filHolds r) hm
            obtain ⟨A0, hA0⟩ : ∃ A0, (AM && (q.fs.take k).all (filHolds r)) = A0 := ⟨_, rfl⟩
            obtain ⟨A1, hA1⟩ : ∃ A1, filHolds r m = A1 := ⟨_, rfl⟩
            rw [hA1] at hall
            have hall2 : (AM && (q.fs.take (k + 1)).all (filHolds r)) = (A0 && A1) := by rw [hall, ← hA0, Bool.and_assoc]
            rw [hA0]
            obtain ⟨N2, e2, hN2⟩ := str_form m.text
            obtain ⟨o, ho⟩ : ∃ o, m.op = o := ⟨_, rfl⟩
            rw [ho] at c1
            rw [e2] at c2
            have hcell : m.cells = [.int .i64 o, .string N2] := by
              show [.int .i64 m.op, strB m.text] = _
              rw [e2, ho]
            have hcellf : m.flip.cells = [.int .i64 (flipO o), .string N2] := by
              show [.int .i64 (flipO m.op), strB m.text] = _
              rw [e2, ho]
            obtain ⟨V, hV⟩ : ∃ V, V = wo.alloc (.cells #[.int .i64 o, .string N2] 71) := ⟨_, rfl⟩
            have bV : Below wo.heap.size wo V := by rw [hV]; exact (Below.refl _ _).alloc (Nat.le_refl _) _
            have kV : Blk V wo.heap.size 71 [.int .i64 o, .string N2] := by rw [hV]; exact Blk.new wo _ _
            obtain ⟨U, hU⟩ : ∃ U, U = V.alloc (.cells #[.int .i64 o, .string N2] 71) := ⟨_, rfl⟩
            have bU : Below V.heap.size V U := by rw [hU]; exact (Below.refl _ _).alloc (Nat.le_refl _) _
            have hwU := hwo.trans ((bV.trans (bU.mono bV.size)).mono hwo.size)
            have hqa : QueryAt U none 0 (some ⟨V.heap.size, 0, none⟩) 1 ⟨[], [m]⟩ := ⟨Row.none_, by rw [show ([m] : List FilP).flatMap FilP.cells = m.cells by simp, hcell, hU]; exact (row_newN V 71 2 1 _ rfl).more (by simp), rfl, rfl, by simp, fun x hx => by rw [List.mem_singleton] at hx; rw [hx]; exact hsm⟩
            have hnw := vQNew ⟨[], [m]⟩ none (some ⟨V.heap.size, 0, none⟩) 0 1 0 1 U (HL.out.below hwU) hqa (by decide) (by decide)
            rw [hone.2.1] at hnw
            have kU := kV.below bU kV.lt
            have HNw := Lib.hid hnw; have HwU := Lib.hid hwU; have KU := Lib.hid kU; have Hone := Lib.hid hone; have Hsm := Lib.hid hsm; have Hall := Lib.hid hall2; have HA1 := Lib.hid hA1; have Hcf := Lib.hid hcellf; have Ho := Lib.hid ho
            have hmu0 : wo.heap.size < U.heap.size := Nat.lt_of_lt_of_le kV.lt bU.size
            have hmw0 : w2.heap.size ≤ wo.heap.size := hst.out.size
            have HUo := Lib.hid (hst.out.trans ((bV.trans (bU.mono bV.size)).mono hst.out.size))
            have v1 : V.cell? ⟨wo.heap.size, 0, none⟩ = some (.int .i64 o) := kV.cell 0
            have v2 : V.cell? ⟨wo.heap.size, 1, none⟩ = some (.string N2) := kV.cell 1
            obtain ⟨mb, hmb⟩ : ∃ mb, wo.heap.size = mb := ⟨_, rfl⟩
            rw [hmb] at KU v1 v2 hmu0 hmw0
            have Hmu := Lib.hid hmu0; have Hmw := Lib.hid hmw0
            clear hmu0 hmw0
            clear hc hwo hone hmem hsm hall hall2 hA0 hA1 e2 hN2 ho hcell hcellf bV kV bU hwU hqa hnw kU hm hst
            go_upto_region 21 with fail
            rw [← hV]
            clear hV c1 c2 x0
            go_wp2_with fail
            rw [← hU]
            clear hU
            refine HNw.out.mono ?_
            rintro e w3 ⟨hb3, hc3⟩
            obtain ⟨ga, a1, a2, a3, a4, pva, rfl, hFa, hpa⟩ := hc3.elim (fun h => h.2) (fun h => absurd rfl h.1)
            have hfa : FilAt U.heap.size w3 ga ⟨[], [m]⟩ := ⟨a1, a2, a3, a4, pva, hFa, hpa⟩
            have hw3 := HwU.out.trans (hb3.mono HwU.out.size)
            have h23 := HUo.out.trans (hb3.mono HUo.out.size)
            have k3 := KU.out.below hb3 KU.out.lt
            have v1 : w3.cell? ⟨mb, 0, none⟩ = some (.int .i64 o) := k3.cell 0
            have vf := k3.frozen 0
            have Hfa := Lib.hid hfa; have Hw3 := Lib.hid hw3; have H23 := Lib.hid h23; have K3 := Lib.hid k3
            clear hc3 hFa hpa hfa hw3 h23 k3 hb3 v2 HNw HwU HUo KU
            go_upto_region 23 with fail
            have hfl : wrap64 (wrap64 (o + wrap64 (2 * o.tmod 2)) - 1) = flipO o := by
              have h := Hone.out.1
              rw [Ho.out] at h
              rcases flip_cases h with ⟨h1, e⟩ | ⟨h1, e⟩ | ⟨h1, e⟩ | ⟨h1, e⟩ <;> rw [e, h1] <;> first | rfl | (simp [wrap64]; done) | (simp [wrap64, Int.tmod]; done) | (unfold wrap64; simp [Int.tmod]; done)
            rw [hfl]
            obtain ⟨W, hW⟩ : ∃ W, W = w3.setCell ⟨mb, 0, none⟩ (.int .i64 (flipO o)) := ⟨_, rfl⟩
            have kW : KeepM [71] w3 W := by rw [hW]; exact KeepM.setCell (.refl _ w3) (p := ⟨mb, 0, none⟩) (show w3.heap[mb]? = _ from K3.out) (by simp) _
            have bW : But [mb] w3 W := by rw [hW]; exact (But.refl _ _).setCell (by simp) _
            have mW : Blk W mb 71 [.int .i64 (flipO o), .string N2] := by rw [hW]; exact K3.out.set_ 0 _
            have hmU : mb < U.heap.size := Hmu.out
            have fW := Hfa.out.wroteF kW bW hmU
            have h2W : Below w2.heap.size w2 W := H23.out.trans (bW.below H23.out.size fun x hx => by rw [List.mem_singleton] at hx; rw [hx]; exact Hmw.out)
            have hwW := Hw2.out.trans (h2W.mono Hw2.out.size)
            have v1' : W.cell? ⟨mb, 0, none⟩ = some (.int .i64 (flipO o)) := mW.cell 0
            have v2 : W.cell? ⟨mb, 1, none⟩ = some (.string N2) := mW.cell 1
            obtain ⟨Y, hY⟩ : ∃ Y, Y = W.alloc (.cells #[.int .i64 (flipO o), .string N2] 71) := ⟨_, rfl⟩
            have bY : Below W.heap.size W Y := by rw [hY]; exact (Below.refl _ _).alloc (Nat.le_refl _) _
            have hqb : QueryAt Y none 0 (some ⟨W.heap.size, 0, none⟩) 1 ⟨[], [m.flip]⟩ := ⟨Row.none_, by rw [show ([m.flip] : List FilP).flatMap FilP.cells = m.flip.cells by simp, Hcf.out, hY]; exact (row_newN W 71 2 1 _ rfl).more (by simp), rfl, rfl, by simp, fun x hx => by rw [List.mem_singleton] at hx; rw [hx]; exact Hsm.out⟩
            have hnw := vQNew ⟨[], [m.flip]⟩ none (some ⟨W.heap.size, 0, none⟩) 0 1 0 1 Y (HL.out.below (hwW.trans (bY.mono hwW.size))) hqb (by decide) (by decide)
            rw [Hone.out.2.2] at hnw
            have HNw := Lib.hid hnw; have HFa := Lib.hid (fW.below bY); have H2Y := Lib.hid (h2W.trans (bY.mono h2W.size))
            clear kW bW mW fW h2W hwW bY hqb hnw v1 hfl hmU
            rw [← hW]
            clear hW vf
            go_wp2_with fail
            rw [← hY]
            clear hY
            refine HNw.out.mono ?_
            rintro e w4 ⟨hb4, hc4⟩
            obtain ⟨gb, a1, a2, a3, a4, pvb, rfl, hFb, hpb⟩ := hc4.elim (fun h => h.2) (fun h => absurd rfl h.1)
            have hfb : FilAt Y.heap.size w4 gb ⟨[], [m.flip]⟩ := ⟨a1, a2, a3, a4, pvb, hFb, hpb⟩
            have Hfb := Lib.hid hfb; have Hfa4 := Lib.hid (HFa.out.below hb4); have H24 := Lib.hid (H2Y.out.trans (hb4.mono H2Y.out.size))
            clear hc4 hFb hpb hfb hb4 v1' v2 HNw HFa H2Y Hfa H23 K3
            go_upto_region 24 with fail
            have hT : Below w2.heap.size w2 w4.drew := H24.out.trans ((Below.refl _ _).drew.mono H24.out.size)
            have hcd : Below w4.heap.size w4 w4.drew := (Below.refl _ _).drew
            have hwT := Hw2.out.trans (hT.mono Hw2.out.size)
            have hha := vQHolds ⟨[], [m]⟩ r U.heap.size ga LA ln lc tv sv w4.drew (HL.out.below hwT) (Hfa4.out.below hcd) (by simp) (by simp) ((HRr.out.below hwT).more hwT.size) Hln.out hl2 Hline.out
            rw [holds_one_f, HA1.out, show strB r.line = .string R from HeR.out] at hha
            have hhb := fun (u : World) (hu : Below w2.heap.size w2 u) (hu4 : Below w4.heap.size w4 u) => vQHolds ⟨[], [m.flip]⟩ r Y.heap.size gb LA ln lc tv sv u (HL.out.below (Hw2.out.trans (hu.mono Hw2.out.size))) (Hfb.out.below hu4) (by simp) (by simp) ((HRr.out.below (Hw2.out.trans (hu.mono Hw2.out.size))).more (Hw2.out.trans (hu.mono Hw2.out.size)).size) Hln.out hl2 Hline.out
            rw [holds_one_f, fil_flip r Hone.out.1, HA1.out, show strB r.line = .string R from HeR.out] at hhb
            have HHa := Lib.hid hha; have HHb := Lib.hid hhb; have Hcd := Lib.hid hcd
            clear hcd hwT hha hhb
            refine wp_region_N (fun w' => Below w2.heap.size w2 w') 100 (by kernel_rfl) ?_
            apply wpAnyN_takeL 0 (by kernel_rfl) rfl (fun _ _ _ h => h) (by kernel_rfl) hT
            · intro w' hS'
              go_simp; exact ⟨rfl, rfl⟩
            (try simp only [Act.put]); (try simp only [List.setIfInBounds_toArray]); (try simp only [List.set])
            apply wpAnyN_takeL 1 (v := (.agg #[.int .i64 tv, .int .u64 sv, .slice LA ln lc, .string R])) (by kernel_rfl) rfl (fun _ _ _ h => h) (by kernel_rfl) hT
            · intro w' hS'
              (have k := KR2.out.below hS' KR2.out.lt; have k0 := k.cell 0; have k1 := k.cell 1; have k2 := k.cell 2; have k3 := k.cell 3; go_simp; exact ⟨rfl, rfl⟩)
            (try simp only [Act.put]); (try simp only [List.setIfInBounds_toArray]); (try simp only [List.set])
            apply wpAnyN_takeL 3 (by kernel_rfl) rfl (fun _ _ _ h => h) (by kernel_rfl) hT
            · intro w' hS'
              go_simp; exact ⟨rfl, rfl⟩
            (try simp only [Act.put]); (try simp only [List.setIfInBounds_toArray]); (try simp only [List.set])
            apply wpAnyN_takeL 4 (v := (.agg #[.int .i64 tv, .int .u64 sv, .slice LA ln lc, .string R])) (by kernel_rfl) rfl (fun _ _ _ h => h) (by kernel_rfl) hT
            · intro w' hS'
              (have k := KR2.out.below hS' KR2.out.lt; have k0 := k.cell 0; have k1 := k.cell 1; have k2 := k.cell 2; have k3 := k.cell 3; go_simp; exact ⟨rfl, rfl⟩)
            (try simp only [Act.put]); (try simp only [List.setIfInBounds_toArray]); (try simp only [List.set])
            refine wpAnyN_runL 2 (by kernel_rfl) rfl (by kernel_rfl) (fun K hK => ?_)
            go_simp
            refine HHa.out.mono ?_
            rintro e w5 ⟨rfl, hb5⟩
            have h5 := hT.trans (hb5.mono hT.size)
            have h45 := Hcd.out.trans hb5
            refine hK _ _ (fun _ => h5) ?_
            clear hK K
            (try simp only [Act.put])
            refine wpAnyN_runL 5 (by kernel_rfl) rfl (by kernel_rfl) (fun K hK => ?_)
            go_simp
            refine (HHb.out w5 h5 h45).mono ?_
            rintro e w6 ⟨rfl, hb6⟩
            have h6 := h5.trans (hb6.mono h5.size)
            have h46 := h45.trans (hb6.mono h45.size)
            refine hK _ _ (fun _ => h6) ?_
            clear hK K
            (try simp only [Act.put])
            apply wpAnyN_takeL 6 (by kernel_rfl) rfl (fun _ _ _ h => h) (by kernel_rfl) h6
            · intro w' hS'
              go_simp; exact ⟨rfl, rfl⟩
            (try simp only [Act.put]); (try simp only [List.setIfInBounds_toArray]); (try simp only [List.set])
            refine wpAnyN_done (by kernel_rfl) ?_ _
            have H6 := Lib.hid h6; have H46 := Lib.hid h46
            have hwT := Hw2.out.trans (h6.mono Hw2.out.size)
            have hha := vQHolds ⟨[], [m]⟩ r U.heap.size ga LA ln lc tv sv w6 (HL.out.below hwT) (Hfa4.out.below h46) (by simp) (by simp) ((HRr.out.below hwT).more hwT.size) Hln.out hl2 Hline.out
            rw [holds_one_f, HA1.out, show strB r.line = .string R from HeR.out] at hha
            have HHc := Lib.hid hha
            have k := KR2.out.below h6 KR2.out.lt
            have k0 : w6.cell? ⟨w.heap.size + 1, 0, none⟩ = some (.int .i64 tv) := k.cell 0
            have k1 : w6.cell? ⟨w.heap.size + 1, 1, none⟩ = some (.int .u64 sv) := k.cell 1
            have k2 : w6.cell? ⟨w.heap.size + 1, 2, none⟩ = some (.slice LA ln lc) := k.cell 2
            have k3 : w6.cell? ⟨w.heap.size + 1, 3, none⟩ = some (.string R) := k.cell 3
            clear hT h5 h45 h6 h46 hb5 hb6 HHb hwT hha k
            have hx : (A1 == !A1) = false := by cases A1 <;> rfl
            (try rw [hx])
            clear hx
            cases A0 with
            | false =>
              go_wp2
              clear k0 k1 k2 k3
              go_roundw
              case rel => exact ⟨k + 1, by omega, by first | rfl | go_num, by rw [Hall.out]; rfl, H6⟩
              case measure => simp [intOf]; omega
            | true =>
              go_wp2_with fail
              refine HHc.out.mono ?_
              rintro e w7 ⟨rfl, hb7⟩
              have H7 := Lib.hid (H6.out.trans (hb7.mono H6.out.size))
              clear hb7 k0 k1 k2 k3 HHc
              go_wp2
              go_roundw
              case rel => exact ⟨k + 1, by omega, by first | rfl | go_num, by rw [Hall.out]; rfl, H7⟩
              case measure => simp [intOf]; omega
          · obtain rfl : k = nf := by omega
            have z3 : ¬ (k : Int) < (k : Int) := by omega
            rw [List.take_of_length_le (by rw [Hnf.out]; exact Nat.le_refl _)]
            have hall : (AM && q.fs.all (filHolds r)) = holdsQ q r := by rw [← HAM.out]; rfl
            rw [hall]
            have h16 := (check_zero Hck.out).1
            have hwo := Hw2.out.trans (hst.out.mono Hw2.out.size)
            have hh := vQHolds q r w1.heap.size g LA ln lc tv sv wo (HL.out.below hwo) (HF.out.below hst.out) (by omega) (by omega) ((HRr.out.below hwo).more hwo.size) Hln.out hl2 Hline.out
            rw [show strB r.line = .string R from HeR.out] at hh
            obtain ⟨AN, hAN⟩ : ∃ AN, holdsQ q r = AN := ⟨_, rfl⟩
            rw [hAN] at hh ⊢
            have HHo := Lib.hid hh; have Hwo := Lib.hid hwo
            have kk := KR2.out.below hst.out KR2.out.lt
            have k0 : wo.cell? ⟨w.heap.size + 1, 0, none⟩ = some (.int .i64 tv) := kk.cell 0
            have k1 : wo.cell? ⟨w.heap.size + 1, 1, none⟩ = some (.int .u64 sv) := kk.cell 1
            have k2 : wo.cell? ⟨w.heap.size + 1, 2, none⟩ = some (.slice LA ln lc) := kk.cell 2
            have k3 : wo.cell? ⟨w.heap.size + 1, 3, none⟩ = some (.string R) := kk.cell 3
            clear hh hwo kk hall hAN h16 hst
            go_wp2_with fail
            refine HHo.out.mono ?_
            rintro e w9 ⟨rfl, hb9⟩
            have H9 := Lib.hid (Hwo.out.trans (hb9.mono Hwo.out.size))
            clear hb9 k0 k1 k2 k3 HHo
            have hx : (AN == AN) = true := by cases AN <;> rfl
            go_wp2
            go_ret
            exact ⟨by first | rfl | (rw [hx]) | (simp), H9.out⟩
  · have zk : ((ck : Int) == 0) = false := beq_eq_false_iff_ne.2 (by omega)
    have zk2 : ¬ (ck : Int) = 0 := by omega
    go_wp2_with fail
    refine (qHoldsNil tv sv LA ln lc R w2).mono ?_
    rintro e w3 ⟨rfl, hb3⟩
    have hw3 := Hw2.out.trans (hb3.mono Hw2.out.size)
    have Hw3 := Lib.hid hw3
    clear hw3 hb3 y0 y1 y2 y3
    go_wp2
    go_ret
    exact ⟨rfl, Hw3.out⟩
end Go.Proofs.YtecejnilajbdpaaGreatDoor

