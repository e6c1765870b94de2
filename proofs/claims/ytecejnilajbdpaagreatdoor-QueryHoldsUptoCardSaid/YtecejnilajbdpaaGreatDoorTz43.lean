import Derived.Test.YtecejnilajbdpaaGreatDoorTz42
set_option maxRecDepth 100000
set_option maxHeartbeats 64000000
namespace Garner
open Go
theorem bad_op {q : QueryP} {f : FilP} {u : Nat} (h1 : ¬ (16 < q.ms.length ∨ 16 < q.fs.length)) (hf : (partsQ q)[u]? = some f) (ho : opOk f.op = false) : checkQ q = 50 := by
 cases h2 : q.ms.all matOk with
 | false => exact check_ms h1 h2
 | true =>
  refine check_fs h1 h2 ?_
  rcases List.mem_append.1 (List.mem_of_getElem? hf) with h | h
  ·obtain ⟨m, hm, rfl⟩ := List.mem_map.1 h
   have h3 := List.all_eq_true.1 h2 m hm
   unfold matOk at h3
   rw [Bool.and_eq_true] at h3
   have h4 : opOk m.op = false := ho
   rw [h4] at h3
   cases h3.2
  rw [List.all_eq_false]
  exact ⟨f, h, by unfold filOk; rw [ho]; simp⟩
theorem bad_name {q : QueryP} {m : MatP} {k : Nat} (h1 : ¬ (16 < q.ms.length ∨ 16 < q.fs.length)) (hm : q.ms[k]? = some m) (hn : nameP m.name = false) : checkQ q = 50 :=
 check_ms h1 (all_false matOk hm (by unfold matOk; rw [hn]; rfl))
theorem ops_all {q : QueryP} (h1 : (q.ms.all fun m => nameP m.name) = true) (h2 : ((partsQ q).all fun f => opOk f.op) = true) : q.ms.all matOk = true ∧ q.fs.all filOk = true := by
 rw [List.all_eq_true] at h1 h2
 refine ⟨List.all_eq_true.2 fun m hm => ?_, List.all_eq_true.2 fun f hf => h2 f (List.mem_append.2 (.inr hf))⟩
 have h3 := h2 m.part (List.mem_append.2 (.inl (List.mem_map.2 ⟨m, hm, rfl⟩)))
 have h4 : opOk m.op = true := h3
 unfold matOk
 rw [h1 m hm, h4]; rfl
theorem like_three {o : Int} (h : opOk o = true) : likeO o = decide (3 ≤ o) := by
 unfold opOk at h
 simp at h
 obtain h1 | h1 | h1 | h1 : o = 1 ∨ o = 2 ∨ o = 3 ∨ o = 4 := by omega
 all_goals (subst h1; decide)
end Garner
namespace Go.Proofs.YtecejnilajbdpaaGreatDoor
open Go.RowKit Go.Shelf Garner
theorem strQE : Elem Tryz.prog 99 9 (.string .empty) 1 16 := ⟨Tryz.underlying99, by kernel_rfl, rfl, by omega, by omega⟩
abbrev opV (f : FilP) : Value := .int .i64 f.op
abbrev txV (f : FilP) : Value := strB f.text
structure TwoR (w0 wr : World) (q : QueryP) (k : Nat) (VO VT MV FV : Value) : Prop where
 oo : wr.ownsRow w0.heap.size 3 1 VO k (((partsQ q).take k).map opV)
 ot : wr.ownsRow w0.heap.size 9 1 VT k (((partsQ q).take k).map txV)
 box : Blk wr w0.heap.size 25 [MV, FV]
 low : Below w0.heap.size w0 wr
section
variable {w0 wr w' : World} {q : QueryP} {k : Nat} {VO VT MV FV VO' VT' : Value} {f : FilP}
theorem TwoR.below (h : TwoR w0 wr q k VO VT MV FV) (hb : Below wr.heap.size wr w') : TwoR w0 w' q k VO VT MV FV :=
 ⟨own_below h.oo hb, own_below h.ot hb, h.box.below hb h.box.lt, h.low.trans (hb.mono h.low.size)⟩
theorem TwoR.step (h : TwoR w0 wr q k VO VT MV FV) {Y : World} (hy : Below wr.heap.size wr Y)
  (g1 : Y.grownBy w' VO.ownBlock) (b1 : Below w0.heap.size Y w') :
  w'.ownsRow w0.heap.size 9 1 VT k (((partsQ q).take k).map txV) ∧ Blk w' w0.heap.size 25 [MV, FV] ∧ Below w0.heap.size w0 w' := by
 have hY := h.below hy
 refine ⟨own_grownD hY.ot hY.oo (by decide) g1, (hY.box.appq hY.oo (by decide) g1), hY.low.trans b1⟩
theorem TwoR.done (o1 : wr.ownsRow w0.heap.size 3 1 VO' (k + 1) (((partsQ q).take k).map opV ++ [opV f])) (hf : (partsQ q)[k]? = some f) (ot : wr.ownsRow w0.heap.size 9 1 VT k (((partsQ q).take k).map txV)) (hbx : Blk wr w0.heap.size 25 [MV, FV]) (hl : Below w0.heap.size w0 wr) {Y : World} (hy : Below wr.heap.size wr Y)
  (g2 : Y.grownBy w' VT.ownBlock) (o2 : w'.ownsRow w0.heap.size 9 1 VT' (k + 1) (((partsQ q).take k).map txV ++ [txV f])) (b2 : Below w0.heap.size Y w') : TwoR w0 w' q (k + 1) VO' VT' MV FV := by
 have e : ∀ g : FilP → Value, ((partsQ q).take (k + 1)).map g = ((partsQ q).take k).map g ++ [g f] := fun g => by rw [List.take_add_one, hf, Option.toList_some, List.map_append]; rfl
 have oY := own_below o1 hy
 have tY := own_below ot hy
 refine ⟨?_, ?_, (hbx.below hy hbx.lt).appq tY (by decide) g2, (hl.trans (hy.mono hl.size)).trans b2⟩
 ·rw [e]; exact own_grownD oY tY (by decide) g2
 rw [e]; exact o2
end
theorem gCheck (q : QueryP) (MA FA : Option Addr) (nm nf cm cf : Nat) (w : World) (hq : QueryAt w MA nm FA nf q) (hsm : ∀ f ∈ partsQ q, f.text.length ≤ 1000000000000) (hnm : nm ≤ 140737488355328) (hnf : nf ≤ 140737488355328) :
  Calls Tryz.prog 29 #[.agg #[.slice MA nm cm, .slice FA nf cf]] w fun e w' => e = .returned (.int .i64 (checkQ q : Nat)) ∧ Below w.heap.size w w' := by
 obtain ⟨ANS, hA⟩ : ∃ ANS, checkQ q = ANS := ⟨_, rfl⟩
 rw [hA]
 obtain ⟨X, hX⟩ : ∃ X, X = w.alloc (.cells #[.slice MA nm cm, .slice FA nf cf] 25) := ⟨_, rfl⟩
 have hwX : Below w.heap.size w X := by rw [hX]; exact (Below.refl _ _).alloc (Nat.le_refl _) _
 have bX : Blk X w.heap.size 25 [.slice MA nm cm, .slice FA nf cf] := by rw [hX]; exact Blk.new w _ _
 have x0 : X.cell? ⟨w.heap.size, 0, none⟩ = some (.slice MA nm cm) := bX.cell 0
 have x1 : X.cell? ⟨w.heap.size, 1, none⟩ = some (.slice FA nf cf) := bX.cell 1
 have HQ := Lh hq; have HwX := Lh hwX; have BX := Lh bX; have HA := Lh hA; have HSm := Lh hsm
 have Hnm := Lh hq.nm_; have Hnf := Lh hq.nf_
 clear hq hwX bX hA hsm
 go_enter Tryz.func29, Tryz.ntmps29
 go_upto_region 1 with fail
 rw [← hX]
 clear hX
 by_cases hm16 : 16 < nm
 ·have z1 : (16 : Int) < (nm : Int) := by omega
  have hans : ANS = 3 := by rw [← HA.out]; unfold checkQ; rw [if_pos (.inl (by rw [Hnm.out]; exact hm16))]
  have HAn := Lh hans
  clear hans
  go_wp2
  go_ret
  exact ⟨by rw [HAn.out]; rfl, HwX.out⟩
 have z1 : ¬ (16 : Int) < (nm : Int) := by omega
 by_cases hf16 : 16 < nf
 ·have z2 : (16 : Int) < (nf : Int) := by omega
  have hans : ANS = 3 := by rw [← HA.out]; unfold checkQ; rw [if_pos (.inr (by rw [Hnf.out]; exact hf16))]
  have HAn := Lh hans
  clear hans
  go_wp2
  go_ret
  exact ⟨by rw [HAn.out]; rfl, HwX.out⟩
 have z2 : ¬ (16 : Int) < (nf : Int) := by omega
 have h16 : Hid (¬ (16 < q.ms.length ∨ 16 < q.fs.length)) := Lh (by rw [Hnm.out, Hnf.out]; omega)
 have H0 : Hid (TwoR w X q 0 (.slice none 0 0) (.slice none 0 0) (.slice MA nm cm) (.slice FA nf cf)) := Lh ⟨World.ownsRow_nil _ _ _ _, World.ownsRow_nil _ _ _ _, BX.out, HwX.out⟩
 go_wp2
 clear x0 x1 BX
 go_loopw [3, 4, 5] (fun vo vt i wr => ∃ k : Nat, k ≤ nm ∧ i = .int .i64 k ∧ Hid ((q.ms.take k).all (fun m => nameP m.name) = true) ∧ Hid (TwoR w wr q k vo vt (.slice MA nm cm) (.slice FA nf cf))) (fun _ _ i _ => nm - (intOf i).toNat)
 case atStart => exact ⟨0, Nat.zero_le _, rfl, Lh rfl, H0⟩
 obtain ⟨k, hk, rfl, hall, hst⟩ := hrel
 obtain ⟨wo, rfl⟩ : ∃ wo : World, wo = wr := ⟨_, rfl⟩
 have wk1 := wS k (by omega)
 have oo := hst.out.oo; have ot := hst.out.ot
 obtain ⟨OA, oc, rfl, -⟩ := own_form oo
 obtain ⟨TA, tc, rfl, -⟩ := own_form ot
 clear oo ot
 have x0 : wo.cell? ⟨w.heap.size, 0, none⟩ = some (.slice MA nm cm) := hst.out.box.cell 0
 have x1 : wo.cell? ⟨w.heap.size, 1, none⟩ = some (.slice FA nf cf) := hst.out.box.cell 1
 by_cases hlt : k < nm
 ·have z3 : (k : Int) < (nm : Int) := by omega
  obtain ⟨m, hm⟩ : ∃ m, q.ms[k]? = some m := ⟨_, List.getElem?_eq_getElem (by rw [Hnm.out]; exact hlt)⟩
  have hpm : (partsQ q)[k]? = some m.part := by
   unfold partsQ
   rw [List.getElem?_append_left (by rw [List.length_map]; exact (List.getElem?_eq_some_iff.1 hm).1), List.getElem?_map, hm]
   rfl
  obtain ⟨b, off, rfl, hc⟩ := HQ.out.mat hm
  obtain ⟨N1, e1, hN1⟩ := str_form m.name
  obtain ⟨N2, e2, -⟩ := str_form m.val
  obtain ⟨mo, hmo⟩ : ∃ mo, m.op = mo := ⟨_, rfl⟩
  rw [e1, e2, hmo] at hc
  obtain ⟨c0, c1, c2⟩ := hc wo hst.out.low
  have hlen := (HQ.out.sm m (List.mem_of_getElem? hm)).1
  have hbad : nameP m.name = false → ANS = 50 := fun h => by rw [← HA.out]; exact bad_name h16.out hm h
  have htk := all_take (fun m : MatP => nameP m.name) hm
  have hn := gName N1 m.name hN1 wo (by omega)
  obtain ⟨nb, hnb⟩ : ∃ nb, nameP m.name = nb := ⟨_, rfl⟩
  rw [hnb] at hn hbad
  have hov : opV m.part = .int .i64 mo := by show Value.int .i64 m.op = _; rw [hmo]
  have htv : txV m.part = .string N2 := e2
  have hs := hst.out.low.size
  have HN := Lh hn; have HBad := Lh hbad; have HTk := Lh (htk.trans (by rw [hnb])); have HC := Lh hc; have HPm := Lh hpm; have Hov := Lh hov; have Htv := Lh htv
  clear hn hbad htk hc hm e1 hN1 e2 hmo hlen hnb hpm hov htv
  cases nb with
  | false =>
   have hans := HBad.out rfl
   have HAn := Lh hans; have HW := Lh hst.out.low
   clear hans
   go_wp2_with fail
   refine HN.out.mono ?_
   rintro e wz ⟨rfl, hz⟩
   obtain rfl : wo = wz := hz.symm
   go_wp2
   go_ret
   exact ⟨by rw [HAn.out]; rfl, HW.out⟩
  | true =>
   have hnx : (q.ms.take (k + 1)).all (fun m => nameP m.name) = true := by rw [HTk.out, hall.out]; rfl
   have HNx := Lh hnx
   clear hnx
   go_wp2_with fail
   refine HN.out.mono ?_
   rintro e wz ⟨rfl, hz⟩
   obtain rfl : wo = wz := hz.symm
   go_upto_region 11 with (at_builtin; refine wpList_app _ rfl intE rfl rfl (hst.out.oo.alloc _) rfl (row_newN wo 3 1 1 [.int .i64 mo] rfl) (by intro u hu; rw [List.mem_singleton] at hu; subst hu; rfl) (by omega) (by simp; omega) ?_; intro v8 w8 own8 hg8 hb8 hx8)
   have hs8 := hst.out.step ((Below.refl _ _).alloc (Nat.le_refl _) _) hg8 hb8
   obtain ⟨OA8, oc8, rfl, -⟩ := own_form own8
   have d0 : w8.cell? ⟨w.heap.size, 0, none⟩ = some (.slice (some ⟨b, off, none⟩) nm cm) := hs8.2.1.cell 0
   have d2 := (HC.out w8 hs8.2.2).2.2
   have HO8 := Lh own8; have HS8 := Lh hs8; have hs8z := hs8.2.2.size
   clear own8 hg8 hb8 hx8 hs8 c0 c1 c2 x0 x1 hst
   go_wp2_with (at_builtin; refine wpList_app _ rfl strQE rfl rfl (HS8.out.1.alloc _) rfl (row_newN w8 9 1 1 [.string N2] rfl) (by intro u hu; rw [List.mem_singleton] at hu; subst hu; rfl) (by omega) (by simp; omega) ?_; intro v9 w9 own9 hg9 hb9 hx9)
   have hd := TwoR.done (by rw [Hov.out]; exact HO8.out) HPm.out HS8.out.1 HS8.out.2.1 HS8.out.2.2 ((Below.refl _ _).alloc (Nat.le_refl _) _) hg9 (by rw [Htv.out]; exact own9) hb9
   have HD := Lh hd
   clear hd own9 hg9 hb9 hx9 d0 d2
   go_wp2
   go_roundw
   case rel => exact ⟨k + 1, by omega, by first | rfl | go_num, HNx, HD⟩
   case measure => simp [intOf]; omega
 obtain rfl : k = nm := by omega
 have z3 : ¬ (k : Int) < (k : Int) := by omega
 have hnames : (q.ms.all fun m => nameP m.name) = true := by
  have := hall.out
  rwa [List.take_of_length_le (by rw [Hnm.out]; exact Nat.le_refl _)] at this
 have HNames := Lh hnames
 have HS1 : Hid (TwoR w wo q (k + 0) (.slice OA k oc) (.slice TA k tc) (.slice MA k cm) (.slice FA nf cf)) := hst
 clear hnames hall hst
 go_wp2
 clear x0 x1
 go_loopw [3, 4, 6] (fun vo vt i wr => ∃ j : Nat, j ≤ nf ∧ i = .int .i64 j ∧ Hid (TwoR w wr q (k + j) vo vt (.slice MA k cm) (.slice FA nf cf))) (fun _ _ i _ => nf - (intOf i).toNat)
 case atStart => exact ⟨0, Nat.zero_le _, rfl, HS1⟩
 obtain ⟨j, hj, rfl, hst⟩ := hrel
 obtain ⟨wp, rfl⟩ : ∃ wp : World, wp = wr := ⟨_, rfl⟩
 have wj1 := wS j (by omega)
 obtain ⟨M, hM⟩ : ∃ M, k + j = M := ⟨_, rfl⟩
 rw [hM] at hst
 have oo := hst.out.oo; have ot := hst.out.ot
 obtain ⟨OA, oc, rfl, -⟩ := own_form oo
 obtain ⟨TA, tc, rfl, -⟩ := own_form ot
 clear oo ot
 have x1 : wp.cell? ⟨w.heap.size, 1, none⟩ = some (.slice FA nf cf) := hst.out.box.cell 1
 by_cases hlt : j < nf
 ·have z4 : (j : Int) < (nf : Int) := by omega
  obtain ⟨f, hf⟩ : ∃ f, q.fs[j]? = some f := ⟨_, List.getElem?_eq_getElem (by rw [Hnf.out]; exact hlt)⟩
  have hpf : (partsQ q)[M]? = some f := by
   rw [← hM, ← Hnm.out]
   unfold partsQ
   rw [List.getElem?_append_right (by rw [List.length_map]; omega), List.length_map, Nat.add_sub_cancel_left, hf]
  obtain ⟨b, off, rfl, hc⟩ := fil_cells HQ.out.fs hf hlt
  obtain ⟨N1, e1, -⟩ := str_form f.text
  obtain ⟨fo, hfo⟩ : ∃ fo, f.op = fo := ⟨_, rfl⟩
  rw [e1, hfo] at hc
  obtain ⟨c0, c1⟩ := hc wp hst.out.low
  have hov : opV f = .int .i64 fo := by show Value.int .i64 f.op = _; rw [hfo]
  have htv : txV f = .string N1 := e1
  have hs := hst.out.low.size
  have hMs : M ≤ 40 := by omega
  have HC := Lh hc; have HPf := Lh hpf; have Hov := Lh hov; have Htv := Lh htv; have HM := Lh hM
  clear hc hf e1 hfo hpf hov htv hM
  go_upto_region 16 with (at_builtin; refine wpList_app _ rfl intE rfl rfl (hst.out.oo.alloc _) rfl (row_newN wp 3 1 1 [.int .i64 fo] rfl) (by intro u hu; rw [List.mem_singleton] at hu; subst hu; rfl) (by omega) (by simp; omega) ?_; intro v8 w8 own8 hg8 hb8 hx8)
  have hs8 := hst.out.step ((Below.refl _ _).alloc (Nat.le_refl _) _) hg8 hb8
  obtain ⟨OA8, oc8, rfl, -⟩ := own_form own8
  have d0 : w8.cell? ⟨w.heap.size, 1, none⟩ = some (.slice (some ⟨b, off, none⟩) nf cf) := hs8.2.1.cell 1
  have d2 := (HC.out w8 hs8.2.2).2
  have HO8 := Lh own8; have HS8 := Lh hs8; have hs8z := hs8.2.2.size
  clear own8 hg8 hb8 hx8 hs8 c0 c1 x1 hst
  go_wp2_with (at_builtin; refine wpList_app _ rfl strQE rfl rfl (HS8.out.1.alloc _) rfl (row_newN w8 9 1 1 [.string N1] rfl) (by intro u hu; rw [List.mem_singleton] at hu; subst hu; rfl) (by omega) (by simp; omega) ?_; intro v9 w9 own9 hg9 hb9 hx9)
  have hd := TwoR.done (by rw [Hov.out]; exact HO8.out) HPf.out HS8.out.1 HS8.out.2.1 HS8.out.2.2 ((Below.refl _ _).alloc (Nat.le_refl _) _) hg9 (by rw [Htv.out]; exact own9) hb9
  have HD : Hid (TwoR w w9 q (k + (j + 1)) (.slice OA8 (M + 1) oc8) v9 (.slice MA k cm) (.slice (some ⟨b, off, none⟩) nf cf)) := Lh (by rw [show k + (j + 1) = M + 1 by rw [← HM.out]; omega]; exact hd)
  clear hd own9 hg9 hb9 hx9 d0 d2
  go_wp2
  go_roundw
  case rel => exact ⟨j + 1, by omega, by first | rfl | go_num, HD⟩
  case measure => simp [intOf]; omega
 obtain rfl : j = nf := by omega
 have z4 : ¬ (j : Int) < (j : Int) := by omega
 have hlenP : (partsQ q).length = M := by unfold partsQ; rw [List.length_append, List.length_map, Hnm.out, Hnf.out, hM]
 have ro := Row.of_own hst.out.oo
 have rt := Row.of_own hst.out.ot
 rw [List.take_of_length_le (by rw [hlenP]; exact Nat.le_refl _)] at ro rt
 have hMs : M ≤ 40 := by omega
 obtain ⟨P, hP⟩ : ∃ P, partsQ q = P := ⟨_, rfl⟩
 rw [hP] at ro rt hlenP
 have HRo := Lh ro; have HRt := Lh rt; have HLP := Lh hlenP; have HP := Lh hP; have HWp := Lh hst.out.low; have HM := Lh hM
 clear ro rt hlenP hP hst hM
 go_wp2
 clear x1
 go_loopw [7] (fun i wr => ∃ u : Nat, u ≤ M ∧ i = .int .i64 u ∧ Hid ((P.take u).all (fun f => opOk f.op) = true) ∧ wr = wp) (fun i _ => M - (intOf i).toNat)
 case atStart => exact ⟨0, Nat.zero_le _, rfl, Lh rfl, rfl⟩
 obtain ⟨u, hu, rfl, hall, hwr⟩ := hrel
 obtain rfl : wp = wr := hwr.symm
 have wu1 := wS u (by omega)
 by_cases hlt : u < M
 ·have z5 : (u : Int) < (M : Int) := by omega
  obtain ⟨f, hf⟩ : ∃ f, P[u]? = some f := ⟨_, List.getElem?_eq_getElem (by rw [HLP.out]; exact hlt)⟩
  obtain ⟨b, off, rfl, hc⟩ := one_cell HRo.out (u := opV f) (k := u) (by rw [List.getElem?_map, hf]; rfl)
  have c0 := hc wp (Below.refl _ _)
  obtain ⟨fo, hfo⟩ : ∃ fo, f.op = fo := ⟨_, rfl⟩
  have hov : opV f = .int .i64 fo := by show Value.int .i64 f.op = _; rw [hfo]
  rw [hov] at c0
  have htk := all_take (fun f : FilP => opOk f.op) hf
  have hbad : opOk fo = false → ANS = 50 := fun h => by rw [← HA.out]; exact bad_op h16.out (by rw [HP.out]; exact hf) (by rw [hfo]; exact h)
  have hok : opOk fo = true → (P.take (u + 1)).all (fun f => opOk f.op) = true := fun h => by rw [htk, hall.out, hfo, h]; rfl
  have HBad := Lh hbad; have HOk := Lh hok
  clear hbad hok htk hov hfo hc hf hall
  by_cases ho1 : fo < 1
  ·have hans := HBad.out (opOk_no (.inl ho1))
   have HAn := Lh hans
   clear hans
   go_wp2
   go_ret
   exact ⟨by rw [HAn.out]; rfl, HWp.out⟩
  by_cases ho4 : 4 < fo
  ·have hans := HBad.out (opOk_no (.inr ho4))
   have HAn := Lh hans
   clear hans
   go_wp2
   go_ret
   exact ⟨by rw [HAn.out]; rfl, HWp.out⟩
  have HNx := Lh (HOk.out (opOk_yes (by omega) (by omega)))
  go_wp2
  go_roundw
  case rel => exact ⟨u + 1, by omega, by first | rfl | go_num, HNx, (by first | rfl | trivial)⟩
  case measure => simp [intOf]; omega
 obtain rfl : u = M := by omega
 have z5 : ¬ (u : Int) < (u : Int) := by omega
 have hops : (P.all fun f => opOk f.op) = true := by
  have := hall.out
  rwa [List.take_of_length_le (by rw [HLP.out]; exact Nat.le_refl _)] at this
 have hmf := ops_all HNames.out (by rw [HP.out]; exact hops)
 have HOps := Lh hops; have HMf := Lh hmf
 clear hops hmf hall
 go_wp2
 go_loopw [8] (fun i wr => ∃ p : Nat, p ≤ u ∧ i = .int .i64 p ∧ Hid ((P.take p).all utfOk = true) ∧ Hid (Below wp.heap.size wp wr)) (fun i _ => u - (intOf i).toNat)
 case atStart => exact ⟨0, Nat.zero_le _, rfl, Lh rfl, Lh (Below.refl _ _)⟩
 obtain ⟨p, hp, rfl, hall, hbw⟩ := hrel
 obtain ⟨ws, rfl⟩ : ∃ ws : World, ws = wr := ⟨_, rfl⟩
 have wp1 := wS p (by omega)
 by_cases hlt : p < u
 ·have z6 : (p : Int) < (u : Int) := by omega
  obtain ⟨f, hf⟩ : ∃ f, P[p]? = some f := ⟨_, List.getElem?_eq_getElem (by rw [HLP.out]; exact hlt)⟩
  obtain ⟨b, off, rfl, hc⟩ := one_cell HRt.out (u := txV f) (k := p) (by rw [List.getElem?_map, hf]; rfl)
  have c0 := hc ws hbw.out
  obtain ⟨N1, e1, hN1⟩ := str_form f.text
  rw [show txV f = .string N1 from e1] at c0
  have hrn := vRunes N1 f.text hN1 ws (HSm.out f (by rw [HP.out]; exact List.mem_of_getElem? hf))
  have htk := all_take utfOk hf
  have hbad : utfOk f = false → ANS = 8 := fun h => by rw [← HA.out]; exact check_utf h16.out HMf.out.1 HMf.out.2 (by rw [HP.out]; exact all_false utfOk hf h)
  have hok : utfOk f = true → (P.take (p + 1)).all utfOk = true := fun h => by rw [htk, hall.out, h]; rfl
  obtain ⟨vb, hvb⟩ : ∃ vb, Lib.validD f.text = vb := ⟨_, rfl⟩
  have huf : utfOk f = vb := hvb
  rw [hvb] at hrn
  rw [huf] at hbad hok
  have HRn := Lh hrn; have HBad := Lh hbad; have HOk := Lh hok
  clear hrn hbad hok htk huf hvb hc hf hall e1 hN1
  go_wp2_with fail
  refine HRn.out.mono ?_
  rintro e wy ⟨v, rfl, -, hby⟩
  have hpy := hbw.out.trans (hby.mono hbw.out.size)
  have HPy := Lh hpy
  have HWy := Lh (HWp.out.trans (hpy.mono HWp.out.size))
  clear hby hpy hbw
  cases vb with
  | false =>
   have hans := HBad.out rfl
   have HAn := Lh hans
   clear hans
   go_wp2
   go_ret
   exact ⟨by rw [HAn.out]; rfl, HWy.out⟩
  | true =>
   have HNx := Lh (HOk.out rfl)
   go_wp2
   go_roundw
   case rel => exact ⟨p + 1, by omega, by first | rfl | go_num, HNx, HPy⟩
   case measure => simp [intOf]; omega
 obtain rfl : p = u := by omega
 have z6 : ¬ (p : Int) < (p : Int) := by omega
 have hut : P.all utfOk = true := by
  have := hall.out
  rwa [List.take_of_length_le (by rw [HLP.out]; exact Nat.le_refl _)] at this
 have HUt := Lh hut; have HBs := Lh hbw.out
 clear hut hall hbw
 go_wp2
 go_loopw [11] (fun i wr => ∃ t : Nat, t ≤ p ∧ i = .int .i64 t ∧ Hid ((P.take t).all patOk = true) ∧ Hid (Below wp.heap.size wp wr)) (fun i _ => p - (intOf i).toNat)
 case atStart => exact ⟨0, Nat.zero_le _, rfl, Lh rfl, HBs⟩
 obtain ⟨t, ht, rfl, hall, hbw⟩ := hrel
 obtain ⟨wt, rfl⟩ : ∃ wt : World, wt = wr := ⟨_, rfl⟩
 have wt1 := wS t (by omega)
 by_cases hlt : t < p
 ·have z7 : (t : Int) < (p : Int) := by omega
  obtain ⟨f, hf⟩ : ∃ f, P[t]? = some f := ⟨_, List.getElem?_eq_getElem (by rw [HLP.out]; exact hlt)⟩
  obtain ⟨b, off, rfl, hc⟩ := one_cell HRt.out (u := txV f) (k := t) (by rw [List.getElem?_map, hf]; rfl)
  have c0 := hc wt hbw.out
  obtain ⟨b2, off2, rfl, hc2⟩ := one_cell HRo.out (u := opV f) (k := t) (by rw [List.getElem?_map, hf]; rfl)
  obtain ⟨N1, e1, hN1⟩ := str_form f.text
  rw [show txV f = .string N1 from e1] at c0
  obtain ⟨fo, hfo⟩ : ∃ fo, f.op = fo := ⟨_, rfl⟩
  have hov : opV f = .int .i64 fo := by show Value.int .i64 f.op = _; rw [hfo]
  rw [hov] at hc2
  have hpr := qParse f.text wt (by have := HSm.out f (by rw [HP.out]; exact List.mem_of_getElem? hf); omega)
  rw [show str f.text = .string N1 by rw [hN1]] at hpr
  have hofo : opOk fo = true := by rw [← hfo]; exact List.all_eq_true.1 HOps.out f (List.mem_of_getElem? hf)
  have htk := all_take patOk hf
  have hbad : patOk f = false → ANS = 40 := fun h => by rw [← HA.out]; exact check_pat h16.out HMf.out.1 HMf.out.2 (by rw [HP.out]; exact HUt.out) (by rw [HP.out]; exact all_false patOk hf h)
  have hok : patOk f = true → (P.take (t + 1)).all patOk = true := fun h => by rw [htk, hall.out, h]; rfl
  have hpk : patOk f = (!decide (3 ≤ fo) || (match rexpP f.text with | .ok _ => true | .error _ => false)) := by unfold patOk; rw [hfo, like_three hofo]; cases rexpP f.text <;> rfl
  have herr := fun n => @err_pos f.text n
  obtain ⟨OUT, hO⟩ : ∃ OUT, rexpP f.text = OUT := ⟨_, rfl⟩
  rw [hO] at hpr hpk
  have herr2 : ∀ n, OUT = .error n → 0 < n := fun n h => (herr n (hO.trans h)).1
  have HPr := Lh hpr; have HBad := Lh hbad; have HOk := Lh hok; have HPk := Lh hpk; have HErr := Lh herr2; have HC2 := Lh hc2
  clear hpr hbad hok htk hpk herr herr2 hO hc hc2 hf hall e1 hN1 hfo hov hofo
  go_wp2_with fail
  refine HPr.out.mono ?_
  rintro e wy ⟨hby, ho⟩
  have hpy := hbw.out.trans (hby.mono hbw.out.size)
  have c2 := HC2.out wy hpy
  have HPy := Lh hpy
  have HWy := Lh (HWp.out.trans (hpy.mono HWp.out.size))
  clear hby hpy hbw HPr c0
  cases OUT with
  | error n =>
   obtain rfl := ho
   have hn0 := HErr.out n rfl
   have hn1 : ((n : Int) != 0) = true := by simp; omega
   have hn2 : ¬ (n : Int) = 0 := by omega
   by_cases h3 : 3 ≤ fo
   ·have hans := HBad.out (by rw [HPk.out, decide_eq_true h3]; rfl)
    have HAn := Lh hans
    clear hans
    go_wp2
    go_ret
    exact ⟨by rw [HAn.out]; rfl, HWy.out⟩
   have HNx := Lh (HOk.out (by rw [HPk.out, decide_eq_false h3]; rfl))
   go_wp2
   go_roundw
   case rel => exact ⟨t + 1, by omega, by first | rfl | go_num, HNx, HPy⟩
   case measure => simp [intOf]; omega
  | ok tr =>
   obtain ⟨v7, rfl, -⟩ := ho
   have HNx := Lh (HOk.out (by rw [HPk.out]; simp))
   by_cases h3 : 3 ≤ fo
   ·go_wp2
    go_roundw
    case rel => exact ⟨t + 1, by omega, by first | rfl | go_num, HNx, HPy⟩
    case measure => simp [intOf]; omega
   go_wp2
   go_roundw
   case rel => exact ⟨t + 1, by omega, by first | rfl | go_num, HNx, HPy⟩
   case measure => simp [intOf]; omega
 obtain rfl : t = p := by omega
 have z7 : ¬ (t : Int) < (t : Int) := by omega
 have hpt : P.all patOk = true := by
  have := hall.out
  rwa [List.take_of_length_le (by rw [HLP.out]; exact Nat.le_refl _)] at this
 have hans : ANS = 0 := by rw [← HA.out]; exact check_ok h16.out HMf.out.1 HMf.out.2 (by rw [HP.out]; exact HUt.out) (by rw [HP.out]; exact hpt)
 have HAn := Lh hans; have HW := Lh (HWp.out.trans (hbw.out.mono HWp.out.size))
 clear hans hpt hall hbw
 go_wp2
 go_ret
 exact ⟨by rw [HAn.out]; rfl, HW.out⟩
end Go.Proofs.YtecejnilajbdpaaGreatDoor
