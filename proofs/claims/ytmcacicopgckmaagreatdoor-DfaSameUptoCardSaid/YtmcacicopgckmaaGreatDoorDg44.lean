import Derived.Test.YtmcacicopgckmaaGreatDoorDg42
/-! dfa: keep -/
namespace Go.Proofs.YtmcacicopgckmaaGreatDoor
open Go.RowKit Garner
/-- what keep answers -/
def KeptAt (d : CacheD) (i : Int) (f : Bool) (st : List Nat) : Prop := i = -1 ∨ ∃ (j : Nat) (x : KeptD), i = (j : Int) ∧ d.ds[j]? = some x ∧ x.p.pcs = st ∧ x.p.first = f
set_option maxRecDepth 100000 in
set_option maxHeartbeats 32000000 in
theorem vKeep (B0 c : Nat) (t : Re) (lim : Nat) (d : CacheD) (f : Bool) (st : List Nat) (A : Option Addr) (n ca : Nat) (hn : st.length = n) (hst : ∀ x ∈ st, x < (progR t).length) (hnl : n ≤ 100000) (hA : PlainA A ca) (w : World) (hc : CacheIs B0 w c t lim d) (hr : RowT w 3 A n (st.map iv)) (hT : TabW B0 w) :
    Calls Tryz.prog 77 #[.pointer (some ⟨c, 0, none⟩), .agg #[.slice A n ca, .bool f]] w fun e w' => ∃ (i : Int) (d' : CacheD), e = .returned (.int .i64 i) ∧ CacheIs B0 w' c t lim d' ∧ CStep c w d w' d' ∧ KeptAt d' i f st ∧ (0 < lim → 0 < d'.ds.length) := by
  obtain ⟨X, hX⟩ : ∃ X, X = w.alloc (.cells #[.slice A n ca, .bool f] 70) := ⟨_, rfl⟩
  have hbX : Below w.heap.size w X := by rw [hX]; exact (Below.refl _ _).alloc (Nat.le_refl _) _
  have bX : Blk X w.heap.size 70 [.slice A n ca, .bool f] := by rw [hX]; exact Blk.new w _ _
  have hlow := hc.low.2.2.2
  have hcX := hc.below hbX
  have hrX := hr.below hbX
  have hTX : TabW B0 X := hT.on (hbX.mono hlow)
  have hsX := hbX.size
  have hg1 := hc.good.prog.small
  have hname : ∀ Y, Below X.heap.size X Y → Calls Tryz.prog 106 #[.agg #[.slice A n ca, .bool f]] Y fun e w' => e = .returned (.string ⟨(nameT f st).toArray⟩) ∧ Below Y.heap.size Y w' := fun Y hY => by
    have hY2 := hY.size
    exact vDName f st A n ca hn (fun p hp => by have := hst p hp; omega) hnl Y (hrX.below hY) (TabW.mono (hTX.on (hY.mono (by omega))) (by omega))
  have hfound := fun v => hc.gc.found (f := f) (s := st) (v := v)
  obtain ⟨M, hM⟩ : ∃ M, d.ds.length = M := ⟨_, rfl⟩
  have hgl := hc.gc.len
  have hgb := hc.gc.lb
  rw [List.length_map, hM] at hgl
  have bcX := hcX.blk
  rw [hM] at bcX
  have sX : Blk X.drew c 80 [.pointer (some ⟨d.g, 0, none⟩), .int .i64 lim, .slice d.A M d.cs, .map (some d.mN), .map (some d.mE)] ∧ Blk X.drew w.heap.size 70 [.slice A n ca, .bool f] := ⟨bcX.drew, bX.drew⟩
  have hn1 := hname X.drew (Below.refl _ _).drew
  have HX := Lib.hid hbX; have HcX := Lib.hid hcX; have HrX := Lib.hid hrX; have HN := Lib.hid hname; have HN1 := Lib.hid hn1; have HF := Lib.hid hfound; have HM := Lib.hid hM; have HTX := Lib.hid hTX; have Hst := Lib.hid hst; have Hn := Lib.hid hn; have Hc := Lib.hid hc; have Hr0 := Lib.hid hr; have HT0 := Lib.hid hT
  clear hbX bX hcX hrX hname hn1 hfound hM hTX bcX hst hr hT hn hc
  go_enter Tryz.func77, Tryz.ntmps77
  go_upto_region 1 with fail
  rw [← hX]
  clear hX
  refine wp_region_N (fun w' => Blk w' c 80 [.pointer (some ⟨d.g, 0, none⟩), .int .i64 lim, .slice d.A M d.cs, .map (some d.mN), .map (some d.mE)] ∧ Blk w' w.heap.size 70 [.slice A n ca, .bool f]) 100 (by kernel_rfl) ?_
  apply wpAnyN_takeL 0 (by kernel_rfl) rfl (fun _ _ _ h => h) (by kernel_rfl) sX
  · intro w' hS'
    go_simp; exact ⟨rfl, rfl⟩
  (try simp only [Act.put]); (try simp only [List.setIfInBounds_toArray]); (try simp only [List.set])
  apply wpAnyN_takeL 1 (by kernel_rfl) rfl (fun _ _ _ h => h) (by kernel_rfl) sX
  · intro w' hS'
    go_simp; exact ⟨rfl, rfl⟩
  (try simp only [Act.put]); (try simp only [List.setIfInBounds_toArray]); (try simp only [List.set])
  apply wpAnyN_takeL 2 (by kernel_rfl) rfl (fun _ _ _ h => h) (by kernel_rfl) sX
  · intro w' hS'
    go_simp; exact ⟨rfl, rfl⟩
  (try simp only [Act.put]); (try simp only [List.setIfInBounds_toArray]); (try simp only [List.set])
  apply wpAnyN_takeL 3 (v := (.map (some d.mN))) (by kernel_rfl) rfl (fun _ _ _ h => h) (by kernel_rfl) sX
  · intro w' hS'
    (have k3 := hS'.1.cell 3; go_simp; exact ⟨rfl, rfl⟩)
  (try simp only [Act.put]); (try simp only [List.setIfInBounds_toArray]); (try simp only [List.set])
  apply wpAnyN_takeL 4 (v := (.agg #[.slice A n ca, .bool f])) (by kernel_rfl) rfl (fun _ _ _ h => h) (by kernel_rfl) sX
  · intro w' hS'
    (have k0 := hS'.2.cell 0; have k1 := hS'.2.cell 1; go_simp; exact ⟨rfl, rfl⟩)
  (try simp only [Act.put]); (try simp only [List.setIfInBounds_toArray]); (try simp only [List.set])
  refine wpAnyN_runL 5 (by kernel_rfl) rfl (by kernel_rfl) (fun K hK => ?_)
  go_simp
  refine HN1.out.mono ?_
  rintro e w1 ⟨rfl, hb1⟩
  have s1 : Blk w1 c 80 [.pointer (some ⟨d.g, 0, none⟩), .int .i64 lim, .slice d.A M d.cs, .map (some d.mN), .map (some d.mE)] ∧ Blk w1 w.heap.size 70 [.slice A n ca, .bool f] := ⟨sX.1.below hb1 sX.1.lt, sX.2.below hb1 sX.2.lt⟩
  have hbX1 : Below X.heap.size X w1 := (Below.refl _ _).drew.trans hb1
  have hc1 := HcX.out.below hbX1
  have hlk := run_lookF strK_law Tryz.underlying77 hc1.mapN (z := .int .i64 0) (by kernel_rfl) (nameT f st) true
  have HX1 := Lib.hid hbX1; have Hc1 := Lib.hid hc1
  refine hK _ _ (fun _ => s1) ?_
  clear hK K hbX1 hc1 hb1 sX
  (try simp only [Act.put])
  obtain ⟨LK, hLK⟩ : ∃ LK, d.nm (nameT f st) = LK := ⟨_, rfl⟩
  rw [hLK] at hlk
  have hlk2 : (Instr.lookup 77 (.map (some d.mN)) (.string ⟨(nameT f st).toArray⟩) true).run Tryz.prog w1 = .ok (.tuple #[LK.getD (.int .i64 0), .bool LK.isSome]) w1 := hlk
  clear hlk
  refine wpAnyN_runL 6 (by kernel_rfl) rfl (by kernel_rfl) (fun K hK => ?_)
  go_simp
  refine hK _ _ (fun _ => s1) ?_
  clear hK K
  (try simp only [Act.put]); (try simp only [List.setIfInBounds_toArray]); (try simp only [List.set])
  refine wpAnyN_runL 7 (by kernel_rfl) rfl (by kernel_rfl) (fun K hK => ?_)
  go_simp
  refine hK _ _ (fun _ => s1) ?_
  clear hK K
  (try simp only [Act.put]); (try simp only [List.setIfInBounds_toArray]); (try simp only [List.set])
  apply wpAnyN_takeL 8 (by kernel_rfl) rfl (fun _ _ _ h => h) (by kernel_rfl) s1
  · intro w' hS'
    go_simp; exact ⟨rfl, rfl⟩
  (try simp only [Act.put]); (try simp only [List.setIfInBounds_toArray]); (try simp only [List.set])
  apply wpAnyN_takeL 9 (by kernel_rfl) rfl (fun _ _ _ h => h) (by kernel_rfl) s1
  · intro w' hS'
    go_simp; exact ⟨rfl, rfl⟩
  (try simp only [Act.put]); (try simp only [List.setIfInBounds_toArray]); (try simp only [List.set])
  refine wpAnyN_runL 10 (by kernel_rfl) rfl (by kernel_rfl) (fun K hK => ?_)
  go_simp
  refine hK _ _ (fun _ => s1) ?_
  clear hK K
  (try simp only [Act.put]); (try simp only [List.setIfInBounds_toArray]); (try simp only [List.set])
  refine wpAnyN_runL 11 (by kernel_rfl) rfl (by kernel_rfl) (fun K hK => ?_)
  go_simp
  refine hK _ _ (fun _ => s1) ?_
  clear hK K
  (try simp only [Act.put])
  refine wpAnyN_done (by kernel_rfl) ?_ _
  cases LK with
  | some v =>
    obtain ⟨i, u, rfl, hi, hu1, hu2⟩ := HF.out _ hLK
    rw [List.getElem?_map] at hi
    obtain ⟨x, hx, rfl⟩ := Option.map_eq_some_iff.1 hi
    have hpos : 0 < d.ds.length := by have := (List.getElem?_eq_some_iff.1 hx).1; omega
    have hb := HX.out.trans (HX1.out.mono hsX)
    have HB := Lib.hid hb; have Hx := Lib.hid hx; have Hu := Lib.hid (show x.p.pcs = st ∧ x.p.first = f from ⟨hu2, hu1⟩)
    clear hb hx hu1 hu2 hi hLK hlk2
    go_wp2_with fail
    go_ret
    exact ⟨_, d, rfl, Hc1.out, .of_below HB.out, .inr ⟨i, x, rfl, Hx.out, Hu.out⟩, fun _ => hpos⟩
  | none =>
    clear hlk2
    go_upto_region 4 with fail
    have s2 : Blk w1.drew c 80 [.pointer (some ⟨d.g, 0, none⟩), .int .i64 lim, .slice d.A M d.cs, .map (some d.mN), .map (some d.mE)] ∧ Blk w1.drew w.heap.size 70 [.slice A n ca, .bool f] := ⟨s1.1.drew, s1.2.drew⟩
    refine wp_region_N (fun w' => Blk w' c 80 [.pointer (some ⟨d.g, 0, none⟩), .int .i64 lim, .slice d.A M d.cs, .map (some d.mN), .map (some d.mE)] ∧ Blk w' w.heap.size 70 [.slice A n ca, .bool f]) 100 (by kernel_rfl) ?_
    apply wpAnyN_takeL 0 (by kernel_rfl) rfl (fun _ _ _ h => h) (by kernel_rfl) s2
    · intro w' hS'
      go_simp; exact ⟨rfl, rfl⟩
    (try simp only [Act.put]); (try simp only [List.setIfInBounds_toArray]); (try simp only [List.set])
    apply wpAnyN_takeL 1 (by kernel_rfl) rfl (fun _ _ _ h => h) (by kernel_rfl) s2
    · intro w' hS'
      go_simp; exact ⟨rfl, rfl⟩
    (try simp only [Act.put]); (try simp only [List.setIfInBounds_toArray]); (try simp only [List.set])
    apply wpAnyN_takeL 2 (by kernel_rfl) rfl (fun _ _ _ h => h) (by kernel_rfl) s2
    · intro w' hS'
      go_simp; exact ⟨rfl, rfl⟩
    (try simp only [Act.put]); (try simp only [List.setIfInBounds_toArray]); (try simp only [List.set])
    apply wpAnyN_takeL 3 (v := (.slice d.A M d.cs)) (by kernel_rfl) rfl (fun _ _ _ h => h) (by kernel_rfl) s2
    · intro w' hS'
      (have k3 := hS'.1.cell 2; go_simp; exact ⟨rfl, rfl⟩)
    (try simp only [Act.put]); (try simp only [List.setIfInBounds_toArray]); (try simp only [List.set])
    apply wpAnyN_takeL 4 (by kernel_rfl) rfl (fun _ _ _ h => h) (by kernel_rfl) s2
    · intro w' hS'
      go_simp; exact ⟨rfl, rfl⟩
    (try simp only [Act.put]); (try simp only [List.setIfInBounds_toArray]); (try simp only [List.set])
    apply wpAnyN_takeL 5 (by kernel_rfl) rfl (fun _ _ _ h => h) (by kernel_rfl) s2
    · intro w' hS'
      go_simp; exact ⟨rfl, rfl⟩
    (try simp only [Act.put]); (try simp only [List.setIfInBounds_toArray]); (try simp only [List.set])
    apply wpAnyN_takeL 6 (by kernel_rfl) rfl (fun _ _ _ h => h) (by kernel_rfl) s2
    · intro w' hS'
      go_simp; exact ⟨rfl, rfl⟩
    (try simp only [Act.put]); (try simp only [List.setIfInBounds_toArray]); (try simp only [List.set])
    apply wpAnyN_takeL 7 (by kernel_rfl) rfl (fun _ _ _ h => h) (by kernel_rfl) s2
    · intro w' hS'
      go_simp; exact ⟨rfl, rfl⟩
    (try simp only [Act.put]); (try simp only [List.setIfInBounds_toArray]); (try simp only [List.set])
    apply wpAnyN_takeL 8 (v := (.int .i64 lim)) (by kernel_rfl) rfl (fun _ _ _ h => h) (by kernel_rfl) s2
    · intro w' hS'
      (have k3 := hS'.1.cell 1; go_simp; exact ⟨rfl, rfl⟩)
    (try simp only [Act.put]); (try simp only [List.setIfInBounds_toArray]); (try simp only [List.set])
    apply wpAnyN_takeL 9 (by kernel_rfl) rfl (fun _ _ _ h => h) (by kernel_rfl) s2
    · intro w' hS'
      go_simp; exact ⟨rfl, rfl⟩
    (try simp only [Act.put]); (try simp only [List.setIfInBounds_toArray]); (try simp only [List.set])
    refine wpAnyN_done (by kernel_rfl) ?_ _
    have hb := HX.out.trans (HX1.out.mono hsX)
    have HB := Lib.hid hb
    clear hb s1
    by_cases hfull : lim ≤ M
    · have z1 : (lim : Int) ≤ (M : Int) := by omega
      go_wp2_with fail
      go_ret
      exact ⟨_, d, rfl, Hc1.out.below (Below.refl _ _).drew, .of_below HB.out.drew, .inl rfl, fun h => by rw [HM.out]; omega⟩
    · have z1 : ¬ (lim : Int) ≤ (M : Int) := by omega
      go_upto_region 6 with fail
      obtain ⟨Y, hY⟩ : ∃ Y, Y = w1.drew := ⟨_, rfl⟩
      rw [← hY]
      have cY : CacheIs B0 Y c t lim d := by rw [hY]; exact Hc1.out.below (Below.refl _ _).drew
      have rY : RowT Y 3 A n (st.map iv) := by rw [hY]; exact (HrX.out.below HX1.out).below (Below.refl _ _).drew
      have bY : Below X.heap.size X Y := by rw [hY]; exact HX1.out.drew
      have wY : Below w.heap.size w Y := HX.out.trans (bY.mono hsX)
      have s3 : Blk Y.drew c 80 [.pointer (some ⟨d.g, 0, none⟩), .int .i64 lim, .slice d.A M d.cs, .map (some d.mN), .map (some d.mE)] ∧ Blk Y.drew w.heap.size 70 [.slice A n ca, .bool f] := by rw [hY]; exact ⟨s2.1.drew, s2.2.drew⟩
      obtain ⟨Bp, Lp, hp⟩ := cY.prog
      have hgood := cY.good.prog
      obtain ⟨hh, hhh⟩ : ∃ hh, matB (progR t) st f false = hh := ⟨_, rfl⟩
      obtain ⟨ll, hll⟩ : ∃ ll, matB (progR t) st f true = ll := ⟨_, rfl⟩
      have hm1 := vMatches hgood st Hst.out A n ca Hn.out (by omega) hA f false d.g Y.drew (rY.below (Below.refl _ _).drew) (hp.below (Below.refl _ _).drew)
      have hm2 : ∀ w2, Below Y.heap.size Y w2 → _ := fun w2 hY2 => vMatches hgood st Hst.out A n ca Hn.out (by omega) hA f true d.g w2 (rY.below hY2) (hp.below hY2)
      rw [hhh] at hm1
      rw [hll] at hm2
      have HM1 := Lib.hid hm1; have HM2 := Lib.hid hm2; have CY := Lib.hid cY; have RY := Lib.hid rY; have BY := Lib.hid bY; have WY := Lib.hid wY; have Hhh := Lib.hid hhh; have Hll := Lib.hid hll; have HLK := Lib.hid hLK
      clear hm1 hm2 cY rY bY wY hhh hll hp hgood hLK s2 hY
      refine wp_region_N (fun w' => Blk w' c 80 [.pointer (some ⟨d.g, 0, none⟩), .int .i64 lim, .slice d.A M d.cs, .map (some d.mN), .map (some d.mE)] ∧ Blk w' w.heap.size 70 [.slice A n ca, .bool f]) 23 (by kernel_rfl) ?_
      apply wpAnyN_takeL 0 (by kernel_rfl) rfl (fun _ _ _ h => h) (by kernel_rfl) s3
      · intro w' hS'
        go_simp; exact ⟨rfl, rfl⟩
      (try simp only [Act.put]); (try simp only [List.setIfInBounds_toArray]); (try simp only [List.set])
      apply wpAnyN_takeL 1 (by kernel_rfl) rfl (fun _ _ _ h => h) (by kernel_rfl) s3
      · intro w' hS'
        go_simp; exact ⟨rfl, rfl⟩
      (try simp only [Act.put]); (try simp only [List.setIfInBounds_toArray]); (try simp only [List.set])
      apply wpAnyN_takeL 2 (by kernel_rfl) rfl (fun _ _ _ h => h) (by kernel_rfl) s3
      · intro w' hS'
        go_simp; exact ⟨rfl, rfl⟩
      (try simp only [Act.put]); (try simp only [List.setIfInBounds_toArray]); (try simp only [List.set])
      apply wpAnyN_takeL 3 (by kernel_rfl) rfl (fun _ _ _ h => h) (by kernel_rfl) s3
      · intro w' hS'
        go_simp; exact ⟨rfl, rfl⟩
      (try simp only [Act.put]); (try simp only [List.setIfInBounds_toArray]); (try simp only [List.set])
      apply wpAnyN_takeL 4 (v := (.slice d.A M d.cs)) (by kernel_rfl) rfl (fun _ _ _ h => h) (by kernel_rfl) s3
      · intro w' hS'
        (have k3 := hS'.1.cell 2; go_simp; exact ⟨rfl, rfl⟩)
      (try simp only [Act.put]); (try simp only [List.setIfInBounds_toArray]); (try simp only [List.set])
      apply wpAnyN_takeL 5 (v := (.agg #[.slice A n ca, .bool f])) (by kernel_rfl) rfl (fun _ _ _ h => h) (by kernel_rfl) s3
      · intro w' hS'
        (have k0 := hS'.2.cell 0; have k1 := hS'.2.cell 1; go_simp; exact ⟨rfl, rfl⟩)
      (try simp only [Act.put]); (try simp only [List.setIfInBounds_toArray]); (try simp only [List.set])
      apply wpAnyN_takeL 6 (by kernel_rfl) rfl (fun _ _ _ h => h) (by kernel_rfl) s3
      · intro w' hS'
        go_simp; exact ⟨rfl, rfl⟩
      (try simp only [Act.put]); (try simp only [List.setIfInBounds_toArray]); (try simp only [List.set])
      apply wpAnyN_takeL 7 (by kernel_rfl) rfl (fun _ _ _ h => h) (by kernel_rfl) s3
      · intro w' hS'
        go_simp; exact ⟨rfl, rfl⟩
      (try simp only [Act.put]); (try simp only [List.setIfInBounds_toArray]); (try simp only [List.set])
      apply wpAnyN_takeL 8 (by kernel_rfl) rfl (fun _ _ _ h => h) (by kernel_rfl) s3
      · intro w' hS'
        go_simp; exact ⟨rfl, rfl⟩
      (try simp only [Act.put]); (try simp only [List.setIfInBounds_toArray]); (try simp only [List.set])
      apply wpAnyN_takeL 9 (v := (.pointer (some ⟨d.g, 0, none⟩))) (by kernel_rfl) rfl (fun _ _ _ h => h) (by kernel_rfl) s3
      · intro w' hS'
        (have k3 := hS'.1.cell 0; go_simp; exact ⟨rfl, rfl⟩)
      (try simp only [Act.put]); (try simp only [List.setIfInBounds_toArray]); (try simp only [List.set])
      apply wpAnyN_takeL 10 (v := (.agg #[.slice A n ca, .bool f])) (by kernel_rfl) rfl (fun _ _ _ h => h) (by kernel_rfl) s3
      · intro w' hS'
        (have k0 := hS'.2.cell 0; have k1 := hS'.2.cell 1; go_simp; exact ⟨rfl, rfl⟩)
      (try simp only [Act.put]); (try simp only [List.setIfInBounds_toArray]); (try simp only [List.set])
      apply wpAnyN_takeL 12 (by kernel_rfl) rfl (fun _ _ _ h => h) (by kernel_rfl) s3
      · intro w' hS'
        go_simp; exact ⟨rfl, rfl⟩
      (try simp only [Act.put]); (try simp only [List.setIfInBounds_toArray]); (try simp only [List.set])
      apply wpAnyN_takeL 13 (by kernel_rfl) rfl (fun _ _ _ h => h) (by kernel_rfl) s3
      · intro w' hS'
        go_simp; exact ⟨rfl, rfl⟩
      (try simp only [Act.put]); (try simp only [List.setIfInBounds_toArray]); (try simp only [List.set])
      apply wpAnyN_takeL 14 (by kernel_rfl) rfl (fun _ _ _ h => h) (by kernel_rfl) s3
      · intro w' hS'
        go_simp; exact ⟨rfl, rfl⟩
      (try simp only [Act.put]); (try simp only [List.setIfInBounds_toArray]); (try simp only [List.set])
      apply wpAnyN_takeL 15 (v := (.pointer (some ⟨d.g, 0, none⟩))) (by kernel_rfl) rfl (fun _ _ _ h => h) (by kernel_rfl) s3
      · intro w' hS'
        (have k3 := hS'.1.cell 0; go_simp; exact ⟨rfl, rfl⟩)
      (try simp only [Act.put]); (try simp only [List.setIfInBounds_toArray]); (try simp only [List.set])
      apply wpAnyN_takeL 16 (v := (.agg #[.slice A n ca, .bool f])) (by kernel_rfl) rfl (fun _ _ _ h => h) (by kernel_rfl) s3
      · intro w' hS'
        (have k0 := hS'.2.cell 0; have k1 := hS'.2.cell 1; go_simp; exact ⟨rfl, rfl⟩)
      (try simp only [Act.put]); (try simp only [List.setIfInBounds_toArray]); (try simp only [List.set])
      refine wpAnyN_runL 11 (by kernel_rfl) rfl (by kernel_rfl) (fun K hK => ?_)
      go_simp
      refine HM1.out.mono ?_
      rintro e w2 ⟨rfl, hb2⟩
      have hY2 : Below Y.heap.size Y w2 := (Below.refl _ _).drew.trans hb2
      have s4 : Blk w2 c 80 [.pointer (some ⟨d.g, 0, none⟩), .int .i64 lim, .slice d.A M d.cs, .map (some d.mN), .map (some d.mE)] ∧ Blk w2 w.heap.size 70 [.slice A n ca, .bool f] := ⟨s3.1.below hb2 s3.1.lt, s3.2.below hb2 s3.2.lt⟩
      have HY2 := Lib.hid hY2; have HMm := Lib.hid (HM2.out w2 hY2)
      refine hK _ _ (fun _ => s4) ?_
      clear hK K hY2 hb2 s3
      (try simp only [Act.put]); (try simp only [List.setIfInBounds_toArray]); (try simp only [List.set])
      refine wpAnyN_runL 17 (by kernel_rfl) rfl (by kernel_rfl) (fun K hK => ?_)
      go_simp
      refine HMm.out.mono ?_
      rintro e w3 ⟨rfl, hb3⟩
      have hY3 : Below Y.heap.size Y w3 := HY2.out.trans (hb3.mono HY2.out.size)
      have s5 : Blk w3 c 80 [.pointer (some ⟨d.g, 0, none⟩), .int .i64 lim, .slice d.A M d.cs, .map (some d.mN), .map (some d.mE)] ∧ Blk w3 w.heap.size 70 [.slice A n ca, .bool f] := ⟨s4.1.below hb3 s4.1.lt, s4.2.below hb3 s4.2.lt⟩
      have HY3 := Lib.hid hY3
      refine hK _ _ (fun _ => s5) ?_
      clear hK K hY3 hb3 s4
      (try simp only [Act.put]); (try simp only [List.setIfInBounds_toArray]); (try simp only [List.set])
      refine wpAnyN_runL 18 (by kernel_rfl) rfl (by kernel_rfl) (fun K hK => ?_)
      go_simp
      refine hK _ _ (fun _ => s5) ?_
      clear hK K
      (try simp only [Act.put]); (try simp only [List.setIfInBounds_toArray]); (try simp only [List.set])
      refine wpAnyN_runL 19 (by kernel_rfl) rfl (by kernel_rfl) (fun K hK => ?_)
      go_simp
      obtain ⟨Z, hZ⟩ : ∃ Z, Z = w3.alloc (.cells #[.slice A n ca, .bool f, .bool hh, .bool ll] 129) := ⟨_, rfl⟩
      rw [← hZ]
      obtain ⟨nd, hnd⟩ : ∃ nd : KeptD, nd = ⟨⟨st, f, hh, ll⟩, A, ca⟩ := ⟨_, rfl⟩
      have hcell : nd.cells = [.slice A n ca, .bool f, .bool hh, .bool ll] := by rw [hnd]; show [Value.slice A st.length ca, _, _, _] = _; rw [Hn.out]
      have b3Z : Below w3.heap.size w3 Z := by rw [hZ]; exact (Below.refl _ _).alloc (Nat.le_refl _) _
      have s6 : Blk Z c 80 [.pointer (some ⟨d.g, 0, none⟩), .int .i64 lim, .slice d.A M d.cs, .map (some d.mN), .map (some d.mE)] ∧ Blk Z w.heap.size 70 [.slice A n ca, .bool f] := ⟨s5.1.below b3Z s5.1.lt, s5.2.below b3Z s5.2.lt⟩
      have hYZ : Below Y.heap.size Y Z := HY3.out.trans (b3Z.mono HY3.out.size)
      have xrow : Row Z (w3.heap.size + 1) 4 (some ⟨w3.heap.size, 0, none⟩) 1 nd.cells := by
        rw [hZ]; have h := row_newN w3 129 4 1 nd.cells (by rw [hcell]; rfl); rw [hcell] at h ⊢; exact h
      have oZ := own_below CY.out.own hYZ
      rw [HM.out] at oZ
      have hlowZ : B0 ≤ Z.heap.size := Nat.le_trans (Nat.le_trans CY.out.low.2.2.2 HY3.out.size) b3Z.size
      have hone : ∀ u ∈ nd.cells, u.oneCell' = true := by have := kept_one [nd]; simpa using this
      clear hZ b3Z s5 hcell
      refine hK _ _ (fun _ => s6) ?_
      clear hK K
      (try simp only [Act.put]); (try simp only [List.setIfInBounds_toArray]); (try simp only [List.set])
      refine wpAnyN_runL 20 (by kernel_rfl) rfl (by kernel_rfl) (fun K hK => ?_)
      refine wp_app Z keptE rfl rfl oZ rfl xrow hone (by omega) hlowZ ?_
      intro v W q hg6 hb6 hv6
      have hty := own_typed oZ
      have nB : ∀ k cs t', Blk Z k t' cs → t' ≠ 129 → some k ≠ (Value.slice d.A M d.cs).ownBlock := fun k cs t' hk ht e => by
        obtain ⟨cs', t2, z, h1, h2⟩ := hty k e.symm
        unfold Blk at hk
        rw [hk] at h1
        cases h1
        exact ht h2
      have s7 : Blk W c 80 [.pointer (some ⟨d.g, 0, none⟩), .int .i64 lim, .slice d.A M d.cs, .map (some d.mN), .map (some d.mE)] ∧ Blk W w.heap.size 70 [.slice A n ca, .bool f] := ⟨s6.1.grown hg6 (nB _ _ _ s6.1 (by decide)), s6.2.grown hg6 (nB _ _ _ s6.2 (by decide))⟩
      obtain ⟨A2, m2, rfl, -⟩ := own_form q
      have butW : But (d.S c) w W := (But.of_below (WY.out.trans (hYZ.mono WY.out.size))).trans (.grown hg6 fun k hk => CacheD.S_own hk)
      have keepW : KeepM TC w W := (KeepM.of_below (WY.out.trans (hYZ.mono WY.out.size))).trans (.grown hg6 fun k hk cs t' z h => by
        obtain ⟨cs', t2, z', h1, h2⟩ := hty k hk
        rw [h] at h1
        cases h1
        rw [h2]; simp)
      have eds : (d.ds ++ [nd]).flatMap KeptD.cells = d.ds.flatMap KeptD.cells ++ nd.cells := by rw [List.flatMap_append]; simp
      rw [← eds] at q
      have Q := Lib.hid q; have BW := Lib.hid butW; have KW := Lib.hid keepW; have Hnd := Lib.hid hnd; have HYZ := Lib.hid hYZ
      have hv7 : (Value.slice A2 (M + 1) m2).ownBlock = (Value.slice d.A M d.cs).ownBlock ∨ (Value.slice A2 (M + 1) m2).ownBlock = some Z.heap.size := hv6
      have hsZ : w.heap.size ≤ Z.heap.size := (WY.out.trans (hYZ.mono WY.out.size)).size
      have HsZ := Lib.hid hsZ; have HV6 := Lib.hid hv7; have HG6 := Lib.hid hg6; have HOZ := Lib.hid oZ
      clear q butW keepW hnd hYZ hsZ hv7 hv6 hg6 hb6 oZ eds nB hty xrow hone s6 hlowZ
      refine hK _ _ (fun _ => s7) ?_
      clear hK K
      (try simp only [Act.put]); (try simp only [List.setIfInBounds_toArray]); (try simp only [List.set])
      refine wpAnyN_runL 21 (by kernel_rfl) rfl (by kernel_rfl) (fun K hK => ?_)
      go_simp
      refine hK _ _ (fun _ => s7) ?_
      clear hK K
      (try simp only [Act.put]); (try simp only [List.setIfInBounds_toArray]); (try simp only [List.set])
      refine wpAnyN_runL 22 (by kernel_rfl) rfl (by kernel_rfl) (fun K hK => ?_)
      go_simp
      refine hK _ _ (fun _ => s7) ?_
      clear hK K
      (try simp only [Act.put]); (try simp only [List.setIfInBounds_toArray]); (try simp only [List.set])
      have cb : W.cell? ⟨c, 2, none⟩ = some (.slice d.A M d.cs) := s7.1.cell 2
      have fb := s7.1.frozen 2
      refine wpAnyN_runL 23 (by kernel_rfl) rfl (by kernel_rfl) (fun K hK => ?_)
      go_simp
      refine hK _ _ (fun h => absurd rfl h) ?_
      clear hK K cb fb
      (try simp only [Act.put])
      refine wpAnyN_done (by kernel_rfl) ?_ _
      obtain ⟨V, hV⟩ : ∃ V, V = W.setCell ⟨c, 2, none⟩ (.slice A2 (M + 1) m2) := ⟨_, rfl⟩
      rw [← hV]
      have hcm : c ∈ d.S c := by simp [CacheD.S]
      have s8 : Blk V c 80 [.pointer (some ⟨d.g, 0, none⟩), .int .i64 lim, .slice A2 (M + 1) m2, .map (some d.mN), .map (some d.mE)] ∧ Blk V w.heap.size 70 [.slice A n ca, .bool f] := by
        rw [hV]
        refine ⟨s7.1.set_ 2 _, s7.2.far (fun e => ?_) _⟩
        have := Hc.out.blk.lt
        have e : w.heap.size = c := e
        omega
      have bWV : But [c] W V := by rw [hV]; exact (But.refl _ _).setCell (by simp) _
      have oV := own_but Q.out bWV (fun k hk hm => by
        simp only [List.mem_singleton] at hm
        subst hm
        exact own_blk Q.out s7.1 (by decide) (by rw [hk]; simp))
      have butV : But (d.S c) w V := BW.out.trans (bWV.mono (by simpa using hcm))
      have keepV : KeepM TC w V := by rw [hV]; exact KW.out.setCell (p := ⟨c, 2, none⟩) s7.1 (by decide) _
      have lowV : Below B0 w V := butV.below hlow fun k hk => (Hc.out.mem k hk).1
      have rowV : RowT V 3 A n (st.map iv) := Hr0.out.keepM keepV (by decide)
      have mp : ∀ (m : Nat), (∃ es ck, w.heap[m]? = some (.map es ck)) → m ≠ c → V.heap[m]? = w.heap[m]? := by
        intro m hm hne
        obtain ⟨es, ck, hm⟩ := hm
        have hml := (Array.getElem?_eq_some_iff.1 hm).1
        have h1 := (WY.out.trans (HYZ.out.mono WY.out.size)).block m hml
        have h2 : W.heap[m]? = Z.heap[m]? := HG6.out.block m (by have := (WY.out.trans (HYZ.out.mono WY.out.size)).size; omega) fun e => by
          obtain ⟨cs', t2, z', h3, h4⟩ := own_typed HOZ.out m e.symm
          rw [h1, hm] at h3
          cases h3
        rw [bWV.block m (by rw [h1, hm] at h2; exact (Array.getElem?_eq_some_iff.1 h2).1) (by simpa using hne), h2, h1]
      obtain ⟨esN, ckN, hmN, -⟩ := id Hc.out.mapN
      obtain ⟨esE, ckE, hmE, -⟩ := id Hc.out.mapE
      have hcb := Hc.out.blk
      unfold Blk at hcb
      have neN : d.mN ≠ c := fun e => by rw [e, hcb] at hmN; cases hmN
      have neE : d.mE ≠ c := fun e => by rw [e, hcb] at hmE; cases hmE
      have mapNV := Hc.out.mapN.of_block (mp d.mN ⟨esN, ckN, hmN⟩ neN)
      have mapEV := Hc.out.mapE.of_block (mp d.mE ⟨esE, ckE, hmE⟩ neE)
      have hV2 := lowV.size
      have hnmV := vDName f st A n ca Hn.out (fun p hp => by have := Hst.out p hp; omega) hnl V.drew (rowV.below (Below.refl _ _).drew) (TabW.mono (HT0.out.on lowV.drew) (by show B0 ≤ V.heap.size; omega))
      have s9 : Blk V.drew c 80 [.pointer (some ⟨d.g, 0, none⟩), .int .i64 lim, .slice A2 (M + 1) m2, .map (some d.mN), .map (some d.mE)] ∧ Blk V.drew w.heap.size 70 [.slice A n ca, .bool f] := ⟨s8.1.drew, s8.2.drew⟩
      have HNV := Lib.hid hnmV; have OV := Lib.hid oV; have ButV := Lib.hid butV; have KeepV := Lib.hid keepV; have MapNV := Lib.hid mapNV; have MapEV := Lib.hid mapEV; have NeN := Lib.hid neN; have NeE := Lib.hid neE; have HV2 := Lib.hid hV2
      clear hnmV oV butV keepV mapNV mapEV neN neE mp hcb hmN hmE rowV lowV bWV s7 s8 hV HYZ HG6 HOZ BW KW Q HM1 HM2 HMm HY2 HY3 hV2
      go_upto_region 7 with fail
      refine wp_region_N (fun w' => Blk w' c 80 [.pointer (some ⟨d.g, 0, none⟩), .int .i64 lim, .slice A2 (M + 1) m2, .map (some d.mN), .map (some d.mE)] ∧ Blk w' w.heap.size 70 [.slice A n ca, .bool f]) 12 (by kernel_rfl) ?_
      apply wpAnyN_takeL 0 (by kernel_rfl) rfl (fun _ _ _ h => h) (by kernel_rfl) s9
      · intro w' hS'
        go_simp; exact ⟨rfl, rfl⟩
      (try simp only [Act.put]); (try simp only [List.setIfInBounds_toArray]); (try simp only [List.set])
      apply wpAnyN_takeL 1 (by kernel_rfl) rfl (fun _ _ _ h => h) (by kernel_rfl) s9
      · intro w' hS'
        go_simp; exact ⟨rfl, rfl⟩
      (try simp only [Act.put]); (try simp only [List.setIfInBounds_toArray]); (try simp only [List.set])
      apply wpAnyN_takeL 2 (by kernel_rfl) rfl (fun _ _ _ h => h) (by kernel_rfl) s9
      · intro w' hS'
        go_simp; exact ⟨rfl, rfl⟩
      (try simp only [Act.put]); (try simp only [List.setIfInBounds_toArray]); (try simp only [List.set])
      apply wpAnyN_takeL 3 (v := (.map (some d.mN))) (by kernel_rfl) rfl (fun _ _ _ h => h) (by kernel_rfl) s9
      · intro w' hS'
        (have k3 := hS'.1.cell 3; go_simp; exact ⟨rfl, rfl⟩)
      (try simp only [Act.put]); (try simp only [List.setIfInBounds_toArray]); (try simp only [List.set])
      apply wpAnyN_takeL 4 (v := (.agg #[.slice A n ca, .bool f])) (by kernel_rfl) rfl (fun _ _ _ h => h) (by kernel_rfl) s9
      · intro w' hS'
        (have k0 := hS'.2.cell 0; have k1 := hS'.2.cell 1; go_simp; exact ⟨rfl, rfl⟩)
      (try simp only [Act.put]); (try simp only [List.setIfInBounds_toArray]); (try simp only [List.set])
      apply wpAnyN_takeL 6 (by kernel_rfl) rfl (fun _ _ _ h => h) (by kernel_rfl) s9
      · intro w' hS'
        go_simp; exact ⟨rfl, rfl⟩
      (try simp only [Act.put]); (try simp only [List.setIfInBounds_toArray]); (try simp only [List.set])
      apply wpAnyN_takeL 7 (by kernel_rfl) rfl (fun _ _ _ h => h) (by kernel_rfl) s9
      · intro w' hS'
        go_simp; exact ⟨rfl, rfl⟩
      (try simp only [Act.put]); (try simp only [List.setIfInBounds_toArray]); (try simp only [List.set])
      apply wpAnyN_takeL 8 (by kernel_rfl) rfl (fun _ _ _ h => h) (by kernel_rfl) s9
      · intro w' hS'
        go_simp; exact ⟨rfl, rfl⟩
      (try simp only [Act.put]); (try simp only [List.setIfInBounds_toArray]); (try simp only [List.set])
      apply wpAnyN_takeL 9 (v := (.slice A2 (M + 1) m2)) (by kernel_rfl) rfl (fun _ _ _ h => h) (by kernel_rfl) s9
      · intro w' hS'
        (have k3 := hS'.1.cell 2; go_simp; exact ⟨rfl, rfl⟩)
      (try simp only [Act.put]); (try simp only [List.setIfInBounds_toArray]); (try simp only [List.set])
      apply wpAnyN_takeL 10 (by kernel_rfl) rfl (fun _ _ _ h => h) (by kernel_rfl) s9
      · intro w' hS'
        go_simp; exact ⟨rfl, rfl⟩
      (try simp only [Act.put]); (try simp only [List.setIfInBounds_toArray]); (try simp only [List.set])
      apply wpAnyN_takeL 11 (by kernel_rfl) rfl (fun _ _ _ h => h) (by kernel_rfl) s9
      · intro w' hS'
        go_simp; exact ⟨rfl, rfl⟩
      (try simp only [Act.put]); (try simp only [List.setIfInBounds_toArray]); (try simp only [List.set])
      refine wpAnyN_runL 5 (by kernel_rfl) rfl (by kernel_rfl) (fun K hK => ?_)
      go_simp
      refine HNV.out.mono ?_
      rintro e w5 ⟨rfl, hb5⟩
      have s10 : Blk w5 c 80 [.pointer (some ⟨d.g, 0, none⟩), .int .i64 lim, .slice A2 (M + 1) m2, .map (some d.mN), .map (some d.mE)] ∧ Blk w5 w.heap.size 70 [.slice A n ca, .bool f] := ⟨s9.1.below hb5 s9.1.lt, s9.2.below hb5 s9.2.lt⟩
      have hV5 : Below V.heap.size V w5 := (Below.refl _ _).drew.trans hb5
      have HV5 := Lib.hid hV5
      refine hK _ _ (fun _ => s10) ?_
      clear hK K hV5 hb5 s9
      (try simp only [Act.put]); (try simp only [List.setIfInBounds_toArray]); (try simp only [List.set])
      obtain ⟨w6, n6, hrun, hm6, hn6, hg6, hs6⟩ := run_putF strK_law Tryz.underlying77 (MapNV.out.below HV5.out) (nameT f st) (.int .i64 (M : Nat))
      have hrun2 : (Instr.mapUpdate 77 (.map (some d.mN)) (.string ⟨(nameT f st).toArray⟩) (.int .i64 (M : Nat))).run Tryz.prog w5 = .ok () w6 := hrun
      have wM : IntKind.i64.wrap ((M : Int) + 1 - 1) = (M : Int) := by rw [IntKind.wrap_i64]; omega
      have wM2 : IntKind.i64.wrap (M : Int) = (M : Int) := by rw [IntKind.wrap_i64]; omega
      clear hrun
      refine wpAnyN_runL 12 (by kernel_rfl) rfl (by kernel_rfl) (fun K hK => ?_)
      go_simp
      refine hK _ _ (fun h => absurd rfl h) ?_
      clear hK K hrun2
      (try simp only [Act.put])
      refine wpAnyN_done (by kernel_rfl) ?_ _
      have neC : some c ≠ some d.mN := fun e => NeN.out (Option.some.inj e).symm
      have b6 := s10.1.grown hg6 neC
      have k2 : w6.cell? ⟨c, 2, none⟩ = some (.slice A2 (M + 1) m2) := b6.cell 2
      have hV5 := HV5.out
      have hlt5 : d.mN < w5.heap.size := (MapNV.out.below hV5).lt
      have but6 : But (d.S c) w w6 := (ButV.out.trans (.of_below hV5)).trans (.grown hg6 fun k hk => by
        injection hk with hk
        rw [← hk]; simp [CacheD.S])
      have keep6 : KeepM TC w w6 := (KeepV.out.trans (.of_below hV5)).trans (.grown hg6 fun k hk cs t' z h => by
        injection hk with hk
        obtain ⟨es, ck, hm, -⟩ := MapNV.out.below hV5
        rw [← hk, hm] at h
        cases h)
      have o6 := own_grown (own_below OV.out hV5) hg6 (by
        rcases hb : (Value.slice A2 (M + 1) m2).ownBlock with _ | k
        · exact .inl rfl
        · refine .inr fun e => ?_
          obtain ⟨cs', t2, z', h3, -⟩ := own_typed (own_below OV.out hV5) k hb
          obtain ⟨es, ck, hm, -⟩ := MapNV.out.below hV5
          injection e with e
          rw [e, hm] at h3
          cases h3)
      have e6 := MapEV.out.below hV5
      have e7 : MapF edgeK w6 d.mE d.nE d.ed := e6.of_block (hg6.block _ e6.lt fun e => Hc.out.ne (Option.some.inj e).symm)
      obtain ⟨Bp, Lp, hp⟩ := Hc.out.prog
      have hgc := Hc.out.gc.add (by rw [List.length_map, HM.out]; omega) st f Hst.out (by rw [Hn.out]; exact hnl)
      rw [Hhh.out, Hll.out, List.length_map, HM.out] at hgc
      have hmap : (d.ds ++ [nd]).map (·.p) = d.ds.map (·.p) ++ [⟨st, f, hh, ll⟩] := by rw [List.map_append, Hnd.out]; rfl
      rw [← hmap] at hgc
      have hlen : (d.ds ++ [nd]).length = M + 1 := by rw [List.length_append, HM.out]; rfl
      have hnp : nd.p.pcs = st ∧ nd.p.first = f ∧ nd.A = A ∧ nd.c = ca := by rw [Hnd.out]; exact ⟨rfl, rfl, rfl, rfl⟩
      have hci : CacheIs B0 w6 c t lim ⟨d.g, A2, m2, d.mN, d.mE, n6, d.nE, fun x => if x = nameT f st then some (.int .i64 (M : Nat)) else d.nm x, d.ed, d.ds ++ [nd]⟩ := ⟨by rw [hlen]; exact b6, ⟨Bp, Lp, hp.selfM keep6 (by decide) (by decide) (by decide)⟩, Hc.out.good, by rw [hlen]; exact o6, fun x hx => by
        rcases List.mem_append.1 hx with hx | hx
        · exact ⟨(Hc.out.rows x hx).1.keepM keep6 (by decide), (Hc.out.rows x hx).2⟩
        · rw [List.mem_singleton] at hx
          rw [hx, hnp.1, hnp.2.2.1, hnp.2.2.2, Hn.out]
          exact ⟨Hr0.out.keepM keep6 (by decide), hA⟩, hm6, e7, Hc.out.ne, hgc, Hc.out.few, Hc.out.low.1, Hc.out.low.2.1, Hc.out.low.2.2.1, Nat.le_trans hlow but6.size⟩
      have hst6 : CStep c w d w6 ⟨d.g, A2, m2, d.mN, d.mE, n6, d.nE, fun x => if x = nameT f st then some (.int .i64 (M : Nat)) else d.nm x, d.ed, d.ds ++ [nd]⟩ := ⟨but6, keep6, fun k hk => by
        unfold CacheD.S at hk
        rcases List.mem_cons.1 hk with rfl | hk
        · exact .inl (by simp [CacheD.S])
        rcases List.mem_cons.1 hk with rfl | hk
        · exact .inl (by simp [CacheD.S])
        rcases List.mem_cons.1 hk with rfl | hk
        · exact .inl (by simp [CacheD.S])
        dsimp only at hk
        cases A2 with
        | none => cases hk
        | some a =>
          rw [List.mem_singleton] at hk
          subst hk
          rcases HV6.out with h | h
          · exact .inl (CacheD.S_own (n := M) (by rw [← h]; simp [Value.ownBlock]))
          · refine .inr ?_
            have : a.block = Z.heap.size := by simpa [Value.ownBlock] using h
            rw [this]; exact HsZ.out, fun j x hx => get_app hx⟩
      have hkept : KeptAt ⟨d.g, A2, m2, d.mN, d.mE, n6, d.nE, fun x => if x = nameT f st then some (.int .i64 (M : Nat)) else d.nm x, d.ed, d.ds ++ [nd]⟩ (M : Int) f st := .inr ⟨M, nd, rfl, by rw [← HM.out]; simp, hnp.1, hnp.2.1⟩
      have HCi := Lib.hid hci; have HSt := Lib.hid hst6; have HKe := Lib.hid hkept
      clear hci hst6 hkept b6 hV5 but6 keep6 o6 e6 e7 hp hgc hmap hm6 hg6 hn6 hs6 s10
      go_wp2_with fail
      go_ret
      exact ⟨(M : Nat), rfl, _, HCi.out, HSt.out, HKe.out, fun _ => by rw [hlen]; omega⟩
end Go.Proofs.YtmcacicopgckmaaGreatDoor

