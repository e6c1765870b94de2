import Derived.Test.YtecejnilajbdpaaGreatDoorTr52
/-! TailRooms: the walk -/
namespace Garner
open Go
noncomputable def hitsR (q : QueryP) (l : List RecP) : List RecP := l.flatMap (hitR q)
theorem hits_next {q : QueryP} {l : List RecP} {k : Nat} {r : RecP} (h : l[k]? = some r) : hitsR q (l.take (k + 1)) = hitsR q (l.take k) ++ hitR q r := by
  rw [List.take_add_one, h, hitsR, List.flatMap_append]
  simp [hitsR]
theorem take_min {α : Type} (l : List α) : l.take 8 = l.take (min 8 l.length) := by
  by_cases h : 8 ≤ l.length
  · rw [Nat.min_eq_left h]
  · rw [Nat.min_eq_right (by omega), List.take_of_length_le (by omega), List.take_of_length_le (Nat.le_refl _)]
theorem hits_mem {q : QueryP} {l : List RecP} {r : RecP} (h : r ∈ hitsR q l) : r ∈ l := by
  obtain ⟨x, hx, hr⟩ := List.mem_flatMap.1 h
  unfold hitR at hr
  split at hr
  · rw [List.mem_singleton] at hr; rw [hr]; exact hx
  · cases hr
theorem hits_len (q : QueryP) : ∀ l : List RecP, (hitsR q l).length ≤ l.length
  | [] => Nat.le_refl _
  | r :: l => by
    have h := hits_len q l
    have e : hitsR q (r :: l) = hitR q r ++ hitsR q l := rfl
    rw [e, List.length_append, List.length_cons]
    have h1 : (hitR q r).length ≤ 1 := by unfold hitR; split <;> simp
    omega
end Garner
namespace Go.Proofs.YtecejnilajbdpaaGreatDoor
open Go.RowKit Go.Shelf Garner
theorem FilAt.mono {B B' : Nat} {w : World} {g : Nat} {q : QueryP} (h : FilAt B w g q) (hB : B' ≤ B) : FilAt B' w g q := by
  obtain ⟨v1, v2, P, Q, pv, h1, h2⟩ := h
  exact ⟨v1, v2, P, Q, pv, ⟨h1.blk, own_mono h1.ms hB, own_mono h1.fs hB, own_mono h1.ps hB, own_mono h1.qs hB, h1.dis, h1.pat, Nat.le_trans hB h1.low⟩, h2⟩
theorem TailIs.mono {B B' : Nat} {w : World} {g f : Nat} {q : QueryP} {ds : List RecD} {ov : Bool} {V : Value} (h : TailIs B w g q ds ov f V) (hB : B' ≤ B) : TailIs B' w g q ds ov f V :=
  ⟨h.blk, h.fil.mono hB, own_mono h.row hB, fun d hd => own_mono (h.lab d hd) hB, h.ms, h.fs, Nat.le_trans hB h.low⟩
set_option maxRecDepth 100000 in
set_option maxHeartbeats 64000000 in
theorem wTailRooms (q : QueryP) (rs : List RecD) (MA FA A : Option Addr) (nm nf cm cf n c : Nat) (w : World) (hL : Lt w) (hq : QueryAt w MA nm FA nf q) (hnm : nm ≤ 140737488355328) (hnf : nf ≤ 140737488355328) (hr : RecsAt w A n rs) (hline : ∀ d ∈ rs, d.r.line.length < 4294967281) (hn : n ≤ 1048576) :
    Calls Tryz.prog 5 #[.agg #[.slice MA nm cm, .slice FA nf cf], .slice A n c] w fun e w' => e = .returned (.bool true) ∧ Below w.heap.size w w' := by
  obtain ⟨X, hX⟩ : ∃ X, X = w.alloc (.cells #[.slice MA nm cm, .slice FA nf cf] 25) := ⟨_, rfl⟩
  have hwX : Below w.heap.size w X := by rw [hX]; exact (Below.refl _ _).alloc (Nat.le_refl _) _
  have bX : Blk X w.heap.size 25 [.slice MA nm cm, .slice FA nf cf] := by rw [hX]; exact Blk.new w _ _
  have haw := awake28 X (hL.below hwX)
  have HQ := Lib.hid hq; have HwX := Lib.hid hwX; have BX := Lib.hid bX; have HAw := Lib.hid haw; have HL := Lib.hid hL; have HR := Lib.hid hr; have HLine := Lib.hid hline
  obtain ⟨CK, hCK⟩ : ∃ CK, checkQ q = CK := ⟨_, rfl⟩
  clear hq hwX bX haw hL hr hline
  go_enter Tryz.func5, Tryz.ntmps5
  go_upto_region 1 with fail
  rw [← hX]
  clear hX
  go_wp2_with fail
  refine HAw.out.mono ?_
  rintro e w1 ⟨rfl, hb1⟩
  have hw1 := HwX.out.trans (hb1.mono HwX.out.size)
  have bx1 := BX.out.below hb1 BX.out.lt
  have x0 : w1.cell? ⟨w.heap.size, 0, none⟩ = some (.slice MA nm cm) := bx1.cell 0
  have x1 : w1.cell? ⟨w.heap.size, 1, none⟩ = some (.slice FA nf cf) := bx1.cell 1
  have hn1 := vTNew q MA FA nm nf cm cf w1 (HL.out.below hw1) (HQ.out.below hw1) hnm hnf
  rw [hCK] at hn1
  have HN1 := Lib.hid hn1; have HW1 := Lib.hid hw1; have BX1 := Lib.hid bx1
  clear hn1 hw1 bx1 hb1 HAw BX
  go_wp2_with fail
  refine HN1.out.mono ?_
  rintro e w2 ⟨hb2, hc⟩
  have hw2 := HW1.out.trans (hb2.mono HW1.out.size)
  have bx2 := BX1.out.below hb2 BX1.out.lt
  have y0 : w2.cell? ⟨w.heap.size, 0, none⟩ = some (.slice MA nm cm) := bx2.cell 0
  have y1 : w2.cell? ⟨w.heap.size, 1, none⟩ = some (.slice FA nf cf) := bx2.cell 1
  have hn2 := vTNew q MA FA nm nf cm cf w2 (HL.out.below hw2) (HQ.out.below hw2) hnm hnf
  rw [hCK] at hn2
  have HN2 := Lib.hid hn2; have HW2 := Lib.hid hw2
  clear hn2 hw2 bx2 x0 x1 HN1 BX1
  by_cases h0 : CK = 0
  · subst h0
    obtain ⟨a, fa, rfl, hTa⟩ := hc.elim (fun h => h.2) (fun h => absurd rfl h.1)
    have HTa := Lib.hid (hTa.mono HW1.out.size)
    clear hc hTa hb2
    go_wp2_with fail
    refine HN2.out.mono ?_
    rintro e w3 ⟨hb3, hc⟩
    obtain ⟨b, fb, rfl, hTb⟩ := hc.elim (fun h => h.2) (fun h => absurd rfl h.1)
    have H0 : Hid (RoomS w w3 q a fa b fb (.slice none 0 0) (.slice none 0 0) (.slice none 0 0) [] [] [] (hitsR q ((rs.map RecD.r).take 0)) (hitsR q ((rs.map RecD.r).take 0))) := Lib.hid ⟨HTa.out.below hb3, hTb.mono HW2.out.size, World.ownsRow_nil _ _ _ _, (by simp), rfl, rfl, (fun k h1 h2 => by
      have e1 : k = a := by simpa [tailS, Value.ownBlock] using h1
      have e2 : k = b := by simpa [tailS, Value.ownBlock] using h2
      have l1 := HTa.out.blk.lt
      have l2 := hTb.low
      omega), (fun k h => by cases h), HW2.out.trans (hb3.mono HW2.out.size)⟩
    clear hc hTb hb3 y0 y1 HN2 HTa HW1 HW2
    go_wp2_with fail
    go_loopw [9, 10] (fun v i wr => ∃ (k : Nat) (VA VB : Value) (db dg : List RecD), k ≤ n ∧ i = .int .i64 k ∧ Hid (RoomS w wr q a fa b fb VA VB v [] db dg (hitsR q ((rs.map RecD.r).take k)) (hitsR q ((rs.map RecD.r).take k)))) (fun _ i _ => n - (intOf i).toNat)
    case atStart => exact ⟨0, _, _, _, _, Nat.zero_le _, rfl, H0⟩
    case round =>
      obtain ⟨k, VA, VB, db, dg, hk, rfl, HS⟩ := hrel
      obtain ⟨wo, rfl⟩ : ∃ wo : World, wo = wr := ⟨_, rfl⟩
      have wk1 : IntKind.i64.wrap ((k : Int) + 1) = ((k + 1 : Nat) : Int) := by rw [IntKind.wrap_i64]; omega
      by_cases hlt : k < n
      · have z1 : (k : Int) < (n : Int) := by omega
        obtain ⟨lg, hlg⟩ : ∃ lg, dg.length = lg := ⟨_, rfl⟩
        have hog := HS.out.og
        rw [hlg] at hog
        obtain ⟨GA, gc, rfl, -⟩ := own_form hog
        have hlgn : lg ≤ 1048576 := by
          have h := congrArg List.length HS.out.sg
          rw [List.length_map, hlg] at h
          have h2 := hits_len q ((rs.map RecD.r).take k)
          rw [List.length_take] at h2
          omega
        have Hlg := Lib.hid hlg; have Hlgn := Lib.hid hlgn
        clear hlg hog hlgn
        obtain ⟨x, hx⟩ : ∃ x, rs[k]? = some x := ⟨_, List.getElem?_eq_getElem (by rw [HR.out.len]; exact hlt)⟩
        have hxm := List.mem_of_getElem? hx
        have hnx : ∀ l : List RecP, l = rs.map RecD.r → hitsR q (l.take (k + 1)) = hitsR q (l.take k) ++ hitR q x.r := fun l e => hits_next (by rw [e, List.getElem?_map, hx]; rfl)
        have hnx := hnx _ rfl
        obtain ⟨ab, ao, rfl, hc⟩ := rec_cells HR.out.row hx hlt
        have hlab := HR.out.lab x hxm
        have hfew := HR.out.few x hxm
        have hli := HLine.out x hxm
        have hof := vOffer x.r w.heap.size a q [] false fa VA x.A x.r.labels.length x.c wo HS.out.ta (HL.out.below HS.out.low) HS.out.low.size (by simp) ((hlab.below HS.out.low).more HS.out.low.size) rfl hfew hli
        have hofA := hof.mono fun e w' h => HS.out.offerA h
        obtain ⟨R, eR, -⟩ := str_form x.r.line
        obtain ⟨tv, htv⟩ : ∃ tv, x.r.time = tv := ⟨_, rfl⟩
        obtain ⟨sv, hsv⟩ : ∃ sv, x.r.seq = sv := ⟨_, rfl⟩
        obtain ⟨ln, hln⟩ : ∃ ln, x.r.labels.length = ln := ⟨_, rfl⟩
        obtain ⟨hh, hhh⟩ : ∃ hh, holdsQ q x.r = hh := ⟨_, rfl⟩
        rw [eR, htv, hsv, hln, hhh] at hofA
        rw [eR, htv, hsv, hln] at hc
        have p0 := (hc wo HS.out.low).1
        have p1 := (hc wo HS.out.low).2.1
        have p2 := (hc wo HS.out.low).2.2.1
        have p3 := (hc wo HS.out.low).2.2.2
        have HOA := Lib.hid hofA; have HC := Lib.hid hc; have HLab := Lib.hid hlab; have HFew := Lib.hid hfew; have HLi := Lib.hid hli; have HNx := Lib.hid hnx; have Hhh := Lib.hid hhh; have HeR := Lib.hid eR; have Htv := Lib.hid htv; have Hsv := Lib.hid hsv; have Hln := Lib.hid hln
        clear hof hofA hc hlab hfew hli hnx hhh eR htv hsv hln hx hxm HS
        go_wp2_with fail
        refine HOA.out.mono ?_
        rintro e w4 ⟨rfl, da, VA1, hda, hS1⟩
        have hdl : da.length = if hh = true then 1 else 0 := by
          have := congrArg List.length hda
          rw [List.length_map, hitR, Hhh.out] at this
          rw [this]
          cases hh <;> rfl
        have htk := vTTake 1 w.heap.size a q da false fa VA1 w4 hS1.ta hS1.low.size (by rw [hdl]; cases hh <;> decide)
        have htA := htk.mono fun e w' h => hS1.takeA (by rw [hdl]; cases hh <;> decide) h
        have HTA := Lib.hid htA; have Hda := Lib.hid hda
        clear htk htA hda hS1 HOA p0 p1 p2 p3
        go_wp2_with fail
        refine HTA.out.mono ?_
        rintro e w5 ⟨L, lc, VA2, rfl, hS2, hro⟩
        have hov := fun (w' : World) (hb : Below w5.heap.size w5 w') => vOver w.heap.size a q [] false fa VA2 w' (hS2.ta.below hb)
        have hwt := fun (w' : World) (hb : Below w5.heap.size w5 w') => vWaiting w.heap.size a q [] false fa VA2 w' (hS2.ta.below hb)
        have hT : Below w5.heap.size w5 w5.drew := (Below.refl _ _).drew
        have HOv := Lib.hid (hov _ hT); have HWt := Lib.hid (hwt _ hT); have HS2 := Lib.hid hS2; have HRo := Lib.hid hro
        clear hov hwt hS2 hro HTA
        cases hh with
        | false =>
          obtain rfl : da = [] := List.eq_nil_of_length_eq_zero hdl
          clear hdl
          go_upto_region 13 with fail
          refine wp_region_N (fun w' => Below w5.heap.size w5 w') 100 (by kernel_rfl) ?_
          apply wpAnyN_takeL 0 (by kernel_rfl) rfl (fun _ _ _ h => h) (by kernel_rfl) hT
          · intro w' hS'
            go_simp; exact ⟨rfl, rfl⟩
          (try simp only [Act.put]); (try simp only [List.setIfInBounds_toArray]); (try simp only [List.set])
          apply wpAnyN_takeL 1 (by kernel_rfl) rfl (fun _ _ _ h => h) (by kernel_rfl) hT
          · intro w' hS'
            go_simp; exact ⟨rfl, rfl⟩
          (try simp only [Act.put]); (try simp only [List.setIfInBounds_toArray]); (try simp only [List.set])
          apply wpAnyN_takeL 2 (by kernel_rfl) rfl (fun _ _ _ h => h) (by kernel_rfl) hT
          · intro w' hS'
            go_simp; exact ⟨rfl, rfl⟩
          (try simp only [Act.put]); (try simp only [List.setIfInBounds_toArray]); (try simp only [List.set])
          refine wpAnyN_runL 3 (by kernel_rfl) rfl (by kernel_rfl) (fun K hK => ?_)
          go_simp
          refine HOv.out.mono ?_
          rintro e w6 ⟨rfl, hw6⟩
          obtain rfl : w5.drew = w6 := hw6.symm
          refine hK _ _ (fun _ => hT) ?_
          clear hK K
          (try simp only [Act.put])
          apply wpAnyN_takeL 4 (by kernel_rfl) rfl (fun _ _ _ h => h) (by kernel_rfl) hT
          · intro w' hS'
            go_simp; exact ⟨rfl, rfl⟩
          (try simp only [Act.put]); (try simp only [List.setIfInBounds_toArray]); (try simp only [List.set])
          apply wpAnyN_takeL 5 (by kernel_rfl) rfl (fun _ _ _ h => h) (by kernel_rfl) hT
          · intro w' hS'
            go_simp; exact ⟨rfl, rfl⟩
          (try simp only [Act.put]); (try simp only [List.setIfInBounds_toArray]); (try simp only [List.set])
          apply wpAnyN_takeL 6 (by kernel_rfl) rfl (fun _ _ _ h => h) (by kernel_rfl) hT
          · intro w' hS'
            go_simp; exact ⟨rfl, rfl⟩
          (try simp only [Act.put]); (try simp only [List.setIfInBounds_toArray]); (try simp only [List.set])
          refine wpAnyN_runL 7 (by kernel_rfl) rfl (by kernel_rfl) (fun K hK => ?_)
          go_simp
          refine HWt.out.mono ?_
          rintro e w6 ⟨rfl, hw6⟩
          obtain rfl : w5.drew = w6 := hw6.symm
          refine hK _ _ (fun _ => hT) ?_
          clear hK K
          (try simp only [Act.put])
          apply wpAnyN_takeL 8 (by kernel_rfl) rfl (fun _ _ _ h => h) (by kernel_rfl) hT
          · intro w' hS'
            go_simp; exact ⟨rfl, rfl⟩
          (try simp only [Act.put]); (try simp only [List.setIfInBounds_toArray]); (try simp only [List.set])
          apply wpAnyN_takeL 9 (by kernel_rfl) rfl (fun _ _ _ h => h) (by kernel_rfl) hT
          · intro w' hS'
            go_simp; exact ⟨rfl, rfl⟩
          (try simp only [Act.put]); (try simp only [List.setIfInBounds_toArray]); (try simp only [List.set])
          apply wpAnyN_takeL 10 (by kernel_rfl) rfl (fun _ _ _ h => h) (by kernel_rfl) hT
          · intro w' hS'
            go_simp; exact ⟨rfl, rfl⟩
          (try simp only [Act.put]); (try simp only [List.setIfInBounds_toArray]); (try simp only [List.set])
          apply wpAnyN_takeL 11 (by kernel_rfl) rfl (fun _ _ _ h => h) (by kernel_rfl) hT
          · intro w' hS'
            go_simp; exact ⟨rfl, rfl⟩
          (try simp only [Act.put]); (try simp only [List.setIfInBounds_toArray]); (try simp only [List.set])
          apply wpAnyN_takeL 12 (by kernel_rfl) rfl (fun _ _ _ h => h) (by kernel_rfl) hT
          · intro w' hS'
            go_simp; exact ⟨rfl, rfl⟩
          (try simp only [Act.put]); (try simp only [List.setIfInBounds_toArray]); (try simp only [List.set])
          apply wpAnyN_takeL 13 (by kernel_rfl) rfl (fun _ _ _ h => h) (by kernel_rfl) hT
          · intro w' hS'
            go_simp; exact ⟨rfl, rfl⟩
          (try simp only [Act.put]); (try simp only [List.setIfInBounds_toArray]); (try simp only [List.set])
          apply wpAnyN_takeL 14 (by kernel_rfl) rfl (fun _ _ _ h => h) (by kernel_rfl) hT
          · intro w' hS'
            go_simp; exact ⟨rfl, rfl⟩
          (try simp only [Act.put]); (try simp only [List.setIfInBounds_toArray]); (try simp only [List.set])
          apply wpAnyN_takeL 15 (by kernel_rfl) rfl (fun _ _ _ h => h) (by kernel_rfl) hT
          · intro w' hS'
            go_simp; exact ⟨rfl, rfl⟩
          (try simp only [Act.put]); (try simp only [List.setIfInBounds_toArray]); (try simp only [List.set])
          apply wpAnyN_takeL 16 (by kernel_rfl) rfl (fun _ _ _ h => h) (by kernel_rfl) hT
          · intro w' hS'
            go_simp; exact ⟨rfl, rfl⟩
          (try simp only [Act.put]); (try simp only [List.setIfInBounds_toArray]); (try simp only [List.set])
          apply wpAnyN_takeL 17 (by kernel_rfl) rfl (fun _ _ _ h => h) (by kernel_rfl) hT
          · intro w' hS'
            go_simp; exact ⟨rfl, rfl⟩
          (try simp only [Act.put]); (try simp only [List.setIfInBounds_toArray]); (try simp only [List.set])
          apply wpAnyN_takeL 18 (by kernel_rfl) rfl (fun _ _ _ h => h) (by kernel_rfl) hT
          · intro w' hS'
            go_simp; exact ⟨rfl, rfl⟩
          (try simp only [Act.put]); (try simp only [List.setIfInBounds_toArray]); (try simp only [List.set])
          apply wpAnyN_takeL 19 (by kernel_rfl) rfl (fun _ _ _ h => h) (by kernel_rfl) hT
          · intro w' hS'
            go_simp; exact ⟨rfl, rfl⟩
          (try simp only [Act.put]); (try simp only [List.setIfInBounds_toArray]); (try simp only [List.set])
          refine wpAnyN_skipL 20 (by kernel_rfl) rfl (fun _ _ _ h => h) (by kernel_rfl) hT ?_
          (try simp only [Act.put]); (try simp only [List.setIfInBounds_toArray]); (try simp only [List.set])
          refine wpAnyN_skipL 21 (by kernel_rfl) rfl (fun _ _ _ h => h) (by kernel_rfl) hT ?_
          (try simp only [Act.put]); (try simp only [List.setIfInBounds_toArray]); (try simp only [List.set])
          refine wpAnyN_skipL 22 (by kernel_rfl) rfl (fun _ _ _ h => h) (by kernel_rfl) hT ?_
          (try simp only [Act.put]); (try simp only [List.setIfInBounds_toArray]); (try simp only [List.set])
          refine wpAnyN_skipL 23 (by kernel_rfl) rfl (fun _ _ _ h => h) (by kernel_rfl) hT ?_
          (try simp only [Act.put]); (try simp only [List.setIfInBounds_toArray]); (try simp only [List.set])
          refine wpAnyN_skipL 24 (by kernel_rfl) rfl (fun _ _ _ h => h) (by kernel_rfl) hT ?_
          (try simp only [Act.put]); (try simp only [List.setIfInBounds_toArray]); (try simp only [List.set])
          refine wpAnyN_skipL 25 (by kernel_rfl) rfl (fun _ _ _ h => h) (by kernel_rfl) hT ?_
          (try simp only [Act.put]); (try simp only [List.setIfInBounds_toArray]); (try simp only [List.set])
          refine wpAnyN_skipL 26 (by kernel_rfl) rfl (fun _ _ _ h => h) (by kernel_rfl) hT ?_
          (try simp only [Act.put]); (try simp only [List.setIfInBounds_toArray]); (try simp only [List.set])
          refine wpAnyN_skipL 27 (by kernel_rfl) rfl (fun _ _ _ h => h) (by kernel_rfl) hT ?_
          (try simp only [Act.put]); (try simp only [List.setIfInBounds_toArray]); (try simp only [List.set])
          refine wpAnyN_skipL 28 (by kernel_rfl) rfl (fun _ _ _ h => h) (by kernel_rfl) hT ?_
          (try simp only [Act.put]); (try simp only [List.setIfInBounds_toArray]); (try simp only [List.set])
          apply wpAnyN_takeL 29 (by kernel_rfl) rfl (fun _ _ _ h => h) (by kernel_rfl) hT
          · intro w' hS'
            go_simp; exact ⟨rfl, rfl⟩
          (try simp only [Act.put]); (try simp only [List.setIfInBounds_toArray]); (try simp only [List.set])
          apply wpAnyN_takeL 30 (by kernel_rfl) rfl (fun _ _ _ h => h) (by kernel_rfl) hT
          · intro w' hS'
            go_simp; exact ⟨rfl, rfl⟩
          (try simp only [Act.put]); (try simp only [List.setIfInBounds_toArray]); (try simp only [List.set])
          refine wpAnyN_done (by kernel_rfl) ?_ _
          have hS3 := HS2.out.below hT
          have hro1 := own_below HRo.out.1 hT
          have hro2 : ∀ y ∈ ([] : List RecD), LabOwn w.heap.size w5.drew y := fun y hy => own_below (HRo.out.2 y hy) hT
          have hog3 := hS3.og
          rw [Hlg.out] at hog3
          have hlm : Row w5.drew w5.drew.heap.size 4 L 0 (([] : List RecD).flatMap RecD.cells) := Row.of_own hro1
          have hlow3 := hS3.low.size
          have HS3 := Lib.hid hS3; have HRo1 := Lib.hid hro1; have HRo2 := Lib.hid hro2
          clear hS3 hro1 hro2 HRo HOv HWt
          go_wp2_with (at_builtin; refine wpList_app _ rfl recE rfl rfl hog3 rfl hlm (rec_one _) (by have := Hlgn.out; omega) hlow3 ?_; intro v8 w8 own8 hg8 hb8 hx8; obtain ⟨M, hM⟩ : ∃ M, lg + 0 = M := ⟨_, rfl⟩; have hS4 := HS3.out.appG (da := []) ⟨HRo1.out, HRo2.out⟩ hg8 (by rw [Hlg.out]; exact own8) hx8; rw [hM] at own8; obtain ⟨GA8, gc8, rfl, -⟩ := own_form own8; have HS4 := Lib.hid hS4; have r0 := (HC.out w8 hS4.low).1; have r1 := (HC.out w8 hS4.low).2.1; have r2 := (HC.out w8 hS4.low).2.2.1; have r3 := (HC.out w8 hS4.low).2.2.2; clear own8 hg8 hb8 hx8 hS4)
          have hofB := vOffer x.r w.heap.size b q db _ fb VB x.A x.r.labels.length x.c w8 HS4.out.tb (HL.out.below HS4.out.low) HS4.out.low.size (by rw [HS4.out.blen]; omega) ((HLab.out.below HS4.out.low).more HS4.out.low.size) rfl HFew.out HLi.out
          have hofB2 := hofB.mono fun e w' h => HS4.out.offerB h
          rw [HeR.out, Htv.out, Hsv.out, Hln.out] at hofB2
          have HOB := Lib.hid hofB2
          clear hofB hofB2 r0 r1 r2 r3
          refine HOB.out.mono ?_
          rintro e w9 ⟨⟨bb, rfl⟩, db', VB', h6⟩
          rw [Hda.out, ← HNx.out] at h6
          have hml : (hitsR q ((rs.map RecD.r).take (k + 1))).length = M := by
            have h := congrArg List.length h6.sg
            rw [List.length_map, List.length_append, Hlg.out] at h
            rw [← h]; exact hM
          have hbl : db'.length = min 8 M := by rw [h6.blen, hml]
          have hwb := vWaiting w.heap.size b q db' _ fb VB' w9 h6.tb
          have hob := vOver w.heap.size b q db' _ fb VB' w9 h6.tb
          rw [hml] at hob
          rw [hbl] at hwb
          have HS6 := Lib.hid h6
          clear h6 hml hbl HOB HS4 HS3 hM
          by_cases h9 : 8 < M
          · have hmn : min 8 M = 8 := by omega
            have hmi : min (8 : Int) (M : Int) = 8 := by omega
            have z9 : (8 : Int) < (M : Int) := by omega
            rw [hmn] at hwb
            rw [decide_eq_true h9] at hob
            have HWb := Lib.hid hwb; have HOb := Lib.hid hob
            clear hwb hob
            go_wp2_with fail
            refine HWb.out.mono ?_
            rintro e wz ⟨rfl, hwz⟩
            obtain rfl : w9 = wz := hwz.symm
            go_wp2_with fail
            refine HOb.out.mono ?_
            rintro e wz ⟨rfl, hwz⟩
            obtain rfl : w9 = wz := hwz.symm
            go_wp2
            go_roundw
            case rel => exact ⟨k + 1, _, _, _, _, by omega, by first | rfl | go_num, HS6⟩
            case measure => simp [intOf]; omega
          · have hmn : min 8 M = M := by omega
            have hmi : min (8 : Int) (M : Int) = (M : Int) := by omega
            have z9 : ¬ (8 : Int) < (M : Int) := by omega
            rw [hmn] at hwb
            rw [decide_eq_false h9] at hob
            have HWb := Lib.hid hwb; have HOb := Lib.hid hob
            clear hwb hob
            go_wp2_with fail
            refine HWb.out.mono ?_
            rintro e wz ⟨rfl, hwz⟩
            obtain rfl : w9 = wz := hwz.symm
            go_wp2_with fail
            refine HOb.out.mono ?_
            rintro e wz ⟨rfl, hwz⟩
            obtain rfl : w9 = wz := hwz.symm
            go_wp2
            go_roundw
            case rel => exact ⟨k + 1, _, _, _, _, by omega, by first | rfl | go_num, HS6⟩
            case measure => simp [intOf]; omega
        | true =>
          obtain ⟨d, rfl⟩ : ∃ d, da = [d] := List.length_eq_one_iff.1 hdl
          have hdr : d.r = x.r := by
            have h := Hda.out
            rw [hitR, Hhh.out] at h
            simpa using h
          clear hdl
          obtain ⟨lb, lo, rfl, hc⟩ := rec_cells (Row.of_own HRo.out.1) (k := 0) (d := d) rfl (by simp)
          have hsame := fun (w' : World) (hb : Below w5.heap.size w5 w') => vRSameEq x.r d.A x.A x.r.labels.length d.c x.c w' (by
            have h := (Row.of_own (HRo.out.2 d (by simp))).below hb
            rw [hdr] at h
            exact h.more hb.size) ((HLab.out.below (HS2.out.low.trans (hb.mono HS2.out.low.size))).more (HS2.out.low.trans (hb.mono HS2.out.low.size)).size) rfl HFew.out
          rw [hdr, HeR.out, Htv.out, Hsv.out, Hln.out] at hc
          rw [HeR.out, Htv.out, Hsv.out, Hln.out] at hsame
          have p0 := fun w' (h : Below w5.heap.size w5 w') => (HC.out w' (HS2.out.low.trans (h.mono HS2.out.low.size))).1
          have p1 := fun w' (h : Below w5.heap.size w5 w') => (HC.out w' (HS2.out.low.trans (h.mono HS2.out.low.size))).2.1
          have p2 := fun w' (h : Below w5.heap.size w5 w') => (HC.out w' (HS2.out.low.trans (h.mono HS2.out.low.size))).2.2.1
          have p3 := fun w' (h : Below w5.heap.size w5 w') => (HC.out w' (HS2.out.low.trans (h.mono HS2.out.low.size))).2.2.2
          rw [Nat.zero_mul, Nat.add_zero] at hc
          have m0 := fun w' (h : Below w5.heap.size w5 w') => (hc w' h).1
          have m1 := fun w' (h : Below w5.heap.size w5 w') => (hc w' h).2.1
          have m2 := fun w' (h : Below w5.heap.size w5 w') => (hc w' h).2.2.1
          have m3 := fun w' (h : Below w5.heap.size w5 w') => (hc w' h).2.2.2
          have HSame := Lib.hid (hsame _ hT); have Hdr := Lib.hid hdr
          clear hc hsame hdr
          go_upto_region 13 with fail
          refine wp_region_N (fun w' => Below w5.heap.size w5 w') 100 (by kernel_rfl) ?_
          apply wpAnyN_takeL 0 (by kernel_rfl) rfl (fun _ _ _ h => h) (by kernel_rfl) hT
          · intro w' hS'
            go_simp; exact ⟨rfl, rfl⟩
          (try simp only [Act.put]); (try simp only [List.setIfInBounds_toArray]); (try simp only [List.set])
          apply wpAnyN_takeL 1 (by kernel_rfl) rfl (fun _ _ _ h => h) (by kernel_rfl) hT
          · intro w' hS'
            go_simp; exact ⟨rfl, rfl⟩
          (try simp only [Act.put]); (try simp only [List.setIfInBounds_toArray]); (try simp only [List.set])
          apply wpAnyN_takeL 2 (by kernel_rfl) rfl (fun _ _ _ h => h) (by kernel_rfl) hT
          · intro w' hS'
            go_simp; exact ⟨rfl, rfl⟩
          (try simp only [Act.put]); (try simp only [List.setIfInBounds_toArray]); (try simp only [List.set])
          refine wpAnyN_runL 3 (by kernel_rfl) rfl (by kernel_rfl) (fun K hK => ?_)
          go_simp
          refine HOv.out.mono ?_
          rintro e w6 ⟨rfl, hw6⟩
          obtain rfl : w5.drew = w6 := hw6.symm
          refine hK _ _ (fun _ => hT) ?_
          clear hK K
          (try simp only [Act.put])
          apply wpAnyN_takeL 4 (by kernel_rfl) rfl (fun _ _ _ h => h) (by kernel_rfl) hT
          · intro w' hS'
            go_simp; exact ⟨rfl, rfl⟩
          (try simp only [Act.put]); (try simp only [List.setIfInBounds_toArray]); (try simp only [List.set])
          apply wpAnyN_takeL 5 (by kernel_rfl) rfl (fun _ _ _ h => h) (by kernel_rfl) hT
          · intro w' hS'
            go_simp; exact ⟨rfl, rfl⟩
          (try simp only [Act.put]); (try simp only [List.setIfInBounds_toArray]); (try simp only [List.set])
          apply wpAnyN_takeL 6 (by kernel_rfl) rfl (fun _ _ _ h => h) (by kernel_rfl) hT
          · intro w' hS'
            go_simp; exact ⟨rfl, rfl⟩
          (try simp only [Act.put]); (try simp only [List.setIfInBounds_toArray]); (try simp only [List.set])
          refine wpAnyN_runL 7 (by kernel_rfl) rfl (by kernel_rfl) (fun K hK => ?_)
          go_simp
          refine HWt.out.mono ?_
          rintro e w6 ⟨rfl, hw6⟩
          obtain rfl : w5.drew = w6 := hw6.symm
          refine hK _ _ (fun _ => hT) ?_
          clear hK K
          (try simp only [Act.put])
          apply wpAnyN_takeL 8 (by kernel_rfl) rfl (fun _ _ _ h => h) (by kernel_rfl) hT
          · intro w' hS'
            go_simp; exact ⟨rfl, rfl⟩
          (try simp only [Act.put]); (try simp only [List.setIfInBounds_toArray]); (try simp only [List.set])
          apply wpAnyN_takeL 9 (by kernel_rfl) rfl (fun _ _ _ h => h) (by kernel_rfl) hT
          · intro w' hS'
            go_simp; exact ⟨rfl, rfl⟩
          (try simp only [Act.put]); (try simp only [List.setIfInBounds_toArray]); (try simp only [List.set])
          apply wpAnyN_takeL 10 (by kernel_rfl) rfl (fun _ _ _ h => h) (by kernel_rfl) hT
          · intro w' hS'
            go_simp; exact ⟨rfl, rfl⟩
          (try simp only [Act.put]); (try simp only [List.setIfInBounds_toArray]); (try simp only [List.set])
          apply wpAnyN_takeL 11 (by kernel_rfl) rfl (fun _ _ _ h => h) (by kernel_rfl) hT
          · intro w' hS'
            go_simp; exact ⟨rfl, rfl⟩
          (try simp only [Act.put]); (try simp only [List.setIfInBounds_toArray]); (try simp only [List.set])
          apply wpAnyN_takeL 12 (by kernel_rfl) rfl (fun _ _ _ h => h) (by kernel_rfl) hT
          · intro w' hS'
            go_simp; exact ⟨rfl, rfl⟩
          (try simp only [Act.put]); (try simp only [List.setIfInBounds_toArray]); (try simp only [List.set])
          apply wpAnyN_takeL 13 (by kernel_rfl) rfl (fun _ _ _ h => h) (by kernel_rfl) hT
          · intro w' hS'
            go_simp; exact ⟨rfl, rfl⟩
          (try simp only [Act.put]); (try simp only [List.setIfInBounds_toArray]); (try simp only [List.set])
          apply wpAnyN_takeL 14 (by kernel_rfl) rfl (fun _ _ _ h => h) (by kernel_rfl) hT
          · intro w' hS'
            go_simp; exact ⟨rfl, rfl⟩
          (try simp only [Act.put]); (try simp only [List.setIfInBounds_toArray]); (try simp only [List.set])
          apply wpAnyN_takeL 15 (by kernel_rfl) rfl (fun _ _ _ h => h) (by kernel_rfl) hT
          · intro w' hS'
            go_simp; exact ⟨rfl, rfl⟩
          (try simp only [Act.put]); (try simp only [List.setIfInBounds_toArray]); (try simp only [List.set])
          apply wpAnyN_takeL 16 (by kernel_rfl) rfl (fun _ _ _ h => h) (by kernel_rfl) hT
          · intro w' hS'
            go_simp; exact ⟨rfl, rfl⟩
          (try simp only [Act.put]); (try simp only [List.setIfInBounds_toArray]); (try simp only [List.set])
          apply wpAnyN_takeL 17 (by kernel_rfl) rfl (fun _ _ _ h => h) (by kernel_rfl) hT
          · intro w' hS'
            go_simp; exact ⟨rfl, rfl⟩
          (try simp only [Act.put]); (try simp only [List.setIfInBounds_toArray]); (try simp only [List.set])
          apply wpAnyN_takeL 18 (by kernel_rfl) rfl (fun _ _ _ h => h) (by kernel_rfl) hT
          · intro w' hS'
            go_simp; exact ⟨rfl, rfl⟩
          (try simp only [Act.put]); (try simp only [List.setIfInBounds_toArray]); (try simp only [List.set])
          apply wpAnyN_takeL 19 (by kernel_rfl) rfl (fun _ _ _ h => h) (by kernel_rfl) hT
          · intro w' hS'
            go_simp; exact ⟨rfl, rfl⟩
          (try simp only [Act.put]); (try simp only [List.setIfInBounds_toArray]); (try simp only [List.set])
          apply wpAnyN_takeL 20 (by kernel_rfl) rfl (fun _ _ _ h => h) (by kernel_rfl) hT
          · intro w' hS'
            go_simp; exact ⟨rfl, rfl⟩
          (try simp only [Act.put]); (try simp only [List.setIfInBounds_toArray]); (try simp only [List.set])
          apply wpAnyN_takeL 21 (by kernel_rfl) rfl (fun _ _ _ h => h) (by kernel_rfl) hT
          · intro w' hS'
            go_simp; exact ⟨rfl, rfl⟩
          (try simp only [Act.put]); (try simp only [List.setIfInBounds_toArray]); (try simp only [List.set])
          apply wpAnyN_takeL 22 (by kernel_rfl) rfl (fun _ _ _ h => h) (by kernel_rfl) hT
          · intro w' hS'
            go_simp; exact ⟨rfl, rfl⟩
          (try simp only [Act.put]); (try simp only [List.setIfInBounds_toArray]); (try simp only [List.set])
          apply wpAnyN_takeL 23 (by kernel_rfl) rfl (fun _ _ _ h => h) (by kernel_rfl) hT
          · intro w' hS'
            go_simp; exact ⟨rfl, rfl⟩
          (try simp only [Act.put]); (try simp only [List.setIfInBounds_toArray]); (try simp only [List.set])
          apply wpAnyN_takeL 24 (by kernel_rfl) rfl (fun _ _ _ h => h) (by kernel_rfl) hT
          · intro w' hS'
            go_simp; exact ⟨rfl, rfl⟩
          (try simp only [Act.put]); (try simp only [List.setIfInBounds_toArray]); (try simp only [List.set])
          apply wpAnyN_takeL 25 (by kernel_rfl) rfl (fun _ _ _ h => h) (by kernel_rfl) hT
          · intro w' hS'
            go_simp; exact ⟨rfl, rfl⟩
          (try simp only [Act.put]); (try simp only [List.setIfInBounds_toArray]); (try simp only [List.set])
          apply wpAnyN_takeL 26 (by kernel_rfl) rfl (fun _ _ _ h => h) (by kernel_rfl) hT
          · intro w' hS'
            go_simp; exact ⟨rfl, rfl⟩
          (try simp only [Act.put]); (try simp only [List.setIfInBounds_toArray]); (try simp only [List.set])
          refine wpAnyN_runL 27 (by kernel_rfl) rfl (by kernel_rfl) (fun K hK => ?_)
          go_simp
          refine HSame.out.mono ?_
          rintro e w6 ⟨rfl, hb6⟩
          have h6 := hT.trans hb6
          refine hK _ _ (fun _ => h6) ?_
          clear hK K
          (try simp only [Act.put])
          apply wpAnyN_takeL 28 (by kernel_rfl) rfl (fun _ _ _ h => h) (by kernel_rfl) h6
          · intro w' hS'
            go_simp; exact ⟨rfl, rfl⟩
          (try simp only [Act.put]); (try simp only [List.setIfInBounds_toArray]); (try simp only [List.set])
          apply wpAnyN_takeL 29 (by kernel_rfl) rfl (fun _ _ _ h => h) (by kernel_rfl) h6
          · intro w' hS'
            go_simp; exact ⟨rfl, rfl⟩
          (try simp only [Act.put]); (try simp only [List.setIfInBounds_toArray]); (try simp only [List.set])
          apply wpAnyN_takeL 30 (by kernel_rfl) rfl (fun _ _ _ h => h) (by kernel_rfl) h6
          · intro w' hS'
            go_simp; exact ⟨rfl, rfl⟩
          (try simp only [Act.put]); (try simp only [List.setIfInBounds_toArray]); (try simp only [List.set])
          refine wpAnyN_done (by kernel_rfl) ?_ _
          have hS3 := HS2.out.below h6
          have hro1 := own_below HRo.out.1 h6
          have hro2 : ∀ y ∈ ([d] : List RecD), LabOwn w.heap.size w6 y := fun y hy => own_below (HRo.out.2 y hy) h6
          have hog3 := hS3.og
          rw [Hlg.out] at hog3
          have hlm : Row w6 w6.heap.size 4 (some ⟨lb, lo, none⟩) 1 (([d] : List RecD).flatMap RecD.cells) := Row.of_own hro1
          have hlow3 := hS3.low.size
          have HS3 := Lib.hid hS3; have HRo1 := Lib.hid hro1; have HRo2 := Lib.hid hro2
          clear hS3 hro1 hro2 HRo HOv HWt
          go_wp2_with (at_builtin; refine wpList_app _ rfl recE rfl rfl hog3 rfl hlm (rec_one _) (by have := Hlgn.out; omega) hlow3 ?_; intro v8 w8 own8 hg8 hb8 hx8; obtain ⟨M, hM⟩ : ∃ M, lg + 1 = M := ⟨_, rfl⟩; have hS4 := HS3.out.appG (da := [d]) ⟨HRo1.out, HRo2.out⟩ hg8 (by rw [Hlg.out]; exact own8) hx8; rw [hM] at own8; obtain ⟨GA8, gc8, rfl, -⟩ := own_form own8; have HS4 := Lib.hid hS4; have r0 := (HC.out w8 hS4.low).1; have r1 := (HC.out w8 hS4.low).2.1; have r2 := (HC.out w8 hS4.low).2.2.1; have r3 := (HC.out w8 hS4.low).2.2.2; clear own8 hg8 hb8 hx8 hS4)
          have hofB := vOffer x.r w.heap.size b q db _ fb VB x.A x.r.labels.length x.c w8 HS4.out.tb (HL.out.below HS4.out.low) HS4.out.low.size (by rw [HS4.out.blen]; omega) ((HLab.out.below HS4.out.low).more HS4.out.low.size) rfl HFew.out HLi.out
          have hofB2 := hofB.mono fun e w' h => HS4.out.offerB h
          rw [HeR.out, Htv.out, Hsv.out, Hln.out] at hofB2
          have HOB := Lib.hid hofB2
          clear hofB hofB2 r0 r1 r2 r3
          refine HOB.out.mono ?_
          rintro e w9 ⟨⟨bb, rfl⟩, db', VB', h6⟩
          rw [Hda.out, ← HNx.out] at h6
          have hml : (hitsR q ((rs.map RecD.r).take (k + 1))).length = M := by
            have h := congrArg List.length h6.sg
            rw [List.length_map, List.length_append, Hlg.out] at h
            rw [← h]; exact hM
          have hbl : db'.length = min 8 M := by rw [h6.blen, hml]
          have hwb := vWaiting w.heap.size b q db' _ fb VB' w9 h6.tb
          have hob := vOver w.heap.size b q db' _ fb VB' w9 h6.tb
          rw [hml] at hob
          rw [hbl] at hwb
          have HS6 := Lib.hid h6
          clear h6 hml hbl HOB HS4 HS3 hM
          by_cases h9 : 8 < M
          · have hmn : min 8 M = 8 := by omega
            have hmi : min (8 : Int) (M : Int) = 8 := by omega
            have z9 : (8 : Int) < (M : Int) := by omega
            rw [hmn] at hwb
            rw [decide_eq_true h9] at hob
            have HWb := Lib.hid hwb; have HOb := Lib.hid hob
            clear hwb hob
            go_wp2_with fail
            refine HWb.out.mono ?_
            rintro e wz ⟨rfl, hwz⟩
            obtain rfl : w9 = wz := hwz.symm
            go_wp2_with fail
            refine HOb.out.mono ?_
            rintro e wz ⟨rfl, hwz⟩
            obtain rfl : w9 = wz := hwz.symm
            go_wp2
            go_roundw
            case rel => exact ⟨k + 1, _, _, _, _, by omega, by first | rfl | go_num, HS6⟩
            case measure => simp [intOf]; omega
          · have hmn : min 8 M = M := by omega
            have hmi : min (8 : Int) (M : Int) = (M : Int) := by omega
            have z9 : ¬ (8 : Int) < (M : Int) := by omega
            rw [hmn] at hwb
            rw [decide_eq_false h9] at hob
            have HWb := Lib.hid hwb; have HOb := Lib.hid hob
            clear hwb hob
            go_wp2_with fail
            refine HWb.out.mono ?_
            rintro e wz ⟨rfl, hwz⟩
            obtain rfl : w9 = wz := hwz.symm
            go_wp2_with fail
            refine HOb.out.mono ?_
            rintro e wz ⟨rfl, hwz⟩
            obtain rfl : w9 = wz := hwz.symm
            go_wp2
            go_roundw
            case rel => exact ⟨k + 1, _, _, _, _, by omega, by first | rfl | go_num, HS6⟩
            case measure => simp [intOf]; omega
      · obtain rfl : k = n := by omega
        have z1 : ¬ (k : Int) < (k : Int) := by omega
        obtain ⟨lg, hlg⟩ : ∃ lg, dg.length = lg := ⟨_, rfl⟩
        have hhl : (hitsR q ((rs.map RecD.r).take k)).length = lg := by
          have h := congrArg List.length HS.out.sg
          rw [List.length_map, hlg] at h
          exact h.symm
        have hdb : db.length = min 8 lg := by rw [HS.out.blen, hhl]
        have hsame : db.map RecD.r = (dg.take (min 8 lg)).map RecD.r := by
          rw [HS.out.sb, List.map_take, HS.out.sg, ← hhl]
          exact take_min _
        have htk := vTTake 8 w.heap.size b q db _ fb VB wo HS.out.tb HS.out.low.size (by omega)
        rw [hhl] at htk
        have hK : takeN 8 db.length = db.length := by
          show min (Int.toNat 8) db.length = db.length
          rw [show Int.toNat 8 = 8 from rfl]; omega
        rw [hK] at htk
        have HTk := Lib.hid htk; have Hdb := Lib.hid hdb; have Hsame := Lib.hid hsame; have Hlg := Lib.hid hlg; have HSm := Lib.hid hn
        clear htk hdb hsame hhl hK
        go_wp2_with fail
        refine HTk.out.mono ?_
        rintro e w5 ⟨L, VB', rfl, oL, hT, hbu, hkk, -, -⟩
        have hbm : b ∈ tailS b VB := by simp [tailS]
        have og5 := own_but HS.out.og hbu fun j hj hj2 => (HS.out.ag j hj).2 (by rw [List.mem_singleton] at hj2; rw [hj2]; exact hbm)
        have lg5 : ∀ d ∈ dg, LabOwn w.heap.size w5 d := fun d hd => hkk.own (HS.out.lg d hd) (by decide)
        have lb5 : ∀ d ∈ db, LabOwn w.heap.size w5 d := fun d hd => hkk.own (HS.out.tb.lab d hd) (by decide)
        have low5 : Below w.heap.size w w5 := HS.out.low.trans (hbu.below HS.out.low.size fun j hj => by rw [List.mem_singleton] at hj; rw [hj]; exact HS.out.tb.low)
        rw [List.take_of_length_le (Nat.le_refl _)] at oL
        rw [Nat.sub_self, decide_eq_true rfl, Bool.and_true]
        have few : ∀ r : RecP, r ∈ hitsR q ((rs.map RecD.r).take k) → r.labels.length ≤ 1000000000000 := fun r hr => by
          obtain ⟨x, hx, rfl⟩ := List.mem_map.1 (List.mem_of_mem_take (hits_mem hr))
          exact HR.out.few x hx
        have fewB : ∀ d ∈ db, d.r.labels.length ≤ 1000000000000 := fun d hd => few d.r (by
          have h : d.r ∈ db.map RecD.r := List.mem_map.2 ⟨d, hd, rfl⟩
          rw [HS.out.sb] at h
          exact List.mem_of_mem_take h)
        have fewG : ∀ d ∈ dg, d.r.labels.length ≤ 1000000000000 := fun d hd => few d.r (by rw [← HS.out.sg]; exact List.mem_map.2 ⟨d, hd, rfl⟩)
        obtain ⟨m, hm⟩ : ∃ m, min 8 lg = m := ⟨_, rfl⟩
        have hdb := Hdb.out
        have hsm := Hsame.out
        rw [hm] at hdb hsm
        rw [hdb] at oL
        obtain ⟨LA2, lc2, rfl, -⟩ := own_form oL
        have rL : RecsAt w5 LA2 m db := ⟨Row.of_own oL, hdb, fun d hd => Row.of_own (lb5 d hd), fewB⟩
        rw [Hlg.out] at og5
        have hm2 : min (8 : Int) (lg : Int) = (m : Int) := by omega
        have hml : m ≤ lg := by omega
        have hgt : decide (8 < lg) = decide ((8 : Int) < (lg : Int)) := by by_cases h : 8 < lg <;> simp [h] <;> omega
        have HgT := Lib.hid hgt; have HLow := Lib.hid low5
        rcases og5.2 with ⟨hv, h0⟩ | ⟨gb, cap, cur, hv, -, -, hnc, -⟩
        · cases hv
          obtain rfl : m = 0 := by omega
          have hm3 : min (8 : Int) 0 = 0 := by omega
          have rG : RecsAt w5 none 0 (dg.take 0) := ⟨Row.none_, rfl, (by simp), (by simp)⟩
          have hsa := vRSameAll db (dg.take 0) LA2 none 0 lc2 0 w5 rL rG hsm (by omega)
          have HSa := Lib.hid hsa
          clear hsa rG rL hsm hdb few fewB fewG lb5 lg5 og5 oL hT hbu hkk low5 HTk HS hgt
          go_wp2_with fail
          refine HSa.out.mono ?_
          rintro e w6 ⟨rfl, hb6⟩
          have HW6 := Lib.hid (HLow.out.trans (hb6.mono HLow.out.size))
          clear hb6
          go_wp2
          go_ret
          exact ⟨rfl, HW6.out⟩
        · subst hv
          have rG : RecsAt w5 (some ⟨gb, 0, none⟩) m (dg.take m) := ⟨by
            have h := rec_sub (lo := 0) (k := m) (Row.of_own og5) Hlg.out (by omega)
            rw [List.drop_zero] at h
            exact h, by rw [List.length_take, Hlg.out]; omega, fun d hd => Row.of_own (lg5 d (List.mem_of_mem_take hd)), fun d hd => fewG d (List.mem_of_mem_take hd)⟩
          have hsa := vRSameAll db (dg.take m) LA2 (some ⟨gb, 0, none⟩) m lc2 cap w5 rL rG hsm (by omega)
          have HSa := Lib.hid hsa
          have hmc : m ≤ cap := by omega
          clear hsa rG rL hsm hdb few fewB fewG lb5 lg5 og5 oL hT hbu hkk low5 HTk HS hgt
          go_wp2_with fail
          refine HSa.out.mono ?_
          rintro e w6 ⟨rfl, hb6⟩
          have HW6 := Lib.hid (HLow.out.trans (hb6.mono HLow.out.size))
          clear hb6
          by_cases h9 : 8 < lg
          · have z9 : (8 : Int) < (lg : Int) := by omega
            rw [decide_eq_true h9]
            go_wp2
            go_ret
            exact ⟨rfl, HW6.out⟩
          · have z9 : ¬ (8 : Int) < (lg : Int) := by omega
            have zd : decide ((8 : Int) < (lg : Int)) = false := decide_eq_false z9
            rw [decide_eq_false h9]
            go_wp2
            go_ret
            exact ⟨rfl, HW6.out⟩
  · have z0 : ¬ (CK : Int) = 0 := by omega
    have H0 := Lib.hid h0
    obtain ⟨-, rfl⟩ := hc.resolve_left (fun h => h0 h.1)
    clear hc
    go_wp2_with fail
    refine HN2.out.mono ?_
    rintro e w3 ⟨hb3, hc⟩
    obtain ⟨-, rfl⟩ := hc.resolve_left (fun h => h0 h.1)
    have HW3 := Lib.hid (HW2.out.trans (hb3.mono HW2.out.size))
    clear hc hb3 h0
    go_wp2
    go_ret
    exact ⟨rfl, HW3.out⟩
end Go.Proofs.YtecejnilajbdpaaGreatDoor

