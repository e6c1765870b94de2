import Derived.Test.YtecejnilajbdpaaGreatDoorTt48
/-! tail: Offer -/
namespace Go.Proofs.YtecejnilajbdpaaGreatDoor
open Go.RowKit Go.Shelf Garner
/-- what Offer answers and leaves -/
def OfferO (B g : Nat) (q : QueryP) (ds : List RecD) (ov : Bool) (f : Nat) (V : Value) (r : RecP) (w : World) (e : Ending) (w' : World) : Prop :=
  ∃ b ds' ov' V', e = .returned (.bool b) ∧ TailIs B w' g q ds' ov' f V' ∧ But (tailS g V) w w' ∧ KeepM TT w w' ∧ (∀ k ∈ tailS g V', k ∈ tailS g V ∨ w.heap.size ≤ k) ∧
    (((ov = true ∨ holdsQ q r = false) ∧ b = false ∧ ds' = ds ∧ ov' = ov) ∨ (ov = false ∧ holdsQ q r = true ∧ ds.length = 8 ∧ b = false ∧ ds' = ds ∧ ov' = true) ∨ (ov = false ∧ holdsQ q r = true ∧ ds.length ≠ 8 ∧ b = true ∧ (∃ d : RecD, d.r = r ∧ ds' = ds ++ [d]) ∧ ov' = false))
section
variable {B g : Nat} {q : QueryP} {ds : List RecD} {ov : Bool} {f : Nat} {V : Value} {r : RecP} {w w' : World}
theorem offer_no (h : TailIs B w g q ds ov f V) (hb : Below w.heap.size w w') (hn : ov = true ∨ holdsQ q r = false) : OfferO B g q ds ov f V r w (.returned (.bool false)) w' :=
  ⟨false, ds, ov, V, rfl, h.below hb, .of_below hb, .of_below hb, fun _ hk => .inl hk, .inl ⟨hn, rfl, rfl, rfl⟩⟩
theorem offer_full (h : TailIs B w g q ds false f V) (hb : Below w.heap.size w w') (hh : holdsQ q r = true) (h8 : ds.length = 8) : OfferO B g q ds false f V r w (.returned (.bool false)) (w'.setCell ⟨g, 2, none⟩ (.bool true)) := by
  have h4 := h.below hb
  have k4 : KeepM [75] w' (w'.setCell ⟨g, 2, none⟩ (.bool true)) := KeepM.setCell (.refl _ w') (p := ⟨g, 2, none⟩) (show w'.heap[g]? = _ from h4.blk) (by simp) _
  have kk : KeepM TT w (w'.setCell ⟨g, 2, none⟩ (.bool true)) := (KeepM.of_below hb).trans (k4.sub (by simp))
  exact ⟨false, ds, true, V, rfl, ⟨h4.blk.set_ 2 (.bool true), h.fil.keepTT kk, k4.own h4.row (by decide), fun d hd => kk.own (h.lab d hd) (by decide), h.ms, h.fs, h.low⟩, (But.of_below hb).trans ((But.refl _ _).setCell (by simp [tailS]) _), kk, fun _ hk => .inl hk, .inr (.inl ⟨rfl, hh, h8, rfl, rfl, rfl⟩)⟩
theorem offer_app {Z W : World} {V' : Value} {d : RecD} (h : TailIs B w g q ds false f V) (hB : B ≤ w.heap.size) (hb : Below w.heap.size w Z) (hh : holdsQ q d.r = true) (h8 : ds.length ≠ 8) (hd : LabOwn w.heap.size Z d) (hg : Z.grownBy W V.ownBlock) (ho : W.ownsRow B 38 4 V' (ds.length + 1) (ds.flatMap RecD.cells ++ d.cells)) (hx : V'.ownBlock = V.ownBlock ∨ V'.ownBlock = some Z.heap.size) : OfferO B g q ds false f V d.r w (.returned (.bool true)) (W.setCell ⟨g, 1, none⟩ V') := by
  have h4 := h.below hb
  have k1 : KeepM TT Z W := .grownO h4.row (by simp) hg
  have n1 : some g ≠ V.ownBlock := fun e => own_blk h4.row h4.blk (by decide) (by rw [← e]; simp)
  have b1 := h4.blk.grown hg n1
  have k2 : KeepM [75] W (W.setCell ⟨g, 1, none⟩ V') := KeepM.setCell (.refl _ W) (p := ⟨g, 1, none⟩) (show W.heap[g]? = _ from b1) (by simp) _
  have k3 : KeepM TT Z (W.setCell ⟨g, 1, none⟩ V') := k1.trans (k2.sub (by simp))
  have kk : KeepM TT w (W.setCell ⟨g, 1, none⟩ V') := (KeepM.of_below hb).trans k3
  refine ⟨true, ds ++ [d], false, V', rfl, ⟨b1.set_ 1 V', h.fil.keepTT kk, ?_, fun x hx => ?_, h.ms, h.fs, h.low⟩, (But.of_below hb).trans ((But.grown hg fun k hk => by simp [tailS, hk]).setCell (by simp [tailS]) _), kk, fun k hk => ?_, .inr (.inr ⟨rfl, hh, h8, rfl, ⟨d, rfl, rfl⟩, rfl⟩)⟩
  · rw [List.flatMap_append, List.length_append]
    refine k2.own ?_ (by decide)
    simpa using ho
  · rcases List.mem_append.1 hx with hx | hx
    · exact kk.own (h.lab x hx) (by decide)
    · rw [List.mem_singleton] at hx
      subst hx
      exact own_mono (k3.own hd (by decide)) hB
  · rcases List.mem_cons.1 hk with rfl | hk
    · exact .inl (by simp [tailS])
    · rcases hx with hx | hx
      · rw [hx] at hk; exact .inl (by simp [tailS] at hk ⊢; exact .inr hk)
      · rw [hx] at hk
        have : k = Z.heap.size := by simpa using hk
        exact .inr (by rw [this]; exact hb.size)
end
set_option maxRecDepth 100000 in
set_option maxHeartbeats 32000000 in
theorem vOffer (r : RecP) (B g : Nat) (q : QueryP) (ds : List RecD) (ov : Bool) (f : Nat) (V : Value) (LA : Option Addr) (ln lc : Nat) (w : World) (h : TailIs B w g q ds ov f V) (hL : Lt w) (hB : B ≤ w.heap.size) (h8 : ds.length ≤ 8) (hr : Row w w.heap.size 2 LA ln (r.labels.flatMap labCells)) (hln : r.labels.length = ln) (hl2 : ln ≤ 1000000000000) (hline : r.line.length < 4294967281) :
    Calls Tryz.prog 14 #[.pointer (some ⟨g, 0, none⟩), .agg #[.int .i64 r.time, .int .u64 r.seq, .slice LA ln lc, strB r.line]] w fun e w' => OfferO B g q ds ov f V r w e w' := by
  obtain ⟨R, eR, hR⟩ := str_form r.line
  obtain ⟨tv, htv⟩ : ∃ tv, r.time = tv := ⟨_, rfl⟩
  obtain ⟨sv, hsv⟩ : ∃ sv, r.seq = sv := ⟨_, rfl⟩
  obtain ⟨X, hX⟩ : ∃ X, X = w.alloc (.cells #[.int .i64 tv, .int .u64 sv, .slice LA ln lc, .string R] 38) := ⟨_, rfl⟩
  have hwX : Below w.heap.size w X := by rw [hX]; exact (Below.refl _ _).alloc (Nat.le_refl _) _
  have bX : Blk X w.heap.size 38 [.int .i64 tv, .int .u64 sv, .slice LA ln lc, .string R] := by rw [hX]; exact Blk.new w _ _
  obtain ⟨A, c, rfl, -⟩ := own_form h.row
  have kT : Blk X g 75 [.pointer (some ⟨f, 0, none⟩), .slice A ds.length c, .bool ov] := h.blk.below hwX h.blk.lt
  have hno := fun (w' : World) (hb : Below w.heap.size w w') (hn : ov = true ∨ holdsQ q r = false) => @offer_no B g q ds ov f _ r w w' h hb hn
  have hH : Below X.heap.size X X.drew := (Below.refl _ _).drew
  have hwD := hwX.trans (hH.mono hwX.size)
  have hhold := vQHolds q r B f LA ln lc tv sv X.drew (hL.below hwD) (h.fil.below hwD) h.ms h.fs ((hr.below hwD).more hwD.size) hln (by omega) hline
  obtain ⟨HO, hHO⟩ : ∃ HO, holdsQ q r = HO := ⟨_, rfl⟩
  rw [hHO, eR] at hhold
  rw [hHO] at hno
  rw [eR, htv, hsv]
  obtain ⟨n, hn⟩ : ∃ n, ds.length = n := ⟨_, rfl⟩
  have g0 : ∀ w', Below X.heap.size X w' → w'.cell? ⟨g, 0, none⟩ = some (.pointer (some ⟨f, 0, none⟩)) := fun w' hb => (kT.below hb kT.lt).cell 0
  have g2 : ∀ w', Below X.heap.size X w' → w'.cell? ⟨g, 2, none⟩ = some (.bool ov) := fun w' hb => (kT.below hb kT.lt).cell 2
  have x0 : ∀ w', Below X.heap.size X w' → w'.cell? ⟨w.heap.size, 0, none⟩ = some (.int .i64 tv) := fun w' hb => (bX.below hb bX.lt).cell 0
  have x1 : ∀ w', Below X.heap.size X w' → w'.cell? ⟨w.heap.size, 1, none⟩ = some (.int .u64 sv) := fun w' hb => (bX.below hb bX.lt).cell 1
  have x2 : ∀ w', Below X.heap.size X w' → w'.cell? ⟨w.heap.size, 2, none⟩ = some (.slice LA ln lc) := fun w' hb => (bX.below hb bX.lt).cell 2
  have x3 : ∀ w', Below X.heap.size X w' → w'.cell? ⟨w.heap.size, 3, none⟩ = some (.string R) := fun w' hb => (bX.below hb bX.lt).cell 3
  rw [hn] at h kT hno ⊢ h8
  have HT := Lib.hid h; have HwX := Lib.hid hwX; have BX := Lib.hid bX; have KT := Lib.hid kT; have HNo := Lib.hid hno; have HHold := Lib.hid hhold; have HHO := Lib.hid hHO; have Hn := Lib.hid hn; have Hr := Lib.hid hr; have Hln := Lib.hid hln; have HR := Lib.hid hR; have Htv := Lib.hid htv; have Hsv := Lib.hid hsv; have HER := Lib.hid eR
  clear h hwX bX kT hno hhold hHO hn hr hln hR htv hsv hwD hL hline eR
  go_enter Tryz.func14, Tryz.ntmps14
  go_upto_region 1 with fail
  rw [← hX]
  clear hX
  refine wp_region_N (fun w' => Below X.heap.size X w') 100 (by kernel_rfl) ?_
  apply wpAnyN_takeL 0 (by kernel_rfl) rfl (fun _ _ _ h => h) (by kernel_rfl) hH
  · intro w' hS'
    go_simp; exact ⟨rfl, rfl⟩
  (try simp only [Act.put]); (try simp only [List.setIfInBounds_toArray]); (try simp only [List.set])
  apply wpAnyN_takeL 1 (by kernel_rfl) rfl (fun _ _ _ h => h) (by kernel_rfl) hH
  · intro w' hS'
    go_simp; exact ⟨rfl, rfl⟩
  (try simp only [Act.put]); (try simp only [List.setIfInBounds_toArray]); (try simp only [List.set])
  apply wpAnyN_takeL 2 (by kernel_rfl) rfl (fun _ _ _ h => h) (by kernel_rfl) hH
  · intro w' hS'
    go_simp; exact ⟨rfl, rfl⟩
  (try simp only [Act.put]); (try simp only [List.setIfInBounds_toArray]); (try simp only [List.set])
  apply wpAnyN_takeL 3 (by kernel_rfl) rfl (fun _ _ _ h => h) (by kernel_rfl) hH
  · intro w' hS'
    go_simp; exact ⟨rfl, rfl⟩
  (try simp only [Act.put]); (try simp only [List.setIfInBounds_toArray]); (try simp only [List.set])
  apply wpAnyN_takeL 4 (by kernel_rfl) rfl (fun _ _ _ h => h) (by kernel_rfl) hH
  · intro w' hS'
    go_simp; exact ⟨rfl, rfl⟩
  (try simp only [Act.put]); (try simp only [List.setIfInBounds_toArray]); (try simp only [List.set])
  apply wpAnyN_takeL 5 (by kernel_rfl) rfl (fun _ _ _ h => h) (by kernel_rfl) hH
  · intro w' hS'
    go_simp; exact ⟨rfl, rfl⟩
  (try simp only [Act.put]); (try simp only [List.setIfInBounds_toArray]); (try simp only [List.set])
  apply wpAnyN_takeL 6 (by kernel_rfl) rfl (fun _ _ _ h => h) (by kernel_rfl) hH
  · intro w' hS'
    go_simp; exact ⟨rfl, rfl⟩
  (try simp only [Act.put]); (try simp only [List.setIfInBounds_toArray]); (try simp only [List.set])
  cases ov with
  | true =>
    apply wpAnyN_takeL 7 (by kernel_rfl) rfl (fun _ _ _ h => h) (by kernel_rfl) hH
    · intro w' hS'
      go_simp; exact ⟨rfl, rfl⟩
    (try simp only [Act.put]); (try simp only [List.setIfInBounds_toArray]); (try simp only [List.set])
    apply wpAnyN_takeL 8 (by kernel_rfl) rfl (fun _ _ _ h => h) (by kernel_rfl) hH
    · intro w' hS'
      go_simp; exact ⟨rfl, rfl⟩
    (try simp only [Act.put]); (try simp only [List.setIfInBounds_toArray]); (try simp only [List.set])
    refine wpAnyN_skipL 9 (by kernel_rfl) rfl (fun _ _ _ h => h) (by kernel_rfl) hH ?_
    (try simp only [Act.put]); (try simp only [List.setIfInBounds_toArray]); (try simp only [List.set])
    refine wpAnyN_skipL 10 (by kernel_rfl) rfl (fun _ _ _ h => h) (by kernel_rfl) hH ?_
    (try simp only [Act.put]); (try simp only [List.setIfInBounds_toArray]); (try simp only [List.set])
    refine wpAnyN_skipL 11 (by kernel_rfl) rfl (fun _ _ _ h => h) (by kernel_rfl) hH ?_
    (try simp only [Act.put]); (try simp only [List.setIfInBounds_toArray]); (try simp only [List.set])
    refine wpAnyN_skipL 12 (by kernel_rfl) rfl (fun _ _ _ h => h) (by kernel_rfl) hH ?_
    (try simp only [Act.put]); (try simp only [List.setIfInBounds_toArray]); (try simp only [List.set])
    refine wpAnyN_skipL 13 (by kernel_rfl) rfl (fun _ _ _ h => h) (by kernel_rfl) hH ?_
    (try simp only [Act.put]); (try simp only [List.setIfInBounds_toArray]); (try simp only [List.set])
    refine wpAnyN_skipL 14 (by kernel_rfl) rfl (fun _ _ _ h => h) (by kernel_rfl) hH ?_
    (try simp only [Act.put]); (try simp only [List.setIfInBounds_toArray]); (try simp only [List.set])
    refine wpAnyN_skipL 15 (by kernel_rfl) rfl (fun _ _ _ h => h) (by kernel_rfl) hH ?_
    (try simp only [Act.put]); (try simp only [List.setIfInBounds_toArray]); (try simp only [List.set])
    apply wpAnyN_takeL 16 (by kernel_rfl) rfl (fun _ _ _ h => h) (by kernel_rfl) hH
    · intro w' hS'
      go_simp; exact ⟨rfl, rfl⟩
    (try simp only [Act.put]); (try simp only [List.setIfInBounds_toArray]); (try simp only [List.set])
    refine wpAnyN_done (by kernel_rfl) ?_ _
    go_wp2
    go_ret
    exact HNo.out _ (HwX.out.trans (hH.mono HwX.out.size)) (by simp)
  | false =>
    apply wpAnyN_takeL 7 (by kernel_rfl) rfl (fun _ _ _ h => h) (by kernel_rfl) hH
    · intro w' hS'
      go_simp; exact ⟨rfl, rfl⟩
    (try simp only [Act.put]); (try simp only [List.setIfInBounds_toArray]); (try simp only [List.set])
    apply wpAnyN_takeL 8 (by kernel_rfl) rfl (fun _ _ _ h => h) (by kernel_rfl) hH
    · intro w' hS'
      go_simp; exact ⟨rfl, rfl⟩
    (try simp only [Act.put]); (try simp only [List.setIfInBounds_toArray]); (try simp only [List.set])
    apply wpAnyN_takeL 9 (by kernel_rfl) rfl (fun _ _ _ h => h) (by kernel_rfl) hH
    · intro w' hS'
      go_simp; exact ⟨rfl, rfl⟩
    (try simp only [Act.put]); (try simp only [List.setIfInBounds_toArray]); (try simp only [List.set])
    apply wpAnyN_takeL 10 (by kernel_rfl) rfl (fun _ _ _ h => h) (by kernel_rfl) hH
    · intro w' hS'
      go_simp; exact ⟨rfl, rfl⟩
    (try simp only [Act.put]); (try simp only [List.setIfInBounds_toArray]); (try simp only [List.set])
    apply wpAnyN_takeL 11 (by kernel_rfl) rfl (fun _ _ _ h => h) (by kernel_rfl) hH
    · intro w' hS'
      go_simp; exact ⟨rfl, rfl⟩
    (try simp only [Act.put]); (try simp only [List.setIfInBounds_toArray]); (try simp only [List.set])
    apply wpAnyN_takeL 12 (by kernel_rfl) rfl (fun _ _ _ h => h) (by kernel_rfl) hH
    · intro w' hS'
      go_simp; exact ⟨rfl, rfl⟩
    (try simp only [Act.put]); (try simp only [List.setIfInBounds_toArray]); (try simp only [List.set])
    apply wpAnyN_takeL 13 (by kernel_rfl) rfl (fun _ _ _ h => h) (by kernel_rfl) hH
    · intro w' hS'
      go_simp; exact ⟨rfl, rfl⟩
    (try simp only [Act.put]); (try simp only [List.setIfInBounds_toArray]); (try simp only [List.set])
    refine wpAnyN_runL 14 (by kernel_rfl) rfl (by kernel_rfl) (fun K hK => ?_)
    go_simp
    refine HHold.out.mono ?_
    rintro e w1 ⟨rfl, hb1⟩
    have hX1 := hH.trans hb1
    refine hK _ _ (fun _ => hX1) ?_
    clear hK K hb1
    (try simp only [Act.put])
    apply wpAnyN_takeL 15 (by kernel_rfl) rfl (fun _ _ _ h => h) (by kernel_rfl) hX1
    · intro w' hS'
      go_simp; exact ⟨rfl, rfl⟩
    (try simp only [Act.put]); (try simp only [List.setIfInBounds_toArray]); (try simp only [List.set])
    apply wpAnyN_takeL 16 (by kernel_rfl) rfl (fun _ _ _ h => h) (by kernel_rfl) hX1
    · intro w' hS'
      go_simp; exact ⟨rfl, rfl⟩
    (try simp only [Act.put]); (try simp only [List.setIfInBounds_toArray]); (try simp only [List.set])
    refine wpAnyN_done (by kernel_rfl) ?_ _
    have hw1 := HwX.out.trans (hX1.mono HwX.out.size)
    cases HO with
    | false =>
      have HW := Lib.hid hw1
      clear hX1 hw1
      go_wp2
      go_ret
      exact HNo.out _ HW.out (by simp)
    | true =>
      have k1 := KT.out.below hX1 KT.out.lt
      have bx1 := BX.out.below hX1 BX.out.lt
      have y1 : w1.cell? ⟨g, 1, none⟩ = some (.slice A n c) := k1.cell 1
      have y2 : w1.cell? ⟨g, 2, none⟩ = some (.bool false) := k1.cell 2
      have f2 : w1.frozen? ⟨g, 2, none⟩ = false := k1.frozen 2
      by_cases hn8 : n = 8
      · subst hn8
        have hfull := offer_full (r := r) HT.out hw1 HHO.out Hn.out
        have HFull := Lib.hid hfull
        clear hfull hw1 hX1 k1 bx1
        go_wp2
        go_ret
        exact HFull.out
      · have z8 : ¬ (n : Int) = 8 := by omega
        have z9 : ((n : Int) == 8) = false := beq_eq_false_iff_ne.2 z8
        have xl : w1.cell? ⟨w.heap.size, 2, none⟩ = some (.slice LA ln lc) := bx1.cell 2
        have hcl := vCloneLab ln _ LA lc _ w1 (Hr.out.below hw1) (lab_one _) hw1.size hl2
        have HCl := Lib.hid hcl; have HW1 := Lib.hid hw1; have K1 := Lib.hid k1; have BX1 := Lib.hid bx1; have HN8 := Lib.hid hn8
        clear hcl hw1 hX1 k1 bx1 y2 f2 g0 g2 x0 x1 x2 x3
        go_wp2_with fail
        refine HCl.out.mono ?_
        rintro e w2 ⟨v2, rfl, o2, b2⟩
        obtain ⟨A2, c2, rfl, -⟩ := own_form o2
        have bx2 := BX1.out.below b2 BX1.out.lt
        have xl2 : w2.cell? ⟨w.heap.size, 2, none⟩ = some (.slice LA ln lc) := bx2.cell 2
        have fl2 : w2.frozen? ⟨w.heap.size, 2, none⟩ = false := bx2.frozen 2
        obtain ⟨W3, hW3⟩ : ∃ W3, W3 = w2.setCell ⟨w.heap.size, 2, none⟩ (.slice A2 ln c2) := ⟨_, rfl⟩
        have hw2 := HW1.out.trans (b2.mono HW1.out.size)
        have hw3 : Below w.heap.size w W3 := by rw [hW3]; exact hw2.setCell (Nat.le_refl _) _
        have bx3 : Blk W3 w.heap.size 38 [.int .i64 tv, .int .u64 sv, .slice A2 ln c2, .string R] := by rw [hW3]; exact bx2.set_ 2 _
        have k3 := (HT.out.below hw3).blk
        have kr : KeepM [38] w2 W3 := by rw [hW3]; exact KeepM.setCell (.refl _ w2) (p := ⟨w.heap.size, 2, none⟩) (show w2.heap[w.heap.size]? = _ from bx2) (by simp) _
        have o3 := own_mono (kr.own o2 (by decide)) HW1.out.size
        have s0 : Blk W3.drew g 75 [.pointer (some ⟨f, 0, none⟩), .slice A n c, .bool false] ∧ Blk W3.drew w.heap.size 38 [.int .i64 tv, .int .u64 sv, .slice A2 ln c2, .string R] := ⟨k3.drew, bx3.drew⟩
        have HW3 := Lib.hid hw3; have O3 := Lib.hid o3; have HE3 := Lib.hid hW3
        clear o2 b2 bx2 hw2 bx3 k3 kr hw3 o3 HCl BX1 K1 HW1
        go_upto_region 7 with fail
        rw [← hW3]
        clear hW3 xl2 fl2 y1 xl
        refine wp_region_N (fun w' => Blk w' g 75 [.pointer (some ⟨f, 0, none⟩), .slice A n c, .bool false] ∧ Blk w' w.heap.size 38 [.int .i64 tv, .int .u64 sv, .slice A2 ln c2, .string R]) 10 (by kernel_rfl) ?_
        apply wpAnyN_takeL 0 (by kernel_rfl) rfl (fun _ _ _ h => h) (by kernel_rfl) s0
        · intro w' hS'
          go_simp; exact ⟨rfl, rfl⟩
        (try simp only [Act.put]); (try simp only [List.setIfInBounds_toArray]); (try simp only [List.set])
        apply wpAnyN_takeL 1 (by kernel_rfl) rfl (fun _ _ _ h => h) (by kernel_rfl) s0
        · intro w' hS'
          go_simp; exact ⟨rfl, rfl⟩
        (try simp only [Act.put]); (try simp only [List.setIfInBounds_toArray]); (try simp only [List.set])
        apply wpAnyN_takeL 2 (by kernel_rfl) rfl (fun _ _ _ h => h) (by kernel_rfl) s0
        · intro w' hS'
          go_simp; exact ⟨rfl, rfl⟩
        (try simp only [Act.put]); (try simp only [List.setIfInBounds_toArray]); (try simp only [List.set])
        apply wpAnyN_takeL 3 (by kernel_rfl) rfl (fun _ _ _ h => h) (by kernel_rfl) s0
        · intro w' hS'
          go_simp; exact ⟨rfl, rfl⟩
        (try simp only [Act.put]); (try simp only [List.setIfInBounds_toArray]); (try simp only [List.set])
        apply wpAnyN_takeL 4 (v := (.slice A n c)) (by kernel_rfl) rfl (fun _ _ _ h => h) (by kernel_rfl) s0
        · intro w' hS'
          (have k := hS'.1.cell 1; go_simp; exact ⟨rfl, rfl⟩)
        (try simp only [Act.put]); (try simp only [List.setIfInBounds_toArray]); (try simp only [List.set])
        apply wpAnyN_takeL 5 (v := (.agg #[.int .i64 tv, .int .u64 sv, .slice A2 ln c2, .string R])) (by kernel_rfl) rfl (fun _ _ _ h => h) (by kernel_rfl) s0
        · intro w' hS'
          (have k0 := hS'.2.cell 0; have k1 := hS'.2.cell 1; have k2 := hS'.2.cell 2; have k3 := hS'.2.cell 3; go_simp; exact ⟨rfl, rfl⟩)
        (try simp only [Act.put]); (try simp only [List.setIfInBounds_toArray]); (try simp only [List.set])
        refine wpAnyN_runL 6 (by kernel_rfl) rfl (by kernel_rfl) (fun K hK => ?_)
        go_simp
        obtain ⟨Z, hZ⟩ : ∃ Z, Z = (W3.alloc (.cells #[.int .i64 tv, .int .u64 sv, .slice A2 ln c2, .string R] 38)).drew := ⟨_, rfl⟩
        rw [← hZ]
        obtain ⟨d, hd⟩ : ∃ d : RecD, d = ⟨r, A2, c2⟩ := ⟨_, rfl⟩
        have hdc : d.cells = [.int .i64 tv, .int .u64 sv, .slice A2 ln c2, .string R] := by rw [hd]; show [Value.int .i64 r.time, Value.int .u64 r.seq, Value.slice A2 r.labels.length c2, strB r.line] = _; rw [Htv.out, Hsv.out, Hln.out, HER.out]
        have b3Z : Below W3.heap.size W3 Z := by rw [hZ]; exact ((Below.refl _ _).alloc (Nat.le_refl _) _).drew
        have s6 : Blk Z g 75 [.pointer (some ⟨f, 0, none⟩), .slice A n c, .bool false] ∧ Blk Z w.heap.size 38 [.int .i64 tv, .int .u64 sv, .slice A2 ln c2, .string R] := by rw [hZ]; exact ⟨(Blk.alloc (w := W3) s0.1 _).drew, (Blk.alloc (w := W3) s0.2 _).drew⟩
        have hwZ := HW3.out.trans (b3Z.mono HW3.out.size)
        have hTZ := HT.out.below hwZ
        have oZ := hTZ.row
        rw [Hn.out] at oZ
        have xrow : Row Z (W3.heap.size + 1) 4 (some ⟨W3.heap.size, 0, none⟩) 1 d.cells := by
          rw [hZ]; have h := row_newN W3 38 4 1 d.cells (by rw [hdc]; rfl); rw [hdc] at h ⊢; exact h
        have hone : ∀ u ∈ d.cells, u.oneCell' = true := by have := rec_one [d]; simpa using this
        have hlZ : B ≤ Z.heap.size := Nat.le_trans hB hwZ.size
        have hlab : LabOwn w.heap.size Z d := by
          have h := own_below O3.out b3Z
          rw [← Hln.out] at h
          unfold LabOwn
          rw [hd]; exact h
        have hdr : d.r = r := by rw [hd]
        have HwZ := Lib.hid hwZ; have HLab := Lib.hid hlab; have HDr := Lib.hid hdr
        clear hZ b3Z s0 hdc hd hwZ hTZ hlab hdr O3
        refine hK _ _ (fun _ => s6) ?_
        clear hK K
        (try simp only [Act.put]); (try simp only [List.setIfInBounds_toArray]); (try simp only [List.set])
        refine wpAnyN_runL 7 (by kernel_rfl) rfl (by kernel_rfl) (fun K hK => ?_)
        refine wp_app Z recE rfl rfl oZ rfl xrow hone (by omega) hlZ ?_
        intro v W own8 hg8 hb8 hx8
        obtain ⟨A8, c8, rfl, -⟩ := own_form own8
        have n1 : some g ≠ (Value.slice A n c).ownBlock := fun e => own_blk oZ s6.1 (by decide) (by rw [← e]; simp)
        have s8 : Blk W g 75 [.pointer (some ⟨f, 0, none⟩), .slice A n c, .bool false] := s6.1.grown hg8 n1
        have hfin := offer_app (d := d) HT.out hB HwZ.out (by rw [HDr.out]; exact HHO.out) (by rw [Hn.out]; exact HN8.out) HLab.out hg8 (by rw [Hn.out]; exact own8) hx8
        rw [HDr.out] at hfin
        have HFin := Lib.hid hfin
        have bx8 : Blk W w.heap.size 38 [.int .i64 tv, .int .u64 sv, .slice A2 ln c2, .string R] := s6.2.grown hg8 fun e => by
          have h1 := HT.out.row.lt _ e.symm
          omega
        have S8 : Blk W g 75 [.pointer (some ⟨f, 0, none⟩), .slice A n c, .bool false] ∧ Blk W w.heap.size 38 [.int .i64 tv, .int .u64 sv, .slice A2 ln c2, .string R] := ⟨s8, bx8⟩
        clear own8 hg8 hb8 hx8 n1 hfin oZ xrow hone hlZ s6 bx8
        refine hK _ _ (fun _ => S8) ?_
        clear hK K
        (try simp only [Act.put]); (try simp only [List.setIfInBounds_toArray]); (try simp only [List.set])
        refine wpAnyN_runL 8 (by kernel_rfl) rfl (by kernel_rfl) (fun K hK => ?_)
        go_simp
        refine hK _ _ (fun _ => S8) ?_
        clear hK K
        (try simp only [Act.put]); (try simp only [List.setIfInBounds_toArray]); (try simp only [List.set])
        refine wpAnyN_runL 9 (by kernel_rfl) rfl (by kernel_rfl) (fun K hK => ?_)
        go_simp
        refine hK _ _ (fun _ => S8) ?_
        clear hK K
        (try simp only [Act.put]); (try simp only [List.setIfInBounds_toArray]); (try simp only [List.set])
        have cb : W.cell? ⟨g, 1, none⟩ = some (.slice A n c) := s8.cell 1
        have fb := s8.frozen 1
        refine wpAnyN_runL 10 (by kernel_rfl) rfl (by kernel_rfl) (fun K hK => ?_)
        go_simp
        refine hK _ _ (fun h => absurd rfl h) ?_
        clear hK K
        (try simp only [Act.put])
        refine wpAnyN_done (by kernel_rfl) ?_ _
        go_wp2
        go_ret
        exact HFin.out
end Go.Proofs.YtecejnilajbdpaaGreatDoor

