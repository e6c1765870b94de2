import Derived.Test.YtecejnilajbdpaaGreatDoorTs50
import Derived.Test.YtecejnilajbdpaaGreatDoorTs46
namespace Go.Proofs.YtecejnilajbdpaaGreatDoor
open Go.RowKit Go.Shelf Garner
abbrev TR : List TypeId := [50, 38]
structure RTail (B : Nat) (w : World) (g : Nat) (MV FV : Value) (ds : List RecD) (gone : Nat) (full : Bool) (V : Value) : Prop where
 blk : Blk w g 50 [MV, FV, V, .int .i64 gone, .bool full]
 row : w.ownsRow B 38 4 V ds.length (ds.flatMap RecD.cells)
 le : gone ≤ ds.length
 low : B ≤ g
section
variable {B : Nat} {w w' : World} {g : Nat} {MV FV V : Value} {ds : List RecD} {gone : Nat} {full : Bool}
theorem RTail.other {S : List Nat} {T : List TypeId} (h : RTail B w g MV FV ds gone full V) (hb : But S w w') (_hk : KeepM T w w') (hS : ∀ k ∈ tailS g V, k ∉ S) : RTail B w' g MV FV ds gone full V :=
 ⟨h.blk.but hb (hS _ (by simp [tailS])), own_but h.row hb fun k hk' => hS k (by simp [tailS, hk']), h.le, h.low⟩
theorem RTail.below (h : RTail B w g MV FV ds gone full V) (hb : Below w.heap.size w w') : RTail B w' g MV FV ds gone full V :=
 ⟨h.blk.below hb h.blk.lt, own_below h.row hb, h.le, h.low⟩
theorem RTail.lt (h : RTail B w g MV FV ds gone full V) : ∀ k ∈ tailS g V, B ≤ k ∧ k < w.heap.size := fun k hk => by
 rcases List.mem_cons.1 hk with rfl | hk
 ·exact ⟨h.low, h.blk.lt⟩
 ·exact h.row.lt k (Option.mem_toList.1 hk)
theorem RTail.mono {B' : Nat} (h : RTail B w g MV FV ds gone full V) (hB : B' ≤ B) : RTail B' w g MV FV ds gone full V := ⟨h.blk, own_mono h.row hB, h.le, Nat.le_trans hB h.low⟩
end
def RNewO (ck : Nat) (MV FV : Value) (w : World) (e : Ending) (w' : World) : Prop := Below w.heap.size w w' ∧ ((ck = 0 ∧ ∃ g, e = .returned (.tuple #[.pointer (some ⟨g, 0, none⟩), .int .i64 0]) ∧ RTail w.heap.size w' g MV FV [] 0 false (.slice none 0 0)) ∨ (ck ≠ 0 ∧ e = .returned (.tuple #[.pointer none, .int .i64 (ck : Nat)])))
set_option maxRecDepth 100000 in
set_option maxHeartbeats 8000000 in
theorem gTNew (q : QueryP) (MA FA : Option Addr) (nm nf cm cf : Nat) (w : World) (hq : QueryAt w MA nm FA nf q) (hsm : ∀ f ∈ partsQ q, f.text.length ≤ 1000000000000) (hnm : nm ≤ 140737488355328) (hnf : nf ≤ 140737488355328) :
  Calls Tryz.prog 13 #[.agg #[.slice MA nm cm, .slice FA nf cf]] w fun e w' => RNewO (checkQ q) (.slice MA nm cm) (.slice FA nf cf) w e w' := by
 obtain ⟨X, hX⟩ : ∃ X, X = w.alloc (.cells #[.slice MA nm cm, .slice FA nf cf] 25) := ⟨_, rfl⟩
 have hwX : Below w.heap.size w X := by rw [hX]; exact (Below.refl _ _).alloc (Nat.le_refl _) _
 have bX : Blk X w.heap.size 25 [.slice MA nm cm, .slice FA nf cf] := by rw [hX]; exact Blk.new w _ _
 have x0 : X.cell? ⟨w.heap.size, 0, none⟩ = some (.slice MA nm cm) := bX.cell 0
 have x1 : X.cell? ⟨w.heap.size, 1, none⟩ = some (.slice FA nf cf) := bX.cell 1
 have hn := gCheck q MA FA nm nf cm cf X (hq.below hwX) hsm hnm hnf
 obtain ⟨CK, hCK⟩ : ∃ CK, checkQ q = CK := ⟨_, rfl⟩
 rw [hCK] at hn ⊢
 have HwX := Lib.hid hwX; have HN := Lib.hid hn; have BX := Lib.hid bX
 clear hq hwX bX hn hCK hsm
 go_enter Tryz.func13, Tryz.ntmps13
 go_upto_region 1 with fail
 rw [← hX]
 clear hX
 go_wp2_with fail
 refine HN.out.mono ?_
 rintro e w1 ⟨rfl, hb1⟩
 by_cases h0 : CK = 0
 ·subst h0
  have k1 := BX.out.below hb1 BX.out.lt
  have y0 : w1.cell? ⟨w.heap.size, 0, none⟩ = some (.slice MA nm cm) := k1.cell 0
  have y1 : w1.cell? ⟨w.heap.size, 1, none⟩ = some (.slice FA nf cf) := k1.cell 1
  obtain ⟨Y, hY⟩ : ∃ Y, Y = w1.alloc (.cells #[.slice MA nm cm, .slice FA nf cf, .slice none 0 0, .int .i64 0, .bool false] 50) := ⟨_, rfl⟩
  have bY : Below w1.heap.size w1 Y := by rw [hY]; exact (Below.refl _ _).alloc (Nat.le_refl _) _
  have kY : Blk Y w1.heap.size 50 [.slice MA nm cm, .slice FA nf cf, .slice none 0 0, .int .i64 0, .bool false] := by rw [hY]; exact Blk.new w1 _ _
  have hw1 := HwX.out.trans (hb1.mono HwX.out.size)
  have hti : RTail w.heap.size Y w1.heap.size (.slice MA nm cm) (.slice FA nf cf) [] 0 false (.slice none 0 0) := ⟨kY, World.ownsRow_nil _ _ _ _, Nat.le_refl _, hw1.size⟩
  have HT := Lib.hid hti; have HW := Lib.hid (hw1.trans (bY.mono hw1.size))
  clear hti hw1 kY bY hb1 x0 x1 k1
  go_upto_region 4 with fail
  go_wp2
  rw [← hY]
  go_ret2
  exact ⟨HW.out, .inl ⟨rfl, _, rfl, HT.out⟩⟩
 ·have z0 : ¬ (CK : Int) = 0 := by omega
  have HW := Lib.hid (HwX.out.trans (hb1.mono HwX.out.size)); have H0 := Lib.hid h0
  clear hb1 h0
  go_wp2
  go_ret2
  exact ⟨HW.out, .inr ⟨H0.out, rfl⟩⟩
set_option maxRecDepth 100000 in
set_option maxHeartbeats 4000000 in
theorem gTWaiting {B g : Nat} {MV FV V : Value} {ds : List RecD} {gone : Nat} {full : Bool} {w : World} (h : RTail B w g MV FV ds gone full V) (hl : ds.length ≤ 1000000000) :
  Calls Tryz.prog 20 #[.pointer (some ⟨g, 0, none⟩)] w fun e w' => e = .returned (.int .i64 (ds.length - gone : Nat)) ∧ Below w.heap.size w w' := by
 have hrow := h.row
 have hle := h.le
 obtain ⟨n, hn⟩ : ∃ n, ds.length = n := ⟨_, rfl⟩
 rw [hn] at hrow hle hl ⊢
 obtain ⟨A, c, rfl, -⟩ := own_form hrow
 have c1 : ∀ w', Below w.heap.size w w' → w'.cell? ⟨g, 2, none⟩ = some (.slice A n c) := fun w' hb => (h.blk.below hb h.blk.lt).cell 2
 have c2 : ∀ w', Below w.heap.size w w' → w'.cell? ⟨g, 3, none⟩ = some (.int .i64 gone) := fun w' hb => (h.blk.below hb h.blk.lt).cell 3
 have hT : Below w.heap.size w w.drew := (Below.refl _ _).drew
 have k1 := c1 _ (Below.refl _ _)
 have k2 := c2 _ (Below.refl _ _)
 have z : (n : Int) - (gone : Int) = ((n - gone : Nat) : Int) := by omega
 have z2 : IntKind.i64.wrap ((n : Int) - (gone : Int)) = ((n - gone : Nat) : Int) := by rw [IntKind.wrap_i64]; omega
 obtain ⟨M, hM⟩ : ∃ M, n - gone = M := ⟨_, rfl⟩
 rw [hM] at z z2 ⊢
 have z3 : wrap64 (M : Int) = (M : Int) := by
  unfold wrap64
  omega
 clear h hn hrow hle hl hM c1 c2 hT
 go_enter Tryz.func20, Tryz.ntmps20
 go_upto_region 3 with fail
 go_quiet (fail)
 go_wp2
 go_ret
 exact ⟨by show Ending.returned (.int .i64 (wrap64 (M : Int))) = _; rw [z3], below_dn (Below.refl _ _) _⟩
def ROfferO (B g : Nat) (q : QueryP) (MV FV : Value) (ds : List RecD) (gone : Nat) (full : Bool) (V : Value) (x : RecD) (w : World) (e : Ending) (w' : World) : Prop :=
 ∃ b ds' full' V', e = .returned (.bool b) ∧ RTail B w' g MV FV ds' gone full' V' ∧ But (tailS g V) w w' ∧ KeepM TR w w' ∧ (∀ k ∈ tailS g V', k ∈ tailS g V ∨ w.heap.size ≤ k) ∧
  (((full = true ∨ holdsQ q x.r = false) ∧ b = false ∧ ds' = ds ∧ full' = full) ∨ (full = false ∧ holdsQ q x.r = true ∧ 8 ≤ ds.length - gone ∧ b = false ∧ ds' = ds ∧ full' = true) ∨ (full = false ∧ holdsQ q x.r = true ∧ ds.length - gone < 8 ∧ b = true ∧ ds' = ds ++ [x] ∧ full' = false))
section
variable {B g : Nat} {q : QueryP} {MV FV V : Value} {ds : List RecD} {gone : Nat} {full : Bool} {x : RecD} {w w' : World}
theorem roffer_no (h : RTail B w g MV FV ds gone full V) (hb : Below w.heap.size w w') (hn : full = true ∨ holdsQ q x.r = false) : ROfferO B g q MV FV ds gone full V x w (.returned (.bool false)) w' :=
 ⟨false, ds, full, V, rfl, h.below hb, .of_below hb, .of_below hb, fun _ hk => .inl hk, .inl ⟨hn, rfl, rfl, rfl⟩⟩
theorem roffer_full (h : RTail B w g MV FV ds gone false V) (hb : Below w.heap.size w w') (hh : holdsQ q x.r = true) (h8 : 8 ≤ ds.length - gone) : ROfferO B g q MV FV ds gone false V x w (.returned (.bool false)) (w'.setCell ⟨g, 4, none⟩ (.bool true)) := by
 have h4 := h.below hb
 have k4 : KeepM [50] w' (w'.setCell ⟨g, 4, none⟩ (.bool true)) := KeepM.setCell (.refl _ w') (p := ⟨g, 4, none⟩) (show w'.heap[g]? = _ from h4.blk) (by simp) _
 have kk : KeepM TR w (w'.setCell ⟨g, 4, none⟩ (.bool true)) := (KeepM.of_below hb).trans (k4.sub (by simp))
 exact ⟨false, ds, true, V, rfl, ⟨h4.blk.set_ 4 (.bool true), k4.own h4.row (by decide), h.le, h.low⟩, (But.of_below hb).trans ((But.refl _ _).setCell (by simp [tailS]) _), kk, fun _ hk => .inl hk, .inr (.inl ⟨rfl, hh, h8, rfl, rfl, rfl⟩)⟩
theorem roffer_app {Z W : World} {V' : Value} (h : RTail B w g MV FV ds gone false V) (hb : Below w.heap.size w Z) (hh : holdsQ q x.r = true) (h8 : ds.length - gone < 8) (hg : Z.grownBy W V.ownBlock) (ho : W.ownsRow B 38 4 V' (ds.length + 1) (ds.flatMap RecD.cells ++ x.cells)) (hx : V'.ownBlock = V.ownBlock ∨ V'.ownBlock = some Z.heap.size) : ROfferO B g q MV FV ds gone false V x w (.returned (.bool true)) (W.setCell ⟨g, 2, none⟩ V') := by
 have h4 := h.below hb
 have n1 : some g ≠ V.ownBlock := fun e => own_blk h4.row h4.blk (by decide) (by rw [← e]; simp)
 have k1 : KeepM TR Z W := .grownO h4.row (by simp) hg
 have b1 := h4.blk.grown hg n1
 have k2 : KeepM [50] W (W.setCell ⟨g, 2, none⟩ V') := KeepM.setCell (.refl _ W) (p := ⟨g, 2, none⟩) (show W.heap[g]? = _ from b1) (by simp) _
 have kk : KeepM TR w (W.setCell ⟨g, 2, none⟩ V') := (KeepM.of_below hb).trans (k1.trans (k2.sub (by simp)))
 refine ⟨true, ds ++ [x], false, V', rfl, ⟨b1.set_ 2 V', ?_, by rw [List.length_append]; have := h.le; omega, h.low⟩, (But.of_below hb).trans ((But.grown hg fun k hk => by simp [tailS, hk]).setCell (by simp [tailS]) _), kk, fun k hk => ?_, .inr (.inr ⟨rfl, hh, h8, rfl, rfl, rfl⟩)⟩
 ·rw [List.flatMap_append, List.length_append]
  refine k2.own ?_ (by decide)
  simpa using ho
 ·rcases List.mem_cons.1 hk with rfl | hk
  ·exact .inl (by simp [tailS])
  ·rcases hx with hx | hx
   ·rw [hx] at hk; exact .inl (by simp [tailS] at hk ⊢; exact .inr hk)
   ·rw [hx] at hk
    have : k = Z.heap.size := by simpa using hk
    exact .inr (by rw [this]; exact hb.size)
end
set_option maxRecDepth 100000 in
set_option maxHeartbeats 32000000 in
theorem gTOffer (q : QueryP) (x : RecD) (B g : Nat) (MA FA : Option Addr) (nm nf cm cf : Nat) (ds : List RecD) (gone : Nat) (full : Bool) (V : Value) (w : World) (hck : checkQ q = 0) (hq : QueryAt w MA nm FA nf q) (h : RTail B w g (.slice MA nm cm) (.slice FA nf cf) ds gone full V) (hB : B ≤ w.heap.size) (hl : ds.length ≤ 1000000000) (hr : Row w w.heap.size 2 x.A x.r.labels.length (x.r.labels.flatMap labCells)) (hl2 : x.r.labels.length ≤ 140737488355328) (hline : x.r.line.length ≤ 1500000) (hvals : ∀ y ∈ x.r.labels, y.2.length ≤ 1500000) :
  Calls Tryz.prog 15 #[.pointer (some ⟨g, 0, none⟩), .agg #[.int .i64 x.r.time, .int .u64 x.r.seq, .slice x.A x.r.labels.length x.c, strB x.r.line]] w fun e w' => ROfferO B g q (.slice MA nm cm) (.slice FA nf cf) ds gone full V x w e w' := by
 obtain ⟨R, eR, hR⟩ := str_form x.r.line
 obtain ⟨tv, htv⟩ : ∃ tv, x.r.time = tv := ⟨_, rfl⟩
 obtain ⟨sv, hsv⟩ : ∃ sv, x.r.seq = sv := ⟨_, rfl⟩
 obtain ⟨ln, hln⟩ : ∃ ln, x.r.labels.length = ln := ⟨_, rfl⟩
 obtain ⟨LA, hLA⟩ : ∃ LA, x.A = LA := ⟨_, rfl⟩
 obtain ⟨lc, hlc⟩ : ∃ lc, x.c = lc := ⟨_, rfl⟩
 have hcl : x.cells = [.int .i64 tv, .int .u64 sv, .slice LA ln lc, .string R] := by show [Value.int .i64 x.r.time, Value.int .u64 x.r.seq, Value.slice x.A x.r.labels.length x.c, strB x.r.line] = _; rw [htv, hsv, hln, eR, hLA, hlc]
 rw [htv, hsv, hln, hLA, hlc, eR]
 rw [hln] at hr hl2
 rw [hLA] at hr
 obtain ⟨X, hX⟩ : ∃ X, X = w.alloc (.cells #[.int .i64 tv, .int .u64 sv, .slice LA ln lc, .string R] 38) := ⟨_, rfl⟩
 have hwX : Below w.heap.size w X := by rw [hX]; exact (Below.refl _ _).alloc (Nat.le_refl _) _
 have bX : Blk X w.heap.size 38 [.int .i64 tv, .int .u64 sv, .slice LA ln lc, .string R] := by rw [hX]; exact Blk.new w _ _
 have hrow := h.row
 obtain ⟨n, hn⟩ : ∃ n, ds.length = n := ⟨_, rfl⟩
 rw [hn] at hrow hl
 obtain ⟨A, c, rfl, -⟩ := own_form hrow
 have kT : Blk X g 50 [.slice MA nm cm, .slice FA nf cf, .slice A n c, .int .i64 gone, .bool full] := h.blk.below hwX h.blk.lt
 have hno := fun (w' : World) (hb : Below w.heap.size w w') (hn : full = true ∨ holdsQ q x.r = false) => @roffer_no B g q _ _ _ ds gone full x w w' h hb hn
 have hH : Below X.heap.size X X.drew := (Below.refl _ _).drew
 have hwD := hwX.trans (hH.mono hwX.size)
 have hhold := gHolds q x.r MA FA LA nm nf cm cf ln lc tv sv X.drew hck (hq.below hwD) ((hr.below hwD).more hwD.size) hln hl2 hline hvals
 obtain ⟨HO, hHO⟩ : ∃ HO, holdsQ q x.r = HO := ⟨_, rfl⟩
 rw [hHO, eR] at hhold
 rw [hHO] at hno
 have g0 : ∀ w', Below X.heap.size X w' → w'.cell? ⟨g, 0, none⟩ = some (.slice MA nm cm) := fun w' hb => (kT.below hb kT.lt).cell 0
 have g1 : ∀ w', Below X.heap.size X w' → w'.cell? ⟨g, 1, none⟩ = some (.slice FA nf cf) := fun w' hb => (kT.below hb kT.lt).cell 1
 have g4 : ∀ w', Below X.heap.size X w' → w'.cell? ⟨g, 4, none⟩ = some (.bool full) := fun w' hb => (kT.below hb kT.lt).cell 4
 have x0 : ∀ w', Below X.heap.size X w' → w'.cell? ⟨w.heap.size, 0, none⟩ = some (.int .i64 tv) := fun w' hb => (bX.below hb bX.lt).cell 0
 have x1 : ∀ w', Below X.heap.size X w' → w'.cell? ⟨w.heap.size, 1, none⟩ = some (.int .u64 sv) := fun w' hb => (bX.below hb bX.lt).cell 1
 have x2 : ∀ w', Below X.heap.size X w' → w'.cell? ⟨w.heap.size, 2, none⟩ = some (.slice LA ln lc) := fun w' hb => (bX.below hb bX.lt).cell 2
 have x3 : ∀ w', Below X.heap.size X w' → w'.cell? ⟨w.heap.size, 3, none⟩ = some (.string R) := fun w' hb => (bX.below hb bX.lt).cell 3
 have HT := Lib.hid h; have HwX := Lib.hid hwX; have BX := Lib.hid bX; have KT := Lib.hid kT; have HNo := Lib.hid hno; have HHold := Lib.hid hhold; have HHO := Lib.hid hHO; have Hn := Lib.hid hn; have HCl := Lib.hid hcl
 clear h hwX bX kT hno hhold hHO hn hr hln hR htv hsv hwD hline hvals eR hcl hLA hlc hq hrow hck
 go_enter Tryz.func15, Tryz.ntmps15
 go_upto_region 1 with fail
 rw [← hX]
 clear hX
 refine rgN (fun w' => Below X.heap.size X w') 100 (by kernel_rfl) ?_
 apply tkL 0 (by kernel_rfl) rfl (fun _ _ _ h => h) (by kernel_rfl) hH
 ·intro w' hS'; go_simp; exact ⟨rfl, rfl⟩
 (try simp only [Act.put]); (try simp only [List.setIfInBounds_toArray]); (try simp only [List.set])
 apply tkL 1 (by kernel_rfl) rfl (fun _ _ _ h => h) (by kernel_rfl) hH
 ·intro w' hS'; go_simp; exact ⟨rfl, rfl⟩
 (try simp only [Act.put]); (try simp only [List.setIfInBounds_toArray]); (try simp only [List.set])
 apply tkL 2 (by kernel_rfl) rfl (fun _ _ _ h => h) (by kernel_rfl) hH
 ·intro w' hS'; go_simp; exact ⟨rfl, rfl⟩
 (try simp only [Act.put]); (try simp only [List.setIfInBounds_toArray]); (try simp only [List.set])
 apply tkL 3 (by kernel_rfl) rfl (fun _ _ _ h => h) (by kernel_rfl) hH
 ·intro w' hS'; go_simp; exact ⟨rfl, rfl⟩
 (try simp only [Act.put]); (try simp only [List.setIfInBounds_toArray]); (try simp only [List.set])
 apply tkL 4 (by kernel_rfl) rfl (fun _ _ _ h => h) (by kernel_rfl) hH
 ·intro w' hS'; go_simp; exact ⟨rfl, rfl⟩
 (try simp only [Act.put]); (try simp only [List.setIfInBounds_toArray]); (try simp only [List.set])
 apply tkL 5 (by kernel_rfl) rfl (fun _ _ _ h => h) (by kernel_rfl) hH
 ·intro w' hS'; go_simp; exact ⟨rfl, rfl⟩
 (try simp only [Act.put]); (try simp only [List.setIfInBounds_toArray]); (try simp only [List.set])
 apply tkL 6 (by kernel_rfl) rfl (fun _ _ _ h => h) (by kernel_rfl) hH
 ·intro w' hS'; go_simp; exact ⟨rfl, rfl⟩
 (try simp only [Act.put]); (try simp only [List.setIfInBounds_toArray]); (try simp only [List.set])
 cases full with
 | true =>
  apply tkL 7 (by kernel_rfl) rfl (fun _ _ _ h => h) (by kernel_rfl) hH
  ·intro w' hS'; go_simp; exact ⟨rfl, rfl⟩
  (try simp only [Act.put]); (try simp only [List.setIfInBounds_toArray]); (try simp only [List.set])
  apply tkL 8 (by kernel_rfl) rfl (fun _ _ _ h => h) (by kernel_rfl) hH
  ·intro w' hS'; go_simp; exact ⟨rfl, rfl⟩
  (try simp only [Act.put]); (try simp only [List.setIfInBounds_toArray]); (try simp only [List.set])
  refine skL 9 (by kernel_rfl) rfl (fun _ _ _ h => h) (by kernel_rfl) hH ?_
  (try simp only [Act.put]); (try simp only [List.setIfInBounds_toArray]); (try simp only [List.set])
  refine skL 10 (by kernel_rfl) rfl (fun _ _ _ h => h) (by kernel_rfl) hH ?_
  (try simp only [Act.put]); (try simp only [List.setIfInBounds_toArray]); (try simp only [List.set])
  refine skL 11 (by kernel_rfl) rfl (fun _ _ _ h => h) (by kernel_rfl) hH ?_
  (try simp only [Act.put]); (try simp only [List.setIfInBounds_toArray]); (try simp only [List.set])
  refine skL 12 (by kernel_rfl) rfl (fun _ _ _ h => h) (by kernel_rfl) hH ?_
  (try simp only [Act.put]); (try simp only [List.setIfInBounds_toArray]); (try simp only [List.set])
  refine skL 13 (by kernel_rfl) rfl (fun _ _ _ h => h) (by kernel_rfl) hH ?_
  (try simp only [Act.put]); (try simp only [List.setIfInBounds_toArray]); (try simp only [List.set])
  refine skL 14 (by kernel_rfl) rfl (fun _ _ _ h => h) (by kernel_rfl) hH ?_
  (try simp only [Act.put]); (try simp only [List.setIfInBounds_toArray]); (try simp only [List.set])
  refine skL 15 (by kernel_rfl) rfl (fun _ _ _ h => h) (by kernel_rfl) hH ?_
  (try simp only [Act.put]); (try simp only [List.setIfInBounds_toArray]); (try simp only [List.set])
  apply tkL 16 (by kernel_rfl) rfl (fun _ _ _ h => h) (by kernel_rfl) hH
  ·intro w' hS'; go_simp; exact ⟨rfl, rfl⟩
  (try simp only [Act.put]); (try simp only [List.setIfInBounds_toArray]); (try simp only [List.set])
  refine dnL (by kernel_rfl) ?_ _
  go_wp2
  go_ret
  exact HNo.out _ (HwX.out.trans (hH.mono HwX.out.size)) (by simp)
 | false =>
  apply tkL 7 (by kernel_rfl) rfl (fun _ _ _ h => h) (by kernel_rfl) hH
  ·intro w' hS'; go_simp; exact ⟨rfl, rfl⟩
  (try simp only [Act.put]); (try simp only [List.setIfInBounds_toArray]); (try simp only [List.set])
  apply tkL 8 (by kernel_rfl) rfl (fun _ _ _ h => h) (by kernel_rfl) hH
  ·intro w' hS'; go_simp; exact ⟨rfl, rfl⟩
  (try simp only [Act.put]); (try simp only [List.setIfInBounds_toArray]); (try simp only [List.set])
  apply tkL 9 (by kernel_rfl) rfl (fun _ _ _ h => h) (by kernel_rfl) hH
  ·intro w' hS'; go_simp; exact ⟨rfl, rfl⟩
  (try simp only [Act.put]); (try simp only [List.setIfInBounds_toArray]); (try simp only [List.set])
  apply tkL 10 (by kernel_rfl) rfl (fun _ _ _ h => h) (by kernel_rfl) hH
  ·intro w' hS'; go_simp; exact ⟨rfl, rfl⟩
  (try simp only [Act.put]); (try simp only [List.setIfInBounds_toArray]); (try simp only [List.set])
  apply tkL 11 (by kernel_rfl) rfl (fun _ _ _ h => h) (by kernel_rfl) hH
  ·intro w' hS'; go_simp; exact ⟨rfl, rfl⟩
  (try simp only [Act.put]); (try simp only [List.setIfInBounds_toArray]); (try simp only [List.set])
  apply tkL 12 (by kernel_rfl) rfl (fun _ _ _ h => h) (by kernel_rfl) hH
  ·intro w' hS'; go_simp; exact ⟨rfl, rfl⟩
  (try simp only [Act.put]); (try simp only [List.setIfInBounds_toArray]); (try simp only [List.set])
  apply tkL 13 (by kernel_rfl) rfl (fun _ _ _ h => h) (by kernel_rfl) hH
  ·intro w' hS'; go_simp; exact ⟨rfl, rfl⟩
  (try simp only [Act.put]); (try simp only [List.setIfInBounds_toArray]); (try simp only [List.set])
  refine rnL 14 (by kernel_rfl) rfl (by kernel_rfl) (fun K hK => ?_)
  go_simp
  refine HHold.out.mono ?_
  rintro e w1 ⟨rfl, hb1⟩
  have hX1 := hH.trans hb1
  refine hK _ _ (fun _ => hX1) ?_
  clear hK K hb1
  (try simp only [Act.put])
  apply tkL 15 (by kernel_rfl) rfl (fun _ _ _ h => h) (by kernel_rfl) hX1
  ·intro w' hS'; go_simp; exact ⟨rfl, rfl⟩
  (try simp only [Act.put]); (try simp only [List.setIfInBounds_toArray]); (try simp only [List.set])
  apply tkL 16 (by kernel_rfl) rfl (fun _ _ _ h => h) (by kernel_rfl) hX1
  ·intro w' hS'; go_simp; exact ⟨rfl, rfl⟩
  (try simp only [Act.put]); (try simp only [List.setIfInBounds_toArray]); (try simp only [List.set])
  refine dnL (by kernel_rfl) ?_ _
  have hw1 := HwX.out.trans (hX1.mono HwX.out.size)
  cases HO with
  | false =>
   have HW := Lib.hid hw1
   clear hX1 hw1
   go_wp2
   go_ret
   exact HNo.out _ HW.out (by simp)
  | true =>
   have hwt := gTWaiting (HT.out.below hw1) (by rw [Hn.out]; exact hl)
   rw [Hn.out] at hwt
   have HWt := Lib.hid hwt; have HX1 := Lib.hid hX1; have HW1 := Lib.hid hw1
   clear hwt hX1 hw1 g0 g1 g4 x0 x1 x2 x3
   go_wp2_with fail
   refine HWt.out.mono ?_
   rintro e w2 ⟨rfl, hb2⟩
   have hX2 := HX1.out.trans (hb2.mono HX1.out.size)
   have hw2 := HW1.out.trans (hb2.mono HW1.out.size)
   have k2 := KT.out.below hX2 KT.out.lt
   have b2 := BX.out.below hX2 BX.out.lt
   clear hb2 HWt HX1 HW1
   by_cases h8 : 8 ≤ n - gone
   ·have z8 : (8 : Int) ≤ ((n - gone : Nat) : Int) := by omega
    have hfull := roffer_full (x := x) HT.out hw2 HHO.out (by rw [Hn.out]; exact h8)
    have f4 := k2.frozen 4
    have y4 : w2.cell? ⟨g, 4, none⟩ = some (.bool false) := k2.cell 4
    have HFull := Lib.hid hfull
    obtain ⟨M, hM⟩ : ∃ M, n - gone = M := ⟨_, rfl⟩
    rw [hM] at z8 ⊢
    clear hfull hw2 hX2 k2 b2 h8 hM
    go_wp2
    go_ret
    exact HFull.out
   ·have z8 : ¬ (8 : Int) ≤ ((n - gone : Nat) : Int) := by omega
    have h9 : ds.length - gone < 8 := by rw [Hn.out]; omega
    have s0 : Blk w2.drew g 50 [.slice MA nm cm, .slice FA nf cf, .slice A n c, .int .i64 gone, .bool false] ∧ Blk w2.drew w.heap.size 38 [.int .i64 tv, .int .u64 sv, .slice LA ln lc, .string R] := ⟨k2.drew, b2.drew⟩
    have HW2 := Lib.hid hw2; have H9 := Lib.hid h9
    obtain ⟨M, hM⟩ : ∃ M, n - gone = M := ⟨_, rfl⟩
    rw [hM] at z8 ⊢
    clear hw2 hX2 k2 b2 h8 hM h9
    go_upto_region 6 with fail
    refine rgN (fun w' => Blk w' g 50 [.slice MA nm cm, .slice FA nf cf, .slice A n c, .int .i64 gone, .bool false] ∧ Blk w' w.heap.size 38 [.int .i64 tv, .int .u64 sv, .slice LA ln lc, .string R]) 10 (by kernel_rfl) ?_
    apply tkL 0 (by kernel_rfl) rfl (fun _ _ _ h => h) (by kernel_rfl) s0
    ·intro w' hS'; go_simp; exact ⟨rfl, rfl⟩
    (try simp only [Act.put]); (try simp only [List.setIfInBounds_toArray]); (try simp only [List.set])
    apply tkL 1 (by kernel_rfl) rfl (fun _ _ _ h => h) (by kernel_rfl) s0
    ·intro w' hS'; go_simp; exact ⟨rfl, rfl⟩
    (try simp only [Act.put]); (try simp only [List.setIfInBounds_toArray]); (try simp only [List.set])
    apply tkL 2 (by kernel_rfl) rfl (fun _ _ _ h => h) (by kernel_rfl) s0
    ·intro w' hS'; go_simp; exact ⟨rfl, rfl⟩
    (try simp only [Act.put]); (try simp only [List.setIfInBounds_toArray]); (try simp only [List.set])
    apply tkL 3 (by kernel_rfl) rfl (fun _ _ _ h => h) (by kernel_rfl) s0
    ·intro w' hS'; go_simp; exact ⟨rfl, rfl⟩
    (try simp only [Act.put]); (try simp only [List.setIfInBounds_toArray]); (try simp only [List.set])
    apply tkL 4 (v := (.slice A n c)) (by kernel_rfl) rfl (fun _ _ _ h => h) (by kernel_rfl) s0
    ·intro w' hS'; have k := hS'.1.cell 2; go_simp; exact ⟨rfl, rfl⟩
    (try simp only [Act.put]); (try simp only [List.setIfInBounds_toArray]); (try simp only [List.set])
    apply tkL 5 (v := (.agg #[.int .i64 tv, .int .u64 sv, .slice LA ln lc, .string R])) (by kernel_rfl) rfl (fun _ _ _ h => h) (by kernel_rfl) s0
    ·intro w' hS'; have k0 := hS'.2.cell 0; have k1 := hS'.2.cell 1; have k2 := hS'.2.cell 2; have k3 := hS'.2.cell 3; go_simp; exact ⟨rfl, rfl⟩
    (try simp only [Act.put]); (try simp only [List.setIfInBounds_toArray]); (try simp only [List.set])
    refine rnL 6 (by kernel_rfl) rfl (by kernel_rfl) (fun K hK => ?_)
    go_simp
    obtain ⟨Z, hZ⟩ : ∃ Z, Z = (w2.alloc (.cells #[.int .i64 tv, .int .u64 sv, .slice LA ln lc, .string R] 38)).drew := ⟨_, rfl⟩
    rw [← hZ]
    have b3Z : Below w2.heap.size w2 Z := by rw [hZ]; exact ((Below.refl _ _).alloc (Nat.le_refl _) _).drew
    have s6 : Blk Z g 50 [.slice MA nm cm, .slice FA nf cf, .slice A n c, .int .i64 gone, .bool false] ∧ Blk Z w.heap.size 38 [.int .i64 tv, .int .u64 sv, .slice LA ln lc, .string R] := by rw [hZ]; exact ⟨(Blk.alloc (w := w2) s0.1 _).drew, (Blk.alloc (w := w2) s0.2 _).drew⟩
    have hwZ := HW2.out.trans (b3Z.mono HW2.out.size)
    have hTZ := HT.out.below hwZ
    have oZ := hTZ.row
    rw [Hn.out] at oZ
    have xrow : Row Z (w2.heap.size + 1) 4 (some ⟨w2.heap.size, 0, none⟩) 1 [.int .i64 tv, .int .u64 sv, .slice LA ln lc, .string R] := by
     rw [hZ]; exact row_newN w2 38 4 1 _ rfl
    have hone : ∀ u ∈ ([.int .i64 tv, .int .u64 sv, .slice LA ln lc, .string R] : List Value), u.oneCell' = true := by
     have h := rec_one [x]
     rw [show ([x] : List RecD).flatMap RecD.cells = [.int .i64 tv, .int .u64 sv, .slice LA ln lc, .string R] by simp [HCl.out]] at h
     exact h
    have hlZ : B ≤ Z.heap.size := Nat.le_trans hB hwZ.size
    have HwZ := Lib.hid hwZ
    clear hZ b3Z s0 hwZ hTZ
    refine hK _ _ (fun _ => s6) ?_
    clear hK K
    (try simp only [Act.put]); (try simp only [List.setIfInBounds_toArray]); (try simp only [List.set])
    refine rnL 7 (by kernel_rfl) rfl (by kernel_rfl) (fun K hK => ?_)
    refine wp_app Z recE rfl rfl oZ rfl xrow hone (by omega) hlZ ?_
    intro v W own8 hg8 hb8 hx8
    obtain ⟨A8, c8, rfl, -⟩ := own_form own8
    have n1 : some g ≠ (Value.slice A n c).ownBlock := fun e => own_blk oZ s6.1 (by decide) (by rw [← e]; simp)
    have s8 : Blk W g 50 [.slice MA nm cm, .slice FA nf cf, .slice A n c, .int .i64 gone, .bool false] := s6.1.grown hg8 n1
    have hfin := roffer_app HT.out HwZ.out HHO.out H9.out hg8 (by rw [Hn.out, HCl.out]; exact own8) hx8
    have HFin := Lib.hid hfin
    have bx8 : Blk W w.heap.size 38 [.int .i64 tv, .int .u64 sv, .slice LA ln lc, .string R] := s6.2.grown hg8 fun e => by
     have h1 := HT.out.row.lt _ e.symm
     omega
    have S8 : Blk W g 50 [.slice MA nm cm, .slice FA nf cf, .slice A n c, .int .i64 gone, .bool false] ∧ Blk W w.heap.size 38 [.int .i64 tv, .int .u64 sv, .slice LA ln lc, .string R] := ⟨s8, bx8⟩
    clear own8 hg8 hb8 hx8 n1 hfin oZ xrow hone hlZ s6 bx8
    refine hK _ _ (fun _ => S8) ?_
    clear hK K
    (try simp only [Act.put]); (try simp only [List.setIfInBounds_toArray]); (try simp only [List.set])
    refine rnL 8 (by kernel_rfl) rfl (by kernel_rfl) (fun K hK => ?_)
    go_simp
    refine hK _ _ (fun _ => S8) ?_
    clear hK K
    (try simp only [Act.put]); (try simp only [List.setIfInBounds_toArray]); (try simp only [List.set])
    refine rnL 9 (by kernel_rfl) rfl (by kernel_rfl) (fun K hK => ?_)
    go_simp
    refine hK _ _ (fun _ => S8) ?_
    clear hK K
    (try simp only [Act.put]); (try simp only [List.setIfInBounds_toArray]); (try simp only [List.set])
    have cb : W.cell? ⟨g, 2, none⟩ = some (.slice A n c) := s8.cell 2
    have fb := s8.frozen 2
    refine rnL 10 (by kernel_rfl) rfl (by kernel_rfl) (fun K hK => ?_)
    go_simp
    refine hK _ _ (fun h => absurd rfl h) ?_
    clear hK K
    (try simp only [Act.put])
    refine dnL (by kernel_rfl) ?_ _
    go_wp2
    go_ret
    exact HFin.out
open Go.RowKit Go.Shelf Garner
theorem rec_own {w : World} {B b n c k : Nat} {ds : List RecD} {d : RecD} (h : w.ownsRow B 38 4 (.slice (some ⟨b, 0, none⟩) n c) n (ds.flatMap RecD.cells)) (hd : ds[k]? = some d) (hk : k < n) :
  w.cell? ⟨b, k * 4, none⟩ = some (.int .i64 d.r.time) ∧ w.cell? ⟨b, k * 4 + 1, none⟩ = some (.int .u64 d.r.seq) ∧ w.cell? ⟨b, k * 4 + 2, none⟩ = some (.slice d.A d.r.labels.length d.c) ∧ w.cell? ⟨b, k * 4 + 3, none⟩ = some (strB d.r.line) := by
 obtain ⟨b', off', e, hc⟩ := rec_cells (Row.of_own h) hd hk
 cases e
 have := hc w (Below.refl _ _)
 simpa only [Nat.zero_add] using this
def RTakeO (K B g : Nat) (MV FV : Value) (ds : List RecD) (gone : Nat) (full : Bool) (V : Value) (w : World) (e : Ending) (w' : World) : Prop :=
 ∃ L, e = .returned (.tuple #[L, .bool (full && decide (ds.length - gone - K = 0))]) ∧ w'.ownsRow w.heap.size 38 4 L K (((ds.drop gone).take K).flatMap RecD.cells) ∧ RTail B w' g MV FV ds (gone + K) full V ∧ But [g] w w' ∧ KeepM TR w w'
structure TkR (B g : Nat) (MV FV : Value) (ds : List RecD) (gone : Nat) (full : Bool) (V : Value) (w wr : World) (k : Nat) (L : Value) : Prop where
 out : wr.ownsRow w.heap.size 38 4 L k (((ds.drop gone).take k).flatMap RecD.cells)
 tl : RTail B wr g MV FV ds (gone + k) full V
 but : But [g] w wr
 kp : KeepM TR w wr
section
variable {B g : Nat} {MV FV V L L' : Value} {ds : List RecD} {gone k : Nat} {full : Bool} {w wr w' : World} {d : RecD}
theorem TkR.below (h : TkR B g MV FV ds gone full V w wr k L) (hb : Below wr.heap.size wr w') : TkR B g MV FV ds gone full V w w' k L :=
 ⟨own_below h.out hb, h.tl.below hb, h.but.trans (.of_below hb), h.kp.trans (.of_below hb)⟩
theorem TkR.step (h : TkR B g MV FV ds gone full V w wr k L) (hV : ∀ j, V.ownBlock = some j → j < w.heap.size) (hg : g < w.heap.size) (hd : ds[gone + k]? = some d) (hgw : wr.grownBy w' L.ownBlock) (ho : w'.ownsRow w.heap.size 38 4 L' (k + 1) (((ds.drop gone).take k).flatMap RecD.cells ++ d.cells)) : TkR B g MV FV ds gone full V w (w'.setCell ⟨g, 3, none⟩ (.int .i64 (gone + (k + 1) : Nat))) (k + 1) L' := by
 have hLg : ∀ j, L.ownBlock = some j → w.heap.size ≤ j := fun j hj => (h.out.lt j hj).1
 have hb0 : But L.ownBlock.toList wr w' := But.grown hgw fun j hj => by simp [hj]
 have hk0 : KeepM TR wr w' := .grownO h.out (by simp) hgw
 have n1 : some g ≠ L.ownBlock := fun e => by have := hLg g e.symm; omega
 have b1 := h.tl.blk.grown hgw n1
 have r1 := own_but h.tl.row hb0 fun j hj hj2 => by have := hLg j (Option.mem_toList.1 hj2); have := hV j hj; omega
 have k2 : KeepM [50] w' (w'.setCell ⟨g, 3, none⟩ (.int .i64 (gone + (k + 1) : Nat))) := KeepM.setCell (.refl _ w') (p := ⟨g, 3, none⟩) (show w'.heap[g]? = _ from b1) (by simp) _
 have hlt := (List.getElem?_eq_some_iff.1 hd).1
 refine ⟨?_, ⟨b1.set_ 3 _, k2.own r1 (by decide), by omega, h.tl.low⟩, (h.but.old hb0 fun j hj => .inr (hLg j (Option.mem_toList.1 hj))).setCell (by simp) _, h.kp.trans (hk0.trans (k2.sub (by simp)))⟩
 have e : (ds.drop gone).take (k + 1) = (ds.drop gone).take k ++ [d] := by rw [List.take_add_one, List.getElem?_drop, hd]; rfl
 rw [e, List.flatMap_append]
 refine k2.own ?_ (by decide)
 simpa using ho
theorem TkR.fin {b : Bool} (h : TkR B g MV FV ds gone full V w wr k L) (hb : b = (full && decide (ds.length - gone - k = 0))) : RTakeO k B g MV FV ds gone full V w (.returned (.tuple #[L, .bool b])) wr := ⟨L, by rw [hb], h.out, h.tl, h.but, h.kp⟩
end
set_option maxRecDepth 100000 in
set_option maxHeartbeats 32000000 in
theorem gTTake (n : Int) {B g : Nat} {MV FV V : Value} {ds : List RecD} {gone : Nat} {full : Bool} {w : World} (h : RTail B w g MV FV ds gone full V) (hl : ds.length ≤ 1000000000) :
  Calls Tryz.prog 17 #[.pointer (some ⟨g, 0, none⟩), .int .i64 n] w fun e w' => RTakeO (takeN n (ds.length - gone)) B g MV FV ds gone full V w e w' := by
 have hle := h.le
 have hg := h.blk.lt
 have hV := fun j hj => (h.row.lt j hj).2
 obtain ⟨N, hN⟩ : ∃ N, ds.length = N := ⟨_, rfl⟩
 obtain ⟨K, hK⟩ : ∃ K, takeN n (N - gone) = K := ⟨_, rfl⟩
 have hKle : K ≤ N - gone := by rw [← hK]; exact takeN_le _ _
 have hKlt : ∀ k : Nat, k < K → (k : Int) < n := fun k hk => by rw [← hK] at hk; unfold takeN at hk; omega
 have hKge : (K : Int) < n → K = N - gone := fun hk => by rw [← hK] at hk ⊢; unfold takeN at hk ⊢; omega
 rw [hN, hK]
 rw [hN] at hle hl
 have H0 : Hid (TkR B g MV FV ds gone full V w w 0 (.slice none 0 0)) := Lib.hid ⟨World.ownsRow_nil _ _ _ _, h, But.refl _ _, KeepM.refl _ _⟩
 have Hg := Lib.hid hg; have HV := Lib.hid hV; have HN := Lib.hid hN; have HKge := Lib.hid hKge; have HKlt := Lib.hid hKlt
 clear h hg hV hN hK hKge hKlt
 go_enter Tryz.func17, Tryz.ntmps17
 go_wp2
 go_loopw [6, 7] (fun v i wr => ∃ k : Nat, k ≤ K ∧ i = .int .i64 k ∧ Hid (TkR B g MV FV ds gone full V w wr k v)) (fun _ i _ => K + 1 - (intOf i).toNat)
 case atStart => exact ⟨0, Nat.zero_le _, rfl, H0⟩
 case round =>
  obtain ⟨k, hk, rfl, hst⟩ := hrel
  obtain ⟨wo, rfl⟩ : ∃ wo : World, wo = wr := ⟨_, rfl⟩
  have wk1 : IntKind.i64.wrap ((k : Int) + 1) = ((k + 1 : Nat) : Int) := by rw [IntKind.wrap_i64]; omega
  have ho := hst.out.out
  obtain ⟨LA, lc, rfl, -⟩ := own_form ho
  clear ho
  have hwt := gTWaiting hst.out.tl (by rw [HN.out]; exact hl)
  rw [HN.out] at hwt
  by_cases hlt : k < K
  ·have z1 : (k : Int) < n := HKlt.out k hlt
   obtain ⟨M, hM⟩ : ∃ M, N - (gone + k) = M := ⟨_, rfl⟩
   rw [hM] at hwt
   have z2 : (0 : Int) < (M : Int) := by omega
   obtain ⟨G, hG⟩ : ∃ G, gone + k = G := ⟨_, rfl⟩
   obtain ⟨d, hd⟩ : ∃ d, ds[G]? = some d := ⟨_, List.getElem?_eq_getElem (by rw [HN.out]; omega)⟩
   have hrow := hst.out.tl.row
   rw [HN.out] at hrow
   obtain ⟨A0, vc, rfl, -⟩ := own_form hrow
   obtain ⟨b, rfl, -, -⟩ := own_at hrow (by omega)
   have HWt := Lib.hid hwt; have HG := Lib.hid hG; have Hd := Lib.hid hd
   clear hwt hM hG hd hrow
   go_wp2_with fail
   refine HWt.out.mono ?_
   rintro e w2 ⟨rfl, hb2⟩
   have hs2 := hst.out.below hb2
   have zG : G < N := by have := HG.out; omega
   have s0 : Blk w2.drew g 50 [MV, FV, .slice (some ⟨b, 0, none⟩) N vc, .int .i64 G, .bool full] ∧ w2.drew.ownsRow B 38 4 (.slice (some ⟨b, 0, none⟩) N vc) N (ds.flatMap RecD.cells) := by
    have h1 := hs2.tl.blk
    have h2 := hs2.tl.row
    rw [HG.out] at h1
    rw [HN.out] at h2
    exact ⟨h1.drew, own_below h2 (Below.refl _ _).drew⟩
   obtain ⟨R, eR, -⟩ := str_form d.r.line
   obtain ⟨tv, htv⟩ : ∃ tv, d.r.time = tv := ⟨_, rfl⟩
   obtain ⟨sv, hsv⟩ : ∃ sv, d.r.seq = sv := ⟨_, rfl⟩
   obtain ⟨ln, hln⟩ : ∃ ln, d.r.labels.length = ln := ⟨_, rfl⟩
   have hcl : d.cells = [.int .i64 tv, .int .u64 sv, .slice d.A ln d.c, .string R] := by show [Value.int .i64 d.r.time, Value.int .u64 d.r.seq, Value.slice d.A d.r.labels.length d.c, strB d.r.line] = _; rw [htv, hsv, hln, eR]
   have hrc := fun (w' : World) (hS : w'.ownsRow B 38 4 (.slice (some ⟨b, 0, none⟩) N vc) N (ds.flatMap RecD.cells)) => rec_own hS Hd.out (by have := HG.out; omega)
   rw [htv, hsv, hln, eR] at hrc
   have HRc := Lib.hid hrc; have HCl := Lib.hid hcl; have HS2 := Lib.hid hs2
   clear hrc hcl htv hsv hln eR hs2 hst hb2 HWt
   go_upto_region 7 with fail
   refine rgN (fun w' => Blk w' g 50 [MV, FV, .slice (some ⟨b, 0, none⟩) N vc, .int .i64 G, .bool full] ∧ w'.ownsRow B 38 4 (.slice (some ⟨b, 0, none⟩) N vc) N (ds.flatMap RecD.cells)) 100 (by kernel_rfl) ?_
   apply tkL 0 (by kernel_rfl) rfl (fun _ _ _ h => h) (by kernel_rfl) s0
   ·intro w' hS'; go_simp; exact ⟨rfl, rfl⟩
   (try simp only [Act.put]); (try simp only [List.setIfInBounds_toArray]); (try simp only [List.set])
   apply tkL 1 (by kernel_rfl) rfl (fun _ _ _ h => h) (by kernel_rfl) s0
   ·intro w' hS'; go_simp; exact ⟨rfl, rfl⟩
   (try simp only [Act.put]); (try simp only [List.setIfInBounds_toArray]); (try simp only [List.set])
   apply tkL 2 (by kernel_rfl) rfl (fun _ _ _ h => h) (by kernel_rfl) s0
   ·intro w' hS'; go_simp; exact ⟨rfl, rfl⟩
   (try simp only [Act.put]); (try simp only [List.setIfInBounds_toArray]); (try simp only [List.set])
   apply tkL 3 (by kernel_rfl) rfl (fun _ _ _ h => h) (by kernel_rfl) s0
   ·intro w' hS'; go_simp; exact ⟨rfl, rfl⟩
   (try simp only [Act.put]); (try simp only [List.setIfInBounds_toArray]); (try simp only [List.set])
   apply tkL 4 (v := (.slice (some ⟨b, 0, none⟩) N vc)) (by kernel_rfl) rfl (fun _ _ _ h => h) (by kernel_rfl) s0
   ·intro w' hS'; have k := hS'.1.cell 2; go_simp; exact ⟨rfl, rfl⟩
   (try simp only [Act.put]); (try simp only [List.setIfInBounds_toArray]); (try simp only [List.set])
   apply tkL 5 (by kernel_rfl) rfl (fun _ _ _ h => h) (by kernel_rfl) s0
   ·intro w' hS'; go_simp; exact ⟨rfl, rfl⟩
   (try simp only [Act.put]); (try simp only [List.setIfInBounds_toArray]); (try simp only [List.set])
   apply tkL 6 (by kernel_rfl) rfl (fun _ _ _ h => h) (by kernel_rfl) s0
   ·intro w' hS'; go_simp; exact ⟨rfl, rfl⟩
   (try simp only [Act.put]); (try simp only [List.setIfInBounds_toArray]); (try simp only [List.set])
   apply tkL 7 (by kernel_rfl) rfl (fun _ _ _ h => h) (by kernel_rfl) s0
   ·intro w' hS'; go_simp; exact ⟨rfl, rfl⟩
   (try simp only [Act.put]); (try simp only [List.setIfInBounds_toArray]); (try simp only [List.set])
   apply tkL 8 (v := (.int .i64 G)) (by kernel_rfl) rfl (fun _ _ _ h => h) (by kernel_rfl) s0
   ·intro w' hS'; have k := hS'.1.cell 3; go_simp; exact ⟨rfl, rfl⟩
   (try simp only [Act.put]); (try simp only [List.setIfInBounds_toArray]); (try simp only [List.set])
   apply tkL 9 (by kernel_rfl) rfl (fun _ _ _ h => h) (by kernel_rfl) s0
   ·intro w' hS'; go_simp; exact ⟨rfl, rfl⟩
   (try simp only [Act.put]); (try simp only [List.setIfInBounds_toArray]); (try simp only [List.set])
   apply tkL 10 (v := (.agg #[.int .i64 tv, .int .u64 sv, .slice d.A ln d.c, .string R])) (by kernel_rfl) rfl (fun _ _ _ h => h) (by kernel_rfl) s0
   ·intro w' hS'; obtain ⟨k0, k1, k2, k3⟩ := HRc.out w' hS'.2; go_simp; exact ⟨rfl, rfl⟩
   (try simp only [Act.put]); (try simp only [List.setIfInBounds_toArray]); (try simp only [List.set])
   refine rnL 11 (by kernel_rfl) rfl (by kernel_rfl) (fun K hK => ?_)
   go_simp
   obtain ⟨Z, hZ⟩ : ∃ Z, Z = (w2.alloc (.cells #[.int .i64 tv, .int .u64 sv, .slice d.A ln d.c, .string R] 38)).drew := ⟨_, rfl⟩
   rw [← hZ]
   have b3Z : Below w2.heap.size w2 Z := by rw [hZ]; exact ((Below.refl _ _).alloc (Nat.le_refl _) _).drew
   have s6 : Blk Z g 50 [MV, FV, .slice (some ⟨b, 0, none⟩) N vc, .int .i64 G, .bool full] ∧ Z.ownsRow B 38 4 (.slice (some ⟨b, 0, none⟩) N vc) N (ds.flatMap RecD.cells) := by
    have h1 := (HS2.out.below b3Z).tl.blk
    have h2 := (HS2.out.below b3Z).tl.row
    rw [HG.out] at h1
    rw [HN.out] at h2
    exact ⟨h1, h2⟩
   have xrow : Row Z (w2.heap.size + 1) 4 (some ⟨w2.heap.size, 0, none⟩) 1 [.int .i64 tv, .int .u64 sv, .slice d.A ln d.c, .string R] := by
    rw [hZ]; exact row_newN w2 38 4 1 _ rfl
   have hone : ∀ u ∈ ([.int .i64 tv, .int .u64 sv, .slice d.A ln d.c, .string R] : List Value), u.oneCell' = true := by
    have h := rec_one [d]
    rw [show ([d] : List RecD).flatMap RecD.cells = [.int .i64 tv, .int .u64 sv, .slice d.A ln d.c, .string R] by simp [HCl.out]] at h
    exact h
   have oZ := (HS2.out.below b3Z).out
   have hsz := (HS2.out.below b3Z).but.size
   have HSZ := Lib.hid (HS2.out.below b3Z)
   clear hZ b3Z s0
   refine hK _ _ (fun _ => s6) ?_
   clear hK K
   (try simp only [Act.put]); (try simp only [List.setIfInBounds_toArray]); (try simp only [List.set])
   refine rnL 12 (by kernel_rfl) rfl (by kernel_rfl) (fun K' hK' => ?_)
   refine wp_app Z recE rfl rfl oZ rfl xrow hone (by omega) hsz ?_
   intro v W own8 hg8 hb8 hx8
   obtain ⟨A8, c8, rfl, -⟩ := own_form own8
   have hst9 := HSZ.out.step (L' := .slice A8 (k + 1) c8) HV.out Hg.out (by rw [HG.out]; exact Hd.out) hg8 (by rw [HCl.out]; exact own8)
   have n1 : some g ≠ (Value.slice LA k lc).ownBlock := fun e => by have := (HSZ.out.out.lt g e.symm).1; have := Hg.out; omega
   have s8 : Blk W g 50 [MV, FV, .slice (some ⟨b, 0, none⟩) N vc, .int .i64 G, .bool full] := s6.1.grown hg8 n1
   have s9 : W.ownsRow B 38 4 (.slice (some ⟨b, 0, none⟩) N vc) N (ds.flatMap RecD.cells) := own_but s6.2 (But.grown (S := (Value.slice LA k lc).ownBlock.toList) hg8 fun j hj => Option.mem_toList.2 hj) fun j hj hj2 => by
    have h1 := (HSZ.out.out.lt j (Option.mem_toList.1 hj2)).1
    have h2 := HV.out j hj
    omega
   have S8 : Blk W g 50 [MV, FV, .slice (some ⟨b, 0, none⟩) N vc, .int .i64 G, .bool full] ∧ W.ownsRow B 38 4 (.slice (some ⟨b, 0, none⟩) N vc) N (ds.flatMap RecD.cells) := ⟨s8, s9⟩
   have HST := Lib.hid hst9
   clear own8 hg8 hb8 hx8 n1 s9 oZ xrow hone hsz s6 hst9 HSZ
   refine hK' _ _ (fun _ => S8) ?_
   clear hK' K'
   (try simp only [Act.put])
   apply tkL 13 (by kernel_rfl) rfl (fun _ _ _ h => h) (by kernel_rfl) S8
   ·intro w' hS'; go_simp; exact ⟨rfl, rfl⟩
   (try simp only [Act.put]); (try simp only [List.setIfInBounds_toArray]); (try simp only [List.set])
   refine dnL (by kernel_rfl) ?_ _
   have c3 : W.cell? ⟨g, 3, none⟩ = some (.int .i64 G) := s8.cell 3
   have f3 := s8.frozen 3
   have wG : IntKind.i64.wrap ((G : Int) + 1) = ((G + 1 : Nat) : Int) := by rw [IntKind.wrap_i64]; omega
   have hst9 := HST.out
   rw [show gone + (k + 1) = G + 1 by have := HG.out; omega] at hst9
   have HST2 := Lib.hid hst9
   clear S8 s8 hst9 HST
   go_wp2
   go_roundw
   case rel => exact ⟨k + 1, by omega, by first | rfl | go_num, HST2⟩
   case measure => simp [intOf]; omega
  ·obtain rfl : k = K := by omega
   obtain ⟨M, hM⟩ : ∃ M, N - (gone + k) = M := ⟨_, rfl⟩
   rw [hM] at hwt
   have hM2 : N - gone - k = M := by omega
   have c4 := hst.out.tl.blk
   have h4 : ∀ w', Below wo.heap.size wo w' → w'.cell? ⟨g, 4, none⟩ = some (.bool full) := fun w' hb => (c4.below hb c4.lt).cell 4
   have y4 := h4 wo (Below.refl _ _)
   have HWt := Lib.hid hwt; have HM2 := Lib.hid hM2; have H4 := Lib.hid h4
   have hnx : ¬ (k : Int) < n ∨ ((k : Int) < n ∧ M = 0) := by
    by_cases h : (k : Int) < n
    ·exact .inr ⟨h, by have := HKge.out h; omega⟩
    ·exact .inl h
   have HHwt := Lib.hid (fun (w' : World) (hb : Below wo.heap.size wo w') => gTWaiting (hst.out.tl.below hb) (by rw [HN.out]; exact hl))
   rw [HN.out, show N - (gone + k) = M from by have := HM2.out; omega] at HHwt
   clear hwt hM hM2 c4 h4
   rcases hnx with hn | ⟨hn, hm⟩
   ·-- no more are wanted
    cases full with
    | false =>
     have HF := Lib.hid ((hst.out).fin (b := false) rfl)
     go_wp2
     go_ret2
     exact HF.out
    | true =>
     by_cases hM0 : M = 0
     ·have z9 : ((M : Int) == 0) = true := by simp [hM0]
      have hbb : true = (true && decide (ds.length - gone - k = 0)) := by rw [HN.out, HM2.out, decide_eq_true hM0]; rfl
      have HBb := Lib.hid hbb; have HM0 := Lib.hid hM0
      clear hbb
      go_wp2_with fail
      refine (HHwt.out _ (Below.refl _ _)).mono ?_
      rintro e w3 ⟨rfl, hb3⟩
      have HF := Lib.hid (((hst.out).below hb3).fin (b := true) HBb.out)
      clear hb3
      subst hM0
      go_wp2
      go_ret2
      exact HF.out
     ·have z8 : ¬ (M : Int) = 0 := by omega
      have z9 : ((M : Int) == 0) = false := beq_eq_false_iff_ne.2 z8
      have hbb : false = (true && decide (ds.length - gone - k = 0)) := by rw [HN.out, HM2.out, decide_eq_false hM0]; rfl
      have HBb := Lib.hid hbb
      clear hbb hM0
      go_wp2_with fail
      refine (HHwt.out _ (Below.refl _ _)).mono ?_
      rintro e w3 ⟨rfl, hb3⟩
      have HF := Lib.hid (((hst.out).below hb3).fin (b := false) HBb.out)
      clear hb3
      go_wp2
      go_ret2
      exact HF.out
   ·have HM0 := Lib.hid hm
    subst hm
    go_wp2_with fail
    refine (HHwt.out _ (Below.refl _ _)).mono ?_
    rintro e w2 ⟨rfl, hb2⟩
    have y4 := H4.out w2 hb2
    have HS2 := Lib.hid (hst.out.below hb2)
    have HB2 := Lib.hid hb2
    clear hb2 hst
    cases full with
    | false =>
     have HF := Lib.hid (HS2.out.fin (b := false) rfl)
     go_wp2
     go_ret2
     exact HF.out
    | true =>
     have hbb : true = (true && decide (ds.length - gone - k = 0)) := by rw [HN.out, HM2.out]; rfl
     have HBb := Lib.hid hbb
     clear hbb
     go_wp2_with fail
     refine (HHwt.out _ HB2.out).mono ?_
     rintro e w3 ⟨rfl, hb3⟩
     have HF := Lib.hid ((HS2.out.below hb3).fin (b := true) HBb.out)
     clear hb3
     go_wp2
     go_ret2
     exact HF.out
theorem gTWaitNil (w : World) : Calls Tryz.prog 20 #[.pointer none] w fun e w' => e = .returned (.int .i64 0) ∧ w' = w := by
 go_enter Tryz.func20, Tryz.ntmps20
 go_wp2
 go_ret
 exact ⟨rfl, rfl⟩
end Go.Proofs.YtecejnilajbdpaaGreatDoor
