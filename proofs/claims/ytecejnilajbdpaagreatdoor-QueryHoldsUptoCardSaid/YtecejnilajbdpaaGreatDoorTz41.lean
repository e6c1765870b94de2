import Derived.Test.YtecejnilajbdpaaGreatDoorTz35
import Derived.Test.YtecejnilajbdpaaGreatDoorTz40
set_option maxRecDepth 100000
set_option maxHeartbeats 32000000
namespace Garner
open Go
theorem pat_rexp {f : FilP} (h : patOk f = true) (hl : likeO f.op = true) : ∃ t, rexpP f.text = .ok t := by
 unfold patOk at h
 rw [hl] at h
 cases e : rexpP f.text with
 | ok t => exact ⟨t, rfl⟩
 | error k => rw [e] at h; cases h
end Garner
namespace Go.Proofs.YtecejnilajbdpaaGreatDoor
open Go.RowKit Go.Shelf Garner
theorem ptrE : Elem Tryz.prog 80 84 (.pointer none) 1 8 := ⟨Tryz.underlying80, by kernel_rfl, rfl, by omega, by omega⟩
def PatV (w : World) (f : FilP) (v : Value) : Prop := v.oneCell' = true ∧ (likeO f.op = true → ∃ b t, v = .pointer (some ⟨b, 0, none⟩) ∧ rexpP f.text = .ok t ∧ MatIs w b t)
abbrev TF : List TypeId := [82, 84]
theorem PatV.keepT {T : List TypeId} {w w' : World} {f : FilP} {v : Value} (h : PatV w f v) (hk : KeepM T w w') (h0 : 116 ∉ T) (h1 : 157 ∉ T) (h2 : 160 ∉ T) (h3 : 21 ∉ T) : PatV w' f v :=
 ⟨h.1, fun hl => by obtain ⟨b, t, e1, e2, e3⟩ := h.2 hl; exact ⟨b, t, e1, e2, e3.keepT hk h0 h1 h2 h3⟩⟩
theorem PatV.below {w w' : World} {f : FilP} {v : Value} (h : PatV w f v) (hb : Below w.heap.size w w') : PatV w' f v := h.keepT (T := []) (.of_below hb) (by simp) (by simp) (by simp) (by simp)
structure FilIs (B : Nat) (w : World) (g : Nat) (v1 v2 P Q : Value) (q : QueryP) (pv : List Value) : Prop where
 blk : Blk w g 82 [v1, v2, P, Q]
 ms : w.ownsRow B 69 3 v1 q.ms.length (q.ms.flatMap MatP.cells)
 fs : w.ownsRow B 71 2 v2 q.fs.length (q.fs.flatMap FilP.cells)
 ps : w.ownsRow B 84 1 P (pv.take q.ms.length).length (pv.take q.ms.length)
 qs : w.ownsRow B 84 1 Q (pv.drop q.ms.length).length (pv.drop q.ms.length)
 dis : ∀ b, P.ownBlock = some b → Q.ownBlock ≠ some b
 pat : ∀ (k : Nat) (f : FilP) (v : Value), (partsQ q)[k]? = some f → pv[k]? = some v → PatV w f v
 low : B ≤ g
section
variable {B : Nat} {w w' : World} {g : Nat} {v1 v2 P Q P' Q' v : Value} {q : QueryP} {pv : List Value} {f : FilP} {T : List TypeId}
theorem FilIs.keepT (h : FilIs B w g v1 v2 P Q q pv) (hk : KeepM T w w') (h0 : 116 ∉ T) (h1 : 157 ∉ T) (h2 : 160 ∉ T) (h3 : 21 ∉ T) (h4 : 82 ∉ T) (h5 : 69 ∉ T) (h6 : 71 ∉ T) (h7 : 84 ∉ T) : FilIs B w' g v1 v2 P Q q pv :=
 ⟨hk.blk h.blk h4, hk.own h.ms h5, hk.own h.fs h6, hk.own h.ps h7, hk.own h.qs h7, h.dis, fun k f v e1 e2 => (h.pat k f v e1 e2).keepT hk h0 h1 h2 h3, h.low⟩
theorem FilIs.below (h : FilIs B w g v1 v2 P Q q pv) (hb : Below w.heap.size w w') : FilIs B w' g v1 v2 P Q q pv := h.keepT (T := []) (.of_below hb) (by simp) (by simp) (by simp) (by simp) (by simp) (by simp) (by simp) (by simp)
theorem FilIs.pat_app (h : FilIs B w g v1 v2 P Q q pv) (hf : (partsQ q)[pv.length]? = some f) (hv : PatV w f v) (hk : KeepM TF w w') : ∀ (k : Nat) (f : FilP) (u : Value), (partsQ q)[k]? = some f → (pv ++ [v])[k]? = some u → PatV w' f u := by
 intro k f' u h1 h2
 by_cases hk' : k < pv.length
 ·rw [List.getElem?_append_left hk'] at h2
  exact (h.pat k f' u h1 h2).keepT hk (by decide) (by decide) (by decide) (by decide)
 rw [List.getElem?_append_right (by omega)] at h2
 obtain rfl : k = pv.length := by
  have := (List.getElem?_eq_some_iff.1 h2).1
  simp at this
  omega
 rw [hf] at h1
 cases h1
 simp at h2
 subst h2
 exact hv.keepT hk (by decide) (by decide) (by decide) (by decide)
theorem FilIs.stepP (h : FilIs B w g v1 v2 P Q q pv) (hk : pv.length < q.ms.length) (hf : (partsQ q)[pv.length]? = some f) (hv : PatV w f v) (hg : w.grownBy w' P.ownBlock) (ho : w'.ownsRow B 84 1 P' (pv.length + 1) (pv ++ [v])) (hx : P'.ownBlock = P.ownBlock ∨ P'.ownBlock = some w.heap.size) : FilIs B (w'.setCell ⟨g, 2, none⟩ P') g v1 v2 P' Q q (pv ++ [v]) := by
 have n1 : some g ≠ P.ownBlock := fun e => own_blk h.ps h.blk (by decide) (by rw [← e]; simp)
 have k1 : KeepM [84] w w' := .grownO h.ps (by simp) hg
 have b1 := h.blk.grown hg n1
 have k2 : KeepM [82] w' (w'.setCell ⟨g, 2, none⟩ P') := KeepM.setCell (.refl _ w') (p := ⟨g, 2, none⟩) (show w'.heap[g]? = _ from b1) (by simp) _
 have k3 : KeepM TF w (w'.setCell ⟨g, 2, none⟩ P') := (k1.sub (by simp)).trans (k2.sub (by simp))
 have oth : w'.ownsRow B 84 1 Q _ _ := own_grown h.qs hg (by
  rcases hq : Q.ownBlock with _ | k
  ·exact .inl rfl
  exact .inr fun e => h.dis k e.symm hq)
 have t1 : (pv ++ [v]).take q.ms.length = pv ++ [v] := List.take_of_length_le (by simp; omega)
 have t2 : (pv ++ [v]).drop q.ms.length = pv.drop q.ms.length := by rw [List.drop_eq_nil_of_le (by simp; omega), List.drop_eq_nil_of_le (by omega)]
 refine ⟨b1.set_ 2 P', k2.own (own_grownD h.ms h.ps (by decide) hg) (by decide), k2.own (own_grownD h.fs h.ps (by decide) hg) (by decide), ?_, ?_, ?_, h.pat_app hf hv k3, h.low⟩
 ·rw [t1]; exact k2.own (by simpa using ho) (by decide)
 ·rw [t2]; exact k2.own oth (by decide)
 intro b e e2
 rcases hx with hx | hx
 ·exact h.dis b (hx ▸ e) e2
 rw [hx] at e
 injection e with e
 have := (h.qs.lt b e2).2
 omega
theorem FilIs.stepQ (h : FilIs B w g v1 v2 P Q q pv) (hk : q.ms.length ≤ pv.length) (hf : (partsQ q)[pv.length]? = some f) (hv : PatV w f v) (hg : w.grownBy w' Q.ownBlock) (ho : w'.ownsRow B 84 1 Q' ((pv.drop q.ms.length).length + 1) (pv.drop q.ms.length ++ [v])) (hx : Q'.ownBlock = Q.ownBlock ∨ Q'.ownBlock = some w.heap.size) : FilIs B (w'.setCell ⟨g, 3, none⟩ Q') g v1 v2 P Q' q (pv ++ [v]) := by
 have n1 : some g ≠ Q.ownBlock := fun e => own_blk h.qs h.blk (by decide) (by rw [← e]; simp)
 have k1 : KeepM [84] w w' := .grownO h.qs (by simp) hg
 have b1 := h.blk.grown hg n1
 have k2 : KeepM [82] w' (w'.setCell ⟨g, 3, none⟩ Q') := KeepM.setCell (.refl _ w') (p := ⟨g, 3, none⟩) (show w'.heap[g]? = _ from b1) (by simp) _
 have k3 : KeepM TF w (w'.setCell ⟨g, 3, none⟩ Q') := (k1.sub (by simp)).trans (k2.sub (by simp))
 have oth : w'.ownsRow B 84 1 P _ _ := own_grown h.ps hg (by
  rcases hq : P.ownBlock with _ | k
  ·exact .inl rfl
  exact .inr fun e => h.dis k hq e.symm)
 have t1 : (pv ++ [v]).take q.ms.length = pv.take q.ms.length := List.take_append_of_le_length hk
 have t2 : (pv ++ [v]).drop q.ms.length = pv.drop q.ms.length ++ [v] := List.drop_append_of_le_length hk
 refine ⟨b1.set_ 3 Q', k2.own (own_grownD h.ms h.qs (by decide) hg) (by decide), k2.own (own_grownD h.fs h.qs (by decide) hg) (by decide), ?_, ?_, ?_, h.pat_app hf hv k3, h.low⟩
 ·rw [t1]; exact k2.own oth (by decide)
 ·rw [t2]; exact k2.own (by simpa using ho) (by decide)
 intro b e e2
 rcases hx with hx | hx
 ·exact h.dis b e (hx ▸ e2)
 rw [hx] at e2
 injection e2 with e2
 have := (h.ps.lt b e).2
 omega
theorem FilIs.keepP (h : FilIs B w g v1 v2 P Q q pv) (hg : w.grownBy w' P.ownBlock) : KeepM TF w (w'.setCell ⟨g, 2, none⟩ P') := by
 have n1 : some g ≠ P.ownBlock := fun e => own_blk h.ps h.blk (by decide) (by rw [← e]; simp)
 have k1 : KeepM TF w w' := .grownO h.ps (by simp) hg
 exact KeepM.setCell k1 (p := ⟨g, 2, none⟩) (show w'.heap[g]? = _ from h.blk.grown hg n1) (by simp) _
theorem FilIs.keepQ (h : FilIs B w g v1 v2 P Q q pv) (hg : w.grownBy w' Q.ownBlock) : KeepM TF w (w'.setCell ⟨g, 3, none⟩ Q') := by
 have n1 : some g ≠ Q.ownBlock := fun e => own_blk h.qs h.blk (by decide) (by rw [← e]; simp)
 have k1 : KeepM TF w w' := .grownO h.qs (by simp) hg
 exact KeepM.setCell k1 (p := ⟨g, 3, none⟩) (show w'.heap[g]? = _ from h.blk.grown hg n1) (by simp) _
structure NewS (w0 wr : World) (g : Nat) (v1 v2 P Q MA FA PA : Value) (q : QueryP) (pv : List Value) : Prop where
 fil : FilIs w0.heap.size wr g v1 v2 P Q q pv
 row : wr.ownsRow w0.heap.size 71 2 PA (partsQ q).length ((partsQ q).flatMap FilP.cells)
 box : Blk wr w0.heap.size 25 [MA, FA]
 low : Below w0.heap.size w0 wr
variable {w0 : World} {MA FA PA : Value}
theorem NewS.below (h : NewS w0 w g v1 v2 P Q MA FA PA q pv) (hb : Below w.heap.size w w') : NewS w0 w' g v1 v2 P Q MA FA PA q pv :=
 ⟨h.fil.below hb, own_below h.row hb, h.box.below hb h.box.lt, h.low.trans (hb.mono h.low.size)⟩
theorem NewS.stepP (h : NewS w0 w g v1 v2 P Q MA FA PA q pv) (hk : pv.length < q.ms.length) (hf : (partsQ q)[pv.length]? = some f) (hv : PatV w f v) (hg : w.grownBy w' P.ownBlock) (hb : Below w0.heap.size w w') (ho : w'.ownsRow w0.heap.size 84 1 P' ((pv.take q.ms.length).length + 1) (pv.take q.ms.length ++ [v])) (hx : P'.ownBlock = P.ownBlock ∨ P'.ownBlock = some w.heap.size) : NewS w0 (w'.setCell ⟨g, 2, none⟩ P') g v1 v2 P' Q MA FA PA q (pv ++ [v]) := by
 rw [List.take_of_length_le (by omega)] at ho
 have kp := h.fil.keepP (P' := P') hg
 exact ⟨h.fil.stepP hk hf hv hg ho hx, kp.own h.row (by decide), kp.blk h.box (by decide), (h.low.trans hb).trans ((Below.refl _ _).setCell h.fil.low _)⟩
theorem NewS.stepQ (h : NewS w0 w g v1 v2 P Q MA FA PA q pv) (hk : q.ms.length ≤ pv.length) (hf : (partsQ q)[pv.length]? = some f) (hv : PatV w f v) (hg : w.grownBy w' Q.ownBlock) (hb : Below w0.heap.size w w') (ho : w'.ownsRow w0.heap.size 84 1 Q' ((pv.drop q.ms.length).length + 1) (pv.drop q.ms.length ++ [v])) (hx : Q'.ownBlock = Q.ownBlock ∨ Q'.ownBlock = some w.heap.size) : NewS w0 (w'.setCell ⟨g, 3, none⟩ Q') g v1 v2 P Q' MA FA PA q (pv ++ [v]) := by
 have kp := h.fil.keepQ (Q' := Q') hg
 exact ⟨h.fil.stepQ hk hf hv hg ho hx, kp.own h.row (by decide), kp.blk h.box (by decide), (h.low.trans hb).trans ((Below.refl _ _).setCell h.fil.low _)⟩
end
end Go.Proofs.YtecejnilajbdpaaGreatDoor
namespace Garner
open Go
theorem parts_len (q : QueryP) : (partsQ q).length = q.ms.length + q.fs.length := by simp [partsQ]
theorem parts_mem {q : QueryP} {k : Nat} {f : FilP} (h : (partsQ q)[k]? = some f) (hc : checkQ q = 0) : patOk f = true := List.all_eq_true.1 (check_zero hc).2.2.2.2 f (List.mem_of_getElem? h)
end Garner
namespace Go.Proofs.YtecejnilajbdpaaGreatDoor
open Go.RowKit Go.Shelf Garner
theorem parts_small {w : World} {MA FA : Option Addr} {nm nf : Nat} {q : QueryP} (h : QueryAt w MA nm FA nf q) {k : Nat} {f : FilP} (hf : (partsQ q)[k]? = some f) : f.text.length ≤ 9223372036854775807 := by
 have hm := List.mem_of_getElem? hf
 unfold partsQ at hm
 rcases List.mem_append.1 hm with hm | hm
 ·obtain ⟨m, h1, rfl⟩ := List.mem_map.1 hm
  have := (h.sm m h1).2
  show m.val.length ≤ _
  omega
 have := h.sf f hm
 omega
def QNewO (ck : Nat) (q : QueryP) (w : World) (e : Ending) (w' : World) : Prop := Below w.heap.size w w' ∧ ((ck = 0 ∧ ∃ g v1 v2 P Q pv, e = .returned (.tuple #[.pointer (some ⟨g, 0, none⟩), .int .i64 0]) ∧ FilIs w.heap.size w' g v1 v2 P Q q pv ∧ pv.length = (partsQ q).length) ∨ (ck ≠ 0 ∧ e = .returned (.tuple #[.pointer none, .int .i64 (ck : Nat)])))
theorem mat_one (l : List MatP) : ∀ u ∈ l.flatMap MatP.cells, u.oneCell' = true := by
 intro u hu
 obtain ⟨f, -, h⟩ := List.mem_flatMap.1 hu
 simp [MatP.cells, strB] at h
 rcases h with rfl | rfl | rfl <;> rfl
theorem vQNew (q : QueryP) (MA FA : Option Addr) (nm nf cm cf : Nat) (w : World) (hL : Lt w) (hq : QueryAt w MA nm FA nf q) (hnm : nm ≤ 140737488355328) (hnf : nf ≤ 140737488355328) :
  Calls Tryz.prog 22 #[.agg #[.slice MA nm cm, .slice FA nf cf]] w fun e w' => QNewO (checkQ q) q w e w' := by
 obtain ⟨X, hX⟩ : ∃ X, X = w.alloc (.cells #[.slice MA nm cm, .slice FA nf cf] 25) := ⟨_, rfl⟩
 have hwX : Below w.heap.size w X := by rw [hX]; exact (Below.refl _ _).alloc (Nat.le_refl _) _
 have bX : Blk X w.heap.size 25 [.slice MA nm cm, .slice FA nf cf] := by rw [hX]; exact Blk.new w _ _
 have x0 : X.cell? ⟨w.heap.size, 0, none⟩ = some (.slice MA nm cm) := bX.cell 0
 have x1 : X.cell? ⟨w.heap.size, 1, none⟩ = some (.slice FA nf cf) := bX.cell 1
 have hqX := hq.below hwX
 have hck := vCheck q MA FA nm nf cm cf X (hL.below hwX) hqX hnm hnf
 obtain ⟨CK, hCK⟩ : ∃ CK, checkQ q = CK := ⟨_, rfl⟩
 rw [hCK]
 rw [hCK] at hck
 have HQ := Lh hqX; have HwX := Lh hwX; have BX := Lh bX; have HL := Lh hL; have HCk := Lh hck; have HCK := Lh hCK
 clear hqX hq hwX bX hL hck hCK
 go_enter Tryz.func22, Tryz.ntmps22
 go_upto_region 1 with fail
 rw [← hX]
 clear hX
 go_wp2_with fail
 refine HCk.out.mono ?_
 rintro e w1 ⟨rfl, hb1⟩
 by_cases h0 : CK = 0
 ·subst h0
  obtain ⟨h16, -, -, -, -⟩ := check_zero HCK.out
  have hq1 := HQ.out.below hb1
  rw [hq1.nm_, hq1.nf_] at h16
  have s0 : Blk w1.drew w.heap.size 25 [.slice MA nm cm, .slice FA nf cf] := (BX.out.below hb1 BX.out.lt).drew
  have cl1 := vCloneMat nm (q.ms.flatMap MatP.cells) MA cm w1.heap.size w1.drew hq1.ms (mat_one _) (Nat.le_refl _) (by omega)
  have hd1 : Below w1.heap.size w1 w1.drew := (Below.refl _ _).drew
  have HQ1 := Lh hq1; have HCl1 := Lh cl1; have HW1 := Lh (HwX.out.trans (hb1.mono HwX.out.size)); have H16 := Lh h16; have Hd1 := Lh hd1
  clear hb1 hq1 cl1 h16 hd1 x0 x1
  go_upto_region 4 with fail
  refine rgQ (fun w' => Blk w' w.heap.size 25 [.slice MA nm cm, .slice FA nf cf]) 100 (by kernel_rfl) (fun _ _ d _ _ h => by cases d <;> exact h) fun qP => ?_
  apply tkq 0 (by kernel_rfl) rfl qP s0
  ·intro w' hS'; go_simp; exact ⟨rfl, rfl⟩
  apply tkq 3 (by kernel_rfl) rfl qP s0
  ·intro w' hS'; go_simp; exact ⟨rfl, rfl⟩
  apply tkq 1 (v := (.slice MA nm cm)) (by kernel_rfl) rfl qP s0
  ·intro w' hS'; have k := hS'.cell 0; go_simp; exact ⟨rfl, rfl⟩
  apply tkq 4 (v := (.slice FA nf cf)) (by kernel_rfl) rfl qP s0
  ·intro w' hS'; have k := hS'.cell 1; go_simp; exact ⟨rfl, rfl⟩
  (try simp only [Act.put]); (try simp only [List.setIfInBounds_toArray]); (try simp only [List.set])
  refine rnL 2 (by kernel_rfl) rfl (by kernel_rfl) (fun K hK => ?_)
  go_simp
  refine HCl1.out.mono ?_
  rintro e w2 ⟨v1, rfl, o1, b2⟩
  obtain ⟨A1, c1, rfl, -⟩ := own_form o1
  have hb2 := Hd1.out.trans b2
  have s2 := s0.below b2 s0.lt
  have hq2 := HQ1.out.below hb2
  have cl2 := vCloneFil nf (q.fs.flatMap FilP.cells) FA cf w2.heap.size w2 hq2.fs (fil_one _) (Nat.le_refl _) (by have := H16.out; omega)
  have HCl2 := Lh cl2; have HB2 := Lh hb2; have O1 := Lh o1
  refine hK _ _ (fun _ => s2) ?_
  clear hK K cl2 hb2 o1 s0 b2 hq2
  (try simp only [Act.put])
  refine rnL 5 (by kernel_rfl) rfl (by kernel_rfl) (fun K hK => ?_)
  go_simp
  refine HCl2.out.mono ?_
  rintro e w3 ⟨v2, rfl, o2, b3⟩
  obtain ⟨A2, c2, rfl, -⟩ := own_form o2
  have s3 := s2.below b3 s2.lt
  have O13 := Lh (own_below O1.out b3); have O23 := Lh (own_mono o2 (HB2.out.size)); have HB3 := Lh (HB2.out.trans (b3.mono HB2.out.size))
  refine hK _ _ (fun _ => s3) ?_
  clear hK K o2 s2 b3 HB2 O1 HCl1 HCl2 Hd1
  (try simp only [Act.put])
  apply tkq 6 (by kernel_rfl) rfl qP s3
  ·intro w' hS'; go_simp; exact ⟨rfl, rfl⟩
  apply tkq 7 (by kernel_rfl) rfl qP s3
  ·intro w' hS'; go_simp; exact ⟨rfl, rfl⟩
  (try simp only [Act.put]); (try simp only [List.setIfInBounds_toArray]); (try simp only [List.set])
  refine rnL 8 (by kernel_rfl) rfl (by kernel_rfl) (fun K hK => ?_)
  go_simp
  obtain ⟨G, hG⟩ : ∃ G, G = w3.alloc (.cells #[.slice A1 nm c1, .slice A2 nf c2, .slice none 0 0, .slice none 0 0] 82) := ⟨_, rfl⟩
  rw [← hG]
  have hbG : Below w3.heap.size w3 G := by rw [hG]; exact (Below.refl _ _).alloc (Nat.le_refl _) _
  have kG : Blk G w3.heap.size 82 [.slice A1 nm c1, .slice A2 nf c2, .slice none 0 0, .slice none 0 0] := by rw [hG]; exact Blk.new w3 _ _
  have sG := s3.below hbG s3.lt
  have hlow3 := HW1.out.trans (HB3.out.mono HW1.out.size)
  have hw3 : w.heap.size ≤ w3.heap.size := hlow3.size
  have filG : FilIs w.heap.size G w3.heap.size (.slice A1 nm c1) (.slice A2 nf c2) (.slice none 0 0) (.slice none 0 0) q [] := ⟨kG, by rw [HQ1.out.nm_]; exact own_mono (own_below O13.out hbG) HW1.out.size, by rw [HQ1.out.nf_]; exact own_mono (own_below O23.out hbG) HW1.out.size, (by simp; exact World.ownsRow_nil _ _ _ _), (by simp; exact World.ownsRow_nil _ _ _ _), (by intro b e; cases e), (by intro k f v _ e; simp at e), hw3⟩
  have hqG := (HQ1.out.below HB3.out).below hbG
  have hall := vAllQ q MA FA nm nf cm cf G hqG (by have := H16.out; omega) (by have := H16.out; omega)
  have HFil := Lh filG; have HAll := Lh hall; have LG := Lh (hlow3.trans (hbG.mono hw3)); have SG := Lh sG; have HQG := Lh hqG
  obtain ⟨g, hg⟩ : ∃ g, w3.heap.size = g := ⟨_, rfl⟩
  rw [hg] at HFil ⊢
  refine hK _ _ (fun _ => sG) ?_
  clear hK K hbG kG hlow3 filG hqG hall hG s3 HB3 O13 O23 HW1 HQ1 hw3 hg
  (try simp only [Act.put])
  apply tkq 9 (by kernel_rfl) rfl qP sG
  ·intro w' hS'; go_simp; exact ⟨rfl, rfl⟩
  (try simp only [Act.put]); (try simp only [List.setIfInBounds_toArray]); (try simp only [List.set])
  refine dnL (by kernel_rfl) ?_ _
  have g0 : G.cell? ⟨w.heap.size, 0, none⟩ = some (.slice MA nm cm) := SG.out.cell 0
  have g1 : G.cell? ⟨w.heap.size, 1, none⟩ = some (.slice FA nf cf) := SG.out.cell 1
  clear sG
  go_wp2_with fail
  refine HAll.out.mono ?_
  rintro e w4 ⟨v4, rfl, o4, b4⟩
  obtain ⟨PA, pc, rfl, -⟩ := own_form o4
  have hN : (partsQ q).length = nm + nf := by rw [parts_len, HQ.out.nm_, HQ.out.nf_]
  have HS0 : Hid (NewS w w4 g (.slice A1 nm c1) (.slice A2 nf c2) (.slice none 0 0) (.slice none 0 0) (.slice MA nm cm) (.slice FA nf cf) (.slice PA (partsQ q).length pc) q []) := Lh ⟨HFil.out.below b4, own_mono o4 LG.out.size, SG.out.below b4 SG.out.lt, LG.out.trans (b4.mono LG.out.size)⟩
  rw [hN] at HS0 ⊢
  have HN_ := Lh hN
  clear o4 b4 g0 g1 HAll HFil LG SG HQG hN
  go_wp2_with fail
  go_loopw [26] (fun i wr => ∃ (k : Nat) (P Q : Value) (pv : List Value), k ≤ nm + nf ∧ i = .int .i64 k ∧ Hid (pv.length = k) ∧ Hid (NewS w wr g (.slice A1 nm c1) (.slice A2 nf c2) P Q (.slice MA nm cm) (.slice FA nf cf) (.slice PA (nm + nf) pc) q pv)) (fun i _ => nm + nf - (intOf i).toNat)
  case atStart => exact ⟨0, _, _, [], Nat.zero_le _, rfl, Lh rfl, HS0⟩
  obtain ⟨k, P, Q, pv, hk, rfl, HLn, HS⟩ := hrel
  obtain ⟨wo, rfl⟩ : ∃ wo : World, wo = wr := ⟨_, rfl⟩
  have wk1 : IntKind.i64.wrap ((k : Int) + 1) = ((k + 1 : Nat) : Int) := by rw [IntKind.wrap_i64]; have := H16.out; omega
  by_cases hlt : k < nm + nf
  ·have z1 : (k : Int) < (nm : Int) + (nf : Int) := by omega
   obtain ⟨f, hf⟩ : ∃ f, (partsQ q)[k]? = some f := ⟨_, List.getElem?_eq_getElem (by rw [HN_.out]; exact hlt)⟩
   have hrow := HS.out.row
   rw [HN_.out] at hrow
   obtain ⟨b, off, rfl, hc⟩ := fil_cells (Row.of_own hrow) hf hlt
   obtain ⟨c0, c1⟩ := hc wo (Below.refl _ _)
   obtain ⟨N1, e1, hN1⟩ := str_form f.text
   rw [e1] at c1
   obtain ⟨fo, hfo⟩ : ∃ fo, f.op = fo := ⟨_, rfl⟩
   rw [hfo] at c0
   obtain ⟨V, hV⟩ : ∃ V, V = wo.alloc (.cells #[.int .i64 fo, .string N1] 71) := ⟨_, rfl⟩
   have bV : Below wo.heap.size wo V := by rw [hV]; exact (Below.refl _ _).alloc (Nat.le_refl _) _
   have kV : Blk V wo.heap.size 71 [.int .i64 fo, .string N1] := by rw [hV]; exact Blk.new wo _ _
   have v0 : V.cell? ⟨wo.heap.size, 0, none⟩ = some (.int .i64 fo) := kV.cell 0
   have v1 : V.cell? ⟨wo.heap.size, 1, none⟩ = some (.string N1) := kV.cell 1
   have hSV := HS.out.below bV
   have hlk := vLike fo V
   obtain ⟨lk, hlk2⟩ : ∃ lk, likeO fo = lk := ⟨_, rfl⟩
   rw [hlk2] at hlk
   have HSV := Lh hSV; have HLk := Lh hlk; have Hf := Lh hf; have Hfo := Lh (show likeO f.op = lk by rw [hfo]; exact hlk2); have HN1 := Lh hN1; have HE1 := Lh e1
   clear hSV hlk hf hrow hc bV kV hlk2 hfo hN1 e1
   go_upto_region 9 with fail
   rw [← hV]
   clear hV c0 c1
   go_wp2_with fail
   refine HLk.out.mono ?_
   rintro e wx ⟨rfl, hwx⟩
   obtain rfl : V = wx := hwx.symm
   clear HLk
   cases lk with
   | true =>
    obtain ⟨t, ht⟩ := pat_rexp (parts_mem Hf.out HCK.out) Hfo.out
    have hn := vNew f.text V (HL.out.below HSV.out.low) (parts_small HQ.out Hf.out)
    rw [ht, show str f.text = Value.string N1 from HE1.out] at hn
    have HNw := Lh hn; have Ht := Lh ht
    clear hn ht
    go_wp2_with fail
    refine HNw.out.mono ?_
    rintro e w5 ⟨hb5, pb, rfl, hm⟩
    have HN : Hid (NewS w w5 g (.slice A1 nm c1) (.slice A2 nf c2) P Q (.slice MA nm cm) (.slice FA nf cf) (.slice (some ⟨b, off, none⟩) (nm + nf) pc) q pv) := Lh (HSV.out.below hb5)
    have Hv : Hid (PatV w5 f (.pointer (some ⟨pb, 0, none⟩))) := Lh ⟨rfl, fun _ => ⟨pb, t, rfl, Ht.out, hm⟩⟩
    clear hb5 hm HSV v0 v1 HNw HS
    by_cases hkm : k < nm
    ·have z2 : (k : Int) < (nm : Int) := by omega
     have ops := HN.out.fil.ps
     obtain ⟨lp, hlp⟩ : ∃ lp, (pv.take q.ms.length).length = lp := ⟨_, rfl⟩
     have hlp2 : lp ≤ 32 := by have := HLn.out; have := H16.out; rw [← hlp]; simp only [List.length_take]; omega
     rw [hlp] at ops
     obtain ⟨AP, cP, rfl, -⟩ := own_form ops
     have y2 : w5.cell? ⟨g, 2, none⟩ = some (.slice AP lp cP) := HN.out.fil.blk.cell 2
     have yb : w5.cell? ⟨w.heap.size, 0, none⟩ = some (.slice MA nm cm) := HN.out.box.cell 0
     have hwn : w.heap.size ≤ w5.heap.size := HN.out.low.size
     have OP := Lh (ops.alloc (.cells #[.pointer (some ⟨pb, 0, none⟩)] 84)); have HLp := Lh hlp
     clear ops hlp
     have hba : Below w5.heap.size w5 (w5.alloc (.cells #[.pointer (some ⟨pb, 0, none⟩)] 84)) := (Below.refl _ _).alloc (Nat.le_refl _) _
     have HNA := Lh (HN.out.below hba)
     have HVA := Lh (Hv.out.below hba)
     go_wp2_with (at_builtin; refine wpList_app _ rfl ptrE rfl rfl OP.out rfl (row_newN w5 84 1 1 [.pointer (some ⟨pb, 0, none⟩)] rfl) (by intro u hu; rw [List.mem_singleton] at hu; subst hu; rfl) (by omega) (by simp; omega) ?_; intro v8 w8 own8 hg8 hb8 hx8; obtain ⟨A8, m8, rfl, -⟩ := own_form own8; have n8 : some g ≠ Value.ownBlock (.slice AP lp cP) := fun e => own_blk HNA.out.fil.ps HNA.out.fil.blk (by decide) (by rw [← e]; simp); have B8 := Lh (HNA.out.fil.blk.grown hg8 n8); have c8 : w8.cell? ⟨g, 2, none⟩ = some (.slice AP lp cP) := B8.out.cell 2; have f8 : w8.frozen? ⟨g, 2, none⟩ = false := B8.out.frozen 2)
     have hst := HNA.out.stepP (P' := .slice A8 (lp + 1) m8) (by rw [HLn.out, HQ.out.nm_]; exact hkm) (by rw [HLn.out]; exact Hf.out) HVA.out hg8 hb8 (by rw [HLp.out]; exact own8) hx8
     have HST := Lh hst
     clear own8 hg8 hb8 hx8 n8 hst hba
     go_wp2
     exact ⟨⟨k + 1, _, _, _, by omega, by first | rfl | go_num, Lh (by simp [HLn.out]), HST⟩, by simp [intOf]; omega⟩
    have z2 : ¬ (k : Int) < (nm : Int) := by omega
    have ops := HN.out.fil.qs
    obtain ⟨lp, hlp⟩ : ∃ lp, (pv.drop q.ms.length).length = lp := ⟨_, rfl⟩
    have hlp2 : lp ≤ 32 := by have := HLn.out; have := H16.out; rw [← hlp]; simp only [List.length_drop]; omega
    rw [hlp] at ops
    obtain ⟨AP, cP, rfl, -⟩ := own_form ops
    have y3 : w5.cell? ⟨g, 3, none⟩ = some (.slice AP lp cP) := HN.out.fil.blk.cell 3
    have yb : w5.cell? ⟨w.heap.size, 0, none⟩ = some (.slice MA nm cm) := HN.out.box.cell 0
    have hwn : w.heap.size ≤ w5.heap.size := HN.out.low.size
    have OP := Lh (ops.alloc (.cells #[.pointer (some ⟨pb, 0, none⟩)] 84)); have HLp := Lh hlp
    clear ops hlp
    have hba : Below w5.heap.size w5 (w5.alloc (.cells #[.pointer (some ⟨pb, 0, none⟩)] 84)) := (Below.refl _ _).alloc (Nat.le_refl _) _
    have HNA := Lh (HN.out.below hba)
    have HVA := Lh (Hv.out.below hba)
    go_wp2_with (at_builtin; refine wpList_app _ rfl ptrE rfl rfl OP.out rfl (row_newN w5 84 1 1 [.pointer (some ⟨pb, 0, none⟩)] rfl) (by intro u hu; rw [List.mem_singleton] at hu; subst hu; rfl) (by omega) (by simp; omega) ?_; intro v8 w8 own8 hg8 hb8 hx8; obtain ⟨A8, m8, rfl, -⟩ := own_form own8; have n8 : some g ≠ Value.ownBlock (.slice AP lp cP) := fun e => own_blk HNA.out.fil.qs HNA.out.fil.blk (by decide) (by rw [← e]; simp); have B8 := Lh (HNA.out.fil.blk.grown hg8 n8); have c8 : w8.cell? ⟨g, 3, none⟩ = some (.slice AP lp cP) := B8.out.cell 3; have f8 : w8.frozen? ⟨g, 3, none⟩ = false := B8.out.frozen 3)
    have hst := HNA.out.stepQ (Q' := .slice A8 (lp + 1) m8) (by rw [HLn.out, HQ.out.nm_]; omega) (by rw [HLn.out]; exact Hf.out) HVA.out hg8 hb8 (by rw [HLp.out]; exact own8) hx8
    have HST := Lh hst
    clear own8 hg8 hb8 hx8 n8 hst hba
    go_wp2
    exact ⟨⟨k + 1, _, _, _, by omega, by first | rfl | go_num, Lh (by simp [HLn.out]), HST⟩, by simp [intOf]; omega⟩
   | false =>
    have HN := HSV
    have Hv : Hid (PatV V f (.pointer none)) := Lh ⟨rfl, fun h => by rw [Hfo.out] at h; cases h⟩
    clear HSV v0 v1 HS
    by_cases hkm : k < nm
    ·have z2 : (k : Int) < (nm : Int) := by omega
     have ops := HN.out.fil.ps
     obtain ⟨lp, hlp⟩ : ∃ lp, (pv.take q.ms.length).length = lp := ⟨_, rfl⟩
     have hlp2 : lp ≤ 32 := by have := HLn.out; have := H16.out; rw [← hlp]; simp only [List.length_take]; omega
     rw [hlp] at ops
     obtain ⟨AP, cP, rfl, -⟩ := own_form ops
     have y2 : V.cell? ⟨g, 2, none⟩ = some (.slice AP lp cP) := HN.out.fil.blk.cell 2
     have yb : V.cell? ⟨w.heap.size, 0, none⟩ = some (.slice MA nm cm) := HN.out.box.cell 0
     have hwn : w.heap.size ≤ V.heap.size := HN.out.low.size
     have OP := Lh (ops.alloc (.cells #[.pointer none] 84)); have HLp := Lh hlp
     clear ops hlp
     have hba : Below V.heap.size V (V.alloc (.cells #[.pointer none] 84)) := (Below.refl _ _).alloc (Nat.le_refl _) _
     have HNA := Lh (HN.out.below hba)
     have HVA := Lh (Hv.out.below hba)
     go_wp2_with (at_builtin; refine wpList_app _ rfl ptrE rfl rfl OP.out rfl (row_newN V 84 1 1 [.pointer none] rfl) (by intro u hu; rw [List.mem_singleton] at hu; subst hu; rfl) (by omega) (by simp; omega) ?_; intro v8 w8 own8 hg8 hb8 hx8; obtain ⟨A8, m8, rfl, -⟩ := own_form own8; have n8 : some g ≠ Value.ownBlock (.slice AP lp cP) := fun e => own_blk HNA.out.fil.ps HNA.out.fil.blk (by decide) (by rw [← e]; simp); have B8 := Lh (HNA.out.fil.blk.grown hg8 n8); have c8 : w8.cell? ⟨g, 2, none⟩ = some (.slice AP lp cP) := B8.out.cell 2; have f8 : w8.frozen? ⟨g, 2, none⟩ = false := B8.out.frozen 2)
     have hst := HNA.out.stepP (P' := .slice A8 (lp + 1) m8) (by rw [HLn.out, HQ.out.nm_]; exact hkm) (by rw [HLn.out]; exact Hf.out) HVA.out hg8 hb8 (by rw [HLp.out]; exact own8) hx8
     have HST := Lh hst
     clear own8 hg8 hb8 hx8 n8 hst hba
     go_wp2
     exact ⟨⟨k + 1, _, _, _, by omega, by first | rfl | go_num, Lh (by simp [HLn.out]), HST⟩, by simp [intOf]; omega⟩
    have z2 : ¬ (k : Int) < (nm : Int) := by omega
    have ops := HN.out.fil.qs
    obtain ⟨lp, hlp⟩ : ∃ lp, (pv.drop q.ms.length).length = lp := ⟨_, rfl⟩
    have hlp2 : lp ≤ 32 := by have := HLn.out; have := H16.out; rw [← hlp]; simp only [List.length_drop]; omega
    rw [hlp] at ops
    obtain ⟨AP, cP, rfl, -⟩ := own_form ops
    have y3 : V.cell? ⟨g, 3, none⟩ = some (.slice AP lp cP) := HN.out.fil.blk.cell 3
    have yb : V.cell? ⟨w.heap.size, 0, none⟩ = some (.slice MA nm cm) := HN.out.box.cell 0
    have hwn : w.heap.size ≤ V.heap.size := HN.out.low.size
    have OP := Lh (ops.alloc (.cells #[.pointer none] 84)); have HLp := Lh hlp
    clear ops hlp
    have hba : Below V.heap.size V (V.alloc (.cells #[.pointer none] 84)) := (Below.refl _ _).alloc (Nat.le_refl _) _
    have HNA := Lh (HN.out.below hba)
    have HVA := Lh (Hv.out.below hba)
    go_wp2_with (at_builtin; refine wpList_app _ rfl ptrE rfl rfl OP.out rfl (row_newN V 84 1 1 [.pointer none] rfl) (by intro u hu; rw [List.mem_singleton] at hu; subst hu; rfl) (by omega) (by simp; omega) ?_; intro v8 w8 own8 hg8 hb8 hx8; obtain ⟨A8, m8, rfl, -⟩ := own_form own8; have n8 : some g ≠ Value.ownBlock (.slice AP lp cP) := fun e => own_blk HNA.out.fil.qs HNA.out.fil.blk (by decide) (by rw [← e]; simp); have B8 := Lh (HNA.out.fil.blk.grown hg8 n8); have c8 : w8.cell? ⟨g, 3, none⟩ = some (.slice AP lp cP) := B8.out.cell 3; have f8 : w8.frozen? ⟨g, 3, none⟩ = false := B8.out.frozen 3)
    have hst := HNA.out.stepQ (Q' := .slice A8 (lp + 1) m8) (by rw [HLn.out, HQ.out.nm_]; omega) (by rw [HLn.out]; exact Hf.out) HVA.out hg8 hb8 (by rw [HLp.out]; exact own8) hx8
    have HST := Lh hst
    clear own8 hg8 hb8 hx8 n8 hst hba
    go_wp2
    exact ⟨⟨k + 1, _, _, _, by omega, by first | rfl | go_num, Lh (by simp [HLn.out]), HST⟩, by simp [intOf]; omega⟩
  obtain rfl : k = nm + nf := by omega
  have z1 : ¬ (nm : Int) + (nf : Int) < (nm : Int) + (nf : Int) := by omega
  go_wp2
  go_ret2
  exact ⟨HS.out.low, .inl ⟨rfl, g, _, _, _, _, pv, rfl, HS.out.fil, by rw [HLn.out, HN_.out]⟩⟩
 have z0 : ¬ (CK : Int) = 0 := by omega
 have HW := Lh (HwX.out.trans (hb1.mono HwX.out.size)); have H0 := Lh h0
 clear hb1 h0
 go_wp2
 go_ret2
 exact ⟨HW.out, .inr ⟨H0.out, rfl⟩⟩
end Go.Proofs.YtecejnilajbdpaaGreatDoor
