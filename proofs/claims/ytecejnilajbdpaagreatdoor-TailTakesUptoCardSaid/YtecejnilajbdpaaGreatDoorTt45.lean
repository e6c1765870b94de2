import Derived.Test.YtecejnilajbdpaaGreatDoorTt44
import Derived.Test.YtecejnilajbdpaaGreatDoorTt40
/-! query: a filter in memory -/
namespace Garner
open Go
theorem pat_rexp {f : FilP} (h : patOk f = true) (hl : likeO f.op = true) : ∃ t, rexpP f.text = .ok t := by
  unfold patOk at h
  rw [hl] at h
  cases e : rexpP f.text with
  | ok t => exact ⟨t, rfl⟩
  | error k => rw [e] at h; cases h
end Garner
namespace Go.Proofs.YtecejnilajbdpaaGreatDoor
open Go.RowKit Go.Shelf Garner
theorem ptrE : Elem Tryz.prog 80 84 (.pointer none) 1 8 := ⟨Tryz.underlying80, by kernel_rfl, rfl, by omega, by omega⟩
/-- what a filter keeps for a part -/
def PatV (w : World) (f : FilP) (v : Value) : Prop := v.oneCell' = true ∧ (likeO f.op = true → ∃ b t, v = .pointer (some ⟨b, 0, none⟩) ∧ rexpP f.text = .ok t ∧ MatIs w b t)
abbrev TF : List TypeId := [82, 84]
theorem PatV.keepT {T : List TypeId} {w w' : World} {f : FilP} {v : Value} (h : PatV w f v) (hk : KeepM T w w') (h0 : 116 ∉ T) (h1 : 157 ∉ T) (h2 : 160 ∉ T) (h3 : 21 ∉ T) : PatV w' f v :=
  ⟨h.1, fun hl => by obtain ⟨b, t, e1, e2, e3⟩ := h.2 hl; exact ⟨b, t, e1, e2, e3.keepT hk h0 h1 h2 h3⟩⟩
theorem PatV.below {w w' : World} {f : FilP} {v : Value} (h : PatV w f v) (hb : Below w.heap.size w w') : PatV w' f v := h.keepT (T := []) (.of_below hb) (by simp) (by simp) (by simp) (by simp)
/-- a filter of whose parts pv are made -/
structure FilIs (B : Nat) (w : World) (g : Nat) (v1 v2 P Q : Value) (q : QueryP) (pv : List Value) : Prop where
  blk : Blk w g 82 [v1, v2, P, Q]
  ms : w.ownsRow B 69 3 v1 q.ms.length (q.ms.flatMap MatP.cells)
  fs : w.ownsRow B 71 2 v2 q.fs.length (q.fs.flatMap FilP.cells)
  ps : w.ownsRow B 84 1 P (pv.take q.ms.length).length (pv.take q.ms.length)
  qs : w.ownsRow B 84 1 Q (pv.drop q.ms.length).length (pv.drop q.ms.length)
  dis : ∀ b, P.ownBlock = some b → Q.ownBlock ≠ some b
  pat : ∀ (k : Nat) (f : FilP) (v : Value), (partsQ q)[k]? = some f → pv[k]? = some v → PatV w f v
  low : B ≤ g
section
variable {B : Nat} {w w' : World} {g : Nat} {v1 v2 P Q P' Q' v : Value} {q : QueryP} {pv : List Value} {f : FilP} {T : List TypeId}
theorem FilIs.keepT (h : FilIs B w g v1 v2 P Q q pv) (hk : KeepM T w w') (h0 : 116 ∉ T) (h1 : 157 ∉ T) (h2 : 160 ∉ T) (h3 : 21 ∉ T) (h4 : 82 ∉ T) (h5 : 69 ∉ T) (h6 : 71 ∉ T) (h7 : 84 ∉ T) : FilIs B w' g v1 v2 P Q q pv :=
  ⟨hk.blk h.blk h4, hk.own h.ms h5, hk.own h.fs h6, hk.own h.ps h7, hk.own h.qs h7, h.dis, fun k f v e1 e2 => (h.pat k f v e1 e2).keepT hk h0 h1 h2 h3, h.low⟩
theorem FilIs.below (h : FilIs B w g v1 v2 P Q q pv) (hb : Below w.heap.size w w') : FilIs B w' g v1 v2 P Q q pv := h.keepT (T := []) (.of_below hb) (by simp) (by simp) (by simp) (by simp) (by simp) (by simp) (by simp) (by simp)
theorem FilIs.pat_app (h : FilIs B w g v1 v2 P Q q pv) (hf : (partsQ q)[pv.length]? = some f) (hv : PatV w f v) (hk : KeepM TF w w') : ∀ (k : Nat) (f : FilP) (u : Value), (partsQ q)[k]? = some f → (pv ++ [v])[k]? = some u → PatV w' f u := by
  intro k f' u h1 h2
  by_cases hk' : k < pv.length
  · rw [List.getElem?_append_left hk'] at h2
    exact (h.pat k f' u h1 h2).keepT hk (by decide) (by decide) (by decide) (by decide)
  · rw [List.getElem?_append_right (by omega)] at h2
    obtain rfl : k = pv.length := by
      have := (List.getElem?_eq_some_iff.1 h2).1
      simp at this
      omega
    rw [hf] at h1
    cases h1
    simp at h2
    subst h2
    exact hv.keepT hk (by decide) (by decide) (by decide) (by decide)
theorem FilIs.stepP (h : FilIs B w g v1 v2 P Q q pv) (hk : pv.length < q.ms.length) (hf : (partsQ q)[pv.length]? = some f) (hv : PatV w f v) (hg : w.grownBy w' P.ownBlock) (ho : w'.ownsRow B 84 1 P' (pv.length + 1) (pv ++ [v])) (hx : P'.ownBlock = P.ownBlock ∨ P'.ownBlock = some w.heap.size) : FilIs B (w'.setCell ⟨g, 2, none⟩ P') g v1 v2 P' Q q (pv ++ [v]) := by
  have n1 : some g ≠ P.ownBlock := fun e => own_blk h.ps h.blk (by decide) (by rw [← e]; simp)
  have k1 : KeepM [84] w w' := .grownO h.ps (by simp) hg
  have b1 := h.blk.grown hg n1
  have k2 : KeepM [82] w' (w'.setCell ⟨g, 2, none⟩ P') := KeepM.setCell (.refl _ w') (p := ⟨g, 2, none⟩) (show w'.heap[g]? = _ from b1) (by simp) _
  have k3 : KeepM TF w (w'.setCell ⟨g, 2, none⟩ P') := (k1.sub (by simp)).trans (k2.sub (by simp))
  have oth : w'.ownsRow B 84 1 Q _ _ := own_grown h.qs hg (by
    rcases hq : Q.ownBlock with _ | k
    · exact .inl rfl
    · exact .inr fun e => h.dis k e.symm hq)
  have t1 : (pv ++ [v]).take q.ms.length = pv ++ [v] := List.take_of_length_le (by simp; omega)
  have t2 : (pv ++ [v]).drop q.ms.length = pv.drop q.ms.length := by rw [List.drop_eq_nil_of_le (by simp; omega), List.drop_eq_nil_of_le (by omega)]
  refine ⟨b1.set_ 2 P', k2.own (own_grownD h.ms h.ps (by decide) hg) (by decide), k2.own (own_grownD h.fs h.ps (by decide) hg) (by decide), ?_, ?_, ?_, h.pat_app hf hv k3, h.low⟩
  · rw [t1]; exact k2.own (by simpa using ho) (by decide)
  · rw [t2]; exact k2.own oth (by decide)
  · intro b e e2
    rcases hx with hx | hx
    · exact h.dis b (hx ▸ e) e2
    · rw [hx] at e
      injection e with e
      have := (h.qs.lt b e2).2
      omega
theorem FilIs.stepQ (h : FilIs B w g v1 v2 P Q q pv) (hk : q.ms.length ≤ pv.length) (hf : (partsQ q)[pv.length]? = some f) (hv : PatV w f v) (hg : w.grownBy w' Q.ownBlock) (ho : w'.ownsRow B 84 1 Q' ((pv.drop q.ms.length).length + 1) (pv.drop q.ms.length ++ [v])) (hx : Q'.ownBlock = Q.ownBlock ∨ Q'.ownBlock = some w.heap.size) : FilIs B (w'.setCell ⟨g, 3, none⟩ Q') g v1 v2 P Q' q (pv ++ [v]) := by
  have n1 : some g ≠ Q.ownBlock := fun e => own_blk h.qs h.blk (by decide) (by rw [← e]; simp)
  have k1 : KeepM [84] w w' := .grownO h.qs (by simp) hg
  have b1 := h.blk.grown hg n1
  have k2 : KeepM [82] w' (w'.setCell ⟨g, 3, none⟩ Q') := KeepM.setCell (.refl _ w') (p := ⟨g, 3, none⟩) (show w'.heap[g]? = _ from b1) (by simp) _
  have k3 : KeepM TF w (w'.setCell ⟨g, 3, none⟩ Q') := (k1.sub (by simp)).trans (k2.sub (by simp))
  have oth : w'.ownsRow B 84 1 P _ _ := own_grown h.ps hg (by
    rcases hq : P.ownBlock with _ | k
    · exact .inl rfl
    · exact .inr fun e => h.dis k hq e.symm)
  have t1 : (pv ++ [v]).take q.ms.length = pv.take q.ms.length := List.take_append_of_le_length hk
  have t2 : (pv ++ [v]).drop q.ms.length = pv.drop q.ms.length ++ [v] := List.drop_append_of_le_length hk
  refine ⟨b1.set_ 3 Q', k2.own (own_grownD h.ms h.qs (by decide) hg) (by decide), k2.own (own_grownD h.fs h.qs (by decide) hg) (by decide), ?_, ?_, ?_, h.pat_app hf hv k3, h.low⟩
  · rw [t1]; exact k2.own oth (by decide)
  · rw [t2]; exact k2.own (by simpa using ho) (by decide)
  · intro b e e2
    rcases hx with hx | hx
    · exact h.dis b e (hx ▸ e2)
    · rw [hx] at e2
      injection e2 with e2
      have := (h.ps.lt b e).2
      omega
theorem FilIs.keepP (h : FilIs B w g v1 v2 P Q q pv) (hg : w.grownBy w' P.ownBlock) : KeepM TF w (w'.setCell ⟨g, 2, none⟩ P') := by
  have n1 : some g ≠ P.ownBlock := fun e => own_blk h.ps h.blk (by decide) (by rw [← e]; simp)
  have k1 : KeepM TF w w' := .grownO h.ps (by simp) hg
  exact KeepM.setCell k1 (p := ⟨g, 2, none⟩) (show w'.heap[g]? = _ from h.blk.grown hg n1) (by simp) _
theorem FilIs.keepQ (h : FilIs B w g v1 v2 P Q q pv) (hg : w.grownBy w' Q.ownBlock) : KeepM TF w (w'.setCell ⟨g, 3, none⟩ Q') := by
  have n1 : some g ≠ Q.ownBlock := fun e => own_blk h.qs h.blk (by decide) (by rw [← e]; simp)
  have k1 : KeepM TF w w' := .grownO h.qs (by simp) hg
  exact KeepM.setCell k1 (p := ⟨g, 3, none⟩) (show w'.heap[g]? = _ from h.blk.grown hg n1) (by simp) _
/-- where New's loop stands -/
structure NewS (w0 wr : World) (g : Nat) (v1 v2 P Q MA FA PA : Value) (q : QueryP) (pv : List Value) : Prop where
  fil : FilIs w0.heap.size wr g v1 v2 P Q q pv
  row : wr.ownsRow w0.heap.size 71 2 PA (partsQ q).length ((partsQ q).flatMap FilP.cells)
  box : Blk wr w0.heap.size 25 [MA, FA]
  low : Below w0.heap.size w0 wr
variable {w0 : World} {MA FA PA : Value}
theorem NewS.below (h : NewS w0 w g v1 v2 P Q MA FA PA q pv) (hb : Below w.heap.size w w') : NewS w0 w' g v1 v2 P Q MA FA PA q pv :=
  ⟨h.fil.below hb, own_below h.row hb, h.box.below hb h.box.lt, h.low.trans (hb.mono h.low.size)⟩
theorem NewS.stepP (h : NewS w0 w g v1 v2 P Q MA FA PA q pv) (hk : pv.length < q.ms.length) (hf : (partsQ q)[pv.length]? = some f) (hv : PatV w f v) (hg : w.grownBy w' P.ownBlock) (hb : Below w0.heap.size w w') (ho : w'.ownsRow w0.heap.size 84 1 P' ((pv.take q.ms.length).length + 1) (pv.take q.ms.length ++ [v])) (hx : P'.ownBlock = P.ownBlock ∨ P'.ownBlock = some w.heap.size) : NewS w0 (w'.setCell ⟨g, 2, none⟩ P') g v1 v2 P' Q MA FA PA q (pv ++ [v]) := by
  rw [List.take_of_length_le (by omega)] at ho
  have kp := h.fil.keepP (P' := P') hg
  exact ⟨h.fil.stepP hk hf hv hg ho hx, kp.own h.row (by decide), kp.blk h.box (by decide), (h.low.trans hb).trans ((Below.refl _ _).setCell h.fil.low _)⟩
theorem NewS.stepQ (h : NewS w0 w g v1 v2 P Q MA FA PA q pv) (hk : q.ms.length ≤ pv.length) (hf : (partsQ q)[pv.length]? = some f) (hv : PatV w f v) (hg : w.grownBy w' Q.ownBlock) (hb : Below w0.heap.size w w') (ho : w'.ownsRow w0.heap.size 84 1 Q' ((pv.drop q.ms.length).length + 1) (pv.drop q.ms.length ++ [v])) (hx : Q'.ownBlock = Q.ownBlock ∨ Q'.ownBlock = some w.heap.size) : NewS w0 (w'.setCell ⟨g, 3, none⟩ Q') g v1 v2 P Q' MA FA PA q (pv ++ [v]) := by
  have kp := h.fil.keepQ (Q' := Q') hg
  exact ⟨h.fil.stepQ hk hf hv hg ho hx, kp.own h.row (by decide), kp.blk h.box (by decide), (h.low.trans hb).trans ((Below.refl _ _).setCell h.fil.low _)⟩
end
end Go.Proofs.YtecejnilajbdpaaGreatDoor

