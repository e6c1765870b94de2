/-
  PostSeeks answers true for every list and all seeks: seeks and steps through a list find just what a look at all of it finds. No condition.
-/
import Derived.Test.YtmalkgakdmghiaaOpnU
import Derived.Test.YtmalkgakdmghiaaLawPS
namespace Go.Proofs.Ytmalkgakdmghiaa
open Go.ChangeShapes Go.WideShapes Go.ChangeAt Go.RowKit Garner

namespace postSeeks
theorem own : ownKnob Try.prog.godebug = none := by kernel_rfl
theorem laidOut : laidOutB Try.prog = true := by kernel_rfl
set_option linter.unusedVariables false in
set_option maxRecDepth 100000 in
theorem contract (H : Type) (enc : TypeId × Value → H) (W : World) (base : Nat) (args : Array Value) (ds gs : List (DataW H)) (before : List MemPlace)
    (hval : ∀ (j : Nat) t v, Try.f3.params[j]? = some t → args[j]? = some v → Value.okWide Try.prog W .any base t v)
    (hW : DataW.Whole enc Try.prog Try.f3.params.toList Rows.postSeeksSpec.vars false W args.toList ds gs before) (hsz : (DataW.weightsEach Try.prog (Try.f3.params.toList ++ Rows.postSeeksSpec.plain.varTypes Try.prog) (ds ++ gs)).all (· ≤ reachBytes) = true) :
    Calls Try.prog 3 args W fun e W' => ∃ v, e = .returned v ∧ Rows.postSeeksSpec.post enc Try.prog Try.f3 false true false false W args v W' := by
  have hW' := hW
  obtain ⟨p, q, hA0, hV, rfl, hfz, hnd⟩ := hW
  have hA : DataW.TrodAll enc Try.prog W 0 (fun _ => true) true Try.f3.params.toList args.toList ds p := hA0
  rw [Try.params3] at hA hval hsz
  obtain ⟨v0, vs0, d0, ds0, p0, q0, hargs, rfl, rfl, h0, r0⟩ := trodAll_cons hA
  obtain ⟨v1, vs1, d1, ds1, p1, q1, rfl, rfl, rfl, h1, r1⟩ := trodAll_cons r0
  obtain ⟨rfl, rfl, rfl⟩ := trodAll_nil r1
  obtain rfl : args = #[v0, v1] := by cases args; simp_all
  obtain ⟨rfl, rfl⟩ := trodVars_none hV
  have k0 := h0
  have lt0 : ∀ x ∈ p0, x.block < W.heap.size := by obtain ⟨m, hm⟩ := k0; exact DataW.trod_lt m _ _ _ hm
  obtain ⟨x0, c0, m0, b0⟩ := open_arg (K := kU64s) o_u64s h0 (sized_arg hsz (j := 0) rfl rfl)
  have e0 := val_slice Try.underlying22 (hval 0 22 v0 rfl rfl) c0
  subst e0
  have k1 := h1
  have lt1 : ∀ x ∈ p1, x.block < W.heap.size := by obtain ⟨m, hm⟩ := k1; exact DataW.trod_lt m _ _ _ hm
  obtain ⟨x1, c1, m1, b1⟩ := open_arg (K := kU64s) o_u64s h1 (sized_arg hsz (j := 1) rfl rfl)
  have e1 := val_slice Try.underlying22 (hval 1 22 v1 rfl rfl) c1
  subst e1
  clear hA0
  obtain ⟨l, hl, hb, hcl, hcr, hn⟩ := u64s_of m0
  obtain ⟨s, hl2, hb2, hcl2, hcr2, hn2⟩ := u64s_of m1
  have hcall := lawPS l s x0.A x1.A x0.c x1.c W.heap.size W hb hb2 (Nat.le_refl _) hn hn2 (by omega) (by omega) hcl
  rw [hl, hl2] at hcall
  refine (hcall).mono fun e W' ⟨he, bel⟩ => ?_
  subst he
  exact ⟨_, rfl, _, _, _, [], _, [], hW', trodAll_mk1 (shut_bool Try.underlying4 _), (trodAll_cons_mk (Below.trod laidOut (by kernel_rfl) (of_decide_eq_true (by kernel_rfl)) k0 bel lt0) (trodAll_cons_mk (Below.trod laidOut (by kernel_rfl) (of_decide_eq_true (by kernel_rfl)) k1 bel lt1) trodAll_mk0)), rfl, bel.frame _, fun h => by cases h⟩
set_option maxRecDepth 100000 in
theorem lifted (os : Os) (started : os.Started) (H : Type) (enc : TypeId × Value → H) :
    ReturnsInHanded {} Try.checked os 3 .any (Rows.postSeeksSpec.pre6 enc Try.prog Try.f3 Rows.postSeeksRow.domain false) (Rows.postSeeksSpec.post enc Try.prog Try.f3 false true false false) := by
  refine returnsInHanded_of_change_sized (C := Try.checked) own started (by kernel_rfl) Try.func3
    (ChangeSpec.witness6 (enc := enc) (C := Try.checked) false ⟨#[], #[.slice none 0 0, .slice none 0 0], []⟩ 8 (by kernel_rfl) (by kernel_rfl) (by kernel_rfl) (by kernel_rfl)) ?_
  intro W base args ds gs before hval hW _ hsz _
  exact contract H enc W base args ds gs before hval hW hsz
theorem postSeeks_holds : Rows.PostSeeksSaid :=
  OpenClaim.holds_of_wide 3 Try.f3 rfl rfl rfl rfl rfl rfl rfl ⟨rfl, rfl, rfl, rfl, rfl⟩ rfl rfl rfl rfl rfl (by kernel_rfl) Try.func3 (by kernel_rfl)
    (of_decide_eq_true (by kernel_rfl)) (by unfold Func.isWrapper; first | (rw [if_pos (by decide +kernel)]; kernel_rfl) | (rw [if_neg (by decide +kernel)]; exact ⟨rfl, rfl⟩))
    (fun os started H enc _ => lifted os started H enc)
end postSeeks
end Go.Proofs.Ytmalkgakdmghiaa
