/-
  QueryHolds answers true where what it reads is of bulk at most 1048576: every query is checked and printed, and holds of every record or not, as the document says.
-/
import Derived.Test.YtecejnilajbdpaaGreatDoorCards
import Derived.Test.YtecejnilajbdpaaGreatDoorTie
import Derived.SevenTiedAt
import Derived.Deep.DeepHandedRow
import Derived.Lay
import Derived.Test.YtecejnilajbdpaaGreatDoorTz49
import Derived.Test.YtecejnilajbdpaaGreatDoorTz53
set_option maxRecDepth 100000
namespace Go.Proofs.YtecejnilajbdpaaGreatDoor
open Go.ChangeShapes Go.WideShapes Go.ChangeAt Go.RowKit Garner
theorem query_len {w : World} {B : Nat} {x : Sl MatT × Sl FilT × Unit} (h : kQuery.mem w B x) : x.1.l.length ≤ 140737488355328 ∧ x.2.1.l.length ≤ 140737488355328 := by
 obtain ⟨h1, h2, -⟩ := h
 have a := SlMem.cap h1; have b := SlMem.room h1; have c := SlMem.cap h2; have d := SlMem.room h2
 unfold reachBytes at b d
 omega
namespace queryHoldsUpto
theorem own : ownKnob Tryz.prog.godebug = none := by kernel_rfl
theorem laidOut : laidOutB Tryz.prog = true := by kernel_rfl
set_option linter.unusedVariables false in
theorem contract (H : Type) (enc : TypeId × Value → H) (W : World) (base : Nat) (args : Array Value) (ds gs : List (DataW H)) (before : List MemPlace)
  (hval : ∀ (j : Nat) t v, Tryz.f7.params[j]? = some t → args[j]? = some v → Value.okWide Tryz.prog W .any base t v)
  (hW : DataW.Whole enc Tryz.prog Tryz.f7.params.toList Rows.queryHoldsSpec.vars false W args.toList ds gs before) (hsz : (DataW.weightsEach Tryz.prog (Tryz.f7.params.toList ++ Rows.queryHoldsSpec.plain.varTypes Tryz.prog) (ds ++ gs)).all (· ≤ reachBytes) = true) (hk0 : Rows.uptoSmall H (ds ++ gs) = true) (hL : laidMetH Tryz.prog Rows.queryHoldsUptoRow.laid W) (hsh : W.ShapedOpen Tryz.prog) :
  Calls Tryz.prog 7 args W fun e W' => ∃ v, e = .returned v ∧ Rows.queryHoldsSpec.post enc Tryz.prog Tryz.f7 false true false false W args v W' := by
 have hW' := hW
 obtain ⟨p, q, hA0, hV, rfl, hfz, hnd⟩ := hW
 have hA : DataW.TrodAll enc Tryz.prog W 0 (fun _ => true) true Tryz.f7.params.toList args.toList ds p := hA0
 rw [Tryz.params7] at hA hval hsz
 obtain ⟨v0, vs0, d0, ds0, p0, q0, hargs, rfl, rfl, h0, r0⟩ := trodAll_cons hA
 obtain ⟨v1, vs1, d1, ds1, p1, q1, rfl, rfl, rfl, h1, r1⟩ := trodAll_cons r0
 obtain ⟨rfl, rfl, rfl⟩ := trodAll_nil r1
 obtain rfl : args = #[v0, v1] := by cases args; simp_all
 obtain ⟨rfl, rfl⟩ := trodVars_none hV
 have hk : Rows.uptoBulkAll _ ≤ 1048576 := of_decide_eq_true hk0
 simp only [List.append_nil, Rows.uptoBulkAll] at hk
 have k0 := h0
 have lt0 : ∀ x ∈ p0, x.block < W.heap.size := by obtain ⟨m, hm⟩ := k0; exact DataW.trod_lt m _ _ _ hm
 obtain ⟨x0, c0, m0, b0⟩ := open_arg (K := kQuery) o_query h0 (sized_arg hsz (j := 0) rfl rfl)
 have e0 := val_agg Tryz.underlying25 (hval 0 25 v0 rfl rfl) c0
 subst e0
 have k1 := h1
 have lt1 : ∀ x ∈ p1, x.block < W.heap.size := by obtain ⟨m, hm⟩ := k1; exact DataW.trod_lt m _ _ _ hm
 obtain ⟨x1, c1, m1, b1⟩ := open_arg (K := kRecs) o_recs h1 (sized_arg hsz (j := 1) rfl rfl)
 have e1 := val_slice Tryz.underlying44 (hval 1 44 v1 rfl rfl) c1
 subst e1
 clear hA0
 obtain ⟨r1, r2, r3⟩ := recs_of m1 (Nat.le_refl _) (by omega)
 have r4 := recs_small (s := x1) (by omega)
 obtain ⟨s1, s2⟩ := query_len m0
 obtain ⟨s3, s4⟩ := query_small (x := x0) (by omega)
 have hcall := wQueryHolds _ _ x0.1.A x0.2.1.A x1.A x0.1.l.length x0.2.1.l.length x0.1.c x0.2.1.c x1.l.length x1.c W (lt_of rfl hL hsh) (query_of m0 (Nat.le_refl _)) s1 s2 s3 s4 r1 r2 r4 r3
 refine (hcall).mono fun e W' ⟨he, bel⟩ => ?_
 subst he
 exact ⟨_, rfl, _, _, _, [], _, [], hW', trodAll_mk1 (shut_bool Tryz.underlying4 _), (trodAll_cons_mk (Below.trod laidOut (by kernel_rfl) (of_decide_eq_true (by kernel_rfl)) k0 bel lt0) (trodAll_cons_mk (Below.trod laidOut (by kernel_rfl) (of_decide_eq_true (by kernel_rfl)) k1 bel lt1) trodAll_mk0)), rfl, bel.frame _, fun h => by cases h⟩
noncomputable def laidWorld (os : Os) : World := World.laidAll Tryz.prog os Rows.queryHoldsUptoRow.laid
theorem laid_met (os : Os) (args : Array Value) : laidMetH Tryz.prog Rows.queryHoldsUptoRow.laid ((laidWorld os).forCall (fun _ _ => 0) ⟨#[], args, []⟩).memory := by
 rw [laidMetH_no _ _ _ (by kernel_rfl)]
 exact laidMet_laidAll _ (by kernel_rfl) (by kernel_rfl)
theorem reads (os : Os) {H : Type} (enc : TypeId × Value → H) : ∃ places, DataW.whole enc Tryz.prog ((laidWorld os).forCall (fun _ _ => 0) ⟨#[], #[.agg #[.slice none 0 0, .slice none 0 0], .slice none 0 0], []⟩).memory Tryz.f7.params.toList Rows.queryHoldsSpec.vars false #[.agg #[.slice none 0 0, .slice none 0 0], .slice none 0 0].toList 8 = some ([.agg [.nil, .nil], .nil], [], places) :=
 ⟨[], by kernel_rfl⟩
theorem lifted (os : Os) (started : os.Started) (H : Type) (enc : TypeId × Value → H) (F : Stop.Interp) :
  ReturnsInHanded {} Tryz.checked os 7 .any ((Rows.OpenSpec.upto Rows.queryHoldsSpec).preRow enc Tryz.prog Tryz.f7 Rows.queryHoldsUptoRow.domain false Rows.queryHoldsUptoRow.laid) (((Rows.OpenSpec.upto Rows.queryHoldsSpec).at F).post enc Tryz.prog Tryz.f7 false true false false) := by
 obtain ⟨places, hx⟩ := reads os enc
 refine returnsInHanded_of_row (C := Tryz.checked) (s := (Rows.OpenSpec.upto Rows.queryHoldsSpec)) own started (by kernel_rfl) Tryz.func7
  (witness_row_at (enc := enc) (C := Tryz.checked) false (laidWorld os) #[.agg #[.slice none 0 0, .slice none 0 0], .slice none 0 0] (World.laidAll_os _ _ _) (by kernel_rfl) (by kernel_rfl) (by kernel_rfl)
   (OpenSpec.preRow_of_cond 8 hx (by kernel_rfl) (fun k hk => by cases hk; kernel_rfl) (by kernel_rfl) (laid_met os _))) ?_
 intro W base args ds gs before hval hW _ hcond hsz hL hsh _
 exact contract H enc W base args ds gs before hval hW hsz (hcond _ rfl) hL hsh
theorem said : Rows.QueryHoldsUptoSaid :=
 OpenClaim.holds_of_cond 7 Tryz.f7 rfl rfl rfl rfl rfl rfl rfl ⟨rfl, rfl, rfl, rfl, rfl⟩ rfl rfl rfl rfl rfl (by kernel_rfl) Tryz.func7 (by kernel_rfl)
  (of_decide_eq_true (by kernel_rfl)) (by unfold Func.isWrapper; first | (rw [if_pos (by decide +kernel)]; kernel_rfl) | (rw [if_neg (by decide +kernel)]; exact ⟨rfl, rfl⟩))
  (fun os started H enc _ F => by rw [OpenClaim.pre_eq_preRow]; exact lifted os started H enc F)
theorem plain (f : FuncId) (fn : Func) (hf : Tryz.pinned.checked.prog.funcNamed "garner/garnerlaw24.QueryHolds" = some f) (hfn : Tryz.pinned.checked.prog.funcs[f]? = some fn) :
  true = Tryz.pinned.checked.prog.looks [] ∧ ∀ (j : Nat) t, fn.params[j]? = some t → Tryz.pinned.checked.prog.wantsStandIn t = false := by
 obtain rfl : f = 7 := Option.some.inj ((show Tryz.prog.funcNamed "garner/garnerlaw24.QueryHolds" = some 7 by kernel_rfl).symm.trans hf) |>.symm
 obtain rfl : fn = Tryz.f7 := (Option.some.inj (Tryz.func7.symm.trans hfn)).symm
 refine ⟨by kernel_rfl, fun j t ht => ?_⟩
 rw [Tryz.params7] at ht
 have hm : t ∈ [25, 44] := by simpa using Array.mem_of_getElem? ht
 have hall : ([25, 44].all fun u => !Tryz.prog.wantsStandIn u) = true := by kernel_rfl
 exact (show Tryz.prog.wantsStandIn t = false by simpa using List.all_eq_true.1 hall t hm)
theorem queryHolds_cardupto : Rows.QueryHoldsUptoCardSaid :=
 Claim7.holds_tied_plain_at .later [] _ _ _ _ said (fun _ h => by cases h) (by kernel_rfl) (fun _ h => by cases h) queryHoldsUpto_row_tie rfl ⟨rfl, rfl⟩ (by kernel_rfl) rfl plain (by kernel_rfl)
end queryHoldsUpto
end Go.Proofs.YtecejnilajbdpaaGreatDoor
