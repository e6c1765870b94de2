/-
  DfaResets answers true for all arguments: forgetting all states between any two texts changes no answer; behind it nothing is kept; two matchers of one pattern don't meet. No condition.
-/
import Derived.Test.YtmcacicopgckmaaGreatDoorDt48
import Derived.Test.YtmcacicopgckmaaGreatDoorDt53
import Derived.Test.YtmcacicopgckmaaGreatDoorCards
import Derived.Test.YtmcacicopgckmaaGreatDoorTie
import Derived.SevenTiedAt
import Derived.Deep.DeepHandedRow
import Derived.Lay
namespace Go.Proofs.YtmcacicopgckmaaGreatDoor
open Go.ChangeShapes Go.WideShapes Go.ChangeAt Go.RowKit Garner

abbrev kStrs : Kind (Sl ByteArray) := kSlice kStr 16
theorem o_strs : Opens Tryz.prog 23 kStrs := opens_slice o_str Tryz.underlying23 (by kernel_rfl) (by kernel_rfl) (by decide) (fun _ => rfl)
theorem strs_of {w : World} {B : Nat} {s : Sl ByteArray} (h : kStrs.mem w B s) : Row w B 1 s.A s.l.length (s.l.map Value.string) ∧ (∀ x ∈ s.l, x.size ≤ 140737488355328) ∧ s.l.length ≤ 140737488355328 := by
  have hr := h.row
  have e : s.l.flatMap kStr.cells = s.l.map Value.string := by
    induction s.l with
    | nil => rfl
    | cons b l ih => rw [List.flatMap_cons, List.map_cons, ih]; rfl
  rw [e] at hr
  refine ⟨hr, fun x hx => ?_, by have h1 := h.room; have h2 := h.cap; simp only [reachBytes] at h1; omega⟩
  have h3 : x.size ≤ reachBytes := h.all x hx
  unfold reachBytes at h3
  omega
theorem o_u8 : Opens Tryz.prog 5 (kInt .u8) := opens_int Tryz.underlying5 (by kernel_rfl)
theorem u8_of {w : World} {B : Nat} {x : Int} (h : (kInt .u8).mem w B x) : ∃ q : Nat, x = (q : Int) ∧ q < 256 := by
  have h : (Lit.int .u8 x).wf = true := h
  simp [Lit.wf, IntKind.min, IntKind.max, IntKind.signed, IntKind.bits] at h
  exact ⟨x.toNat, by omega, by omega⟩
namespace dfaResets
theorem own : ownKnob Tryz.prog.godebug = none := by kernel_rfl
theorem laidOut : laidOutB Tryz.prog = true := by kernel_rfl
set_option linter.unusedVariables false in
set_option maxRecDepth 100000 in
theorem contract (H : Type) (enc : TypeId × Value → H) (W : World) (base : Nat) (args : Array Value) (ds gs : List (DataW H)) (before : List MemPlace)
    (hval : ∀ (j : Nat) t v, Tryz.f7.params[j]? = some t → args[j]? = some v → Value.okWide Tryz.prog W .any base t v)
    (hW : DataW.Whole enc Tryz.prog Tryz.f7.params.toList Rows.dfaResetsSpec.vars false W args.toList ds gs before) (hsz : (DataW.weightsEach Tryz.prog (Tryz.f7.params.toList ++ Rows.dfaResetsSpec.plain.varTypes Tryz.prog) (ds ++ gs)).all (· ≤ reachBytes) = true) (hL : laidMetH Tryz.prog Rows.dfaResetsRow.laid W) (hsh : W.ShapedOpen Tryz.prog) :
    Calls Tryz.prog 7 args W fun e W' => ∃ v, e = .returned v ∧ Rows.dfaResetsSpec.post enc Tryz.prog Tryz.f7 false true false false W args v W' := by
  have hW' := hW
  obtain ⟨p, q, hA0, hV, rfl, hfz, hnd⟩ := hW
  have hA : DataW.TrodAll enc Tryz.prog W 0 (fun _ => true) true Tryz.f7.params.toList args.toList ds p := hA0
  rw [Tryz.params7] at hA hval hsz
  obtain ⟨v0, vs0, d0, ds0, p0, q0, hargs, rfl, rfl, h0, r0⟩ := trodAll_cons hA
  obtain ⟨v1, vs1, d1, ds1, p1, q1, rfl, rfl, rfl, h1, r1⟩ := trodAll_cons r0
  obtain ⟨v2, vs2, d2, ds2, p2, q2, rfl, rfl, rfl, h2, r2⟩ := trodAll_cons r1
  obtain ⟨rfl, rfl, rfl⟩ := trodAll_nil r2
  obtain rfl : args = #[v0, v1, v2] := by cases args; simp_all
  obtain ⟨rfl, rfl⟩ := trodVars_none hV
  have k0 := h0
  have lt0 : ∀ x ∈ p0, x.block < W.heap.size := by obtain ⟨m, hm⟩ := k0; exact DataW.trod_lt m _ _ _ hm
  obtain ⟨x0, c0, m0, b0⟩ := open_arg (K := kStr) o_str h0 (sized_arg hsz (j := 0) rfl rfl)
  have e0 := val_str Tryz.underlying9 (hval 0 9 v0 rfl rfl) c0
  subst e0
  have k1 := h1
  have lt1 : ∀ x ∈ p1, x.block < W.heap.size := by obtain ⟨m, hm⟩ := k1; exact DataW.trod_lt m _ _ _ hm
  obtain ⟨x1, c1, m1, b1⟩ := open_arg (K := kStrs) o_strs h1 (sized_arg hsz (j := 1) rfl rfl)
  have e1 := val_slice Tryz.underlying23 (hval 1 23 v1 rfl rfl) c1
  subst e1
  have k2 := h2
  have lt2 : ∀ x ∈ p2, x.block < W.heap.size := by obtain ⟨m, hm⟩ := k2; exact DataW.trod_lt m _ _ _ hm
  obtain ⟨x2, c2, m2, b2⟩ := open_arg (K := (kInt .u8)) o_u8 h2 (sized_arg hsz (j := 2) rfl rfl)
  have e2 := val_int Tryz.underlying5 (hval 2 5 v2 rfl rfl) c2
  subst e2
  clear hA0
  have n0 := str_reach m0
  obtain ⟨rr1, rr2, rr3⟩ := strs_of m1
  obtain ⟨q, rfl, hq⟩ := u8_of m2
  have hcall := lawDT x0 x0.data.toList x1.l x1.A x1.l.length x1.c W.heap.size q (bytes_list x0) rfl W rr1 (Nat.le_refl _) (lt_ofM (by kernel_rfl) (by simp [Rows.dfaResetsRow]) (by simp [Rows.dfaResetsRow]) hL hsh) (tabW_of (by kernel_rfl) (by simp [Rows.dfaResetsRow]) hL) n0 rr3 hq
  refine (hcall).mono fun e W' ⟨he, bel⟩ => ?_
  subst he
  exact ⟨_, rfl, _, _, _, [], _, [], hW', trodAll_mk1 (shut_bool Tryz.underlying4 _), (trodAll_cons_mk (Below.trod laidOut (by kernel_rfl) (of_decide_eq_true (by kernel_rfl)) k0 bel lt0) (trodAll_cons_mk (Below.trod laidOut (by kernel_rfl) (of_decide_eq_true (by kernel_rfl)) k1 bel lt1) (trodAll_cons_mk (Below.trod laidOut (by kernel_rfl) (of_decide_eq_true (by kernel_rfl)) k2 bel lt2) trodAll_mk0))), rfl, bel.frame _, fun h => by cases h⟩
noncomputable def laidWorld (os : Os) : World := World.laidAll Tryz.prog os Rows.dfaResetsRow.laid
theorem laid_met (os : Os) (args : Array Value) : laidMetH Tryz.prog Rows.dfaResetsRow.laid ((laidWorld os).forCall (fun _ _ => 0) ⟨#[], args, []⟩).memory := by
  rw [laidMetH_no _ _ _ (by kernel_rfl)]
  exact laidMet_laidAll _ (by kernel_rfl) (by kernel_rfl)
theorem reads (os : Os) {H : Type} (enc : TypeId × Value → H) : ∃ places, DataW.whole enc Tryz.prog ((laidWorld os).forCall (fun _ _ => 0) ⟨#[], #[.string ⟨#[]⟩, .slice none 0 0, .int .u8 0], []⟩).memory Tryz.f7.params.toList Rows.dfaResetsSpec.vars false #[.string ⟨#[]⟩, .slice none 0 0, .int .u8 0].toList 8 = some ([.lit (.string []), .nil, .lit (.int .u8 0)], [], places) :=
  ⟨[], by kernel_rfl⟩
set_option maxRecDepth 100000 in
theorem lifted (os : Os) (started : os.Started) (H : Type) (enc : TypeId × Value → H) (F : Stop.Interp) :
    ReturnsInHanded {} Tryz.checked os 7 .any ((OpenSpec.ofChange Rows.dfaResetsSpec).preRow enc Tryz.prog Tryz.f7 Rows.dfaResetsRow.domain false Rows.dfaResetsRow.laid) (((OpenSpec.ofChange Rows.dfaResetsSpec).at F).post enc Tryz.prog Tryz.f7 false true false false) := by
  obtain ⟨places, hx⟩ := reads os enc
  refine returnsInHanded_of_row (C := Tryz.checked) (s := (OpenSpec.ofChange Rows.dfaResetsSpec)) own started (by kernel_rfl) Tryz.func7
    (witness_row_at (enc := enc) (C := Tryz.checked) false (laidWorld os) #[.string ⟨#[]⟩, .slice none 0 0, .int .u8 0] (World.laidAll_os _ _ _) (by kernel_rfl) (by kernel_rfl) (by kernel_rfl)
      (OpenSpec.preRow_of_cond 8 hx (by kernel_rfl) (fun k hk => by cases hk) (by kernel_rfl) (laid_met os _))) ?_
  intro W base args ds gs before hval hW _ _ hsz hL hsh _
  exact contract H enc W base args ds gs before hval hW hsz hL hsh
theorem said : Rows.DfaResetsSaid :=
  OpenClaim.holds_of_cond 7 Tryz.f7 rfl rfl rfl rfl rfl rfl rfl ⟨rfl, rfl, rfl, rfl, rfl⟩ rfl rfl rfl rfl rfl (by kernel_rfl) Tryz.func7 (by kernel_rfl)
    (of_decide_eq_true (by kernel_rfl)) (by unfold Func.isWrapper; first | (rw [if_pos (by decide +kernel)]; kernel_rfl) | (rw [if_neg (by decide +kernel)]; exact ⟨rfl, rfl⟩))
    (fun os started H enc _ F => by rw [OpenClaim.pre_eq_preRow]; exact lifted os started H enc F)
theorem plain (f : FuncId) (fn : Func) (hf : Tryz.pinned.checked.prog.funcNamed "garner/garnerlaw20.DfaResets" = some f) (hfn : Tryz.pinned.checked.prog.funcs[f]? = some fn) :
    true = Tryz.pinned.checked.prog.looks [] ∧ ∀ (j : Nat) t, fn.params[j]? = some t → Tryz.pinned.checked.prog.wantsStandIn t = false := by
  obtain rfl : f = 7 := Option.some.inj ((show Tryz.prog.funcNamed "garner/garnerlaw20.DfaResets" = some 7 by kernel_rfl).symm.trans hf) |>.symm
  obtain rfl : fn = Tryz.f7 := (Option.some.inj (Tryz.func7.symm.trans hfn)).symm
  refine ⟨by kernel_rfl, fun j t ht => ?_⟩
  rw [Tryz.params7] at ht
  have hm : t ∈ [9, 23, 5] := by simpa using Array.mem_of_getElem? ht
  have hall : ([9, 23, 5].all fun u => !Tryz.prog.wantsStandIn u) = true := by kernel_rfl
  exact (show Tryz.prog.wantsStandIn t = false by simpa using List.all_eq_true.1 hall t hm)
theorem dfaResets_card : Rows.DfaResetsCardSaid :=
  Claim7.holds_tied_plain_at .later [] _ _ _ _ said (fun _ h => by cases h) (by kernel_rfl) (fun _ h => by cases h) dfaResets_row_tie rfl ⟨rfl, rfl⟩ (by kernel_rfl) rfl plain (by kernel_rfl)
end dfaResets
end Go.Proofs.YtmcacicopgckmaaGreatDoor
