/-
  HttpPairs answers true where what it reads is of bulk at most 1048576: every valid text, written byte by byte as %XX, comes out of a target as it went in; one that isn't valid is refused.
-/
import Derived.Test.YtcjapjnhejenaaaDoorHtOp
import Derived.Test.YtcjapjnhejenaaaDoorLawHQ
import Derived.Test.YtcjapjnhejenaaaDoorCards
import Derived.Test.YtcjapjnhejenaaaDoorTie
import Derived.SevenTiedAt
import Derived.Deep.DeepHandedRow
import Derived.Lay
namespace Go.Proofs.YtcjapjnhejenaaaDoor
open Go.ChangeShapes Go.WideShapes Go.ChangeAt Go.RowKit Garner

abbrev kPr : Kind (ByteArray × ByteArray × Unit) := kPair kStr (kPair kStr kUnit)
theorem o_str : Opens Tryd.prog 9 kStr := opens_str Tryd.underlying9 (by kernel_rfl)
theorem o_pr : Opens Tryd.prog 42 kPr := opens_struct Tryd.underlying42 (by kernel_rfl) (fopens_cons o_str rfl (fopens_cons o_str rfl (fopens_nil _)))
abbrev kPrs : Kind (Sl (ByteArray × ByteArray × Unit)) := kSlice kPr 32
theorem o_prs : Opens Tryd.prog 24 kPrs := opens_slice o_pr Tryd.underlying24 (by kernel_rfl) (by kernel_rfl) (by decide) (fun _ => rfl)
def prOf (x : ByteArray × ByteArray × Unit) : Bs × Bs := (x.1.data.toList, x.2.1.data.toList)
theorem bytes_list (s : ByteArray) : s = ⟨s.data.toList.toArray⟩ := by cases s; simp
theorem prs_cells : ∀ l : List (ByteArray × ByteArray × Unit), pairCells (l.map prOf) = l.flatMap kPr.cells
  | [] => rfl
  | x :: l => by
    have ih := prs_cells l
    unfold pairCells at ih ⊢
    rw [List.map_cons, List.flatMap_cons, List.flatMap_cons, ih]
    show [str x.1.data.toList, str x.2.1.data.toList] ++ _ = [Value.string x.1, Value.string x.2.1] ++ _
    unfold str
    rw [← bytes_list, ← bytes_list]
theorem prs_sum : ∀ l : List (ByteArray × ByteArray × Unit), sumQ (l.map prOf) = (l.map kPr.bulk).sum
  | [] => rfl
  | x :: l => by
    have ih := prs_sum l
    unfold sumQ at ih ⊢
    rw [List.map_cons, List.map_cons, List.sum_cons, List.map_cons, List.sum_cons, ih]
    have e1 : (prOf x).1.length = x.1.size := (Lib.size_eq x.1).symm
    have e2 : (prOf x).2.length = x.2.1.size := (Lib.size_eq x.2.1).symm
    have e3 : kPr.bulk x = (x.1.size + 1) + ((x.2.1.size + 1) + 0) := rfl
    omega
theorem prs_of {w : World} {B : Nat} {s : Sl (ByteArray × ByteArray × Unit)} (h : kPrs.mem w B s) : ∃ ps : List (Bs × Bs), ps.length = s.l.length ∧ Row w B 2 s.A ps.length (pairCells ps) ∧ sumQ ps + 1 = kPrs.bulk s := by
  refine ⟨s.l.map prOf, by simp, ?_, by rw [prs_sum]; rfl⟩
  rw [prs_cells, List.length_map]
  exact h.row
namespace httpPairsUpto
theorem own : ownKnob Tryd.prog.godebug = none := by kernel_rfl
theorem laidOut : laidOutB Tryd.prog = true := by kernel_rfl
set_option linter.unusedVariables false in
set_option maxRecDepth 100000 in
theorem contract (H : Type) (enc : TypeId × Value → H) (W : World) (base : Nat) (args : Array Value) (ds gs : List (DataW H)) (before : List MemPlace)
    (hval : ∀ (j : Nat) t v, Tryd.f7.params[j]? = some t → args[j]? = some v → Value.okWide Tryd.prog W .any base t v)
    (hW : DataW.Whole enc Tryd.prog Tryd.f7.params.toList Rows.httpPairsSpec.vars false W args.toList ds gs before) (hsz : (DataW.weightsEach Tryd.prog (Tryd.f7.params.toList ++ Rows.httpPairsSpec.plain.varTypes Tryd.prog) (ds ++ gs)).all (· ≤ reachBytes) = true) (hk0 : Rows.uptoSmall H (ds ++ gs) = true) (hL : laidMetH Tryd.prog Rows.httpPairsUptoRow.laid W) (hsh : W.ShapedOpen Tryd.prog) :
    Calls Tryd.prog 7 args W fun e W' => ∃ v, e = .returned v ∧ Rows.httpPairsSpec.post enc Tryd.prog Tryd.f7 false true false false W args v W' := by
  have hW' := hW
  obtain ⟨p, q, hA0, hV, rfl, hfz, hnd⟩ := hW
  have hA : DataW.TrodAll enc Tryd.prog W 0 (fun _ => true) true Tryd.f7.params.toList args.toList ds p := hA0
  rw [Tryd.params7] at hA hval hsz
  obtain ⟨v0, vs0, d0, ds0, p0, q0, hargs, rfl, rfl, h0, r0⟩ := trodAll_cons hA
  obtain ⟨v1, vs1, d1, ds1, p1, q1, rfl, rfl, rfl, h1, r1⟩ := trodAll_cons r0
  obtain ⟨rfl, rfl, rfl⟩ := trodAll_nil r1
  obtain rfl : args = #[v0, v1] := by cases args; simp_all
  obtain ⟨rfl, rfl⟩ := trodVars_none hV
  have hk : Rows.uptoBulkAll _ ≤ 1048576 := of_decide_eq_true hk0
  simp only [List.append_nil, Rows.uptoBulkAll] at hk
  have k0 := h0
  have lt0 : ∀ x ∈ p0, x.block < W.heap.size := by obtain ⟨m, hm⟩ := k0; exact DataW.trod_lt m _ _ _ hm
  obtain ⟨x0, c0, m0, b0⟩ := open_arg (K := kPrs) o_prs h0 (sized_arg hsz (j := 0) rfl rfl)
  have e0 := val_slice Tryd.underlying24 (hval 0 24 v0 rfl rfl) c0
  subst e0
  have k1 := h1
  have lt1 : ∀ x ∈ p1, x.block < W.heap.size := by obtain ⟨m, hm⟩ := k1; exact DataW.trod_lt m _ _ _ hm
  obtain ⟨x1, c1, m1, b1⟩ := open_arg (K := kStr) o_str h1 (sized_arg hsz (j := 1) rfl rfl)
  have e1 := val_str Tryd.underlying9 (hval 1 9 v1 rfl rfl) c1
  subst e1
  clear hA0
  obtain ⟨l, hl, hb, hcl⟩ := prs_of m0
  have e1 : kStr.bulk x1 = x1.data.toList.length + 1 := by rw [← Lib.size_eq]; rfl
  have hcall := lawHQ x1 x1.data.toList (bytes_list x1) l x0.A x0.c W.heap.size W (lt_of rfl hL hsh) hb (Nat.le_refl _) (by omega)
  rw [hl] at hcall
  refine (hcall).mono fun e W' ⟨he, bel⟩ => ?_
  subst he
  exact ⟨_, rfl, _, _, _, [], _, [], hW', trodAll_mk1 (shut_bool Tryd.underlying4 _), (trodAll_cons_mk (Below.trod laidOut (by kernel_rfl) (of_decide_eq_true (by kernel_rfl)) k0 bel lt0) (trodAll_cons_mk (Below.trod laidOut (by kernel_rfl) (of_decide_eq_true (by kernel_rfl)) k1 bel lt1) trodAll_mk0)), rfl, bel.frame _, fun h => by cases h⟩
noncomputable def laidWorld (os : Os) : World := World.laidAll Tryd.prog os Rows.httpPairsUptoRow.laid
theorem laid_met (os : Os) (args : Array Value) : laidMetH Tryd.prog Rows.httpPairsUptoRow.laid ((laidWorld os).forCall (fun _ _ => 0) ⟨#[], args, []⟩).memory := by
  rw [laidMetH_no _ _ _ (by kernel_rfl)]
  exact laidMet_laidAll _ (by kernel_rfl) (by kernel_rfl)
theorem reads (os : Os) {H : Type} (enc : TypeId × Value → H) : ∃ places, DataW.whole enc Tryd.prog ((laidWorld os).forCall (fun _ _ => 0) ⟨#[], #[.slice none 0 0, .string ⟨#[]⟩], []⟩).memory Tryd.f7.params.toList Rows.httpPairsSpec.vars false #[.slice none 0 0, .string ⟨#[]⟩].toList 8 = some ([.nil, .lit (.string [])], [], places) :=
  ⟨[], by kernel_rfl⟩
set_option maxRecDepth 100000 in
theorem lifted (os : Os) (started : os.Started) (H : Type) (enc : TypeId × Value → H) (F : Stop.Interp) :
    ReturnsInHanded {} Tryd.checked os 7 .any ((Rows.OpenSpec.upto Rows.httpPairsSpec).preRow enc Tryd.prog Tryd.f7 Rows.httpPairsUptoRow.domain false Rows.httpPairsUptoRow.laid) (((Rows.OpenSpec.upto Rows.httpPairsSpec).at F).post enc Tryd.prog Tryd.f7 false true false false) := by
  obtain ⟨places, hx⟩ := reads os enc
  refine returnsInHanded_of_row (C := Tryd.checked) (s := (Rows.OpenSpec.upto Rows.httpPairsSpec)) own started (by kernel_rfl) Tryd.func7
    (witness_row_at (enc := enc) (C := Tryd.checked) false (laidWorld os) #[.slice none 0 0, .string ⟨#[]⟩] (World.laidAll_os _ _ _) (by kernel_rfl) (by kernel_rfl) (by kernel_rfl)
      (OpenSpec.preRow_of_cond 8 hx (by kernel_rfl) (fun k hk => by cases hk; kernel_rfl) (by kernel_rfl) (laid_met os _))) ?_
  intro W base args ds gs before hval hW _ hcond hsz hL hsh _
  exact contract H enc W base args ds gs before hval hW hsz (hcond _ rfl) hL hsh
theorem said : Rows.HttpPairsUptoSaid :=
  OpenClaim.holds_of_cond 7 Tryd.f7 rfl rfl rfl rfl rfl rfl rfl ⟨rfl, rfl, rfl, rfl, rfl⟩ rfl rfl rfl rfl rfl (by kernel_rfl) Tryd.func7 (by kernel_rfl)
    (of_decide_eq_true (by kernel_rfl)) (by unfold Func.isWrapper; first | (rw [if_pos (by decide +kernel)]; kernel_rfl) | (rw [if_neg (by decide +kernel)]; exact ⟨rfl, rfl⟩))
    (fun os started H enc _ F => by rw [OpenClaim.pre_eq_preRow]; exact lifted os started H enc F)
theorem plain (f : FuncId) (fn : Func) (hf : Tryd.pinned.checked.prog.funcNamed "garner/garnerlaw26.HttpPairs" = some f) (hfn : Tryd.pinned.checked.prog.funcs[f]? = some fn) :
    false = Tryd.pinned.checked.prog.looks [] ∧ ∀ (j : Nat) t, fn.params[j]? = some t → Tryd.pinned.checked.prog.wantsStandIn t = false := by
  obtain rfl : f = 7 := Option.some.inj ((show Tryd.prog.funcNamed "garner/garnerlaw26.HttpPairs" = some 7 by kernel_rfl).symm.trans hf) |>.symm
  obtain rfl : fn = Tryd.f7 := (Option.some.inj (Tryd.func7.symm.trans hfn)).symm
  refine ⟨by kernel_rfl, fun j t ht => ?_⟩
  rw [Tryd.params7] at ht
  have hm : t ∈ [24, 9] := by simpa using Array.mem_of_getElem? ht
  have hall : ([24, 9].all fun u => !Tryd.prog.wantsStandIn u) = true := by kernel_rfl
  exact (show Tryd.prog.wantsStandIn t = false by simpa using List.all_eq_true.1 hall t hm)
theorem httpPairs_cardupto : Rows.HttpPairsUptoCardSaid :=
  Claim7.holds_tied_plain_at .later [] _ _ _ _ said (fun _ h => by cases h) (by kernel_rfl) (fun _ h => by cases h) httpPairsUpto_row_tie rfl ⟨rfl, rfl⟩ (by kernel_rfl) rfl plain (by kernel_rfl)
end httpPairsUpto
end Go.Proofs.YtcjapjnhejenaaaDoor
