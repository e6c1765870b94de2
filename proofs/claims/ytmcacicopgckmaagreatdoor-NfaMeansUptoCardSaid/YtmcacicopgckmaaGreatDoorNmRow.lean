/-
  NfaMeans answers true where what it reads is of bulk at most 1048576: a pattern matches just the texts that its meaning says, whole and in part; what is no pattern is refused.
-/
import Derived.Test.YtmcacicopgckmaaGreatDoorNm20
import Derived.Test.YtmcacicopgckmaaGreatDoorNm53
import Derived.Test.YtmcacicopgckmaaGreatDoorCards
import Derived.Test.YtmcacicopgckmaaGreatDoorTie
import Derived.SevenTiedAt
import Derived.Deep.DeepHandedRow
import Derived.Lay
namespace Go.Proofs.YtmcacicopgckmaaGreatDoor
open Go.ChangeShapes Go.WideShapes Go.ChangeAt Go.RowKit Garner

abbrev kStrs : Kind (Sl ByteArray) := kSlice kStr 16
theorem o_strs : Opens Tryz.prog 23 kStrs := opens_slice o_str Tryz.underlying23 (by kernel_rfl) (by kernel_rfl) (by decide) (fun _ => rfl)
theorem strs_bulk : ∀ (l : List ByteArray) (x : ByteArray), x ∈ l → x.size ≤ (l.map kStr.bulk).sum ∧ l.length ≤ (l.map kStr.bulk).sum
  | [], x, h => by cases h
  | y :: l, x, h => by
    have e : kStr.bulk y = y.size + 1 := rfl
    rw [List.map_cons, List.sum_cons, List.length_cons]
    rcases List.mem_cons.1 h with rfl | h
    · cases l with
      | nil => simp; omega
      | cons z l => have := (strs_bulk (z :: l) z (by simp)).2; omega
    · have := strs_bulk l x h; omega
theorem strs_of {w : World} {B : Nat} {s : Sl ByteArray} (h : kStrs.mem w B s) (hb : kStrs.bulk s ≤ 1048576) : Row w B 1 s.A s.l.length (s.l.map Value.string) ∧ (∀ x ∈ s.l, x.size ≤ 1048576) ∧ s.l.length ≤ 1048576 := by
  have hr := h.row
  have e : s.l.flatMap kStr.cells = s.l.map Value.string := by
    induction s.l with
    | nil => rfl
    | cons b l ih => rw [List.flatMap_cons, List.map_cons, ih]; rfl
  rw [e] at hr
  have e2 : kStrs.bulk s = (s.l.map kStr.bulk).sum + 1 := rfl
  refine ⟨hr, fun x hx => by have := (strs_bulk s.l x hx).1; omega, ?_⟩
  cases hl : s.l with
  | nil => simp
  | cons y l => have := (strs_bulk s.l y (by rw [hl]; simp)).2; rw [← hl]; omega
namespace nfaMeansUpto
theorem own : ownKnob Tryz.prog.godebug = none := by kernel_rfl
theorem laidOut : laidOutB Tryz.prog = true := by kernel_rfl
set_option linter.unusedVariables false in
set_option maxRecDepth 100000 in
theorem contract (H : Type) (enc : TypeId × Value → H) (W : World) (base : Nat) (args : Array Value) (ds gs : List (DataW H)) (before : List MemPlace)
    (hval : ∀ (j : Nat) t v, Tryz.f4.params[j]? = some t → args[j]? = some v → Value.okWide Tryz.prog W .any base t v)
    (hW : DataW.Whole enc Tryz.prog Tryz.f4.params.toList Rows.nfaMeansSpec.vars false W args.toList ds gs before) (hsz : (DataW.weightsEach Tryz.prog (Tryz.f4.params.toList ++ Rows.nfaMeansSpec.plain.varTypes Tryz.prog) (ds ++ gs)).all (· ≤ reachBytes) = true) (hk0 : Rows.uptoSmall H (ds ++ gs) = true) (hL : laidMetH Tryz.prog Rows.nfaMeansUptoRow.laid W) (hsh : W.ShapedOpen Tryz.prog) :
    Calls Tryz.prog 4 args W fun e W' => ∃ v, e = .returned v ∧ Rows.nfaMeansSpec.post enc Tryz.prog Tryz.f4 false true false false W args v W' := by
  have hW' := hW
  obtain ⟨p, q, hA0, hV, rfl, hfz, hnd⟩ := hW
  have hA : DataW.TrodAll enc Tryz.prog W 0 (fun _ => true) true Tryz.f4.params.toList args.toList ds p := hA0
  rw [Tryz.params4] at hA hval hsz
  obtain ⟨v0, vs0, d0, ds0, p0, q0, hargs, rfl, rfl, h0, r0⟩ := trodAll_cons hA
  obtain ⟨v1, vs1, d1, ds1, p1, q1, rfl, rfl, rfl, h1, r1⟩ := trodAll_cons r0
  obtain ⟨rfl, rfl, rfl⟩ := trodAll_nil r1
  obtain rfl : args = #[v0, v1] := by cases args; simp_all
  obtain ⟨rfl, rfl⟩ := trodVars_none hV
  have hk : Rows.uptoBulkAll _ ≤ 1048576 := of_decide_eq_true hk0
  simp only [List.append_nil, Rows.uptoBulkAll] at hk
  have k0 := h0
  have lt0 : ∀ x ∈ p0, x.block < W.heap.size := by obtain ⟨m, hm⟩ := k0; exact DataW.trod_lt m _ _ _ hm
  obtain ⟨x0, c0, m0, b0⟩ := open_arg (K := kStr) o_str h0 (sized_arg hsz (j := 0) rfl rfl)
  have e0 := val_str Tryz.underlying9 (hval 0 9 v0 rfl rfl) c0
  subst e0
  have k1 := h1
  have lt1 : ∀ x ∈ p1, x.block < W.heap.size := by obtain ⟨m, hm⟩ := k1; exact DataW.trod_lt m _ _ _ hm
  obtain ⟨x1, c1, m1, b1⟩ := open_arg (K := kStrs) o_strs h1 (sized_arg hsz (j := 1) rfl rfl)
  have e1 := val_slice Tryz.underlying23 (hval 1 23 v1 rfl rfl) c1
  subst e1
  clear hA0
  have n0 : kStr.bulk x0 = x0.data.toList.length + 1 := by rw [← Lib.size_eq]; rfl
  obtain ⟨r1, r2, r3⟩ := strs_of m1 (by omega)
  have hcall := lawNM x0 x0.data.toList x1.l x1.A x1.l.length x1.c W.heap.size (bytes_list x0) rfl W r1 (Nat.le_refl _) (lt_of rfl hL hsh) (by omega) r2 (by omega)
  refine (hcall).mono fun e W' ⟨he, bel⟩ => ?_
  subst he
  exact ⟨_, rfl, _, _, _, [], _, [], hW', trodAll_mk1 (shut_bool Tryz.underlying4 _), (trodAll_cons_mk (Below.trod laidOut (by kernel_rfl) (of_decide_eq_true (by kernel_rfl)) k0 bel lt0) (trodAll_cons_mk (Below.trod laidOut (by kernel_rfl) (of_decide_eq_true (by kernel_rfl)) k1 bel lt1) trodAll_mk0)), rfl, bel.frame _, fun h => by cases h⟩
noncomputable def laidWorld (os : Os) : World := World.laidAll Tryz.prog os Rows.nfaMeansUptoRow.laid
theorem laid_met (os : Os) (args : Array Value) : laidMetH Tryz.prog Rows.nfaMeansUptoRow.laid ((laidWorld os).forCall (fun _ _ => 0) ⟨#[], args, []⟩).memory := by
  rw [laidMetH_no _ _ _ (by kernel_rfl)]
  exact laidMet_laidAll _ (by kernel_rfl) (by kernel_rfl)
theorem reads (os : Os) {H : Type} (enc : TypeId × Value → H) : ∃ places, DataW.whole enc Tryz.prog ((laidWorld os).forCall (fun _ _ => 0) ⟨#[], #[.string ⟨#[]⟩, .slice none 0 0], []⟩).memory Tryz.f4.params.toList Rows.nfaMeansSpec.vars false #[.string ⟨#[]⟩, .slice none 0 0].toList 8 = some ([.lit (.string []), .nil], [], places) :=
  ⟨[], by kernel_rfl⟩
set_option maxRecDepth 100000 in
theorem lifted (os : Os) (started : os.Started) (H : Type) (enc : TypeId × Value → H) (F : Stop.Interp) :
    ReturnsInHanded {} Tryz.checked os 4 .any ((Rows.OpenSpec.upto Rows.nfaMeansSpec).preRow enc Tryz.prog Tryz.f4 Rows.nfaMeansUptoRow.domain false Rows.nfaMeansUptoRow.laid) (((Rows.OpenSpec.upto Rows.nfaMeansSpec).at F).post enc Tryz.prog Tryz.f4 false true false false) := by
  obtain ⟨places, hx⟩ := reads os enc
  refine returnsInHanded_of_row (C := Tryz.checked) (s := (Rows.OpenSpec.upto Rows.nfaMeansSpec)) own started (by kernel_rfl) Tryz.func4
    (witness_row_at (enc := enc) (C := Tryz.checked) false (laidWorld os) #[.string ⟨#[]⟩, .slice none 0 0] (World.laidAll_os _ _ _) (by kernel_rfl) (by kernel_rfl) (by kernel_rfl)
      (OpenSpec.preRow_of_cond 8 hx (by kernel_rfl) (fun k hk => by cases hk; kernel_rfl) (by kernel_rfl) (laid_met os _))) ?_
  intro W base args ds gs before hval hW _ hcond hsz hL hsh _
  exact contract H enc W base args ds gs before hval hW hsz (hcond _ rfl) hL hsh
theorem said : Rows.NfaMeansUptoSaid :=
  OpenClaim.holds_of_cond 4 Tryz.f4 rfl rfl rfl rfl rfl rfl rfl ⟨rfl, rfl, rfl, rfl, rfl⟩ rfl rfl rfl rfl rfl (by kernel_rfl) Tryz.func4 (by kernel_rfl)
    (of_decide_eq_true (by kernel_rfl)) (by unfold Func.isWrapper; first | (rw [if_pos (by decide +kernel)]; kernel_rfl) | (rw [if_neg (by decide +kernel)]; exact ⟨rfl, rfl⟩))
    (fun os started H enc _ F => by rw [OpenClaim.pre_eq_preRow]; exact lifted os started H enc F)
theorem plain (f : FuncId) (fn : Func) (hf : Tryz.pinned.checked.prog.funcNamed "garner/garnerlaw19.NfaMeans" = some f) (hfn : Tryz.pinned.checked.prog.funcs[f]? = some fn) :
    true = Tryz.pinned.checked.prog.looks [] ∧ ∀ (j : Nat) t, fn.params[j]? = some t → Tryz.pinned.checked.prog.wantsStandIn t = false := by
  obtain rfl : f = 4 := Option.some.inj ((show Tryz.prog.funcNamed "garner/garnerlaw19.NfaMeans" = some 4 by kernel_rfl).symm.trans hf) |>.symm
  obtain rfl : fn = Tryz.f4 := (Option.some.inj (Tryz.func4.symm.trans hfn)).symm
  refine ⟨by kernel_rfl, fun j t ht => ?_⟩
  rw [Tryz.params4] at ht
  have hm : t ∈ [9, 23] := by simpa using Array.mem_of_getElem? ht
  have hall : ([9, 23].all fun u => !Tryz.prog.wantsStandIn u) = true := by kernel_rfl
  exact (show Tryz.prog.wantsStandIn t = false by simpa using List.all_eq_true.1 hall t hm)
theorem nfaMeans_cardupto : Rows.NfaMeansUptoCardSaid :=
  Claim7.holds_tied_plain_at .later [] _ _ _ _ said (fun _ h => by cases h) (by kernel_rfl) (fun _ h => by cases h) nfaMeansUpto_row_tie rfl ⟨rfl, rfl⟩ (by kernel_rfl) rfl plain (by kernel_rfl)
end nfaMeansUpto
end Go.Proofs.YtmcacicopgckmaaGreatDoor
