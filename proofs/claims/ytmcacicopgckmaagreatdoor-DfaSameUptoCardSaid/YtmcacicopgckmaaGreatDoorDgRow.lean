/-
  DfaSame answers true where what it reads is of bulk at most 1048576: whatever it is asked, one text behind the other, whole and in part, and however few states it may keep, it answers as the pattern's meaning says, and keeps no more than it may.
-/
import Derived.Test.YtmcacicopgckmaaGreatDoorDg43
import Derived.Test.YtmcacicopgckmaaGreatDoorDg53
import Derived.Test.YtmcacicopgckmaaGreatDoorCards
import Derived.Test.YtmcacicopgckmaaGreatDoorTie
import Derived.SevenTiedAt
import Derived.Deep.DeepHandedRow
import Derived.Lay
namespace Go.Proofs.YtmcacicopgckmaaGreatDoor
open Go.ChangeShapes Go.WideShapes Go.ChangeAt Go.RowKit Garner

abbrev kLook : Kind (ByteArray × Bool × Bool × Unit) := kPair kStr (kPair kBool (kPair kBool kUnit))
theorem o_bool : Opens Tryz.prog 4 kBool := opens_bool Tryz.underlying4 (by kernel_rfl)
theorem o_int : Opens Tryz.prog 3 (kInt .i64) := opens_int Tryz.underlying3 (by kernel_rfl)
theorem o_look : Opens Tryz.prog 43 kLook := opens_struct Tryz.underlying43 (by kernel_rfl) (fopens_cons o_str rfl (fopens_cons o_bool rfl (fopens_cons o_bool rfl (fopens_nil _))))
abbrev kLooks : Kind (Sl (ByteArray × Bool × Bool × Unit)) := kSlice kLook 24
theorem o_looks : Opens Tryz.prog 37 kLooks := opens_slice o_look Tryz.underlying37 (by kernel_rfl) (by kernel_rfl) (by decide) (fun _ => rfl)
def lookOf (x : ByteArray × Bool × Bool × Unit) : LookP := ⟨x.1, x.2.1, x.2.2.1⟩
theorem looks_cells : ∀ l : List (ByteArray × Bool × Bool × Unit), (l.map lookOf).flatMap LookP.cells = l.flatMap kLook.cells
  | [] => rfl
  | x :: l => by
    rw [List.map_cons, List.flatMap_cons, List.flatMap_cons, looks_cells l]
    rfl
theorem looks_bulk : ∀ (l : List (ByteArray × Bool × Bool × Unit)) (x : LookP), x ∈ l.map lookOf → x.text.size ≤ (l.map kLook.bulk).sum
  | [], x, h => by cases h
  | y :: l, x, h => by
    have e : kLook.bulk y = (y.1.size + 1) + (1 + (1 + 0)) := rfl
    rw [List.map_cons, List.sum_cons]
    rcases List.mem_cons.1 h with rfl | h
    · have : (lookOf y).text = y.1 := rfl
      rw [this]; omega
    · have := looks_bulk l x h; omega
theorem looks_of {w : World} {B : Nat} {s : Sl (ByteArray × Bool × Bool × Unit)} (h : kLooks.mem w B s) (hb : kLooks.bulk s ≤ 1048576) : Row w B 3 s.A s.l.length ((s.l.map lookOf).flatMap LookP.cells) ∧ (∀ x ∈ s.l.map lookOf, x.text.size ≤ 1048576) ∧ s.l.length ≤ 140737488355328 := by
  refine ⟨by rw [looks_cells]; exact h.row, fun x hx => ?_, by have h1 := h.room; have h2 := h.cap; simp only [reachBytes] at h1; omega⟩
  have h1 := looks_bulk s.l x hx
  have e2 : kLooks.bulk s = (s.l.map kLook.bulk).sum + 1 := rfl
  omega
namespace dfaSameUpto
theorem own : ownKnob Tryz.prog.godebug = none := by kernel_rfl
theorem laidOut : laidOutB Tryz.prog = true := by kernel_rfl
set_option linter.unusedVariables false in
set_option maxRecDepth 100000 in
theorem contract (H : Type) (enc : TypeId × Value → H) (W : World) (base : Nat) (args : Array Value) (ds gs : List (DataW H)) (before : List MemPlace)
    (hval : ∀ (j : Nat) t v, Tryz.f5.params[j]? = some t → args[j]? = some v → Value.okWide Tryz.prog W .any base t v)
    (hW : DataW.Whole enc Tryz.prog Tryz.f5.params.toList Rows.dfaSameSpec.vars false W args.toList ds gs before) (hsz : (DataW.weightsEach Tryz.prog (Tryz.f5.params.toList ++ Rows.dfaSameSpec.plain.varTypes Tryz.prog) (ds ++ gs)).all (· ≤ reachBytes) = true) (hk0 : Rows.uptoSmall H (ds ++ gs) = true) (hL : laidMetH Tryz.prog Rows.dfaSameUptoRow.laid W) (hsh : W.ShapedOpen Tryz.prog) :
    Calls Tryz.prog 5 args W fun e W' => ∃ v, e = .returned v ∧ Rows.dfaSameSpec.post enc Tryz.prog Tryz.f5 false true false false W args v W' := by
  have hW' := hW
  obtain ⟨p, q, hA0, hV, rfl, hfz, hnd⟩ := hW
  have hA : DataW.TrodAll enc Tryz.prog W 0 (fun _ => true) true Tryz.f5.params.toList args.toList ds p := hA0
  rw [Tryz.params5] at hA hval hsz
  obtain ⟨v0, vs0, d0, ds0, p0, q0, hargs, rfl, rfl, h0, r0⟩ := trodAll_cons hA
  obtain ⟨v1, vs1, d1, ds1, p1, q1, rfl, rfl, rfl, h1, r1⟩ := trodAll_cons r0
  obtain ⟨v2, vs2, d2, ds2, p2, q2, rfl, rfl, rfl, h2, r2⟩ := trodAll_cons r1
  obtain ⟨rfl, rfl, rfl⟩ := trodAll_nil r2
  obtain rfl : args = #[v0, v1, v2] := by cases args; simp_all
  obtain ⟨rfl, rfl⟩ := trodVars_none hV
  have hk : Rows.uptoBulkAll _ ≤ 1048576 := of_decide_eq_true hk0
  simp only [List.append_nil, Rows.uptoBulkAll] at hk
  have k0 := h0
  have lt0 : ∀ x ∈ p0, x.block < W.heap.size := by obtain ⟨m, hm⟩ := k0; exact DataW.trod_lt m _ _ _ hm
  obtain ⟨x0, c0, m0, b0⟩ := open_arg (K := kStr) o_str h0 (sized_arg hsz (j := 0) rfl rfl)
  have e0 := val_str Tryz.underlying9 (hval 0 9 v0 rfl rfl) c0
  subst e0
  have k1 := h1
  have lt1 : ∀ x ∈ p1, x.block < W.heap.size := by obtain ⟨m, hm⟩ := k1; exact DataW.trod_lt m _ _ _ hm
  obtain ⟨x1, c1, m1, b1⟩ := open_arg (K := (kInt .i64)) o_int h1 (sized_arg hsz (j := 1) rfl rfl)
  have e1 := val_int Tryz.underlying3 (hval 1 3 v1 rfl rfl) c1
  subst e1
  have k2 := h2
  have lt2 : ∀ x ∈ p2, x.block < W.heap.size := by obtain ⟨m, hm⟩ := k2; exact DataW.trod_lt m _ _ _ hm
  obtain ⟨x2, c2, m2, b2⟩ := open_arg (K := kLooks) o_looks h2 (sized_arg hsz (j := 2) rfl rfl)
  have e2 := val_slice Tryz.underlying37 (hval 2 37 v2 rfl rfl) c2
  subst e2
  clear hA0
  have n0 : kStr.bulk x0 = x0.data.toList.length + 1 := by rw [← Lib.size_eq]; rfl
  obtain ⟨rr1, rr2, rr3⟩ := looks_of m2 (by omega)
  have hcall := lawDF x0 x0.data.toList x1 (x2.l.map lookOf) x2.A x2.l.length x2.c W.heap.size (bytes_list x0) (by simp) W rr1 (Nat.le_refl _) (lt_ofM (by kernel_rfl) (by simp [Rows.dfaSameUptoRow]) (by simp [Rows.dfaSameUptoRow]) hL hsh) (tabW_of (by kernel_rfl) (by simp [Rows.dfaSameUptoRow]) hL) (by omega) rr2 rr3
  refine (hcall).mono fun e W' ⟨he, bel⟩ => ?_
  subst he
  exact ⟨_, rfl, _, _, _, [], _, [], hW', trodAll_mk1 (shut_bool Tryz.underlying4 _), (trodAll_cons_mk (Below.trod laidOut (by kernel_rfl) (of_decide_eq_true (by kernel_rfl)) k0 bel lt0) (trodAll_cons_mk (Below.trod laidOut (by kernel_rfl) (of_decide_eq_true (by kernel_rfl)) k1 bel lt1) (trodAll_cons_mk (Below.trod laidOut (by kernel_rfl) (of_decide_eq_true (by kernel_rfl)) k2 bel lt2) trodAll_mk0))), rfl, bel.frame _, fun h => by cases h⟩
noncomputable def laidWorld (os : Os) : World := World.laidAll Tryz.prog os Rows.dfaSameUptoRow.laid
theorem laid_met (os : Os) (args : Array Value) : laidMetH Tryz.prog Rows.dfaSameUptoRow.laid ((laidWorld os).forCall (fun _ _ => 0) ⟨#[], args, []⟩).memory := by
  rw [laidMetH_no _ _ _ (by kernel_rfl)]
  exact laidMet_laidAll _ (by kernel_rfl) (by kernel_rfl)
theorem reads (os : Os) {H : Type} (enc : TypeId × Value → H) : ∃ places, DataW.whole enc Tryz.prog ((laidWorld os).forCall (fun _ _ => 0) ⟨#[], #[.string ⟨#[]⟩, .int .i64 0, .slice none 0 0], []⟩).memory Tryz.f5.params.toList Rows.dfaSameSpec.vars false #[.string ⟨#[]⟩, .int .i64 0, .slice none 0 0].toList 8 = some ([.lit (.string []), .lit (.int .i64 0), .nil], [], places) :=
  ⟨[], by kernel_rfl⟩
set_option maxRecDepth 100000 in
theorem lifted (os : Os) (started : os.Started) (H : Type) (enc : TypeId × Value → H) (F : Stop.Interp) :
    ReturnsInHanded {} Tryz.checked os 5 .any ((Rows.OpenSpec.upto Rows.dfaSameSpec).preRow enc Tryz.prog Tryz.f5 Rows.dfaSameUptoRow.domain false Rows.dfaSameUptoRow.laid) (((Rows.OpenSpec.upto Rows.dfaSameSpec).at F).post enc Tryz.prog Tryz.f5 false true false false) := by
  obtain ⟨places, hx⟩ := reads os enc
  refine returnsInHanded_of_row (C := Tryz.checked) (s := (Rows.OpenSpec.upto Rows.dfaSameSpec)) own started (by kernel_rfl) Tryz.func5
    (witness_row_at (enc := enc) (C := Tryz.checked) false (laidWorld os) #[.string ⟨#[]⟩, .int .i64 0, .slice none 0 0] (World.laidAll_os _ _ _) (by kernel_rfl) (by kernel_rfl) (by kernel_rfl)
      (OpenSpec.preRow_of_cond 8 hx (by kernel_rfl) (fun k hk => by cases hk; kernel_rfl) (by kernel_rfl) (laid_met os _))) ?_
  intro W base args ds gs before hval hW _ hcond hsz hL hsh _
  exact contract H enc W base args ds gs before hval hW hsz (hcond _ rfl) hL hsh
theorem said : Rows.DfaSameUptoSaid :=
  OpenClaim.holds_of_cond 5 Tryz.f5 rfl rfl rfl rfl rfl rfl rfl ⟨rfl, rfl, rfl, rfl, rfl⟩ rfl rfl rfl rfl rfl (by kernel_rfl) Tryz.func5 (by kernel_rfl)
    (of_decide_eq_true (by kernel_rfl)) (by unfold Func.isWrapper; first | (rw [if_pos (by decide +kernel)]; kernel_rfl) | (rw [if_neg (by decide +kernel)]; exact ⟨rfl, rfl⟩))
    (fun os started H enc _ F => by rw [OpenClaim.pre_eq_preRow]; exact lifted os started H enc F)
theorem plain (f : FuncId) (fn : Func) (hf : Tryz.pinned.checked.prog.funcNamed "garner/garnerlaw20.DfaSame" = some f) (hfn : Tryz.pinned.checked.prog.funcs[f]? = some fn) :
    true = Tryz.pinned.checked.prog.looks [] ∧ ∀ (j : Nat) t, fn.params[j]? = some t → Tryz.pinned.checked.prog.wantsStandIn t = false := by
  obtain rfl : f = 5 := Option.some.inj ((show Tryz.prog.funcNamed "garner/garnerlaw20.DfaSame" = some 5 by kernel_rfl).symm.trans hf) |>.symm
  obtain rfl : fn = Tryz.f5 := (Option.some.inj (Tryz.func5.symm.trans hfn)).symm
  refine ⟨by kernel_rfl, fun j t ht => ?_⟩
  rw [Tryz.params5] at ht
  have hm : t ∈ [9, 3, 37] := by simpa using Array.mem_of_getElem? ht
  have hall : ([9, 3, 37].all fun u => !Tryz.prog.wantsStandIn u) = true := by kernel_rfl
  exact (show Tryz.prog.wantsStandIn t = false by simpa using List.all_eq_true.1 hall t hm)
theorem dfaSame_cardupto : Rows.DfaSameUptoCardSaid :=
  Claim7.holds_tied_plain_at .later [] _ _ _ _ said (fun _ h => by cases h) (by kernel_rfl) (fun _ h => by cases h) dfaSameUpto_row_tie rfl ⟨rfl, rfl⟩ (by kernel_rfl) rfl plain (by kernel_rfl)
end dfaSameUpto
end Go.Proofs.YtmcacicopgckmaaGreatDoor
