/-
  WalScripts answers true where what it reads is of bulk at most 1048576: every call, in every order, with full disks, crashes at any change and files that others wrote, answers and leaves what the document says.
-/
import Derived.Test.YtmddgimadlmacaaDoorWs04
import Derived.Test.YtmddgimadlmacaaDoorWs08
import Derived.Test.YtmddgimadlmacaaDoorWs53
import Derived.Test.YtmddgimadlmacaaDoorCards
import Derived.Test.YtmddgimadlmacaaDoorTie
import Derived.SevenTiedAt
import Derived.Deep.DeepHandedRow
import Derived.LaidMore
namespace Go.Proofs.YtmddgimadlmacaaDoor
open Go.ChangeShapes Go.WideShapes Go.RowKit Garner

abbrev kWOp : Kind (Int × Int × Int × Sl Int × Sl Int × Unit) := kPair (kInt .i64) (kPair (kInt .i64) (kPair (kInt .i64) (kPair kBytes (kPair kInts kUnit))))
theorem o_wop : Opens Tryd.prog 58 kWOp := opens_struct Tryd.underlying58 (by kernel_rfl) (fopens_cons o_int rfl (fopens_cons o_int rfl (fopens_cons o_int rfl (fopens_cons o_bytes rfl (fopens_cons o_ints rfl (fopens_nil _))))))
abbrev kWOps : Kind (Sl (Int × Int × Int × Sl Int × Sl Int × Unit)) := kSlice kWOp 72
theorem o_wops : Opens Tryd.prog 50 kWOps := opens_slice o_wop Tryd.underlying50 (by kernel_rfl) (by kernel_rfl) (by decide) (fun _ => rfl)
theorem sum_onesW (l : List Int) (k : IntKind) : (l.map (kInt k).bulk).sum = l.length := by
  have : l.map (kInt k).bulk = List.replicate l.length 1 := by simp only [kInt]; rw [List.map_const']
  rw [this]; simp
theorem wop_of {w : World} {B : Nat} {x : Int × Int × Int × Sl Int × Sl Int × Unit} (h : kWOp.mem w B x) (hb : kWOp.bulk x ≤ 1048576) : ∃ o : WOp, o.cells = kWOp.cells x ∧ WOpOk w B o := by
  obtain ⟨kind, n, first, d, k, u⟩ := x
  obtain ⟨h1, h2, h3, h6, h7, _⟩ := h
  have hbk : 1 + (1 + (1 + (((d.l.map (kInt .u8).bulk).sum + 1) + (((k.l.map (kInt .i64).bulk).sum + 1) + 0)))) ≤ 1048576 := hb
  rw [sum_onesW, sum_onesW] at hbk
  have h6' : kBytes.mem w B d := h6
  have h7' : kInts.mem w B k := h7
  obtain ⟨l, e1, e2, e3, e4⟩ := bytes_of h6'
  obtain ⟨g1, g2, g3, g4⟩ := ints_of h7'
  refine ⟨⟨kind, n, first, d.A, d.c, l, k.A, k.c, k.l⟩, ?_, e2, g1, by show l.length ≤ _; omega, by show k.l.length ≤ _; omega, g4, wf64 h2⟩
  show [Value.int .i64 kind, .int .i64 n, .int .i64 first, .slice d.A l.length d.c, .slice k.A k.l.length k.c] = _
  rw [e1]
  rfl
theorem wops_list {w : World} {B : Nat} : ∀ (l : List (Int × Int × Int × Sl Int × Sl Int × Unit)), (∀ x ∈ l, kWOp.mem w B x) → (l.map kWOp.bulk).sum ≤ 1048576 → ∃ ps : List WOp, ps.flatMap WOp.cells = l.flatMap kWOp.cells ∧ ps.length = l.length ∧ (∀ o ∈ ps, WOpOk w B o) ∧ l.length ≤ (l.map kWOp.bulk).sum
  | [], _, _ => ⟨[], rfl, rfl, by simp, by simp⟩
  | x :: l, h, hs => by
    simp only [List.map_cons, List.sum_cons] at hs
    obtain ⟨ps, h1, h2, h3, h4⟩ := wops_list l (fun y hy => h y (by simp [hy])) (by omega)
    obtain ⟨o, e1, e2⟩ := wop_of (h x (by simp)) (by omega)
    refine ⟨o :: ps, by rw [List.flatMap_cons, List.flatMap_cons, h1, e1], by simp [h2], fun y hy => ?_, ?_⟩
    · rcases List.mem_cons.1 hy with rfl | hy
      · exact e2
      · exact h3 y hy
    · have : 1 ≤ kWOp.bulk x := by show 1 ≤ 1 + _; omega
      simp only [List.map_cons, List.sum_cons, List.length_cons]
      omega
theorem wscript_of {w : World} {B : Nat} {s : Sl (Int × Int × Int × Sl Int × Sl Int × Unit)} (h : kWOps.mem w B s) (hb : kWOps.bulk s ≤ 1048576) : ∃ ps : List WOp, ps.length = s.l.length ∧ WScript w B s.A ps ∧ ps.length ≤ 1048575 := by
  have hb' : (s.l.map kWOp.bulk).sum + 1 ≤ 1048576 := hb
  obtain ⟨ps, h1, h2, h3, h4⟩ := wops_list s.l h.all (by omega)
  refine ⟨ps, h2, ⟨?_, h3⟩, by omega⟩
  rw [h1, h2]; exact h.row
/-- the table, and where it lies -/
theorem env_of {W : World} (h : laidMetH Tryd.prog Rows.walScriptsUptoRow.laid W) : Env W := by
  have hf : (Rows.walScriptsUptoRow.laid.filter fun x => x.2.handleName?.isSome) = [] := by kernel_rfl
  unfold laidMetH at h
  rw [hf] at h
  obtain ⟨ps, hl, _, _⟩ := h
  obtain ⟨_, _, _, _, _, _, _, _, _, _, hl2, _⟩ := hl
  obtain ⟨_, _, _, _, _, _, _, _, _, _, hl3, _⟩ := hl2
  obtain ⟨g', t', cs, fuel, p, q, hg', ht', hvar, hd, _, _⟩ := hl3
  have hg : Tryd.prog.globalNamed "internal/strconv.uint64pow10" = some 0 := by kernel_rfl
  have hty : (Tryd.prog.globals[0]?).map (·.type) = some 130 := by kernel_rfl
  obtain rfl := Option.some.inj (hg.symm.trans hg')
  obtain rfl := Option.some.inj (hty.symm.trans ht')
  have hcs := Lib.cells_of_tab (k := .u64) (zs := Lib.pow10Tab) Tryd.underlying130 Tryd.underlying73 (by kernel_rfl) (by kernel_rfl) hd
  have ht : TabP W := by
    unfold TabP Lib.TabIs
    rw [hvar, ← hcs]
  refine ⟨ht, ?_⟩
  rw [hg, Option.getD_some]
  unfold TabP Lib.TabIs World.var? at ht
  rw [hg] at ht
  simp only [Option.bind_some] at ht
  rcases Nat.lt_or_ge 0 W.heap.size with h' | h'
  · exact h'
  · rw [Array.getElem?_eq_none h'] at ht; cases ht
end Go.Proofs.YtmddgimadlmacaaDoor

namespace Go.Proofs.YtmddgimadlmacaaDoor
open Go.ChangeShapes Go.WideShapes Go.ChangeAt Go.RowKit Garner

namespace walScriptsUpto
theorem own : ownKnob Tryd.prog.godebug = none := by kernel_rfl
theorem laidOut : laidOutB Tryd.prog = true := by kernel_rfl
set_option linter.unusedVariables false in
set_option maxRecDepth 100000 in
theorem contract (H : Type) (enc : TypeId × Value → H) (W : World) (base : Nat) (args : Array Value) (ds gs : List (DataW H)) (before : List MemPlace)
    (hval : ∀ (j : Nat) t v, Tryd.f6.params[j]? = some t → args[j]? = some v → Value.okWide Tryd.prog W .any base t v)
    (hW : DataW.Whole enc Tryd.prog Tryd.f6.params.toList Rows.walScriptsSpec.vars false W args.toList ds gs before) (hsz : (DataW.weightsEach Tryd.prog (Tryd.f6.params.toList ++ Rows.walScriptsSpec.plain.varTypes Tryd.prog) (ds ++ gs)).all (· ≤ reachBytes) = true) (hk0 : Rows.uptoSmall H (ds ++ gs) = true) (hL : laidMetH Tryd.prog Rows.walScriptsUptoRow.laid W) :
    Calls Tryd.prog 6 args W fun e W' => ∃ v, e = .returned v ∧ Rows.walScriptsSpec.post enc Tryd.prog Tryd.f6 false true false false W args v W' := by
  have hW' := hW
  obtain ⟨p, q, hA0, hV, rfl, hfz, hnd⟩ := hW
  have hA : DataW.TrodAll enc Tryd.prog W 0 (fun _ => true) true Tryd.f6.params.toList args.toList ds p := hA0
  rw [Tryd.params6] at hA hval hsz
  obtain ⟨v0, vs0, d0, ds0, p0, q0, hargs, rfl, rfl, h0, r0⟩ := trodAll_cons hA
  obtain ⟨v1, vs1, d1, ds1, p1, q1, rfl, rfl, rfl, h1, r1⟩ := trodAll_cons r0
  obtain ⟨rfl, rfl, rfl⟩ := trodAll_nil r1
  obtain rfl : args = #[v0, v1] := by cases args; simp_all
  obtain ⟨rfl, rfl⟩ := trodVars_none hV
  have hk : Rows.uptoBulkAll _ ≤ 1048576 := of_decide_eq_true hk0
  simp only [List.append_nil, Rows.uptoBulkAll] at hk
  have k0 := h0
  have lt0 : ∀ x ∈ p0, x.block < W.heap.size := by obtain ⟨m, hm⟩ := k0; exact DataW.trod_lt m _ _ _ hm
  obtain ⟨x0, c0, m0, b0⟩ := open_arg (K := kInt .i64) o_int h0 (sized_arg hsz (j := 0) rfl rfl)
  have e0 := val_int Tryd.underlying3 (hval 0 3 v0 rfl rfl) c0
  subst e0
  have k1 := h1
  have lt1 : ∀ x ∈ p1, x.block < W.heap.size := by obtain ⟨m, hm⟩ := k1; exact DataW.trod_lt m _ _ _ hm
  obtain ⟨x1, c1, m1, b1⟩ := open_arg (K := kWOps) o_wops h1 (sized_arg hsz (j := 1) rfl rfl)
  have e1 := val_slice Tryd.underlying50 (hval 1 50 v1 rfl rfl) c1
  subst e1
  clear hA0
  obtain ⟨ps, hl0, hp0, hc0⟩ := wscript_of m1 (by omega)
  have hcall := lawWS x0 ps x1.A x1.c W (env_of hL) hp0 hc0
  rw [hl0] at hcall
  refine (hcall).mono fun e W' ⟨he, bel⟩ => ?_
  subst he
  exact ⟨_, rfl, _, _, _, [], _, [], hW', trodAll_mk1 (shut_bool Tryd.underlying4 _), (trodAll_cons_mk (Below.trod laidOut (by kernel_rfl) (of_decide_eq_true (by kernel_rfl)) k0 bel lt0) (trodAll_cons_mk (Below.trod laidOut (by kernel_rfl) (of_decide_eq_true (by kernel_rfl)) k1 bel lt1) trodAll_mk0)), rfl, bel.frame _, fun h => by cases h⟩
noncomputable def laidWorld (os : Os) : World := World.doorLaid Tryd.prog 24 os
theorem laid_met (os : Os) (args : Array Value) : laidMetH Tryd.prog Rows.walScriptsUptoRow.laid ((laidWorld os).forCall (fun _ _ => 0) ⟨#[], args, []⟩).memory :=
  laidMetH_of_parts3 (fuel := 8) (laidMet_of_run' 8 (by kernel_rfl) (by kernel_rfl)) (by kernel_rfl) (by kernel_rfl)
theorem reads (os : Os) {H : Type} (enc : TypeId × Value → H) : ∃ places, DataW.whole enc Tryd.prog ((laidWorld os).forCall (fun _ _ => 0) ⟨#[], #[.int .i64 0, .slice none 0 0], []⟩).memory Tryd.f6.params.toList Rows.walScriptsSpec.vars false #[.int .i64 0, .slice none 0 0].toList 8 = some ([.lit (.int .i64 0), .nil], [], places) :=
  ⟨[], by kernel_rfl⟩
set_option maxRecDepth 100000 in
theorem lifted (os : Os) (started : os.Started) (H : Type) (enc : TypeId × Value → H) (F : Stop.Interp) :
    ReturnsInHanded {} Tryd.checked os 6 .any ((Rows.OpenSpec.upto Rows.walScriptsSpec).preRow enc Tryd.prog Tryd.f6 Rows.walScriptsUptoRow.domain false Rows.walScriptsUptoRow.laid) (((Rows.OpenSpec.upto Rows.walScriptsSpec).at F).post enc Tryd.prog Tryd.f6 false true false false) := by
  obtain ⟨places, hx⟩ := reads os enc
  refine returnsInHanded_of_row (C := Tryd.checked) (s := (Rows.OpenSpec.upto Rows.walScriptsSpec)) own started (by kernel_rfl) Tryd.func6
    (witness_row_at (enc := enc) (C := Tryd.checked) false (laidWorld os) #[.int .i64 0, .slice none 0 0] rfl (by kernel_rfl) (by kernel_rfl) (by kernel_rfl)
      (OpenSpec.preRow_of_cond 8 hx (by kernel_rfl) (fun k hk => by cases hk; kernel_rfl) (by kernel_rfl) (laid_met os _))) ?_
  intro W base args ds gs before hval hW _ hcond hsz hL _ _
  exact contract H enc W base args ds gs before hval hW hsz (hcond _ rfl) hL
theorem said : Rows.WalScriptsUptoSaid :=
  OpenClaim.holds_of_cond 6 Tryd.f6 rfl rfl rfl rfl rfl rfl rfl ⟨rfl, rfl, rfl, rfl, rfl⟩ rfl rfl rfl rfl rfl (by kernel_rfl) Tryd.func6 (by kernel_rfl)
    (of_decide_eq_true (by kernel_rfl)) (by unfold Func.isWrapper; first | (rw [if_pos (by decide +kernel)]; kernel_rfl) | (rw [if_neg (by decide +kernel)]; exact ⟨rfl, rfl⟩))
    (fun os started H enc _ F => by rw [OpenClaim.pre_eq_preRow]; exact lifted os started H enc F)
theorem plain (f : FuncId) (fn : Func) (hf : Tryd.pinned.checked.prog.funcNamed "garner/garnerlaw10.WalScripts" = some f) (hfn : Tryd.pinned.checked.prog.funcs[f]? = some fn) :
    false = Tryd.pinned.checked.prog.looks [] ∧ ∀ (j : Nat) t, fn.params[j]? = some t → Tryd.pinned.checked.prog.wantsStandIn t = false := by
  obtain rfl : f = 6 := Option.some.inj ((show Tryd.prog.funcNamed "garner/garnerlaw10.WalScripts" = some 6 by kernel_rfl).symm.trans hf) |>.symm
  obtain rfl : fn = Tryd.f6 := (Option.some.inj (Tryd.func6.symm.trans hfn)).symm
  refine ⟨by kernel_rfl, fun j t ht => ?_⟩
  rw [Tryd.params6] at ht
  have hm : t ∈ [3, 50] := by simpa using Array.mem_of_getElem? ht
  have hall : ([3, 50].all fun u => !Tryd.prog.wantsStandIn u) = true := by kernel_rfl
  exact (show Tryd.prog.wantsStandIn t = false by simpa using List.all_eq_true.1 hall t hm)
theorem walScripts_cardupto : Rows.WalScriptsUptoCardSaid :=
  Claim7.holds_tied_plain_at .later [] _ _ _ _ said (fun _ h => by cases h) (by kernel_rfl) (fun _ h => by cases h) walScriptsUpto_row_tie rfl ⟨rfl, rfl⟩ (by kernel_rfl) rfl plain (by kernel_rfl)
end walScriptsUpto
end Go.Proofs.YtmddgimadlmacaaDoor
