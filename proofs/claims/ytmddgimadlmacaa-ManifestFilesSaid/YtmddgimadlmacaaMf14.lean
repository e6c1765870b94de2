import Derived.Test.YtmddgimadlmacaaMf13
import Derived.Deep.QuietTactic
import Derived.BigQuiet
import Derived.Test.YtmddgimadlmacaaMf05
namespace Go.Proofs.Ytmddgimadlmacaa
open Go.RowKit Garner

set_option maxRecDepth 100000 in
set_option maxHeartbeats 4000000 in
theorem rSame (m : Man) (A1 A2 : Option Addr) (c1 c2 B : Nat) (w : World) (h1 : Segs w B A1 m.segs.length m.segs) (h2 : Segs w B A2 m.segs.length m.segs) (hB : B ≤ w.heap.size) (hl : m.segs.length ≤ 140737488355328) :
    Calls Try.prog 16 #[manV m A1 c1, manV m A2 c2] w fun e w' => e = .returned (.bool true) ∧ Below w.heap.size w w' := by
  go_enter Try.func16, Try.ntmps16
  go_wp2_with fail
  obtain ⟨X, hX⟩ : ∃ X, X = (w.alloc (manBox m A1 c1)).alloc (manBox m A2 c2) := ⟨_, rfl⟩
  change Code.wp _ _ _ _ ((w.alloc (manBox m A1 c1)).alloc (manBox m A2 c2))
  rw [← hX]
  have hbX : Below w.heap.size w X := by rw [hX]; exact ((Below.refl _ _).alloc (Nat.le_refl _) _).alloc (by simp) _
  have hb1 : Blk X w.heap.size 25 [.int .i64 m.wal, .int .i64 m.next, .int .u64 m.seq, .int .i64 m.mark, .slice A1 m.segs.length c1] := by rw [hX]; exact (Blk.new w _ _).alloc _
  have hb2 : Blk X (w.heap.size + 1) 25 [.int .i64 m.wal, .int .i64 m.next, .int .u64 m.seq, .int .i64 m.mark, .slice A2 m.segs.length c2] := by
    rw [hX]
    have h := Blk.new (w.alloc (manBox m A1 c1)) 25 [.int .i64 m.wal, .int .i64 m.next, .int .u64 m.seq, .int .i64 m.mark, .slice A2 m.segs.length c2]
    rw [World.size_alloc] at h
    exact h
  clear hX
  have hsX : w.heap.size + 2 ≤ X.heap.size := hb2.lt
  go_loopw [5] (fun i wr => ∃ k : Nat, k ≤ m.segs.length ∧ i = .int .i64 k ∧ Below X.heap.size X wr) (fun i _ => m.segs.length - (intOf i).toNat)
  case atStart => exact ⟨0, by omega, rfl, Below.refl _ _⟩
  case round =>
    obtain ⟨k, hk, rfl, hbel⟩ := hrel
    obtain ⟨wo, rfl⟩ : ∃ wo : World, wo = wr := ⟨_, rfl⟩
    have hbw : Below w.heap.size w wo := hbX.trans (hbel.mono (by omega))
    have x4 : wo.cell? ⟨w.heap.size, 4, none⟩ = some (.slice A1 m.segs.length c1) := (hbel.cell (p := ⟨w.heap.size, 4, none⟩) (by show w.heap.size < _; omega)).trans (hb1.cell 4)
    have y4 : wo.cell? ⟨w.heap.size + 1, 4, none⟩ = some (.slice A2 m.segs.length c2) := (hbel.cell (p := ⟨w.heap.size + 1, 4, none⟩) (by show w.heap.size + 1 < _; omega)).trans (hb2.cell 4)
    by_cases hlt : (k : Int) < m.segs.length
    · have hlt' : k < m.segs.length := by omega
      obtain ⟨b, off, rfl, hb, g0, g1, g2, g3⟩ := seg_at (h1.below (hbw.mono hB)) rfl hlt'
      obtain ⟨b', off', rfl, hb', f0, f1, f2, f3⟩ := seg_at (h2.below (hbw.mono hB)) rfl hlt'
      obtain ⟨s, hs⟩ : ∃ s, s = m.segs[k] := ⟨_, rfl⟩
      rw [← hs] at g0 g1 g2 g3 f0 f1 f2 f3
      have Hs := Lib.hid hs; clear hs
      go_wp2_with fail
      go_quiet (fail)
      go_wp2
      go_roundw
      case rel =>
        first
          | exact ⟨k + 1, by omega, by go_num, below_drewN hbel _⟩
          | ((repeat apply Exists.intro); exact ⟨⟨k + 1, by omega, by go_num, below_drewN hbel _⟩, rfl⟩)
      case measure => simp [intOf]; omega
    · go_wp2
      go_ret
      exact ⟨rfl, hbw⟩
end Go.Proofs.Ytmddgimadlmacaa
namespace Go.Proofs.Ytmddgimadlmacaa
open Go.RowKit Garner

set_option maxRecDepth 100000 in
set_option maxHeartbeats 2000000 in
theorem rFirst (w : World) : Calls Try.prog 45 #[] w fun e w' => e = .returned (manV firstMan none 0) ∧ Below w.heap.size w w' := by
  go_enter Try.func45, Try.ntmps45
  go_wp2
  refine bodyPost_ret (v := manV firstMan none 0) (by simp [results, Try.results45, go_sem, firstMan, *]) rfl ?_
  exact ⟨rfl, by first | exact (Below.refl _ _).alloc (Nat.le_refl _) _ | exact below_set5 ((Below.refl _ _).alloc (Nat.le_refl _) _) (Nat.le_refl _) _ _ _ _ _⟩
set_option maxRecDepth 100000 in
set_option maxHeartbeats 2000000 in
theorem vFirst (w : World) : Calls Try.prog 46 #[] w fun e w' => e = .returned (manV firstMan none 0) ∧ Below w.heap.size w w' := by
  go_enter Try.func46, Try.ntmps46
  go_wp2
  refine bodyPost_ret (v := manV firstMan none 0) (by simp [results, Try.results46, go_sem, firstMan, *]) rfl ?_
  exact ⟨rfl, by first | exact (Below.refl _ _).alloc (Nat.le_refl _) _ | exact below_set5 ((Below.refl _ _).alloc (Nat.le_refl _) _) (Nat.le_refl _) _ _ _ _ _⟩
set_option maxRecDepth 100000 in
set_option maxHeartbeats 2000000 in
theorem vSmallMan (w : World) : Calls Try.prog 44 #[] w fun e w' => ∃ A, e = .returned (manV smallMan A 1) ∧ Segs w' w'.heap.size A 1 smallMan.segs ∧ Below w.heap.size w w' := by
  go_enter Try.func44, Try.ntmps44
  go_wp2
  refine bodyPost_ret (v := manV smallMan (some ⟨w.heap.size + 1, 0, none⟩) 1) (by simp [results, Try.results44, go_sem, smallMan, *]) rfl ?_
  refine ⟨_, rfl, ?_, ?_⟩
  · have h := row_newN (w.alloc (.cells #[.int .i64 2, .int .i64 3, .int .u64 9, .int .i64 5, .slice (some ⟨w.heap.size + 1, 0, none⟩) 1 1] 25)) 36 4 1 (segV { id := 1, count := 4, mn := 10, mx := 20 }) rfl
    simp only [World.size_alloc] at h ⊢
    exact h
  · exact ((Below.refl _ _).alloc (Nat.le_refl _) _).alloc (by simp) _
end Go.Proofs.Ytmddgimadlmacaa
namespace Go.Proofs.Ytmddgimadlmacaa
open Go.RowKit Garner

def bsManifest : List UInt8 := [109, 97, 110, 105, 102, 101, 115, 116]
theorem nameManifest : nameOk ⟨#[109, 97, 110, 105, 102, 101, 115, 116]⟩ = true := by rfl
set_option maxRecDepth 100000 in
set_option maxHeartbeats 4000000 in
theorem vDread0 (g mp : Nat) (a : Bool) (left : Int) (w : World) (hm : MapIs strKey w mp []) (hd : Blk w g 97 (diskV mp a false left)) :
    Calls Try.prog 22 #[.pointer (some ⟨g, 0, none⟩), .string ⟨#[109, 97, 110, 105, 102, 101, 115, 116]⟩] w fun e w' => e = .returned (.tuple #[.slice none 0 0, .int .i64 21]) ∧ Below w.heap.size w w' := by
  have hgw : g < w.heap.size := hd.lt
  go_enter Try.func22, Try.ntmps22
  go_wp2_with fail
  refine (vDmay [⟨#[109, 97, 110, 105, 102, 101, 115, 116]⟩] (some ⟨w.heap.size, 0, none⟩) 1 (w.heap.size + 1) g mp a false left _ (row_new w 9 [.string ⟨#[109, 97, 110, 105, 102, 101, 115, 116]⟩]) (by simp) (hd.alloc _) (by simp)).mono ?_
  rintro e w2 ⟨rfl, hb2⟩
  simp only [World.size_alloc] at hb2
  have hdm : dmay [⟨#[109, 97, 110, 105, 102, 101, 115, 116]⟩] false = 0 := by simp [dmay, nameManifest]
  rw [hdm]
  have hbw : Below w.heap.size w w2 := ((Below.refl w.heap.size w).alloc (Nat.le_refl _) _).trans (hb2.mono (Nat.le_succ _))
  have hm2 : MapIs strKey w2 mp [] := hm.below hbw hm.lt
  have x0 : w2.cell? ⟨g, 0, none⟩ = some (.map (some mp)) := (hbw.cell (p := ⟨g, 0, none⟩) hgw).trans (hd.cell 0)
  have hlook : (Instr.lookup 95 (.map (some mp)) (.string ⟨#[109, 97, 110, 105, 102, 101, 115, 116]⟩) true).run Try.prog w2 = .ok (.tuple #[.agg #[.slice none 0 0, .int .i64 0], .bool false]) w2 := by
    have := run_look (strKeys Try.underlying9) Try.underlying95 hm2 (zeroFile _) bsManifest true
    simpa [aget, bsManifest] using this
  go_wp2
  go_ret2
  exact ⟨rfl, hbw.alloc hbw.size _⟩
set_option maxRecDepth 100000 in
set_option maxHeartbeats 4000000 in
theorem vLoad0 (g mp : Nat) (a : Bool) (left : Int) (w : World) (hm : MapIs strKey w mp []) (hd : Blk w g 97 (diskV mp a false left)) :
    Calls Try.prog 40 #[.pointer (some ⟨g, 0, none⟩)] w fun e w' => e = .returned (.tuple #[manV firstMan none 0, .int .i64 0]) ∧ Below w.heap.size w w' := by
  have hgw : g < w.heap.size := hd.lt
  go_enter Try.func40, Try.ntmps40
  go_wp2_with fail
  refine (vDread0 g mp a left _ (hm.alloc _) (hd.alloc _)).mono ?_
  rintro e w1 ⟨rfl, hb1⟩
  simp only [World.size_alloc] at hb1
  go_wp2_with fail
  refine (vFirst w1).mono ?_
  rintro e w2 ⟨rfl, hb2⟩
  have hres1 : Blk w1 w.heap.size 25 [.int .i64 0, .int .i64 0, .int .u64 0, .int .i64 0, .slice none 0 0] := (Blk.new w _ _).below hb1 (by omega)
  have hres : Blk w2 w.heap.size 25 [.int .i64 0, .int .i64 0, .int .u64 0, .int .i64 0, .slice none 0 0] := hres1.below hb2 hres1.lt
  have hbw : Below w.heap.size w w2 := (((Below.refl w.heap.size w).alloc (Nat.le_refl _) _).trans (hb1.mono (Nat.le_succ _))).trans (hb2.mono (by have := hres1.lt; omega))
  have v0 := hres.frozen 0; have v1 := hres.frozen 1; have v2 := hres.frozen 2; have v3 := hres.frozen 3; have v4 := hres.frozen 4
  have r0 := hres.cell 0; have r1 := hres.cell 1; have r2 := hres.cell 2; have r3 := hres.cell 3; have r4 := hres.cell 4
  simp only [List.getElem?_cons_zero, List.getElem?_cons_succ] at r0 r1 r2 r3 r4
  simp only [firstMan]
  go_wp2
  refine bodyPost_ret (v := .tuple #[manV firstMan none 0, .int .i64 0]) (by simp [results, Try.results40, go_sem, firstMan, *]) rfl ?_
  exact ⟨rfl, below_set5 hbw (Nat.le_refl _) _ _ _ _ _⟩
end Go.Proofs.Ytmddgimadlmacaa
/-
  The same for guarded operations ('&&', '||'): one that is wanted at hand is walked, one that is not is passed.
-/
namespace Garner
open Go

section
variable {P : Program} {ops : Array Oper} {Q : Exit → Act → World → Prop} {md : Region.Mode} {S : World → Prop}

def YieldsG (P : Program) (ops : Array Oper) (S : World → Prop) (o : Oper) (v : Value) (a : Act) : Prop := Region.wanted o (yielded ops a.tmps) = true ∧ YieldsS P S o v a

theorem YieldsG.wpOp {i : Nat} {o : Oper} {v : Value} {a : Act} (hi : ops[i]? = some o) (hy : YieldsG P ops S o v a)
    {K : Act → World → Prop} {w : World} (hS : S w) (h : K (a.put o.dst v) w) : wpOp P ops Q i K a w := by
  unfold Go.wpOp
  simp only [hi]
  rw [if_pos hy.1]
  refine .inl ?_
  have hy := hy.2 w hS
  unfold Oper.wp
  generalize (execOp a.eval o).run P w = r at hy
  cases r with
  | halt x w' => exact hy.elim
  | ok n w' =>
    cases n with
    | value u =>
      obtain ⟨h1, h2⟩ := hy
      subst h1; subst h2
      exact h
    | enter f args =>
      obtain ⟨h1, h2⟩ := hy
      subst h1
      refine Calls.mono h2 fun e w'' he => ?_
      obtain ⟨he1, he2⟩ := he
      subst he1; subst he2
      exact h
    | _ => exact hy.elim

theorem wpOp_putG {j : Nat} {oi oj : Oper} {v : Value} (hj : ops[j]? = some oj) (hap : oi.apart ops oj = true)
    (hsi : ∀ cs b, oi.op ≠ .select cs b) (hsj : ∀ cs b, oj.op ≠ .select cs b)
    (hQ : ∀ c a w, Q (.panic c) (a.put oi.dst v) w → Q (.panic c) a w) {K : Act → World → Prop} {a : Act} {w : World}
    (hy : YieldsG P ops S oi v a) (h : wpOp P ops Q j K (a.put oi.dst v) w) :
    wpOp P ops Q j (fun a' w' => YieldsG P ops S oi v a' ∧ K (a'.put oi.dst v) w') a w := by
  obtain ⟨h1, h2, h3⟩ := Oper.apart_spec hap
  have keep : ∀ (a : Act), YieldsG P ops S oi v a → ∀ u, YieldsG P ops S oi v (a.put oj.dst u) := fun a hy u => ⟨(wanted_put oi a oj.dst u h3).trans hy.1, hy.2.of_same (execOp_put oi hsi a oj.dst u h3)⟩
  have keepD : ∀ d, YieldsG P ops S oi v { a with defers := d :: a.defers } := fun d => ⟨hy.1, hy.2.of_same rfl⟩
  unfold wpOp at *
  simp only [hj] at *
  rw [wanted_put oj a oi.dst v h1] at h
  split
  · rename_i hw
    simp only [hw, if_true] at h
    rcases h with h | ⟨hasks, hlets⟩
    case inr => exact .inr ⟨by unfold Oper.asks at *; rw [execOp_put oj hsj a oi.dst v h1] at hasks; exact hasks, hlets⟩
    refine .inl ?_
    unfold Oper.wp at *
    rw [execOp_put oj hsj a oi.dst v h1] at h
    generalize (execOp a.eval oj).run P w = r at *
    cases r with
    | ok n w' =>
      cases n <;> simp only [Oper.upon] at h ⊢
      case value u => exact ⟨keep a hy u, by rw [← Act.put_comm a v u h2]; exact h⟩
      case skip => exact ⟨keep a hy _, by rw [← Act.put_comm a v undef h2]; exact h⟩
      case defer d =>
        refine ⟨keep _ (keepD d) _, ?_⟩
        rw [← Act.put_comm _ v undef h2, ← Act.put_defers]
        exact h
      case enter f args =>
        refine Calls.mono h fun e w'' he => ?_
        cases e with
        | returned u => exact ⟨keep a hy u, by rw [← Act.put_comm a v u h2]; exact he⟩
        | panicked c => exact hQ _ _ _ he
        | outgrown => exact he
      case row row args => exact Rows.mono h fun u w'' he => ⟨keep a hy u, by rw [← Act.put_comm a v u h2]; exact he⟩
    | halt x w' =>
      cases x <;> simp only [Oper.upon] at h ⊢
      case panic u => exact hQ _ _ _ h
  · rename_i hw
    simp only [hw] at h
    exact ⟨keep a hy _, by rw [← Act.put_comm a v undef h2]; exact h⟩

theorem wpAnyN_firstG {n i : Nat} {oi : Oper} {v : Value} (hi : ops[i]? = some oi) (hsel : ∀ (j : Nat) (o : Oper) cs b, ops[j]? = some o → o.op ≠ .select cs b)
    (hQ : ∀ c a w, Q (.panic c) (a.put oi.dst v) w → Q (.panic c) a w) (hn : ∀ o, ops[n]? = some o → ∃ e ∈ o.after, Region.binds md e = true ∧ e.on = i) :
    ∀ (fuel : Nat) (listed : Array Bool) (a : Act) (w : World),
      (∀ j oj, ops[j]? = some oj → j ≠ i → listed.getD j true = false → (∀ e ∈ oj.after, Region.binds md e = true → e.on ≠ i) → oi.apart ops oj = true) →
      i ∈ Region.ready md ops listed → YieldsG P ops S oi v a → S w →
      wpAnyN P md ops Q S n fuel (listed.setIfInBounds i true) (a.put oi.dst v) w → wpAnyN P md ops Q S n (fuel + 1) listed a w := by
  intro fuel
  induction fuel with
  | zero =>
    intro listed a w _ hr hy hS H
    refine ⟨fun h => (by rw [h] at hr; cases hr), fun j hj => ?_⟩
    by_cases hji : j = i
    · subst hji; exact hy.wpOp hi hS ⟨fun _ => hS, H⟩
    · have := ready_mono hj hji
      rw [H.1] at this
      cases this
  | succ fuel ih =>
    intro listed a w hfree hr hy hS H
    refine ⟨fun h => (by rw [h] at hr; cases hr), fun j hj => ?_⟩
    by_cases hji : j = i
    · subst hji; exact hy.wpOp hi hS ⟨fun _ => hS, H⟩
    · have h1 := H.2 j (ready_mono hj hji)
      obtain ⟨hjun, oj, hoj, hall⟩ := mem_ready.1 hj
      have hnot : ∀ e ∈ oj.after, Region.binds md e = true → e.on ≠ i := fun e he hb heq => by
        have h1 := hall e he hb
        have h0 := (mem_ready.1 hr).1
        rw [heq] at h1
        rcases Nat.lt_or_ge i listed.size with h' | h'
        · simp [h'] at h0 h1; rw [h0] at h1; cases h1
        · simp [Array.getElem?_eq_none h'] at h1
      have hjn : j ≠ n := fun e => by
        subst e
        obtain ⟨e, he, hb, heq⟩ := hn oj hoj
        exact hnot e he hb heq
      have h2 := wpOp_putG hoj (hfree j oj hoj hji hjun hnot) (fun cs b => hsel i oi cs b hi) (fun cs b => hsel j oj cs b hoj) hQ hy h1
      have hfree' : ∀ k ok, ops[k]? = some ok → k ≠ i → (listed.setIfInBounds j true).getD k true = false →
          (∀ e ∈ ok.after, Region.binds md e = true → e.on ≠ i) → oi.apart ops ok = true := fun k ok hk hki hun hno => by
        refine hfree k ok hk hki ?_ hno
        by_cases hjk : j = k
        · subst hjk; exact hjun
        · rw [getD_set_ne true hjk] at hun; exact hun
      refine wpOp_mono (fun a' w' h3 => ⟨h3.2.1, ih (listed.setIfInBounds j true) a' w' hfree' (ready_mono hr (Ne.symm hji)) h3.1 (h3.2.1 hjn) ?_⟩) h2
      rw [Array.setIfInBounds_comm _ _ hji]
      exact h3.2.2

def mayTakeG (md : Region.Mode) (ops : Array Oper) (n : Nat) (listed : Array Bool) (i : Nat) : Bool :=
  Region.noSelect ops && Region.free md ops listed i && (Region.ready md ops listed).contains i &&
  (match ops[n]? with | some o => o.after.any fun e => Region.binds md e && e.on == i | none => true)

/-- number i first, guarded or not, where it is wanted -/
theorem wpAnyN_takeG (i : Nat) {n : Nat} {oi : Oper} {v : Value} {fuel : Nat} {listed : Array Bool} {a : Act} {w : World} (hm : mayTakeG md ops n listed i = true) (hi : ops[i]? = some oi)
    (hQ : ∀ c a w, Q (.panic c) (a.put oi.dst v) w → Q (.panic c) a w) (hw : Region.wanted oi (yielded ops a.tmps) = true) (hS : S w) (hy : ∀ w, S w → stillRun P v w ((execOp a.eval oi).run P w))
    (h : wpAnyN P md ops Q S n fuel (listed.setIfInBounds i true) (a.put oi.dst v) w) : wpAnyN P md ops Q S n (fuel + 1) listed a w := by
  simp only [mayTakeG, Bool.and_eq_true] at hm
  obtain ⟨⟨⟨h1, h2⟩, h3⟩, h4⟩ := hm
  refine wpAnyN_firstG hi (Region.noSelect_spec h1) hQ (fun o ho => ?_) fuel listed a w (Region.free_spec hi h2) (by simpa using h3) ⟨hw, hy⟩ hS h
  rw [ho] at h4
  obtain ⟨e, he, hb⟩ := Array.any_eq_true'.1 h4
  simp only [Bool.and_eq_true, beq_iff_eq] at hb
  exact ⟨e, he, hb⟩

theorem wpAnyN_runG (i : Nat) {n : Nat} {o : Oper} {fuel : Nat} {listed : Array Bool} {a : Act} {w : World} (hr : Region.ready md ops listed = [i]) (hi : ops[i]? = some o) (hw : Region.wanted o (yielded ops a.tmps) = true)
    (h : ∀ K : Act → World → Prop, (∀ a' w', (i ≠ n → S w') → wpAnyN P md ops Q S n fuel (listed.setIfInBounds i true) a' w' → K a' w') → o.wp P a w K Q) : wpAnyN P md ops Q S n (fuel + 1) listed a w := by
  refine ⟨fun h0 => (by rw [hr] at h0; cases h0), fun j hj => ?_⟩
  rw [hr] at hj
  obtain rfl : j = i := by simpa using hj
  unfold Go.wpOp
  simp only [hi]
  rw [if_pos hw]
  exact .inl (h _ fun _ _ h1 h2 => ⟨h1, h2⟩)

theorem wpAnyN_pass (i : Nat) {n : Nat} {o : Oper} {fuel : Nat} {listed : Array Bool} {a : Act} {w : World} (hr : Region.ready md ops listed = [i]) (hi : ops[i]? = some o) (hw : Region.wanted o (yielded ops a.tmps) = false) (hS : S w)
    (h : wpAnyN P md ops Q S n fuel (listed.setIfInBounds i true) (a.put o.dst undef) w) : wpAnyN P md ops Q S n (fuel + 1) listed a w := by
  refine ⟨fun h0 => (by rw [hr] at h0; cases h0), fun j hj => ?_⟩
  rw [hr] at hj
  obtain rfl : j = i := by simpa using hj
  unfold Go.wpOp
  simp only [hi]
  rw [if_neg (by rw [hw]; simp)]
  exact ⟨fun _ => hS, h⟩
end
end Garner
