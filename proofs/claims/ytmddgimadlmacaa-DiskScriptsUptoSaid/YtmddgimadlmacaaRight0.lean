import Derived.Test.YtmddgimadlmacaaAll5
import Derived.Test.YtmddgimadlmacaaBut
/-! one call on a pair of disks: bounds, and what is left -/
namespace Go.Proofs.Ytmddgimadlmacaa
open Go.RowKit Garner

structure OpD where
  kind : Int
  on : Int
  n : Int
  a : Bs
  b : Bs
  A : Option Addr
  c : Nat
  data : Bs
  Ak : Option Addr
  ck : Nat
  keep : List Int
def opCells (o : OpD) : List Value := [.int .i64 o.kind, .int .i64 o.on, .int .i64 o.n, .string (nmS o.a), .string (nmS o.b), .slice o.A o.data.length o.c, .slice o.Ak o.keep.length o.ck]
structure OpOk (w : World) (B : Nat) (o : OpD) : Prop where
  data : Bytes w B o.A o.data.length o.data
  keep : Row w B 1 o.Ak o.keep.length (o.keep.map (Value.int .i64))
  dl : o.data.length ≤ 1048576
  dc : o.data.length ≤ o.c
  kl : o.keep.length ≤ 1048576
  al : (nmS o.a).size ≤ 1048576
  bl : (nmS o.b).size ≤ 1048576
  ks : ∀ k ∈ o.keep, in64 k
  ki : in64 o.kind
  oi : in64 o.on
  ni : in64 o.n
theorem OpOk.below {w w' : World} {B : Nat} {o : OpD} (h : OpOk w B o) (hb : Below B w w') : OpOk w' B o :=
  ⟨h.data.below hb, h.keep.below hb, h.dl, h.dc, h.kl, h.al, h.bl, h.ks, h.ki, h.oi, h.ni⟩
/-- how large a disk may be -/
structure BdF (N : Nat) (fs : List (Bs × FileD)) : Prop where
  len : fs.length ≤ N
  file : ∀ q ∈ fs, q.2.1.length ≤ N * 1048576
def Bd (N : Nat) (p : Option AD) : Prop := ∀ b, p = some b → BdF N b.fs ∧ Good b.fs
theorem Bd.none (N : Nat) : Bd N none := fun _ h => by cases h
theorem Bd.mk {N : Nat} {b : AD} (h : BdF N b.fs) (g : Good b.fs) : Bd N (some b) := fun _ e => by cases e; exact ⟨h, g⟩
theorem BdF.nil (N : Nat) : BdF N [] := ⟨Nat.zero_le _, by simp⟩
theorem BdF.mono {N : Nat} {fs : List (Bs × FileD)} (h : BdF N fs) : BdF (N + 1) fs := ⟨by have := h.len; omega, fun q hq => Nat.le_trans (h.file q hq) (Nat.mul_le_mul_right _ (Nat.le_succ N))⟩
theorem Bd.mono {N : Nat} {p : Option AD} (h : Bd N p) : Bd (N + 1) p := fun b e => ⟨(h b e).1.mono, (h b e).2⟩
theorem sput_len {ν : Type} (nm : Bs) (v : ν) : ∀ l : List (Bs × ν), (sput nm v l).length ≤ l.length + 1
  | [] => by rw [sput_nil]; simp
  | p :: r => by
    rw [sput_cons]
    have := sput_len nm v r
    split
    · simp
    · split
      · simp
      · simp only [List.length_cons]; omega
theorem BdF.put {N : Nat} {fs : List (Bs × FileD)} (h : BdF N fs) (nm : Bs) {f : FileD} (hf : f.1.length ≤ (N + 1) * 1048576) : BdF (N + 1) (sput nm f fs) :=
  ⟨by have := sput_len nm f fs; have := h.len; omega, fun q hq => by
    rcases mem_sput hq with rfl | hq
    · exact hf
    · exact Nat.le_trans (h.file q hq) (Nat.mul_le_mul_right _ (Nat.le_succ N))⟩
theorem adel_sub {ν : Type} (nm : Bs) : ∀ l : List (Bs × ν), (adel nm l).Sublist l
  | [] => List.Sublist.refl _
  | (a, u) :: r => by
    simp only [adel]
    split
    · exact List.sublist_cons_self _ _
    · exact (adel_sub nm r).cons_cons _
theorem BdF.del {N : Nat} {fs : List (Bs × FileD)} (h : BdF N fs) (nm : Bs) : BdF N (adel nm fs) :=
  ⟨Nat.le_trans (adel_sub nm fs).length_le h.len, fun q hq => h.file q ((adel_sub nm fs).subset hq)⟩
theorem BdF.get {N : Nat} {fs : List (Bs × FileD)} (h : BdF N fs) (nm : Bs) : (fget nm fs).1.length ≤ N * 1048576 := by
  unfold fget
  cases hg : aget nm fs with
  | none => simp
  | some f => exact h.file _ (aget_mem hg)
theorem BdF.app {N : Nat} {b : AD} (h : BdF N b.fs) (nm : Bs) {data : Bs} (hd : data.length ≤ 1048576) : BdF (N + 1) (bAppend nm data b).2.fs := by
  unfold bAppend
  split
  · exact h.mono
  · split
    · exact h.mono
    · refine BdF.put h nm ?_
      have h1 := h.get nm
      simp only [List.length_append]
      rw [Nat.add_mul, Nat.one_mul]
      exact Nat.add_le_add h1 hd
theorem BdF.sync {N : Nat} {b : AD} (h : BdF N b.fs) (nm : Bs) : BdF (N + 1) (bSync nm b).2.fs := by
  unfold bSync
  split
  · exact h.mono
  · cases hg : aget nm b.fs with
    | none => exact h.mono
    | some f => exact BdF.put h nm (Nat.le_trans (h.file _ (aget_mem hg)) (Nat.mul_le_mul_right _ (Nat.le_succ N)))
theorem BdF.delete {N : Nat} {b : AD} (h : BdF N b.fs) (nm : Bs) : BdF (N + 1) (aDelete nm b).2.fs := by
  unfold aDelete
  split
  · exact h.mono
  · cases hg : aget nm b.fs with
    | none => exact h.mono
    | some f => exact (h.del nm).mono
theorem BdF.rename {N : Nat} {b : AD} (h : BdF N b.fs) (nm nm2 : Bs) : BdF (N + 1) (bRename nm nm2 b).2.fs := by
  unfold bRename
  split
  · exact h.mono
  · cases hg : aget nm b.fs with
    | none => exact h.mono
    | some f => exact BdF.put (h.del nm) nm2 (Nat.le_trans (h.file _ (aget_mem hg)) (Nat.mul_le_mul_right _ (Nat.le_succ N)))
theorem BdF.arm {N : Nat} {b : AD} (h : BdF N b.fs) (n : Int) : BdF (N + 1) (aArm n b).fs := by
  unfold aArm
  split
  · exact h.mono
  · exact h.mono
theorem BdF.restart {N : Nat} {b : AD} (h : BdF N b.fs) (keep : List Int) : BdF N (bRestart keep b).fs := by
  show BdF N (rstI keep b.fs.length b.fs)
  refine ⟨by unfold rstI; simpa using h.len, fun q hq => ?_⟩
  unfold rstI at hq
  rw [List.mem_mapIdx] at hq
  obtain ⟨i, hi, rfl⟩ := hq
  have := h.file _ (List.getElem_mem hi)
  rw [if_pos hi]
  show (b.fs[i].2.1.take _).length ≤ _
  rw [List.length_take]
  exact Nat.le_trans (Nat.min_le_right _ _) this
/-- what one call leaves -/
def Left (w : World) (v u : Value) (bs : List Nat) (N : Nat) (w' : World) : Prop :=
  ∃ bs' p', Pair w' v u bs' p' ∧ Bd (N + 1) p' ∧ (∀ k ∈ bs', k ∈ bs ∨ w.heap.size ≤ k) ∧ But bs w w'
def RightPost (w : World) (v u : Value) (bs : List Nat) (N : Nat) (e : Ending) (w' : World) : Prop := e = .returned (.bool true) ∧ Left w v u bs N w'
end Go.Proofs.Ytmddgimadlmacaa
/-
  A guarded operation ('&&', '||') that is not wanted may be passed ahead of all others.
-/
namespace Garner
open Go
section
variable {P : Program} {ops : Array Oper} {Q : Exit → Act → World → Prop} {md : Region.Mode} {S : World → Prop}
def YieldsK (_P : Program) (ops : Array Oper) (_S : World → Prop) (o : Oper) (v : Value) (a : Act) : Prop := Region.wanted o (yielded ops a.tmps) = false ∧ v = undef
theorem YieldsK.wpOp {i : Nat} {o : Oper} {v : Value} {a : Act} (hi : ops[i]? = some o) (hy : YieldsK P ops S o v a)
    {K : Act → World → Prop} {w : World} (h : K (a.put o.dst v) w) : wpOp P ops Q i K a w := by
  unfold Go.wpOp
  simp only [hi]
  rw [if_neg (by rw [hy.1]; simp)]
  rw [← hy.2]; exact h
theorem wpOp_putK {j : Nat} {oi oj : Oper} {v : Value} (hj : ops[j]? = some oj) (hap : oi.apart ops oj = true)
    (_hsi : ∀ cs b, oi.op ≠ .select cs b) (hsj : ∀ cs b, oj.op ≠ .select cs b)
    (hQ : ∀ c a w, Q (.panic c) (a.put oi.dst v) w → Q (.panic c) a w) {K : Act → World → Prop} {a : Act} {w : World}
    (hy : YieldsK P ops S oi v a) (h : wpOp P ops Q j K (a.put oi.dst v) w) :
    wpOp P ops Q j (fun a' w' => YieldsK P ops S oi v a' ∧ K (a'.put oi.dst v) w') a w := by
  obtain ⟨h1, h2, h3⟩ := Oper.apart_spec hap
  have keep : ∀ (a : Act), YieldsK P ops S oi v a → ∀ u, YieldsK P ops S oi v (a.put oj.dst u) := fun a hy u => ⟨(wanted_put oi a oj.dst u h3).trans hy.1, hy.2⟩
  have keepD : ∀ d, YieldsK P ops S oi v { a with defers := d :: a.defers } := fun d => ⟨hy.1, hy.2⟩
  unfold wpOp at *
  simp only [hj] at *
  rw [wanted_put oj a oi.dst v h1] at h
  split
  · rename_i hw
    simp only [hw, if_true] at h
    rcases h with h | ⟨hasks, hlets⟩
    case inr => exact .inr ⟨by unfold Oper.asks at *; rw [execOp_put oj hsj a oi.dst v h1] at hasks; exact hasks, hlets⟩
    refine .inl ?_
    unfold Oper.wp at *
    rw [execOp_put oj hsj a oi.dst v h1] at h
    generalize (execOp a.eval oj).run P w = r at *
    cases r with
    | ok n w' =>
      cases n <;> simp only [Oper.upon] at h ⊢
      case value u => exact ⟨keep a hy u, by rw [← Act.put_comm a v u h2]; exact h⟩
      case skip => exact ⟨keep a hy _, by rw [← Act.put_comm a v undef h2]; exact h⟩
      case defer d =>
        refine ⟨keep _ (keepD d) _, ?_⟩
        rw [← Act.put_comm _ v undef h2, ← Act.put_defers]
        exact h
      case enter f args =>
        refine Calls.mono h fun e w'' he => ?_
        cases e with
        | returned u => exact ⟨keep a hy u, by rw [← Act.put_comm a v u h2]; exact he⟩
        | panicked c => exact hQ _ _ _ he
        | outgrown => exact he
      case row row args => exact Rows.mono h fun u w'' he => ⟨keep a hy u, by rw [← Act.put_comm a v u h2]; exact he⟩
    | halt x w' =>
      cases x <;> simp only [Oper.upon] at h ⊢
      case panic u => exact hQ _ _ _ h
  · rename_i hw
    simp only [hw] at h
    exact ⟨keep a hy _, by rw [← Act.put_comm a v undef h2]; exact h⟩

theorem wpAnyN_firstK {n i : Nat} {oi : Oper} {v : Value} (hi : ops[i]? = some oi) (hsel : ∀ (j : Nat) (o : Oper) cs b, ops[j]? = some o → o.op ≠ .select cs b)
    (hQ : ∀ c a w, Q (.panic c) (a.put oi.dst v) w → Q (.panic c) a w) (hn : ∀ o, ops[n]? = some o → ∃ e ∈ o.after, Region.binds md e = true ∧ e.on = i) :
    ∀ (fuel : Nat) (listed : Array Bool) (a : Act) (w : World),
      (∀ j oj, ops[j]? = some oj → j ≠ i → listed.getD j true = false → (∀ e ∈ oj.after, Region.binds md e = true → e.on ≠ i) → oi.apart ops oj = true) →
      i ∈ Region.ready md ops listed → YieldsK P ops S oi v a → S w →
      wpAnyN P md ops Q S n fuel (listed.setIfInBounds i true) (a.put oi.dst v) w → wpAnyN P md ops Q S n (fuel + 1) listed a w := by
  intro fuel
  induction fuel with
  | zero =>
    intro listed a w _ hr hy hS H
    refine ⟨fun h => (by rw [h] at hr; cases hr), fun j hj => ?_⟩
    by_cases hji : j = i
    · subst hji; exact hy.wpOp hi ⟨fun _ => hS, H⟩
    · have := ready_mono hj hji
      rw [H.1] at this
      cases this
  | succ fuel ih =>
    intro listed a w hfree hr hy hS H
    refine ⟨fun h => (by rw [h] at hr; cases hr), fun j hj => ?_⟩
    by_cases hji : j = i
    · subst hji; exact hy.wpOp hi ⟨fun _ => hS, H⟩
    · have h1 := H.2 j (ready_mono hj hji)
      obtain ⟨hjun, oj, hoj, hall⟩ := mem_ready.1 hj
      have hnot : ∀ e ∈ oj.after, Region.binds md e = true → e.on ≠ i := fun e he hb heq => by
        have h1 := hall e he hb
        have h0 := (mem_ready.1 hr).1
        rw [heq] at h1
        rcases Nat.lt_or_ge i listed.size with h' | h'
        · simp [h'] at h0 h1; rw [h0] at h1; cases h1
        · simp [Array.getElem?_eq_none h'] at h1
      have hjn : j ≠ n := fun e => by
        subst e
        obtain ⟨e, he, hb, heq⟩ := hn oj hoj
        exact hnot e he hb heq
      have h2 := wpOp_putK hoj (hfree j oj hoj hji hjun hnot) (fun cs b => hsel i oi cs b hi) (fun cs b => hsel j oj cs b hoj) hQ hy h1
      have hfree' : ∀ k ok, ops[k]? = some ok → k ≠ i → (listed.setIfInBounds j true).getD k true = false →
          (∀ e ∈ ok.after, Region.binds md e = true → e.on ≠ i) → oi.apart ops ok = true := fun k ok hk hki hun hno => by
        refine hfree k ok hk hki ?_ hno
        by_cases hjk : j = k
        · subst hjk; exact hjun
        · rw [getD_set_ne true hjk] at hun; exact hun
      refine wpOp_mono (fun a' w' h3 => ⟨h3.2.1, ih (listed.setIfInBounds j true) a' w' hfree' (ready_mono hr (Ne.symm hji)) h3.1 (h3.2.1 hjn) ?_⟩) h2
      rw [Array.setIfInBounds_comm _ _ hji]
      exact h3.2.2

/-- number i is passed, for it is not wanted -/
theorem wpAnyN_skipL (i : Nat) {n : Nat} {oi : Oper} {fuel : Nat} {listed : Array Bool} {a : Act} {w : World} (hm : mayTakeG md ops n listed i = true) (hi : ops.toList[i]? = some oi)
    (hQ : ∀ c a w, Q (.panic c) (a.put oi.dst undef) w → Q (.panic c) a w) (hw : Region.wanted oi (yielded ops a.tmps) = false) (hS : S w)
    (h : wpAnyN P md ops Q S n fuel (listed.setIfInBounds i true) (a.put oi.dst undef) w) : wpAnyN P md ops Q S n (fuel + 1) listed a w := by
  simp only [mayTakeG, Bool.and_eq_true] at hm
  obtain ⟨⟨⟨h1, h2⟩, h3⟩, h4⟩ := hm
  refine wpAnyN_firstK (of_toList hi) (Region.noSelect_spec h1) hQ (fun o ho => ?_) fuel listed a w (Region.free_spec (of_toList hi) h2) (by simpa using h3) ⟨hw, rfl⟩ hS h
  rw [ho] at h4
  obtain ⟨e, he, hb⟩ := Array.any_eq_true'.1 h4
  simp only [Bool.and_eq_true, beq_iff_eq] at hb
  exact ⟨e, he, hb⟩
end
end Garner
