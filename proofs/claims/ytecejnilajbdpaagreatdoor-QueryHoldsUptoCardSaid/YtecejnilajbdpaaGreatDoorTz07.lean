import Derived.OrdersHeld
import Derived.Deep.RegionHeld3
import Derived.Test.YtecejnilajbdpaaGreatDoorTz02
namespace Garner
open Go
def stillRun (P : Program) (v : Value) (w : World) : Result Next → Prop
 | .ok (.value u) w' => u = v ∧ w' = w
 | .ok (.enter f args) w' => w' = w ∧ Calls P f args w fun e w'' => e = .returned v ∧ w'' = w
 | _ => False
section
variable {P : Program} {ops : Array Oper} {Q : Exit → Act → World → Prop} {md : Region.Mode} {S : World → Prop}
def YieldsS (P : Program) (S : World → Prop) (o : Oper) (v : Value) (a : Act) : Prop := ∀ w, S w → stillRun P v w ((execOp a.eval o).run P w)
theorem YieldsS.wpOp {i : Nat} {o : Oper} {v : Value} {a : Act} (hi : ops[i]? = some o) (hg : o.guard = none) (hy : YieldsS P S o v a)
  {K : Act → World → Prop} {w : World} (hS : S w) (h : K (a.put o.dst v) w) : wpOp P ops Q i K a w := by
 unfold Go.wpOp
 simp only [hi]
 rw [if_pos (by simp [Region.wanted, hg])]
 refine .inl ?_
 have hy := hy w hS
 unfold Oper.wp
 generalize (execOp a.eval o).run P w = r at hy
 cases r with
 | halt x w' => exact hy.elim
 | ok n w' =>
  cases n with
  | value u =>
   obtain ⟨h1, h2⟩ := hy
   subst h1; subst h2
   exact h
  | enter f args =>
   obtain ⟨h1, h2⟩ := hy
   subst h1
   refine Calls.mono h2 fun e w'' he => ?_
   obtain ⟨he1, he2⟩ := he
   subst he1; subst he2
   exact h
  | _ => exact hy.elim
theorem YieldsS.of_same {o : Oper} {v : Value} {a a' : Act} (hy : YieldsS P S o v a) (he : execOp a'.eval o = execOp a.eval o) : YieldsS P S o v a' := by
 unfold YieldsS at *; rw [he]; exact hy
def wpAnyN (P : Program) (md : Region.Mode) (ops : Array Oper) (Q : Exit → Act → World → Prop) (S : World → Prop) (n : Nat) : Nat → Array Bool → Act → World → Prop
 | 0, listed, a, w => Region.ready md ops listed = [] ∧ Q .normal a w
 | fuel + 1, listed, a, w =>
  (Region.ready md ops listed = [] → Q .normal a w) ∧
  ∀ i ∈ Region.ready md ops listed, wpOp P ops Q i (fun a' w' => (i ≠ n → S w') ∧ wpAnyN P md ops Q S n fuel (listed.setIfInBounds i true) a' w') a w
theorem wpAny_of_N {n : Nat} : ∀ (fuel : Nat) (listed : Array Bool) (a : Act) (w : World), wpAnyN P md ops Q S n fuel listed a w → wpAny P md ops Q fuel listed a w
 | 0, _, _, _, h => h
 | fuel + 1, _, _, _, h => ⟨h.1, fun i hi => wpOp_mono (fun a' w' h' => wpAny_of_N fuel _ a' w' h'.2) (h.2 i hi)⟩
theorem dnL {n : Nat} {listed : Array Bool} {a : Act} {w : World} (hr : Region.ready md ops listed = []) (h : Q .normal a w) : ∀ fuel, wpAnyN P md ops Q S n fuel listed a w
 | 0 => ⟨hr, h⟩
 | _ + 1 => ⟨fun _ => h, by rw [hr]; simp⟩
theorem rgN (S : World → Prop) (n : Nat) {id : Nat} {a : Act} {w : World} (hm : P.follows .mixedOrders = true)
  (h : wpAnyN P .any ops Q S n ops.size (Array.replicate ops.size false) a w.drew) : (Code.region id ops true).wp P Q a w :=
 wp_region_any hm (wpAny_of_N _ _ _ _ h)
end
open Go
section
variable {P : Program} {ops : Array Oper} {Q : Exit → Act → World → Prop} {md : Region.Mode} {S : World → Prop}
def YieldsG (P : Program) (ops : Array Oper) (S : World → Prop) (o : Oper) (v : Value) (a : Act) : Prop := Region.wanted o (yielded ops a.tmps) = true ∧ YieldsS P S o v a
theorem YieldsG.wpOp {i : Nat} {o : Oper} {v : Value} {a : Act} (hi : ops[i]? = some o) (hy : YieldsG P ops S o v a)
  {K : Act → World → Prop} {w : World} (hS : S w) (h : K (a.put o.dst v) w) : wpOp P ops Q i K a w := by
 unfold Go.wpOp
 simp only [hi]
 rw [if_pos hy.1]
 refine .inl ?_
 have hy := hy.2 w hS
 unfold Oper.wp
 generalize (execOp a.eval o).run P w = r at hy
 cases r with
 | halt x w' => exact hy.elim
 | ok n w' =>
  cases n with
  | value u =>
   obtain ⟨h1, h2⟩ := hy
   subst h1; subst h2
   exact h
  | enter f args =>
   obtain ⟨h1, h2⟩ := hy
   subst h1
   refine Calls.mono h2 fun e w'' he => ?_
   obtain ⟨he1, he2⟩ := he
   subst he1; subst he2
   exact h
  | _ => exact hy.elim
theorem wpOp_putG {j : Nat} {oi oj : Oper} {v : Value} (hj : ops[j]? = some oj) (hap : oi.apart ops oj = true)
  (hsi : ∀ cs b, oi.op ≠ .select cs b) (hsj : ∀ cs b, oj.op ≠ .select cs b)
  (hQ : ∀ c a w, Q (.panic c) (a.put oi.dst v) w → Q (.panic c) a w) {K : Act → World → Prop} {a : Act} {w : World}
  (hy : YieldsG P ops S oi v a) (h : wpOp P ops Q j K (a.put oi.dst v) w) :
  wpOp P ops Q j (fun a' w' => YieldsG P ops S oi v a' ∧ K (a'.put oi.dst v) w') a w := by
 obtain ⟨h1, h2, h3⟩ := Oper.apart_spec hap
 have keep : ∀ (a : Act), YieldsG P ops S oi v a → ∀ u, YieldsG P ops S oi v (a.put oj.dst u) := fun a hy u => ⟨(wanted_put oi a oj.dst u h3).trans hy.1, hy.2.of_same (execOp_put oi hsi a oj.dst u h3)⟩
 have keepD : ∀ d, YieldsG P ops S oi v { a with defers := d :: a.defers } := fun d => ⟨hy.1, hy.2.of_same rfl⟩
 unfold wpOp at *
 simp only [hj] at *
 rw [wanted_put oj a oi.dst v h1] at h
 split
 ·rename_i hw
  simp only [hw, if_true] at h
  rcases h with h | ⟨hasks, hlets⟩
  case inr => exact .inr ⟨by unfold Oper.asks at *; rw [execOp_put oj hsj a oi.dst v h1] at hasks; exact hasks, hlets⟩
  refine .inl ?_
  unfold Oper.wp at *
  rw [execOp_put oj hsj a oi.dst v h1] at h
  generalize (execOp a.eval oj).run P w = r at *
  cases r with
  | ok n w' =>
   cases n <;> simp only [Oper.upon] at h ⊢
   case value u => exact ⟨keep a hy u, by rw [← Act.put_comm a v u h2]; exact h⟩
   case skip => exact ⟨keep a hy _, by rw [← Act.put_comm a v undef h2]; exact h⟩
   case defer d =>
    refine ⟨keep _ (keepD d) _, ?_⟩
    rw [← Act.put_comm _ v undef h2, ← Act.put_defers]
    exact h
   case enter f args =>
    refine Calls.mono h fun e w'' he => ?_
    cases e with
    | returned u => exact ⟨keep a hy u, by rw [← Act.put_comm a v u h2]; exact he⟩
    | panicked c => exact hQ _ _ _ he
    | outgrown => exact he
   case row row args => exact Rows.mono h fun u w'' he => ⟨keep a hy u, by rw [← Act.put_comm a v u h2]; exact he⟩
  | halt x w' =>
   cases x <;> simp only [Oper.upon] at h ⊢
   case panic u => exact hQ _ _ _ h
 rename_i hw
 simp only [hw] at h
 exact ⟨keep a hy _, by rw [← Act.put_comm a v undef h2]; exact h⟩
theorem wpAnyN_firstG {n i : Nat} {oi : Oper} {v : Value} (hi : ops[i]? = some oi) (hsel : ∀ (j : Nat) (o : Oper) cs b, ops[j]? = some o → o.op ≠ .select cs b)
  (hQ : ∀ c a w, Q (.panic c) (a.put oi.dst v) w → Q (.panic c) a w) (hn : ∀ o, ops[n]? = some o → ∃ e ∈ o.after, Region.binds md e = true ∧ e.on = i) :
  ∀ (fuel : Nat) (listed : Array Bool) (a : Act) (w : World),
   (∀ j oj, ops[j]? = some oj → j ≠ i → listed.getD j true = false → (∀ e ∈ oj.after, Region.binds md e = true → e.on ≠ i) → oi.apart ops oj = true) →
   i ∈ Region.ready md ops listed → YieldsG P ops S oi v a → S w →
   wpAnyN P md ops Q S n fuel (listed.setIfInBounds i true) (a.put oi.dst v) w → wpAnyN P md ops Q S n (fuel + 1) listed a w := by
 intro fuel
 induction fuel with
 | zero =>
  intro listed a w _ hr hy hS H
  refine ⟨fun h => (by rw [h] at hr; cases hr), fun j hj => ?_⟩
  by_cases hji : j = i
  ·subst hji; exact hy.wpOp hi hS ⟨fun _ => hS, H⟩
  have := ready_mono hj hji
  rw [H.1] at this
  cases this
 | succ fuel ih =>
  intro listed a w hfree hr hy hS H
  refine ⟨fun h => (by rw [h] at hr; cases hr), fun j hj => ?_⟩
  by_cases hji : j = i
  ·subst hji; exact hy.wpOp hi hS ⟨fun _ => hS, H⟩
  have h1 := H.2 j (ready_mono hj hji)
  obtain ⟨hjun, oj, hoj, hall⟩ := mem_ready.1 hj
  have hnot : ∀ e ∈ oj.after, Region.binds md e = true → e.on ≠ i := fun e he hb heq => by
   have h1 := hall e he hb
   have h0 := (mem_ready.1 hr).1
   rw [heq] at h1
   rcases Nat.lt_or_ge i listed.size with h' | h'
   ·simp [h'] at h0 h1; rw [h0] at h1; cases h1
   simp [Array.getElem?_eq_none h'] at h1
  have hjn : j ≠ n := fun e => by
   subst e
   obtain ⟨e, he, hb, heq⟩ := hn oj hoj
   exact hnot e he hb heq
  have h2 := wpOp_putG hoj (hfree j oj hoj hji hjun hnot) (fun cs b => hsel i oi cs b hi) (fun cs b => hsel j oj cs b hoj) hQ hy h1
  have hfree' : ∀ k ok, ops[k]? = some ok → k ≠ i → (listed.setIfInBounds j true).getD k true = false →
    (∀ e ∈ ok.after, Region.binds md e = true → e.on ≠ i) → oi.apart ops ok = true := fun k ok hk hki hun hno => by
   refine hfree k ok hk hki ?_ hno
   by_cases hjk : j = k
   ·subst hjk; exact hjun
   rw [getD_set_ne true hjk] at hun; exact hun
  refine wpOp_mono (fun a' w' h3 => ⟨h3.2.1, ih (listed.setIfInBounds j true) a' w' hfree' (ready_mono hr (Ne.symm hji)) h3.1 (h3.2.1 hjn) ?_⟩) h2
  rw [Array.setIfInBounds_comm _ _ hji]
  exact h3.2.2
def mayTakeG (md : Region.Mode) (ops : Array Oper) (n : Nat) (listed : Array Bool) (i : Nat) : Bool :=
 Region.noSelect ops && Region.free md ops listed i && (Region.ready md ops listed).contains i &&
 (match ops[n]? with | some o => o.after.any fun e => Region.binds md e && e.on == i | none => true)
theorem wpAnyN_takeG (i : Nat) {n : Nat} {oi : Oper} {v : Value} {fuel : Nat} {listed : Array Bool} {a : Act} {w : World} (hm : mayTakeG md ops n listed i = true) (hi : ops[i]? = some oi)
  (hQ : ∀ c a w, Q (.panic c) (a.put oi.dst v) w → Q (.panic c) a w) (hw : Region.wanted oi (yielded ops a.tmps) = true) (hS : S w) (hy : ∀ w, S w → stillRun P v w ((execOp a.eval oi).run P w))
  (h : wpAnyN P md ops Q S n fuel (listed.setIfInBounds i true) (a.put oi.dst v) w) : wpAnyN P md ops Q S n (fuel + 1) listed a w := by
 simp only [mayTakeG, Bool.and_eq_true] at hm
 obtain ⟨⟨⟨h1, h2⟩, h3⟩, h4⟩ := hm
 refine wpAnyN_firstG hi (Region.noSelect_spec h1) hQ (fun o ho => ?_) fuel listed a w (Region.free_spec hi h2) (by simpa using h3) ⟨hw, hy⟩ hS h
 rw [ho] at h4
 obtain ⟨e, he, hb⟩ := Array.any_eq_true'.1 h4
 simp only [Bool.and_eq_true, beq_iff_eq] at hb
 exact ⟨e, he, hb⟩
theorem wpAnyN_runG (i : Nat) {n : Nat} {o : Oper} {fuel : Nat} {listed : Array Bool} {a : Act} {w : World} (hr : Region.ready md ops listed = [i]) (hi : ops[i]? = some o) (hw : Region.wanted o (yielded ops a.tmps) = true)
  (h : ∀ K : Act → World → Prop, (∀ a' w', (i ≠ n → S w') → wpAnyN P md ops Q S n fuel (listed.setIfInBounds i true) a' w' → K a' w') → o.wp P a w K Q) : wpAnyN P md ops Q S n (fuel + 1) listed a w := by
 refine ⟨fun h0 => (by rw [hr] at h0; cases h0), fun j hj => ?_⟩
 rw [hr] at hj
 obtain rfl : j = i := by simpa using hj
 unfold Go.wpOp
 simp only [hi]
 rw [if_pos hw]
 exact .inl (h _ fun _ _ h1 h2 => ⟨h1, h2⟩)
end
end Garner
