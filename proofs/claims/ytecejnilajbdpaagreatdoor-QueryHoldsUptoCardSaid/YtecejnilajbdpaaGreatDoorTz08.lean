import Derived.StillTailTactics
import Derived.Test.YtecejnilajbdpaaGreatDoorTz07
namespace Go.Proofs.YtecejnilajbdpaaGreatDoor
open Go.RowKit Garner
def Blk (w : World) (g : Nat) (t : TypeId) (cs : List Value) : Prop := w.heap[g]? = some (.cells cs.toArray t (0, 0))
theorem Blk.lt {w : World} {g : Nat} {t : TypeId} {cs : List Value} (h : Blk w g t cs) : g < w.heap.size := (Array.getElem?_eq_some_iff.1 h).1
theorem Blk.new (w : World) (t : TypeId) (cs : List Value) : Blk (w.alloc (.cells cs.toArray t)) w.heap.size t cs := heap_alloc_new w _
theorem Blk.drew {w : World} {g : Nat} {t : TypeId} {cs : List Value} (h : Blk w g t cs) : Blk w.drew g t cs := h
theorem Blk.drewN {w : World} {g : Nat} {t : TypeId} {cs : List Value} (h : Blk w g t cs) (n : Nat) : Blk (w.drewN n) g t cs := h
theorem Blk.alloc {w : World} {g : Nat} {t : TypeId} {cs : List Value} (h : Blk w g t cs) (o : Obj) : Blk (w.alloc o) g t cs := (Below.heap_alloc w o g h.lt).trans h
theorem Blk.below {w w' : World} {g B : Nat} {t : TypeId} {cs : List Value} (h : Blk w g t cs) (hb : Below B w w') (hg : g < B) : Blk w' g t cs := (hb.block g hg).trans h
theorem Blk.grown {w w' : World} {g : Nat} {t : TypeId} {cs : List Value} (h : Blk w g t cs) {row : Option Nat} (hb : w.grownBy w' row) (hne : some g ≠ row) : Blk w' g t cs := (hb.block g h.lt hne).trans h
theorem Blk.cell {w : World} {g : Nat} {t : TypeId} {cs : List Value} (h : Blk w g t cs) (i : Nat) : w.cell? ⟨g, i, none⟩ = cs[i]? := by
 unfold Blk at h; simp [World.cell?, h]
theorem row_newN (w : World) (t : TypeId) (sz n : Nat) (l : List Value) (h : l.length = n * sz) : Row (w.alloc (.cells l.toArray t)) (w.heap.size + 1) sz (some ⟨w.heap.size, 0, none⟩) n l := by
 refine ⟨h, fun _ => ⟨w.heap.size, 0, rfl, by omega, fun j u hu => ?_⟩⟩
 rw [cell_new _ _ _ _ _ rfl]
 simpa using hu
theorem Blk.frozen {w : World} {g : Nat} {t : TypeId} {cs : List Value} (h : Blk w g t cs) (i : Nat) : w.frozen? ⟨g, i, none⟩ = false := by
 unfold Blk at h; simp [World.frozen?, h]
theorem Blk.set_ {w : World} {g : Nat} {t : TypeId} {cs : List Value} (h : Blk w g t cs) (i : Nat) (u : Value) : Blk (w.setCell ⟨g, i, none⟩ u) g t (cs.set i u) := by
 unfold Blk at h ⊢
 simp [World.setCell, Array.getElem?_modify, h]
end Go.Proofs.YtecejnilajbdpaaGreatDoor
namespace Garner
open Go Go.RowKit
structure But (S : List Nat) (w w' : World) : Prop where
 os : w'.os = w.os
 tape : w'.tape = w.tape
 output : w'.output = w.output
 size : w.heap.size ≤ w'.heap.size
 block : ∀ k, k < w.heap.size → k ∉ S → w'.heap[k]? = w.heap[k]?
section
variable {S T : List Nat} {a b c w w' : World}
theorem But.refl (S : List Nat) (w : World) : But S w w := ⟨rfl, rfl, rfl, Nat.le_refl _, fun _ _ _ => rfl⟩
theorem But.trans (h : But S a b) (k : But S b c) : But S a c :=
 ⟨k.os.trans h.os, k.tape.trans h.tape, k.output.trans h.output, Nat.le_trans h.size k.size, fun i hi hS => (k.block i (Nat.lt_of_lt_of_le hi h.size) hS).trans (h.block i hi hS)⟩
theorem But.mono (h : But S w w') (hS : ∀ k ∈ S, k ∈ T) : But T w w' := ⟨h.os, h.tape, h.output, h.size, fun k hk hT => h.block k hk fun hs => hT (hS k hs)⟩
theorem But.of_below (h : Below w.heap.size w w') : But S w w' := ⟨h.os, h.tape, h.output, h.size, fun k hk _ => h.block k hk⟩
theorem But.below {B : Nat} (h : But S w w') (hB : B ≤ w.heap.size) (hS : ∀ k ∈ S, B ≤ k) : Below B w w' := ⟨h.os, h.tape, h.output, h.size, fun k hk => h.block k (by omega) fun hs => by have := hS k hs; omega⟩
theorem But.drew (h : But S a w) : But S a w.drew := ⟨h.os, h.tape, h.output, h.size, h.block⟩
theorem But.alloc (h : But S a w) (o : Obj) : But S a (w.alloc o) :=
 h.trans (But.of_below ((Below.refl _ _).alloc (Nat.le_refl _) o))
theorem But.setCell (h : But S a w) {p : Addr} (hp : p.block ∈ S) (u : Value) : But S a (w.setCell p u) :=
 h.trans ⟨rfl, rfl, rfl, by simp [World.setCell], fun k _ hk => Below.heap_setCell _ _ _ _ fun e => hk (e ▸ hp)⟩
theorem But.grown {row : Option Nat} (hg : w.grownBy w' row) (hS : ∀ k, row = some k → k ∈ S) : But S w w' :=
 ⟨hg.os, hg.tape, hg.output, hg.size, fun k hk hn => hg.block k hk fun e => hn (hS k e.symm)⟩
theorem But.old (h : But S a w) (k : But T w w') (hT : ∀ x ∈ T, x ∈ S ∨ a.heap.size ≤ x) : But S a w' :=
 ⟨k.os.trans h.os, k.tape.trans h.tape, k.output.trans h.output, Nat.le_trans h.size k.size, fun i hi hS => (k.block i (Nat.lt_of_lt_of_le hi h.size) fun ht => (hT i ht).elim hS fun hge => by omega).trans (h.block i hi hS)⟩
theorem But.cell (h : But S w w') {p : Addr} (hp : p.block < w.heap.size) (hS : p.block ∉ S) : w'.cell? p = w.cell? p := World.cell?_of_block (w := w) (h.block p.block hp hS)
end
end Garner
namespace Go.Proofs.YtecejnilajbdpaaGreatDoor
open Go.RowKit Garner
section
variable {S : List Nat} {w w' : World}
theorem Blk.but {g : Nat} {t : TypeId} {cs : List Value} (h : Blk w g t cs) (hb : But S w w') (hg : g ∉ S) : Blk w' g t cs := (hb.block g h.lt hg).trans h
theorem Blk.far {g : Nat} {t : TypeId} {cs : List Value} (h : Blk w g t cs) {p : Addr} (hp : g ≠ p.block) (u : Value) : Blk (w.setCell p u) g t cs := (Below.heap_setCell w p u g hp).trans h
theorem MapIs.but {κ : Type} {key : κ → Value} {b : Nat} {al : List (κ × Value)} (h : MapIs key w b al) (hb : But S w w') (hg : b ∉ S) : MapIs key w' b al := h.of_block (hb.block b h.lt hg)
theorem own_but {B : Nat} {e : TypeId} {sz n : Nat} {v : Value} {xs : List Value} (h : w.ownsRow B e sz v n xs) (hb : But S w w') (hv : ∀ g, v.ownBlock = some g → g ∉ S) : w'.ownsRow B e sz v n xs := by
 obtain ⟨h1, h2⟩ := h
 refine ⟨h1, ?_⟩
 rcases h2 with h2 | ⟨g, cap, cur, rfl, hg, hh, r⟩
 ·exact Or.inl h2
 refine Or.inr ⟨g, cap, cur, rfl, hg, ?_, r⟩
 rw [hb.block g (Array.getElem?_eq_some_iff.1 hh).1 (hv g rfl)]; exact hh
theorem Row.but {B sz n : Nat} {A : Option Addr} {xs : List Value} (h : Row w B sz A n xs) (hB : B ≤ w.heap.size) (hb : But S w w') (hS : ∀ k ∈ S, B ≤ k) : Row w' B sz A n xs := h.below (hb.below hB hS)
theorem own_blk {B : Nat} {e : TypeId} {sz n : Nat} {v : Value} {xs : List Value} {g : Nat} {t : TypeId} {cs : List Value} (h : w.ownsRow B e sz v n xs) (hb : Blk w g t cs) (hne : e ≠ t) : g ∉ v.ownBlock.toList := by
 rcases h.2 with ⟨rfl, _⟩ | ⟨g', cap, cur, rfl, _, hh, _⟩
 ·simp [Value.ownBlock]
 intro hm
 have e1 : g = g' := by simpa [Value.ownBlock] using hm
 subst e1
 unfold Blk at hb
 rw [hb] at hh
 injection hh with hh
 injection hh with _ ht
 exact hne ht.symm
theorem own_own {B B' : Nat} {e e' : TypeId} {sz n sz' n' : Nat} {v v' : Value} {xs xs' : List Value} (h : w.ownsRow B e sz v n xs) (h' : w.ownsRow B' e' sz' v' n' xs') (hne : e ≠ e') : ∀ g, v'.ownBlock = some g → g ∉ v.ownBlock.toList := by
 intro g hg hm
 rcases h.2 with ⟨rfl, _⟩ | ⟨g1, cap, cur, rfl, _, hh, _⟩
 ·simp [Value.ownBlock] at hm
 rcases h'.2 with ⟨rfl, _⟩ | ⟨g2, cap', cur', rfl, _, hh', _⟩
 ·simp [Value.ownBlock] at hg
 have e1 : g = g1 := by simpa [Value.ownBlock] using hm
 have e2 : g2 = g := by simpa [Value.ownBlock] using hg
 subst e1; subst e2
 rw [hh'] at hh
 injection hh with hh
 injection hh with _ ht
 exact hne ht.symm
theorem own_ge {B : Nat} {e : TypeId} {sz n : Nat} {v : Value} {xs : List Value} (h : w.ownsRow B e sz v n xs) : ∀ k ∈ v.ownBlock.toList, B ≤ k ∧ k < w.heap.size := fun k hk => h.lt k (by simpa using hk)
theorem own_form {B : Nat} {e : TypeId} {sz n : Nat} {v : Value} {xs : List Value} (h : w.ownsRow B e sz v n xs) : ∃ A c, v = .slice A n c ∧ n ≤ c := by
 rcases h.2 with ⟨rfl, rfl⟩ | ⟨g, cap, cur, rfl, _, _, hc, _⟩
 ·exact ⟨none, 0, rfl, Nat.le_refl _⟩
 exact ⟨_, cap, rfl, hc⟩
theorem own_at {B : Nat} {e : TypeId} {sz n c : Nat} {A : Option Addr} {xs : List Value} (h : w.ownsRow B e sz (.slice A n c) n xs) (hn : 0 < n) : ∃ g, A = some ⟨g, 0, none⟩ ∧ B ≤ g ∧ g < w.heap.size ∧ n ≤ c ∧ c ≤ maxLen ∧ ∀ j, j < n * sz → w.cell? ⟨g, j, none⟩ = xs[j]? := by
 obtain ⟨g, cap, hv, hb, hlt⟩ := h.form hn
 have hA : A = some ⟨g, 0, none⟩ := by injection hv
 have hc : c = cap := by injection hv
 subst hA; subst hc
 rcases h.2 with ⟨h0, _⟩ | ⟨g', cap', cur, hv', _, _, hc, hm, _⟩
 ·cases h0
 injection hv' with e1 e2 e3
 subst e3
 exact ⟨g, rfl, hb, hlt, hc, hm, fun j hj => h.cellAt j hj⟩
theorem own_empty {B : Nat} {e : TypeId} {sz : Nat} {g : Nat} (h : w.heap[g]? = some (.cells #[] e (0, 0))) (hB : B ≤ g) : w.ownsRow B e sz (.slice (some ⟨g, 0, none⟩) 0 0) 0 [] :=
 ⟨by simp, Or.inr ⟨g, 0, #[], rfl, hB, h, Nat.le_refl _, by simp [maxLen], by simp, by simp⟩⟩
end
end Go.Proofs.YtecejnilajbdpaaGreatDoor
namespace Garner
open Go
section
variable {P : Program} {ops : Array Oper} {Q : Exit → Act → World → Prop} {md : Region.Mode} {S : World → Prop}
theorem of_toList {i : Nat} {o : Oper} (h : ops.toList[i]? = some o) : ops[i]? = some o := by rw [← h]; simp
theorem tkL (i : Nat) {n : Nat} {oi : Oper} {v : Value} {fuel : Nat} {listed : Array Bool} {a : Act} {w : World} (hm : mayTakeG md ops n listed i = true) (hi : ops.toList[i]? = some oi)
  (hQ : ∀ c a w, Q (.panic c) (a.put oi.dst v) w → Q (.panic c) a w) (hw : Region.wanted oi (yielded ops a.tmps) = true) (hS : S w) (hy : ∀ w, S w → stillRun P v w ((execOp a.eval oi).run P w))
  (h : wpAnyN P md ops Q S n fuel (listed.setIfInBounds i true) (a.put oi.dst v) w) : wpAnyN P md ops Q S n (fuel + 1) listed a w := wpAnyN_takeG i hm (of_toList hi) hQ hw hS hy h
def QPn (Q : Exit → Act → World → Prop) : Prop := ∀ c (a : Act) d v w, Q (.panic c) (a.put d v) w → Q (.panic c) a w
theorem tkq (i : Nat) {n : Nat} {oi : Oper} {v : Value} {fuel : Nat} {listed : Array Bool} {a : Act} {w : World} (hm : (mayTakeG md ops n listed i && (match ops.toList[i]? with | some o => Region.wanted o (yielded ops a.tmps) | none => false)) = true) (hi : ops.toList[i]? = some oi) (hQ : RowKit.Hid (QPn Q)) (hS : S w) (hy : ∀ w, S w → stillRun P v w ((execOp a.eval oi).run P w)) (h : wpAnyN P md ops Q S n fuel (listed.setIfInBounds i true) (a.put oi.dst v) w) : wpAnyN P md ops Q S n (fuel + 1) listed a w := by
 rw [hi, Bool.and_eq_true] at hm
 exact tkL i hm.1 hi (fun c a w k => hQ.out c a oi.dst v w k) hm.2 hS hy h
theorem rgQ (S : World → Prop) (n : Nat) {id : Nat} {a : Act} {w : World} (hm : P.follows .mixedOrders = true) (hQ : QPn Q) (h : RowKit.Hid (QPn Q) → wpAnyN P .any ops Q S n ops.size (Array.replicate ops.size false) a w.drew) : (Code.region id ops true).wp P Q a w := rgN S n hm (h hQ)
theorem rnL (i : Nat) {n : Nat} {o : Oper} {fuel : Nat} {listed : Array Bool} {a : Act} {w : World} (hr : Region.ready md ops listed = [i]) (hi : ops.toList[i]? = some o) (hw : Region.wanted o (yielded ops a.tmps) = true)
  (h : ∀ K : Act → World → Prop, (∀ a' w', (i ≠ n → S w') → wpAnyN P md ops Q S n fuel (listed.setIfInBounds i true) a' w' → K a' w') → o.wp P a w K Q) : wpAnyN P md ops Q S n (fuel + 1) listed a w := wpAnyN_runG i hr (of_toList hi) hw h
end
open Go
section
variable {P : Program} {ops : Array Oper} {Q : Exit → Act → World → Prop} {md : Region.Mode} {S : World → Prop}
def YieldsK (_P : Program) (ops : Array Oper) (_S : World → Prop) (o : Oper) (v : Value) (a : Act) : Prop := Region.wanted o (yielded ops a.tmps) = false ∧ v = undef
theorem YieldsK.wpOp {i : Nat} {o : Oper} {v : Value} {a : Act} (hi : ops[i]? = some o) (hy : YieldsK P ops S o v a)
  {K : Act → World → Prop} {w : World} (h : K (a.put o.dst v) w) : wpOp P ops Q i K a w := by
 unfold Go.wpOp
 simp only [hi]
 rw [if_neg (by rw [hy.1]; simp)]
 rw [← hy.2]; exact h
theorem wpOp_putK {j : Nat} {oi oj : Oper} {v : Value} (hj : ops[j]? = some oj) (hap : oi.apart ops oj = true)
  (_hsi : ∀ cs b, oi.op ≠ .select cs b) (hsj : ∀ cs b, oj.op ≠ .select cs b)
  (hQ : ∀ c a w, Q (.panic c) (a.put oi.dst v) w → Q (.panic c) a w) {K : Act → World → Prop} {a : Act} {w : World}
  (hy : YieldsK P ops S oi v a) (h : wpOp P ops Q j K (a.put oi.dst v) w) :
  wpOp P ops Q j (fun a' w' => YieldsK P ops S oi v a' ∧ K (a'.put oi.dst v) w') a w := by
 obtain ⟨h1, h2, h3⟩ := Oper.apart_spec hap
 have keep : ∀ (a : Act), YieldsK P ops S oi v a → ∀ u, YieldsK P ops S oi v (a.put oj.dst u) := fun a hy u => ⟨(wanted_put oi a oj.dst u h3).trans hy.1, hy.2⟩
 have keepD : ∀ d, YieldsK P ops S oi v { a with defers := d :: a.defers } := fun d => ⟨hy.1, hy.2⟩
 unfold wpOp at *
 simp only [hj] at *
 rw [wanted_put oj a oi.dst v h1] at h
 split
 ·rename_i hw
  simp only [hw, if_true] at h
  rcases h with h | ⟨hasks, hlets⟩
  case inr => exact .inr ⟨by unfold Oper.asks at *; rw [execOp_put oj hsj a oi.dst v h1] at hasks; exact hasks, hlets⟩
  refine .inl ?_
  unfold Oper.wp at *
  rw [execOp_put oj hsj a oi.dst v h1] at h
  generalize (execOp a.eval oj).run P w = r at *
  cases r with
  | ok n w' =>
   cases n <;> simp only [Oper.upon] at h ⊢
   case value u => exact ⟨keep a hy u, by rw [← Act.put_comm a v u h2]; exact h⟩
   case skip => exact ⟨keep a hy _, by rw [← Act.put_comm a v undef h2]; exact h⟩
   case defer d =>
    refine ⟨keep _ (keepD d) _, ?_⟩
    rw [← Act.put_comm _ v undef h2, ← Act.put_defers]
    exact h
   case enter f args =>
    refine Calls.mono h fun e w'' he => ?_
    cases e with
    | returned u => exact ⟨keep a hy u, by rw [← Act.put_comm a v u h2]; exact he⟩
    | panicked c => exact hQ _ _ _ he
    | outgrown => exact he
   case row row args => exact Rows.mono h fun u w'' he => ⟨keep a hy u, by rw [← Act.put_comm a v u h2]; exact he⟩
  | halt x w' =>
   cases x <;> simp only [Oper.upon] at h ⊢
   case panic u => exact hQ _ _ _ h
 rename_i hw
 simp only [hw] at h
 exact ⟨keep a hy _, by rw [← Act.put_comm a v undef h2]; exact h⟩
theorem wpAnyN_firstK {n i : Nat} {oi : Oper} {v : Value} (hi : ops[i]? = some oi) (hsel : ∀ (j : Nat) (o : Oper) cs b, ops[j]? = some o → o.op ≠ .select cs b)
  (hQ : ∀ c a w, Q (.panic c) (a.put oi.dst v) w → Q (.panic c) a w) (hn : ∀ o, ops[n]? = some o → ∃ e ∈ o.after, Region.binds md e = true ∧ e.on = i) :
  ∀ (fuel : Nat) (listed : Array Bool) (a : Act) (w : World),
   (∀ j oj, ops[j]? = some oj → j ≠ i → listed.getD j true = false → (∀ e ∈ oj.after, Region.binds md e = true → e.on ≠ i) → oi.apart ops oj = true) →
   i ∈ Region.ready md ops listed → YieldsK P ops S oi v a → S w →
   wpAnyN P md ops Q S n fuel (listed.setIfInBounds i true) (a.put oi.dst v) w → wpAnyN P md ops Q S n (fuel + 1) listed a w := by
 intro fuel
 induction fuel with
 | zero =>
  intro listed a w _ hr hy hS H
  refine ⟨fun h => (by rw [h] at hr; cases hr), fun j hj => ?_⟩
  by_cases hji : j = i
  ·subst hji; exact hy.wpOp hi ⟨fun _ => hS, H⟩
  have := ready_mono hj hji
  rw [H.1] at this
  cases this
 | succ fuel ih =>
  intro listed a w hfree hr hy hS H
  refine ⟨fun h => (by rw [h] at hr; cases hr), fun j hj => ?_⟩
  by_cases hji : j = i
  ·subst hji; exact hy.wpOp hi ⟨fun _ => hS, H⟩
  have h1 := H.2 j (ready_mono hj hji)
  obtain ⟨hjun, oj, hoj, hall⟩ := mem_ready.1 hj
  have hnot : ∀ e ∈ oj.after, Region.binds md e = true → e.on ≠ i := fun e he hb heq => by
   have h1 := hall e he hb
   have h0 := (mem_ready.1 hr).1
   rw [heq] at h1
   rcases Nat.lt_or_ge i listed.size with h' | h'
   ·simp [h'] at h0 h1; rw [h0] at h1; cases h1
   simp [Array.getElem?_eq_none h'] at h1
  have hjn : j ≠ n := fun e => by
   subst e
   obtain ⟨e, he, hb, heq⟩ := hn oj hoj
   exact hnot e he hb heq
  have h2 := wpOp_putK hoj (hfree j oj hoj hji hjun hnot) (fun cs b => hsel i oi cs b hi) (fun cs b => hsel j oj cs b hoj) hQ hy h1
  have hfree' : ∀ k ok, ops[k]? = some ok → k ≠ i → (listed.setIfInBounds j true).getD k true = false →
    (∀ e ∈ ok.after, Region.binds md e = true → e.on ≠ i) → oi.apart ops ok = true := fun k ok hk hki hun hno => by
   refine hfree k ok hk hki ?_ hno
   by_cases hjk : j = k
   ·subst hjk; exact hjun
   rw [getD_set_ne true hjk] at hun; exact hun
  refine wpOp_mono (fun a' w' h3 => ⟨h3.2.1, ih (listed.setIfInBounds j true) a' w' hfree' (ready_mono hr (Ne.symm hji)) h3.1 (h3.2.1 hjn) ?_⟩) h2
  rw [Array.setIfInBounds_comm _ _ hji]
  exact h3.2.2
theorem skL (i : Nat) {n : Nat} {oi : Oper} {fuel : Nat} {listed : Array Bool} {a : Act} {w : World} (hm : mayTakeG md ops n listed i = true) (hi : ops.toList[i]? = some oi)
  (hQ : ∀ c a w, Q (.panic c) (a.put oi.dst undef) w → Q (.panic c) a w) (hw : Region.wanted oi (yielded ops a.tmps) = false) (hS : S w)
  (h : wpAnyN P md ops Q S n fuel (listed.setIfInBounds i true) (a.put oi.dst undef) w) : wpAnyN P md ops Q S n (fuel + 1) listed a w := by
 simp only [mayTakeG, Bool.and_eq_true] at hm
 obtain ⟨⟨⟨h1, h2⟩, h3⟩, h4⟩ := hm
 refine wpAnyN_firstK (of_toList hi) (Region.noSelect_spec h1) hQ (fun o ho => ?_) fuel listed a w (Region.free_spec (of_toList hi) h2) (by simpa using h3) ⟨hw, rfl⟩ hS h
 rw [ho] at h4
 obtain ⟨e, he, hb⟩ := Array.any_eq_true'.1 h4
 simp only [Bool.and_eq_true, beq_iff_eq] at hb
 exact ⟨e, he, hb⟩
theorem skq (i : Nat) {n : Nat} {oi : Oper} {fuel : Nat} {listed : Array Bool} {a : Act} {w : World} (hm : (mayTakeG md ops n listed i && (match ops.toList[i]? with | some o => !Region.wanted o (yielded ops a.tmps) | none => false)) = true) (hi : ops.toList[i]? = some oi) (hQ : RowKit.Hid (QPn Q)) (hS : S w) (h : wpAnyN P md ops Q S n fuel (listed.setIfInBounds i true) (a.put oi.dst undef) w) : wpAnyN P md ops Q S n (fuel + 1) listed a w := by
 rw [hi, Bool.and_eq_true] at hm
 exact skL i hm.1 hi (fun c a w k => hQ.out c a oi.dst undef w k) (by simpa using hm.2) hS h
end
end Garner
