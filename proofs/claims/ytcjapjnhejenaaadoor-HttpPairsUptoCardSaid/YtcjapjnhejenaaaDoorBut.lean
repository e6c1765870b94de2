/-
  Worlds that differ in few known blocks; and regions in which one of two operations comes up.
-/
import Derived.Test.YtcjapjnhejenaaaDoorRegion2
import Derived.Test.YtcjapjnhejenaaaDoorBlk
import Derived.Test.YtcjapjnhejenaaaDoorMap
namespace Garner
open Go Go.RowKit

/-- w' is w, but for the blocks S and new ones -/
structure But (S : List Nat) (w w' : World) : Prop where
  os : w'.os = w.os
  tape : w'.tape = w.tape
  output : w'.output = w.output
  size : w.heap.size ≤ w'.heap.size
  block : ∀ k, k < w.heap.size → k ∉ S → w'.heap[k]? = w.heap[k]?

section
variable {S T : List Nat} {a b c w w' : World}
theorem But.refl (S : List Nat) (w : World) : But S w w := ⟨rfl, rfl, rfl, Nat.le_refl _, fun _ _ _ => rfl⟩
theorem But.trans (h : But S a b) (k : But S b c) : But S a c :=
  ⟨k.os.trans h.os, k.tape.trans h.tape, k.output.trans h.output, Nat.le_trans h.size k.size, fun i hi hS => (k.block i (Nat.lt_of_lt_of_le hi h.size) hS).trans (h.block i hi hS)⟩
theorem But.mono (h : But S w w') (hS : ∀ k ∈ S, k ∈ T) : But T w w' := ⟨h.os, h.tape, h.output, h.size, fun k hk hT => h.block k hk fun hs => hT (hS k hs)⟩
theorem But.of_below (h : Below w.heap.size w w') : But S w w' := ⟨h.os, h.tape, h.output, h.size, fun k hk _ => h.block k hk⟩
theorem But.below {B : Nat} (h : But S w w') (hB : B ≤ w.heap.size) (hS : ∀ k ∈ S, B ≤ k) : Below B w w' := ⟨h.os, h.tape, h.output, h.size, fun k hk => h.block k (by omega) fun hs => by have := hS k hs; omega⟩
theorem But.drew (h : But S a w) : But S a w.drew := ⟨h.os, h.tape, h.output, h.size, h.block⟩
theorem But.alloc (h : But S a w) (o : Obj) : But S a (w.alloc o) :=
  h.trans (But.of_below ((Below.refl _ _).alloc (Nat.le_refl _) o))
theorem But.setCell (h : But S a w) {p : Addr} (hp : p.block ∈ S) (u : Value) : But S a (w.setCell p u) :=
  h.trans ⟨rfl, rfl, rfl, by simp [World.setCell], fun k _ hk => Below.heap_setCell _ _ _ _ fun e => hk (e ▸ hp)⟩
theorem But.grown {row : Option Nat} (hg : w.grownBy w' row) (hS : ∀ k, row = some k → k ∈ S) : But S w w' :=
  ⟨hg.os, hg.tape, hg.output, hg.size, fun k hk hn => hg.block k hk fun e => hn (hS k e.symm)⟩
/-- blocks that are new need not be named -/
theorem But.old (h : But S a w) (k : But T w w') (hT : ∀ x ∈ T, x ∈ S ∨ a.heap.size ≤ x) : But S a w' :=
  ⟨k.os.trans h.os, k.tape.trans h.tape, k.output.trans h.output, Nat.le_trans h.size k.size, fun i hi hS => (k.block i (Nat.lt_of_lt_of_le hi h.size) fun ht => (hT i ht).elim hS fun hge => by omega).trans (h.block i hi hS)⟩
theorem But.cell (h : But S w w') {p : Addr} (hp : p.block < w.heap.size) (hS : p.block ∉ S) : w'.cell? p = w.cell? p := World.cell?_of_block (w := w) (h.block p.block hp hS)
end
end Garner
namespace Go.Proofs.YtcjapjnhejenaaaDoor
open Go.RowKit Garner
section
variable {S : List Nat} {w w' : World}
theorem Blk.but {g : Nat} {t : TypeId} {cs : List Value} (h : Blk w g t cs) (hb : But S w w') (hg : g ∉ S) : Blk w' g t cs := (hb.block g h.lt hg).trans h
theorem Blk.far {g : Nat} {t : TypeId} {cs : List Value} (h : Blk w g t cs) {p : Addr} (hp : g ≠ p.block) (u : Value) : Blk (w.setCell p u) g t cs := (Below.heap_setCell w p u g hp).trans h
theorem Blk.ne_ {g g' : Nat} {t t' : TypeId} {cs cs' : List Value} (h : Blk w g t cs) (h' : Blk w g' t' cs') (hne : t ≠ t') : g ≠ g' := by
  rintro rfl
  unfold Blk at h h'
  rw [h] at h'
  injection h' with h'
  injection h' with _ ht
  exact hne ht
theorem MapIs.but {κ : Type} {key : κ → Value} {b : Nat} {al : List (κ × Value)} (h : MapIs key w b al) (hb : But S w w') (hg : b ∉ S) : MapIs key w' b al := h.of_block (hb.block b h.lt hg)
theorem own_but {B : Nat} {e : TypeId} {sz n : Nat} {v : Value} {xs : List Value} (h : w.ownsRow B e sz v n xs) (hb : But S w w') (hv : ∀ g, v.ownBlock = some g → g ∉ S) : w'.ownsRow B e sz v n xs := by
  obtain ⟨h1, h2⟩ := h
  refine ⟨h1, ?_⟩
  rcases h2 with h2 | ⟨g, cap, cur, rfl, hg, hh, r⟩
  · exact Or.inl h2
  · refine Or.inr ⟨g, cap, cur, rfl, hg, ?_, r⟩
    rw [hb.block g (Array.getElem?_eq_some_iff.1 hh).1 (hv g rfl)]; exact hh
theorem Row.but {B sz n : Nat} {A : Option Addr} {xs : List Value} (h : Row w B sz A n xs) (hB : B ≤ w.heap.size) (hb : But S w w') (hS : ∀ k ∈ S, B ≤ k) : Row w' B sz A n xs := h.below (hb.below hB hS)
theorem own_blk {B : Nat} {e : TypeId} {sz n : Nat} {v : Value} {xs : List Value} {g : Nat} {t : TypeId} {cs : List Value} (h : w.ownsRow B e sz v n xs) (hb : Blk w g t cs) (hne : e ≠ t) : g ∉ v.ownBlock.toList := by
  rcases h.2 with ⟨rfl, _⟩ | ⟨g', cap, cur, rfl, _, hh, _⟩
  · simp [Value.ownBlock]
  · intro hm
    have e1 : g = g' := by simpa [Value.ownBlock] using hm
    subst e1
    unfold Blk at hb
    rw [hb] at hh
    injection hh with hh
    injection hh with _ ht
    exact hne ht.symm
theorem own_own {B B' : Nat} {e e' : TypeId} {sz n sz' n' : Nat} {v v' : Value} {xs xs' : List Value} (h : w.ownsRow B e sz v n xs) (h' : w.ownsRow B' e' sz' v' n' xs') (hne : e ≠ e') : ∀ g, v'.ownBlock = some g → g ∉ v.ownBlock.toList := by
  intro g hg hm
  rcases h.2 with ⟨rfl, _⟩ | ⟨g1, cap, cur, rfl, _, hh, _⟩
  · simp [Value.ownBlock] at hm
  · rcases h'.2 with ⟨rfl, _⟩ | ⟨g2, cap', cur', rfl, _, hh', _⟩
    · simp [Value.ownBlock] at hg
    · have e1 : g = g1 := by simpa [Value.ownBlock] using hm
      have e2 : g2 = g := by simpa [Value.ownBlock] using hg
      subst e1; subst e2
      rw [hh'] at hh
      injection hh with hh
      injection hh with _ ht
      exact hne ht.symm
theorem own_ge {B : Nat} {e : TypeId} {sz n : Nat} {v : Value} {xs : List Value} (h : w.ownsRow B e sz v n xs) : ∀ k ∈ v.ownBlock.toList, B ≤ k ∧ k < w.heap.size := fun k hk => h.lt k (by simpa using hk)
/-- a row of the call's own, written out -/
theorem own_form {B : Nat} {e : TypeId} {sz n : Nat} {v : Value} {xs : List Value} (h : w.ownsRow B e sz v n xs) : ∃ A c, v = .slice A n c ∧ n ≤ c := by
  rcases h.2 with ⟨rfl, rfl⟩ | ⟨g, cap, cur, rfl, _, _, hc, _⟩
  · exact ⟨none, 0, rfl, Nat.le_refl _⟩
  · exact ⟨_, cap, rfl, hc⟩
theorem own_at {B : Nat} {e : TypeId} {sz n c : Nat} {A : Option Addr} {xs : List Value} (h : w.ownsRow B e sz (.slice A n c) n xs) (hn : 0 < n) : ∃ g, A = some ⟨g, 0, none⟩ ∧ B ≤ g ∧ g < w.heap.size ∧ n ≤ c ∧ c ≤ maxLen ∧ ∀ j, j < n * sz → w.cell? ⟨g, j, none⟩ = xs[j]? := by
  obtain ⟨g, cap, hv, hb, hlt⟩ := h.form hn
  have hA : A = some ⟨g, 0, none⟩ := by injection hv
  have hc : c = cap := by injection hv
  subst hA; subst hc
  rcases h.2 with ⟨h0, _⟩ | ⟨g', cap', cur, hv', _, _, hc, hm, _⟩
  · cases h0
  · injection hv' with e1 e2 e3
    subst e3
    exact ⟨g, rfl, hb, hlt, hc, hm, fun j hj => h.cellAt j hj⟩
theorem own_empty {B : Nat} {e : TypeId} {sz : Nat} {g : Nat} (h : w.heap[g]? = some (.cells #[] e (0, 0))) (hB : B ≤ g) : w.ownsRow B e sz (.slice (some ⟨g, 0, none⟩) 0 0) 0 [] :=
  ⟨by simp, Or.inr ⟨g, 0, #[], rfl, hB, h, Nat.le_refl _, by simp [maxLen], by simp, by simp⟩⟩
end
end Go.Proofs.YtcjapjnhejenaaaDoor
namespace Garner
open Go
section
variable {P : Program} {ops : Array Oper} {Q : Exit → Act → World → Prop} {md : Region.Mode} {S : World → Prop}
theorem of_toList {i : Nat} {o : Oper} (h : ops.toList[i]? = some o) : ops[i]? = some o := by rw [← h]; simp
theorem wpAnyN_takeL (i : Nat) {n : Nat} {oi : Oper} {v : Value} {fuel : Nat} {listed : Array Bool} {a : Act} {w : World} (hm : mayTakeG md ops n listed i = true) (hi : ops.toList[i]? = some oi)
    (hQ : ∀ c a w, Q (.panic c) (a.put oi.dst v) w → Q (.panic c) a w) (hw : Region.wanted oi (yielded ops a.tmps) = true) (hS : S w) (hy : ∀ w, S w → stillRun P v w ((execOp a.eval oi).run P w))
    (h : wpAnyN P md ops Q S n fuel (listed.setIfInBounds i true) (a.put oi.dst v) w) : wpAnyN P md ops Q S n (fuel + 1) listed a w := wpAnyN_takeG i hm (of_toList hi) hQ hw hS hy h
theorem wpAnyN_runL (i : Nat) {n : Nat} {o : Oper} {fuel : Nat} {listed : Array Bool} {a : Act} {w : World} (hr : Region.ready md ops listed = [i]) (hi : ops.toList[i]? = some o) (hw : Region.wanted o (yielded ops a.tmps) = true)
    (h : ∀ K : Act → World → Prop, (∀ a' w', (i ≠ n → S w') → wpAnyN P md ops Q S n fuel (listed.setIfInBounds i true) a' w' → K a' w') → o.wp P a w K Q) : wpAnyN P md ops Q S n (fuel + 1) listed a w := wpAnyN_runG i hr (of_toList hi) hw h
theorem wpAnyN_passL (i : Nat) {n : Nat} {o : Oper} {fuel : Nat} {listed : Array Bool} {a : Act} {w : World} (hr : Region.ready md ops listed = [i]) (hi : ops.toList[i]? = some o) (hw : Region.wanted o (yielded ops a.tmps) = false) (hS : S w)
    (h : wpAnyN P md ops Q S n fuel (listed.setIfInBounds i true) (a.put o.dst undef) w) : wpAnyN P md ops Q S n (fuel + 1) listed a w := wpAnyN_pass i hr (of_toList hi) hw hS h
/-- one of two may come up -/
theorem wpAnyN_two (i j : Nat) {n : Nat} {o o' : Oper} {fuel : Nat} {listed : Array Bool} {a : Act} {w : World} (hr : Region.ready md ops listed = [i, j]) (hi : ops.toList[i]? = some o) (hw : Region.wanted o (yielded ops a.tmps) = true) (hj : ops.toList[j]? = some o') (hw' : Region.wanted o' (yielded ops a.tmps) = true)
    (h : ∀ K : Act → World → Prop, (∀ a' w', (i ≠ n → S w') → wpAnyN P md ops Q S n fuel (listed.setIfInBounds i true) a' w' → K a' w') → o.wp P a w K Q)
    (h' : ∀ K : Act → World → Prop, (∀ a' w', (j ≠ n → S w') → wpAnyN P md ops Q S n fuel (listed.setIfInBounds j true) a' w' → K a' w') → o'.wp P a w K Q) : wpAnyN P md ops Q S n (fuel + 1) listed a w := by
  refine ⟨fun h0 => (by rw [hr] at h0; cases h0), fun k hk => ?_⟩
  rw [hr] at hk
  simp only [List.mem_cons, List.not_mem_nil, or_false] at hk
  rcases hk with rfl | rfl
  · unfold Go.wpOp
    simp only [of_toList hi]
    rw [if_pos hw]
    exact .inl (h _ fun _ _ h1 h2 => ⟨h1, h2⟩)
  · unfold Go.wpOp
    simp only [of_toList hj]
    rw [if_pos hw']
    exact .inl (h' _ fun _ _ h1 h2 => ⟨h1, h2⟩)
end
end Garner
