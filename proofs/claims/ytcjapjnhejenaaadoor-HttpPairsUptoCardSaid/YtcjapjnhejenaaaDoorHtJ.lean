import Derived.Test.YtcjapjnhejenaaaDoorHtI
import Derived.Test.YtcjapjnhejenaaaDoorRf
/-! a loop over an iterator that keeps its state in a cell: the law; strings.SplitSeq -/
namespace Garner
open Go Go.RowKit

/-- An iterator (function gf with the captured lb) that hands out xs in order; it writes the cell T alone; Kp: what a round must keep. -/
def SeqT {α : Type} (n : Nat) (P : Program) (gf : Nat) (lb : Array Value) (T : Nat) (enc : α → Value) (xs : List α) (Kp : World → World → Prop) (w : World) : Prop :=
  ∀ (l : Nat) (J : Nat → World → Prop) (W : World), Below w.heap.size w W → (∀ k A, J k A → J k A.drew) → (∀ k A u, J k A → J k (A.setCell ⟨T, 0, none⟩ u)) →
    (∀ k x W1, J k W1 → xs[k]? = some x → YieldAt Fence.wide (n - 1) P l #[enc x] W1 fun e W' => e = .returned (.bool true) ∧ J (k + 1) W' ∧ Kp W1 W') →
    J 0 W → CallsIn Fence.wide n P gf (#[.func (.yield l) #[] #[]] ++ lb) W fun e W' => (∃ v, e = .returned v) ∧ J xs.length W'

theorem setCell_obj {W : World} {T : Nat} {u : Value} {k : Nat} {o : Obj} (h : W.heap[k]? = some o) (ho : o.isCells = false) : (W.setCell ⟨T, 0, none⟩ u).heap[k]? = some o := by
  by_cases e : k = T
  · subst e
    have := (KeepsOthers.setCell W ⟨k, 0, none⟩ u).same k o h ho
    exact this
  · rw [Below.heap_setCell _ _ _ _ e]; exact h

/-- what a round's body leaves -/
def endT (B : Nat) (Kp : World → World → Prop) (I : Nat → World → Prop) (k : Nat) (W : World) : Exit → Act → World → Prop
  | .normal, _, W' => KeepsFrom B W W' ∧ Kp W W' ∧ I k W'
  | _, _, _ => False

theorem wpIn_rangeT {α : Type} {n : Nat} {P : Program} {g : Operand} {p j : Tmp} {assign body : Code} {Q : Exit → Act → World → Prop} {a : Act} {w : World}
    (h1 : 1 ≤ n) {gf : Nat} {lb : Array Value} (hg : a.eval g = .func (.func gf) #[] lb) (eg : ∀ args w, (callFunc gf args).run P w = .ok (.enter gf args) w)
    {T : Nat} {enc : α → Value} {xs : List α} {Kp : World → World → Prop} (hseq : SeqT (n - 1) P gf lb T enc xs Kp w)
    (hKt : ∀ {A B C : World}, Kp A B → Kp B C → Kp A C) (hKb : ∀ (W : World) (l : Nat) (o o' : Obj), w.heap.size ≤ l → W.heap[l]? = some o → o.isCells = false → o.isWalk = false → Kp W (W.putObj l o'))
    (I : Nat → World → Prop) (hI : OwnFrom w.heap.size I) (hIs : ∀ k A u, I k A → I k (A.setCell ⟨T, 0, none⟩ u)) (h0 : I 0 w)
    (hassign : ∀ (l : Nat) (x : α) (W : World) (K : Act → World → Prop), K { tmps := (a.tmps.setIfInBounds p (enc x)).setIfInBounds j (enc x), defers := [] } W →
      assign.wpIn (Fence.wide.inRound l) (n - 1 - 1) P (Exit.then K (fun _ _ _ => False)) { tmps := a.tmps.setIfInBounds p (enc x), defers := [] } W)
    (hbody : ∀ (l k : Nat) (x : α) (W : World), I k W → xs[k]? = some x → body.wpIn (Fence.wide.inRound l) (n - 1 - 1) P (endT w.heap.size Kp I (k + 1) W) { tmps := (a.tmps.setIfInBounds p (enc x)).setIfInBounds j (enc x), defers := [] } W)
    (hdone : ∀ (D : Nat) (W : World), w.heap.size ≤ D → I xs.length W → W.heap[D]? = some (.deferred (some [])) → Q .normal { a with defers := { target := .collected D, args := #[] } :: a.defers } W) :
    (Code.rangeFunc g #[p] assign body).wpIn Fence.wide n P Q a w := by
  refine wpIn_rangeFunc fun fn hfn => ?_
  let rec0 : LoopState → Option Code → Loop := fun st pe => { state := st, pending := pe, fn := fn, tmps := a.tmps, params := #[p], assign := assign, body := body, defers := w.heap.size }
  obtain ⟨W1, hW1⟩ : ∃ W1, (w.alloc (.deferred (some []))).alloc (.loop (rec0 .ready none)) = W1 := ⟨_, rfl⟩
  have s1 : W1.heap.size = w.heap.size + 2 := by rw [← hW1]; simp
  have b1 : Below w.heap.size w W1 := by rw [← hW1]; exact ((Below.refl _ w).alloc (Nat.le_refl _) _).alloc (by simp) _
  have L1 : W1.heap[w.heap.size + 1]? = some (.loop (rec0 .ready none)) := by
    rw [← hW1]
    have := World.alloc_heap_new (w.alloc (.deferred (some []))) (.loop (rec0 .ready none))
    rwa [World.size_alloc] at this
  have D1 : W1.heap[w.heap.size]? = some (.deferred (some [])) := by
    rw [← hW1]; exact (Below.heap_alloc _ _ _ (by simp)).trans (World.alloc_heap_new w _)
  have I1 : I 0 W1 := by rw [← hW1]; exact hI.alloc _ (hI.alloc _ h0)
  refine ⟨w.heap.size + 1, [{ target := .collected w.heap.size, args := #[] }], W1, { target := .fn (.func gf) lb, args := #[.func (.yield (w.heap.size + 1)) #[] #[]] }, W1, gf,
    #[.func (.yield (w.heap.size + 1)) #[] #[]] ++ lb, W1, ?_, ?_, fun _ _ => trivial, ?_, fun _ => h1, ?_⟩
  · rw [← hW1]; exact run_enterLoop_outer _ _ _ _ _
  · simp only [resolve, hg]
    simp [go_sem]
  · simp [invoke, go_sem, eg]
  have book : ∀ {A : World} {k : Nat} {o : Obj} (u : Value), A.heap[k]? = some o → o.isCells = false → (A.setCell ⟨T, 0, none⟩ u).heap[k]? = some o := fun u h ho => setCell_obj h ho
  refine (hseq (w.heap.size + 1) (fun k W => I k W ∧ W.heap[w.heap.size + 1]? = some (.loop (rec0 .ready none)) ∧ W.heap[w.heap.size]? = some (.deferred (some []))) W1 b1
    (fun k A h => ⟨hI k A A.drew none h.1 ⟨rfl, rfl, rfl, Nat.le_refl _, fun _ _ _ => rfl⟩ (fun _ e => by cases e), h.2⟩)
    (fun k A u h => ⟨hIs k A u h.1, book u h.2.1 rfl, book u h.2.2 rfl⟩) ?_ ⟨I1, L1, D1⟩).mono ?_
  · -- one round
    rintro k x W ⟨hi, hl, hd⟩ hx
    have hlt : w.heap.size + 1 < W.heap.size := (Array.getElem?_eq_some_iff.1 hl).1
    refine ⟨fn, _, assign, body, run_yield (P := P) (args := #[enc x]) hl rfl, roundIn_of_wpIn hfn ?_⟩
    have e0 : ((#[p] : Array Tmp).zip #[enc x]).foldl (fun t (q, v) => t.setIfInBounds q v) a.tmps = a.tmps.setIfInBounds p (enc x) := by
      rw [show (#[p] : Array Tmp).zip #[enc x] = #[(p, enc x)] by simp [Array.zip]]
      simp
    show assign.wpIn (Fence.wide.inRound _) _ P _ { tmps := ((#[p] : Array Tmp).zip #[enc x]).foldl (fun t (q, v) => t.setIfInBounds q v) a.tmps, defers := [] } W
    rw [e0]
    refine hassign _ x W _ ⟨_, run_beginRound hl rfl, ?_⟩
    obtain ⟨W2, hW2⟩ : ∃ W2, W.putObj (w.heap.size + 1) (.loop { rec0 .ready none with state := .busy }) = W2 := ⟨_, rfl⟩
    rw [hW2]
    have l2 : W2.heap[w.heap.size + 1]? = some (.loop { rec0 .ready none with state := .busy }) := by rw [← hW2]; exact World.putObj_heap_same hlt
    have d2 : W2.heap[w.heap.size]? = some (.deferred (some [])) := by rw [← hW2]; exact (World.putObj_heap_other (by omega)).trans hd
    have k2 : Kp W W2 := by rw [← hW2]; exact hKb _ _ _ _ (by omega) hl rfl rfl
    have i2 : I k W2 := by rw [← hW2]; exact hI.putObj _ hi (by omega) hl rfl
    refine wpIn_mono (hbody _ k x W2 i2 hx) ?_
    rintro e a3 W3 hp
    cases e with
    | normal =>
      obtain ⟨hk3, hkp3, hi3⟩ := hp
      have l3 := hk3.same _ _ (by omega) l2 rfl
      have d3 := hk3.same _ _ (Nat.le_refl _) d2 rfl
      have hlt3 := (Array.getElem?_eq_some_iff.1 l3).1
      exact ⟨_, _, run_endRound (P := P) none l3, rfl, ⟨hI.putObj _ hi3 (by omega) l3 rfl, World.putObj_heap_same hlt3, (World.putObj_heap_other (by omega)).trans d3⟩, hKt (hKt k2 hkp3) (hKb _ _ _ _ (by omega) l3 rfl rfl)⟩
    | ret => exact hp.elim
    | exit id => exact hp.elim
    | goto t => exact hp.elim
    | panic ch => exact hp.elim
    | outgrown => exact hp.elim
  · -- behind the iterator
    rintro e W2 ⟨⟨v, rfl⟩, hi, hl, hd⟩
    exact ⟨none, _, run_endLoop (P := P) hl (by simp [rec0]), hdone _ _ (Nat.le_refl _) (hI.putObj _ hi (by omega) hl rfl) ((World.putObj_heap_other (by omega)).trans hd)⟩
end Garner
