import Derived.Test.YtmddgimadlmacaaDoorWs11
import Derived.Maps.RangeRun
import Derived.Maps.RangeWalk
/-
  Ranging over a map that is an association list, whatever its elements are: what has been met, what is still to come.
-/
namespace Garner
open Go Go.RowKit

section
variable {κ : Type} {key : κ → Value}
/-- block m is a map that holds al; block r ranges over it: 'done' has been met, 'todo' is to come -/
def Rng (key : κ → Value) (w : World) (m r : Nat) (al done todo : List (κ × Value)) : Prop :=
  ∃ es clock seen, w.heap[m]? = some (.map es clock) ∧ es.toList.map pairOf = al.map (fun p => (key p.1, p.2)) ∧ (es.toList.map (·.born)).Pairwise (· < ·) ∧ (∀ e ∈ es.toList, e.born < clock) ∧
    w.heap[r]? = some (.mapIter (some m) clock seen clock) ∧ ∃ de te : List MapEntry, de.map pairOf = done.map (fun p => (key p.1, p.2)) ∧ te.map pairOf = todo.map (fun p => (key p.1, p.2)) ∧ seen.toList = de.map (·.born) ∧ (de ++ te).Perm es.toList ∧ (done ++ todo).Perm al

theorem map_split {α β γ : Type} {f : α → γ} {g : β → γ} {l : List α} {l' : List β} (h : l.map f = l'.map g) {i : Nat} {x : α} (hi : l[i]? = some x) : ∃ y, l'[i]? = some y ∧ f x = g y := by
  have h1 := congrArg (fun z => z[i]?) h
  simp only [List.getElem?_map, hi, Option.map_some] at h1
  cases hy : l'[i]? with
  | none => rw [hy] at h1; cases h1
  | some y => rw [hy] at h1; exact ⟨y, rfl, by simpa using h1⟩

theorem Rng.start {w : World} {m : Nat} {al : List (κ × Value)} (h : MapIs key w m al) {P : Program} {t k e : TypeId} (ht : P.underlying t = some (.map k e)) :
    ∃ o, (Instr.range t (.map (some m))).run P w = .ok (.pointer (some ⟨w.heap.size, 0, none⟩)) (w.alloc o) ∧ Rng key (w.alloc o) m w.heap.size al [] al := by
  obtain ⟨es, clock, h1, h2, h3, h4⟩ := h
  have hlt := (Array.getElem?_eq_some_iff.1 h1).1
  refine ⟨.mapIter (some m) clock #[] clock, by simp [Instr.range, run_underlying ht, MapKept.run_getObj_map h1, Result.andThen], es, clock, #[], (Below.heap_alloc w _ m hlt).trans h1, h2, h3, h4, Go.heap_alloc_new w _, [], es.toList, rfl, h2, rfl, by simp, by simp⟩

theorem perm_erase {α : Type} : ∀ {l : List α} {i : Nat} (h : i < l.length), (l[i] :: l.eraseIdx i).Perm l
  | x :: l, 0, _ => List.Perm.refl _
  | x :: l, i + 1, h => by
    have hi : i < l.length := by simpa using h
    have ih := perm_erase (l := l) (i := i) hi
    exact (List.Perm.swap x l[i] (l.eraseIdx i)).trans (ih.cons x)
theorem nodup_map {α β : Type} {f : α → β} {l : List α} (h : (l.map f).Nodup) : l.Nodup := List.Pairwise.of_map f (fun _ _ h e => h (e ▸ rfl)) h
theorem nodup_of_lt {l : List Nat} (h : l.Pairwise (· < ·)) : l.Nodup := h.imp (by intros; omega)

theorem Rng.left_mem {es : Array MapEntry} {seen : Array Nat} {de te : List MapEntry} (hn : (es.toList.map (·.born)).Nodup) (hs : seen.toList = de.map (·.born)) (hp : (de ++ te).Perm es.toList) (e : MapEntry) :
    e ∈ (leftOf es seen).toList ↔ e ∈ te := by
  have hn2 : ((de ++ te).map (·.born)).Nodup := (hp.map _).nodup_iff.2 hn
  rw [List.map_append, List.nodup_append] at hn2
  simp only [leftOf, Array.toList_filter, List.mem_filter, Bool.not_eq_true', Array.contains_eq_mem, decide_eq_false_iff_not]
  rw [← Array.mem_toList_iff, hs]
  constructor
  · rintro ⟨h1, h2⟩
    rcases List.mem_append.1 (hp.mem_iff.2 h1) with h | h
    · exact absurd (List.mem_map.2 ⟨e, h, rfl⟩) h2
    · exact h
  · intro h
    refine ⟨hp.mem_iff.1 (List.mem_append.2 (Or.inr h)), fun h2 => ?_⟩
    exact hn2.2.2 _ h2 _ (List.mem_map.2 ⟨e, h, rfl⟩) rfl

theorem Rng.next {w : World} {m r : Nat} {al done todo : List (κ × Value)} (h : Rng key w m r al done todo) (P : Program) (ty : TypeId) :
    (todo = [] ∧ (Instr.next (.pointer (some ⟨r, 0, none⟩)) false ty).run P w = .ok (.tuple #[.bool false]) w) ∨
    ∃ p todo' w', todo.Perm (p :: todo') ∧ (Instr.next (.pointer (some ⟨r, 0, none⟩)) false ty).run P w = .ok (.tuple #[.bool true, key p.1, p.2]) w' ∧ Rng key w' m r al (done ++ [p]) todo' ∧
      But [r] w w' ∧ w'.heap.size = w.heap.size ∧ (Instr.entry (.pointer (some ⟨r, 0, none⟩))).run P w' = .ok (.tuple #[key p.1, p.2]) w' := by
  obtain ⟨es, clock, seen, h1, h2, h3, h4, h5, de, te, g1, g2, g3, g4, g5⟩ := h
  have hn := nodup_of_lt h3
  rcases run_next_at (P := P) w ty r m clock clock seen es clock h5 h1 h4 (Nat.le_refl _) with ⟨h0, hrun⟩ | ⟨e, he, w1, hw1, hrun⟩
  · left
    refine ⟨?_, hrun⟩
    have : te = [] := by
      rcases te with _ | ⟨e, te⟩
      · rfl
      · have := (Rng.left_mem hn g3 g4 e).2 (by simp)
        have hz : (leftOf es seen) = #[] := Array.eq_empty_of_size_eq_zero h0
        rw [hz] at this
        simp at this
    subst this
    cases todo with
    | nil => rfl
    | cons p l => simp at g2
  · right
    have hte := (Rng.left_mem hn g3 g4 e).1 he
    obtain ⟨i, hi⟩ := List.mem_iff_getElem?.1 hte
    obtain ⟨p, hp, hep⟩ := map_split g2 hi
    have hil : i < todo.length := (List.getElem?_eq_some_iff.1 hp).1
    have hil' : i < te.length := (List.getElem?_eq_some_iff.1 hi).1
    have hk : e.key = key p.1 := congrArg Prod.fst hep
    have hv : e.val = p.2 := congrArg Prod.snd hep
    have hee : te[i] = e := (List.getElem?_eq_some_iff.1 hi).2
    have hpp : todo[i] = p := (List.getElem?_eq_some_iff.1 hp).2
    have hperm1 : te.Perm (e :: te.eraseIdx i) := by
      have := perm_erase hil'
      rw [hee] at this; exact this.symm
    have hperm2 : todo.Perm (p :: todo.eraseIdx i) := by
      have := perm_erase hil
      rw [hpp] at this; exact this.symm
    have hw1r : w1.heap = w.heap := by rcases hw1 with rfl | rfl <;> rfl
    have hrm : r ≠ m := by rintro rfl; rw [h1] at h5; cases h5
    have hrl : r < w.heap.size := (Array.getElem?_eq_some_iff.1 h5).1
    have hb : ∀ o : Obj, But [r] w (ChangeMaps.setBlock w1 r o) ∧ (ChangeMaps.setBlock w1 r o).heap.size = w.heap.size ∧ (ChangeMaps.setBlock w1 r o).heap[r]? = some o ∧ (ChangeMaps.setBlock w1 r o).heap[m]? = w.heap[m]? := fun o => by
      refine ⟨⟨?_, ?_, ?_, ?_, fun k _ hk => ?_⟩, ?_, ?_, ?_⟩
      · rcases hw1 with rfl | rfl <;> rfl
      · rcases hw1 with rfl | rfl <;> rfl
      · rcases hw1 with rfl | rfl <;> rfl
      · simp [ChangeMaps.setBlock, hw1r]
      · simp only [List.mem_singleton] at hk
        simp only [ChangeMaps.setBlock, hw1r, Array.getElem?_setIfInBounds]
        rw [if_neg (by omega)]
      · simp [ChangeMaps.setBlock, hw1r]
      · simp [ChangeMaps.setBlock, hw1r, hrl]
      · simp only [ChangeMaps.setBlock, hw1r, Array.getElem?_setIfInBounds]
        rw [if_neg hrm]
    obtain ⟨b1, b2, b3, b4⟩ := hb (.mapIter (some m) clock (seen.push e.born) clock)
    have hes : e ∈ es.toList := g4.mem_iff.1 (List.mem_append.2 (Or.inr hte))
    refine ⟨p, todo.eraseIdx i, _, hperm2, by rw [hrun, hk, hv], ⟨es, clock, seen.push e.born, b4.trans h1, h2, h3, h4, b3, de ++ [e], te.eraseIdx i, ?_, ?_, by simp [g3], ?_, ?_⟩, b1, b2, ?_⟩
    · rw [List.map_append, List.map_append, g1]; simp [hep]
    · rw [← eraseIdx_map', ← eraseIdx_map', g2]
    · rw [List.append_assoc]
      exact (List.Perm.append_left de hperm1.symm).trans g4
    · rw [List.append_assoc]
      exact (List.Perm.append_left done hperm2.symm).trans g5
    · have := run_entry_at (P := P) _ r m clock seen es clock e b3 (b4.trans h1) hes hn
      rw [this, hk, hv]

theorem Rng.but {S : List Nat} {w w' : World} {m r : Nat} {al done todo : List (κ × Value)} (h : Rng key w m r al done todo) (hb : But S w w') (hm : m ∉ S) (hr : r ∉ S) : Rng key w' m r al done todo := by
  obtain ⟨es, clock, seen, h1, h2, h3, h4, h5, h6⟩ := h
  exact ⟨es, clock, seen, (hb.block m (Array.getElem?_eq_some_iff.1 h1).1 hm).trans h1, h2, h3, h4, (hb.block r (Array.getElem?_eq_some_iff.1 h5).1 hr).trans h5, h6⟩
theorem Rng.is {w : World} {m r : Nat} {al done todo : List (κ × Value)} (h : Rng key w m r al done todo) : MapIs key w m al := by
  obtain ⟨es, clock, seen, h1, h2, h3, h4, _⟩ := h
  exact ⟨es, clock, h1, h2, h3, h4⟩
theorem Rng.lt {w : World} {m r : Nat} {al done todo : List (κ × Value)} (h : Rng key w m r al done todo) : m < w.heap.size ∧ r < w.heap.size ∧ m ≠ r := by
  obtain ⟨es, clock, seen, h1, h2, h3, h4, h5, _⟩ := h
  exact ⟨(Array.getElem?_eq_some_iff.1 h1).1, (Array.getElem?_eq_some_iff.1 h5).1, by rintro rfl; rw [h1] at h5; cases h5⟩
theorem Rng.left_eq {w : World} {m r : Nat} {al done todo : List (κ × Value)} (h : Rng key w m r al done todo) : w.rangeLeft m r = todo.length := by
  obtain ⟨es, clock, seen, h1, h2, h3, h4, h5, de, te, g1, g2, g3, g4, g5⟩ := h
  have hl : (leftOf es seen).toList.Perm te := by
    refine (List.perm_ext_iff_of_nodup ?_ ?_).2 (Rng.left_mem (nodup_of_lt h3) g3 g4)
    · have h0 := nodup_of_lt h3
      exact (nodup_map h0).sublist (by simp [leftOf])
    · have : (de ++ te).Nodup := g4.nodup_iff.2 (nodup_map (nodup_of_lt h3))
      exact (List.nodup_append.1 this).2.1
  have e1 := congrArg List.length g2
  simp only [List.length_map] at e1
  unfold World.rangeLeft
  simp only [h1, h5]
  rw [← e1, ← hl.length_eq, Array.length_toList]
theorem Rng.perm {w : World} {m r : Nat} {al done todo : List (κ × Value)} (h : Rng key w m r al done todo) : (done ++ todo).Perm al := by
  obtain ⟨_, _, _, _, _, _, _, _, _, _, _, _, _, _, g5⟩ := h
  exact g5
section
variable {P : Program} {ops : Array Oper} {rest : List Oper} {o : Oper} {a : Act} {w : World} {Q : Exit → Act → World → Prop}
theorem wpList_rangeM (hg : o.guard = none) (x : Operand) (t : TypeId) (hop : o.op = Op.range t x) {k e : TypeId} (ht : P.underlying t = some (.map k e)) {m : Nat} {al : List (κ × Value)} (hx : a.eval x = .map (some m)) (h : MapIs key w m al)
    (hK : ∀ ob, Rng key (w.alloc ob) m w.heap.size al [] al → wpList P ops Q rest (a.put o.dst (.pointer (some ⟨w.heap.size, 0, none⟩))) (w.alloc ob)) : wpList P ops Q (o :: rest) a w := by
  refine wpList_plain hg fun K' hK' => ?_
  obtain ⟨ob, hrun, hr⟩ := Rng.start h ht
  unfold Oper.wp
  simp [execOp, hop, hx, hrun, Result.andThen]
  exact hK' _ _ (hK ob hr)
theorem wpList_nextM (hg : o.guard = none) (it : Operand) (hop : o.op = Op.next it false) {m r : Nat} {al done todo : List (κ × Value)} (hit : a.eval it = .pointer (some ⟨r, 0, none⟩)) (h : Rng key w m r al done todo)
    (hDone : todo = [] → wpList P ops Q rest (a.put o.dst (.tuple #[.bool false])) w)
    (hMore : ∀ (p : κ × Value) (todo' : List (κ × Value)) (w' : World), todo.Perm (p :: todo') → Rng key w' m r al (done ++ [p]) todo' → But [r] w w' → w'.heap.size = w.heap.size →
      (Instr.entry (.pointer (some ⟨r, 0, none⟩))).run P w' = .ok (.tuple #[key p.1, p.2]) w' → wpList P ops Q rest (a.put o.dst (.tuple #[.bool true, key p.1, p.2])) w') : wpList P ops Q (o :: rest) a w := by
  refine wpList_plain hg fun K' hK' => ?_
  unfold Oper.wp
  rcases h.next P o.type with ⟨h0, hrun⟩ | ⟨p, todo', w', h1, hrun, h2, h3, h4, h5⟩
  · simp [execOp, hop, hit, hrun, Result.andThen]
    exact hK' _ _ (hDone h0)
  · simp [execOp, hop, hit, hrun, Result.andThen]
    exact hK' _ _ (hMore p todo' w' h1 h2 h3 h4 h5)
end
end
end Garner
