import Derived.Test.YtmddgimadlmacaaMf16
import Derived.Lib.AppendZerosOnto
import Derived.Maps.RangeRun
import Derived.Maps.RangeWalk
namespace Go.Proofs.Ytmddgimadlmacaa
open Go.RowKit Garner

theorem byteInfo : (Try.prog.info? 5).map (fun i => (i.zero, i.size, i.bytes)) = some (some (.int .u8 0), 1, 1) := by kernel_rfl
set_option maxRecDepth 100000 in
set_option maxHeartbeats 4000000 in
/-- slices.Clone of bytes: new memory -/
theorem vClone (l : Bs) (A : Option Addr) (c B : Nat) (w : World) (hr : Bytes w B A l.length l) (hB : B ≤ w.heap.size) (hl : l.length ≤ 140737488355328) :
    Calls Try.prog 65 #[.slice A l.length c] w fun e w' => ∃ v, e = .returned v ∧ OwnB w' w.heap.size v l ∧ Below w.heap.size w w' := by
  have hq := fun (u : World) (a : Option Addr) (n c : Nat) => Lib.run_eql_slice_nil (P := Try.prog) u 26 5 a n c 0 0 Try.underlying26
  cases A with
  | none =>
    have h0 : l = [] := by
      rcases Nat.eq_zero_or_pos l.length with h | h
      · exact List.eq_nil_of_length_eq_zero h
      · obtain ⟨_, _, h, _⟩ := hr.2 h; cases h
    subst h0
    go_enter Try.func65, Try.ntmps65
    go_wp2
    go_ret
    exact ⟨_, rfl, World.ownsRow_nil _ _ _ _, Below.refl _ _⟩
  | some a =>
    go_enter Try.func65, Try.ntmps65
    have hown : ∀ g : Nat, g = w.heap.size → (w.alloc (.cells #[] 5)).ownsRow w.heap.size 5 1 (.slice (some ⟨w.heap.size, 0, none⟩) 0 0) 0 [] := fun _ _ => own_empty (heap_alloc_new _ _) (Nat.le_refl _)
    have hown := hown _ rfl
    go_wp2_with (at_builtin; refine wpList_app _ rfl bytesE rfl rfl hown rfl (hr.alloc hB _) (bv_one _) (by omega) (by simp) ?_; intro v3 w3 hown3 hg3 hb3 _)
    go_ret
    exact ⟨v3, rfl, by simpa [OwnB] using hown3, ((Below.refl _ _).alloc (Nat.le_refl _) _).trans hb3⟩
set_option maxRecDepth 100000 in
set_option maxHeartbeats 4000000 in
/-- slices.Grow of a nil slice of bytes -/
theorem vGrow (n : Nat) (w : World) (hn : n ≤ 140737488355328) :
    Calls Try.prog 80 #[.slice none 0 0, .int .i64 n] w fun e w' => ∃ v, e = .returned v ∧ OwnB w' w.heap.size v [] ∧ Below w.heap.size w w' := by
  rcases Nat.eq_zero_or_pos n with h0 | h0
  · subst h0
    go_enter Try.func80, Try.ntmps80
    go_wp2
    go_ret
    exact ⟨_, rfl, World.ownsRow_nil _ _ _ _, Below.refl _ _⟩
  · obtain ⟨i0, hi, hz0, hz1, hz2⟩ := info_parts byteInfo
    have hold : (Builtin.firstCells i0.size 0 (.slice none 0 0)).run Try.prog w.drew = .ok ([] : List Value).toArray w.drew := run_firstCells_none w.drew i0.size 0 0 0
    have hgc : n ≤ grownCap w n 0 5 := grownCap_ge w _ _ _
    have hgm : grownCap w n 0 5 ≤ maxLen := grownCap_le_maxLen w n 0 _ (by unfold maxLen; omega)
    have hrz : ∀ ty, (Builtin.append_ #[26, 3] ty #[.slice none 0 0, .int .i64 n]).run Try.prog w =
        .ok (.slice (some ⟨w.heap.size, 0, none⟩) n (grownCap w n 0 5)) (w.drew.alloc (.cells (([] : List Value).toArray ++ Builtin.zeroCells (Value.int .u8 0).cells n ++ Builtin.zeroCells (Value.int .u8 0).cells (grownCap w n 0 5 - n)) 5)) := fun ty => by
      have h := Lib.run_append_grow_zeros w 26 3 ty 5 i0 (.int .u8 0) .i64 .i64 Try.underlying26 Try.underlying3 hi hz0 none 0 0 [] hold n h0 (by omega) (by omega) (by omega) (by rw [hz2]; omega) (by
        rw [hz2]; exact growslice_fits (by omega) (by omega))
      rw [Nat.zero_add] at h
      exact h
    have hsz : (([] : List Value).toArray ++ Builtin.zeroCells (Value.int .u8 0).cells n ++ Builtin.zeroCells (Value.int .u8 0).cells (grownCap w n 0 5 - n)).size = grownCap w n 0 5 := by
      simp [Builtin.zeroCells, Value.cells]; omega
    obtain ⟨G, hG⟩ : ∃ G, G = grownCap w n 0 5 := ⟨_, rfl⟩
    obtain ⟨cs, hcs⟩ : ∃ cs, cs = ([] : List Value).toArray ++ Builtin.zeroCells (Value.int .u8 0).cells n ++ Builtin.zeroCells (Value.int .u8 0).cells (grownCap w n 0 5 - n) := ⟨_, rfl⟩
    rw [← hcs, ← hG] at hsz
    rw [← hcs, ← hG] at hrz
    rw [← hG] at hgc hgm
    clear hcs hG hold
    have hn' : (0 : Int) < n := by omega
    unfold maxLen at hgm
    go_enter Try.func80, Try.ntmps80
    go_wp2_with (at_builtin; refine Lib.wpList_append_run _ rfl _ _ _ _ rfl _ _ rfl rfl _ _ (hrz _) ?_)
    go_ret
    refine ⟨_, rfl, ⟨by simp, Or.inr ⟨w.heap.size, G, cs, rfl, Nat.le_refl _, ?_, Nat.zero_le _, by unfold maxLen; omega, by omega, by simp⟩⟩, ((Below.refl _ _).drew.alloc (by simp) _)⟩
    exact Go.heap_alloc_new w.drew _
set_option maxRecDepth 100000 in
set_option maxHeartbeats 4000000 in
/-- slices.Concat of two slices of bytes -/
theorem vConcat (l1 l2 : Bs) (A1 A2 : Option Addr) (c1 c2 c B b off : Nat) (w : World) (h1 : Bytes w B A1 l1.length l1) (h2 : Bytes w B A2 l2.length l2) (hB : B ≤ w.heap.size) (hl : l1.length + l2.length ≤ 140737488355328)
    (hb : b < w.heap.size) (x0 : w.cell? ⟨b, off, none⟩ = some (.slice A1 l1.length c1)) (x1 : w.cell? ⟨b, off + 1, none⟩ = some (.slice A2 l2.length c2)) :
    Calls Try.prog 63 #[.slice (some ⟨b, off, none⟩) 2 c] w fun e w' => ∃ v, e = .returned v ∧ OwnB w' w.heap.size v (l1 ++ l2) ∧ Below w.heap.size w w' := by
  have x0' : w.cell? ⟨b, off + 0, none⟩ = some (.slice A1 l1.length c1) := x0
  go_enter Try.func63, Try.ntmps63
  go_wp2_with fail
  refine wp_loop_rounds 3 ?_
  rw [rounds_succ]
  go_wp2_with fail
  rw [rounds_succ]
  go_wp2_with fail
  rw [rounds_succ]
  go_wp2_with fail
  have hgr := vGrow (l1.length + l2.length) w hl
  rw [Int.natCast_add] at hgr
  refine hgr.mono ?_
  rintro e w1 ⟨v1, rfl, own1, hb1⟩
  have y0 : w1.cell? ⟨b, off, none⟩ = some (.slice A1 l1.length c1) := (hb1.cell (p := ⟨b, off, none⟩) hb).trans x0
  have y1 : w1.cell? ⟨b, off + 1, none⟩ = some (.slice A2 l2.length c2) := (hb1.cell (p := ⟨b, off + 1, none⟩) hb).trans x1
  have s1 := hb1.size
  clear x0 x1 x0' hgr
  go_wp2_with fail
  refine wp_loop_rounds 3 ?_
  rw [rounds_succ]
  go_wp2_with (at_builtin; refine wpList_app _ rfl bytesE rfl rfl own1 rfl (h1.below (hb1.mono hB)) (bv_one _) (by simp; omega) s1 ?_; intro v2 w2 own2 hg2 hbb2 _)
  have hb2 := hb1.trans hbb2
  have s2 := hb2.size
  have y1 : w2.cell? ⟨b, off + 1, none⟩ = some (.slice A2 l2.length c2) := (hbb2.cell (p := ⟨b, off + 1, none⟩) hb).trans y1
  have h2' := h2.below (hb2.mono hB)
  clear y0 hg2 hbb2 own1
  rw [rounds_succ]
  go_wp2_with (at_builtin; refine wpList_app _ rfl bytesE rfl rfl own2 rfl h2' (bv_one _) (by simp; omega) s2 ?_; intro v3 w3 own3 hg3 hbb3 _)
  have hb3 := hb2.trans hbb3
  rw [rounds_succ]
  go_wp2
  go_ret
  exact ⟨v3, rfl, by simpa [OwnB] using own3, hb3⟩
end Go.Proofs.Ytmddgimadlmacaa
/-
  Ranging over a map that is an association list, whatever its elements are: what has been met, what is still to come.
-/
namespace Garner
open Go Go.RowKit

section
variable {κ : Type} {key : κ → Value}
/-- block m is a map that holds al; block r ranges over it: 'done' has been met, 'todo' is to come -/
def Rng (key : κ → Value) (w : World) (m r : Nat) (al done todo : List (κ × Value)) : Prop :=
  ∃ es clock seen, w.heap[m]? = some (.map es clock) ∧ es.toList.map pairOf = al.map (fun p => (key p.1, p.2)) ∧ (es.toList.map (·.born)).Pairwise (· < ·) ∧ (∀ e ∈ es.toList, e.born < clock) ∧
    w.heap[r]? = some (.mapIter (some m) clock seen clock) ∧ ∃ de te : List MapEntry, de.map pairOf = done.map (fun p => (key p.1, p.2)) ∧ te.map pairOf = todo.map (fun p => (key p.1, p.2)) ∧ seen.toList = de.map (·.born) ∧ (de ++ te).Perm es.toList ∧ (done ++ todo).Perm al

theorem map_split {α β γ : Type} {f : α → γ} {g : β → γ} {l : List α} {l' : List β} (h : l.map f = l'.map g) {i : Nat} {x : α} (hi : l[i]? = some x) : ∃ y, l'[i]? = some y ∧ f x = g y := by
  have h1 := congrArg (fun z => z[i]?) h
  simp only [List.getElem?_map, hi, Option.map_some] at h1
  cases hy : l'[i]? with
  | none => rw [hy] at h1; cases h1
  | some y => rw [hy] at h1; exact ⟨y, rfl, by simpa using h1⟩

theorem Rng.start {w : World} {m : Nat} {al : List (κ × Value)} (h : MapIs key w m al) {P : Program} {t k e : TypeId} (ht : P.underlying t = some (.map k e)) :
    ∃ o, (Instr.range t (.map (some m))).run P w = .ok (.pointer (some ⟨w.heap.size, 0, none⟩)) (w.alloc o) ∧ Rng key (w.alloc o) m w.heap.size al [] al := by
  obtain ⟨es, clock, h1, h2, h3, h4⟩ := h
  have hlt := (Array.getElem?_eq_some_iff.1 h1).1
  refine ⟨.mapIter (some m) clock #[] clock, by simp [Instr.range, run_underlying ht, MapKept.run_getObj_map h1, Result.andThen], es, clock, #[], (Below.heap_alloc w _ m hlt).trans h1, h2, h3, h4, Go.heap_alloc_new w _, [], es.toList, rfl, h2, rfl, by simp, by simp⟩

theorem perm_erase {α : Type} : ∀ {l : List α} {i : Nat} (h : i < l.length), (l[i] :: l.eraseIdx i).Perm l
  | x :: l, 0, _ => List.Perm.refl _
  | x :: l, i + 1, h => by
    have hi : i < l.length := by simpa using h
    have ih := perm_erase (l := l) (i := i) hi
    exact (List.Perm.swap x l[i] (l.eraseIdx i)).trans (ih.cons x)
theorem nodup_map {α β : Type} {f : α → β} {l : List α} (h : (l.map f).Nodup) : l.Nodup := List.Pairwise.of_map f (fun _ _ h e => h (e ▸ rfl)) h
theorem nodup_of_lt {l : List Nat} (h : l.Pairwise (· < ·)) : l.Nodup := h.imp (by intros; omega)

theorem Rng.left_mem {es : Array MapEntry} {seen : Array Nat} {de te : List MapEntry} (hn : (es.toList.map (·.born)).Nodup) (hs : seen.toList = de.map (·.born)) (hp : (de ++ te).Perm es.toList) (e : MapEntry) :
    e ∈ (leftOf es seen).toList ↔ e ∈ te := by
  have hn2 : ((de ++ te).map (·.born)).Nodup := (hp.map _).nodup_iff.2 hn
  rw [List.map_append, List.nodup_append] at hn2
  simp only [leftOf, Array.toList_filter, List.mem_filter, Bool.not_eq_true', Array.contains_eq_mem, decide_eq_false_iff_not]
  rw [← Array.mem_toList_iff, hs]
  constructor
  · rintro ⟨h1, h2⟩
    rcases List.mem_append.1 (hp.mem_iff.2 h1) with h | h
    · exact absurd (List.mem_map.2 ⟨e, h, rfl⟩) h2
    · exact h
  · intro h
    refine ⟨hp.mem_iff.1 (List.mem_append.2 (Or.inr h)), fun h2 => ?_⟩
    exact hn2.2.2 _ h2 _ (List.mem_map.2 ⟨e, h, rfl⟩) rfl

theorem Rng.next {w : World} {m r : Nat} {al done todo : List (κ × Value)} (h : Rng key w m r al done todo) (P : Program) (ty : TypeId) :
    (todo = [] ∧ (Instr.next (.pointer (some ⟨r, 0, none⟩)) false ty).run P w = .ok (.tuple #[.bool false]) w) ∨
    ∃ p todo' w', todo.Perm (p :: todo') ∧ (Instr.next (.pointer (some ⟨r, 0, none⟩)) false ty).run P w = .ok (.tuple #[.bool true, key p.1, p.2]) w' ∧ Rng key w' m r al (done ++ [p]) todo' ∧
      But [r] w w' ∧ w'.heap.size = w.heap.size ∧ (Instr.entry (.pointer (some ⟨r, 0, none⟩))).run P w' = .ok (.tuple #[key p.1, p.2]) w' := by
  obtain ⟨es, clock, seen, h1, h2, h3, h4, h5, de, te, g1, g2, g3, g4, g5⟩ := h
  have hn := nodup_of_lt h3
  rcases run_next_at (P := P) w ty r m clock clock seen es clock h5 h1 h4 (Nat.le_refl _) with ⟨h0, hrun⟩ | ⟨e, he, w1, hw1, hrun⟩
  · left
    refine ⟨?_, hrun⟩
    have : te = [] := by
      rcases te with _ | ⟨e, te⟩
      · rfl
      · have := (Rng.left_mem hn g3 g4 e).2 (by simp)
        have hz : (leftOf es seen) = #[] := Array.eq_empty_of_size_eq_zero h0
        rw [hz] at this
        simp at this
    subst this
    cases todo with
    | nil => rfl
    | cons p l => simp at g2
  · right
    have hte := (Rng.left_mem hn g3 g4 e).1 he
    obtain ⟨i, hi⟩ := List.mem_iff_getElem?.1 hte
    obtain ⟨p, hp, hep⟩ := map_split g2 hi
    have hil : i < todo.length := (List.getElem?_eq_some_iff.1 hp).1
    have hil' : i < te.length := (List.getElem?_eq_some_iff.1 hi).1
    have hk : e.key = key p.1 := congrArg Prod.fst hep
    have hv : e.val = p.2 := congrArg Prod.snd hep
    have hee : te[i] = e := (List.getElem?_eq_some_iff.1 hi).2
    have hpp : todo[i] = p := (List.getElem?_eq_some_iff.1 hp).2
    have hperm1 : te.Perm (e :: te.eraseIdx i) := by
      have := perm_erase hil'
      rw [hee] at this; exact this.symm
    have hperm2 : todo.Perm (p :: todo.eraseIdx i) := by
      have := perm_erase hil
      rw [hpp] at this; exact this.symm
    have hw1r : w1.heap = w.heap := by rcases hw1 with rfl | rfl <;> rfl
    have hrm : r ≠ m := by rintro rfl; rw [h1] at h5; cases h5
    have hrl : r < w.heap.size := (Array.getElem?_eq_some_iff.1 h5).1
    have hb : ∀ o : Obj, But [r] w (ChangeMaps.setBlock w1 r o) ∧ (ChangeMaps.setBlock w1 r o).heap.size = w.heap.size ∧ (ChangeMaps.setBlock w1 r o).heap[r]? = some o ∧ (ChangeMaps.setBlock w1 r o).heap[m]? = w.heap[m]? := fun o => by
      refine ⟨⟨?_, ?_, ?_, ?_, fun k _ hk => ?_⟩, ?_, ?_, ?_⟩
      · rcases hw1 with rfl | rfl <;> rfl
      · rcases hw1 with rfl | rfl <;> rfl
      · rcases hw1 with rfl | rfl <;> rfl
      · simp [ChangeMaps.setBlock, hw1r]
      · simp only [List.mem_singleton] at hk
        simp only [ChangeMaps.setBlock, hw1r, Array.getElem?_setIfInBounds]
        rw [if_neg (by omega)]
      · simp [ChangeMaps.setBlock, hw1r]
      · simp [ChangeMaps.setBlock, hw1r, hrl]
      · simp only [ChangeMaps.setBlock, hw1r, Array.getElem?_setIfInBounds]
        rw [if_neg hrm]
    obtain ⟨b1, b2, b3, b4⟩ := hb (.mapIter (some m) clock (seen.push e.born) clock)
    have hes : e ∈ es.toList := g4.mem_iff.1 (List.mem_append.2 (Or.inr hte))
    refine ⟨p, todo.eraseIdx i, _, hperm2, by rw [hrun, hk, hv], ⟨es, clock, seen.push e.born, b4.trans h1, h2, h3, h4, b3, de ++ [e], te.eraseIdx i, ?_, ?_, by simp [g3], ?_, ?_⟩, b1, b2, ?_⟩
    · rw [List.map_append, List.map_append, g1]; simp [hep]
    · rw [← eraseIdx_map', ← eraseIdx_map', g2]
    · rw [List.append_assoc]
      exact (List.Perm.append_left de hperm1.symm).trans g4
    · rw [List.append_assoc]
      exact (List.Perm.append_left done hperm2.symm).trans g5
    · have := run_entry_at (P := P) _ r m clock seen es clock e b3 (b4.trans h1) hes hn
      rw [this, hk, hv]

theorem Rng.but {S : List Nat} {w w' : World} {m r : Nat} {al done todo : List (κ × Value)} (h : Rng key w m r al done todo) (hb : But S w w') (hm : m ∉ S) (hr : r ∉ S) : Rng key w' m r al done todo := by
  obtain ⟨es, clock, seen, h1, h2, h3, h4, h5, h6⟩ := h
  exact ⟨es, clock, seen, (hb.block m (Array.getElem?_eq_some_iff.1 h1).1 hm).trans h1, h2, h3, h4, (hb.block r (Array.getElem?_eq_some_iff.1 h5).1 hr).trans h5, h6⟩
theorem Rng.is {w : World} {m r : Nat} {al done todo : List (κ × Value)} (h : Rng key w m r al done todo) : MapIs key w m al := by
  obtain ⟨es, clock, seen, h1, h2, h3, h4, _⟩ := h
  exact ⟨es, clock, h1, h2, h3, h4⟩
theorem Rng.lt {w : World} {m r : Nat} {al done todo : List (κ × Value)} (h : Rng key w m r al done todo) : m < w.heap.size ∧ r < w.heap.size ∧ m ≠ r := by
  obtain ⟨es, clock, seen, h1, h2, h3, h4, h5, _⟩ := h
  exact ⟨(Array.getElem?_eq_some_iff.1 h1).1, (Array.getElem?_eq_some_iff.1 h5).1, by rintro rfl; rw [h1] at h5; cases h5⟩
theorem Rng.left_eq {w : World} {m r : Nat} {al done todo : List (κ × Value)} (h : Rng key w m r al done todo) : w.rangeLeft m r = todo.length := by
  obtain ⟨es, clock, seen, h1, h2, h3, h4, h5, de, te, g1, g2, g3, g4, g5⟩ := h
  have hl : (leftOf es seen).toList.Perm te := by
    refine (List.perm_ext_iff_of_nodup ?_ ?_).2 (Rng.left_mem (nodup_of_lt h3) g3 g4)
    · have h0 := nodup_of_lt h3
      exact (nodup_map h0).sublist (by simp [leftOf])
    · have : (de ++ te).Nodup := g4.nodup_iff.2 (nodup_map (nodup_of_lt h3))
      exact (List.nodup_append.1 this).2.1
  have e1 := congrArg List.length g2
  simp only [List.length_map] at e1
  unfold World.rangeLeft
  simp only [h1, h5]
  rw [← e1, ← hl.length_eq, Array.length_toList]
theorem Rng.perm {w : World} {m r : Nat} {al done todo : List (κ × Value)} (h : Rng key w m r al done todo) : (done ++ todo).Perm al := by
  obtain ⟨_, _, _, _, _, _, _, _, _, _, _, _, _, _, g5⟩ := h
  exact g5
section
variable {P : Program} {ops : Array Oper} {rest : List Oper} {o : Oper} {a : Act} {w : World} {Q : Exit → Act → World → Prop}
theorem wpList_rangeM (hg : o.guard = none) (x : Operand) (t : TypeId) (hop : o.op = Op.range t x) {k e : TypeId} (ht : P.underlying t = some (.map k e)) {m : Nat} {al : List (κ × Value)} (hx : a.eval x = .map (some m)) (h : MapIs key w m al)
    (hK : ∀ ob, Rng key (w.alloc ob) m w.heap.size al [] al → wpList P ops Q rest (a.put o.dst (.pointer (some ⟨w.heap.size, 0, none⟩))) (w.alloc ob)) : wpList P ops Q (o :: rest) a w := by
  refine wpList_plain hg fun K' hK' => ?_
  obtain ⟨ob, hrun, hr⟩ := Rng.start h ht
  unfold Oper.wp
  simp [execOp, hop, hx, hrun, Result.andThen]
  exact hK' _ _ (hK ob hr)
theorem wpList_nextM (hg : o.guard = none) (it : Operand) (hop : o.op = Op.next it false) {m r : Nat} {al done todo : List (κ × Value)} (hit : a.eval it = .pointer (some ⟨r, 0, none⟩)) (h : Rng key w m r al done todo)
    (hDone : todo = [] → wpList P ops Q rest (a.put o.dst (.tuple #[.bool false])) w)
    (hMore : ∀ (p : κ × Value) (todo' : List (κ × Value)) (w' : World), todo.Perm (p :: todo') → Rng key w' m r al (done ++ [p]) todo' → But [r] w w' → w'.heap.size = w.heap.size →
      (Instr.entry (.pointer (some ⟨r, 0, none⟩))).run P w' = .ok (.tuple #[key p.1, p.2]) w' → wpList P ops Q rest (a.put o.dst (.tuple #[.bool true, key p.1, p.2])) w') : wpList P ops Q (o :: rest) a w := by
  refine wpList_plain hg fun K' hK' => ?_
  unfold Oper.wp
  rcases h.next P o.type with ⟨h0, hrun⟩ | ⟨p, todo', w', h1, hrun, h2, h3, h4, h5⟩
  · simp [execOp, hop, hit, hrun, Result.andThen]
    exact hK' _ _ (hDone h0)
  · simp [execOp, hop, hit, hrun, Result.andThen]
    exact hK' _ _ (hMore p todo' w' h1 h2 h3 h4 h5)
end
end
end Garner
