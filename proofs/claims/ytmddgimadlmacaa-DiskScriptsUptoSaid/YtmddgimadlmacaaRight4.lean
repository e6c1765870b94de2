import Derived.Test.YtmddgimadlmacaaRight2
import Derived.Test.YtmddgimadlmacaaRight3
/-! garnerlaw05.right: one call on a pair -/
namespace Go.Proofs.Ytmddgimadlmacaa
open Go.RowKit Garner

section
variable {w w' : World} {v u : Value} {bs : List Nat} {p : Option AD} {g mp gr fb N : Nat} {d b : AD}
theorem Pair.below (h : Pair w v u bs p) (hb : Below w.heap.size w w') : Pair w' v u bs p := h.butT (S := []) (But.of_below hb) (fun _ _ => by simp) (by simp)
theorem Left.same (h : Pair w v u bs p) (hbd : Bd N p) (hb : Below w.heap.size w w') : Left w v u bs N w' := ⟨bs, p, h.below hb, hbd.mono, fun _ hk => Or.inl hk, But.of_below hb⟩
theorem DiskO.top {O : Nat → Prop} (h : DiskO O w g mp d) : DiskO (fun _ => True) w g mp d := h.mono fun _ _ => trivial
theorem RefO.monoR {O O' : Nat → Prop} (h : RefO O w gr fb b) (hO : ∀ k, O k → O' k) : RefO O' w gr fb b := by
  obtain ⟨rs, h1, h2⟩ := h
  exact ⟨rs, RefIs.monoO h1 hO, h2⟩
theorem mem4 {a b c d : Nat} : a ∈ [a, b, c, d] ∧ b ∈ [a, b, c, d] ∧ c ∈ [a, b, c, d] ∧ d ∈ [a, b, c, d] := by simp
/-- the document's part, behind the program's -/
theorem half (h2 : RefD w gr fb b) (h4 : ∀ k ∈ [g, mp], k ∉ [gr, fb]) (hgm : NB w g ∧ NB w mp) (hb : But [g, mp] w w') : RefD w' gr fb b :=
  h2.butT hb (fun hm => h4 gr hm (by simp)) (fun hm => h4 fb hm (by simp)) (fun k hk => by
    simp only [List.mem_cons, List.not_mem_nil, or_false] at hk
    rcases hk with rfl | rfl
    · exact Or.inl hgm.1
    · exact Or.inl hgm.2)
/-- the program's part, behind the document's -/
theorem half' {O : Nat → Prop} (h1 : DiskO O w g mp d) (h4 : ∀ k ∈ [g, mp], k ∉ [gr, fb]) (hn : NB w gr ∧ NB w fb) (hb : But [gr, fb] w w') : DiskO O w' g mp d :=
  h1.butT hb (h4 g (by simp)) (h4 mp (by simp)) (fun k hk => by
    simp only [List.mem_cons, List.not_mem_nil, or_false] at hk
    rcases hk with rfl | rfl
    · exact Or.inl hn.1
    · exact Or.inl hn.2)
/-- both have done the same -/
theorem Left.both {fb' : Nat} {d' b' : AD} {w1 : World} (h1 : DiskO (fun _ => True) w' g mp d') (h2 : RefD w' gr fb' b') (h3 : Sim d' b') (hbd : Bd (N + 1) (some b')) (h4 : ∀ k ∈ [g, mp], k ∉ [gr, fb]) (hlt : g < w.heap.size ∧ mp < w.heap.size)
    (hfb : fb' = fb ∨ fb' = gr ∨ w1.heap.size ≤ fb') (hs : w.heap.size ≤ w1.heap.size) (hb : But [g, mp, gr, fb] w w') :
    Left w (.pointer (some ⟨g, 0, none⟩)) (.pointer (some ⟨gr, 0, none⟩)) [g, mp, gr, fb] N w' := by
  refine ⟨[g, mp, gr, fb'], some b', .both h1 h2 h3 (fun k hk hm => ?_), hbd, fun k hk => ?_, hb⟩
  · have h5 := h4 k hk
    simp only [List.mem_cons, List.not_mem_nil, or_false] at hk hm h5
    rcases hm with hm | hm
    · exact h5 (Or.inl hm)
    · rcases hfb with e | e | e
      · exact h5 (Or.inr (hm.trans e))
      · exact h5 (Or.inl (hm.trans e))
      · rcases hk with rfl | rfl <;> omega
  · simp only [List.mem_cons, List.not_mem_nil, or_false] at hk ⊢
    rcases hk with rfl | rfl | rfl | rfl
    · exact Or.inl (Or.inl rfl)
    · exact Or.inl (Or.inr (Or.inl rfl))
    · exact Or.inl (Or.inr (Or.inr (Or.inl rfl)))
    · rcases hfb with e | e | e
      · exact Or.inl (Or.inr (Or.inr (Or.inr e)))
      · exact Or.inl (Or.inr (Or.inr (Or.inl e)))
      · exact Or.inr (by omega)
theorem but2 {x y : Nat} {S : List Nat} (hb : But [x, y] w w') (hx : x ∈ S) (hy : y ∈ S) : But S w w' := hb.mono fun k hk => by
  simp only [List.mem_cons, List.not_mem_nil, or_false] at hk
  rcases hk with rfl | rfl
  · exact hx
  · exact hy
theorem nb_but {S : List Nat} {k : Nat} (h : NB w k) (hk : k < w.heap.size) (hb : But S w w') (hS : k ∉ S) : NB w' k := h.but hb hk hS
theorem vRight_nil (o : OpD) (w : World) (hki : o.kind = 1 ∨ o.kind = 2 ∨ o.kind = 3 ∨ o.kind = 4 ∨ o.kind = 5 ∨ o.kind = 6 ∨ o.kind = 7 ∨ o.kind = 8 ∨ o.kind = 9 ∨ (o.kind < 1 ∨ 9 < o.kind)) (B : Nat) (hB : B ≤ w.heap.size) (hok : OpOk w B o) :
    Calls Try.prog 32 #[.pointer none, .pointer none, .agg (opCells o).toArray] w fun e w' => e = .returned (.bool true) ∧ Below w.heap.size w w' := by
  have fin : ∀ {e : Ending} {w' : World} {G : Prop}, (e = .returned (.bool true) ∧ G ∧ But [] w w') → e = .returned (.bool true) ∧ Below w.heap.size w w' := fun h => ⟨h.1, h.2.2.below (Nat.le_refl _) (by simp)⟩
  rcases hki with hk | hk | hk | hk | hk | hk | hk | hk | hk | hk
  · exact (right_1 _ _ o 2 B [] w (fun _ _ => True) (fun _ _ => True) (fun _ => True) hk (by simp) hB hok
      (fun X A c _ _ => (pAppendNil _ _ _ _ X).mono fun e w1 ⟨h1, h2⟩ => ⟨h1, But.of_below h2, trivial⟩)
      (fun n w1 _ _ _ => (rAppendNil _ _ _ _ w1).mono fun e w2 ⟨h1, h2⟩ => ⟨h1, by rw [h2]; exact But.refl _ _, trivial⟩) (fun _ _ _ _ _ _ _ _ => trivial)).mono fun e w' h => fin h
  · exact (right_2 _ _ o 2 [] w (fun _ => True) (fun _ => True) hk (by simp)
      (fun X _ => (pSyncNil _ X).mono fun e w1 ⟨h1, h2⟩ => ⟨h1, But.of_below h2, trivial⟩)
      (fun w1 _ => (rSyncNil _ w1).mono fun e w2 ⟨h1, h2⟩ => ⟨h1, by rw [h2]; exact But.refl _ _, trivial⟩)).mono fun e w' h => fin h
  · exact (right_3 _ _ o 2 [] w (fun _ => True) (fun _ => True) hk (by simp)
      (fun X _ => (pRenameNil _ _ X).mono fun e w1 ⟨h1, h2⟩ => ⟨h1, But.of_below h2, trivial⟩)
      (fun w1 _ => (rRenameNil _ _ w1).mono fun e w2 ⟨h1, h2⟩ => ⟨h1, by rw [h2]; exact But.refl _ _, trivial⟩)).mono fun e w' h => fin h
  · exact (right_4 _ _ o 2 [] w (fun _ => True) (fun _ => True) hk (by simp)
      (fun X _ => (pDeleteNil _ X).mono fun e w1 ⟨h1, h2⟩ => ⟨h1, But.of_below h2, trivial⟩)
      (fun w1 _ => (rDeleteNil _ w1).mono fun e w2 ⟨h1, h2⟩ => ⟨h1, by rw [h2]; exact But.refl _ _, trivial⟩)).mono fun e w' h => fin h
  · exact right_5 _ _ o 2 [] w hk (by simp)
      (fun X _ => (pReadNil _ X).mono fun e w1 ⟨h1, h2⟩ => ⟨none, 0, h1, World.ownsRow_nil _ _ _ _, h2⟩)
      (fun w1 _ => (rReadNil _ w1).mono fun e w2 ⟨h1, h2⟩ => ⟨⟨none, 0, h1, Row.none_⟩, by rw [h2]; exact Below.refl _ _⟩)
  · exact right_6 _ _ o 2 [] w hk (by simp)
      (fun X _ => (pListNil X).mono fun e w1 ⟨h1, h2⟩ => ⟨⟨none, 0, h1, Row.none_⟩, by rw [h2]; exact Below.refl _ _⟩)
      (fun w1 _ => (rListNil w1).mono fun e w2 ⟨h1, h2⟩ => ⟨⟨none, 0, h1, Row.none_⟩, by rw [h2]; exact Below.refl _ _⟩)
  · exact right_7n o w hk
  · exact right_8n o w hk
  · exact right_9n o w hk
  · exact right_0n o w hk
end
end Go.Proofs.Ytmddgimadlmacaa
/-! garnerlaw05.right: one call on a pair that is there -/
namespace Go.Proofs.Ytmddgimadlmacaa
open Go.RowKit Garner

section
variable {w X w1 w2 w' : World} {g mp gr fb fb' N B : Nat} {d b d' b' : AD} {O : Nat → Prop}
structure MidS (w w1 : World) (g mp gr fb : Nat) (d b : AD) : Prop where
  d : DiskO (fun _ => True) w1 g mp d
  r : RefD w1 gr fb b
  s : w.heap.size ≤ w1.heap.size
structure FinS (w w2 : World) (g mp gr fb : Nat) (d b : AD) : Prop where
  d : DiskO (fun _ => True) w2 g mp d
  r : ∃ fb', RefD w2 gr fb' b ∧ (fb' = fb ∨ fb' = gr ∨ w.heap.size ≤ fb')
theorem toMid (h1 : DiskO O w g mp d) (h2 : RefD w gr fb b) (h4 : ∀ k ∈ [g, mp], k ∉ [gr, fb]) (hX : Below w.heap.size w X) (hb : But [g, mp] X w1) {O' : Nat → Prop} (hd : DiskO O' w1 g mp d') : MidS w w1 g mp gr fb d' b := by
  obtain ⟨n1, n2, _⟩ := (h1.below hX).nbs
  exact ⟨hd.top, half (h2.below hX) h4 ⟨n1, n2⟩ hb, Nat.le_trans hX.size hb.size⟩
theorem toFin (h : MidS w w1 g mp gr fb d' b) (h4 : ∀ k ∈ [g, mp], k ∉ [gr, fb]) (hb : But [gr, fb] w1 w2) (hr : RefD w2 gr fb' b') (hf : fb' = fb ∨ fb' = gr ∨ w1.heap.size ≤ fb') : FinS w w2 g mp gr fb d' b' := by
  obtain ⟨_, _, n1, n2⟩ := h.r.lts
  exact ⟨half' h.d h4 ⟨n1, n2⟩ hb, fb', hr, hf.imp id (fun h' => h'.imp id (fun h'' => Nat.le_trans h.s h''))⟩
theorem FinS.left (h : FinS w w2 g mp gr fb d' b') (h3 : Sim d' b') (hbd : BdF (N + 1) b'.fs ∧ Good b'.fs) (h4 : ∀ k ∈ [g, mp], k ∉ [gr, fb]) (hlt : g < w.heap.size ∧ mp < w.heap.size) (hb : But [g, mp, gr, fb] w w2) :
    Left w (.pointer (some ⟨g, 0, none⟩)) (.pointer (some ⟨gr, 0, none⟩)) [g, mp, gr, fb] N w2 := by
  obtain ⟨fb', hr, hf⟩ := h.r
  exact Left.both (w1 := w) h.d hr h3 (Bd.mk hbd.1 hbd.2) h4 hlt hf (Nat.le_refl _) hb
theorem RefD.dnCell (h : RefD w gr fb b) : w.cell? ⟨gr, 2, none⟩ = some (.bool b.dn) := by
  obtain ⟨rs, h1, _⟩ := h.ex
  obtain ⟨A, c, k1, _, _⟩ := h1.own
  exact k1.cell 2
theorem DiskO.z (h : DiskO O w g mp d) : DiskA 0 w g mp d := h.a (fun _ _ => Nat.zero_le _) (Nat.zero_le _) (Nat.zero_le _) (Nat.zero_le _)
theorem DiskA.top {base : Nat} (h : DiskA base w g mp d) : DiskO (fun _ => True) w g mp d := h.o.mono fun _ _ => trivial
theorem BdF.len48 (h : BdF N b.fs) (hN : N ≤ 1048576) : (b.fs.length + 1) * 48 ≤ 140737488355328 ∧ b.fs.length * 48 ≤ 140737488355328 ∧ b.fs.length ≤ 140737488355328 ∧ b.fs.length * 16 ≤ 140737488351232 := by
  have := h.len; omega
theorem BdF.file48 (h : BdF N b.fs) (hN : N ≤ 1048576) (nm : Bs) : (fget nm b.fs).1.length ≤ 1099511627776 := by
  have h1 := h.get nm
  have h2 : N * 1048576 ≤ 1048576 * 1048576 := Nat.mul_le_mul_right _ hN
  have h3 : 1048576 * 1048576 = 1099511627776 := by decide
  omega
theorem BdF.read (h : BdF N b.fs) (hN : N ≤ 1048576) (nm : Bs) : (aRead nm b).1.length ≤ 1099511627776 := by
  have h0 := h.file48 hN nm
  unfold aRead
  split
  · simp
  · cases hg : aget nm b.fs with
    | none => simp
    | some f =>
      unfold fget at h0
      rw [hg] at h0
      exact h0
/-- the pair behind Append, its files' bytes apart from the call's own row -/
structure FinA (n : Nat) (w w2 : World) (g mp gr fb : Nat) (d b : AD) : Prop where
  d : DiskO (fun k => k < w.heap.size ∨ n ≤ k) w2 g mp d
  r : ∃ fb', RefO (fun k => k < w.heap.size ∨ n ≤ k) w2 gr fb' b ∧ (fb' = fb ∨ fb' = gr ∨ n ≤ fb')
  s : w.heap.size ≤ n
structure MidA (n : Nat) (w w1 : World) (g mp gr fb : Nat) (d b : AD) : Prop where
  d : DiskO (fun k => k < w.heap.size ∨ n ≤ k) w1 g mp d
  r : RefO (fun k => k < w.heap.size ∨ n ≤ k) w1 gr fb b
  s : w.heap.size ≤ n
  t : n ≤ w1.heap.size
theorem FinA.wr {n q : Nat} {w3 : World} (h : FinA n w w2 g mp gr fb d b) (hq1 : w.heap.size ≤ q) (hq2 : q < n) (hb : But [q] w2 w3) (hlt : ∀ k ∈ [g, mp, gr, fb], k < w.heap.size) : FinS w w3 g mp gr fb d b := by
  obtain ⟨fb', hr, hf⟩ := h.r
  have hg := hlt g (by simp); have hm := hlt mp (by simp); have hgr := hlt gr (by simp); have hfb := hlt fb (by simp)
  have hs := h.s
  refine ⟨(h.d.but hb (by simp only [List.mem_cons, List.not_mem_nil, or_false]; omega) (by simp only [List.mem_cons, List.not_mem_nil, or_false]; omega) (fun k hk _ => by simp only [List.mem_cons, List.not_mem_nil, or_false]; omega)).top, fb', (hr.but hb (by simp only [List.mem_cons, List.not_mem_nil, or_false]; omega) (by simp only [List.mem_cons, List.not_mem_nil, or_false]; omega) (fun k hk _ => by simp only [List.mem_cons, List.not_mem_nil, or_false]; omega)).toD, by omega⟩
variable (o : OpD)
theorem vRight_both (h1 : DiskO (fun _ => True) w g mp d) (h2 : RefD w gr fb b) (h3 : Sim d b) (h4 : ∀ k ∈ [g, mp], k ∉ [gr, fb]) (hbd : Bd N (some b)) (hN : N ≤ 1048576) (hok : OpOk w B o) (hBs : ∀ k ∈ [g, mp, gr, fb], B ≤ k) (hB : B ≤ w.heap.size)
    (hki : o.kind = 1 ∨ o.kind = 2 ∨ o.kind = 3 ∨ o.kind = 4 ∨ o.kind = 5 ∨ o.kind = 6 ∨ o.kind = 7 ∨ o.kind = 8 ∨ o.kind = 9 ∨ (o.kind < 1 ∨ 9 < o.kind)) :
    Calls Try.prog 32 #[.pointer (some ⟨g, 0, none⟩), .pointer (some ⟨gr, 0, none⟩), .agg (opCells o).toArray] w fun e w' => e = .returned (.bool true) ∧ Left w (.pointer (some ⟨g, 0, none⟩)) (.pointer (some ⟨gr, 0, none⟩)) [g, mp, gr, fb] N w' := by
  obtain ⟨hbf, hgood⟩ := hbd b rfl
  obtain ⟨l1, l2, l3, l4⟩ := hbf.len48 hN
  have hlg := h1.ltg
  obtain ⟨r1, r2, r3, r4⟩ := h2.lts
  have hlt : ∀ k ∈ [g, mp, gr, fb], k < w.heap.size := fun k hk => by
    simp only [List.mem_cons, List.not_mem_nil, or_false] at hk
    rcases hk with rfl | rfl | rfl | rfl
    · exact hlg.1
    · exact hlg.2
    · exact r1
    · exact r2
  have hbs : ∀ k ∈ [g, mp, gr, fb], B ≤ k ∧ k < w.heap.size := fun k hk => ⟨hBs k hk, hlt k hk⟩
  have hal : (nmS o.a).size ≤ 140737488355328 := by have := hok.al; omega
  have hbl : (nmS o.b).size ≤ 140737488355328 := by have := hok.bl; omega
  have hdl := hok.dl
  have up : ∀ {v v' : World}, But [g, mp] v v' → But [g, mp, gr, fb] v v' := fun h => h.mono (by simp +contextual)
  have un : ∀ {v v' : World}, But [gr, fb] v v' → But [g, mp, gr, fb] v v' := fun h => h.mono (by simp +contextual)
  have dd : ∀ nm, (fget nm d.fs).1.length ≤ 1099511627776 := fun nm => by
    have := hbf.file48 hN nm
    unfold fget at this ⊢
    rw [h3.get]; exact this
  rcases hki with hk | hk | hk | hk | hk | hk | hk | hk | hk | hk
  · obtain ⟨s1, s2⟩ := h3.append o.a o.data
    refine (right_1 _ _ o (bAppend o.a o.data b).1 B _ w (fun n w1 => MidA n w w1 g mp gr fb (aAppend o.a o.data d).2 b) (fun n w2 => FinA n w w2 g mp gr fb (aAppend o.a o.data d).2 (bAppend o.a o.data b).2) (fun w3 => FinS w w3 g mp gr fb (aAppend o.a o.data d).2 (bAppend o.a o.data b).2) hk hbs hB hok ?_ ?_ ?_).mono fun e w' h => ⟨h.1, h.2.1.left s2 ⟨hbf.app o.a hdl, hgood.append o.a o.data⟩ h4 hlg h.2.2⟩
    · intro X A c hX hr
      obtain ⟨n1, n2, _⟩ := (h1.below hX).nbs
      refine (oAppend_calls o.a o.data A c X.heap.size g mp d _ X (h1.lt.below hX) hr (Nat.le_refl _) (by have := dd o.a; omega)).mono fun e w1 ⟨e1, hd, hb⟩ => ⟨by rw [e1, s1], up hb, ?_⟩
      exact ⟨hd.mono (fun k hk => hk.imp (fun h => h.2) id), ((h2.o.butT (S := []) (But.of_below hX) (by simp) (by simp) (by simp)).butT hb (fun hm => h4 gr hm (by simp)) (fun hm => h4 fb hm (by simp)) (fun k hk => by
        simp only [List.mem_cons, List.not_mem_nil, or_false] at hk
        rcases hk with rfl | rfl
        · exact Or.inl n1
        · exact Or.inl n2)).monoR (fun k hk => Or.inl hk), hX.size, hb.size⟩
    · intro n w1 hm hB1 hr
      obtain ⟨_, _, n1, n2⟩ := hm.r.toD.lts
      refine (bAppend_calls o.a o.data o.A o.c B gr fb b w1 _ hm.r hal l1 hr hB1 (by have := hbf.file48 hN o.a; omega)).mono fun e w2 ⟨e1, fb', hd, hf, hb⟩ => ⟨e1, un hb, ?_⟩
      exact ⟨half' hm.d h4 ⟨n1, n2⟩ hb, ⟨fb', hd.monoR (fun k hk => by have := hm.t; omega), by have := hm.t; omega⟩, hm.s⟩
    · intro n w2 w3 q hf hq1 hq2 hb
      exact hf.wr hq1 hq2 hb hlt
  · obtain ⟨s1, s2⟩ := h3.sync o.a
    refine (right_2 _ _ o (bSync o.a b).1 _ w (fun w1 => MidS w w1 g mp gr fb (aSync o.a d).2 b) (fun w2 => FinS w w2 g mp gr fb (aSync o.a d).2 (bSync o.a b).2) hk hlt ?_ ?_).mono fun e w' h => ⟨h.1, h.2.1.left s2 ⟨hbf.sync o.a, hgood.sync o.a⟩ h4 hlg h.2.2⟩
    · intro X hX
      exact (oSync_calls o.a g mp d _ X (h1.below hX)).mono fun e w1 ⟨e1, hd, hb⟩ => ⟨by rw [e1, s1], up hb, toMid h1 h2 h4 hX hb hd⟩
    · intro w1 hm
      exact (bSync_calls o.a gr fb b w1 hm.r hal l3).mono fun e w2 ⟨e1, fb', hd, hf, hb⟩ => ⟨e1, un hb, toFin hm h4 hb hd hf⟩
  · obtain ⟨s1, s2⟩ := h3.rename o.a o.b
    refine (right_3 _ _ o (bRename o.a o.b b).1 _ w (fun w1 => MidS w w1 g mp gr fb (aRename o.a o.b d).2 b) (fun w2 => FinS w w2 g mp gr fb (aRename o.a o.b d).2 (bRename o.a o.b b).2) hk hlt ?_ ?_).mono fun e w' h => ⟨h.1, h.2.1.left s2 ⟨hbf.rename o.a o.b, hgood.rename h3.asc o.a o.b⟩ h4 hlg h.2.2⟩
    · intro X hX
      exact (oRename_calls o.a o.b g mp d _ X (h1.below hX)).mono fun e w1 ⟨e1, hd, hb⟩ => ⟨by rw [e1, s1], up hb, toMid h1 h2 h4 hX hb hd⟩
    · intro w1 hm
      exact (bRename_calls o.a o.b gr fb b w1 hm.r hal hbl l1).mono fun e w2 ⟨e1, fb', hd, hf, hb⟩ => ⟨e1, un hb, toFin hm h4 hb hd hf⟩
  · obtain ⟨s1, s2⟩ := h3.delete o.a
    refine (right_4 _ _ o (aDelete o.a b).1 _ w (fun w1 => MidS w w1 g mp gr fb (aDelete o.a d).2 b) (fun w2 => FinS w w2 g mp gr fb (aDelete o.a d).2 (aDelete o.a b).2) hk hlt ?_ ?_).mono fun e w' h => ⟨h.1, h.2.1.left s2 ⟨hbf.delete o.a, hgood.delete h3.asc o.a⟩ h4 hlg h.2.2⟩
    · intro X hX
      exact (oDelete_calls o.a g mp d _ X (h1.below hX)).mono fun e w1 ⟨e1, hd, hb⟩ => ⟨by rw [e1, s1], up hb, toMid h1 h2 h4 hX hb hd⟩
    · intro w1 hm
      exact (bDelete_calls o.a gr fb b w1 hm.r hal l2).mono fun e w2 ⟨e1, fb', hd, hf, hb⟩ => ⟨e1, un hb, toFin hm h4 hb hd hf⟩
  · have hrd := h3.read o.a
    have hrl := hbf.read hN o.a
    refine (right_5 _ _ o (aRead o.a b).2 (aRead o.a b).1 w hk (by omega) ?_ ?_).mono fun e w' h => ⟨h.1, Left.same (.both h1 h2 h3 h4) hbd h.2⟩
    · intro X hX
      have := aRead_calls o.a 0 g mp d X (h1.below hX).z
      rw [hrd] at this
      exact this
    · intro w1 hb1
      exact (bRead_calls o.a gr fb b w1 (h2.below hb1) hal l3)
  · refine (right_6 _ _ o (bList b).2 (bList b).1 w hk (by unfold bList; split <;> simp; omega) ?_ ?_).mono fun e w' h => ⟨h.1, Left.same (.both h1 h2 h3 h4) hbd h.2⟩
    · intro X hX
      have := aList_calls 0 g mp d X (h1.below hX).z (by rw [h3.len]; exact l4)
      rw [h3.list] at this
      exact this.mono fun e w1 ⟨A, c, e1, ho, hb⟩ => ⟨⟨A, c, e1, Row.of_own ho⟩, hb⟩
    · intro w1 hb1
      exact (bList_calls gr fb b w1 (h2.below hb1) l4).mono fun e w2 ⟨⟨A, c, e1, ho⟩, hb⟩ => ⟨⟨A, c, e1, Row.of_own ho⟩, hb⟩
  · refine (right_7 _ gr o B _ b.dn w (fun x w1 => MidS w w1 g mp gr fb (aFill x d) b) (fun x w2 => FinS w w2 g mp gr fb (aFill x d) (aFill x b) ∧ RefD w2 gr fb (aFill x b)) hk hbs (by simp) hB hok ?_ ?_ ?_).mono fun e w' h => ?_
    · intro x X hX _
      exact (aFill_calls 0 g mp d X x (h1.below hX).z).mono fun e w1 ⟨e1, hd, hb⟩ => ⟨e1, up hb, toMid h1 h2 h4 hX hb hd.top⟩
    · intro x w1 hm _ _
      exact (bFill_calls gr fb b w1 x hm.r).mono fun e w2 ⟨e1, hd, hb⟩ => ⟨e1, un (hb.mono (by simp +contextual)), toFin hm h4 (hb.mono (by simp +contextual)) hd (Or.inl rfl), hd⟩
    · intro x w2 hf
      refine ⟨hf.2.dnCell, ?_⟩
      have := aDown_calls 0 g mp _ w2 hf.1.d.z
      rw [show (aFill x d).dn = b.dn from h3.dn] at this
      exact this
    · obtain ⟨x, w2, hf, hb2⟩ := h.2.1
      exact ⟨h.1, FinS.left ⟨hf.1.d.below hb2, fb, hf.2.below hb2, Or.inl rfl⟩ (h3.fill x) ⟨hbf.mono, hgood⟩ h4 hlg h.2.2⟩
  · refine (right_8 _ gr o B _ (aArm o.n b).dn w (fun _ w1 => MidS w w1 g mp gr fb (aArm o.n d) b) (fun _ w2 => FinS w w2 g mp gr fb (aArm o.n d) (aArm o.n b) ∧ RefD w2 gr fb (aArm o.n b)) hk hbs (by simp) hB hok ?_ ?_ ?_).mono fun e w' h => ?_
    · intro x X hX _
      exact (aArm_calls 0 g mp d X o.n hok.ni.1 hok.ni.2 (h1.below hX).z).mono fun e w1 ⟨e1, hd, hb⟩ => ⟨e1, up hb, toMid h1 h2 h4 hX hb hd.top⟩
    · intro x w1 hm _ _
      exact (bArm_calls gr fb b w1 o.n hok.ni.2 hm.r).mono fun e w2 ⟨e1, hd, hb⟩ => ⟨e1, un (hb.mono (by simp +contextual)), toFin hm h4 (hb.mono (by simp +contextual)) hd (Or.inl rfl), hd⟩
    · intro x w2 hf
      refine ⟨hf.2.dnCell, ?_⟩
      have := aDown_calls 0 g mp _ w2 hf.1.d.z
      rw [(h3.arm o.n).dn] at this
      exact this
    · obtain ⟨x, w2, hf, hb2⟩ := h.2.1
      exact ⟨h.1, FinS.left ⟨hf.1.d.below hb2, fb, hf.2.below hb2, Or.inl rfl⟩ (h3.arm o.n) ⟨hbf.arm o.n, hgood.arm o.n⟩ h4 hlg h.2.2⟩
  · have hrow : ∀ {w1 : World}, OpOk w1 B o → B ≤ w1.heap.size → Row w1 w1.heap.size 1 o.Ak o.keep.length (o.keep.map (Value.int .i64)) := fun h hb => h.keep.more hb
    have hne : ∀ {w1 : World} {p q : Nat}, OpOk w1 B o → p ∈ [g, mp, gr, fb] → q ∈ [g, mp, gr, fb] → 0 < o.keep.length → ∀ k off, o.Ak = some ⟨k, off, none⟩ → k ≠ p ∧ k ≠ q := fun {w1 p q} h hp hq h0 k off e => by
      obtain ⟨k', off', e', hk', _⟩ := h.keep.2 h0
      rw [e'] at e
      simp only [Option.some.injEq, Addr.mk.injEq, and_true] at e
      have := hBs p hp; have := hBs q hq
      omega
    have hkl := hok.kl
    refine (right_9 _ gr o B _ false w (fun _ w1 => MidS w w1 g mp gr fb (aRestart o.keep d) b) (fun _ w2 => FinS w w2 g mp gr fb (aRestart o.keep d) (bRestart o.keep b) ∧ RefD w2 gr fb (bRestart o.keep b)) hk hbs (by simp) hB hok ?_ ?_ ?_).mono fun e w' h => ?_
    · intro x X hX hokX
      exact (oRestart_calls o.Ak o.ck g mp d _ X o.keep (h1.below hX) (hrow hokX (Nat.le_trans hB hX.size)) (hne hokX (by simp) (by simp)) (by omega) hok.ks (by rw [h3.len]; exact l4)).mono fun e w1 ⟨e1, hd, hb⟩ => ⟨e1, up hb, toMid h1 h2 h4 hX hb hd⟩
    · intro x w1 hm hB1 hok1
      exact (bRestart_calls gr fb b w1 o.keep o.Ak o.ck (hrow hok1 hB1) (hne hok1 (by simp) (by simp)) (by omega) hok.ks hm.r l3).mono fun e w2 ⟨e1, hd, hb⟩ => ⟨e1, un hb, toFin hm h4 hb hd (Or.inl rfl), hd⟩
    · intro x w2 hf
      exact ⟨hf.2.dnCell, aDown_calls 0 g mp _ w2 hf.1.d.z⟩
    · obtain ⟨x, w2, hf, hb2⟩ := h.2.1
      exact ⟨h.1, FinS.left ⟨hf.1.d.below hb2, fb, hf.2.below hb2, Or.inl rfl⟩ (h3.restart o.keep) ⟨(hbf.restart o.keep).mono, hgood.restart h3.asc o.keep⟩ h4 hlg h.2.2⟩
  · refine (right_0 _ gr o b.dn w hk r1 h2.dnCell ?_).mono fun e w' h => ⟨h.1, Left.same (.both h1 h2 h3 h4) hbd h.2⟩
    intro X hX
    have := aDown_calls 0 g mp d X (h1.below hX).z
    rw [h3.dn] at this
    exact this
end
end Go.Proofs.Ytmddgimadlmacaa
/-! three pairs of disks: calls on one of them, clones, all, Restart -/
namespace Go.Proofs.Ytmddgimadlmacaa
open Go.RowKit Garner

section
variable {w w1 w2 w' : World} {v u v' : Value} {bs : List Nat} {p : Option AD} {N B : Nat} {o : OpD}
theorem kinds9 (k : Int) : k = 1 ∨ k = 2 ∨ k = 3 ∨ k = 4 ∨ k = 5 ∨ k = 6 ∨ k = 7 ∨ k = 8 ∨ k = 9 ∨ (k < 1 ∨ 9 < k) := by omega
theorem vRight (hp : Pair w v u bs p) (hbd : Bd N p) (hN : N ≤ 1048576) (hok : OpOk w B o) (hBs : ∀ k ∈ bs, B ≤ k) (hB : B ≤ w.heap.size) :
    Calls Try.prog 32 #[v, u, .agg (opCells o).toArray] w fun e w' => e = .returned (.bool true) ∧ Left w v u bs N w' := by
  cases hp with
  | nil => exact (vRight_nil o w (kinds9 _) B hB hok).mono fun e w' h => ⟨h.1, Left.same .nil hbd h.2⟩
  | both h1 h2 h3 h4 => exact vRight_both o h1 h2 h3 h4 hbd hN hok hBs hB (kinds9 _)
theorem vAll (hp : Pair w v u bs p) (hbd : Bd N p) (hN : N ≤ 1048576) :
    Calls Try.prog 33 #[v, u] w fun e w' => e = .returned (.bool true) ∧ Below w.heap.size w w' := by
  cases hp with
  | nil => exact vAllNil w
  | @both g mp gr fb d b h1 h2 h3 h4 =>
    obtain ⟨h5, h6⟩ := hbd b rfl
    cases hd : b.dn with
    | true => exact vAllDown h1 h2 h3 hd
    | false => exact vAllUp h1 h2 h3 h6 hd (h5.len48 hN).2.2.2
/-- a pair of which the program's disk was begun anew -/
inductive RMid (w : World) : Value → Value → List Nat → Option AD → Prop
  | nil : RMid w (.pointer none) (.pointer none) [] none
  | both {g mp gr fb : Nat} {d b : AD} (hd : DiskO (fun _ => True) w g mp (aRestart [] d)) (hb : RefD w gr fb b) (hs : Sim d b) (hn : ∀ k ∈ [g, mp], k ∉ [gr, fb]) : RMid w (.pointer (some ⟨g, 0, none⟩)) (.pointer (some ⟨gr, 0, none⟩)) [g, mp, gr, fb] (some b)
theorem restart1 (hp : Pair w v u bs p) (hbd : Bd N p) (hN : N ≤ 1048576) :
    Calls Try.prog 21 #[v, .slice none 0 0] w fun e w1 => e = .returned (.tuple #[]) ∧ But bs w w1 ∧ RMid w1 v u bs p := by
  cases hp with
  | nil => exact (pRestartNil _ _ _ w).mono fun e w1 ⟨h1, h2⟩ => ⟨h1, by rw [h2]; exact But.refl _ _, .nil⟩
  | @both g mp gr fb d b h1 h2 h3 h4 =>
    obtain ⟨h5, h6⟩ := hbd b rfl
    obtain ⟨n1, n2, _⟩ := h1.nbs
    refine (oRestart_calls none 0 g mp d _ w [] h1 Row.none_ (fun h => absurd h (by simp)) (by simp) (by simp) (by rw [h3.len]; exact (h5.len48 hN).2.2.2)).mono fun e w1 ⟨e1, hd, hb⟩ => ⟨e1, hb.mono (by simp +contextual), .both hd.top (half h2 h4 ⟨n1, n2⟩ hb) h3 h4⟩
theorem restart2 (hp : RMid w v u bs p) (hbd : Bd N p) (hN : N ≤ 1048576) :
    Calls Try.prog 34 #[u, .slice none 0 0] w fun e w1 => e = .returned (.tuple #[]) ∧ But bs w w1 ∧ ∃ p', Pair w1 v u bs p' ∧ Bd N p' := by
  cases hp with
  | nil => exact (rRestartNil _ _ _ w).mono fun e w1 ⟨h1, h2⟩ => ⟨h1, by rw [h2]; exact But.refl _ _, none, .nil, Bd.none _⟩
  | @both g mp gr fb d b h1 h2 h3 h4 =>
    obtain ⟨h5, h6⟩ := hbd b rfl
    obtain ⟨_, _, n1, n2⟩ := h2.lts
    refine (bRestart_calls gr fb b w [] none 0 Row.none_ (fun h => absurd h (by simp)) (by simp) (by simp) h2 (h5.len48 hN).2.2.1).mono fun e w1 ⟨e1, hd, hb⟩ => ⟨e1, hb.mono (by simp +contextual), some (bRestart [] b), .both (half' h1 h4 ⟨n1, n2⟩ hb) hd (h3.restart []) h4, Bd.mk (h5.restart []) (h6.restart h3.asc [])⟩
/-- a clone of the program's disk -/
inductive CMid (B : Nat) (w : World) : Value → Value → List Nat → Option AD → Prop
  | nil (bs : List Nat) : CMid B w (.pointer none) (.pointer none) bs none
  | both {g mp gr fb : Nat} {d b : AD} {bs : List Nat} (hd : DiskO (fun _ => True) w g mp d) (hg : B ≤ g ∧ B ≤ mp) (hb : RefD w gr fb b) (hs : Sim d b) (hm : gr ∈ bs ∧ fb ∈ bs) : CMid B w (.pointer (some ⟨g, 0, none⟩)) (.pointer (some ⟨gr, 0, none⟩)) bs (some b)
theorem clone1 (hp : Pair w v u bs p) :
    Calls Try.prog 30 #[v] w fun e w1 => ∃ v', e = .returned v' ∧ Below w.heap.size w w1 ∧ CMid w.heap.size w1 v' u bs p := by
  cases hp with
  | nil => exact (pCloneNil w).mono fun e w1 ⟨h1, h2⟩ => ⟨_, h1, by rw [h2]; exact Below.refl _ _, .nil _⟩
  | @both g mp gr fb d b h1 h2 h3 h4 =>
    refine (oClone_calls g d w _ mp h1).mono fun e w1 ⟨g', mp', fs', e1, hd, hp, hg, hm, hb⟩ => ⟨_, e1, hb, .both hd.top ⟨hg, hm⟩ (h2.below hb) (h3.clone hp) (by simp)⟩
theorem CMid.butT {S : List Nat} (h : CMid B w v' u bs p) (hb : But S w w') (hB : ∀ k ∈ S, k < B) (hu : ∀ k ∈ bs, k ∉ S) (hS : ∀ s ∈ S, NB w s ∨ w.heap.size ≤ s) : CMid B w' v' u bs p := by
  cases h with
  | nil => exact .nil _
  | both h1 h2 h3 h4 h5 =>
    exact .both (h1.butT hb (fun hm => by have := hB _ hm; omega) (fun hm => by have := hB _ hm; omega) hS) h2 (h3.butT hb (hu _ h5.1) (hu _ h5.2) hS) h4 h5
theorem clone2 (hc : CMid B w v' u bs p) (hB : B ≤ w.heap.size) (hbd : Bd N p) (hN : N ≤ 1048576) :
    Calls Try.prog 31 #[u] w fun e w1 => ∃ u' bs', e = .returned u' ∧ Below w.heap.size w w1 ∧ Pair w1 v' u' bs' p ∧ ∀ k ∈ bs', B ≤ k := by
  cases hc with
  | nil => exact (rCloneNil w).mono fun e w1 ⟨h1, h2⟩ => ⟨_, [], h1, by rw [h2]; exact Below.refl _ _, .nil, by simp⟩
  | @both g mp gr fb d b _ h1 h2 h3 h4 h5 =>
    obtain ⟨h6, _⟩ := hbd b rfl
    have hlt := h1.ltg
    refine (bClone_calls gr fb b w h3 (h6.len48 hN).2.1).mono fun e w1 ⟨gr', fb', e1, hr, hg, hf, hb⟩ => ⟨_, [g, mp, gr', fb'], e1, hb, .both (h1.below hb) hr h4 (fun k hk hm => ?_), fun k hk => ?_⟩
    · simp only [List.mem_cons, List.not_mem_nil, or_false] at hk hm; omega
    · have := hB; simp only [List.mem_cons, List.not_mem_nil, or_false] at hk; omega
/-- one of the three -/
structure Slot where
  v : Value
  u : Value
  bs : List Nat
  p : Option AD
structure SlotOk (w : World) (B H W N : Nat) (s : Slot) : Prop where
  pair : Pair w s.v s.u s.bs s.p
  bd : Bd N s.p
  lo : ∀ k ∈ s.bs, B ≤ k
  ne : H ∉ s.bs ∧ W ∉ s.bs
structure Trip (w : World) (B H W N : Nat) (L : List Slot) : Prop where
  len : L.length = 3
  have_ : Blk w H 57 (L.map Slot.v)
  want : Blk w W 60 (L.map Slot.u)
  hw : H ≠ W
  lo : B ≤ H ∧ B ≤ W
  all : ∀ s ∈ L, SlotOk w B H W N s
  apart : ∀ (i j : Nat) (s t : Slot), i ≠ j → L[i]? = some s → L[j]? = some t → ∀ k ∈ s.bs, k ∉ t.bs
section
variable {H W : Nat} {L : List Slot}
theorem Trip.below (h : Trip w B H W N L) (hb : Below w.heap.size w w') : Trip w' B H W N L :=
  ⟨h.len, h.have_.below hb h.have_.lt, h.want.below hb h.want.lt, h.hw, h.lo, fun s hs => ⟨(h.all s hs).pair.below hb, (h.all s hs).bd, (h.all s hs).lo, (h.all s hs).ne⟩, h.apart⟩
theorem Trip.more (h : Trip w B H W N L) : Trip w B H W (N + 1) L :=
  ⟨h.len, h.have_, h.want, h.hw, h.lo, fun s hs => ⟨(h.all s hs).pair, (h.all s hs).bd.mono, (h.all s hs).lo, (h.all s hs).ne⟩, h.apart⟩
theorem map_set {α β : Type} (f : α → β) (l : List α) (i : Nat) (x : α) : (l.set i x).map f = (l.map f).set i (f x) := by rw [List.map_set]
theorem set_same {α : Type} {l : List α} {i : Nat} {x : α} (h : l[i]? = some x) : l.set i x = l := by
  apply List.ext_getElem?
  intro j
  rw [List.getElem?_set]
  split
  · subst i
    split
    · exact h.symm
    · rename_i h1; rw [List.getElem?_eq_none (by omega)]
  · rfl
theorem get_set {α : Type} {l : List α} {i j : Nat} {x y : α} (h : (l.set i x)[j]? = some y) : (i = j ∧ y = x) ∨ (i ≠ j ∧ l[j]? = some y) := by
  rw [List.getElem?_set] at h
  split at h
  · rename_i e
    split at h
    · exact Or.inl ⟨e, (Option.some.inj h).symm⟩
    · cases h
  · rename_i e; exact Or.inr ⟨e, h⟩
theorem nbH (h : Trip w B H W N L) : NB w H ∧ NB w W := ⟨NB.blk h.have_ (by decide), NB.blk h.want (by decide)⟩
/-- one pair has done a call -/
theorem Trip.step {k N' : Nat} {s : Slot} {bs' : List Nat} {p' : Option AD} (h : Trip w B H W N L) (hk : L[k]? = some s) (hb : But s.bs w w') (hp : Pair w' s.v s.u bs' p') (hbd : Bd N' p') (hN : N' = N ∨ N' = N + 1) (hbs : ∀ k ∈ bs', k ∈ s.bs ∨ w.heap.size ≤ k) :
    ∃ L', Trip w' B H W N' L' := by
  have hs := h.all s (List.mem_of_getElem? hk)
  have e1 : (L.set k ⟨s.v, s.u, bs', p'⟩).map Slot.v = L.map Slot.v := by rw [map_set]; exact set_same (by rw [List.getElem?_map, hk]; rfl)
  have e2 : (L.set k ⟨s.v, s.u, bs', p'⟩).map Slot.u = L.map Slot.u := by rw [map_set]; exact set_same (by rw [List.getElem?_map, hk]; rfl)
  have hH := h.have_.lt; have hW := h.want.lt
  have hlo := h.lo
  refine ⟨L.set k ⟨s.v, s.u, bs', p'⟩, by rw [List.length_set]; exact h.len, by rw [e1]; exact h.have_.but hb hs.ne.1, by rw [e2]; exact h.want.but hb hs.ne.2, h.hw, h.lo, fun t ht => ?_, fun i j x y hij hx hy c hc hc' => ?_⟩
  · obtain ⟨j, hj⟩ := List.mem_iff_getElem?.1 ht
    rcases get_set hj with ⟨_, rfl⟩ | ⟨hne, hj⟩
    · exact ⟨hp, hbd, fun c hc => (hbs c hc).elim (hs.lo c) (fun h' => by omega), fun hc => (hbs _ hc).elim hs.ne.1 (fun h' => by omega), fun hc => (hbs _ hc).elim hs.ne.2 (fun h' => by omega)⟩
    · have ht' := h.all t (List.mem_of_getElem? hj)
      refine ⟨ht'.pair.butT hb (h.apart j k t s (Ne.symm hne) hj hk) (fun c hc => Or.inl (hs.pair.nbs c hc).1), ?_, ht'.lo, ht'.ne⟩
      rcases hN with rfl | rfl
      · exact ht'.bd
      · exact ht'.bd.mono
  · rcases get_set hx with ⟨e3, rfl⟩ | ⟨hx1, hx2⟩
    · rcases get_set hy with ⟨e4, _⟩ | ⟨hy1, hy2⟩
      · exact hij (e3.symm.trans e4)
      · rcases hbs c hc with h1 | h1
        · exact h.apart k j s y hy1 hk hy2 c h1 hc'
        · have := ((h.all y (List.mem_of_getElem? hy2)).pair.nbs c hc').2; omega
    · rcases get_set hy with ⟨e4, rfl⟩ | ⟨hy1, hy2⟩
      · rcases hbs c hc' with h1 | h1
        · exact h.apart i k x s (Ne.symm hx1) hx2 hk c hc h1
        · have := ((h.all x (List.mem_of_getElem? hx2)).pair.nbs c hc).2; omega
      · exact h.apart i j x y hij hx2 hy2 c hc hc'
/-- one pair is another one now -/
theorem Trip.put {k A : Nat} {v1 u1 : Value} {bs1 : List Nat} {p1 : Option AD} (h : Trip w B H W N L) (hb : But [H, W] w w') (hH : Blk w' H 57 ((L.map Slot.v).set k v1)) (hW : Blk w' W 60 ((L.map Slot.u).set k u1))
    (hp : Pair w' v1 u1 bs1 p1) (hbd : Bd N p1) (hA : w.heap.size ≤ A) (hbs : ∀ c ∈ bs1, A ≤ c) : Trip w' B H W N (L.set k ⟨v1, u1, bs1, p1⟩) := by
  have hHl := h.have_.lt; have hWl := h.want.lt; have hlo := h.lo
  have hn := nbH h
  refine ⟨by rw [List.length_set]; exact h.len, by rw [map_set]; exact hH, by rw [map_set]; exact hW, h.hw, h.lo, fun t ht => ?_, fun i j x y hij hx hy c hc hc' => ?_⟩
  · obtain ⟨j, hj⟩ := List.mem_iff_getElem?.1 ht
    rcases get_set hj with ⟨_, rfl⟩ | ⟨hne, hj⟩
    · exact ⟨hp, hbd, fun c hc => by have := hbs c hc; omega, fun hc => by have := hbs _ hc; omega, fun hc => by have := hbs _ hc; omega⟩
    · have ht' := h.all t (List.mem_of_getElem? hj)
      refine ⟨ht'.pair.butT hb (fun c hc hm => ?_) (fun c hc => ?_), ht'.bd, ht'.lo, ht'.ne⟩
      · simp only [List.mem_cons, List.not_mem_nil, or_false] at hm
        rcases hm with rfl | rfl
        · exact ht'.ne.1 hc
        · exact ht'.ne.2 hc
      · simp only [List.mem_cons, List.not_mem_nil, or_false] at hc
        rcases hc with rfl | rfl
        · exact Or.inl hn.1
        · exact Or.inl hn.2
  · rcases get_set hx with ⟨e3, rfl⟩ | ⟨hx1, hx2⟩
    · rcases get_set hy with ⟨e4, _⟩ | ⟨hy1, hy2⟩
      · exact hij (e3.symm.trans e4)
      · have := ((h.all y (List.mem_of_getElem? hy2)).pair.nbs c hc').2; have := hbs c hc; omega
    · rcases get_set hy with ⟨e4, rfl⟩ | ⟨hy1, hy2⟩
      · have := ((h.all x (List.mem_of_getElem? hx2)).pair.nbs c hc).2; have := hbs c hc'; omega
      · exact h.apart i j x y hij hx2 hy2 c hc hc'
end
end
end Go.Proofs.Ytmddgimadlmacaa
