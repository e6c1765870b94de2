import Derived.Test.YtmddgimadlmacaaDoorWs45
/-! a disk of the program's and one of the document's in one memory, all of it from w0's heap on -/
namespace Go.Proofs.YtmddgimadlmacaaDoor
open Go.RowKit Garner

section
variable {w0 w w1 : World} {g mp gr fb fb' : Nat} {d d' b b' : AD}
theorem DiskA.butT {base : Nat} {S : List Nat} (h : DiskA base w g mp d) (hb : But S w w1) (hg : g ∉ S) (hm : mp ∉ S) (hS : ∀ s ∈ S, NB w s ∨ w.heap.size ≤ s) : DiskA base w1 g mp d :=
  (h.o.butT hb hg hm hS).a (fun _ h => h) h.hg h.hm (Nat.le_trans h.hb hb.size)
/-- both disks -/
structure UU (w0 w : World) (g mp gr : Nat) (d b : AD) : Prop where
  d : DiskA w0.heap.size w g mp d
  r : ∃ fb, RefD w gr fb b ∧ (∀ k ∈ [g, mp], k ∉ [gr, fb]) ∧ w0.heap.size ≤ fb
  lo : w0.heap.size ≤ gr
  b : Below w0.heap.size w0 w
theorem UU.below (h : UU w0 w g mp gr d b) (hb : Below w.heap.size w w1) : UU w0 w1 g mp gr d b := by
  obtain ⟨fb, h1, h2, h3⟩ := h.r
  exact ⟨h.d.below hb, ⟨fb, h1.below hb, h2, h3⟩, h.lo, h.b.trans (hb.mono h.b.size)⟩
theorem UU.p (h : UU w0 w g mp gr d b) (hd : DiskA w0.heap.size w1 g mp d') (hb : But [g, mp] w w1) : UU w0 w1 g mp gr d' b := by
  obtain ⟨fb, h1, h2, h3⟩ := h.r
  obtain ⟨n1, n2, _⟩ := h.d.o.nbs
  have e1 := h.d.hg; have e2 := h.d.hm
  refine ⟨hd, ⟨fb, h1.butT hb (fun hm => h2 gr hm (by simp)) (fun hm => h2 fb hm (by simp)) (fun k hk => ?_), h2, h3⟩, h.lo, h.b.trans (hb.below h.b.size (fun k hk => ?_))⟩
  · simp only [List.mem_cons, List.not_mem_nil, or_false] at hk
    rcases hk with rfl | rfl
    · exact Or.inl n1
    · exact Or.inl n2
  · have := h.lo
    simp only [List.mem_cons, List.not_mem_nil, or_false] at hk; omega
theorem UU.q (h : UU w0 w g mp gr d b) (h1 : RefD w gr fb b) (h2 : ∀ k ∈ [g, mp], k ∉ [gr, fb]) (h3 : w0.heap.size ≤ fb) (r1 : RefD w1 gr fb' b') (r2 : fb' = fb ∨ fb' = gr ∨ w.heap.size ≤ fb') (hb : But [gr, fb] w w1) : UU w0 w1 g mp gr d b' := by
  obtain ⟨_, _, n1, n2⟩ := h1.lts
  have hlt := h.d.lt
  have hlo := h.lo
  have hs := h.b.size
  refine ⟨h.d.butT hb (h2 g (by simp)) (h2 mp (by simp)) (fun k hk => ?_), ⟨fb', r1, fun k hk hm => ?_, by omega⟩, h.lo, h.b.trans (hb.below h.b.size (fun k hk => ?_))⟩
  · simp only [List.mem_cons, List.not_mem_nil, or_false] at hk
    rcases hk with rfl | rfl
    · exact Or.inl n1
    · exact Or.inl n2
  · have h5 := h2 k hk
    simp only [List.mem_cons, List.not_mem_nil, or_false] at hk hm h5
    rcases hm with hm | hm
    · exact h5 (Or.inl hm)
    · rcases r2 with e | e | e
      · exact h5 (Or.inr (hm.trans e))
      · exact h5 (Or.inl (hm.trans e))
      · rcases hk with rfl | rfl <;> omega
  · simp only [List.mem_cons, List.not_mem_nil, or_false] at hk; omega
theorem u_arm1 (n : Int) (h : UU w0 w g mp gr d b) (hn : in64 n) : Calls Tryd.prog 30 #[.pointer (some ⟨g, 0, none⟩), .int .i64 n] w fun e w1 => e = .returned (.tuple #[]) ∧ UU w0 w1 g mp gr (aArm n d) b :=
  (aArm_calls _ g mp d w n hn.1 hn.2 h.d).mono fun _ _ ⟨e1, hd, hb⟩ => ⟨e1, h.p hd hb⟩
theorem u_arm2 (n : Int) (h : UU w0 w g mp gr d b) (hn : in64 n) : Calls Tryd.prog 31 #[.pointer (some ⟨gr, 0, none⟩), .int .i64 n] w fun e w1 => e = .returned (.tuple #[]) ∧ UU w0 w1 g mp gr d (aArm n b) := by
  obtain ⟨fb, h1, h2, h3⟩ := h.r
  exact (bArm_calls gr fb b w n hn.2 h1).mono fun _ _ ⟨e1, hd, hb⟩ => ⟨e1, h.q h1 h2 h3 hd (Or.inl rfl) (hb.mono (by simp +contextual))⟩
theorem u_fill1 (x : Bool) (h : UU w0 w g mp gr d b) : Calls Tryd.prog 28 #[.pointer (some ⟨g, 0, none⟩), .bool x] w fun e w1 => e = .returned (.tuple #[]) ∧ UU w0 w1 g mp gr (aFill x d) b :=
  (aFill_calls _ g mp d w x h.d).mono fun _ _ ⟨e1, hd, hb⟩ => ⟨e1, h.p hd hb⟩
theorem u_fill2 (x : Bool) (h : UU w0 w g mp gr d b) : Calls Tryd.prog 29 #[.pointer (some ⟨gr, 0, none⟩), .bool x] w fun e w1 => e = .returned (.tuple #[]) ∧ UU w0 w1 g mp gr d (aFill x b) := by
  obtain ⟨fb, h1, h2, h3⟩ := h.r
  exact (bFill_calls gr fb b w x h1).mono fun _ _ ⟨e1, hd, hb⟩ => ⟨e1, h.q h1 h2 h3 hd (Or.inl rfl) (hb.mono (by simp +contextual))⟩
theorem u_down (h : UU w0 w g mp gr d b) : Calls Tryd.prog 37 #[.pointer (some ⟨g, 0, none⟩)] w fun e w' => e = .returned (.bool d.dn) ∧ Below w.heap.size w w' := aDown_calls _ g mp d w h.d
theorem u_off (h : UU w0 w g mp gr d b) : w.cell? ⟨gr, 2, none⟩ = some (.bool b.dn) := by
  obtain ⟨fb, h1, _⟩ := h.r
  obtain ⟨rs, h1, _⟩ := h1.ex
  obtain ⟨A, c, k1, _, _⟩ := h1.own
  exact k1.cell 2
theorem u_rst1 (keep : List Int) (A : Option Addr) (c : Nat) {wp : World} (h : UU w0 wp g mp gr d b) (hbp : Below wp.heap.size wp w) (hr : Row w w.heap.size 1 A keep.length (keep.map (Value.int .i64))) (hA : ∀ k off, A = some ⟨k, off, none⟩ → wp.heap.size ≤ k) (hkl : keep.length ≤ 140737488355328) (hkr : ∀ k ∈ keep, in64 k) (hn : d.fs.length ≤ 10) :
    Calls Tryd.prog 32 #[.pointer (some ⟨g, 0, none⟩), .slice A keep.length c] w fun e w1 => e = .returned (.tuple #[]) ∧ UU w0 w1 g mp gr (aRestart keep d) b := by
  have hlt := h.d.lt
  exact (aRestart_calls A c _ g mp d w keep (h.below hbp).d hr (fun _ k off e => by have := hA k off e; omega) hkl hkr (by omega)).mono fun _ _ ⟨e1, hd, hb⟩ => ⟨e1, (h.below hbp).p hd hb⟩
theorem u_rst2 (keep : List Int) (A : Option Addr) (c : Nat) {wp : World} (h : UU w0 wp g mp gr d b) (hbp : Below wp.heap.size wp w) (hr : Row w w.heap.size 1 A keep.length (keep.map (Value.int .i64))) (hA : ∀ k off, A = some ⟨k, off, none⟩ → wp.heap.size ≤ k) (hkl : keep.length ≤ 140737488355328) (hkr : ∀ k ∈ keep, in64 k) (hn : b.fs.length ≤ 10) :
    Calls Tryd.prog 33 #[.pointer (some ⟨gr, 0, none⟩), .slice A keep.length c] w fun e w1 => e = .returned (.tuple #[]) ∧ UU w0 w1 g mp gr d (bRestart keep b) := by
  obtain ⟨fb, h1, h2, h3⟩ := h.r
  have hlt := h1.lts
  exact (bRestart_calls gr fb b w keep A c hr (fun _ k off e => by have := hA k off e; omega) hkl hkr (h1.below hbp) (by omega)).mono fun _ _ ⟨e1, hd, hb⟩ => ⟨e1, (h.below hbp).q (h1.below hbp) h2 h3 hd (Or.inl rfl) hb⟩
theorem u_list1 (h : UU w0 w g mp gr d b) (hn : d.fs.length ≤ 10) : Calls Tryd.prog 18 #[.pointer (some ⟨g, 0, none⟩)] w fun e w' => ∃ A c, e = .returned (.tuple #[.slice A (aList d).1.length c, .int .i64 (aList d).2]) ∧ w'.ownsRow w.heap.size 9 1 (.slice A (aList d).1.length c) (aList d).1.length ((aList d).1.map strV) ∧ Below w.heap.size w w' := aList_calls _ g mp d w h.d (by omega)
theorem u_read1 (nm : Bs) (h : UU w0 w g mp gr d b) : Calls Tryd.prog 42 #[.pointer (some ⟨g, 0, none⟩), .string (nmS nm)] w fun e w' => ∃ A c, e = .returned (.tuple #[.slice A (aRead nm d).1.length c, .int .i64 (aRead nm d).2]) ∧ OwnB w' w.heap.size (.slice A (aRead nm d).1.length c) (aRead nm d).1 ∧ Below w.heap.size w w' := aRead_calls nm _ g mp d w h.d
theorem u_read2 (nm : Bs) (h : UU w0 w g mp gr d b) (hl : (nmS nm).size ≤ 140737488355328) (hn : b.fs.length ≤ 10) : Calls Tryd.prog 47 #[.pointer (some ⟨gr, 0, none⟩), .string (nmS nm)] w fun e w' => (∃ A c, e = .returned (.tuple #[.slice A (aRead nm b).1.length c, .int .i64 (aRead nm b).2]) ∧ Bytes w' w'.heap.size A (aRead nm b).1.length (aRead nm b).1 ∧ (aRead nm b).1.length ≤ c) ∧ Below w.heap.size w w' := by
  obtain ⟨fb, h1, h2, h3⟩ := h.r
  exact bRead_calls nm gr fb b w h1 hl (by omega)
theorem u_app1 (nm data : Bs) (A : Option Addr) (c B : Nat) (h : UU w0 w g mp gr d b) (hr : Bytes w B A data.length data) (hB : B ≤ w.heap.size) (hl : (fget nm d.fs).1.length + data.length ≤ 140737488355328) :
    Calls Tryd.prog 10 #[.pointer (some ⟨g, 0, none⟩), .string (nmS nm), .slice A data.length c] w fun e w1 => e = .returned (.int .i64 (aAppend nm data d).1) ∧ UU w0 w1 g mp gr (aAppend nm data d).2 b :=
  (aAppend_calls nm data A c B _ g mp d w h.d hr hB hl).mono fun _ _ ⟨e1, hd, hb⟩ => ⟨e1, h.p hd hb⟩
theorem u_app2 (nm data : Bs) (A : Option Addr) (c B : Nat) (h : UU w0 w g mp gr d b) (hn : (nmS nm).size ≤ 140737488355328) (hrl : (b.fs.length + 1) * 48 ≤ 140737488355328) (hr : Bytes w B A data.length data) (hB : B ≤ w.heap.size) (hl : (fget nm b.fs).1.length + data.length ≤ 140737488355328) :
    Calls Tryd.prog 34 #[.pointer (some ⟨gr, 0, none⟩), .string (nmS nm), .slice A data.length c] w fun e w1 => e = .returned (.int .i64 (bAppend nm data b).1) ∧ UU w0 w1 g mp gr d (bAppend nm data b).2 := by
  obtain ⟨fb, h1, h2, h3⟩ := h.r
  exact (bAppend_calls nm data A c B gr fb b w _ h1.o hn hrl hr hB hl).mono fun _ _ ⟨e1, fb', hd, hf, hb⟩ => ⟨e1, h.q h1 h2 h3 hd.toD hf hb⟩
theorem u_del1 (nm : Bs) (h : UU w0 w g mp gr d b) :
    Calls Tryd.prog 35 #[.pointer (some ⟨g, 0, none⟩), .string (nmS nm)] w fun e w1 => e = .returned (.int .i64 (aDelete nm d).1) ∧ UU w0 w1 g mp gr (aDelete nm d).2 b :=
  (aDelete_calls nm _ g mp d w h.d).mono fun _ _ ⟨e1, hd, hb⟩ => ⟨e1, h.p hd hb⟩
theorem u_del2 (nm : Bs) (h : UU w0 w g mp gr d b) (hn : (nmS nm).size ≤ 140737488355328) (hrl : b.fs.length * 48 ≤ 140737488355328) :
    Calls Tryd.prog 36 #[.pointer (some ⟨gr, 0, none⟩), .string (nmS nm)] w fun e w1 => e = .returned (.int .i64 (aDelete nm b).1) ∧ UU w0 w1 g mp gr d (aDelete nm b).2 := by
  obtain ⟨fb, h1, h2, h3⟩ := h.r
  exact (bDelete_calls nm gr fb b w h1 hn hrl).mono fun _ _ ⟨e1, fb', hd, hf, hb⟩ => ⟨e1, h.q h1 h2 h3 hd hf hb⟩
theorem u_syn1 (nm : Bs) (h : UU w0 w g mp gr d b) :
    Calls Tryd.prog 50 #[.pointer (some ⟨g, 0, none⟩), .string (nmS nm)] w fun e w1 => e = .returned (.int .i64 (aSync nm d).1) ∧ UU w0 w1 g mp gr (aSync nm d).2 b :=
  (aSync_calls nm _ g mp d w h.d).mono fun _ _ ⟨e1, hd, hb⟩ => ⟨e1, h.p hd hb⟩
theorem u_syn2 (nm : Bs) (h : UU w0 w g mp gr d b) (hn : (nmS nm).size ≤ 140737488355328) (hrl : b.fs.length ≤ 140737488355328) :
    Calls Tryd.prog 51 #[.pointer (some ⟨gr, 0, none⟩), .string (nmS nm)] w fun e w1 => e = .returned (.int .i64 (bSync nm b).1) ∧ UU w0 w1 g mp gr d (bSync nm b).2 := by
  obtain ⟨fb, h1, h2, h3⟩ := h.r
  exact (bSync_calls nm gr fb b w h1 hn hrl).mono fun _ _ ⟨e1, fb', hd, hf, hb⟩ => ⟨e1, h.q h1 h2 h3 hd hf hb⟩
/-- at the start -/
theorem UU.start {wa wb : World} (h1 : DiskA w0.heap.size wa g mp AD.new) (hb1 : Below w0.heap.size w0 wa) (h2 : RefT wb gr gr [] false false (-1)) (hg : wa.heap.size ≤ gr) (hb2 : Below wa.heap.size wa wb) : UU w0 wb g mp gr AD.new AD.new := by
  have hlt := h1.lt
  refine ⟨h1.below hb2, ⟨gr, ⟨[], h2, rfl⟩, ?_, by have := hb1.size; omega⟩, by have := hb1.size; omega, hb1.trans (hb2.mono hb1.size)⟩
  simp only [List.mem_cons, List.not_mem_nil, or_false]
  omega
end
end Go.Proofs.YtmddgimadlmacaaDoor
