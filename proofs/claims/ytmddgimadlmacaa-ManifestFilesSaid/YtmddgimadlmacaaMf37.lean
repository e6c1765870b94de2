import Derived.Test.YtmddgimadlmacaaMf35
import Derived.Test.YtmddgimadlmacaaMf03
import Derived.Test.YtmddgimadlmacaaMf08
import Derived.Test.YtmddgimadlmacaaMf36
import Derived.Deep.DeepCutAuto
import Derived.Deep.CutRange
/-! a disk of the program's and one of the document's in one memory, all of it from w0's heap on -/
namespace Go.Proofs.Ytmddgimadlmacaa
open Go.RowKit Garner

section
variable {w0 w w1 : World} {g mp gr fb fb' : Nat} {d d' b b' : AD}
theorem DiskA.butT {base : Nat} {S : List Nat} (h : DiskA base w g mp d) (hb : But S w w1) (hg : g ∉ S) (hm : mp ∉ S) (hS : ∀ s ∈ S, NB w s ∨ w.heap.size ≤ s) : DiskA base w1 g mp d :=
  (h.o.butT hb hg hm hS).a (fun _ h => h) h.hg h.hm (Nat.le_trans h.hb hb.size)
/-- both disks -/
structure UU (w0 w : World) (g mp gr : Nat) (d b : AD) : Prop where
  d : DiskA w0.heap.size w g mp d
  r : ∃ fb, RefD w gr fb b ∧ (∀ k ∈ [g, mp], k ∉ [gr, fb]) ∧ w0.heap.size ≤ fb
  lo : w0.heap.size ≤ gr
  b : Below w0.heap.size w0 w
theorem UU.below (h : UU w0 w g mp gr d b) (hb : Below w.heap.size w w1) : UU w0 w1 g mp gr d b := by
  obtain ⟨fb, h1, h2, h3⟩ := h.r
  exact ⟨h.d.below hb, ⟨fb, h1.below hb, h2, h3⟩, h.lo, h.b.trans (hb.mono h.b.size)⟩
theorem UU.p (h : UU w0 w g mp gr d b) (hd : DiskA w0.heap.size w1 g mp d') (hb : But [g, mp] w w1) : UU w0 w1 g mp gr d' b := by
  obtain ⟨fb, h1, h2, h3⟩ := h.r
  obtain ⟨n1, n2, _⟩ := h.d.o.nbs
  have e1 := h.d.hg; have e2 := h.d.hm
  refine ⟨hd, ⟨fb, h1.butT hb (fun hm => h2 gr hm (by simp)) (fun hm => h2 fb hm (by simp)) (fun k hk => ?_), h2, h3⟩, h.lo, h.b.trans (hb.below h.b.size (fun k hk => ?_))⟩
  · simp only [List.mem_cons, List.not_mem_nil, or_false] at hk
    rcases hk with rfl | rfl
    · exact Or.inl n1
    · exact Or.inl n2
  · have := h.lo
    simp only [List.mem_cons, List.not_mem_nil, or_false] at hk; omega
theorem UU.q (h : UU w0 w g mp gr d b) (h1 : RefD w gr fb b) (h2 : ∀ k ∈ [g, mp], k ∉ [gr, fb]) (h3 : w0.heap.size ≤ fb) (r1 : RefD w1 gr fb' b') (r2 : fb' = fb ∨ fb' = gr ∨ w.heap.size ≤ fb') (hb : But [gr, fb] w w1) : UU w0 w1 g mp gr d b' := by
  obtain ⟨_, _, n1, n2⟩ := h1.lts
  have hlt := h.d.lt
  have hlo := h.lo
  have hs := h.b.size
  refine ⟨h.d.butT hb (h2 g (by simp)) (h2 mp (by simp)) (fun k hk => ?_), ⟨fb', r1, fun k hk hm => ?_, by omega⟩, h.lo, h.b.trans (hb.below h.b.size (fun k hk => ?_))⟩
  · simp only [List.mem_cons, List.not_mem_nil, or_false] at hk
    rcases hk with rfl | rfl
    · exact Or.inl n1
    · exact Or.inl n2
  · have h5 := h2 k hk
    simp only [List.mem_cons, List.not_mem_nil, or_false] at hk hm h5
    rcases hm with hm | hm
    · exact h5 (Or.inl hm)
    · rcases r2 with e | e | e
      · exact h5 (Or.inr (hm.trans e))
      · exact h5 (Or.inl (hm.trans e))
      · rcases hk with rfl | rfl <;> omega
  · simp only [List.mem_cons, List.not_mem_nil, or_false] at hk; omega
theorem u_arm1 (n : Int) (h : UU w0 w g mp gr d b) (hn : in64 n) : Calls Try.prog 23 #[.pointer (some ⟨g, 0, none⟩), .int .i64 n] w fun e w1 => e = .returned (.tuple #[]) ∧ UU w0 w1 g mp gr (aArm n d) b :=
  (aArm_calls _ g mp d w n hn.1 hn.2 h.d).mono fun _ _ ⟨e1, hd, hb⟩ => ⟨e1, h.p hd hb⟩
theorem u_arm2 (n : Int) (h : UU w0 w g mp gr d b) (hn : in64 n) : Calls Try.prog 36 #[.pointer (some ⟨gr, 0, none⟩), .int .i64 n] w fun e w1 => e = .returned (.tuple #[]) ∧ UU w0 w1 g mp gr d (aArm n b) := by
  obtain ⟨fb, h1, h2, h3⟩ := h.r
  exact (bArm_calls gr fb b w n hn.2 h1).mono fun _ _ ⟨e1, hd, hb⟩ => ⟨e1, h.q h1 h2 h3 hd (Or.inl rfl) (hb.mono (by simp +contextual))⟩
theorem u_fill1 (x : Bool) (h : UU w0 w g mp gr d b) : Calls Try.prog 27 #[.pointer (some ⟨g, 0, none⟩), .bool x] w fun e w1 => e = .returned (.tuple #[]) ∧ UU w0 w1 g mp gr (aFill x d) b :=
  (aFill_calls _ g mp d w x h.d).mono fun _ _ ⟨e1, hd, hb⟩ => ⟨e1, h.p hd hb⟩
theorem u_fill2 (x : Bool) (h : UU w0 w g mp gr d b) : Calls Try.prog 37 #[.pointer (some ⟨gr, 0, none⟩), .bool x] w fun e w1 => e = .returned (.tuple #[]) ∧ UU w0 w1 g mp gr d (aFill x b) := by
  obtain ⟨fb, h1, h2, h3⟩ := h.r
  exact (bFill_calls gr fb b w x h1).mono fun _ _ ⟨e1, hd, hb⟩ => ⟨e1, h.q h1 h2 h3 hd (Or.inl rfl) (hb.mono (by simp +contextual))⟩
theorem u_down (h : UU w0 w g mp gr d b) : Calls Try.prog 25 #[.pointer (some ⟨g, 0, none⟩)] w fun e w' => e = .returned (.bool d.dn) ∧ Below w.heap.size w w' := aDown_calls _ g mp d w h.d
theorem u_off (h : UU w0 w g mp gr d b) : w.cell? ⟨gr, 2, none⟩ = some (.bool b.dn) := by
  obtain ⟨fb, h1, _⟩ := h.r
  obtain ⟨rs, h1, _⟩ := h1.ex
  obtain ⟨A, c, k1, _, _⟩ := h1.own
  exact k1.cell 2
theorem u_rst1 (keep : List Int) (A : Option Addr) (c : Nat) {wp : World} (h : UU w0 wp g mp gr d b) (hbp : Below wp.heap.size wp w) (hr : Row w w.heap.size 1 A keep.length (keep.map (Value.int .i64))) (hA : ∀ k off, A = some ⟨k, off, none⟩ → wp.heap.size ≤ k) (hkl : keep.length ≤ 140737488355328) (hkr : ∀ k ∈ keep, in64 k) (hn : d.fs.length ≤ 10) :
    Calls Try.prog 21 #[.pointer (some ⟨g, 0, none⟩), .slice A keep.length c] w fun e w1 => e = .returned (.tuple #[]) ∧ UU w0 w1 g mp gr (aRestart keep d) b := by
  have hlt := h.d.lt
  exact (aRestart_calls A c _ g mp d w keep (h.below hbp).d hr (fun _ k off e => by have := hA k off e; omega) hkl hkr (by omega)).mono fun _ _ ⟨e1, hd, hb⟩ => ⟨e1, (h.below hbp).p hd hb⟩
theorem u_rst2 (keep : List Int) (A : Option Addr) (c : Nat) {wp : World} (h : UU w0 wp g mp gr d b) (hbp : Below wp.heap.size wp w) (hr : Row w w.heap.size 1 A keep.length (keep.map (Value.int .i64))) (hA : ∀ k off, A = some ⟨k, off, none⟩ → wp.heap.size ≤ k) (hkl : keep.length ≤ 140737488355328) (hkr : ∀ k ∈ keep, in64 k) (hn : b.fs.length ≤ 10) :
    Calls Try.prog 34 #[.pointer (some ⟨gr, 0, none⟩), .slice A keep.length c] w fun e w1 => e = .returned (.tuple #[]) ∧ UU w0 w1 g mp gr d (bRestart keep b) := by
  obtain ⟨fb, h1, h2, h3⟩ := h.r
  have hlt := h1.lts
  exact (bRestart_calls gr fb b w keep A c hr (fun _ k off e => by have := hA k off e; omega) hkl hkr (h1.below hbp) (by omega)).mono fun _ _ ⟨e1, hd, hb⟩ => ⟨e1, (h.below hbp).q (h1.below hbp) h2 h3 hd (Or.inl rfl) hb⟩
theorem u_list1 (h : UU w0 w g mp gr d b) (hn : d.fs.length ≤ 10) : Calls Try.prog 26 #[.pointer (some ⟨g, 0, none⟩)] w fun e w' => ∃ A c, e = .returned (.tuple #[.slice A (aList d).1.length c, .int .i64 (aList d).2]) ∧ w'.ownsRow w.heap.size 9 1 (.slice A (aList d).1.length c) (aList d).1.length ((aList d).1.map strV) ∧ Below w.heap.size w w' := aList_calls _ g mp d w h.d (by omega)
theorem u_list2 (h : UU w0 w g mp gr d b) (hn : b.fs.length ≤ 10) : Calls Try.prog 42 #[.pointer (some ⟨gr, 0, none⟩)] w fun e w' => (∃ A c, e = .returned (.tuple #[.slice A (bList b).1.length c, .int .i64 (bList b).2]) ∧ w'.ownsRow w.heap.size 9 1 (.slice A (bList b).1.length c) (bList b).1.length ((bList b).1.map strV)) ∧ Below w.heap.size w w' := by
  obtain ⟨fb, h1, h2, h3⟩ := h.r
  exact bList_calls gr fb b w h1 (by omega)
theorem u_read1 (nm : Bs) (h : UU w0 w g mp gr d b) : Calls Try.prog 22 #[.pointer (some ⟨g, 0, none⟩), .string (nmS nm)] w fun e w' => ∃ A c, e = .returned (.tuple #[.slice A (aRead nm d).1.length c, .int .i64 (aRead nm d).2]) ∧ OwnB w' w.heap.size (.slice A (aRead nm d).1.length c) (aRead nm d).1 ∧ Below w.heap.size w w' := aRead_calls nm _ g mp d w h.d
theorem u_read2 (nm : Bs) (h : UU w0 w g mp gr d b) (hl : (nmS nm).size ≤ 140737488355328) (hn : b.fs.length ≤ 10) : Calls Try.prog 43 #[.pointer (some ⟨gr, 0, none⟩), .string (nmS nm)] w fun e w' => (∃ A c, e = .returned (.tuple #[.slice A (aRead nm b).1.length c, .int .i64 (aRead nm b).2]) ∧ Bytes w' w'.heap.size A (aRead nm b).1.length (aRead nm b).1 ∧ (aRead nm b).1.length ≤ c) ∧ Below w.heap.size w w' := by
  obtain ⟨fb, h1, h2, h3⟩ := h.r
  exact bRead_calls nm gr fb b w h1 hl (by omega)
theorem u_app1 (nm data : Bs) (A : Option Addr) (c B : Nat) (h : UU w0 w g mp gr d b) (hr : Bytes w B A data.length data) (hB : B ≤ w.heap.size) (hl : (fget nm d.fs).1.length + data.length ≤ 140737488355328) :
    Calls Try.prog 19 #[.pointer (some ⟨g, 0, none⟩), .string (nmS nm), .slice A data.length c] w fun e w1 => e = .returned (.int .i64 (aAppend nm data d).1) ∧ UU w0 w1 g mp gr (aAppend nm data d).2 b :=
  (aAppend_calls nm data A c B _ g mp d w h.d hr hB hl).mono fun _ _ ⟨e1, hd, hb⟩ => ⟨e1, h.p hd hb⟩
theorem u_app2 (nm data : Bs) (A : Option Addr) (c B : Nat) (h : UU w0 w g mp gr d b) (hn : (nmS nm).size ≤ 140737488355328) (hrl : (b.fs.length + 1) * 48 ≤ 140737488355328) (hr : Bytes w B A data.length data) (hB : B ≤ w.heap.size) (hl : (fget nm b.fs).1.length + data.length ≤ 140737488355328) :
    Calls Try.prog 67 #[.pointer (some ⟨gr, 0, none⟩), .string (nmS nm), .slice A data.length c] w fun e w1 => e = .returned (.int .i64 (bAppend nm data b).1) ∧ UU w0 w1 g mp gr d (bAppend nm data b).2 := by
  obtain ⟨fb, h1, h2, h3⟩ := h.r
  exact (bAppend_calls nm data A c B gr fb b w _ h1.o hn hrl hr hB hl).mono fun _ _ ⟨e1, fb', hd, hf, hb⟩ => ⟨e1, h.q h1 h2 h3 hd.toD hf hb⟩
theorem u_del1 (nm : Bs) (h : UU w0 w g mp gr d b) :
    Calls Try.prog 28 #[.pointer (some ⟨g, 0, none⟩), .string (nmS nm)] w fun e w1 => e = .returned (.int .i64 (aDelete nm d).1) ∧ UU w0 w1 g mp gr (aDelete nm d).2 b :=
  (aDelete_calls nm _ g mp d w h.d).mono fun _ _ ⟨e1, hd, hb⟩ => ⟨e1, h.p hd hb⟩
theorem u_del2 (nm : Bs) (h : UU w0 w g mp gr d b) (hn : (nmS nm).size ≤ 140737488355328) (hrl : b.fs.length * 48 ≤ 140737488355328) :
    Calls Try.prog 70 #[.pointer (some ⟨gr, 0, none⟩), .string (nmS nm)] w fun e w1 => e = .returned (.int .i64 (aDelete nm b).1) ∧ UU w0 w1 g mp gr d (aDelete nm b).2 := by
  obtain ⟨fb, h1, h2, h3⟩ := h.r
  exact (bDelete_calls nm gr fb b w h1 hn hrl).mono fun _ _ ⟨e1, fb', hd, hf, hb⟩ => ⟨e1, h.q h1 h2 h3 hd hf hb⟩
theorem u_syn1 (nm : Bs) (h : UU w0 w g mp gr d b) :
    Calls Try.prog 20 #[.pointer (some ⟨g, 0, none⟩), .string (nmS nm)] w fun e w1 => e = .returned (.int .i64 (aSync nm d).1) ∧ UU w0 w1 g mp gr (aSync nm d).2 b :=
  (aSync_calls nm _ g mp d w h.d).mono fun _ _ ⟨e1, hd, hb⟩ => ⟨e1, h.p hd hb⟩
theorem u_syn2 (nm : Bs) (h : UU w0 w g mp gr d b) (hn : (nmS nm).size ≤ 140737488355328) (hrl : b.fs.length ≤ 140737488355328) :
    Calls Try.prog 68 #[.pointer (some ⟨gr, 0, none⟩), .string (nmS nm)] w fun e w1 => e = .returned (.int .i64 (bSync nm b).1) ∧ UU w0 w1 g mp gr d (bSync nm b).2 := by
  obtain ⟨fb, h1, h2, h3⟩ := h.r
  exact (bSync_calls nm gr fb b w h1 hn hrl).mono fun _ _ ⟨e1, fb', hd, hf, hb⟩ => ⟨e1, h.q h1 h2 h3 hd hf hb⟩
/-- at the start -/
theorem UU.start {wa wb : World} (h1 : DiskA w0.heap.size wa g mp AD.new) (hb1 : Below w0.heap.size w0 wa) (h2 : RefT wb gr gr [] false false (-1)) (hg : wa.heap.size ≤ gr) (hb2 : Below wa.heap.size wa wb) : UU w0 wb g mp gr AD.new AD.new := by
  have hlt := h1.lt
  refine ⟨h1.below hb2, ⟨gr, ⟨[], h2, rfl⟩, ?_, by have := hb1.size; omega⟩, by have := hb1.size; omega, hb1.trans (hb2.mono hb1.size)⟩
  simp only [List.mem_cons, List.not_mem_nil, or_false]
  omega
end
end Go.Proofs.Ytmddgimadlmacaa
namespace Go.Proofs.Ytmddgimadlmacaa
open Go.ChangeShapes Go.WideShapes Go.RowKit Garner

abbrev kSeg : Kind (Int × Int × Int × Int × Unit) := kPair (kInt .i64) (kPair (kInt .i64) (kPair (kInt .i64) (kPair (kInt .i64) kUnit)))
theorem o_seg : Opens Try.prog 36 kSeg := opens_struct Try.underlying36 (by kernel_rfl) (fopens_cons o_int rfl (fopens_cons o_int rfl (fopens_cons o_i64 rfl (fopens_cons o_i64 rfl (fopens_nil _)))))
theorem o_segs : Opens Try.prog 23 (kSlice kSeg 32) := opens_slice o_seg Try.underlying23 (by kernel_rfl) (by kernel_rfl) (by decide) (fun _ => rfl)
abbrev kMan : Kind (Int × Int × Int × Int × Sl (Int × Int × Int × Int × Unit) × Unit) := kPair (kInt .i64) (kPair (kInt .i64) (kPair (kInt .u64) (kPair (kInt .i64) (kPair (kSlice kSeg 32) kUnit))))
theorem o_man : Opens Try.prog 25 kMan := opens_struct Try.underlying25 (by kernel_rfl) (fopens_cons o_int rfl (fopens_cons o_int rfl (fopens_cons o_u64 rfl (fopens_cons o_i64 rfl (fopens_cons o_segs rfl (fopens_nil _))))))

def segOf (x : Int × Int × Int × Int × Unit) : Seg := { id := x.1, count := x.2.1, mn := x.2.2.1, mx := x.2.2.2.1 }
/-- a manifest that came in -/
theorem man_of {w : World} {B : Nat} {x : Int × Int × Int × Int × Sl (Int × Int × Int × Int × Unit) × Unit} (h : kMan.mem w B x) :
    ∃ (m : Man) (A : Option Addr) (c : Nat), Value.agg (kMan.cells x).toArray = manV m A c ∧ Segs w B A m.segs.length m.segs ∧ m.wf ∧ m.segs.length ≤ c ∧ c * 32 ≤ 140737488351232 := by
  obtain ⟨a, b, s, k, sl, u⟩ := x
  obtain ⟨h1, h2, h3, h4, h5, _⟩ := h
  obtain ⟨sn, rfl, hs⟩ := wfu64 h3
  refine ⟨{ wal := a, next := b, seq := sn, mark := k, segs := sl.l.map segOf }, sl.A, sl.c, by simp [kMan, kPair, kInt, kSlice, kUnit], ?_, ⟨wf64 h1, wf64 h2, hs, wf64 h4, ?_⟩, by simpa using h5.cap, h5.room⟩
  · have e : segCells (sl.l.map segOf) = sl.l.flatMap kSeg.cells := by
      unfold segCells
      rw [List.flatMap_map]
      rfl
    show Row w B 4 sl.A _ (segCells (sl.l.map segOf))
    rw [e, List.length_map]
    exact h5.row
  · intro s hs
    obtain ⟨x, hx, rfl⟩ := List.mem_map.1 hs
    obtain ⟨g1, g2, g3, g4, _⟩ := h5.all x hx
    exact ⟨wf64 g1, wf64 g2, wf64 g3, wf64 g4⟩
end Go.Proofs.Ytmddgimadlmacaa
/-! ManifestFiles: both disks on their way, manifests that came in, nil disks -/
namespace Go.Proofs.Ytmddgimadlmacaa
open Go.RowKit Garner

set_option maxRecDepth 100000 in
set_option maxHeartbeats 4000000 in
theorem pLoadNil (w : World) : Calls Try.prog 40 #[.pointer none] w fun e w' => e = .returned (.tuple #[manV zeroMan none 0, .int .i64 2]) ∧ Below w.heap.size w w' := by
  go_enter Try.func40, Try.ntmps40
  go_wp2_with fail
  refine (pReadNil _ _).mono ?_
  rintro e w1 ⟨rfl, hb1⟩
  simp only [World.size_alloc] at hb1
  have hres1 : Blk w1 w.heap.size 25 [.int .i64 0, .int .i64 0, .int .u64 0, .int .i64 0, .slice none 0 0] := (Blk.new w _ _).below hb1 (by omega)
  have hbw1 : Below w.heap.size w w1 := ((Below.refl w.heap.size w).alloc (Nat.le_refl _) _).trans (hb1.mono (Nat.le_succ _))
  have v0 := hres1.frozen 0; have v1 := hres1.frozen 1; have v2 := hres1.frozen 2; have v3 := hres1.frozen 3; have v4 := hres1.frozen 4
  have r0 := hres1.cell 0; have r1 := hres1.cell 1; have r2 := hres1.cell 2; have r3 := hres1.cell 3; have r4 := hres1.cell 4
  simp only [List.getElem?_cons_zero, List.getElem?_cons_succ] at r0 r1 r2 r3 r4
  go_wp2
  refine bodyPost_ret (v := .tuple #[manV zeroMan none 0, .int .i64 2]) (by simp [results, Try.results40, go_sem, zeroMan, *]) rfl ?_
  exact ⟨rfl, below_set5 hbw1 (Nat.le_refl _) _ _ _ _ _⟩
set_option maxRecDepth 100000 in
set_option maxHeartbeats 4000000 in
theorem pSaveNil (m : Man) (A : Option Addr) (c : Nat) (w : World) : Calls Try.prog 38 #[.pointer none, manV m A c] w fun e w' => e = .returned (.int .i64 2) ∧ Below w.heap.size w w' := by
  go_enter Try.func38, Try.ntmps38
  go_wp2
  go_ret
  exact ⟨rfl, (Below.refl _ _).alloc (Nat.le_refl _) _⟩
structure ManD where
  m : Man
  A : Option Addr
  c : Nat
def ManD.cells (x : ManD) : List Value := mCells x.m x.A x.c
structure ManOk (w : World) (B : Nat) (x : ManD) : Prop where
  segs : Segs w B x.A x.m.segs.length x.m.segs
  wf : x.m.wf
  len : x.m.segs.length ≤ 140737488355328
structure Mans (w : World) (B : Nat) (A : Option Addr) (xs : List ManD) : Prop where
  row : Row w B 5 A xs.length (xs.flatMap ManD.cells)
  all : ∀ x ∈ xs, ManOk w B x
theorem Mans.below {w w' : World} {B : Nat} {A : Option Addr} {xs : List ManD} (h : Mans w B A xs) (hb : Below B w w') : Mans w' B A xs := ⟨h.row.below hb, fun x hx => ⟨(h.all x hx).segs.below hb, (h.all x hx).wf, (h.all x hx).len⟩⟩
theorem manCells_at (xs : List ManD) {k j : Nat} (hk : k < xs.length) (hj : j < 5) : (xs.flatMap ManD.cells)[k * 5 + j]? = (xs[k].cells)[j]? := by
  induction xs generalizing k with
  | nil => simp at hk
  | cons o xs ih =>
    rw [List.flatMap_cons]
    cases k with
    | zero => rw [List.getElem?_append_left (by show 0 * 5 + j < 5; omega)]; simp
    | succ k =>
      rw [List.getElem?_append_right (by show 5 ≤ _; omega), show (k + 1) * 5 + j - (o.cells).length = k * 5 + j by show (k + 1) * 5 + j - 5 = _; omega, ih (by simpa using hk)]
      simp
theorem Mans.at_ {w : World} {B : Nat} {A : Option Addr} {xs : List ManD} (h : Mans w B A xs) {k : Nat} (hk : k < xs.length) : ∃ b off, A = some ⟨b, off, none⟩ ∧ b < B ∧ ∀ j, j < 5 → w.cell? ⟨b, off + k * 5 + j, none⟩ = (xs[k].cells)[j]? := by
  obtain ⟨b, off, e, hb, hc⟩ := h.row.2 (by omega)
  refine ⟨b, off, e, hb, fun j hj => ?_⟩
  have h1 := manCells_at xs hk hj
  have h2 : j < (xs[k].cells).length := hj
  rw [List.getElem?_eq_getElem h2] at h1 ⊢
  rw [Nat.add_assoc]
  exact hc _ _ h1
section
variable {w0 w w1 : World} {g mp gr : Nat} {d b : AD}
/-- both alike, and they hold manifests alone -/
def PU (w0 w : World) (g mp gr : Nat) : Prop := ∃ d b, UU w0 w g mp gr d b ∧ Sim d b ∧ MF b.fs
theorem u_save1 (x : ManD) (h : UU w0 w g mp gr d b) (hx : ManOk w w0.heap.size x) : Calls Try.prog 38 #[.pointer (some ⟨g, 0, none⟩), manV x.m x.A x.c] w fun e w1 => e = .returned (.int .i64 (aSave x.m d).1) ∧ UU w0 w1 g mp gr (aSave x.m d).2 b :=
  (vSave x.m x.A x.c w0.heap.size _ g mp d w h.d hx.segs h.b.size hx.wf hx.len).mono fun _ _ ⟨e1, hd, hb⟩ => ⟨e1, h.p hd hb⟩
theorem u_save2 (x : ManD) (h : UU w0 w g mp gr d b) (hx : ManOk w w0.heap.size x) (ha : Asc b.fs) (hm : MF b.fs) : Calls Try.prog 39 #[.pointer (some ⟨gr, 0, none⟩), manV x.m x.A x.c] w fun e w1 => e = .returned (.int .i64 (bSave x.m b).1) ∧ UU w0 w1 g mp gr d (bSave x.m b).2 := by
  obtain ⟨fb, h1, h2, h3⟩ := h.r
  have hc := hm.count ha
  refine (rSave x.m x.A x.c w0.heap.size gr fb b w h1 ha hx.segs h.b.size hx.wf hx.len (by omega)).mono fun _ _ ⟨e1, hs⟩ => ⟨e1, ?_⟩
  obtain ⟨fb', r1, r2⟩ := hs.ex
  exact h.q h1 h2 h3 r1 r2 hs.but
theorem u_load1 (h : UU w0 w g mp gr d b) : Calls Try.prog 40 #[.pointer (some ⟨g, 0, none⟩)] w fun e w' => ∃ A c, e = .returned (.tuple #[manV (aLoad d).1 A c, .int .i64 (aLoad d).2]) ∧ w'.ownsRow w.heap.size 36 4 (.slice A (aLoad d).1.segs.length c) (aLoad d).1.segs.length (segCells (aLoad d).1.segs) ∧ (aLoad d).1.segs.length ≤ 140737488355328 ∧ Below w.heap.size w w' := vLoad _ g mp d w h.d
theorem u_load2 (h : UU w0 w g mp gr d b) (ha : Asc b.fs) (hm : MF b.fs) : Calls Try.prog 41 #[.pointer (some ⟨gr, 0, none⟩)] w fun e w' => ∃ A c, e = .returned (.tuple #[manV (aLoad b).1 A c, .int .i64 (aLoad b).2]) ∧ w'.ownsRow w.heap.size 36 4 (.slice A (aLoad b).1.segs.length c) (aLoad b).1.segs.length (segCells (aLoad b).1.segs) ∧ (aLoad b).1.segs.length ≤ 140737488355328 ∧ Below w.heap.size w w' := by
  obtain ⟨fb, h1, h2, h3⟩ := h.r
  have hc := hm.count ha
  exact rLoad gr fb b w h1 hm (by omega)
end
end Go.Proofs.Ytmddgimadlmacaa
