import Derived.Test.YtmddgimadlmacaaOpens
import Derived.Test.YtmddgimadlmacaaMay
namespace Go.Proofs.Ytmddgimadlmacaa
open Go.ChangeShapes Go.WideShapes Go.RowKit Garner

abbrev kSeg : Kind (Int × Int × Int × Int × Unit) := kPair (kInt .i64) (kPair (kInt .i64) (kPair (kInt .i64) (kPair (kInt .i64) kUnit)))
theorem o_seg : Opens Try.prog 36 kSeg := opens_struct Try.underlying36 (by kernel_rfl) (fopens_cons o_int rfl (fopens_cons o_int rfl (fopens_cons o_i64 rfl (fopens_cons o_i64 rfl (fopens_nil _)))))
theorem o_segs : Opens Try.prog 23 (kSlice kSeg 32) := opens_slice o_seg Try.underlying23 (by kernel_rfl) (by kernel_rfl) (by decide) (fun _ => rfl)
abbrev kMan : Kind (Int × Int × Int × Int × Sl (Int × Int × Int × Int × Unit) × Unit) := kPair (kInt .i64) (kPair (kInt .i64) (kPair (kInt .u64) (kPair (kInt .i64) (kPair (kSlice kSeg 32) kUnit))))
theorem o_man : Opens Try.prog 25 kMan := opens_struct Try.underlying25 (by kernel_rfl) (fopens_cons o_int rfl (fopens_cons o_int rfl (fopens_cons o_u64 rfl (fopens_cons o_i64 rfl (fopens_cons o_segs rfl (fopens_nil _))))))

def segOf (x : Int × Int × Int × Int × Unit) : Seg := { id := x.1, count := x.2.1, mn := x.2.2.1, mx := x.2.2.2.1 }
/-- a manifest that came in -/
theorem man_of {w : World} {B : Nat} {x : Int × Int × Int × Int × Sl (Int × Int × Int × Int × Unit) × Unit} (h : kMan.mem w B x) :
    ∃ (m : Man) (A : Option Addr) (c : Nat), Value.agg (kMan.cells x).toArray = manV m A c ∧ Segs w B A m.segs.length m.segs ∧ m.wf ∧ m.segs.length ≤ c ∧ c * 32 ≤ 140737488351232 := by
  obtain ⟨a, b, s, k, sl, u⟩ := x
  obtain ⟨h1, h2, h3, h4, h5, _⟩ := h
  obtain ⟨sn, rfl, hs⟩ := wfu64 h3
  refine ⟨{ wal := a, next := b, seq := sn, mark := k, segs := sl.l.map segOf }, sl.A, sl.c, by simp [kMan, kPair, kInt, kSlice, kUnit], ?_, ⟨wf64 h1, wf64 h2, hs, wf64 h4, ?_⟩, by simpa using h5.cap, h5.room⟩
  · have e : segCells (sl.l.map segOf) = sl.l.flatMap kSeg.cells := by
      unfold segCells
      rw [List.flatMap_map]
      rfl
    show Row w B 4 sl.A _ (segCells (sl.l.map segOf))
    rw [e, List.length_map]
    exact h5.row
  · intro s hs
    obtain ⟨x, hx, rfl⟩ := List.mem_map.1 hs
    obtain ⟨g1, g2, g3, g4, _⟩ := h5.all x hx
    exact ⟨wf64 g1, wf64 g2, wf64 g3, wf64 g4⟩
end Go.Proofs.Ytmddgimadlmacaa
