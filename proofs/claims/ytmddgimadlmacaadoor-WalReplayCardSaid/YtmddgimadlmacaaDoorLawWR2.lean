import Derived.Test.YtmddgimadlmacaaDoorLawWR
import Derived.Test.YtmddgimadlmacaaDoorOpens
namespace Go.Proofs.YtmddgimadlmacaaDoor
open Go.ChangeShapes Go.WideShapes Go.RowKit Garner

abbrev kCrash : Kind (Int × Sl Int × Unit) := kPair (kInt .i64) (kPair kInts kUnit)
theorem o_crash : Opens Tryd.prog 41 kCrash := opens_struct Tryd.underlying41 (by kernel_rfl) (fopens_cons o_int rfl (fopens_cons o_ints rfl (fopens_nil _)))
theorem crash_of {w : World} {B : Nat} {x : Int × Sl Int × Unit} (h : kCrash.mem w B x) :
    ∃ (a : Int) (l : List Int) (A : Option Addr) (c : Nat), Value.agg (kCrash.cells x).toArray = .agg #[.int .i64 a, .slice A l.length c] ∧ Row w B 1 A l.length (l.map (Value.int .i64)) ∧ l.length ≤ 140737488351232 ∧ ∀ k ∈ l, in64 k := by
  obtain ⟨a, sl, u⟩ := x
  obtain ⟨_, h2, _⟩ := h
  obtain ⟨hr, hc, hro, hk⟩ := ints_of (s := sl) h2
  exact ⟨a, sl.l, sl.A, sl.c, by simp [kCrash, kPair, kInt, kSlice, kUnit], hr, by omega, hk⟩
set_option maxRecDepth 100000 in
set_option maxHeartbeats 1000000 in
theorem lawWR2 (ps : List ByS) (A0 : Option Addr) (c0 : Nat) (sy : Bs) (A1 : Option Addr) (c1 : Nat) (at_ : Int) (keep : List Int) (A3 : Option Addr) (c3 B : Nat) (w : World) (h0 : Pieces w B A0 ps) (h1 : Bytes w B A1 sy.length sy) (h3 : Row w B 1 A3 keep.length (keep.map (Value.int .i64))) (hB : B ≤ w.heap.size)
    (hkl : keep.length ≤ 140737488351232) (hkr : ∀ k ∈ keep, in64 k) :
    Calls Tryd.prog 4 #[.slice A0 ps.length c0, .slice A1 sy.length c1, .agg #[.int .i64 at_, .slice A3 keep.length c3]] w fun e w' => e = .returned (.bool true) ∧ Below w.heap.size w w' := by
  go_enter Tryd.func4, Tryd.ntmps4
  go_wp2_with fail
  obtain ⟨X, hX⟩ : ∃ X, X = w.alloc (.cells #[.int .i64 at_, .slice A3 keep.length c3] 41) := ⟨_, rfl⟩
  change Calls _ _ _ (w.alloc (.cells #[.int .i64 at_, .slice A3 keep.length c3] 41)) _
  rw [← hX]
  have hbX : Below w.heap.size w X := by rw [hX]; exact (Below.refl _ _).alloc (Nat.le_refl _) _
  have kX : Blk X w.heap.size 41 [.int .i64 at_, .slice A3 keep.length c3] := by rw [hX]; exact Blk.new w _ _
  clear hX
  refine (vAwake10 X).mono ?_
  rintro e w1 ⟨rfl, hb1⟩
  have k1 := kX.below hb1 kX.lt
  have c0' : w1.cell? ⟨w.heap.size, 0, none⟩ = some (.int .i64 at_) := k1.cell 0
  have c1' : w1.cell? ⟨w.heap.size, 1, none⟩ = some (.slice A3 keep.length c3) := k1.cell 1
  have hb01 := hbX.trans (hb1.mono hbX.size)
  clear hbX hb1 kX k1
  go_wp2_with fail
  refine (lawWR ps A0 c0 sy A1 c1 at_ keep A3 c3 B w1 (h0.below (hb01.mono hB)) (h1.below (hb01.mono hB)) (h3.below (hb01.mono hB)) (Nat.le_trans hB hb01.size) hkl hkr).mono ?_
  rintro e w2 ⟨rfl, hb2⟩
  have hb02 := hb01.trans (hb2.mono hb01.size)
  clear c0' c1'
  go_wp2
  go_ret
  exact ⟨rfl, hb02⟩
end Go.Proofs.YtmddgimadlmacaaDoor
