import Derived.Test.YtmalkgakdmghiaaPa21
import Derived.Test.YtmalkgakdmghiaaPa10
import Derived.Sort.AssemblyPlain
/-! slices.Sort at []uint64, 1: a row that is sorted in place; siftDown, heapSort, reverseRange -/
namespace Garner
open Go Go.Sort
def ltN (x y : Nat) : Bool := decide (x < y)
/-- which child siftDown takes -/
def SdChild (hi F root : Nat) (d : Array Nat) (cc : Nat) : Prop :=
  cc < hi ∧ ((cc = 2 * root + 2 ∧ ltN d[F + (2 * root + 1)]! d[F + (2 * root + 2)]! = true) ∨ (cc = 2 * root + 1 ∧ (2 * root + 2 < hi → ltN d[F + (2 * root + 1)]! d[F + (2 * root + 2)]! = false)))
theorem sd_end {hi F root : Nat} (d : Array Nat) (h : hi ≤ 2 * root + 1) : siftDown ltN hi F root d = d := by rw [siftDown, dif_pos h]
theorem sd_go {hi F root cc : Nat} {d : Array Nat} (h : SdChild hi F root d cc) (hl : ltN d[F + root]! d[F + cc]! = true) : siftDown ltN hi F root d = siftDown ltN hi F cc (swp d (F + root) (F + cc)) := by
  obtain ⟨h0, ⟨rfl, h1⟩ | ⟨rfl, h1⟩⟩ := h
  · rw [siftDown, dif_neg (by omega), show F + (2 * root + 1) + 1 = F + (2 * root + 2) by omega, h1, hl]
    simp [show 2 * root + 1 + 1 < hi by omega]
  · rw [siftDown, dif_neg (by omega), show F + (2 * root + 1) + 1 = F + (2 * root + 2) by omega, hl]
    by_cases h : 2 * root + 2 < hi
    · simp [h1 h]
    · simp [show ¬ 2 * root + 1 + 1 < hi by omega]
theorem sd_stop {hi F root cc : Nat} {d : Array Nat} (h : SdChild hi F root d cc) (hl : ltN d[F + root]! d[F + cc]! = false) : siftDown ltN hi F root d = d := by
  obtain ⟨h0, ⟨rfl, h1⟩ | ⟨rfl, h1⟩⟩ := h
  · rw [siftDown, dif_neg (by omega), show F + (2 * root + 1) + 1 = F + (2 * root + 2) by omega, h1, hl]
    simp [show 2 * root + 1 + 1 < hi by omega]
  · rw [siftDown, dif_neg (by omega), show F + (2 * root + 1) + 1 = F + (2 * root + 2) by omega, hl]
    by_cases h : 2 * root + 2 < hi
    · simp [h1 h]
    · simp [show ¬ 2 * root + 1 + 1 < hi by omega]
theorem size_swp' (d : Array Nat) (i j : Nat) : (swp d i j).size = d.size := by simp [swp]
end Garner
namespace Go.Proofs.Ytmalkgakdmghiaa
open Go.RowKit Go.Sort Garner

/-- a row of the call's own, as an array -/
structure Srt (w : World) (B g n c : Nat) (d : Array Nat) : Prop where
  sz : d.size = n
  own : w.ownsRow B 31 1 (.slice (some ⟨g, 0, none⟩) n c) n (d.toList.map u64v)
theorem Srt.lt {w : World} {B g n c : Nat} {d : Array Nat} (h : Srt w B g n c d) : g < w.heap.size := (own_ge h.own g (by simp [Value.ownBlock])).2
theorem Srt.cell {w : World} {B g n c i : Nat} {d : Array Nat} (h : Srt w B g n c d) (hi : i < n) : w.cell? ⟨g, i, none⟩ = some (.int .u64 ((d[i]! : Nat) : Int)) := by
  obtain ⟨g', hg', -, -, -, -, hcell⟩ := own_at h.own (by omega)
  cases hg'
  have := h.sz
  rw [hcell i (by omega), List.getElem?_map, Array.getElem?_toList, Array.getElem?_eq_getElem (by omega), getElem!_pos d i (by omega)]; rfl
theorem Srt.frozen {w : World} {B g n c : Nat} {d : Array Nat} (h : Srt w B g n c d) (i : Nat) : w.frozen? ⟨g, i, none⟩ = false := h.own.frozenAt i
theorem Srt.drew {w : World} {B g n c : Nat} {d : Array Nat} (h : Srt w B g n c d) : Srt w.drew B g n c d := ⟨h.sz, h.own⟩
theorem Srt.below {w w' : World} {B g n c : Nat} {d : Array Nat} (h : Srt w B g n c d) (hb : Below w.heap.size w w') : Srt w' B g n c d := ⟨h.sz, own_below h.own hb⟩
theorem Srt.swp {w : World} {B g n c i j : Nat} {d : Array Nat} (h : Srt w B g n c d) : Srt ((w.setCell ⟨g, i, none⟩ (.int .u64 ((d[j]! : Nat) : Int))).setCell ⟨g, j, none⟩ (.int .u64 ((d[i]! : Nat) : Int))) B g n c (Sort.swp d i j) := by
  refine ⟨by rw [size_swp', h.sz], ?_⟩
  have e : (Sort.swp d i j).toList.map u64v = ((d.toList.map u64v).set i (.int .u64 ((d[j]! : Nat) : Int))).set j (.int .u64 ((d[i]! : Nat) : Int)) := by
    unfold Sort.swp; rw [Array.toList_setIfInBounds, Array.toList_setIfInBounds, List.map_set, List.map_set]; rfl
  rw [e]
  exact own_setC (own_setC h.own)
theorem vLessB (x y : Nat) (w : World) : Calls Try.prog 36 #[.int .u64 x, .int .u64 y] w fun e w' => e = .returned (.bool (ltN x y)) ∧ w' = w := vLessN x y w

set_option maxRecDepth 100000 in
set_option maxHeartbeats 4000000 in
theorem vReverse (d0 : Array Nat) (B g n c a b : Nat) (w : World) (h0 : Srt w B g n c d0) (hab : a ≤ b) (hb : b ≤ n) (hn : n ≤ 140737488355328) (hb0 : 0 < b) :
    Calls Try.prog 47 #[.slice (some ⟨g, 0, none⟩) n c, .int .i64 a, .int .i64 b] w fun e w' => e = .returned (.tuple #[]) ∧ Srt w' B g n c (reverseRange d0 a b) ∧ But [g] w w' := by
  have w0 : IntKind.i64.wrap ((b : Int) - 1) = ((b - 1 : Nat) : Int) := by rw [IntKind.wrap_i64]; omega
  obtain ⟨b1, hb1⟩ : ∃ b1, b1 = b - 1 := ⟨_, rfl⟩
  rw [← hb1] at w0
  have Hb1 := Lib.hid hb1; clear hb1
  go_enter Try.func47, Try.ntmps47
  go_wp2
  go_loopw [6, 7] (fun vi vj wr => ∃ (i j : Nat) (d : Array Nat), vi = .int .i64 i ∧ vj = .int .i64 j ∧ i ≤ n ∧ j < n ∧ Srt wr B g n c d ∧ Hid (reverseLoop i j d = reverseRange d0 a b) ∧ But [g] w wr) (fun vi vj _ => (intOf vj).toNat - (intOf vi).toNat)
  case atStart => exact ⟨a, b1, d0, rfl, rfl, by omega, by have := Hb1.out; omega, h0, Lib.hid (by rw [Hb1.out]; rfl), But.refl _ _⟩
  case round =>
    obtain ⟨i, j, d, rfl, rfl, hin, hjn, hd, hrev, hbut⟩ := hrel
    obtain ⟨wo, rfl⟩ : ∃ wo : World, wo = wr := ⟨_, rfl⟩
    by_cases hij : i < j
    · have lij : (i : Int) < (j : Int) := by omega
      have li : (i : Int) < (n : Int) := by omega
      have lj : (j : Int) < (n : Int) := by omega
      obtain ⟨x, hx⟩ : ∃ x, x = d[i]! := ⟨_, rfl⟩
      obtain ⟨y, hy⟩ : ∃ y, y = d[j]! := ⟨_, rfl⟩
      have ci := hd.cell (i := i) (by omega)
      have cj := hd.cell hjn
      rw [← hx] at ci; rw [← hy] at cj
      have fi := hd.frozen i
      have fj := hd.frozen j
      have Hx := Lib.hid hx; clear hx
      have Hy := Lib.hid hy; clear hy
      have w1 : IntKind.i64.wrap ((i : Int) + 1) = ((i + 1 : Nat) : Int) := by rw [IntKind.wrap_i64]; omega
      have w2 : IntKind.i64.wrap ((j : Int) - 1) = ((j - 1 : Nat) : Int) := by rw [IntKind.wrap_i64]; omega
      go_upto_region 3 with fail
      go_region
      all_goals go_wp2
      refine ⟨⟨i + 1, j - 1, Sort.swp d i j, by simp, rfl, by omega, by omega, ?_, Lib.hid ?_, ?_⟩, by simp [intOf]; omega⟩
      · rw [Hx.out, Hy.out]; exact (hd.swp).drew
      · rw [← hrev.out]; conv => rhs; rw [reverseLoop, if_pos hij]
      · exact ((hbut.setCell (p := ⟨g, i, none⟩) (by simp) _).setCell (p := ⟨g, j, none⟩) (by simp) _).drew
    · have lij : ¬ (i : Int) < (j : Int) := by omega
      go_wp2
      go_end0
      refine ⟨rfl, ?_, hbut⟩
      rw [← hrev.out, reverseLoop, if_neg hij]; exact hd
end Go.Proofs.Ytmalkgakdmghiaa
