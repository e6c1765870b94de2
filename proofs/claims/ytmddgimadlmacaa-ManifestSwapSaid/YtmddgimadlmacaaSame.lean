import Derived.Test.YtmddgimadlmacaaRead4
import Derived.Deep.QuietTactic
import Derived.BigQuiet
namespace Go.Proofs.Ytmddgimadlmacaa
open Go.RowKit Garner

set_option maxRecDepth 100000 in
set_option maxHeartbeats 4000000 in
theorem rSame (m : Man) (A1 A2 : Option Addr) (c1 c2 B : Nat) (w : World) (h1 : Segs w B A1 m.segs.length m.segs) (h2 : Segs w B A2 m.segs.length m.segs) (hB : B ≤ w.heap.size) (hl : m.segs.length ≤ 140737488355328) :
    Calls Try.prog 16 #[manV m A1 c1, manV m A2 c2] w fun e w' => e = .returned (.bool true) ∧ Below w.heap.size w w' := by
  go_enter Try.func16, Try.ntmps16
  go_wp2_with fail
  obtain ⟨X, hX⟩ : ∃ X, X = (w.alloc (manBox m A1 c1)).alloc (manBox m A2 c2) := ⟨_, rfl⟩
  change Code.wp _ _ _ _ ((w.alloc (manBox m A1 c1)).alloc (manBox m A2 c2))
  rw [← hX]
  have hbX : Below w.heap.size w X := by rw [hX]; exact ((Below.refl _ _).alloc (Nat.le_refl _) _).alloc (by simp) _
  have hb1 : Blk X w.heap.size 25 [.int .i64 m.wal, .int .i64 m.next, .int .u64 m.seq, .int .i64 m.mark, .slice A1 m.segs.length c1] := by rw [hX]; exact (Blk.new w _ _).alloc _
  have hb2 : Blk X (w.heap.size + 1) 25 [.int .i64 m.wal, .int .i64 m.next, .int .u64 m.seq, .int .i64 m.mark, .slice A2 m.segs.length c2] := by
    rw [hX]
    have h := Blk.new (w.alloc (manBox m A1 c1)) 25 [.int .i64 m.wal, .int .i64 m.next, .int .u64 m.seq, .int .i64 m.mark, .slice A2 m.segs.length c2]
    rw [World.size_alloc] at h
    exact h
  clear hX
  have hsX : w.heap.size + 2 ≤ X.heap.size := hb2.lt
  go_loopw [5] (fun i wr => ∃ k : Nat, k ≤ m.segs.length ∧ i = .int .i64 k ∧ Below X.heap.size X wr) (fun i _ => m.segs.length - (intOf i).toNat)
  case atStart => exact ⟨0, by omega, rfl, Below.refl _ _⟩
  case round =>
    obtain ⟨k, hk, rfl, hbel⟩ := hrel
    obtain ⟨wo, rfl⟩ : ∃ wo : World, wo = wr := ⟨_, rfl⟩
    have hbw : Below w.heap.size w wo := hbX.trans (hbel.mono (by omega))
    have x4 : wo.cell? ⟨w.heap.size, 4, none⟩ = some (.slice A1 m.segs.length c1) := (hbel.cell (p := ⟨w.heap.size, 4, none⟩) (by show w.heap.size < _; omega)).trans (hb1.cell 4)
    have y4 : wo.cell? ⟨w.heap.size + 1, 4, none⟩ = some (.slice A2 m.segs.length c2) := (hbel.cell (p := ⟨w.heap.size + 1, 4, none⟩) (by show w.heap.size + 1 < _; omega)).trans (hb2.cell 4)
    by_cases hlt : (k : Int) < m.segs.length
    · have hlt' : k < m.segs.length := by omega
      obtain ⟨b, off, rfl, hb, g0, g1, g2, g3⟩ := seg_at (h1.below (hbw.mono hB)) rfl hlt'
      obtain ⟨b', off', rfl, hb', f0, f1, f2, f3⟩ := seg_at (h2.below (hbw.mono hB)) rfl hlt'
      obtain ⟨s, hs⟩ : ∃ s, s = m.segs[k] := ⟨_, rfl⟩
      rw [← hs] at g0 g1 g2 g3 f0 f1 f2 f3
      have Hs := Lib.hid hs; clear hs
      go_wp2_with fail
      go_quiet (fail)
      go_wp2
      go_roundw
      case rel =>
        first
          | exact ⟨k + 1, by omega, by go_num, below_drewN hbel _⟩
          | ((repeat apply Exists.intro); exact ⟨⟨k + 1, by omega, by go_num, below_drewN hbel _⟩, rfl⟩)
      case measure => simp [intOf]; omega
    · go_wp2
      go_ret
      exact ⟨rfl, hbw⟩
end Go.Proofs.Ytmddgimadlmacaa
