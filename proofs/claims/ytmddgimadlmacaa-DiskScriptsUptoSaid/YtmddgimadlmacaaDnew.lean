import Derived.Test.YtmddgimadlmacaaBlk
import Derived.Test.YtmddgimadlmacaaMap
namespace Go.Proofs.Ytmddgimadlmacaa
open Go.RowKit Garner

theorem zeroFile (w : World) : (zeroValue 100).run Try.prog w = .ok (.agg #[.slice none 0 0, .int .i64 0]) w := by kernel_rfl
abbrev strKey : List UInt8 → Value := fun s => Value.string ⟨s.toArray⟩
/-- a disk's box -/
def diskV (mp : Nat) (down taken : Bool) (left : Int) : List Value := [.map (some mp), .bool down, .bool taken, .int .i64 left]
set_option maxRecDepth 100000 in
set_option maxHeartbeats 2000000 in
theorem vNew (w : World) : Calls Try.prog 18 #[] w fun e w' => e = .returned (.pointer (some ⟨w.heap.size + 1, 0, none⟩)) ∧ MapIs (fun s : List UInt8 => Value.string ⟨s.toArray⟩) w' w.heap.size [] ∧ Blk w' (w.heap.size + 1) 97 (diskV w.heap.size false false (-1)) ∧ Below w.heap.size w w' := by
  have hmm := @run_makeMap Try.prog
  go_enter Try.func18, Try.ntmps18
  go_wp2
  go_ret
  refine ⟨rfl, (MapIs.made w).alloc _, ?_, ((Below.refl _ _).alloc (Nat.le_refl _) _).alloc (by simp) _⟩
  have h := Blk.new (w.alloc (.map #[] 0)) 97 (diskV w.heap.size false false (-1))
  rw [World.size_alloc] at h
  exact h
end Go.Proofs.Ytmddgimadlmacaa
