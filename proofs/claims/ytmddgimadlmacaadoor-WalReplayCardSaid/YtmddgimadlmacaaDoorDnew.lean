import Derived.Test.YtmddgimadlmacaaDoorBlk
import Derived.Test.YtmddgimadlmacaaDoorMap
namespace Go.Proofs.YtmddgimadlmacaaDoor
open Go.RowKit Garner

theorem zeroFile (w : World) : (zeroValue 79).run Tryd.prog w = .ok (.agg #[.slice none 0 0, .int .i64 0]) w := by kernel_rfl
abbrev strKey : List UInt8 → Value := fun s => Value.string ⟨s.toArray⟩
/-- a disk's box -/
def diskV (mp : Nat) (down taken : Bool) (left : Int) : List Value := [.map (some mp), .bool down, .bool taken, .int .i64 left]
set_option maxRecDepth 100000 in
set_option maxHeartbeats 2000000 in
theorem vNew (w : World) : Calls Tryd.prog 9 #[] w fun e w' => e = .returned (.pointer (some ⟨w.heap.size + 1, 0, none⟩)) ∧ MapIs (fun s : List UInt8 => Value.string ⟨s.toArray⟩) w' w.heap.size [] ∧ Blk w' (w.heap.size + 1) 76 (diskV w.heap.size false false (-1)) ∧ Below w.heap.size w w' := by
  have hmm := @run_makeMap Tryd.prog
  go_enter Tryd.func9, Tryd.ntmps9
  go_wp2
  go_ret
  refine ⟨rfl, (MapIs.made w).alloc _, ?_, ((Below.refl _ _).alloc (Nat.le_refl _) _).alloc (by simp) _⟩
  have h := Blk.new (w.alloc (.map #[] 0)) 76 (diskV w.heap.size false false (-1))
  rw [World.size_alloc] at h
  exact h
end Go.Proofs.YtmddgimadlmacaaDoor
