import Derived.Test.YtcjapjnhejenaaaDoorBut
import Derived.Lib.AppendZerosOnto
namespace Go.Proofs.YtcjapjnhejenaaaDoor
open Go.RowKit Garner

theorem byteInfo : (Tryd.prog.info? 5).map (fun i => (i.zero, i.size, i.bytes)) = some (some (.int .u8 0), 1, 1) := by kernel_rfl
set_option maxRecDepth 100000 in
set_option maxHeartbeats 4000000 in
/-- slices.Clone of bytes: new memory -/
theorem vClone (l : Bs) (A : Option Addr) (c B : Nat) (w : World) (hr : Bytes w B A l.length l) (hB : B ≤ w.heap.size) (hl : l.length ≤ 140737488355328) :
    Calls Tryd.prog 36 #[.slice A l.length c] w fun e w' => ∃ v, e = .returned v ∧ OwnB w' w.heap.size v l ∧ Below w.heap.size w w' := by
  have hq := fun (u : World) (a : Option Addr) (n c : Nat) => Lib.run_eql_slice_nil (P := Tryd.prog) u 22 5 a n c 0 0 Tryd.underlying22
  cases A with
  | none =>
    have h0 : l = [] := by
      rcases Nat.eq_zero_or_pos l.length with h | h
      · exact List.eq_nil_of_length_eq_zero h
      · obtain ⟨_, _, h, _⟩ := hr.2 h; cases h
    subst h0
    go_enter Tryd.func36, Tryd.ntmps36
    go_wp2
    go_ret
    exact ⟨_, rfl, World.ownsRow_nil _ _ _ _, Below.refl _ _⟩
  | some a =>
    go_enter Tryd.func36, Tryd.ntmps36
    have hown : ∀ g : Nat, g = w.heap.size → (w.alloc (.cells #[] 5)).ownsRow w.heap.size 5 1 (.slice (some ⟨w.heap.size, 0, none⟩) 0 0) 0 [] := fun _ _ => own_empty (heap_alloc_new _ _) (Nat.le_refl _)
    have hown := hown _ rfl
    go_wp2_with (at_builtin; refine wpList_app _ rfl bytesE rfl rfl hown rfl (hr.alloc hB _) (bv_one _) (by omega) (by simp) ?_; intro v3 w3 hown3 hg3 hb3 _)
    go_ret
    exact ⟨v3, rfl, by simpa [OwnB] using hown3, ((Below.refl _ _).alloc (Nat.le_refl _) _).trans hb3⟩
end Go.Proofs.YtcjapjnhejenaaaDoor
