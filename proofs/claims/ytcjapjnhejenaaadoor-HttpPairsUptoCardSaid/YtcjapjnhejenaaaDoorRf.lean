import Derived.RangeFuncNested
import Derived.RangeFuncBound
import Derived.RangeFuncBox
import Derived.RangeFuncCalls
import Derived.RangeFuncLeaves
import Derived.Shelf.Abstract
import Derived.Shelf.RegionOpen
import Derived.WalkKit
import Derived.OwnWalkIn
import Derived.TacticsInMore
import Derived.LoopNIn
import Derived.LoopIn
import Derived.Test.YtcjapjnhejenaaaDoorRegion2
/-! a drawn region within a round of a loop over a function -/
namespace Garner
open Go

theorem rowsIn_wide {n : Nat} {P : Program} {row : String} {args : Array Value} {w : World} {R : Value → World → Prop} {l : Nat} (h : Rows P row args w R) : RowsIn (Fence.wide.inRound l) n P row args w R :=
  fun c cs _ => let ⟨v, w', r, s⟩ := h c cs; ⟨v, w', r, stepsIn_wide.2 s⟩
theorem opIn_round {n l : Nat} {P : Program} {o : Oper} {a : Act} {w : World} {K : Act → World → Prop} {Q : Exit → Act → World → Prop} (hd : ∀ c, o.op ≠ .defer c) (h : o.wp P a w K Q) : o.wpIn (Fence.wide.inRound l) n P a w K Q := by
  refine ⟨fun _ _ => trivial, ?_⟩
  rw [Oper.semAt_plain _ _ _ hd]
  unfold Oper.wp at h
  generalize (execOp a.eval o).run P w = r at h
  unfold Oper.upon at h
  unfold Oper.uponIn
  split at h
  · exact h
  · exact h
  · exact h
  · exact ⟨fun h => absurd h (by simp [Fence.wide]), (callsIn_wide.2 h : CallsIn Fence.wide _ _ _ _ _ _)⟩
  · exact ⟨fun h => absurd h (by simp [Fence.wide]), rowsIn_wide h⟩
  · exact h
  · exact h.elim
theorem anyIn_round {n l : Nat} {P : Program} {md : Region.Mode} {ops : Array Oper} {Q : Exit → Act → World → Prop} (hd : ∀ o ∈ ops, ∀ c, o.op ≠ .defer c) (hQ : ¬ LetsOut Q) : ∀ (fuel : Nat) (listed : Array Bool) (a : Act) (w : World), wpAny P md ops Q fuel listed a w → wpAnyIn (Fence.wide.inRound l) n P md ops Q fuel listed a w
  | 0, _, _, _, h => h
  | fuel + 1, listed, a, w, h => by
    refine ⟨h.1, fun i hi => ?_⟩
    have h2 := h.2 i hi
    unfold wpOp at h2
    unfold wpOpIn
    cases ho : ops[i]? with
    | none =>
      simp only [ho] at h2 ⊢
      exact anyIn_round hd hQ fuel _ _ _ h2
    | some o =>
      simp only [ho] at h2 ⊢
      have hm : o ∈ ops := Array.mem_of_getElem? ho
      split
      · next hw =>
        rw [if_pos hw] at h2
        rcases h2 with h2 | h2
        · refine Oper.wpIn_mono (fun a w h => anyIn_round hd hQ fuel _ a w h) (opIn_round (hd o hm) h2)
        · exact absurd h2.2 hQ
      · next hw =>
        rw [if_neg hw] at h2
        exact ⟨fun _ _ => trivial, anyIn_round hd hQ fuel _ _ _ h2⟩
theorem wpIn_region_round {n l id : Nat} {P : Program} {ops : Array Oper} {Q : Exit → Act → World → Prop} {a : Act} {w : World} (S : World → Prop) (k : Nat) (hm : P.follows .mixedOrders = true) (hd : (ops.all fun o => match o.op with | .defer _ => false | _ => true) = true) (hQ : ¬ LetsOut Q)
    (h : wpAnyN P .any ops Q S k ops.size (Array.replicate ops.size false) a w.drew) : (Code.region id ops true).wpIn (Fence.wide.inRound l) n P Q a w := by
  refine wpIn_region_any hm (anyIn_round (fun o ho c e => ?_) hQ _ _ _ _ (wpAny_of_N _ _ _ _ h))
  rw [Array.all_eq_true'] at hd
  have := hd o ho
  rw [e] at this
  cases this
end Garner
