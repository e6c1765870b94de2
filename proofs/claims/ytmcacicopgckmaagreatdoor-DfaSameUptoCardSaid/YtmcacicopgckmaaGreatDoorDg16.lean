import Derived.Test.YtmcacicopgckmaaGreatDoorDg03
import Derived.Test.YtmcacicopgckmaaGreatDoorDg15
import Derived.Lib.LaidU8T
import Derived.Shelf.Vars
/-! arguments that come in; what the library's variables hold -/
namespace Go.Proofs.YtmcacicopgckmaaGreatDoor
open Go.ChangeShapes Go.WideShapes Go.RowKit Garner
theorem o_str : Opens Tryz.prog 9 kStr := opens_str Tryz.underlying9 (by kernel_rfl)
theorem bytes_list (s : ByteArray) : s = ⟨s.data.toList.toArray⟩ := by cases s; simp
theorem laidMetH_no (P : Program) (laid : List (String × DataW Unit)) (w : World) (h : (laid.all fun x => x.2.handleName?.isNone) = true) : laidMetH P laid w = laidMet P laid w := by
  have e : (laid.filter fun x => x.2.handleName?.isSome) = [] := by
    rw [List.filter_eq_nil_iff]
    intro x hx hs
    have := List.all_eq_true.1 h x hx
    cases hn : x.2.handleName? with
    | none => rw [hn] at hs; cases hs
    | some s => rw [hn] at this; cases this
  unfold laidMetH
  simp [e]
end Go.Proofs.YtmcacicopgckmaaGreatDoor

