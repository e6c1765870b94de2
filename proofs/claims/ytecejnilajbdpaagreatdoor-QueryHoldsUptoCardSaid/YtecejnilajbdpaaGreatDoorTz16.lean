import Derived.Lib.LaidU8T
import Derived.Test.YtecejnilajbdpaaGreatDoorTz03
import Derived.Test.YtecejnilajbdpaaGreatDoorTz15
namespace Go.Proofs.YtecejnilajbdpaaGreatDoor
open Go.ChangeShapes Go.WideShapes Go.RowKit Garner
theorem o_str : Opens Tryz.prog 9 kStr := opens_str Tryz.underlying9 (by kernel_rfl)
theorem str_reach {w : World} {B : Nat} {x : ByteArray} (h : kStr.mem w B x) : x.data.toList.length ≤ 140737488355328 := by
 have h : x.size ≤ reachBytes := h
 have e := Lib.size_eq x
 unfold reachBytes at h
 omega
theorem laidMetH_no (P : Program) (laid : List (String × DataW Unit)) (w : World) (h : (laid.all fun x => x.2.handleName?.isNone) = true) : laidMetH P laid w = laidMet P laid w := by
 have e : (laid.filter fun x => x.2.handleName?.isSome) = [] := by
  rw [List.filter_eq_nil_iff]
  intro x hx hs
  have := List.all_eq_true.1 h x hx
  cases hn : x.2.handleName? with
  | none => rw [hn] at hs; cases hs
  | some s => rw [hn] at this; cases this
 unfold laidMetH
 simp [e]
theorem lt_of {W : World} {l : List (String × DataW Unit)} (hl : l = [("unicode/utf8.acceptRanges", Rows.laid_unicode_utf8_acceptRanges), ("unicode/utf8.first", Rows.laid_unicode_utf8_first)]) (h : laidMetH Tryz.prog l W) (hsh : W.ShapedOpen Tryz.prog) : Lt W := by
 have hp : laidMetH Tryz.prog l W = laidMet Tryz.prog l W := laidMetH_no _ _ _ (by rw [hl]; kernel_rfl)
 rw [hp, hl] at h
 have e3 : Rows.laid_unicode_utf8_first = Lib.firstData := by kernel_rfl
 have e4 : (Rows.laid_unicode_utf8_acceptRanges : DataW Unit) = Lib.acceptData := by kernel_rfl
 rw [e3, e4] at h
 exact ⟨cell_of_shapedOpen_int (P := Tryz.prog) (g := 2) (t := 3) (zero := #[.int .i64 0]) hsh (of_decide_eq_true (by kernel_rfl)) (by kernel_rfl) rfl (by kernel_rfl) (by kernel_rfl) Tryz.underlying3, utf8Tabs_of_readsT (U8Types.of196 Tryz.lays196) ⟨by kernel_rfl, by kernel_rfl, by kernel_rfl, by kernel_rfl, by kernel_rfl, by kernel_rfl, by kernel_rfl⟩ (Lib.laidMet.reads h (.tail _ (.head _))) (Lib.laidMet.reads h (.head _))⟩
end Go.Proofs.YtecejnilajbdpaaGreatDoor
