import Derived.Test.YtmcacicopgckmaaGreatDoorDg16
import Derived.Test.YtmcacicopgckmaaGreatDoorDg42
import Derived.Lib.LaidTab
/-! what the library's variables hold: the table of powers of ten too -/
namespace Go.Proofs.YtmcacicopgckmaaGreatDoor
open Go.ChangeShapes Go.WideShapes Go.RowKit Garner
theorem lt_ofM {W : World} {l : List (String × DataW Unit)} (hn : (l.all fun x => x.2.handleName?.isNone) = true) (m1 : ("unicode/utf8.acceptRanges", Rows.laid_unicode_utf8_acceptRanges) ∈ l) (m2 : ("unicode/utf8.first", Rows.laid_unicode_utf8_first) ∈ l) (h : laidMetH Tryz.prog l W) (hsh : W.ShapedOpen Tryz.prog) : Lt W := by
  rw [laidMetH_no _ _ _ hn] at h
  have e3 : Rows.laid_unicode_utf8_first = Lib.firstData := by kernel_rfl
  have e4 : (Rows.laid_unicode_utf8_acceptRanges : DataW Unit) = Lib.acceptData := by kernel_rfl
  rw [e4] at m1
  rw [e3] at m2
  exact ⟨cell_of_shapedOpen_int (P := Tryz.prog) (g := 2) (t := 3) (zero := #[.int .i64 0]) hsh (of_decide_eq_true (by kernel_rfl)) (by kernel_rfl) rfl (by kernel_rfl) (by kernel_rfl) Tryz.underlying3, utf8Tabs_of_readsT (U8Types.of196 Tryz.lays196) ⟨by kernel_rfl, by kernel_rfl, by kernel_rfl, by kernel_rfl, by kernel_rfl, by kernel_rfl, by kernel_rfl⟩ (Lib.laidMet.reads h m2) (Lib.laidMet.reads h m1)⟩
theorem tabW_of {W : World} {l : List (String × DataW Unit)} (hn : (l.all fun x => x.2.handleName?.isNone) = true) (m1 : ("internal/strconv.uint64pow10", Rows.laid_internal_strconv_uint64pow10) ∈ l) (h : laidMetH Tryz.prog l W) : TabW W.heap.size W := by
  rw [laidMetH_no _ _ _ hn] at h
  obtain ⟨g', t', cs, fuel, p, hg', ht', hvar, hd⟩ := Lib.laidMet.reads h m1
  have hg : Tryz.prog.globalNamed "internal/strconv.uint64pow10" = some 3 := by kernel_rfl
  have hty : (Tryz.prog.globals[3]?).map (·.type) = some 198 := by kernel_rfl
  obtain rfl := Option.some.inj (hg.symm.trans hg')
  obtain rfl := Option.some.inj (hty.symm.trans ht')
  have hcs := Lib.cells_of_tab (k := .u64) (zs := Lib.pow10Tab) Tryz.underlying198 Tryz.underlying147 (by kernel_rfl) (by kernel_rfl) hd
  have ht : Lib.TabIs Tryz.prog W "internal/strconv.uint64pow10" .u64 Lib.pow10Tab := by
    unfold Lib.TabIs
    rw [hvar, ← hcs]
  have hlt : 3 < W.heap.size := by
    unfold Lib.TabIs World.var? at ht
    rw [hg] at ht
    simp only [Option.bind_some] at ht
    rcases Nat.lt_or_ge 3 W.heap.size with h' | h'
    · exact h'
    · rw [Array.getElem?_eq_none h'] at ht; cases ht
  intro w' hb
  unfold Lib.TabIs World.var? at ht ⊢
  rw [hg] at ht ⊢
  simp only [Option.bind_some] at ht ⊢
  rw [hb.block _ hlt]; exact ht
end Go.Proofs.YtmcacicopgckmaaGreatDoor

