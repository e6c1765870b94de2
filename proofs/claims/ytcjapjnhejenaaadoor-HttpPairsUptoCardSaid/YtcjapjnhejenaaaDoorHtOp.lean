import Derived.Test.YtcjapjnhejenaaaDoorOpen
import Derived.Test.YtcjapjnhejenaaaDoorHtO
import Derived.Lib.LaidU8T
import Derived.Shelf.Vars
/-! http: bytes and numbers that come in; what the library's variables hold -/
namespace Go.Proofs.YtcjapjnhejenaaaDoor
open Go.ChangeShapes Go.WideShapes Go.RowKit Garner

abbrev kBytes : Kind (Sl Int) := kSlice (kInt .u8) 1
theorem o_int : Opens Tryd.prog 3 (kInt .i64) := opens_int Tryd.underlying3 (by kernel_rfl)
theorem o_u8 : Opens Tryd.prog 5 (kInt .u8) := opens_int Tryd.underlying5 (by kernel_rfl)
theorem o_bytes : Opens Tryd.prog 22 kBytes := opens_slice o_u8 Tryd.underlying22 (by kernel_rfl) (by kernel_rfl) (by decide) (fun _ => rfl)
theorem wfu8 {n : Int} (h : (Lit.int .u8 n).wf = true) : 0 ≤ n ∧ n ≤ 255 := by simpa [Lit.wf, IntKind.min, IntKind.max, IntKind.signed, IntKind.bits] using h
/-- bytes that came in, as a list of bytes -/
theorem bytes_of {w : World} {B : Nat} {s : Sl Int} (h : kBytes.mem w B s) : ∃ l : Bs, l.length = s.l.length ∧ Bytes w B s.A l.length l ∧ l.length ≤ s.c ∧ (s.A = none → s.c = 0) := by
  have hr := h.row
  refine ⟨s.l.map fun n => UInt8.ofNat n.toNat, by simp, ?_, by simpa using h.cap, h.nil⟩
  have e : (s.l.map fun n => UInt8.ofNat n.toNat).map bv = s.l.flatMap (kInt .u8).cells := by
    rw [List.map_map]
    have h2 : ∀ (l : List Int), (∀ n ∈ l, 0 ≤ n ∧ n ≤ 255) → l.map (bv ∘ fun n => UInt8.ofNat n.toNat) = l.flatMap (kInt .u8).cells := by
      intro l
      induction l with
      | nil => intro _; rfl
      | cons n l ih =>
        intro hl
        have hn := hl n (by simp)
        have e1 : ((UInt8.ofNat n.toNat).toNat : Int) = n := by rw [ofNat_toNat (by omega)]; omega
        simp only [List.map_cons, List.flatMap_cons, ih fun m hm => hl m (by simp [hm]), Function.comp_apply, bv, kInt, e1]
        rfl
    exact h2 s.l fun n hn => wfu8 (h.all n hn)
  show Row w B 1 s.A _ _
  rw [e, List.length_map]
  exact hr
theorem bytes_bulk (s : Sl Int) : kBytes.bulk s = s.l.length + 1 := by
  show (s.l.map fun _ => 1).sum + 1 = _
  rw [List.map_const', List.sum_replicate_nat, Nat.mul_one]
theorem laidMetH_no (P : Program) (laid : List (String × DataW Unit)) (w : World) (h : (laid.all fun x => x.2.handleName?.isNone) = true) : laidMetH P laid w = laidMet P laid w := by
  have e : (laid.filter fun x => x.2.handleName?.isSome) = [] := by
    rw [List.filter_eq_nil_iff]
    intro x hx hs
    have := List.all_eq_true.1 h x hx
    cases hn : x.2.handleName? with
    | none => rw [hn] at hs; cases hs
    | some s => rw [hn] at this; cases this

  unfold laidMetH
  simp [e]
theorem lt_of {W : World} {l : List (String × DataW Unit)} (hl : l = [("unicode/utf8.acceptRanges", Rows.laid_unicode_utf8_acceptRanges), ("unicode/utf8.first", Rows.laid_unicode_utf8_first)]) (h : laidMetH Tryd.prog l W) (hsh : W.ShapedOpen Tryd.prog) : Lt W := by
  have hp : laidMetH Tryd.prog l W = laidMet Tryd.prog l W := laidMetH_no _ _ _ (by rw [hl]; kernel_rfl)
  rw [hp, hl] at h
  have e3 : Rows.laid_unicode_utf8_first = Lib.firstData := by kernel_rfl
  have e4 : (Rows.laid_unicode_utf8_acceptRanges : DataW Unit) = Lib.acceptData := by kernel_rfl
  rw [e3, e4] at h
  exact ⟨cell_of_shapedOpen_int (P := Tryd.prog) (g := 0) (t := 3) (zero := #[.int .i64 0]) hsh (of_decide_eq_true (by kernel_rfl)) (by kernel_rfl) rfl (by kernel_rfl) (by kernel_rfl) Tryd.underlying3, utf8Tabs_of_readsT (U8Types.of196 Tryd.lays196) ⟨by kernel_rfl, by kernel_rfl, by kernel_rfl, by kernel_rfl, by kernel_rfl, by kernel_rfl, by kernel_rfl⟩ (Lib.laidMet.reads h (.tail _ (.head _))) (Lib.laidMet.reads h (.head _))⟩
end Go.Proofs.YtcjapjnhejenaaaDoor
