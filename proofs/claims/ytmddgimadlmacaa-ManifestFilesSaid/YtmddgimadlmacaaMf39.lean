import Derived.Test.YtmddgimadlmacaaMf03
import Derived.Test.YtmddgimadlmacaaMf38
namespace Go.Proofs.Ytmddgimadlmacaa
open Go.ChangeShapes Go.WideShapes Go.RowKit Garner

abbrev kMans : Kind (Sl (Int × Int × Int × Int × Sl (Int × Int × Int × Int × Unit) × Unit)) := kSlice kMan 56
theorem o_mans : Opens Try.prog 72 kMans := opens_slice o_man Try.underlying72 (by kernel_rfl) (by kernel_rfl) (by decide) (fun _ => rfl)
theorem mans_list {w : World} {B : Nat} : ∀ (l : List (Int × Int × Int × Int × Sl (Int × Int × Int × Int × Unit) × Unit)), (∀ x ∈ l, kMan.mem w B x) → ∃ xs : List ManD, xs.flatMap ManD.cells = l.flatMap kMan.cells ∧ xs.length = l.length ∧ ∀ x ∈ xs, ManOk w B x
  | [], _ => ⟨[], rfl, rfl, by simp⟩
  | x :: l, h => by
    obtain ⟨xs, h1, h2, h3⟩ := mans_list l fun y hy => h y (by simp [hy])
    obtain ⟨m, A, c, e1, e2, e3, e4, e5⟩ := man_of (h x (by simp))
    refine ⟨⟨m, A, c⟩ :: xs, ?_, by simp [h2], fun y hy => ?_⟩
    · rw [List.flatMap_cons, List.flatMap_cons, h1]
      have : (kMan.cells x).toArray = (mCells m A c).toArray := by
        injection e1
      have e6 : kMan.cells x = mCells m A c := by simpa using this
      rw [e6]; rfl
    · rcases List.mem_cons.1 hy with rfl | hy
      · exact ⟨e2, e3, by show m.segs.length ≤ _; omega⟩
      · exact h3 y hy
theorem mans_of {w : World} {B : Nat} {s : Sl (Int × Int × Int × Int × Sl (Int × Int × Int × Int × Unit) × Unit)} (h : kMans.mem w B s) : ∃ xs : List ManD, xs.length = s.l.length ∧ Mans w B s.A xs ∧ xs.length ≤ s.c ∧ s.c * 56 ≤ 140737488351232 := by
  obtain ⟨xs, h1, h2, h3⟩ := mans_list s.l h.all
  refine ⟨xs, h2, ⟨?_, h3⟩, by rw [h2]; exact h.cap, h.room⟩
  rw [h1, h2]; exact h.row
end Go.Proofs.Ytmddgimadlmacaa
