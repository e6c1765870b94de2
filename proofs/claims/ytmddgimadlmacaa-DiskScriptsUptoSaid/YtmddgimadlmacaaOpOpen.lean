import Derived.Test.YtmddgimadlmacaaPieces
import Derived.Test.YtmddgimadlmacaaLawDS
namespace Go.Proofs.Ytmddgimadlmacaa
open Go.ChangeShapes Go.WideShapes Go.RowKit Garner

abbrev kOp : Kind (Int × Int × Int × ByteArray × ByteArray × Sl Int × Sl Int × Unit) := kPair (kInt .i64) (kPair (kInt .i64) (kPair (kInt .i64) (kPair kStr (kPair kStr (kPair kBytes (kPair kInts kUnit))))))
theorem o_str : Opens Try.prog 9 kStr := opens_str Try.underlying9 (by kernel_rfl)
theorem o_op : Opens Try.prog 63 kOp := opens_struct Try.underlying63 (by kernel_rfl) (fopens_cons o_int rfl (fopens_cons o_int rfl (fopens_cons o_int rfl (fopens_cons o_str rfl (fopens_cons o_str rfl (fopens_cons o_bytes rfl (fopens_cons o_ints rfl (fopens_nil _))))))))
abbrev kOps : Kind (Sl (Int × Int × Int × ByteArray × ByteArray × Sl Int × Sl Int × Unit)) := kSlice kOp 104
theorem o_ops : Opens Try.prog 56 kOps := opens_slice o_op Try.underlying56 (by kernel_rfl) (by kernel_rfl) (by decide) (fun _ => rfl)
theorem sum_ones (l : List Int) (k : IntKind) : (l.map (kInt k).bulk).sum = l.length := by
  have : l.map (kInt k).bulk = List.replicate l.length 1 := by simp only [kInt]; rw [List.map_const']
  rw [this]; simp
theorem nmS_list (s : ByteArray) : nmS s.data.toList = s := by
  obtain ⟨⟨l⟩⟩ := s
  rfl
theorem op_of {w : World} {B : Nat} {x : Int × Int × Int × ByteArray × ByteArray × Sl Int × Sl Int × Unit} (h : kOp.mem w B x) (hb : kOp.bulk x ≤ 1048576) : ∃ o : OpD, opCells o = kOp.cells x ∧ OpOk w B o := by
  obtain ⟨kind, on, n, a, b, d, k, u⟩ := x
  obtain ⟨h1, h2, h3, h4, h5, h6, h7, _⟩ := h
  have h6' : kBytes.mem w B d := h6
  have h7' : kInts.mem w B k := h7
  obtain ⟨l, e1, e2, e3, e4⟩ := bytes_of h6'
  obtain ⟨g1, g2, g3, g4⟩ := ints_of h7'
  have hbk : 1 + (1 + (1 + ((a.size + 1) + ((b.size + 1) + (((d.l.map (kInt .u8).bulk).sum + 1) + (((k.l.map (kInt .i64).bulk).sum + 1) + 0)))))) ≤ 1048576 := hb
  rw [sum_ones, sum_ones] at hbk
  refine ⟨⟨kind, on, n, a.data.toList, b.data.toList, d.A, d.c, l, k.A, k.c, k.l⟩, ?_, e2, g1, by show l.length ≤ _; omega, by show l.length ≤ d.c; exact e3, by show k.l.length ≤ _; omega, by show (nmS a.data.toList).size ≤ _; rw [nmS_list]; omega, by show (nmS b.data.toList).size ≤ _; rw [nmS_list]; omega, g4, wf64 h1, wf64 h2, wf64 h3⟩
  show [Value.int .i64 kind, .int .i64 on, .int .i64 n, .string (nmS a.data.toList), .string (nmS b.data.toList), .slice d.A l.length d.c, .slice k.A k.l.length k.c] = _
  rw [nmS_list, nmS_list, e1]
  rfl
theorem ops_list {w : World} {B : Nat} : ∀ (l : List (Int × Int × Int × ByteArray × ByteArray × Sl Int × Sl Int × Unit)), (∀ x ∈ l, kOp.mem w B x) → (l.map kOp.bulk).sum ≤ 1048576 → ∃ ps : List OpD, ps.flatMap opCells = l.flatMap kOp.cells ∧ ps.length = l.length ∧ (∀ o ∈ ps, OpOk w B o) ∧ l.length ≤ (l.map kOp.bulk).sum
  | [], _, _ => ⟨[], rfl, rfl, by simp, by simp⟩
  | x :: l, h, hs => by
    simp only [List.map_cons, List.sum_cons] at hs
    obtain ⟨ps, h1, h2, h3, h4⟩ := ops_list l (fun y hy => h y (by simp [hy])) (by omega)
    obtain ⟨o, e1, e2⟩ := op_of (h x (by simp)) (by omega)
    refine ⟨o :: ps, by rw [List.flatMap_cons, List.flatMap_cons, h1, e1], by simp [h2], fun y hy => ?_, ?_⟩
    · rcases List.mem_cons.1 hy with rfl | hy
      · exact e2
      · exact h3 y hy
    · have : 1 ≤ kOp.bulk x := by show 1 ≤ 1 + _; omega
      simp only [List.map_cons, List.sum_cons, List.length_cons]
      omega
theorem script_of {w : World} {B : Nat} {s : Sl (Int × Int × Int × ByteArray × ByteArray × Sl Int × Sl Int × Unit)} (h : kOps.mem w B s) (hb : kOps.bulk s ≤ 1048576) : ∃ ps : List OpD, ps.length = s.l.length ∧ Script w B s.A ps ∧ ps.length ≤ 1048575 := by
  have hb' : (s.l.map kOp.bulk).sum + 1 ≤ 1048576 := hb
  obtain ⟨ps, h1, h2, h3, h4⟩ := ops_list s.l h.all (by omega)
  refine ⟨ps, h2, ⟨?_, h3⟩, by omega⟩
  rw [h1, h2]; exact h.row
end Go.Proofs.Ytmddgimadlmacaa
