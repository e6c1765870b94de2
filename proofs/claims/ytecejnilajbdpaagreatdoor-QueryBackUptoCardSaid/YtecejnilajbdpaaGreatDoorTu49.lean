import Derived.Test.YtecejnilajbdpaaGreatDoorTu18
import Derived.Test.YtecejnilajbdpaaGreatDoorTu48
/-! queries and records that come in -/
namespace Go.Proofs.YtecejnilajbdpaaGreatDoor
open Go.ChangeShapes Go.WideShapes Go.RowKit Garner
theorem o_i64q : Opens Tryz.prog 2 (kInt .i64) := opens_int Tryz.underlying2 (by kernel_rfl)
theorem o_intq : Opens Tryz.prog 3 (kInt .i64) := opens_int Tryz.underlying3 (by kernel_rfl)
theorem o_u64q : Opens Tryz.prog 35 (kInt .u64) := opens_int Tryz.underlying35 (by kernel_rfl)
abbrev LabT := ByteArray × ByteArray × Unit
abbrev MatT := ByteArray × Int × ByteArray × Unit
abbrev FilT := Int × ByteArray × Unit
abbrev RecT := Int × Int × Sl LabT × ByteArray × Unit
abbrev kLab : Kind LabT := kPair kStr (kPair kStr kUnit)
abbrev kMat : Kind MatT := kPair kStr (kPair (kInt .i64) (kPair kStr kUnit))
abbrev kFil : Kind FilT := kPair (kInt .i64) (kPair kStr kUnit)
abbrev kRec : Kind RecT := kPair (kInt .i64) (kPair (kInt .u64) (kPair (kSlice kLab 32) (kPair kStr kUnit)))
abbrev kQuery : Kind (Sl MatT × Sl FilT × Unit) := kPair (kSlice kMat 40) (kPair (kSlice kFil 24) kUnit)
theorem o_lab : Opens Tryz.prog 43 kLab := opens_struct Tryz.underlying43 (by kernel_rfl) (fopens_cons o_str rfl (fopens_cons o_str rfl (fopens_nil _)))
theorem o_labs : Opens Tryz.prog 36 (kSlice kLab 32) := opens_slice o_lab Tryz.underlying36 (by kernel_rfl) (by kernel_rfl) (by decide) (fun _ => rfl)
theorem o_mat : Opens Tryz.prog 69 kMat := opens_struct Tryz.underlying69 (by kernel_rfl) (fopens_cons o_str rfl (fopens_cons o_intq rfl (fopens_cons o_str rfl (fopens_nil _))))
theorem o_mats : Opens Tryz.prog 22 (kSlice kMat 40) := opens_slice o_mat Tryz.underlying22 (by kernel_rfl) (by kernel_rfl) (by decide) (fun _ => rfl)
theorem o_fil : Opens Tryz.prog 71 kFil := opens_struct Tryz.underlying71 (by kernel_rfl) (fopens_cons o_intq rfl (fopens_cons o_str rfl (fopens_nil _)))
theorem o_fils : Opens Tryz.prog 23 (kSlice kFil 24) := opens_slice o_fil Tryz.underlying23 (by kernel_rfl) (by kernel_rfl) (by decide) (fun _ => rfl)
theorem o_query : Opens Tryz.prog 25 kQuery := opens_struct Tryz.underlying25 (by kernel_rfl) (fopens_cons o_mats rfl (fopens_cons o_fils rfl (fopens_nil _)))
theorem o_rec : Opens Tryz.prog 38 kRec := opens_struct Tryz.underlying38 (by kernel_rfl) (fopens_cons o_i64q rfl (fopens_cons o_u64q rfl (fopens_cons o_labs rfl (fopens_cons o_str rfl (fopens_nil _)))))
theorem sum_len {α : Type} {f : α → Nat} (hf : ∀ x, 1 ≤ f x) : ∀ l : List α, l.length ≤ (l.map f).sum
  | [] => Nat.le_refl _
  | x :: l => by have := sum_len hf l; have := hf x; simp only [List.length_cons, List.map_cons, List.sum_cons]; omega
theorem mem_sum {α : Type} {f : α → Nat} : ∀ {l : List α} {x : α}, x ∈ l → f x ≤ (l.map f).sum
  | y :: l, x, h => by
    rcases List.mem_cons.1 h with rfl | h
    · simp only [List.map_cons, List.sum_cons]; omega
    · have := mem_sum (f := f) h; simp only [List.map_cons, List.sum_cons]; omega
theorem strB_data (s : ByteArray) : strB s.data.toList = .string s := by cases s; simp [strB]
def matP (x : MatT) : MatP := ⟨x.1.data.toList, x.2.1, x.2.2.1.data.toList⟩
def filP (x : FilT) : FilP := ⟨x.1, x.2.1.data.toList⟩
def labP (x : LabT) : Bs × Bs := (x.1.data.toList, x.2.1.data.toList)
def recD (x : RecT) : RecD := ⟨⟨x.1, x.2.1, x.2.2.1.l.map labP, x.2.2.2.1.data.toList⟩, x.2.2.1.A, x.2.2.1.c⟩
theorem matP_cells (x : MatT) : (matP x).cells = kMat.cells x := by simp [MatP.cells, matP, strB_data, kPair, kStr, kInt, kUnit]
theorem filP_cells (x : FilT) : (filP x).cells = kFil.cells x := by simp [FilP.cells, filP, strB_data, kPair, kStr, kInt, kUnit]
theorem labP_cells (x : LabT) : labCells (labP x) = kLab.cells x := by simp [labCells, labP, strB_data, kPair, kStr, kUnit]
theorem flat_of {α β : Type} {f : β → List Value} {g : α → β} {k : α → List Value} (h : ∀ x, f (g x) = k x) (l : List α) : (l.map g).flatMap f = l.flatMap k := by
  induction l with
  | nil => rfl
  | cons x l ih => rw [List.map_cons, List.flatMap_cons, List.flatMap_cons, ih, h]
theorem query_of {w : World} {B : Nat} {x : Sl MatT × Sl FilT × Unit} (h : kQuery.mem w B x) (hB : B ≤ w.heap.size) : QueryAt w x.1.A x.1.l.length x.2.1.A x.2.1.l.length ⟨x.1.l.map matP, x.2.1.l.map filP⟩ := by
  obtain ⟨sm, sf, u⟩ := x
  obtain ⟨h1, h2, -⟩ := h
  refine ⟨?_, ?_, List.length_map _, List.length_map _, fun m hm => ?_, fun f hf => ?_⟩
  · show Row w _ 3 _ _ ((sm.l.map matP).flatMap MatP.cells)
    rw [flat_of matP_cells]; exact (SlMem.row h1).more hB
  · show Row w _ 2 _ _ ((sf.l.map filP).flatMap FilP.cells)
    rw [flat_of filP_cells]; exact (SlMem.row h2).more hB
  · obtain ⟨y, hy, rfl⟩ := List.mem_map.1 hm
    have h3 := SlMem.all h1 y hy
    exact ⟨str_reach (B := B) (w := w) h3.1, str_reach (B := B) (w := w) h3.2.2.1⟩
  · obtain ⟨y, hy, rfl⟩ := List.mem_map.1 hf
    have h3 := SlMem.all h2 y hy
    exact str_reach (B := B) (w := w) h3.2.1
end Go.Proofs.YtecejnilajbdpaaGreatDoor

/-! one record that comes in -/
namespace Go.Proofs.YtecejnilajbdpaaGreatDoor
open Go.RowKit Go.Shelf Garner
theorem rec_of {w : World} {B : Nat} {x : RecT} (h : kRec.mem w B x) (hB : B ≤ w.heap.size) (hb : kRec.bulk x ≤ 1048576) : Row w w.heap.size 2 x.2.2.1.A x.2.2.1.l.length ((recD x).r.labels.flatMap labCells) ∧ (recD x).r.labels.length = x.2.2.1.l.length ∧ x.2.2.1.l.length ≤ 140737488355328 ∧ (recD x).r.line.length < 4294967281 := by
  have h3 := h.2.2.1
  refine ⟨?_, ?_, ?_, ?_⟩
  · show Row w _ 2 x.2.2.1.A x.2.2.1.l.length ((x.2.2.1.l.map labP).flatMap labCells)
    rw [flat_of labP_cells]; exact (SlMem.row h3).more hB
  · show (x.2.2.1.l.map labP).length = _
    rw [List.length_map]
  · have h5 := sum_len (f := kLab.bulk) (fun x => by simp only [kPair, kStr]; omega) x.2.2.1.l
    simp only [kPair, kInt, kSlice] at h5 hb
    omega
  · show x.2.2.2.1.data.toList.length < _
    have h6 := Lib.size_eq x.2.2.2.1
    simp only [kPair, kInt, kSlice, kStr] at hb
    omega
end Go.Proofs.YtecejnilajbdpaaGreatDoor

/-! queries that come in, of small bulk -/
namespace Go.Proofs.YtecejnilajbdpaaGreatDoor
open Go.ChangeShapes Go.WideShapes Go.RowKit Garner
theorem query_small {x : Sl MatT × Sl FilT × Unit} (hb : kQuery.bulk x ≤ 1048576) : (∀ m ∈ x.1.l.map matP, m.name.length ≤ 10000000 ∧ m.val.length ≤ 10000000) ∧ (∀ f ∈ x.2.1.l.map filP, f.text.length ≤ 10000000) := by
  obtain ⟨sm, sf, u⟩ := x
  refine ⟨fun m hm => ?_, fun f hf => ?_⟩
  · obtain ⟨y, hy, rfl⟩ := List.mem_map.1 hm
    have h4 := mem_sum (f := kMat.bulk) hy
    have h6 := Lib.size_eq y.1; have h7 := Lib.size_eq y.2.2.1
    show y.1.data.toList.length ≤ _ ∧ y.2.2.1.data.toList.length ≤ _
    simp only [kPair, kInt, kSlice, kStr] at h4 hb
    omega
  · obtain ⟨y, hy, rfl⟩ := List.mem_map.1 hf
    have h4 := mem_sum (f := kFil.bulk) hy
    have h7 := Lib.size_eq y.2.1
    show y.2.1.data.toList.length ≤ _
    simp only [kPair, kInt, kSlice, kStr] at h4 hb
    omega
theorem query_few {x : Sl MatT × Sl FilT × Unit} (hb : kQuery.bulk x ≤ 1048576) : x.1.l.length ≤ 1048576 ∧ x.2.1.l.length ≤ 1048576 := by
  obtain ⟨sm, sf, u⟩ := x
  have h1 := sum_len (f := kMat.bulk) (fun x => by simp only [kPair, kStr, kInt]; omega) sm.l
  have h2 := sum_len (f := kFil.bulk) (fun x => by simp only [kPair, kStr, kInt]; omega) sf.l
  show sm.l.length ≤ _ ∧ sf.l.length ≤ _
  simp only [kPair, kInt, kSlice, kStr] at h1 h2 hb
  omega
end Go.Proofs.YtecejnilajbdpaaGreatDoor

