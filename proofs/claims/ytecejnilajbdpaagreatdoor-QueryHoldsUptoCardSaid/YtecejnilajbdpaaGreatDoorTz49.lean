import Derived.Test.YtecejnilajbdpaaGreatDoorTz16
import Derived.Test.YtecejnilajbdpaaGreatDoorTz48
namespace Go.Proofs.YtecejnilajbdpaaGreatDoor
open Go.ChangeShapes Go.WideShapes Go.RowKit Garner
theorem o_i64q : Opens Tryz.prog 2 (kInt .i64) := opens_int Tryz.underlying2 (by kernel_rfl)
theorem o_intq : Opens Tryz.prog 3 (kInt .i64) := opens_int Tryz.underlying3 (by kernel_rfl)
theorem o_u64q : Opens Tryz.prog 35 (kInt .u64) := opens_int Tryz.underlying35 (by kernel_rfl)
abbrev LabT := ByteArray × ByteArray × Unit
abbrev MatT := ByteArray × Int × ByteArray × Unit
abbrev FilT := Int × ByteArray × Unit
abbrev RecT := Int × Int × Sl LabT × ByteArray × Unit
abbrev kLab : Kind LabT := kPair kStr (kPair kStr kUnit)
abbrev kMat : Kind MatT := kPair kStr (kPair (kInt .i64) (kPair kStr kUnit))
abbrev kFil : Kind FilT := kPair (kInt .i64) (kPair kStr kUnit)
abbrev kRec : Kind RecT := kPair (kInt .i64) (kPair (kInt .u64) (kPair (kSlice kLab 32) (kPair kStr kUnit)))
abbrev kQuery : Kind (Sl MatT × Sl FilT × Unit) := kPair (kSlice kMat 40) (kPair (kSlice kFil 24) kUnit)
abbrev kRecs : Kind (Sl RecT) := kSlice kRec 56
theorem o_lab : Opens Tryz.prog 43 kLab := opens_struct Tryz.underlying43 (by kernel_rfl) (fopens_cons o_str rfl (fopens_cons o_str rfl (fopens_nil _)))
theorem o_labs : Opens Tryz.prog 36 (kSlice kLab 32) := opens_slice o_lab Tryz.underlying36 (by kernel_rfl) (by kernel_rfl) (by decide) (fun _ => rfl)
theorem o_mat : Opens Tryz.prog 69 kMat := opens_struct Tryz.underlying69 (by kernel_rfl) (fopens_cons o_str rfl (fopens_cons o_intq rfl (fopens_cons o_str rfl (fopens_nil _))))
theorem o_mats : Opens Tryz.prog 22 (kSlice kMat 40) := opens_slice o_mat Tryz.underlying22 (by kernel_rfl) (by kernel_rfl) (by decide) (fun _ => rfl)
theorem o_fil : Opens Tryz.prog 71 kFil := opens_struct Tryz.underlying71 (by kernel_rfl) (fopens_cons o_intq rfl (fopens_cons o_str rfl (fopens_nil _)))
theorem o_fils : Opens Tryz.prog 23 (kSlice kFil 24) := opens_slice o_fil Tryz.underlying23 (by kernel_rfl) (by kernel_rfl) (by decide) (fun _ => rfl)
theorem o_query : Opens Tryz.prog 25 kQuery := opens_struct Tryz.underlying25 (by kernel_rfl) (fopens_cons o_mats rfl (fopens_cons o_fils rfl (fopens_nil _)))
theorem o_rec : Opens Tryz.prog 38 kRec := opens_struct Tryz.underlying38 (by kernel_rfl) (fopens_cons o_i64q rfl (fopens_cons o_u64q rfl (fopens_cons o_labs rfl (fopens_cons o_str rfl (fopens_nil _)))))
theorem o_recs : Opens Tryz.prog 44 kRecs := opens_slice o_rec Tryz.underlying44 (by kernel_rfl) (by kernel_rfl) (by decide) (fun _ => rfl)
theorem sum_len {α : Type} {f : α → Nat} (hf : ∀ x, 1 ≤ f x) : ∀ l : List α, l.length ≤ (l.map f).sum
 | [] => Nat.le_refl _
 | x :: l => by have := sum_len hf l; have := hf x; simp only [List.length_cons, List.map_cons, List.sum_cons]; omega
theorem mem_sum {α : Type} {f : α → Nat} : ∀ {l : List α} {x : α}, x ∈ l → f x ≤ (l.map f).sum
 | y :: l, x, h => by
  rcases List.mem_cons.1 h with rfl | h
  ·simp only [List.map_cons, List.sum_cons]; omega
  have := mem_sum (f := f) h; simp only [List.map_cons, List.sum_cons]; omega
theorem strB_data (s : ByteArray) : strB s.data.toList = .string s := by cases s; simp [strB]
def matP (x : MatT) : MatP := ⟨x.1.data.toList, x.2.1, x.2.2.1.data.toList⟩
def filP (x : FilT) : FilP := ⟨x.1, x.2.1.data.toList⟩
def labP (x : LabT) : Bs × Bs := (x.1.data.toList, x.2.1.data.toList)
def recD (x : RecT) : RecD := ⟨⟨x.1, x.2.1, x.2.2.1.l.map labP, x.2.2.2.1.data.toList⟩, x.2.2.1.A, x.2.2.1.c⟩
theorem matP_cells (x : MatT) : (matP x).cells = kMat.cells x := by simp [MatP.cells, matP, strB_data, kPair, kStr, kInt, kUnit]
theorem filP_cells (x : FilT) : (filP x).cells = kFil.cells x := by simp [FilP.cells, filP, strB_data, kPair, kStr, kInt, kUnit]
theorem labP_cells (x : LabT) : labCells (labP x) = kLab.cells x := by simp [labCells, labP, strB_data, kPair, kStr, kUnit]
theorem recD_cells (x : RecT) : (recD x).cells = kRec.cells x := by simp [RecD.cells, recD, strB_data, kPair, kStr, kInt, kUnit, kSlice]
theorem flat_of {α β : Type} {f : β → List Value} {g : α → β} {k : α → List Value} (h : ∀ x, f (g x) = k x) (l : List α) : (l.map g).flatMap f = l.flatMap k := by
 induction l with
 | nil => rfl
 | cons x l ih => rw [List.map_cons, List.flatMap_cons, List.flatMap_cons, ih, h]
theorem query_of {w : World} {B : Nat} {x : Sl MatT × Sl FilT × Unit} (h : kQuery.mem w B x) (hB : B ≤ w.heap.size) : QueryAt w x.1.A x.1.l.length x.2.1.A x.2.1.l.length ⟨x.1.l.map matP, x.2.1.l.map filP⟩ := by
 obtain ⟨sm, sf, u⟩ := x
 obtain ⟨h1, h2, -⟩ := h
 refine ⟨?_, ?_, List.length_map _, List.length_map _, fun m hm => ?_, fun f hf => ?_⟩
 ·show Row w _ 3 _ _ ((sm.l.map matP).flatMap MatP.cells)
  rw [flat_of matP_cells]; exact (SlMem.row h1).more hB
 ·show Row w _ 2 _ _ ((sf.l.map filP).flatMap FilP.cells)
  rw [flat_of filP_cells]; exact (SlMem.row h2).more hB
 ·obtain ⟨y, hy, rfl⟩ := List.mem_map.1 hm
  have h3 := SlMem.all h1 y hy
  exact ⟨str_reach (B := B) (w := w) h3.1, str_reach (B := B) (w := w) h3.2.2.1⟩
 obtain ⟨y, hy, rfl⟩ := List.mem_map.1 hf
 have h3 := SlMem.all h2 y hy
 exact str_reach (B := B) (w := w) h3.2.1
theorem recs_of {w : World} {B : Nat} {s : Sl RecT} (h : kRecs.mem w B s) (hB : B ≤ w.heap.size) (hb : kRecs.bulk s ≤ 1048576) : RecsAt w s.A s.l.length (s.l.map recD) ∧ (∀ d ∈ s.l.map recD, d.r.line.length < 4294967281) ∧ s.l.length ≤ 1048576 := by
 have hb : (s.l.map kRec.bulk).sum + 1 ≤ 1048576 := hb
 have h1 : ∀ x : RecT, 1 ≤ kRec.bulk x := fun x => by simp only [kPair, kInt]; omega
 refine ⟨⟨?_, List.length_map _, fun d hd => ?_, fun d hd => ?_⟩, fun d hd => ?_, by have := sum_len h1 s.l; omega⟩
 ·rw [flat_of recD_cells]; exact (SlMem.row h).more hB
 ·obtain ⟨y, hy, rfl⟩ := List.mem_map.1 hd
  have h3 := (SlMem.all h y hy).2.2.1
  show Row w _ 2 y.2.2.1.A (y.2.2.1.l.map labP).length ((y.2.2.1.l.map labP).flatMap labCells)
  rw [flat_of labP_cells, List.length_map]; exact (SlMem.row h3).more hB
 ·obtain ⟨y, hy, rfl⟩ := List.mem_map.1 hd
  have h4 := mem_sum (f := kRec.bulk) hy
  have h5 := sum_len (f := kLab.bulk) (fun x => by simp only [kPair, kStr]; omega) y.2.2.1.l
  show (y.2.2.1.l.map labP).length ≤ _
  rw [List.length_map]
  simp only [kPair, kInt, kSlice] at h4 h5 hb
  omega
 obtain ⟨y, hy, rfl⟩ := List.mem_map.1 hd
 have h4 := mem_sum (f := kRec.bulk) hy
 show y.2.2.2.1.data.toList.length < _
 have h6 := Lib.size_eq y.2.2.2.1
 simp only [kPair, kInt, kSlice, kStr] at h4 hb
 omega
theorem query_small {x : Sl MatT × Sl FilT × Unit} (hb : kQuery.bulk x ≤ 1048576) : (∀ m ∈ x.1.l.map matP, m.name.length ≤ 10000000 ∧ m.val.length ≤ 10000000) ∧ (∀ f ∈ x.2.1.l.map filP, f.text.length ≤ 10000000) := by
 obtain ⟨sm, sf, u⟩ := x
 refine ⟨fun m hm => ?_, fun f hf => ?_⟩
 ·obtain ⟨y, hy, rfl⟩ := List.mem_map.1 hm
  have h4 := mem_sum (f := kMat.bulk) hy
  have h6 := Lib.size_eq y.1; have h7 := Lib.size_eq y.2.2.1
  show y.1.data.toList.length ≤ _ ∧ y.2.2.1.data.toList.length ≤ _
  simp only [kPair, kInt, kSlice, kStr] at h4 hb
  omega
 obtain ⟨y, hy, rfl⟩ := List.mem_map.1 hf
 have h4 := mem_sum (f := kFil.bulk) hy
 have h7 := Lib.size_eq y.2.1
 show y.2.1.data.toList.length ≤ _
 simp only [kPair, kInt, kSlice, kStr] at h4 hb
 omega
theorem recs_small {s : Sl RecT} (hb : kRecs.bulk s ≤ 1048576) : ∀ d ∈ s.l.map recD, d.r.line.length ≤ 1500000 ∧ ∀ x ∈ d.r.labels, x.2.length ≤ 1500000 := by
 have hb : (s.l.map kRec.bulk).sum + 1 ≤ 1048576 := hb
 intro d hd
 obtain ⟨y, hy, rfl⟩ := List.mem_map.1 hd
 have h4 := mem_sum (f := kRec.bulk) hy
 refine ⟨?_, fun z hz => ?_⟩
 ·show y.2.2.2.1.data.toList.length ≤ _
  have h6 := Lib.size_eq y.2.2.2.1
  simp only [kPair, kInt, kSlice, kStr] at h4 hb
  omega
 obtain ⟨l, hl, rfl⟩ := List.mem_map.1 (show z ∈ y.2.2.1.l.map labP from hz)
 have h5 := mem_sum (f := kLab.bulk) hl
 show l.2.1.data.toList.length ≤ _
 have h6 := Lib.size_eq l.2.1
 simp only [kPair, kInt, kSlice, kStr] at h4 h5 hb
 omega
end Go.Proofs.YtecejnilajbdpaaGreatDoor
