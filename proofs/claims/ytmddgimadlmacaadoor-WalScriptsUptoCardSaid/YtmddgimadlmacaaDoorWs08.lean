import Derived.Test.YtmddgimadlmacaaDoorWs04
import Derived.Test.YtmddgimadlmacaaDoorWs07
/-
  Slices of slices of bytes, and slices of bools, as plain data.
-/
namespace Go.Proofs.YtmddgimadlmacaaDoor
open Go.ChangeShapes Go.WideShapes Go.RowKit Garner

/-- bytes, and where they lie -/
structure ByS where
  A : Option Addr
  c : Nat
  data : Bs
def ByS.v (p : ByS) : Value := .slice p.A p.data.length p.c
structure ByOk (w : World) (B : Nat) (p : ByS) : Prop where
  row : Bytes w B p.A p.data.length p.data
  cap : p.data.length ≤ p.c
  room : p.c ≤ 140737488351232
structure Pieces (w : World) (B : Nat) (A : Option Addr) (ps : List ByS) : Prop where
  row : Row w B 1 A ps.length (ps.map ByS.v)
  all : ∀ p ∈ ps, ByOk w B p
theorem Pieces.below {w w' : World} {B : Nat} {A : Option Addr} {ps : List ByS} (h : Pieces w B A ps) (hb : Below B w w') : Pieces w' B A ps :=
  ⟨h.row.below hb, fun p hp => ⟨(h.all p hp).row.below hb, (h.all p hp).cap, (h.all p hp).room⟩⟩
abbrev kBytess : Kind (Sl (Sl Int)) := kSlice kBytes 24
theorem o_bytess : Opens Tryd.prog 22 kBytess := opens_slice o_bytes Tryd.underlying22 (by kernel_rfl) (by kernel_rfl) (by decide) (fun _ => rfl)
def sumLen (ps : List ByS) : Nat := (ps.map fun p => p.data.length).sum
theorem pieces_list {w : World} {B : Nat} : ∀ (l : List (Sl Int)), (∀ s ∈ l, kBytes.mem w B s) → ∃ ps : List ByS, ps.map ByS.v = l.flatMap kBytes.cells ∧ ps.length = l.length ∧ (∀ p ∈ ps, ByOk w B p) ∧ sumLen ps + ps.length ≤ (l.map kBytes.bulk).sum
  | [], _ => ⟨[], rfl, rfl, by simp, by simp [sumLen]⟩
  | s :: l, h => by
    obtain ⟨ps, h1, h2, h3, h4⟩ := pieces_list l fun x hx => h x (by simp [hx])
    obtain ⟨d, e1, e2, e3, e4⟩ := bytes_of (h s (by simp))
    refine ⟨⟨s.A, s.c, d⟩ :: ps, ?_, by simp [h2], ?_, ?_⟩
    · rw [List.map_cons, h1, List.flatMap_cons]
      simp only [ByS.v, e1]
      rfl
    · intro p hp
      rcases List.mem_cons.1 hp with rfl | hp
      · exact ⟨e2, e3, e4⟩
      · exact h3 p hp
    · have hb : kBytes.bulk s = s.l.length + 1 := by
        show (s.l.map (kInt .u8).bulk).sum + 1 = _
        have : s.l.map (kInt .u8).bulk = List.replicate s.l.length 1 := by simp only [kInt]; rw [List.map_const']
        rw [this]; simp
      unfold sumLen at h4 ⊢
      simp only [List.map_cons, List.sum_cons, List.length_cons, hb, e1]
      omega
theorem pieces_of {w : World} {B : Nat} {s : Sl (Sl Int)} (h : kBytess.mem w B s) : ∃ ps : List ByS, ps.length = s.l.length ∧ Pieces w B s.A ps ∧ ps.length ≤ s.c ∧ sumLen ps + ps.length ≤ kBytess.bulk s := by
  obtain ⟨ps, h1, h2, h3, h4⟩ := pieces_list s.l h.all
  refine ⟨ps, h2, ⟨?_, h3⟩, by rw [h2]; exact h.cap, by show _ ≤ (s.l.map kBytes.bulk).sum + 1; omega⟩
  rw [h1, h2]; exact h.row
abbrev kBools : Kind (Sl Bool) := kSlice kBool 1
theorem bools_of {w : World} {B : Nat} {s : Sl Bool} (h : kBools.mem w B s) : Row w B 1 s.A s.l.length (s.l.map Value.bool) ∧ s.l.length ≤ s.c ∧ s.c ≤ 140737488351232 := by
  have hr := h.row
  have e : s.l.flatMap kBool.cells = s.l.map Value.bool := by
    induction s.l with
    | nil => rfl
    | cons b l ih => rw [List.flatMap_cons, List.map_cons, ih]; rfl
  rw [e] at hr
  exact ⟨hr, h.cap, by have := h.room; simp only [reachBytes] at this; omega⟩
abbrev kInts : Kind (Sl Int) := kSlice (kInt .i64) 8
theorem o_ints : Opens Tryd.prog 25 kInts := opens_slice o_int Tryd.underlying25 (by kernel_rfl) (by kernel_rfl) (by decide) (fun _ => rfl)
theorem ints_of {w : World} {B : Nat} {s : Sl Int} (h : kInts.mem w B s) : Row w B 1 s.A s.l.length (s.l.map (Value.int .i64)) ∧ s.l.length ≤ s.c ∧ s.c * 8 ≤ 140737488351232 ∧ ∀ k ∈ s.l, in64 k := by
  have hr := h.row
  have e : s.l.flatMap (kInt .i64).cells = s.l.map (Value.int .i64) := by
    induction s.l with
    | nil => rfl
    | cons b l ih => rw [List.flatMap_cons, List.map_cons, ih]; rfl
  rw [e] at hr
  exact ⟨hr, h.cap, h.room, fun k hk => wf64 (h.all k hk)⟩
/-- one piece -/
theorem Pieces.at_ {w : World} {B : Nat} {A : Option Addr} {ps : List ByS} (h : Pieces w B A ps) {k : Nat} (hk : k < ps.length) : ∃ b off, A = some ⟨b, off, none⟩ ∧ b < B ∧ w.cell? ⟨b, off + k, none⟩ = some (.slice ps[k].A ps[k].data.length ps[k].c) := by
  obtain ⟨b, off, e, hb, hc⟩ := h.row.at_ hk
  refine ⟨b, off, e, hb, ?_⟩
  rw [hc k (by simpa using hk)]
  simp [ByS.v]
def catN (ps : List ByS) (k : Nat) : Bs := (ps.take k).flatMap (·.data)
theorem catN_zero (ps : List ByS) : catN ps 0 = [] := rfl
theorem catN_succ {ps : List ByS} {k : Nat} (hk : k < ps.length) : catN ps (k + 1) = catN ps k ++ ps[k].data := by
  unfold catN; rw [List.take_succ_eq_append_getElem hk, List.flatMap_append]; simp
theorem catN_len (ps : List ByS) (k : Nat) : (catN ps k).length ≤ sumLen ps := by
  unfold catN sumLen
  induction ps generalizing k with
  | nil => simp
  | cons p ps ih =>
    cases k with
    | zero => simp
    | succ k =>
      have := ih k
      simp only [List.take_succ_cons, List.flatMap_cons, List.length_append, List.map_cons, List.sum_cons]
      omega
theorem len_le_sum {ps : List ByS} {k : Nat} (hk : k < ps.length) : (catN ps k).length + ps[k].data.length ≤ sumLen ps := by
  have := catN_len ps (k + 1)
  rw [catN_succ hk, List.length_append] at this
  exact this
end Go.Proofs.YtmddgimadlmacaaDoor
