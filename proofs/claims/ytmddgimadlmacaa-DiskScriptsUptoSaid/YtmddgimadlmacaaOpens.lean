import Derived.Test.YtmddgimadlmacaaOpen
import Derived.Test.YtmddgimadlmacaaPure2
namespace Go.Proofs.Ytmddgimadlmacaa
open Go.ChangeShapes Go.WideShapes Go.RowKit Garner

/-- bytes that came in -/
abbrev kBytes : Kind (Sl Int) := kSlice (kInt .u8) 1
theorem o_int : Opens Try.prog 3 (kInt .i64) := opens_int Try.underlying3 (by kernel_rfl)
theorem o_i64 : Opens Try.prog 2 (kInt .i64) := opens_int Try.underlying2 (by kernel_rfl)
theorem o_u64 : Opens Try.prog 22 (kInt .u64) := opens_int Try.underlying22 (by kernel_rfl)
theorem o_u8 : Opens Try.prog 5 (kInt .u8) := opens_int Try.underlying5 (by kernel_rfl)
theorem o_bytes : Opens Try.prog 26 kBytes := opens_slice o_u8 Try.underlying26 (by kernel_rfl) (by kernel_rfl) (by decide) (fun _ => rfl)
theorem o_bool : Opens Try.prog 4 kBool := opens_bool Try.underlying4 (by kernel_rfl)
theorem wf64 {n : Int} (h : (Lit.int .i64 n).wf = true) : in64 n := by simpa [in64, Lit.wf, IntKind.min, IntKind.max, IntKind.signed, IntKind.bits] using h
theorem wfu64 {n : Int} (h : (Lit.int .u64 n).wf = true) : ∃ k : Nat, n = k ∧ k < 18446744073709551616 := by
  have h1 : 0 ≤ n ∧ n ≤ 18446744073709551615 := by simpa [Lit.wf, IntKind.min, IntKind.max, IntKind.signed, IntKind.bits] using h
  exact ⟨n.toNat, by omega, by omega⟩
theorem wfu8 {n : Int} (h : (Lit.int .u8 n).wf = true) : 0 ≤ n ∧ n ≤ 255 := by simpa [Lit.wf, IntKind.min, IntKind.max, IntKind.signed, IntKind.bits] using h
/-- bytes that came in, as a list of bytes -/
theorem bytes_of {w : World} {B : Nat} {s : Sl Int} (h : kBytes.mem w B s) : ∃ l : Bs, l.length = s.l.length ∧ Bytes w B s.A l.length l ∧ l.length ≤ s.c ∧ s.c ≤ 140737488351232 := by
  have hr := h.row
  refine ⟨s.l.map fun n => UInt8.ofNat n.toNat, by simp, ?_, by simpa using h.cap, by have := h.room; simp only [reachBytes] at this; omega⟩
  have e : (s.l.map fun n => UInt8.ofNat n.toNat).map bv = s.l.flatMap (kInt .u8).cells := by
    rw [List.map_map]
    have h2 : ∀ (l : List Int), (∀ n ∈ l, 0 ≤ n ∧ n ≤ 255) → l.map (bv ∘ fun n => UInt8.ofNat n.toNat) = l.flatMap (kInt .u8).cells := by
      intro l
      induction l with
      | nil => intro _; rfl
      | cons n l ih =>
        intro hl
        have hn := hl n (by simp)
        have e1 : ((UInt8.ofNat n.toNat).toNat : Int) = n := by rw [ofNat_toNat (by omega)]; omega
        simp only [List.map_cons, List.flatMap_cons, ih fun m hm => hl m (by simp [hm]), Function.comp_apply, bv, kInt, e1]
        rfl
    exact h2 s.l fun n hn => wfu8 (h.all n hn)
  show Row w B 1 s.A _ _
  rw [e, List.length_map]
  exact hr
end Go.Proofs.Ytmddgimadlmacaa
