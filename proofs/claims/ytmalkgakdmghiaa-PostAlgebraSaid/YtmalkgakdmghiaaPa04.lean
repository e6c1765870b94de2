import Derived.Test.YtmalkgakdmghiaaPa03
/-! uint64s that come in -/
namespace Go.Proofs.Ytmalkgakdmghiaa
open Go.ChangeShapes Go.WideShapes Go.RowKit Garner

abbrev kU64s : Kind (Sl Int) := kSlice (kInt .u64) 8
theorem o_u64' : Opens Try.prog 31 (kInt .u64) := opens_int Try.underlying31 (by kernel_rfl)
theorem o_u64s : Opens Try.prog 22 kU64s := opens_slice o_u64' Try.underlying22 (by kernel_rfl) (by kernel_rfl) (by decide) (fun _ => rfl)
theorem u64s_list {w : World} {B : Nat} : ∀ (l : List Int), (∀ x ∈ l, (kInt .u64).mem w B x) → ∃ m : List Nat, m.length = l.length ∧ m.map u64v = l.flatMap (kInt .u64).cells ∧ ∀ n ∈ m, n < 18446744073709551616
  | [], _ => ⟨[], rfl, rfl, by simp⟩
  | x :: l, h => by
    obtain ⟨m, h1, h2, h3⟩ := u64s_list (w := w) (B := B) l fun y hy => h y (by simp [hy])
    have hx : (Lit.int .u64 x).wf = true := h x (by simp)
    have hx2 : 0 ≤ x ∧ x < 18446744073709551616 := by
      have h1 : 0 ≤ x ∧ x ≤ 18446744073709551615 := by simpa [Lit.wf, IntKind.min, IntKind.max, IntKind.signed, IntKind.bits] using hx
      omega
    refine ⟨x.toNat :: m, by simp [h1], ?_, ?_⟩
    · rw [List.map_cons, List.flatMap_cons, ← h2]
      show [u64v x.toNat] ++ _ = [Value.int .u64 x] ++ _
      unfold u64v
      rw [Int.toNat_of_nonneg hx2.1]
    · intro n hn
      rcases List.mem_cons.1 hn with rfl | hn
      · omega
      · exact h3 n hn
theorem u64s_of {w : World} {B : Nat} {s : Sl Int} (h : kU64s.mem w B s) : ∃ l : List Nat, l.length = s.l.length ∧ Row w B 1 s.A l.length (l.map u64v) ∧ l.length ≤ s.c ∧ s.c ≤ 140737488351232 ∧ ∀ n ∈ l, n < 18446744073709551616 := by
  obtain ⟨m, h1, h2, h3⟩ := u64s_list s.l h.all
  have hroom := h.room
  have hcap := h.cap
  refine ⟨m, h1, ?_, by omega, by unfold reachBytes at hroom; omega, h3⟩
  rw [h2, h1]
  exact h.row
end Go.Proofs.Ytmalkgakdmghiaa
