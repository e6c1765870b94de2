import Derived.Test.YtmddgimadlmacaaMade
namespace Go.Proofs.Ytmddgimadlmacaa
open Go.RowKit Garner

/-- a manifest of zeros -/
def manZ : Value := .agg #[.int .i64 0, .int .i64 0, .int .u64 0, .int .i64 0, .slice none 0 0]

set_option maxRecDepth 100000 in
set_option maxHeartbeats 4000000 in
theorem vMade_no (ns : List Nat) (A : Option Addr) (c B : Nat) (w : World) (hr : Row w B 1 A ns.length (ns.map u64v)) (hB : B ≤ w.heap.size) (hl : ns.length ≤ 100000) (hno : ¬ madeOk ns) :
    Calls Try.prog 57 #[.slice A ns.length c] w fun e w' => e = .returned (.tuple #[manZ, .bool false]) ∧ Below w.heap.size w w' := by
  by_cases h5 : (ns.length : Int) < 5
  · clear hno
    go_enter Try.func57, Try.ntmps57
    go_wp2
    refine bodyPost_ret (v := .tuple #[manZ, .bool false]) (by simp [results, Try.results57, go_sem, manZ, *]) rfl ?_
    exact ⟨rfl, (Below.refl _ _).alloc (Nat.le_refl _) _⟩
  · obtain ⟨b, off, rfl, hb, hcell⟩ := hr.at_ (k := 4) (by omega)
    have c4 : w.cell? ⟨b, off + 4, none⟩ = some (.int .u64 (ns[4]?.getD 0 : Nat)) := by
      have := hcell 4 (by simp; omega); rw [List.getElem?_eq_getElem (by omega)]; simpa [u64v] using this
    have c4' : ∀ o : Obj, (w.alloc o).cell? ⟨b, off + 4, none⟩ = some (.int .u64 (ns[4]?.getD 0 : Nat)) := fun o => (World.cell?_alloc_lt w o ⟨b, off + 4, none⟩ (by show b < _; omega)).trans c4
    clear c4 hcell
    have hno' : ns[4]?.getD 0 ≠ (ns.length - 5) / 4 ∨ (ns[4]?.getD 0 = (ns.length - 5) / 4 ∧ ns.length % 4 ≠ 1) := by
      by_cases h : ns[4]?.getD 0 = (ns.length - 5) / 4
      · exact .inr ⟨h, fun h' => hno ⟨by omega, h, h'⟩⟩
      · exact .inl h
    generalize ns[4]?.getD 0 = x4 at *
    have i4 : (4 : Int) < ns.length := by omega
    clear hno
    rcases hno' with h | ⟨h, h'⟩
    · have t2 : ((x4 : Int) != ((ns.length : Int) - 5) / 4) = true := by rw [bne_iff_ne]; omega
      have H := Lib.hid h; clear h
      go_enter Try.func57, Try.ntmps57
      go_wp2
      refine bodyPost_ret (v := .tuple #[manZ, .bool false]) (by simp [results, Try.results57, go_sem, manZ, *]) rfl ?_
      exact ⟨rfl, (Below.refl _ _).alloc (Nat.le_refl _) _⟩
    · have t2 : ((x4 : Int) != ((ns.length : Int) - 5) / 4) = false := by rw [bne_eq_false_iff_eq]; omega
      have t3 : ((ns.length : Int) % 4 != 1) = true := by rw [bne_iff_ne]; omega
      have H := Lib.hid (And.intro h h'); clear h h'
      go_enter Try.func57, Try.ntmps57
      go_wp2
      refine bodyPost_ret (v := .tuple #[manZ, .bool false]) (by simp [results, Try.results57, go_sem, manZ, *]) rfl ?_
      exact ⟨rfl, (Below.refl _ _).alloc (Nat.le_refl _) _⟩
end Go.Proofs.Ytmddgimadlmacaa
