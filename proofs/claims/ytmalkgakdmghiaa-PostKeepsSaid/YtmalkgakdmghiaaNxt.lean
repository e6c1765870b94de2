import Derived.Test.YtmalkgakdmghiaaSek
/-! layer 11: Next, Len, nil receivers -/
namespace Go.Proofs.Ytmalkgakdmghiaa
open Go.RowKit Go.Shelf Garner

theorem seekR_nil0 (r : List Nat) : seekR 0 r = r := by
  cases r with
  | nil => rfl
  | cons x r => unfold seekR; rw [List.dropWhile_cons_of_neg (by simp)]

set_option maxRecDepth 100000 in
set_option maxHeartbeats 4000000 in
theorem vNext (l xs : List Nat) (k base I : Nat) (w : World) (hI : IterIs w base I l xs k) :
    Calls Try.prog 10 #[.pointer (some ⟨I, 0, none⟩)] w (SeekPost l 0 base I (xs ++ restB l k) w) := by
  go_enter Try.func10, Try.ntmps10
  go_wp2_with fail
  refine (vSeek l xs 0 k base I w hI (by omega)).mono ?_
  rintro e w' ⟨hb, xs', k', hI', hr, rfl⟩
  rw [seekR_nil0] at hr ⊢
  cases hx : xs ++ restB l k with
  | nil =>
    go_wp2
    go_ret2
    exact ⟨hb, xs', k', hI', by rw [hr, hx, seekR_nil0], by rw [seekR_nil0, hx]; rfl⟩
  | cons x r =>
    go_wp2
    go_ret2
    exact ⟨hb, xs', k', hI', by rw [hr, hx, seekR_nil0], by rw [seekR_nil0, hx]; rfl⟩
theorem vSeekNil (n : Int) (w : World) : Calls Try.prog 9 #[.pointer none, .int .u64 n] w fun e w' => e = .returned (.tuple #[.int .u64 0, .bool false]) ∧ Below w.heap.size w w' := by
  go_enter Try.func9, Try.ntmps9
  go_wp2
  go_ret2
  exact ⟨rfl, Below.refl _ _⟩
theorem vLen (l xs : List Nat) (k base I : Nat) (w : World) (hI : IterIs w base I l xs k) :
    Calls Try.prog 14 #[.pointer (some ⟨I, 0, none⟩)] w fun e w' => e = .returned (.int .i64 l.length) ∧ Below w.heap.size w w' := by
  obtain ⟨A, c, Ah, ch, Ao, co, h1, h2, h3, h4, h5, h6, h7, h8⟩ := hI.ex
  have c2 : w.cell? ⟨I, 2, none⟩ = some (.int .i64 l.length) := h4.cell 2
  go_enter Try.func14, Try.ntmps14
  go_wp2
  go_ret
  exact ⟨rfl, Below.refl _ _⟩
theorem vLenNil (w : World) : Calls Try.prog 14 #[.pointer none] w fun e w' => e = .returned (.int .i64 0) ∧ Below w.heap.size w w' := by
  go_enter Try.func14, Try.ntmps14
  go_wp2
  go_ret
  exact ⟨rfl, Below.refl _ _⟩
end Go.Proofs.Ytmalkgakdmghiaa
