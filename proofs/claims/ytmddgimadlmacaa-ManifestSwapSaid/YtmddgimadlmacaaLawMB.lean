import Derived.Test.YtmddgimadlmacaaAwake
namespace Go.Proofs.Ytmddgimadlmacaa
open Go.RowKit Garner

def zeroMan : Man := { wal := 0, next := 0, seq := 0, mark := 0, segs := [] }
def wrBytes (m : Man) : Bs := match mwrite m with | .ok f => f | .error _ => []
def wrErr (m : Man) : Nat := match mwrite m with | .ok _ => 0 | .error k => k
def rdMan (l : Bs) : Man := (mreadP l).getD zeroMan
def rdErr (l : Bs) : Nat := if (mreadP l).isSome then 0 else 30
/-- what Write answers, of whatever manifest -/
def WriteU (w : World) (m : Man) (e : Ending) (w' : World) : Prop :=
  ∃ A c, e = .returned (.tuple #[.slice A (wrBytes m).length c, .int .i64 (wrErr m)]) ∧ (wrBytes m).length ≤ c ∧ Bytes w' w'.heap.size A (wrBytes m).length (wrBytes m) ∧ Below w.heap.size w w'
theorem WritePost.u {w : World} {m : Man} {e : Ending} {w' : World} (h : WritePost w (mwrite m) e w') : WriteU w m e w' := by
  unfold WriteU wrBytes wrErr
  cases hm : mwrite m with
  | error k => rw [hm] at h; exact ⟨none, 0, h.1, by simp, Row.none_, h.2⟩
  | ok f =>
    rw [hm] at h
    obtain ⟨v, rfl, hown, hb⟩ := h
    obtain ⟨A, c, rfl, hc, hrow⟩ := OwnB.shapeC hown
    exact ⟨A, c, rfl, hc, hrow, hb⟩
theorem wrErr_pos {m : Man} (h : wrErr m ≠ 0) : wrBytes m = [] := by
  unfold wrErr at h; unfold wrBytes
  cases hm : mwrite m with
  | error k => rfl
  | ok f => rw [hm] at h; exact absurd rfl h
theorem wr_ok {m : Man} (h : wrErr m = 0) : mwrite m = .ok (wrBytes m) := by
  unfold wrErr at h; unfold wrBytes
  cases hm : mwrite m with
  | error k =>
    rw [hm] at h
    subst h
    unfold mwrite at hm
    split at hm
    · unfold Garner.frame at hm
      split at hm
      · cases hm
      · cases hm
    · cases hm
  | ok f => rfl
theorem wr_len (m : Man) : (wrBytes m).length ≤ 70000 := by
  unfold wrBytes
  cases hm : mwrite m with
  | error k => simp
  | ok f => exact mwrite_len hm
/-- what Read answers, of whatever bytes -/
def ReadU (w : World) (l : Bs) (e : Ending) (w' : World) : Prop :=
  ∃ A c, e = .returned (.tuple #[manV (rdMan l) A c, .int .i64 (rdErr l)]) ∧ w'.ownsRow w.heap.size 36 4 (.slice A (rdMan l).segs.length c) (rdMan l).segs.length (segCells (rdMan l).segs) ∧ (rdMan l).segs.length ≤ 140737488355328 ∧ Below w.heap.size w w'
theorem mreadP_may {l : Bs} {m : Man} (h : mreadP l = some m) : may m := by
  unfold mreadP at h
  split at h
  · cases h
  · split at h
    · cases h
    · split at h
      · cases h
      · split at h
        · rename_i hh
          injection h with h
          rw [← h]; exact hh.2
        · cases h
theorem rd_len (l : Bs) : (rdMan l).segs.length ≤ 140737488355328 := by
  unfold rdMan
  cases hm : mreadP l with
  | none => simp [zeroMan]
  | some m =>
    have h := mreadP_may hm
    have := h.2.2.2.2.1
    simp only [Option.getD_some]
    omega
theorem MreadPost.u {w : World} {l : Bs} {e : Ending} {w' : World} (h : MreadPost w (mreadP l) e w') : ReadU w l e w' := by
  have hl := rd_len l
  unfold ReadU
  revert hl
  unfold rdMan rdErr
  cases hm : mreadP l with
  | none => intro hl; rw [hm] at h; exact ⟨none, 0, h.1, World.ownsRow_nil _ _ _ _, hl, h.2⟩
  | some m =>
    intro hl
    rw [hm] at h
    obtain ⟨A, c, rfl, hown, hb⟩ := h
    exact ⟨A, c, rfl, hown, hl, hb⟩
end Go.Proofs.Ytmddgimadlmacaa
