import Derived.Test.YtmddgimadlmacaaMade2
import Derived.Test.YtmddgimadlmacaaPure3
namespace Go.Proofs.Ytmddgimadlmacaa
open Go.RowKit Garner

theorem fread_err {b : Bs} {i k : Nat} (h : fread b i = .error k) : k ≠ 0 := by
  unfold fread at h
  split at h
  · rename_i e he
    injection h with h; subst h
    have := vget_err he; omega
  · split at h
    · injection h with h; omega
    · split at h
      · injection h with h; omega
      · split at h
        · cases h
        · injection h with h; omega
theorem below_set5 {B g : Nat} {w w1 : World} (h : Below B w w1) (hg : B ≤ g) (a b c d e : Value) : Below B w (((((w1.setCell ⟨g, 0, none⟩ a).setCell ⟨g, 1, none⟩ b).setCell ⟨g, 2, none⟩ c).setCell ⟨g, 3, none⟩ d).setCell ⟨g, 4, none⟩ e) :=
  ((((h.setCell hg _).setCell hg _).setCell hg _).setCell hg _).setCell hg _
def MreadPost (w : World) (r : Option Man) (e : Ending) (w' : World) : Prop :=
  match r with
  | none => e = .returned (.tuple #[manZ, .int .i64 30]) ∧ Below w.heap.size w w'
  | some m => ∃ A c, e = .returned (.tuple #[manV m A c, .int .i64 0]) ∧ w'.ownsRow w.heap.size 36 4 (.slice A m.segs.length c) m.segs.length (segCells m.segs) ∧ Below w.heap.size w w'

set_option maxRecDepth 100000 in
set_option maxHeartbeats 4000000 in
theorem vMread1 (l : List UInt8) (A : Option Addr) (c B : Nat) (w : World) (hr : Bytes w B A l.length l) (hB : B ≤ w.heap.size) (hc : l.length ≤ c) (hl : l.length ≤ 140737488355328) (k : Nat) (hv : fread l 0 = .error k) :
    Calls Try.prog 14 #[.slice A l.length c] w fun e w' => MreadPost w none e w' := by
  have hread := fun (o : Obj) => vRead l A c B (w.alloc o) 0 (hr.alloc hB o) (by simp; omega) hc (by omega) hl
  rw [hv] at hread
  have hk : ((k : Int) == 0) = false := by rw [beq_eq_false_iff_ne]; have := fread_err hv; omega
  have hk' : ((k : Int) != 0) = true := by rw [bne_iff_ne]; have := fread_err hv; omega
  have Hread := Lib.hid hread; clear hread hv
  go_enter Try.func14, Try.ntmps14
  go_wp2_with fail
  refine (Hread.out _).mono ?_
  rintro e w1 ⟨rfl, hb1⟩
  simp only [World.size_alloc] at hb1
  have hres : Blk w1 w.heap.size 25 [.int .i64 0, .int .i64 0, .int .u64 0, .int .i64 0, .slice none 0 0] := (Blk.new w _ _).below hb1 (by omega)
  have hbw : Below w.heap.size w w1 := ((Below.refl w.heap.size w).alloc (Nat.le_refl _) _).trans (hb1.mono (Nat.le_succ _))
  have v0 := hres.frozen 0; have v1 := hres.frozen 1; have v2 := hres.frozen 2; have v3 := hres.frozen 3; have v4 := hres.frozen 4
  have r0 := hres.cell 0; have r1 := hres.cell 1; have r2 := hres.cell 2; have r3 := hres.cell 3; have r4 := hres.cell 4
  simp only [List.getElem?_cons_zero, List.getElem?_cons_succ] at r0 r1 r2 r3 r4
  go_wp2
  refine bodyPost_ret (v := .tuple #[manZ, .int .i64 30]) (by simp [results, Try.results14, go_sem, manZ, *]) rfl ?_
  refine ⟨rfl, ?_⟩
  exact below_set5 hbw (Nat.le_refl _) _ _ _ _ _
set_option maxRecDepth 100000 in
set_option maxHeartbeats 4000000 in
theorem vMread2 (l : List UInt8) (A : Option Addr) (c B : Nat) (w : World) (hr : Bytes w B A l.length l) (hB : B ≤ w.heap.size) (hc : l.length ≤ c) (hl : l.length ≤ 140737488355328) (p : Bs) (to : Nat) (hv : fread l 0 = .ok (p, to)) (hto : to ≠ l.length) :
    Calls Try.prog 14 #[.slice A l.length c] w fun e w' => MreadPost w none e w' := by
  have hread := fun (o : Obj) => vRead l A c B (w.alloc o) 0 (hr.alloc hB o) (by simp; omega) hc (by omega) hl
  rw [hv] at hread
  have hto' : ((to : Int) != (l.length : Int)) = true := by rw [bne_iff_ne]; omega
  have Hread := Lib.hid hread; clear hread hv
  go_enter Try.func14, Try.ntmps14
  go_wp2_with fail
  refine (Hread.out _).mono ?_
  rintro e w1 ⟨v, rfl, hown, hb1⟩
  simp only [World.size_alloc] at hb1 hown
  have hres : Blk w1 w.heap.size 25 [.int .i64 0, .int .i64 0, .int .u64 0, .int .i64 0, .slice none 0 0] := (Blk.new w _ _).below hb1 (by omega)
  have hbw : Below w.heap.size w w1 := ((Below.refl w.heap.size w).alloc (Nat.le_refl _) _).trans (hb1.mono (Nat.le_succ _))
  have v0 := hres.frozen 0; have v1 := hres.frozen 1; have v2 := hres.frozen 2; have v3 := hres.frozen 3; have v4 := hres.frozen 4
  have r0 := hres.cell 0; have r1 := hres.cell 1; have r2 := hres.cell 2; have r3 := hres.cell 3; have r4 := hres.cell 4
  simp only [List.getElem?_cons_zero, List.getElem?_cons_succ] at r0 r1 r2 r3 r4
  clear hown
  go_wp2
  refine bodyPost_ret (v := .tuple #[manZ, .int .i64 30]) (by simp [results, Try.results14, go_sem, manZ, *]) rfl ?_
  refine ⟨rfl, ?_⟩
  exact below_set5 hbw (Nat.le_refl _) _ _ _ _ _
end Go.Proofs.Ytmddgimadlmacaa
