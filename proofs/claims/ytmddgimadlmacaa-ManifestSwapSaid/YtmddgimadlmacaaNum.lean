import Derived.Test.YtmddgimadlmacaaMread2
import Derived.Test.YtmddgimadlmacaaPure4
import Derived.Test.YtmddgimadlmacaaRead2
namespace Go.Proofs.Ytmddgimadlmacaa
open Go.RowKit Garner

set_option maxHeartbeats 1000000 in
theorem rNumber (ns : List Nat) (A : Option Addr) (c B : Nat) (w : World) (i : Nat) (z : Int) (hz : z = (i : Int)) (hr : Row w B 1 A ns.length (ns.map u64v)) (hi : i < ns.length) (hn : ((ns[i]?.getD 0 : Nat) : Int) ≤ 18446744073709551615) :
    Calls Try.prog 60 #[.slice A ns.length c, .int .i64 z] w fun e w' => e = .returned (.int .i64 (numN (ns[i]?.getD 0))) ∧ w' = w := by
  subst hz
  obtain ⟨b, off, rfl, hb, hcell⟩ := hr.at_ (k := i) (by omega)
  have c4 : w.cell? ⟨b, off + i, none⟩ = some (.int .u64 (ns[i]?.getD 0 : Nat)) := by
    have := hcell i (by simpa using hi); rw [List.getElem?_eq_getElem hi]; simpa [u64v] using this
  clear hcell
  generalize ns[i]?.getD 0 = x4 at *
  have i4 : (i : Int) < ns.length := by omega
  by_cases h : (2000000000 : Int) < x4
  all_goals
    go_enter Try.func60, Try.ntmps60
    go_wp2
    all_goals
      go_ret
      refine ⟨congrArg (fun z : Int => Ending.returned (.int .i64 z)) ?_, rfl⟩
      unfold numN
      first | (rw [if_pos (by omega)]; done) | (rw [if_pos (by omega)]; omega) | (rw [if_neg (by omega)]; done) | (rw [if_neg (by omega)]; omega)
theorem mwrite_err {m : Man} {k : Nat} (h : mwrite m = .error k) : k ≠ 0 := by
  unfold mwrite at h
  split at h
  · unfold frame at h
    split at h
    · injection h with h; omega
    · cases h
  · injection h with h; omega
theorem rZagS (n : Nat) (w : World) (h2 : (n : Int) ≤ 18446744073709551615) :
    Calls Try.prog 61 #[.int .u64 n] w fun e w' => e = .returned (.int .i64 (zag n)) ∧ w' = w := (rZag n w h2).mono fun _ _ h => ⟨h.1, h.2.symm⟩

set_option maxRecDepth 100000 in
set_option maxHeartbeats 4000000 in
theorem rMread1 (l : List UInt8) (A : Option Addr) (c B : Nat) (w : World) (hr : Bytes w B A l.length l) (hB : B ≤ w.heap.size) (hc : l.length ≤ c) (hl : l.length ≤ 140737488355328) (k : Nat) (hv : fread l 0 = .error k) :
    Calls Try.prog 15 #[.slice A l.length c] w fun e w' => MreadPost w none e w' := by
  have hread := fun (o : Obj) => rRead l A c B (w.alloc o) 0 (hr.alloc hB o) (by simp; omega) hc (by omega) hl
  rw [hv] at hread
  have hk : ((k : Int) == 0) = false := by rw [beq_eq_false_iff_ne]; have := fread_err hv; omega
  have hk' : ((k : Int) != 0) = true := by rw [bne_iff_ne]; have := fread_err hv; omega
  have Hread := Lib.hid hread; clear hread hv
  go_enter Try.func15, Try.ntmps15
  go_wp2_with fail
  refine (Hread.out _).mono ?_
  rintro e w1 ⟨rfl, hb1⟩
  simp only [World.size_alloc] at hb1
  have hres : Blk w1 w.heap.size 25 [.int .i64 0, .int .i64 0, .int .u64 0, .int .i64 0, .slice none 0 0] := (Blk.new w _ _).below hb1 (by omega)
  have hbw : Below w.heap.size w w1 := ((Below.refl w.heap.size w).alloc (Nat.le_refl _) _).trans (hb1.mono (Nat.le_succ _))
  have v0 := hres.frozen 0; have v1 := hres.frozen 1; have v2 := hres.frozen 2; have v3 := hres.frozen 3; have v4 := hres.frozen 4
  have r0 := hres.cell 0; have r1 := hres.cell 1; have r2 := hres.cell 2; have r3 := hres.cell 3; have r4 := hres.cell 4
  simp only [List.getElem?_cons_zero, List.getElem?_cons_succ] at r0 r1 r2 r3 r4
  go_wp2
  refine bodyPost_ret (v := .tuple #[manZ, .int .i64 30]) (by simp [results, Try.results15, go_sem, manZ, *]) rfl ?_
  refine ⟨rfl, ?_⟩
  exact below_set5 hbw (Nat.le_refl _) _ _ _ _ _
end Go.Proofs.Ytmddgimadlmacaa
