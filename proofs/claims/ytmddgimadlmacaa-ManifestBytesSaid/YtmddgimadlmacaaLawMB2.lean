import Derived.Test.YtmddgimadlmacaaLawMB
namespace Go.Proofs.Ytmddgimadlmacaa
open Go.RowKit Garner

structure S7 (n : Man) (A9 : Option Addr) (c9 : Nat) (A11 : Option Addr) (c11 g9 g11 B0 : Nat) (x : Bs) (A5 A7 : Option Addr) (w' : World) : Prop where
  a : Blk w' g9 25 [.int .i64 n.wal, .int .i64 n.next, .int .u64 n.seq, .int .i64 n.mark, .slice A9 n.segs.length c9]
  b : Blk w' g11 25 [.int .i64 n.wal, .int .i64 n.next, .int .u64 n.seq, .int .i64 n.mark, .slice A11 n.segs.length c11]
  hx : Bytes w' B0 A5 x.length x
  hy : Bytes w' B0 A7 x.length x
structure S12 (m : Man) (A9 : Option Addr) (c9 : Nat) (A : Option Addr) (c g9 g2 : Nat) (w' : World) : Prop where
  a : Blk w' g9 25 [.int .i64 m.wal, .int .i64 m.next, .int .u64 m.seq, .int .i64 m.mark, .slice A9 m.segs.length c9]
  b : Blk w' g2 25 [.int .i64 m.wal, .int .i64 m.next, .int .u64 m.seq, .int .i64 m.mark, .slice A m.segs.length c]
theorem neq_nat (k : Nat) (h : k ≠ 0) : ((k : Int) != 0) = true := by rw [bne_iff_ne]; omega
set_option maxRecDepth 100000 in
set_option maxHeartbeats 4000000 in
theorem lawMB (m : Man) (A : Option Addr) (c B : Nat) (l : Bs) (A1 : Option Addr) (c1 : Nat) (w : World) (hr : Segs w B A m.segs.length m.segs) (hw : m.wf) (hl : m.segs.length ≤ 140737488355328) (hbl : Bytes w B A1 l.length l) (hB : B ≤ w.heap.size) (hc1 : l.length ≤ c1) (hl1 : l.length ≤ 140737488355328) :
    Calls Try.prog 3 #[manV m A c, .slice A1 l.length c1] w fun e w' => e = .returned (.bool true) ∧ Below w.heap.size w w' := by
  have Hw := Lib.hid hw; clear hw
  go_enter Try.func3, Try.ntmps3
  go_wp2_with fail
  refine (vAwake _).mono ?_
  rintro e w1 ⟨rfl, hb1⟩
  simp only [World.size_alloc] at hb1
  have k2 : Blk w1 w.heap.size 25 [.int .i64 m.wal, .int .i64 m.next, .int .u64 m.seq, .int .i64 m.mark, .slice A m.segs.length c] := (Blk.new w _ _).below hb1 (by omega)
  have hb01 : Below w.heap.size w w1 := ((Below.refl w.heap.size w).alloc (Nat.le_refl _) _).trans (hb1.mono (Nat.le_succ _))
  clear hb1
  have s1 : w.heap.size + 1 ≤ w1.heap.size := k2.lt
  have p0 : w1.cell? ⟨w.heap.size, 0, none⟩ = some (.int .i64 m.wal) := k2.cell 0
  have p1 : w1.cell? ⟨w.heap.size, 1, none⟩ = some (.int .i64 m.next) := k2.cell 1
  have p2 : w1.cell? ⟨w.heap.size, 2, none⟩ = some (.int .u64 m.seq) := k2.cell 2
  have p3 : w1.cell? ⟨w.heap.size, 3, none⟩ = some (.int .i64 m.mark) := k2.cell 3
  have p4 : w1.cell? ⟨w.heap.size, 4, none⟩ = some (.slice A m.segs.length c) := k2.cell 4
  go_wp2_with fail
  refine (vWrite m A c B w1 (hr.below (hb01.mono hB)) (by omega) Hw.out hl).mono ?_
  rintro e w2 hpost
  obtain ⟨A5, c5, rfl, hc5, hrow5, hb2⟩ := WritePost.u hpost
  clear hpost p0 p1 p2 p3 p4
  have k2' := k2.below hb2 (by omega)
  have hb02 : Below w.heap.size w w2 := hb01.trans (hb2.mono (by omega))
  have s2 : w1.heap.size ≤ w2.heap.size := hb2.size
  clear k2 hb2 hb01
  have p0 : w2.cell? ⟨w.heap.size, 0, none⟩ = some (.int .i64 m.wal) := k2'.cell 0
  have p1 : w2.cell? ⟨w.heap.size, 1, none⟩ = some (.int .i64 m.next) := k2'.cell 1
  have p2 : w2.cell? ⟨w.heap.size, 2, none⟩ = some (.int .u64 m.seq) := k2'.cell 2
  have p3 : w2.cell? ⟨w.heap.size, 3, none⟩ = some (.int .i64 m.mark) := k2'.cell 3
  have p4 : w2.cell? ⟨w.heap.size, 4, none⟩ = some (.slice A m.segs.length c) := k2'.cell 4
  go_wp2_with fail
  refine (rWrite m A c B w2 (hr.below (hb02.mono hB)) (by omega) Hw.out hl).mono ?_
  rintro e w3 hpost
  obtain ⟨A7, c7, rfl, hc7, hrow7, hb3⟩ := WritePost.u hpost
  clear hpost p0 p1 p2 p3 p4
  have k3 := k2'.below hb3 (by omega)
  have hb03 : Below w.heap.size w w3 := hb02.trans (hb3.mono (by omega))
  have s3 : w2.heap.size ≤ w3.heap.size := hb3.size
  have r5 : Bytes w3 w3.heap.size A5 _ _ := (hrow5.below hb3).more s3
  clear k2' hb3 hb02 hrow5
  go_wp2_with fail
  refine (vMread l A1 c1 B w3 (hbl.below (hb03.mono hB)) (by omega) hc1 hl1).mono ?_
  rintro e w4 hpost
  obtain ⟨A9, c9, rfl, hs9', hn9, hb4⟩ := MreadPost.u hpost
  have hs9 := Row.of_own hs9'
  clear hpost hs9'
  have k4 := k3.below hb4 (by omega)
  have hb04 : Below w.heap.size w w4 := hb03.trans (hb4.mono (by omega))
  have s4 : w3.heap.size ≤ w4.heap.size := hb4.size
  have r5 := (r5.below hb4).more s4
  have r7 := (hrow7.below hb4).more s4
  clear k3 hb4 hb03 hrow7
  have hwl := wr_len m
  obtain ⟨n, hn⟩ : ∃ n, n = rdMan l := ⟨_, rfl⟩
  obtain ⟨x, hx⟩ : ∃ x, x = wrBytes m := ⟨_, rfl⟩
  obtain ⟨xe, hxe⟩ : ∃ k, k = wrErr m := ⟨_, rfl⟩
  obtain ⟨ne, hne⟩ : ∃ k, k = rdErr l := ⟨_, rfl⟩
  rw [← hn] at hs9 hn9
  rw [← hx] at r5 r7 hc5 hc7 hwl
  simp only [← hn, ← hx, ← hxe, ← hne]
  have Hn := Lib.hid hn; have Hx := Lib.hid hx; have Hxe := Lib.hid hxe; have Hne := Lib.hid hne
  clear hn hx hxe hne
  go_wp2_with fail
  obtain ⟨X4, hX4⟩ : ∃ X, X = w4.alloc (manBox n A9 c9) := ⟨_, rfl⟩
  change Calls _ _ _ (w4.alloc (manBox n A9 c9)) _
  rw [← hX4]
  have hbX : Below w4.heap.size w4 X4 := by rw [hX4]; exact (Below.refl _ _).alloc (Nat.le_refl _) _
  have k9 : Blk X4 w4.heap.size 25 [.int .i64 n.wal, .int .i64 n.next, .int .u64 n.seq, .int .i64 n.mark, .slice A9 n.segs.length c9] := by rw [hX4]; exact Blk.new _ _ _
  clear hX4
  have k5 := k4.below hbX k4.lt
  have hb05 := hb04.trans (hbX.mono hb04.size)
  have s5 : w4.heap.size ≤ X4.heap.size := hbX.size
  have q5 := (r5.below hbX).more s5
  have q7 := (r7.below hbX).more s5
  have q9 := (hs9.below hbX).more s5
  clear k4 hb04 r5 r7 hs9 hbX
  refine (rMread l A1 c1 B X4 (hbl.below (hb05.mono hB)) (by omega) hc1 hl1).mono ?_
  rintro e w5 hpost
  obtain ⟨A11, c11, rfl, hs11', _, hb6⟩ := MreadPost.u hpost
  have hs11 := Row.of_own hs11'
  clear hpost hs11'
  simp only [← Hn.out, ← Hne.out] at hs11 ⊢
  have s6 : X4.heap.size ≤ w5.heap.size := hb6.size
  have k9' := k9.below hb6 k9.lt
  have k6 := k5.below hb6 k5.lt
  have hb06 := hb05.trans (hb6.mono hb05.size)
  have r5 := (q5.below hb6).more s6
  have r7 := (q7.below hb6).more s6
  have r9 := (q9.below hb6).more s6
  clear k5 k9 hb05 q5 q7 q9 hb6
  have s9 : w4.heap.size < w5.heap.size := k9'.lt
  have hcv5 : ∀ (c' : Nat) (o : Obj), (convert 26 9 (.slice A5 x.length c')).run Try.prog (w5.alloc o) = .ok (.string ⟨x.toArray⟩) (w5.alloc o) := fun c' o => run_str (r5.alloc (Nat.le_refl _) o)
  have hcv7 : ∀ (c' : Nat) (o : Obj), (convert 26 9 (.slice A7 x.length c')).run Try.prog (w5.alloc o) = .ok (.string ⟨x.toArray⟩) (w5.alloc o) := fun c' o => run_str (r7.alloc (Nat.le_refl _) o)
  have y0 : w5.cell? ⟨w4.heap.size, 0, none⟩ = some (.int .i64 n.wal) := k9'.cell 0
  have y1 : w5.cell? ⟨w4.heap.size, 1, none⟩ = some (.int .i64 n.next) := k9'.cell 1
  have y2 : w5.cell? ⟨w4.heap.size, 2, none⟩ = some (.int .u64 n.seq) := k9'.cell 2
  have y3 : w5.cell? ⟨w4.heap.size, 3, none⟩ = some (.int .i64 n.mark) := k9'.cell 3
  have y4 : w5.cell? ⟨w4.heap.size, 4, none⟩ = some (.slice A9 n.segs.length c9) := k9'.cell 4
  go_wp2_with fail
  obtain ⟨X5, hX5⟩ : ∃ X, X = w5.alloc (manBox n A11 c11) := ⟨_, rfl⟩
  change Calls _ _ _ (w5.alloc (manBox n A11 c11)) _
  rw [← hX5]
  have hbX : Below w5.heap.size w5 X5 := by rw [hX5]; exact (Below.refl _ _).alloc (Nat.le_refl _) _
  clear hX5
  have k7 := k6.below hbX k6.lt
  have k9 := k9'.below hbX k9'.lt
  have hb07 := hb06.trans (hbX.mono hb06.size)
  have s7 : w5.heap.size ≤ X5.heap.size := hbX.size
  have q5 := (r5.below hbX).more s7
  have q9 := (r9.below hbX).more s7
  have q11 := (hs11.below hbX).more s7
  clear k6 k9' hb06 r5 r7 r9 hs11 hbX hcv5 hcv7 y0 y1 y2 y3 y4
  refine (rSame n A9 A11 c9 c11 X5.heap.size X5 q9 q11 (Nat.le_refl _) hn9).mono ?_
  rintro e w6 ⟨rfl, hb8⟩
  have s8 : X5.heap.size ≤ w6.heap.size := hb8.size
  have k8 := k7.below hb8 k7.lt
  have k9' := k9.below hb8 k9.lt
  have hb08 := hb07.trans (hb8.mono hb07.size)
  have r5 := (q5.below hb8).more s8
  clear k7 k9 hb07 q5 q9 q11 hb8
  by_cases h0 : xe = 0
  · subst h0
    have hwo := wr_ok (m := m) Hxe.out.symm
    rw [← Hx.out] at hwo
    have hrd := (mread_mwrite Hw.out hwo).1
    have hrm : rdMan x = m := by unfold rdMan; rw [hrd]; rfl
    have hre : rdErr x = 0 := by unfold rdErr; rw [hrd]; rfl
    have Hrm := Lib.hid hrm; have Hre := Lib.hid hre
    clear hwo hrd hrm hre
    go_wp2_with fail
    refine (vMread x A5 c5 w6.heap.size w6 r5 (Nat.le_refl _) hc5 (by omega)).mono ?_
    rintro e w7 hpost
    obtain ⟨A12, c12, rfl, hs12, _, hb9⟩ := MreadPost.u hpost
    clear hpost
    rw [Hrm.out] at hs12
    rw [Hrm.out, Hre.out]
    have k9 := k9'.below hb9 k9'.lt
    have k9b := k8.below hb9 k8.lt
    have hb09 := hb08.trans (hb9.mono hb08.size)
    have s10 : w4.heap.size < w7.heap.size := k9.lt
    have s11 : w.heap.size < w7.heap.size := k9b.lt
    have s12 : w.heap.size < w4.heap.size := by omega
    have v0 := k9.frozen 0; have v1 := k9.frozen 1; have v2 := k9.frozen 2; have v3 := k9.frozen 3; have v4 := k9.frozen 4
    have y0 : w7.cell? ⟨w4.heap.size, 0, none⟩ = some (.int .i64 n.wal) := k9.cell 0
    have y1 : w7.cell? ⟨w4.heap.size, 1, none⟩ = some (.int .i64 n.next) := k9.cell 1
    have y2 : w7.cell? ⟨w4.heap.size, 2, none⟩ = some (.int .u64 n.seq) := k9.cell 2
    have y3 : w7.cell? ⟨w4.heap.size, 3, none⟩ = some (.int .i64 n.mark) := k9.cell 3
    have y4 : w7.cell? ⟨w4.heap.size, 4, none⟩ = some (.slice A9 n.segs.length c9) := k9.cell 4
    have p0 : w7.cell? ⟨w.heap.size, 0, none⟩ = some (.int .i64 m.wal) := k9b.cell 0
    have p1 : w7.cell? ⟨w.heap.size, 1, none⟩ = some (.int .i64 m.next) := k9b.cell 1
    have p2 : w7.cell? ⟨w.heap.size, 2, none⟩ = some (.int .u64 m.seq) := k9b.cell 2
    have p3 : w7.cell? ⟨w.heap.size, 3, none⟩ = some (.int .i64 m.mark) := k9b.cell 3
    have p4 : w7.cell? ⟨w.heap.size, 4, none⟩ = some (.slice A m.segs.length c) := k9b.cell 4
    go_wp2_with fail
    have hownX := hs12
    have hownX := ownsRow_setCell_below hownX (a := ⟨w4.heap.size, 0, none⟩) (by show w4.heap.size < _; omega) (.int .i64 m.wal)
    have hownX := ownsRow_setCell_below hownX (a := ⟨w4.heap.size, 1, none⟩) (by show w4.heap.size < _; omega) (.int .i64 m.next)
    have hownX := ownsRow_setCell_below hownX (a := ⟨w4.heap.size, 2, none⟩) (by show w4.heap.size < _; omega) (.int .u64 m.seq)
    have hownX := ownsRow_setCell_below hownX (a := ⟨w4.heap.size, 3, none⟩) (by show w4.heap.size < _; omega) (.int .i64 m.mark)
    have hownX := ownsRow_setCell_below hownX (a := ⟨w4.heap.size, 4, none⟩) (by show w4.heap.size < _; omega) (.slice A12 m.segs.length c12)
    have hb10 := below_set5 hb09 (g := w4.heap.size) (by omega) (.int .i64 m.wal) (.int .i64 m.next) (.int .u64 m.seq) (.int .i64 m.mark) (.slice A12 m.segs.length c12)
    refine (rSame m A12 A c12 c _ _ (Row.of_own hownX) ((hr.below (hb10.mono hB)).more (Nat.le_trans hB hb10.size)) (Nat.le_refl _) hl).mono ?_
    rintro e w8 ⟨rfl, hb11⟩
    clear hownX
    have hb12 := hb10.trans (hb11.mono hb10.size)
    clear hb10 hb11
    go_wp2
    go_ret
    exact ⟨rfl, hb12⟩
  · have hne0 := neq_nat xe h0
    go_wp2
    go_ret
    exact ⟨rfl, hb08⟩
end Go.Proofs.Ytmddgimadlmacaa
