import Derived.Test.YtmddgimadlmacaaMeth
namespace Go.Proofs.Ytmddgimadlmacaa
open Go.RowKit Garner

section
variable (nm : Bs) (g mp : Nat) (es : Files) (fl dn : Bool) (left : Int) (O : Nat → Prop) (w : World)
set_option maxRecDepth 100000 in
set_option maxHeartbeats 4000000 in
theorem vDread_no (hd : DiskIs O w g mp es fl dn left) (h0 : dmay [nmS nm] dn ≠ 0) :
    Calls Try.prog 22 #[.pointer (some ⟨g, 0, none⟩), .string (nmS nm)] w fun e w' => e = .returned (.tuple #[.slice none 0 0, .int .i64 (dmay [nmS nm] dn)]) ∧ Below w.heap.size w w' := by
  have hne := ne_nat _ h0
  clear h0
  go_enter Try.func22, Try.ntmps22
  go_wp2_with fail
  have hb0 : Below w.heap.size w (w.alloc (.cells #[.string (nmS nm)] 9)) := (Below.refl _ _).alloc (Nat.le_refl _) _
  refine (vDmay [nmS nm] (some ⟨w.heap.size, 0, none⟩) 1 (w.heap.size + 1) g mp fl dn left _ (row_new w 9 [.string (nmS nm)]) (by simp) (hd.below hb0).blk (by simp)).mono ?_
  rintro e w1 ⟨rfl, hb1⟩
  simp only [World.size_alloc] at hb1
  go_wp2
  go_ret2
  exact ⟨rfl, hb0.trans (hb1.mono (by omega))⟩
set_option maxRecDepth 100000 in
set_option maxHeartbeats 4000000 in
theorem vDread_none (hd : DiskIs O w g mp es fl dn left) (h0 : dmay [nmS nm] dn = 0) (hn : aget nm es = none) :
    Calls Try.prog 22 #[.pointer (some ⟨g, 0, none⟩), .string (nmS nm)] w fun e w' => e = .returned (.tuple #[.slice none 0 0, .int .i64 21]) ∧ Below w.heap.size w w' := by
  have hne : ((dmay [nmS nm] dn : Nat) : Int) = 0 := by omega
  have Hne := Lib.hid hne
  clear hne h0
  go_enter Try.func22, Try.ntmps22
  go_wp2_with fail
  have hb0 : Below w.heap.size w (w.alloc (.cells #[.string (nmS nm)] 9)) := (Below.refl _ _).alloc (Nat.le_refl _) _
  refine (vDmay [nmS nm] (some ⟨w.heap.size, 0, none⟩) 1 (w.heap.size + 1) g mp fl dn left _ (row_new w 9 [.string (nmS nm)]) (by simp) (hd.below hb0).blk (by simp)).mono ?_
  rintro e w1 ⟨rfl, hb1⟩
  rw [Hne.out]
  have hd1 := (hd.below hb0).below hb1
  simp only [World.size_alloc] at hb1
  have hbw : Below w.heap.size w w1 := hb0.trans (hb1.mono (by omega))
  have c0 : w1.cell? ⟨g, 0, none⟩ = some (.map (some mp)) := hd1.blk.cell 0
  have gl : g < w1.heap.size := hd1.blk.lt
  have hlook := hd1.look2 nm
  rw [hn] at hlook
  simp only [Option.isSome_none] at hlook
  clear hn hb0 hb1 hd
  go_wp2
  go_ret2
  exact ⟨rfl, hbw.alloc hbw.size _⟩
set_option maxRecDepth 100000 in
set_option maxHeartbeats 4000000 in
theorem vDread_ok (old : FileE) (hd : DiskIs O w g mp es fl dn left) (h0 : dmay [nmS nm] dn = 0) (hn : aget nm es = some old) :
    Calls Try.prog 22 #[.pointer (some ⟨g, 0, none⟩), .string (nmS nm)] w fun e w' => ∃ v, e = .returned (.tuple #[v, .int .i64 0]) ∧ OwnB w' w.heap.size v old.data ∧ Below w.heap.size w w' := by
  have hne : ((dmay [nmS nm] dn : Nat) : Int) = 0 := by omega
  have Hne := Lib.hid hne
  clear hne h0
  go_enter Try.func22, Try.ntmps22
  go_wp2_with fail
  have hb0 : Below w.heap.size w (w.alloc (.cells #[.string (nmS nm)] 9)) := (Below.refl _ _).alloc (Nat.le_refl _) _
  refine (vDmay [nmS nm] (some ⟨w.heap.size, 0, none⟩) 1 (w.heap.size + 1) g mp fl dn left _ (row_new w 9 [.string (nmS nm)]) (by simp) (hd.below hb0).blk (by simp)).mono ?_
  rintro e w1 ⟨rfl, hb1⟩
  rw [Hne.out]
  have hd1 := (hd.below hb0).below hb1
  simp only [World.size_alloc] at hb1
  have hbw : Below w.heap.size w w1 := hb0.trans (hb1.mono (by omega))
  have c0 : w1.cell? ⟨g, 0, none⟩ = some (.map (some mp)) := hd1.blk.cell 0
  have gl : g < w1.heap.size := hd1.blk.lt
  have hlook := hd1.look2 nm
  have hok := hd1.get nm
  rw [get_some hn] at hok
  rw [hn, get_some hn] at hlook
  simp only [Option.isSome_some] at hlook
  clear hn hb0 hb1 hd
  go_wp2_with fail
  refine (vClone old.data old.A old.c w1.heap.size _ (hok.row.alloc (Nat.le_refl _) _) (by simp) hok.len).mono ?_
  rintro e w2 ⟨v, rfl, hown, hb2⟩
  simp only [World.size_alloc] at hown hb2
  have hw1 := hbw.size
  have hb02 : Below w.heap.size w w2 := (hbw.alloc hw1 _).trans (hb2.mono (by omega))
  go_wp2
  go_ret2
  exact ⟨v, rfl, own_mono hown (by omega), hb02⟩
set_option maxRecDepth 100000 in
set_option maxHeartbeats 4000000 in
theorem vList_no (hd : DiskIs O w g mp es fl true left) :
    Calls Try.prog 26 #[.pointer (some ⟨g, 0, none⟩)] w fun e w' => e = .returned (.tuple #[.slice none 0 0, .int .i64 23]) ∧ Below w.heap.size w w' := by
  go_enter Try.func26, Try.ntmps26
  go_wp2_with fail
  refine (vDmay [] none 0 0 g mp fl true left _ Row.none_ (by simp) hd.blk (by simp)).mono ?_
  rintro e w1 ⟨rfl, hb1⟩
  have hm : dmay [] true = 23 := rfl
  rw [hm]
  go_wp2
  go_ret2
  exact ⟨rfl, hb1⟩
set_option maxRecDepth 100000 in
set_option maxHeartbeats 4000000 in
theorem vList_ok (hd : DiskIs O w g mp es fl false left) (hn : es.length * 16 ≤ 140737488351232) :
    Calls Try.prog 26 #[.pointer (some ⟨g, 0, none⟩)] w fun e w' => ∃ v, e = .returned (.tuple #[v, .int .i64 0]) ∧ w'.ownsRow w.heap.size 9 1 v es.length ((sortN (es.map (·.1))).map strV) ∧ Below w.heap.size w w' := by
  go_enter Try.func26, Try.ntmps26
  go_wp2_with fail
  refine (vDmay [] none 0 0 g mp fl false left _ Row.none_ (by simp) hd.blk (by simp)).mono ?_
  rintro e w1 ⟨rfl, hb1⟩
  have hm : dmay [] false = 0 := rfl
  rw [hm]
  have hd1 := hd.below hb1
  have hl : es.al.length = es.length := List.length_map ..
  have hk : es.al.map (·.1) = es.map (·.1) := by unfold Files.al; rw [List.map_map]; rfl
  have hnames := vNames g mp es.al fl false left w1 hd1.blk hd1.map (by omega)
  rw [hk, hl] at hnames
  have Hnames := Lib.hid hnames
  clear hnames hl hk
  go_wp2_with fail
  refine Hnames.out.mono ?_
  rintro e w2 ⟨v, rfl, hown, hb2⟩
  have hs := hb1.size
  go_wp2
  go_ret2
  exact ⟨v, rfl, own_mono hown (by omega), hb1.trans (hb2.mono (by omega))⟩
set_option maxRecDepth 100000 in
set_option maxHeartbeats 4000000 in
theorem vFill (b : Bool) (hd : DiskIs O w g mp es fl dn left) :
    Calls Try.prog 27 #[.pointer (some ⟨g, 0, none⟩), .bool b] w fun e w' => e = .returned (.tuple #[]) ∧ DiskIs O w' g mp es b dn left ∧ But [g, mp] w w' := by
  have c1 : w.cell? ⟨g, 1, none⟩ = some (.bool fl) := hd.blk.cell 1
  have f1 := hd.blk.frozen 1
  go_enter Try.func27, Try.ntmps27
  go_wp2
  go_end0
  have hb : But [g] w (w.setCell ⟨g, 1, none⟩ (.bool b)) := (But.refl _ _).setCell (by simp) _
  exact ⟨rfl, hd.box hb (hd.blk.set_ 1 (.bool b)) hd.lo hd.hi, But.two1 hb⟩
set_option maxRecDepth 100000 in
set_option maxHeartbeats 4000000 in
theorem vDown (hd : DiskIs O w g mp es fl dn left) :
    Calls Try.prog 25 #[.pointer (some ⟨g, 0, none⟩)] w fun e w' => e = .returned (.bool dn) ∧ Below w.heap.size w w' := by
  have c2 : w.cell? ⟨g, 2, none⟩ = some (.bool dn) := hd.blk.cell 2
  go_enter Try.func25, Try.ntmps25
  go_wp2
  go_ret
  exact ⟨rfl, Below.refl _ _⟩
set_option maxRecDepth 100000 in
set_option maxHeartbeats 4000000 in
theorem vArm_no (n : Int) (hd : DiskIs O w g mp es fl true left) :
    Calls Try.prog 23 #[.pointer (some ⟨g, 0, none⟩), .int .i64 n] w fun e w' => e = .returned (.tuple #[]) ∧ Below w.heap.size w w' := by
  have c2 : w.cell? ⟨g, 2, none⟩ = some (.bool true) := hd.blk.cell 2
  go_enter Try.func23, Try.ntmps23
  go_wp2
  refine bodyPost_ret (results_none rfl _ _ _) rfl ?_
  exact ⟨rfl, Below.refl _ _⟩
set_option maxRecDepth 100000 in
set_option maxHeartbeats 4000000 in
theorem vArm_ok (n : Int) (hn1 : -9223372036854775808 ≤ n) (hn2 : n ≤ 9223372036854775807) (hd : DiskIs O w g mp es fl false left) :
    Calls Try.prog 23 #[.pointer (some ⟨g, 0, none⟩), .int .i64 n] w fun e w' => e = .returned (.tuple #[]) ∧ DiskIs O w' g mp es fl (decide (n = 0)) (max n (-1)) ∧ But [g, mp] w w' := by
  have c2 : w.cell? ⟨g, 2, none⟩ = some (.bool false) := hd.blk.cell 2
  have c3 : w.cell? ⟨g, 3, none⟩ = some (.int .i64 left) := hd.blk.cell 3
  have f2 := hd.blk.frozen 2; have f3 := hd.blk.frozen 3
  go_enter Try.func23, Try.ntmps23
  go_wp2
  go_end0
  have e1 : (n == 0) = decide (n = 0) := rfl
  have hb : But [g] w ((w.setCell ⟨g, 3, none⟩ (.int .i64 (max n (-1)))).setCell ⟨g, 2, none⟩ (.bool (n == 0))) := ((But.refl _ _).setCell (by simp) _).setCell (by simp) _
  exact ⟨rfl, hd.box hb ((hd.blk.set_ 3 (.int .i64 (max n (-1)))).set_ 2 (.bool (n == 0))) (by omega) (by omega), But.two1 hb⟩
end
end Go.Proofs.Ytmddgimadlmacaa
