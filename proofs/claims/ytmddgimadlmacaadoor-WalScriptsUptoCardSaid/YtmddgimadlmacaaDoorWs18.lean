import Derived.Test.YtmddgimadlmacaaDoorWs17
namespace Go.Proofs.YtmddgimadlmacaaDoor
open Go.RowKit Garner

theorem get_some {es : Files} {nm : Bs} {e : FileE} (h : aget nm es = some e) : es.get nm = e := by unfold Files.get; rw [h]; rfl
section
variable (nm nm2 : Bs) (g mp : Nat) (es : Files) (fl dn : Bool) (left : Int) (O : Nat → Prop) (w : World)
set_option maxRecDepth 100000 in
set_option maxHeartbeats 4000000 in
theorem vSync_no (hd : DiskIs O w g mp es fl dn left) (h0 : dmay [nmS nm] dn ≠ 0) :
    Calls Tryd.prog 50 #[.pointer (some ⟨g, 0, none⟩), .string (nmS nm)] w fun e w' => e = .returned (.int .i64 (dmay [nmS nm] dn)) ∧ DiskIs O w' g mp es fl dn left ∧ But [g, mp] w w' := by
  have hne := ne_nat _ h0
  have e1 := chgL_no (left := left) h0
  have e2 := chgD_no (left := left) h0
  have E1 := Lib.hid e1; have E2 := Lib.hid e2
  clear e1 e2 h0
  go_enter Tryd.func50, Tryd.ntmps50
  go_wp2_with fail
  have hb0 : Below w.heap.size w (w.alloc (.cells #[.string (nmS nm)] 9)) := (Below.refl _ _).alloc (Nat.le_refl _) _
  refine (vChange [nmS nm] (some ⟨w.heap.size, 0, none⟩) 1 (w.heap.size + 1) g mp es fl dn left O _ (row_new w 9 [.string (nmS nm)]) (by simp) (hd.below hb0) (by simp)).mono ?_
  rintro e w1 ⟨rfl, hd1, hb1⟩
  rw [E1.out, E2.out] at hd1
  go_wp2
  go_ret
  exact ⟨rfl, hd1, (But.two0 hb0).trans (But.two1 hb1)⟩
set_option maxRecDepth 100000 in
set_option maxHeartbeats 4000000 in
theorem vSync_none (hd : DiskIs O w g mp es fl dn left) (h0 : dmay [nmS nm] dn = 0) (hn : aget nm es = none) :
    Calls Tryd.prog 50 #[.pointer (some ⟨g, 0, none⟩), .string (nmS nm)] w fun e w' => e = .returned (.int .i64 21) ∧ DiskIs O w' g mp es fl (chgD [nmS nm] dn left) (chgL [nmS nm] dn left) ∧ But [g, mp] w w' := by
  have hne : ((dmay [nmS nm] dn : Nat) : Int) = 0 := by omega
  have Hne := Lib.hid hne
  clear hne h0
  go_enter Tryd.func50, Tryd.ntmps50
  go_wp2_with fail
  have hb0 : Below w.heap.size w (w.alloc (.cells #[.string (nmS nm)] 9)) := (Below.refl _ _).alloc (Nat.le_refl _) _
  refine (vChange [nmS nm] (some ⟨w.heap.size, 0, none⟩) 1 (w.heap.size + 1) g mp es fl dn left O _ (row_new w 9 [.string (nmS nm)]) (by simp) (hd.below hb0) (by simp)).mono ?_
  rintro e w1 ⟨rfl, hd1, hb1⟩
  rw [Hne.out]
  have hb01 : But [g, mp] w w1 := (But.two0 hb0).trans (But.two1 hb1)
  obtain ⟨dn1, hdn1⟩ : ∃ x, x = chgD [nmS nm] dn left := ⟨_, rfl⟩
  obtain ⟨left1, hleft1⟩ : ∃ x, x = chgL [nmS nm] dn left := ⟨_, rfl⟩
  rw [← hdn1, ← hleft1] at hd1
  have Hdn := Lib.hid hdn1; have Hleft := Lib.hid hleft1
  have ml := MapIs.lt hd1.map
  have gl : g < w1.heap.size := hd1.blk.lt
  have c0 : w1.cell? ⟨g, 0, none⟩ = some (.map (some mp)) := hd1.blk.cell 0
  have hlook := hd1.look2 nm
  clear hdn1 hleft1 hd hb0 hb1
  rw [hn] at hlook
  simp only [Option.isSome_none] at hlook
  clear hn
  go_wp2
  go_ret
  rw [← Hdn.out, ← Hleft.out]
  exact ⟨rfl, hd1.below ((Below.refl _ _).alloc (Nat.le_refl _) _), hb01.alloc _⟩
structure SG (g mp gf : Nat) (fl dn : Bool) (left : Int) (fs : List Value) (w' : World) : Prop where
  a : Blk w' g 76 (diskV mp fl dn left)
  b : Blk w' gf 79 fs
set_option maxRecDepth 100000 in
set_option maxHeartbeats 4000000 in
theorem vSync_ok (old : FileE) (hd : DiskIs O w g mp es fl dn left) (h0 : dmay [nmS nm] dn = 0) (hn : aget nm es = some old) :
    Calls Tryd.prog 50 #[.pointer (some ⟨g, 0, none⟩), .string (nmS nm)] w fun e w' => e = .returned (.int .i64 0) ∧ DiskIs O w' g mp (aput nm ⟨old.A, old.c, old.data, old.data.length⟩ es) fl (chgD [nmS nm] dn left) (chgL [nmS nm] dn left) ∧ But [g, mp] w w' := by
  have hne : ((dmay [nmS nm] dn : Nat) : Int) = 0 := by omega
  have Hne := Lib.hid hne
  clear hne h0
  go_enter Tryd.func50, Tryd.ntmps50
  go_wp2_with fail
  have hb0 : Below w.heap.size w (w.alloc (.cells #[.string (nmS nm)] 9)) := (Below.refl _ _).alloc (Nat.le_refl _) _
  refine (vChange [nmS nm] (some ⟨w.heap.size, 0, none⟩) 1 (w.heap.size + 1) g mp es fl dn left O _ (row_new w 9 [.string (nmS nm)]) (by simp) (hd.below hb0) (by simp)).mono ?_
  rintro e w1 ⟨rfl, hd1, hb1⟩
  rw [Hne.out]
  have hb01 : But [g, mp] w w1 := (But.two0 hb0).trans (But.two1 hb1)
  obtain ⟨dn1, hdn1⟩ : ∃ x, x = chgD [nmS nm] dn left := ⟨_, rfl⟩
  obtain ⟨left1, hleft1⟩ : ∃ x, x = chgL [nmS nm] dn left := ⟨_, rfl⟩
  rw [← hdn1, ← hleft1] at hd1
  have Hdn := Lib.hid hdn1; have Hleft := Lib.hid hleft1
  have ml := MapIs.lt hd1.map
  have gl : g < w1.heap.size := hd1.blk.lt
  have c0 : w1.cell? ⟨g, 0, none⟩ = some (.map (some mp)) := hd1.blk.cell 0
  have hlook := hd1.look2 nm
  clear hdn1 hleft1 hd hb0 hb1
  rw [hn, get_some hn] at hlook
  simp only [Option.isSome_some] at hlook
  have hok := hd1.get nm
  rw [get_some hn] at hok
  clear hn
  go_wp2_with fail
  obtain ⟨X, hX⟩ : ∃ X, X = w1.alloc (.cells #[.slice old.A old.data.length old.c, .int .i64 old.data.length] 79) := ⟨_, rfl⟩
  rw [← hX]
  have hbX : Below w1.heap.size w1 X := by rw [hX]; exact (Below.refl _ _).alloc (Nat.le_refl _) _
  have kf : Blk X w1.heap.size 79 [.slice old.A old.data.length old.c, .int .i64 old.data.length] := by rw [hX]; exact Blk.new w1 _ [.slice old.A old.data.length old.c, .int .i64 old.data.length]
  clear hX hlook c0
  have hdX := hd1.below hbX
  have hokX := hok.but (S := []) (But.of_below hbX) (by simp)
  have hokN : FileOk O X ⟨old.A, old.c, old.data, old.data.length⟩ := ⟨hokX.row, hokX.own, hokX.cap, Nat.le_refl _, hokX.len, hokX.typ⟩
  obtain ⟨w5, hrun, hd5, hb5⟩ := DiskIs.put (w := X.drew) (hdX.below (Below.refl _ _).drew) nm _ (hokN.but (S := []) (But.refl _ _).drew (by simp))
  simp only [FileE.v] at hrun
  have hS0 : SG g mp w1.heap.size fl dn1 left1 [.slice old.A old.data.length old.c, .int .i64 old.data.length] X.drew := ⟨hdX.blk, kf⟩
  have z0 : ∀ w' : World, SG g mp w1.heap.size fl dn1 left1 [.slice old.A old.data.length old.c, .int .i64 old.data.length] w' → w'.cell? ⟨g, 0, none⟩ = some (.map (some mp)) := fun w' h => h.a.cell 0
  have y0 : ∀ w' : World, SG g mp w1.heap.size fl dn1 left1 [.slice old.A old.data.length old.c, .int .i64 old.data.length] w' → w'.cell? ⟨w1.heap.size, 0, none⟩ = some (.slice old.A old.data.length old.c) := fun w' h => h.b.cell 0
  have y1 : ∀ w' : World, SG g mp w1.heap.size fl dn1 left1 [.slice old.A old.data.length old.c, .int .i64 old.data.length] w' → w'.cell? ⟨w1.heap.size, 1, none⟩ = some (.int .i64 old.data.length) := fun w' h => h.b.cell 1
  refine wp_region_N (SG g mp w1.heap.size fl dn1 left1 [.slice old.A old.data.length old.c, .int .i64 old.data.length]) 6 (by kernel_rfl) ?_
  apply wpAnyN_takeL 0 (by kernel_rfl) rfl (fun _ _ _ h => h) (by kernel_rfl) hS0
  · intro w' hS'
    go_simp; exact ⟨rfl, rfl⟩
  (try simp only [Act.put]); (try simp only [List.setIfInBounds_toArray]); (try simp only [List.set])
  apply wpAnyN_takeL 1 (by kernel_rfl) rfl (fun _ _ _ h => h) (by kernel_rfl) hS0
  · intro w' hS'
    go_simp; exact ⟨rfl, rfl⟩
  (try simp only [Act.put]); (try simp only [List.setIfInBounds_toArray]); (try simp only [List.set])
  apply wpAnyN_takeL 2 (by kernel_rfl) rfl (fun _ _ _ h => h) (by kernel_rfl) hS0
  · intro w' hS'
    go_simp; exact ⟨rfl, rfl⟩
  (try simp only [Act.put]); (try simp only [List.setIfInBounds_toArray]); (try simp only [List.set])
  apply wpAnyN_takeL 3 (by kernel_rfl) rfl (fun _ _ _ h => h) (by kernel_rfl) hS0
  · intro w' hS'
    go_simp; exact ⟨rfl, rfl⟩
  (try simp only [Act.put]); (try simp only [List.setIfInBounds_toArray]); (try simp only [List.set])
  apply wpAnyN_takeL 4 (by kernel_rfl) rfl (fun _ _ _ h => h) (by kernel_rfl) hS0
  · intro w' hS'
    go_simp; exact ⟨rfl, rfl⟩
  (try simp only [Act.put]); (try simp only [List.setIfInBounds_toArray]); (try simp only [List.set])
  apply wpAnyN_takeL 5 (by kernel_rfl) rfl (fun _ _ _ h => h) (by kernel_rfl) hS0
  · intro w' hS'
    go_simp; exact ⟨rfl, rfl⟩
  (try simp only [Act.put]); (try simp only [List.setIfInBounds_toArray]); (try simp only [List.set])
  refine wpAnyN_runL 6 (by kernel_rfl) rfl (by kernel_rfl) (fun K hK => ?_)
  go_simp
  refine hK _ _ (fun h => absurd rfl h) ?_
  clear hK K
  (try simp only [Act.put])
  refine wpAnyN_done (by kernel_rfl) ?_ _
  go_wp2
  go_ret
  rw [← Hdn.out, ← Hleft.out]
  exact ⟨rfl, hd5, (hb01.trans (But.two0 hbX)).drew.trans (But.two2 hb5)⟩
set_option maxRecDepth 100000 in
set_option maxHeartbeats 4000000 in
theorem vDelete_no (hd : DiskIs O w g mp es fl dn left) (h0 : dmay [nmS nm] dn ≠ 0) :
    Calls Tryd.prog 35 #[.pointer (some ⟨g, 0, none⟩), .string (nmS nm)] w fun e w' => e = .returned (.int .i64 (dmay [nmS nm] dn)) ∧ DiskIs O w' g mp es fl dn left ∧ But [g, mp] w w' := by
  have hne := ne_nat _ h0
  have e1 := chgL_no (left := left) h0
  have e2 := chgD_no (left := left) h0
  have E1 := Lib.hid e1; have E2 := Lib.hid e2
  clear e1 e2 h0
  go_enter Tryd.func35, Tryd.ntmps35
  go_wp2_with fail
  have hb0 : Below w.heap.size w (w.alloc (.cells #[.string (nmS nm)] 9)) := (Below.refl _ _).alloc (Nat.le_refl _) _
  refine (vChange [nmS nm] (some ⟨w.heap.size, 0, none⟩) 1 (w.heap.size + 1) g mp es fl dn left O _ (row_new w 9 [.string (nmS nm)]) (by simp) (hd.below hb0) (by simp)).mono ?_
  rintro e w1 ⟨rfl, hd1, hb1⟩
  rw [E1.out, E2.out] at hd1
  go_wp2
  go_ret
  exact ⟨rfl, hd1, (But.two0 hb0).trans (But.two1 hb1)⟩
set_option maxRecDepth 100000 in
set_option maxHeartbeats 4000000 in
theorem vDelete_none (hd : DiskIs O w g mp es fl dn left) (h0 : dmay [nmS nm] dn = 0) (hn : aget nm es = none) :
    Calls Tryd.prog 35 #[.pointer (some ⟨g, 0, none⟩), .string (nmS nm)] w fun e w' => e = .returned (.int .i64 21) ∧ DiskIs O w' g mp es fl (chgD [nmS nm] dn left) (chgL [nmS nm] dn left) ∧ But [g, mp] w w' := by
  have hne : ((dmay [nmS nm] dn : Nat) : Int) = 0 := by omega
  have Hne := Lib.hid hne
  clear hne h0
  go_enter Tryd.func35, Tryd.ntmps35
  go_wp2_with fail
  have hb0 : Below w.heap.size w (w.alloc (.cells #[.string (nmS nm)] 9)) := (Below.refl _ _).alloc (Nat.le_refl _) _
  refine (vChange [nmS nm] (some ⟨w.heap.size, 0, none⟩) 1 (w.heap.size + 1) g mp es fl dn left O _ (row_new w 9 [.string (nmS nm)]) (by simp) (hd.below hb0) (by simp)).mono ?_
  rintro e w1 ⟨rfl, hd1, hb1⟩
  rw [Hne.out]
  have hb01 : But [g, mp] w w1 := (But.two0 hb0).trans (But.two1 hb1)
  obtain ⟨dn1, hdn1⟩ : ∃ x, x = chgD [nmS nm] dn left := ⟨_, rfl⟩
  obtain ⟨left1, hleft1⟩ : ∃ x, x = chgL [nmS nm] dn left := ⟨_, rfl⟩
  rw [← hdn1, ← hleft1] at hd1
  have Hdn := Lib.hid hdn1; have Hleft := Lib.hid hleft1
  have ml := MapIs.lt hd1.map
  have gl : g < w1.heap.size := hd1.blk.lt
  have c0 : w1.cell? ⟨g, 0, none⟩ = some (.map (some mp)) := hd1.blk.cell 0
  have hlook := hd1.look2 nm
  clear hdn1 hleft1 hd hb0 hb1
  rw [hn] at hlook
  simp only [Option.isSome_none] at hlook
  clear hn
  go_wp2
  go_ret
  rw [← Hdn.out, ← Hleft.out]
  exact ⟨rfl, hd1.below ((Below.refl _ _).alloc (Nat.le_refl _) _), hb01.alloc _⟩
set_option maxRecDepth 100000 in
set_option maxHeartbeats 4000000 in
theorem vDelete_ok (old : FileE) (hd : DiskIs O w g mp es fl dn left) (h0 : dmay [nmS nm] dn = 0) (hn : aget nm es = some old) :
    Calls Tryd.prog 35 #[.pointer (some ⟨g, 0, none⟩), .string (nmS nm)] w fun e w' => e = .returned (.int .i64 0) ∧ DiskIs O w' g mp (adel nm es) fl (chgD [nmS nm] dn left) (chgL [nmS nm] dn left) ∧ But [g, mp] w w' := by
  have hne : ((dmay [nmS nm] dn : Nat) : Int) = 0 := by omega
  have Hne := Lib.hid hne
  clear hne h0
  go_enter Tryd.func35, Tryd.ntmps35
  go_wp2_with fail
  have hb0 : Below w.heap.size w (w.alloc (.cells #[.string (nmS nm)] 9)) := (Below.refl _ _).alloc (Nat.le_refl _) _
  refine (vChange [nmS nm] (some ⟨w.heap.size, 0, none⟩) 1 (w.heap.size + 1) g mp es fl dn left O _ (row_new w 9 [.string (nmS nm)]) (by simp) (hd.below hb0) (by simp)).mono ?_
  rintro e w1 ⟨rfl, hd1, hb1⟩
  rw [Hne.out]
  have hb01 : But [g, mp] w w1 := (But.two0 hb0).trans (But.two1 hb1)
  obtain ⟨dn1, hdn1⟩ : ∃ x, x = chgD [nmS nm] dn left := ⟨_, rfl⟩
  obtain ⟨left1, hleft1⟩ : ∃ x, x = chgL [nmS nm] dn left := ⟨_, rfl⟩
  rw [← hdn1, ← hleft1] at hd1
  have Hdn := Lib.hid hdn1; have Hleft := Lib.hid hleft1
  have ml := MapIs.lt hd1.map
  have gl : g < w1.heap.size := hd1.blk.lt
  have c0 : w1.cell? ⟨g, 0, none⟩ = some (.map (some mp)) := hd1.blk.cell 0
  have hlook := hd1.look2 nm
  clear hdn1 hleft1 hd hb0 hb1
  rw [hn, get_some hn] at hlook
  simp only [Option.isSome_some] at hlook
  have hok := hd1.get nm
  rw [get_some hn] at hok
  clear hn
  have hbX : ∀ o : Obj, Below w1.heap.size w1 (w1.alloc o) := fun o => (Below.refl _ _).alloc (Nat.le_refl _) _
  have hdX := fun o : Obj => hd1.below (hbX o)
  obtain ⟨w2, hrun, hd2, hb2⟩ := DiskIs.del (hdX (.cells #[.slice old.A old.data.length old.c, .int .i64 old.synced] 79)) nm #[74, 9] 0 rfl
  go_wp2
  go_ret
  rw [← Hdn.out, ← Hleft.out]
  exact ⟨rfl, hd2, (hb01.alloc _).trans (But.two2 hb2)⟩
end
end Go.Proofs.YtmddgimadlmacaaDoor
