import Derived.Test.YtmddgimadlmacaaDoorWs16
namespace Go.Proofs.YtmddgimadlmacaaDoor
open Go.RowKit Garner

abbrev nmS (s : Bs) : ByteArray := ⟨s.toArray⟩
def noFile : FileE := ⟨none, 0, [], 0⟩
def Files.get (es : Files) (nm : Bs) : FileE := (aget nm es).getD noFile
theorem aget_al (nm : Bs) : ∀ es : Files, aget nm es.al = (aget nm es).map FileE.v
  | [] => rfl
  | (k, e) :: r => by
    have ih := aget_al nm r
    unfold Files.al at *
    simp only [List.map_cons, aget]
    split
    · rfl
    · exact ih
theorem aput_al (nm : Bs) (e : FileE) : ∀ es : Files, Files.al (aput nm e es) = aput nm e.v es.al
  | [] => rfl
  | (k, x) :: r => by
    have ih := aput_al nm e r
    unfold Files.al at *
    simp only [List.map_cons, aput]
    split
    · rfl
    · simp only [List.map_cons, ih]
theorem adel_al (nm : Bs) : ∀ es : Files, Files.al (adel nm es) = adel nm es.al
  | [] => rfl
  | (k, x) :: r => by
    have ih := adel_al nm r
    unfold Files.al at *
    simp only [List.map_cons, adel]
    split
    · rfl
    · simp only [List.map_cons, ih]
section
variable {κ ν : Type} [DecidableEq κ]
theorem mem_aput {a : κ} {v : ν} {p : κ × ν} : ∀ {l : List (κ × ν)}, p ∈ aput a v l → p = (a, v) ∨ p ∈ l
  | [], h => by simp [aput] at h; exact Or.inl h
  | (b, u) :: r, h => by
    unfold aput at h
    split at h
    · rename_i e
      rcases List.mem_cons.1 h with h | h
      · subst e; exact Or.inl h
      · exact Or.inr (List.mem_cons_of_mem _ h)
    · rcases List.mem_cons.1 h with h | h
      · exact Or.inr (h ▸ List.mem_cons_self ..)
      · exact (mem_aput h).imp id (List.mem_cons_of_mem _)
theorem mem_adel {a : κ} {p : κ × ν} : ∀ {l : List (κ × ν)}, p ∈ adel a l → p ∈ l
  | (b, u) :: r, h => by
    unfold adel at h
    split at h
    · exact List.mem_cons_of_mem _ h
    · rcases List.mem_cons.1 h with h | h
      · exact h ▸ List.mem_cons_self ..
      · exact List.mem_cons_of_mem _ (mem_adel h)
theorem aget_mem {a : κ} {v : ν} : ∀ {l : List (κ × ν)}, aget a l = some v → (a, v) ∈ l
  | (b, u) :: r, h => by
    unfold aget at h
    split at h
    · rename_i e
      injection h with h
      subst e; subst h; exact List.mem_cons_self ..
    · exact List.mem_cons_of_mem _ (aget_mem h)
theorem keys_aput {a : κ} {v : ν} : ∀ {l : List (κ × ν)} {k : κ}, k ∈ (aput a v l).map (·.1) → k = a ∨ k ∈ l.map (·.1) := by
  intro l k h
  obtain ⟨p, hp, rfl⟩ := List.mem_map.1 h
  rcases mem_aput hp with rfl | hp
  · exact Or.inl rfl
  · exact Or.inr (List.mem_map.2 ⟨p, hp, rfl⟩)
theorem nodup_aput {a : κ} {v : ν} : ∀ {l : List (κ × ν)}, (l.map (·.1)).Nodup → ((aput a v l).map (·.1)).Nodup
  | [], _ => by simp [aput]
  | (b, u) :: r, h => by
    obtain ⟨h1, h2⟩ := List.nodup_cons.1 h
    unfold aput
    split
    · exact h
    · rename_i hne
      refine List.nodup_cons.2 ⟨fun hm => ?_, nodup_aput h2⟩
      rcases keys_aput hm with e | e
      · exact hne e.symm
      · exact h1 e
theorem nodup_adel {a : κ} : ∀ {l : List (κ × ν)}, (l.map (·.1)).Nodup → ((adel a l).map (·.1)).Nodup
  | [], _ => by simp [adel]
  | (b, u) :: r, h => by
    obtain ⟨h1, h2⟩ := List.nodup_cons.1 h
    unfold adel
    split
    · exact h2
    · refine List.nodup_cons.2 ⟨fun hm => ?_, nodup_adel h2⟩
      obtain ⟨p, hp, hpe⟩ := List.mem_map.1 hm
      exact h1 (List.mem_map.2 ⟨p, mem_adel hp, hpe⟩)
end
theorem noFile_ok (O : Nat → Prop) (w : World) : FileOk O w noFile := ⟨Row.none_, fun h => absurd h (by simp [noFile]), by simp [noFile], by simp [noFile], by simp [noFile], fun h => absurd h (by simp [noFile])⟩
theorem DiskIs.get {w : World} {O : Nat → Prop} {g mp : Nat} {es : Files} {fl dn : Bool} {left : Int} (h : DiskIs O w g mp es fl dn left) (nm : Bs) : FileOk O w (es.get nm) := by
  unfold Files.get
  cases he : aget nm es with
  | none => exact noFile_ok O w
  | some e => exact h.files _ (aget_mem he)
theorem DiskIs.look {w : World} {O : Nat → Prop} {g mp : Nat} {es : Files} {fl dn : Bool} {left : Int} (h : DiskIs O w g mp es fl dn left) (nm : Bs) :
    (Instr.lookup 74 (.map (some mp)) (.string (nmS nm)) false).run Tryd.prog w = .ok (.agg #[.slice (es.get nm).A (es.get nm).data.length (es.get nm).c, .int .i64 (es.get nm).synced]) w := by
  have := run_look (strKeys Tryd.underlying9) Tryd.underlying74 h.map (zeroFile _) nm false
  rw [this]
  rw [aget_al]
  unfold Files.get
  cases aget nm es <;> rfl
theorem DiskIs.look2 {w : World} {O : Nat → Prop} {g mp : Nat} {es : Files} {fl dn : Bool} {left : Int} (h : DiskIs O w g mp es fl dn left) (nm : Bs) :
    (Instr.lookup 74 (.map (some mp)) (.string (nmS nm)) true).run Tryd.prog w = .ok (.tuple #[.agg #[.slice (es.get nm).A (es.get nm).data.length (es.get nm).c, .int .i64 (es.get nm).synced], .bool (aget nm es).isSome]) w := by
  have := run_look (strKeys Tryd.underlying9) Tryd.underlying74 h.map (zeroFile _) nm true
  rw [this]
  rw [aget_al]
  unfold Files.get
  cases aget nm es <;> rfl
/-- a file laid -/
theorem DiskIs.put {w : World} {O : Nat → Prop} {g mp : Nat} {es : Files} {fl dn : Bool} {left : Int} (h : DiskIs O w g mp es fl dn left) (nm : Bs) (e : FileE) (he : FileOk O w e) :
    ∃ w', (Instr.mapUpdate 74 (.map (some mp)) (.string (nmS nm)) e.v).run Tryd.prog w = .ok () w' ∧ DiskIs O w' g mp (aput nm e es) fl dn left ∧ But [mp] w w' := by
  obtain ⟨w', hrun, hm, hg, _⟩ := run_put (strKeys Tryd.underlying9) Tryd.underlying74 h.map nm e.v
  have hb : But [mp] w w' := But.grown hg (fun k hk => by simpa using hk.symm)
  refine ⟨w', hrun, ⟨h.blk.but hb (by simp only [List.mem_singleton]; exact h.ne), by rw [aput_al]; exact hm, fun p hp => ?_, nodup_aput h.nodup, h.lo, h.hi⟩, hb⟩
  rcases mem_aput hp with rfl | hp
  · exact he.keep h.blk h.map hb (fun s hs => Or.inr (Or.inl (by simpa using hs)))
  · exact h.keepF hb (fun s hs => Or.inr (Or.inl (by simpa using hs))) p hp
theorem DiskIs.del {w : World} {O : Nat → Prop} {g mp : Nat} {es : Files} {fl dn : Bool} {left : Int} (h : DiskIs O w g mp es fl dn left) (nm : Bs) (ts : Array TypeId) (ty : TypeId) (hts : ts[0]? = some 74) :
    ∃ w', (Builtin.delete_ ts ty #[.map (some mp), .string (nmS nm)]).run Tryd.prog w = .ok (.tuple #[]) w' ∧ DiskIs O w' g mp (adel nm es) fl dn left ∧ But [mp] w w' := by
  obtain ⟨w', hrun, hm, hg, _⟩ := run_del (strKeys Tryd.underlying9) Tryd.underlying74 h.map nm ts ty hts
  have hb : But [mp] w w' := But.grown hg (fun k hk => by simpa using hk.symm)
  refine ⟨w', hrun, ⟨h.blk.but hb (by simp only [List.mem_singleton]; exact h.ne), by rw [adel_al]; exact hm, fun p hp => ?_, nodup_adel h.nodup, h.lo, h.hi⟩, hb⟩
  exact h.keepF hb (fun s hs => Or.inr (Or.inl (by simpa using hs))) p (mem_adel hp)
end Go.Proofs.YtmddgimadlmacaaDoor
namespace Go.Proofs.YtmddgimadlmacaaDoor
open Go.RowKit Garner

theorem ne_nat (k : Nat) (h : k ≠ 0) : (((k : Nat) : Int) != 0) = true := by rw [bne_iff_ne]; omega
theorem But.two1 {g mp : Nat} {w w' : World} (h : But [g] w w') : But [g, mp] w w' := h.mono (by simp)
theorem But.two2 {g mp : Nat} {w w' : World} (h : But [mp] w w') : But [g, mp] w w' := h.mono (by simp)
theorem But.two0 {g mp : Nat} {w w' : World} (h : Below w.heap.size w w') : But [g, mp] w w' := But.of_below h
section
variable (nm data : Bs) (A : Option Addr) (c B g mp : Nat) (es : Files) (fl dn : Bool) (left : Int) (O : Nat → Prop) (w : World)
set_option maxRecDepth 100000 in
set_option maxHeartbeats 4000000 in
theorem vAppend_no (V : Value) (hd : DiskIs O w g mp es fl dn left) (h0 : dmay [nmS nm] dn ≠ 0) :
    Calls Tryd.prog 10 #[.pointer (some ⟨g, 0, none⟩), .string (nmS nm), V] w fun e w' => e = .returned (.int .i64 (dmay [nmS nm] dn)) ∧ DiskIs O w' g mp es fl dn left ∧ But [g, mp] w w' := by
  have hne := ne_nat _ h0
  have e1 := chgL_no (left := left) h0
  have e2 := chgD_no (left := left) h0
  have E1 := Lib.hid e1; have E2 := Lib.hid e2
  clear e1 e2 h0
  go_enter Tryd.func10, Tryd.ntmps10
  go_wp2_with fail
  have hb0 : Below w.heap.size w (w.alloc (.cells #[.string (nmS nm)] 9)) := (Below.refl _ _).alloc (Nat.le_refl _) _
  refine (vChange [nmS nm] (some ⟨w.heap.size, 0, none⟩) 1 (w.heap.size + 1) g mp es fl dn left O _ (row_new w 9 [.string (nmS nm)]) (by simp) (hd.below hb0) (by simp)).mono ?_
  rintro e w1 ⟨rfl, hd1, hb1⟩
  rw [E1.out, E2.out] at hd1
  go_wp2
  go_ret
  exact ⟨rfl, hd1, (But.two0 hb0).trans (But.two1 hb1)⟩
set_option maxRecDepth 100000 in
set_option maxHeartbeats 4000000 in
theorem vAppend_full (V : Value) (hd : DiskIs O w g mp es true dn left) (h0 : dmay [nmS nm] dn = 0) :
    Calls Tryd.prog 10 #[.pointer (some ⟨g, 0, none⟩), .string (nmS nm), V] w fun e w' => e = .returned (.int .i64 20) ∧ DiskIs O w' g mp es true (chgD [nmS nm] dn left) (chgL [nmS nm] dn left) ∧ But [g, mp] w w' := by
  have hne : ((dmay [nmS nm] dn : Nat) : Int) = 0 := by omega
  have Hne := Lib.hid hne
  clear hne h0
  go_enter Tryd.func10, Tryd.ntmps10
  go_wp2_with fail
  have hb0 : Below w.heap.size w (w.alloc (.cells #[.string (nmS nm)] 9)) := (Below.refl _ _).alloc (Nat.le_refl _) _
  refine (vChange [nmS nm] (some ⟨w.heap.size, 0, none⟩) 1 (w.heap.size + 1) g mp es true dn left O _ (row_new w 9 [.string (nmS nm)]) (by simp) (hd.below hb0) (by simp)).mono ?_
  rintro e w1 ⟨rfl, hd1, hb1⟩
  rw [Hne.out]
  have c1 : w1.cell? ⟨g, 1, none⟩ = some (.bool true) := hd1.blk.cell 1
  go_wp2
  go_ret
  exact ⟨rfl, hd1, (But.two0 hb0).trans (But.two1 hb1)⟩
structure SF (g mp gf : Nat) (dn : Bool) (left : Int) (fs : List Value) (w' : World) : Prop where
  a : Blk w' g 76 (diskV mp false dn left)
  b : Blk w' gf 79 fs
set_option maxRecDepth 100000 in
set_option maxHeartbeats 4000000 in
theorem vAppend_ok (hd : DiskIs O w g mp es false dn left) (h0 : dmay [nmS nm] dn = 0) (hr : Bytes w B A data.length data) (hB : B ≤ w.heap.size) (hl : (es.get nm).data.length + data.length ≤ 140737488355328) :
    Calls Tryd.prog 10 #[.pointer (some ⟨g, 0, none⟩), .string (nmS nm), .slice A data.length c] w fun e w' => e = .returned (.int .i64 0) ∧
      ∃ A' c', DiskIs (fun b => O b ∨ w.heap.size ≤ b) w' g mp (aput nm ⟨A', c', (es.get nm).data ++ data, (es.get nm).synced⟩ es) false (chgD [nmS nm] dn left) (chgL [nmS nm] dn left) ∧ But [g, mp] w w' := by
  have hne : ((dmay [nmS nm] dn : Nat) : Int) = 0 := by omega
  have Hne := Lib.hid hne
  clear hne h0
  go_enter Tryd.func10, Tryd.ntmps10
  go_wp2_with fail
  have hb0 : Below w.heap.size w (w.alloc (.cells #[.string (nmS nm)] 9)) := (Below.refl _ _).alloc (Nat.le_refl _) _
  refine (vChange [nmS nm] (some ⟨w.heap.size, 0, none⟩) 1 (w.heap.size + 1) g mp es false dn left O _ (row_new w 9 [.string (nmS nm)]) (by simp) (hd.below hb0) (by simp)).mono ?_
  rintro e w1 ⟨rfl, hd1, hb1⟩
  rw [Hne.out]
  have hb01 : But [g, mp] w w1 := (But.two0 hb0).trans (But.two1 hb1)
  have hr1 : Bytes w1 w1.heap.size A data.length data := bytes_keep (hr.more hB) hd.blk hd.map hb01 (by simp)
  obtain ⟨dn1, hdn1⟩ : ∃ x, x = chgD [nmS nm] dn left := ⟨_, rfl⟩
  obtain ⟨left1, hleft1⟩ : ∃ x, x = chgL [nmS nm] dn left := ⟨_, rfl⟩
  rw [← hdn1, ← hleft1] at hd1
  have Hdn := Lib.hid hdn1; have Hleft := Lib.hid hleft1
  have ml := MapIs.lt hd1.map
  clear hdn1 hleft1
  have c0 : w1.cell? ⟨g, 0, none⟩ = some (.map (some mp)) := hd1.blk.cell 0
  have c1 : w1.cell? ⟨g, 1, none⟩ = some (.bool false) := hd1.blk.cell 1
  have hlook := hd1.look nm
  have hok := hd1.get nm
  obtain ⟨old, hold⟩ : ∃ o, o = es.get nm := ⟨_, rfl⟩
  rw [← hold] at hlook hok hl
  have Hold := Lib.hid hold
  clear hold hd hb0 hb1 hr
  go_wp2_with fail
  obtain ⟨X, hX⟩ : ∃ X, X = (w1.alloc (.cells #[.slice old.A old.data.length old.c, .int .i64 old.synced] 79)).alloc (.cells #[.slice old.A old.data.length old.c, .slice A data.length c] 23) := ⟨_, rfl⟩
  rw [← hX]
  have hbX : Below w1.heap.size w1 X := by rw [hX]; exact ((Below.refl _ _).alloc (Nat.le_refl _) _).alloc (by simp) _
  have kf : Blk X w1.heap.size 79 [.slice old.A old.data.length old.c, .int .i64 old.synced] := by rw [hX]; exact (Blk.new w1 _ [.slice old.A old.data.length old.c, .int .i64 old.synced]).alloc _
  have x0 : X.cell? ⟨w1.heap.size + 1, 0, none⟩ = some (.slice old.A old.data.length old.c) := by rw [hX]; exact cell_new _ _ _ _ _ (by simp)
  have x1 : X.cell? ⟨w1.heap.size + 1, 0 + 1, none⟩ = some (.slice A data.length c) := by rw [hX]; exact cell_new _ _ _ _ _ (by simp)
  have sX : X.heap.size = w1.heap.size + 2 := by rw [hX]; simp
  clear hX
  refine (vConcat old.data data old.A A old.c c 2 w1.heap.size (w1.heap.size + 1) 0 X (hok.row.below hbX) (hr1.below hbX) (by omega) hl (by omega) x0 x1).mono ?_
  rintro e w3 ⟨v3, rfl, own3, hb3⟩
  obtain ⟨A3, c3, rfl, hc3⟩ := own_form own3
  have kf3 := kf.below hb3 (by omega)
  have hd3 := (hd1.lt.below hbX).below hb3
  have hok3 := (hok.but (S := []) (But.of_below hbX) (by simp)).but (S := []) (But.of_below hb3) (by simp)
  have hnew : FileOk (fun b => X.heap.size ≤ b) w3 ⟨A3, c3, old.data ++ data, old.synced⟩ := FileOk.of_own own3 (by have := hok.syn; simp; omega) (by simp; omega)
  have hb13 : Below w1.heap.size w1 w3 := hbX.trans (hb3.mono (by omega))
  have s3 := hb3.size
  have f0 := kf3.frozen 0
  have y0 : w3.cell? ⟨w1.heap.size, 0, none⟩ = some (.slice old.A old.data.length old.c) := kf3.cell 0
  have gne : g ≠ w1.heap.size := by have := hd1.blk.lt; omega
  clear x0 x1 c0 c1 hlook hd1 hr1 kf own3 hb3
  go_wp2_with fail
  obtain ⟨w4, hw4⟩ : ∃ w4, w4 = w3.setCell ⟨w1.heap.size, 0, none⟩ (.slice A3 (old.data.length + data.length) c3) := ⟨_, rfl⟩
  rw [← hw4]
  have hb34 : But [w1.heap.size] w3 w4 := by rw [hw4]; exact (But.refl _ _).setCell (by simp) _
  have kf4 : Blk w4 w1.heap.size 79 [.slice A3 (old.data.length + data.length) c3, .int .i64 old.synced] := by rw [hw4]; exact kf3.set_ 0 _
  clear hw4 y0 f0
  have sw := hb01.size
  have hd4 : DiskIs (fun b => O b ∨ w.heap.size ≤ b) w4 g mp es false dn1 left1 :=
    (hd3.but hb34 (by simp only [List.mem_singleton]; exact gne) (by simp only [List.mem_singleton]; omega) (fun b hb _ => by simp only [List.mem_singleton]; omega)).mono fun b hb => Or.inl hb.1
  have hnew4 : FileOk (fun b => O b ∨ w.heap.size ≤ b) w4 ⟨A3, c3, old.data ++ data, old.synced⟩ :=
    (hnew.but hb34 (fun b hb _ => by simp only [List.mem_singleton]; omega)).mono fun b hb => Or.inr (by omega)
  have hb04 : But [g, mp] w w4 := (hb01.trans (But.two0 hb13)).old hb34 (fun x hx => by simp only [List.mem_singleton] at hx; omega)
  obtain ⟨w5, hrun, hd5, hb5⟩ := DiskIs.put (w := w4.drew) (hd4.below (Below.refl _ _).drew) nm ⟨A3, c3, old.data ++ data, old.synced⟩ (hnew4.but (S := []) (But.refl _ _).drew (by simp))
  simp only [FileE.v, List.length_append] at hrun
  have hS0 : SF g mp w1.heap.size dn1 left1 [.slice A3 (old.data.length + data.length) c3, .int .i64 old.synced] w4.drew := ⟨hd4.blk, kf4⟩
  have z0 : ∀ w' : World, SF g mp w1.heap.size dn1 left1 [.slice A3 (old.data.length + data.length) c3, .int .i64 old.synced] w' → w'.cell? ⟨g, 0, none⟩ = some (.map (some mp)) := fun w' h => h.a.cell 0
  have y0 : ∀ w' : World, SF g mp w1.heap.size dn1 left1 [.slice A3 (old.data.length + data.length) c3, .int .i64 old.synced] w' → w'.cell? ⟨w1.heap.size, 0, none⟩ = some (.slice A3 (old.data.length + data.length) c3) := fun w' h => h.b.cell 0
  have y1 : ∀ w' : World, SF g mp w1.heap.size dn1 left1 [.slice A3 (old.data.length + data.length) c3, .int .i64 old.synced] w' → w'.cell? ⟨w1.heap.size, 1, none⟩ = some (.int .i64 old.synced) := fun w' h => h.b.cell 1
  refine wp_region_N (SF g mp w1.heap.size dn1 left1 [.slice A3 (old.data.length + data.length) c3, .int .i64 old.synced]) 6 (by kernel_rfl) ?_
  apply wpAnyN_takeL 0 (by kernel_rfl) rfl (fun _ _ _ h => h) (by kernel_rfl) hS0
  · intro w' hS'
    go_simp; exact ⟨rfl, rfl⟩
  (try simp only [Act.put]); (try simp only [List.setIfInBounds_toArray]); (try simp only [List.set])
  apply wpAnyN_takeL 1 (by kernel_rfl) rfl (fun _ _ _ h => h) (by kernel_rfl) hS0
  · intro w' hS'
    go_simp; exact ⟨rfl, rfl⟩
  (try simp only [Act.put]); (try simp only [List.setIfInBounds_toArray]); (try simp only [List.set])
  apply wpAnyN_takeL 2 (by kernel_rfl) rfl (fun _ _ _ h => h) (by kernel_rfl) hS0
  · intro w' hS'
    go_simp; exact ⟨rfl, rfl⟩
  (try simp only [Act.put]); (try simp only [List.setIfInBounds_toArray]); (try simp only [List.set])
  apply wpAnyN_takeL 3 (by kernel_rfl) rfl (fun _ _ _ h => h) (by kernel_rfl) hS0
  · intro w' hS'
    go_simp; exact ⟨rfl, rfl⟩
  (try simp only [Act.put]); (try simp only [List.setIfInBounds_toArray]); (try simp only [List.set])
  apply wpAnyN_takeL 4 (by kernel_rfl) rfl (fun _ _ _ h => h) (by kernel_rfl) hS0
  · intro w' hS'
    go_simp; exact ⟨rfl, rfl⟩
  (try simp only [Act.put]); (try simp only [List.setIfInBounds_toArray]); (try simp only [List.set])
  apply wpAnyN_takeL 5 (by kernel_rfl) rfl (fun _ _ _ h => h) (by kernel_rfl) hS0
  · intro w' hS'
    go_simp; exact ⟨rfl, rfl⟩
  (try simp only [Act.put]); (try simp only [List.setIfInBounds_toArray]); (try simp only [List.set])
  refine wpAnyN_runL 6 (by kernel_rfl) rfl (by kernel_rfl) (fun K hK => ?_)
  go_simp
  refine hK _ _ (fun h => absurd rfl h) ?_
  clear hK K
  (try simp only [Act.put])
  refine wpAnyN_done (by kernel_rfl) ?_ _
  go_wp2
  go_ret
  rw [← Hold.out, ← Hdn.out, ← Hleft.out]
  exact ⟨rfl, A3, c3, hd5, hb04.drew.trans (But.two2 hb5)⟩
end
end Go.Proofs.YtmddgimadlmacaaDoor
