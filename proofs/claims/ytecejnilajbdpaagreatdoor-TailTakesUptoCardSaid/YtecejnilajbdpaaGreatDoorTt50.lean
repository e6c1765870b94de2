import Derived.Test.YtecejnilajbdpaaGreatDoorTt49
/-! the document's equality of records, where they are equal -/
namespace Go.Proofs.YtecejnilajbdpaaGreatDoor
open Go.RowKit Go.Shelf Garner
set_option maxRecDepth 100000 in
set_option maxHeartbeats 16000000 in
theorem vCmpEq (ls : List (Bs × Bs)) (A A' : Option Addr) (n c c' : Nat) (w : World) (ha : Row w w.heap.size 2 A n (ls.flatMap labCells)) (hb : Row w w.heap.size 2 A' n (ls.flatMap labCells)) (hn : ls.length = n) (hl : n ≤ 1000000000000) :
    Calls Tryz.prog 71 #[.slice A n c, .slice A' n c'] w fun e w' => e = .returned (.int .i64 0) ∧ Below w.heap.size w w' := by
  have Ha := Lib.hid ha; have Hb := Lib.hid hb; have Hn := Lib.hid hn
  clear ha hb hn
  go_enter Tryz.func71, Tryz.ntmps71
  go_wp2_with fail
  go_loopw [5] (fun i wr => ∃ k : Nat, k ≤ n ∧ i = .int .i64 k ∧ Hid (Below w.heap.size w wr)) (fun i _ => n - (intOf i).toNat)
  case atStart => exact ⟨0, Nat.zero_le _, rfl, Lib.hid (Below.refl _ _)⟩
  case round =>
    obtain ⟨k, hk, rfl, hbw⟩ := hrel
    obtain ⟨wo, rfl⟩ : ∃ wo : World, wo = wr := ⟨_, rfl⟩
    have wk1 : IntKind.i64.wrap ((k : Int) + 1) = ((k + 1 : Nat) : Int) := by rw [IntKind.wrap_i64]; omega
    by_cases hlt : k < n
    · have z1 : (k : Int) < (n : Int) := by omega
      obtain ⟨x, hx⟩ : ∃ x, ls[k]? = some x := ⟨_, List.getElem?_eq_getElem (by rw [Hn.out]; exact hlt)⟩
      obtain ⟨b, off, rfl, hc⟩ := lab_cells Ha.out hx hlt
      obtain ⟨b', off', rfl, hc'⟩ := lab_cells Hb.out hx hlt
      obtain ⟨c0, c1⟩ := hc wo hbw.out
      obtain ⟨d0, d1⟩ := hc' wo hbw.out
      obtain ⟨N1, e1, -⟩ := str_form x.1
      obtain ⟨N2, e2, -⟩ := str_form x.2
      rw [e1] at c0 d0
      rw [e2] at c1 d1
      clear hc hc' hx e1 e2
      go_upto_region 4 with fail
      go_quiet (fail)
      go_wp2
      go_roundw
      case rel => exact ⟨k + 1, by omega, by first | rfl | go_num, Lib.hid (below_dn hbw.out _)⟩
      case measure => simp [intOf]; omega
    · obtain rfl : k = n := by omega
      have z1 : ¬ (k : Int) < (k : Int) := by omega
      go_wp2
      go_ret
      exact ⟨rfl, hbw.out⟩
set_option maxRecDepth 100000 in
set_option maxHeartbeats 4000000 in
theorem vLSameEq (ls : List (Bs × Bs)) (A A' : Option Addr) (n c c' : Nat) (w : World) (ha : Row w w.heap.size 2 A n (ls.flatMap labCells)) (hb : Row w w.heap.size 2 A' n (ls.flatMap labCells)) (hn : ls.length = n) (hl : n ≤ 1000000000000) :
    Calls Tryz.prog 46 #[.slice A n c, .slice A' n c'] w fun e w' => e = .returned (.bool true) ∧ Below w.heap.size w w' := by
  have H := Lib.hid (vCmpEq ls A A' n c c' w ha hb hn hl)
  clear ha hb
  go_enter Tryz.func46, Tryz.ntmps46
  go_wp2_with fail
  refine H.out.mono ?_
  rintro e w1 ⟨rfl, hb⟩
  go_wp2
  go_ret
  exact ⟨rfl, hb⟩
set_option maxRecDepth 100000 in
set_option maxHeartbeats 16000000 in
theorem vRSameEq (r : RecP) (A A' : Option Addr) (n c c' : Nat) (w : World) (ha : Row w w.heap.size 2 A n (r.labels.flatMap labCells)) (hb : Row w w.heap.size 2 A' n (r.labels.flatMap labCells)) (hn : r.labels.length = n) (hl : n ≤ 1000000000000) :
    Calls Tryz.prog 24 #[.agg #[.int .i64 r.time, .int .u64 r.seq, .slice A n c, strB r.line], .agg #[.int .i64 r.time, .int .u64 r.seq, .slice A' n c', strB r.line]] w fun e w' => e = .returned (.bool true) ∧ Below w.heap.size w w' := by
  obtain ⟨R, eR, -⟩ := str_form r.line
  obtain ⟨tv, htv⟩ : ∃ tv, r.time = tv := ⟨_, rfl⟩
  obtain ⟨sv, hsv⟩ : ∃ sv, r.seq = sv := ⟨_, rfl⟩
  rw [eR, htv, hsv]
  obtain ⟨X, hX⟩ : ∃ X, X = w.alloc (.cells #[.int .i64 tv, .int .u64 sv, .slice A n c, .string R] 38) := ⟨_, rfl⟩
  have hwX : Below w.heap.size w X := by rw [hX]; exact (Below.refl _ _).alloc (Nat.le_refl _) _
  have bX : Blk X w.heap.size 38 [.int .i64 tv, .int .u64 sv, .slice A n c, .string R] := by rw [hX]; exact Blk.new w _ _
  obtain ⟨Y, hY⟩ : ∃ Y, Y = X.alloc (.cells #[.int .i64 tv, .int .u64 sv, .slice A' n c', .string R] 38) := ⟨_, rfl⟩
  have hXY : Below X.heap.size X Y := by rw [hY]; exact (Below.refl _ _).alloc (Nat.le_refl _) _
  have bY : Blk Y X.heap.size 38 [.int .i64 tv, .int .u64 sv, .slice A' n c', .string R] := by rw [hY]; exact Blk.new X _ _
  have kX := bX.below hXY bX.lt
  have x0 : Y.cell? ⟨w.heap.size, 0, none⟩ = some (.int .i64 tv) := kX.cell 0
  have x1 : Y.cell? ⟨w.heap.size, 1, none⟩ = some (.int .u64 sv) := kX.cell 1
  have x2 : Y.cell? ⟨w.heap.size, 2, none⟩ = some (.slice A n c) := kX.cell 2
  have x3 : Y.cell? ⟨w.heap.size, 3, none⟩ = some (.string R) := kX.cell 3
  have y0 : Y.cell? ⟨X.heap.size, 0, none⟩ = some (.int .i64 tv) := bY.cell 0
  have y1 : Y.cell? ⟨X.heap.size, 1, none⟩ = some (.int .u64 sv) := bY.cell 1
  have y2 : Y.cell? ⟨X.heap.size, 2, none⟩ = some (.slice A' n c') := bY.cell 2
  have y3 : Y.cell? ⟨X.heap.size, 3, none⟩ = some (.string R) := bY.cell 3
  have sX : X.heap.size = w.heap.size + 1 := by rw [hX]; simp
  rw [sX] at y0 y1 y2 y3
  have hwY := hwX.trans (hXY.mono hwX.size)
  have hs := vLSameEq r.labels A A' n c c' Y ((ha.below hwY).more hwY.size) ((hb.below hwY).more hwY.size) hn hl
  have HS := Lib.hid hs; have HwY := Lib.hid hwY
  clear hs hwY kX bX bY hwX hXY ha hb eR htv hsv
  go_enter Tryz.func24, Tryz.ntmps24
  go_upto_region 1 with fail
  rw [← hX, ← hY]
  clear hX hY
  go_wp2_with fail
  refine HS.out.mono ?_
  rintro e w1 ⟨rfl, hb⟩
  go_wp2
  go_ret
  exact ⟨rfl, HwY.out.trans (hb.mono HwY.out.size)⟩
end Go.Proofs.YtecejnilajbdpaaGreatDoor

/-! the document's equality of rows of records, where they are equal -/
namespace Go.Proofs.YtecejnilajbdpaaGreatDoor
open Go.RowKit Go.Shelf Garner
/-- a row of records that may be read -/
structure RecsAt (w : World) (A : Option Addr) (n : Nat) (ds : List RecD) : Prop where
  row : Row w w.heap.size 4 A n (ds.flatMap RecD.cells)
  len : ds.length = n
  lab : ∀ d ∈ ds, Row w w.heap.size 2 d.A d.r.labels.length (d.r.labels.flatMap labCells)
  few : ∀ d ∈ ds, d.r.labels.length ≤ 1000000000000
theorem RecsAt.below {w w' : World} {A : Option Addr} {n : Nat} {ds : List RecD} (h : RecsAt w A n ds) (hb : Below w.heap.size w w') : RecsAt w' A n ds :=
  ⟨(h.row.below hb).more hb.size, h.len, fun d hd => ((h.lab d hd).below hb).more hb.size, h.few⟩
theorem rec_cells {w : World} {B : Nat} {l : List RecD} {A : Option Addr} {n : Nat} (h : Row w B 4 A n (l.flatMap RecD.cells)) {k : Nat} {d : RecD} (hm : l[k]? = some d) (hk : k < n) : ∃ b off, A = some ⟨b, off, none⟩ ∧ ∀ wx, Below B w wx → wx.cell? ⟨b, off + k * 4, none⟩ = some (.int .i64 d.r.time) ∧ wx.cell? ⟨b, off + k * 4 + 1, none⟩ = some (.int .u64 d.r.seq) ∧ wx.cell? ⟨b, off + k * 4 + 2, none⟩ = some (.slice d.A d.r.labels.length d.c) ∧ wx.cell? ⟨b, off + k * 4 + 3, none⟩ = some (strB d.r.line) := by
  obtain ⟨b, off, e, hb, hc⟩ := row_cells RecD.cells_len h hm hk
  refine ⟨b, off, e, fun wx hx => ?_⟩
  have key : ∀ j, j < 4 → wx.cell? ⟨b, off + (k * 4 + j), none⟩ = d.cells[j]? := fun j hj => by
    rw [hx.cell (p := ⟨b, off + (k * 4 + j), none⟩) hb]; exact hc j hj
  refine ⟨key 0 (by omega), ?_, ?_, ?_⟩
  · have := key 1 (by omega); rwa [← Nat.add_assoc] at this
  · have := key 2 (by omega); rwa [← Nat.add_assoc] at this
  · have := key 3 (by omega); rwa [← Nat.add_assoc] at this
set_option maxRecDepth 100000 in
set_option maxHeartbeats 32000000 in
theorem vRSameAll (da db : List RecD) (A A' : Option Addr) (n c c' : Nat) (w : World) (ha : RecsAt w A n da) (hb : RecsAt w A' n db) (he : da.map RecD.r = db.map RecD.r) (hl : n ≤ 140737488355328) :
    Calls Tryz.prog 18 #[.slice A n c, .slice A' n c'] w fun e w' => e = .returned (.bool true) ∧ Below w.heap.size w w' := by
  have Ha := Lib.hid ha; have Hb := Lib.hid hb; have He := Lib.hid he
  clear ha hb he
  go_enter Tryz.func18, Tryz.ntmps18
  go_wp2_with fail
  go_loopw [5] (fun i wr => ∃ k : Nat, k ≤ n ∧ i = .int .i64 k ∧ Hid (Below w.heap.size w wr)) (fun i _ => n - (intOf i).toNat)
  case atStart => exact ⟨0, Nat.zero_le _, rfl, Lib.hid (Below.refl _ _)⟩
  case round =>
    obtain ⟨k, hk, rfl, hbw⟩ := hrel
    obtain ⟨wo, rfl⟩ : ∃ wo : World, wo = wr := ⟨_, rfl⟩
    have wk1 : IntKind.i64.wrap ((k : Int) + 1) = ((k + 1 : Nat) : Int) := by rw [IntKind.wrap_i64]; omega
    by_cases hlt : k < n
    · have z1 : (k : Int) < (n : Int) := by omega
      obtain ⟨x, hx⟩ : ∃ x, da[k]? = some x := ⟨_, List.getElem?_eq_getElem (by rw [Ha.out.len]; exact hlt)⟩
      obtain ⟨y, hy⟩ : ∃ y, db[k]? = some y := ⟨_, List.getElem?_eq_getElem (by rw [Hb.out.len]; exact hlt)⟩
      have hxy : x.r = y.r := by
        have h := congrArg (fun l : List RecP => l[k]?) He.out
        simp only [List.getElem?_map, hx, hy, Option.map_some] at h
        exact Option.some.inj h
      have hT : Below wo.heap.size wo wo.drew := (Below.refl _ _).drew
      have hwo := hbw.out.trans (hT.mono hbw.out.size)
      have la := (((Ha.out.lab x (List.mem_of_getElem? hx)).below hwo).more hwo.size)
      have lb := (((Hb.out.lab y (List.mem_of_getElem? hy)).below hwo).more hwo.size)
      rw [← hxy] at lb
      have hs := vRSameEq x.r x.A y.A x.r.labels.length x.c y.c wo.drew la lb rfl (Ha.out.few x (List.mem_of_getElem? hx))
      obtain ⟨b, off, rfl, hc⟩ := rec_cells Ha.out.row hx hlt
      obtain ⟨b', off', rfl, hc'⟩ := rec_cells Hb.out.row hy hlt
      rw [← hxy] at hc'
      obtain ⟨R, eR, -⟩ := str_form x.r.line
      obtain ⟨tv, htv⟩ : ∃ tv, x.r.time = tv := ⟨_, rfl⟩
      obtain ⟨sv, hsv⟩ : ∃ sv, x.r.seq = sv := ⟨_, rfl⟩
      obtain ⟨ln, hln⟩ : ∃ ln, x.r.labels.length = ln := ⟨_, rfl⟩
      rw [eR, htv, hsv, hln] at hs hc hc'
      have p0 := fun w' (h : Below wo.heap.size wo w') => (hc w' (hbw.out.trans (h.mono hbw.out.size))).1
      have p1 := fun w' (h : Below wo.heap.size wo w') => (hc w' (hbw.out.trans (h.mono hbw.out.size))).2.1
      have p2 := fun w' (h : Below wo.heap.size wo w') => (hc w' (hbw.out.trans (h.mono hbw.out.size))).2.2.1
      have p3 := fun w' (h : Below wo.heap.size wo w') => (hc w' (hbw.out.trans (h.mono hbw.out.size))).2.2.2
      have q0 := fun w' (h : Below wo.heap.size wo w') => (hc' w' (hbw.out.trans (h.mono hbw.out.size))).1
      have q1 := fun w' (h : Below wo.heap.size wo w') => (hc' w' (hbw.out.trans (h.mono hbw.out.size))).2.1
      have q2 := fun w' (h : Below wo.heap.size wo w') => (hc' w' (hbw.out.trans (h.mono hbw.out.size))).2.2.1
      have q3 := fun w' (h : Below wo.heap.size wo w') => (hc' w' (hbw.out.trans (h.mono hbw.out.size))).2.2.2
      have HS := Lib.hid hs
      clear hs hc hc' eR htv hsv hln la lb hwo hx hy hxy
      go_upto_region 6 with fail
      refine wp_region_N (fun w' => Below wo.heap.size wo w') 100 (by kernel_rfl) ?_
      apply wpAnyN_takeL 0 (by kernel_rfl) rfl (fun _ _ _ h => h) (by kernel_rfl) hT
      · intro w' hS'
        go_simp; exact ⟨rfl, rfl⟩
      (try simp only [Act.put]); (try simp only [List.setIfInBounds_toArray]); (try simp only [List.set])
      apply wpAnyN_takeL 1 (by kernel_rfl) rfl (fun _ _ _ h => h) (by kernel_rfl) hT
      · intro w' hS'
        go_simp; exact ⟨rfl, rfl⟩
      (try simp only [Act.put]); (try simp only [List.setIfInBounds_toArray]); (try simp only [List.set])
      apply wpAnyN_takeL 2 (by kernel_rfl) rfl (fun _ _ _ h => h) (by kernel_rfl) hT
      · intro w' hS'
        go_simp; exact ⟨rfl, rfl⟩
      (try simp only [Act.put]); (try simp only [List.setIfInBounds_toArray]); (try simp only [List.set])
      apply wpAnyN_takeL 3 (by kernel_rfl) rfl (fun _ _ _ h => h) (by kernel_rfl) hT
      · intro w' hS'
        go_simp; exact ⟨rfl, rfl⟩
      (try simp only [Act.put]); (try simp only [List.setIfInBounds_toArray]); (try simp only [List.set])
      apply wpAnyN_takeL 4 (by kernel_rfl) rfl (fun _ _ _ h => h) (by kernel_rfl) hT
      · intro w' hS'
        go_simp; exact ⟨rfl, rfl⟩
      (try simp only [Act.put]); (try simp only [List.setIfInBounds_toArray]); (try simp only [List.set])
      apply wpAnyN_takeL 5 (by kernel_rfl) rfl (fun _ _ _ h => h) (by kernel_rfl) hT
      · intro w' hS'
        go_simp; exact ⟨rfl, rfl⟩
      (try simp only [Act.put]); (try simp only [List.setIfInBounds_toArray]); (try simp only [List.set])
      apply wpAnyN_takeL 6 (by kernel_rfl) rfl (fun _ _ _ h => h) (by kernel_rfl) hT
      · intro w' hS'
        go_simp; exact ⟨rfl, rfl⟩
      (try simp only [Act.put]); (try simp only [List.setIfInBounds_toArray]); (try simp only [List.set])
      apply wpAnyN_takeL 7 (by kernel_rfl) rfl (fun _ _ _ h => h) (by kernel_rfl) hT
      · intro w' hS'
        go_simp; exact ⟨rfl, rfl⟩
      (try simp only [Act.put]); (try simp only [List.setIfInBounds_toArray]); (try simp only [List.set])
      refine wpAnyN_runL 8 (by kernel_rfl) rfl (by kernel_rfl) (fun K hK => ?_)
      go_simp
      refine HS.out.mono ?_
      rintro e w1 ⟨rfl, hb1⟩
      have h1 := hT.trans hb1
      have HB := Lib.hid (hbw.out.trans (h1.mono hbw.out.size))
      refine hK _ _ (fun _ => h1) ?_
      clear hK K hb1 p0 p1 p2 p3 q0 q1 q2 q3 HS
      (try simp only [Act.put])
      apply wpAnyN_takeL 9 (by kernel_rfl) rfl (fun _ _ _ h => h) (by kernel_rfl) h1
      · intro w' hS'
        go_simp; exact ⟨rfl, rfl⟩
      (try simp only [Act.put]); (try simp only [List.setIfInBounds_toArray]); (try simp only [List.set])
      refine wpAnyN_done (by kernel_rfl) ?_ _
      clear h1 hT
      go_wp2
      go_roundw
      case rel => exact ⟨k + 1, by omega, by first | rfl | go_num, HB⟩
      case measure => simp [intOf]; omega
    · obtain rfl : k = n := by omega
      have z1 : ¬ (k : Int) < (k : Int) := by omega
      go_wp2
      go_ret
      exact ⟨rfl, hbw.out⟩
end Go.Proofs.YtecejnilajbdpaaGreatDoor

