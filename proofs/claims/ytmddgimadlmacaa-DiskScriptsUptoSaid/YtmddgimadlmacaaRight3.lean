import Derived.Test.YtmddgimadlmacaaRight1
/-! garnerlaw05.right: Read, List, Fill, Arm, Restart, and the rest (printed by gen_right2.py) -/
namespace Go.Proofs.Ytmddgimadlmacaa
open Go.RowKit Garner

set_option maxRecDepth 100000 in
set_option maxHeartbeats 8000000 in
theorem right_5 (v u : Value) (o : OpD) (r : Nat) (l : Bs) (w : World) (hk : o.kind = 5) (hl : l.length ≤ 140737488355328)
    (hM : ∀ X, Below w.heap.size w X → Calls Try.prog 22 #[v, .string (nmS o.a)] X fun e w1 => ∃ A c, e = .returned (.tuple #[.slice A l.length c, .int .i64 r]) ∧ OwnB w1 X.heap.size (.slice A l.length c) l ∧ Below X.heap.size X w1)
    (hR : ∀ w1, Below w.heap.size w w1 → Calls Try.prog 43 #[u, .string (nmS o.a)] w1 fun e w2 => (∃ A c, e = .returned (.tuple #[.slice A l.length c, .int .i64 r]) ∧ Bytes w2 w2.heap.size A l.length l) ∧ Below w1.heap.size w1 w2) :
    Calls Try.prog 32 #[v, u, .agg (opCells o).toArray] w fun e w' => e = .returned (.bool true) ∧ Below w.heap.size w w' := by
  obtain ⟨kind, on, n, a, b, A, c, data, Ak, ck, keep⟩ := o
  simp only at hk hM hR
  subst hk
  have HM := Lib.hid hM
  have HR := Lib.hid hR
  clear hM hR
  show Calls _ _ #[v, u, .agg #[.int .i64 5, .int .i64 on, .int .i64 n, .string (nmS a), .string (nmS b), .slice A data.length c, .slice Ak keep.length ck]] _ _
  go_enter Try.func32, Try.ntmps32
  go_upto_region 18 with fail
  obtain ⟨X, hX⟩ : ∃ X, X = w.alloc (.cells #[.int .i64 5, .int .i64 on, .int .i64 n, .string (nmS a), .string (nmS b), .slice A data.length c, .slice Ak keep.length ck] 63) := ⟨_, rfl⟩
  rw [← hX]
  have hbX : Below w.heap.size w X := by rw [hX]; exact (Below.refl _ _).alloc (Nat.le_refl _) _
  have kX : Blk X w.heap.size 63 [.int .i64 5, .int .i64 on, .int .i64 n, .string (nmS a), .string (nmS b), .slice A data.length c, .slice Ak keep.length ck] := by rw [hX]; exact Blk.new w _ _
  have hlt : w.heap.size < X.heap.size := kX.lt
  clear hX
  have y3 : X.cell? ⟨w.heap.size, 3, none⟩ = some (.string (nmS a)) := kX.cell 3
  go_wp2_with fail
  refine (HM.out X hbX).mono ?_
  rintro e w1 ⟨A1, c1, rfl, own1, hb1⟩
  have k1 := kX.below hb1 hlt
  have hb01 := hbX.trans (hb1.mono hbX.size)
  have y31 : w1.cell? ⟨w.heap.size, 3, none⟩ = some (.string (nmS a)) := k1.cell 3
  clear y3 hb1 HM
  go_wp2_with fail
  refine (HR.out w1 hb01).mono ?_
  rintro e w2 ⟨⟨A2, c2, rfl, row2⟩, hb2⟩
  have own2 := own_below own1 hb2
  have cv1 : ∀ c', (convert 26 9 (.slice A1 l.length c')).run Try.prog w2 = .ok (.string (nmS l)) w2 := fun c' => run_str (Row.of_own own2)
  have cv2 : ∀ c', (convert 26 9 (.slice A2 l.length c')).run Try.prog w2 = .ok (.string (nmS l)) w2 := fun c' => run_str row2
  have hb02 := hb01.trans (hb2.mono hb01.size)
  have hXs := hbX.size
  clear y31 own1 row2 hb01 hb2 HR k1 kX hbX
  go_wp2_with fail
  clear cv1 cv2
  go_loopw [15] (fun i wr => ∃ (k : Nat) (xs : List Value), k ≤ l.length ∧ i = .int .i64 k ∧ wr.ownsRow X.heap.size 5 1 (.slice A1 l.length c1) l.length xs ∧ Hid (xs.drop k = (l.map bv).drop k) ∧ Below w.heap.size w wr) (fun i _ => l.length - (intOf i).toNat)
  case atStart => exact ⟨0, _, by omega, rfl, own2, rfl, hb02⟩
  case round =>
    clear own2 hb02
    obtain ⟨k, xs, hk, rfl, ownk, hdr, hbel⟩ := hrel
    obtain ⟨wo, rfl⟩ : ∃ wo : World, wo = wr := ⟨_, rfl⟩
    by_cases hlt2 : (k : Int) < (l.length : Int)
    · obtain ⟨q, rfl, hq1, hq2, _, _, hcell⟩ := own_at ownk (by omega)
      have hlk : k < xs.length := by have := ownk.1; omega
      have hll : k < l.length := by omega
      obtain ⟨hxk, hset⟩ := drop_at hdr.out hlk (by rw [List.length_map]; exact hll)
      have ck1 : wo.cell? ⟨q, k, none⟩ = some xs[k] := by rw [hcell k (by omega), List.getElem?_eq_getElem hlk]
      rw [hxk, List.getElem_map] at ck1
      obtain ⟨dk, hdk⟩ : ∃ dk, dk = l[k] := ⟨_, rfl⟩
      rw [← hdk] at ck1
      simp only [bv] at ck1
      have fk := ownk.frozenAt k
      clear hcell hxk hdk hdr
      have Hset := Lib.hid hset
      clear hset
      go_wp2
      go_roundw
      case rel => exact ⟨k + 1, _, by omega, by go_num, own_set ownk, Hset.out _, hbel.setCell (by show w.heap.size ≤ q; omega) _⟩
      case measure => first | (simp [intOf]; done) | (simp [intOf]; omega)
    · go_wp2
      go_ret
      exact ⟨rfl, hbel⟩

set_option maxRecDepth 100000 in
set_option maxHeartbeats 8000000 in
theorem right_6 (v u : Value) (o : OpD) (r : Nat) (l : List Bs) (w : World) (hk : o.kind = 6) (hl : l.length ≤ 140737488355328)
    (hM : ∀ X, Below w.heap.size w X → Calls Try.prog 26 #[v] X fun e w1 => (∃ A c, e = .returned (.tuple #[.slice A l.length c, .int .i64 r]) ∧ Row w1 w1.heap.size 1 A l.length (l.map strV)) ∧ Below X.heap.size X w1)
    (hR : ∀ w1, Below w.heap.size w w1 → Calls Try.prog 42 #[u] w1 fun e w2 => (∃ A c, e = .returned (.tuple #[.slice A l.length c, .int .i64 r]) ∧ Row w2 w2.heap.size 1 A l.length (l.map strV)) ∧ Below w1.heap.size w1 w2) :
    Calls Try.prog 32 #[v, u, .agg (opCells o).toArray] w fun e w' => e = .returned (.bool true) ∧ Below w.heap.size w w' := by
  obtain ⟨kind, on, n, a, b, A, c, data, Ak, ck, keep⟩ := o
  simp only at hk hM hR
  subst hk
  have HM := Lib.hid hM
  have HR := Lib.hid hR
  clear hM hR
  show Calls _ _ #[v, u, .agg #[.int .i64 6, .int .i64 on, .int .i64 n, .string (nmS a), .string (nmS b), .slice A data.length c, .slice Ak keep.length ck]] _ _
  go_enter Try.func32, Try.ntmps32
  go_upto_region 27 with fail
  obtain ⟨X, hX⟩ : ∃ X, X = w.alloc (.cells #[.int .i64 6, .int .i64 on, .int .i64 n, .string (nmS a), .string (nmS b), .slice A data.length c, .slice Ak keep.length ck] 63) := ⟨_, rfl⟩
  rw [← hX]
  have hbX : Below w.heap.size w X := by rw [hX]; exact (Below.refl _ _).alloc (Nat.le_refl _) _
  have kX : Blk X w.heap.size 63 [.int .i64 6, .int .i64 on, .int .i64 n, .string (nmS a), .string (nmS b), .slice A data.length c, .slice Ak keep.length ck] := by rw [hX]; exact Blk.new w _ _
  have hlt : w.heap.size < X.heap.size := kX.lt
  clear hX
  go_wp2_with fail
  refine (HM.out X hbX).mono ?_
  rintro e w1 ⟨⟨A1, c1, rfl, row1⟩, hb1⟩
  have hb01 := hbX.trans (hb1.mono hbX.size)
  clear hb1 HM
  go_wp2_with fail
  refine (HR.out w1 hb01).mono ?_
  rintro e w2 ⟨⟨A2, c2, rfl, row2⟩, hb2⟩
  have row12 := (row1.below hb2).more hb2.size
  have hb02 := hb01.trans (hb2.mono hb01.size)
  clear row1 hb01 hb2 HR kX hbX
  go_wp2_with fail
  refine (vSame5 l l A1 A2 c1 c2 w2 row12 row2 hl hl).mono ?_
  rintro e w3 ⟨rfl, hb3⟩
  have hd : decide (l = l) = true := decide_eq_true rfl
  rw [hd]
  clear hd
  go_wp2
  go_ret
  exact ⟨rfl, hb02.trans (hb3.mono hb02.size)⟩

set_option maxRecDepth 100000 in
set_option maxHeartbeats 8000000 in
theorem right_7n (o : OpD) (w : World) (hk : o.kind = 7) : Calls Try.prog 32 #[.pointer none, .pointer none, .agg (opCells o).toArray] w fun e w' => e = .returned (.bool true) ∧ Below w.heap.size w w' := by
  obtain ⟨kind, on, n, a, b, A, c, data, Ak, ck, keep⟩ := o
  simp only at hk
  subst hk
  obtain ⟨v, hv⟩ : ∃ v : Value, v = .pointer none := ⟨_, rfl⟩
  show Calls _ _ #[.pointer none, .pointer none, .agg #[.int .i64 7, .int .i64 on, .int .i64 n, .string (nmS a), .string (nmS b), .slice A data.length c, .slice Ak keep.length ck]] _ _
  go_enter Try.func32, Try.ntmps32
  go_upto_region 31 with fail
  obtain ⟨X, hX⟩ : ∃ X, X = w.alloc (.cells #[.int .i64 7, .int .i64 on, .int .i64 n, .string (nmS a), .string (nmS b), .slice A data.length c, .slice Ak keep.length ck] 63) := ⟨_, rfl⟩
  rw [← hX]
  have hbX : Below w.heap.size w X := by rw [hX]; exact (Below.refl _ _).alloc (Nat.le_refl _) _
  have kX : Blk X w.heap.size 63 [.int .i64 7, .int .i64 on, .int .i64 n, .string (nmS a), .string (nmS b), .slice A data.length c, .slice Ak keep.length ck] := by rw [hX]; exact Blk.new w _ _
  have hlt : w.heap.size < X.heap.size := kX.lt
  clear hX
  have y : X.cell? ⟨w.heap.size, 2, none⟩ = some (.int .i64 n) := kX.cell 2
  go_wp2_with fail
  refine (pFillNil _ _).mono ?_
  rintro e w1 ⟨rfl, rfl⟩
  go_wp2_with fail
  refine (rFillNil _ _).mono ?_
  rintro e w2 ⟨rfl, rfl⟩
  go_wp2_with fail
  refine (pDownNil _).mono ?_
  rintro e w3 ⟨rfl, rfl⟩
  go_wp2
  go_ret
  exact ⟨rfl, hbX⟩

set_option maxRecDepth 100000 in
set_option maxHeartbeats 8000000 in
theorem right_7 (v : Value) (gr : Nat) (o : OpD) (B : Nat) (bs : List Nat) (z : Bool) (w : World) (M F : Bool → World → Prop) (hk : o.kind = 7) (hbs : ∀ k ∈ bs, B ≤ k ∧ k < w.heap.size) (hgr : gr ∈ bs) (hB : B ≤ w.heap.size) (hok : OpOk w B o)
    (hM : ∀ x, ∀ X, Below w.heap.size w X → OpOk X B o → Calls Try.prog 27 #[v, .bool x] X fun e w1 => e = .returned (.tuple #[]) ∧ But bs X w1 ∧ M x w1)
    (hR : ∀ (x : Bool) w1, M x w1 → B ≤ w1.heap.size → OpOk w1 B o → Calls Try.prog 37 #[.pointer (some ⟨gr, 0, none⟩), .bool x] w1 fun e w2 => e = .returned (.tuple #[]) ∧ But bs w1 w2 ∧ F x w2)
    (hD : ∀ x w2, F x w2 → w2.cell? ⟨gr, 2, none⟩ = some (.bool z) ∧ Calls Try.prog 25 #[v] w2 fun e w3 => e = .returned (.bool z) ∧ Below w2.heap.size w2 w3) :
    Calls Try.prog 32 #[v, .pointer (some ⟨gr, 0, none⟩), .agg (opCells o).toArray] w fun e w' => e = .returned (.bool true) ∧ (∃ x w2, F x w2 ∧ Below w2.heap.size w2 w') ∧ But bs w w' := by
  obtain ⟨kind, on, n, a, b, A, c, data, Ak, ck, keep⟩ := o
  simp only at hk hM hR
  subst hk
  have HM := Lib.hid hM
  have HR := Lib.hid hR
  have HD := Lib.hid hD
  have HO := Lib.hid hok
  clear hM hR hD hok
  show Calls _ _ #[v, .pointer (some ⟨gr, 0, none⟩), .agg #[.int .i64 7, .int .i64 on, .int .i64 n, .string (nmS a), .string (nmS b), .slice A data.length c, .slice Ak keep.length ck]] _ _
  go_enter Try.func32, Try.ntmps32
  go_upto_region 31 with fail
  obtain ⟨X, hX⟩ : ∃ X, X = w.alloc (.cells #[.int .i64 7, .int .i64 on, .int .i64 n, .string (nmS a), .string (nmS b), .slice A data.length c, .slice Ak keep.length ck] 63) := ⟨_, rfl⟩
  rw [← hX]
  have hbX : Below w.heap.size w X := by rw [hX]; exact (Below.refl _ _).alloc (Nat.le_refl _) _
  have kX : Blk X w.heap.size 63 [.int .i64 7, .int .i64 on, .int .i64 n, .string (nmS a), .string (nmS b), .slice A data.length c, .slice Ak keep.length ck] := by rw [hX]; exact Blk.new w _ _
  have hlt : w.heap.size < X.heap.size := kX.lt
  clear hX
  have hne : w.heap.size ∉ bs := fun hm => by have := hbs _ hm; omega
  have y : X.cell? ⟨w.heap.size, 2, none⟩ = some (.int .i64 n) := kX.cell 2
  have hokX := HO.out.below (hbX.mono hB)
  have HOX := Lib.hid hokX
  clear hokX
  go_wp2_with fail
  refine (HM.out _ X hbX HOX.out).mono ?_
  rintro e w1 ⟨rfl, hb1, h1⟩
  have k1 := kX.but hb1 hne
  have y1 : w1.cell? ⟨w.heap.size, 2, none⟩ = some (.int .i64 n) := k1.cell 2
  have hb01 := (But.of_below hbX).trans hb1
  have HO1 := Lib.hid (HO.out.below (hb01.below hB (fun k hk => (hbs k hk).1)))
  clear y
  go_wp2_with fail
  refine (HR.out _ w1 h1 (by have := hb01.size; omega) HO1.out).mono ?_
  rintro e w2 ⟨rfl, hb2, h2⟩
  obtain ⟨hc2, hd2⟩ := HD.out _ w2 h2
  have hb02 := hb01.trans hb2
  have HD2 := Lib.hid hd2
  clear hd2 y1
  have hgl : gr < w2.heap.size := by have := (hbs gr hgr).2; have := hb02.size; omega
  go_wp2_with fail
  refine (HD2.out).mono ?_
  rintro e w3 ⟨rfl, hb3⟩
  have hc3 : w3.cell? ⟨gr, 2, none⟩ = some (.bool z) := (hb3.cell (p := ⟨gr, 2, none⟩) hgl).trans hc2
  have hp := Lib.hid (show ∃ x w2, F x w2 ∧ Below w2.heap.size w2 w3 from ⟨_, w2, h2, hb3⟩)
  clear hc2 HD2 HD HM HR HO HOX HO1 h1 h2
  cases z with
  | true =>
    go_wp2
    go_ret
    exact ⟨rfl, hp.out, hb02.trans (But.of_below hb3)⟩
  | false =>
    go_wp2
    go_ret
    exact ⟨rfl, hp.out, hb02.trans (But.of_below hb3)⟩

set_option maxRecDepth 100000 in
set_option maxHeartbeats 8000000 in
theorem right_8n (o : OpD) (w : World) (hk : o.kind = 8) : Calls Try.prog 32 #[.pointer none, .pointer none, .agg (opCells o).toArray] w fun e w' => e = .returned (.bool true) ∧ Below w.heap.size w w' := by
  obtain ⟨kind, on, n, a, b, A, c, data, Ak, ck, keep⟩ := o
  simp only at hk
  subst hk
  obtain ⟨v, hv⟩ : ∃ v : Value, v = .pointer none := ⟨_, rfl⟩
  show Calls _ _ #[.pointer none, .pointer none, .agg #[.int .i64 8, .int .i64 on, .int .i64 n, .string (nmS a), .string (nmS b), .slice A data.length c, .slice Ak keep.length ck]] _ _
  go_enter Try.func32, Try.ntmps32
  go_upto_region 34 with fail
  obtain ⟨X, hX⟩ : ∃ X, X = w.alloc (.cells #[.int .i64 8, .int .i64 on, .int .i64 n, .string (nmS a), .string (nmS b), .slice A data.length c, .slice Ak keep.length ck] 63) := ⟨_, rfl⟩
  rw [← hX]
  have hbX : Below w.heap.size w X := by rw [hX]; exact (Below.refl _ _).alloc (Nat.le_refl _) _
  have kX : Blk X w.heap.size 63 [.int .i64 8, .int .i64 on, .int .i64 n, .string (nmS a), .string (nmS b), .slice A data.length c, .slice Ak keep.length ck] := by rw [hX]; exact Blk.new w _ _
  have hlt : w.heap.size < X.heap.size := kX.lt
  clear hX
  have y : X.cell? ⟨w.heap.size, 2, none⟩ = some (.int .i64 n) := kX.cell 2
  go_wp2_with fail
  refine (pArmNil _ _).mono ?_
  rintro e w1 ⟨rfl, rfl⟩
  go_wp2_with fail
  refine (rArmNil _ _).mono ?_
  rintro e w2 ⟨rfl, rfl⟩
  go_wp2_with fail
  refine (pDownNil _).mono ?_
  rintro e w3 ⟨rfl, rfl⟩
  go_wp2
  go_ret
  exact ⟨rfl, hbX⟩

set_option maxRecDepth 100000 in
set_option maxHeartbeats 8000000 in
theorem right_8 (v : Value) (gr : Nat) (o : OpD) (B : Nat) (bs : List Nat) (z : Bool) (w : World) (M F : Bool → World → Prop) (hk : o.kind = 8) (hbs : ∀ k ∈ bs, B ≤ k ∧ k < w.heap.size) (hgr : gr ∈ bs) (hB : B ≤ w.heap.size) (hok : OpOk w B o)
    (hM : ∀ x : Bool, ∀ X, Below w.heap.size w X → OpOk X B o → Calls Try.prog 23 #[v, .int .i64 o.n] X fun e w1 => e = .returned (.tuple #[]) ∧ But bs X w1 ∧ M x w1)
    (hR : ∀ (x : Bool) w1, M x w1 → B ≤ w1.heap.size → OpOk w1 B o → Calls Try.prog 36 #[.pointer (some ⟨gr, 0, none⟩), .int .i64 o.n] w1 fun e w2 => e = .returned (.tuple #[]) ∧ But bs w1 w2 ∧ F x w2)
    (hD : ∀ x w2, F x w2 → w2.cell? ⟨gr, 2, none⟩ = some (.bool z) ∧ Calls Try.prog 25 #[v] w2 fun e w3 => e = .returned (.bool z) ∧ Below w2.heap.size w2 w3) :
    Calls Try.prog 32 #[v, .pointer (some ⟨gr, 0, none⟩), .agg (opCells o).toArray] w fun e w' => e = .returned (.bool true) ∧ (∃ x w2, F x w2 ∧ Below w2.heap.size w2 w') ∧ But bs w w' := by
  obtain ⟨kind, on, n, a, b, A, c, data, Ak, ck, keep⟩ := o
  simp only at hk hM hR
  subst hk
  have HM := Lib.hid hM
  have HR := Lib.hid hR
  have HD := Lib.hid hD
  have HO := Lib.hid hok
  clear hM hR hD hok
  show Calls _ _ #[v, .pointer (some ⟨gr, 0, none⟩), .agg #[.int .i64 8, .int .i64 on, .int .i64 n, .string (nmS a), .string (nmS b), .slice A data.length c, .slice Ak keep.length ck]] _ _
  go_enter Try.func32, Try.ntmps32
  go_upto_region 34 with fail
  obtain ⟨X, hX⟩ : ∃ X, X = w.alloc (.cells #[.int .i64 8, .int .i64 on, .int .i64 n, .string (nmS a), .string (nmS b), .slice A data.length c, .slice Ak keep.length ck] 63) := ⟨_, rfl⟩
  rw [← hX]
  have hbX : Below w.heap.size w X := by rw [hX]; exact (Below.refl _ _).alloc (Nat.le_refl _) _
  have kX : Blk X w.heap.size 63 [.int .i64 8, .int .i64 on, .int .i64 n, .string (nmS a), .string (nmS b), .slice A data.length c, .slice Ak keep.length ck] := by rw [hX]; exact Blk.new w _ _
  have hlt : w.heap.size < X.heap.size := kX.lt
  clear hX
  have hne : w.heap.size ∉ bs := fun hm => by have := hbs _ hm; omega
  have y : X.cell? ⟨w.heap.size, 2, none⟩ = some (.int .i64 n) := kX.cell 2
  have hokX := HO.out.below (hbX.mono hB)
  have HOX := Lib.hid hokX
  clear hokX
  go_wp2_with fail
  refine (HM.out true X hbX HOX.out).mono ?_
  rintro e w1 ⟨rfl, hb1, h1⟩
  have k1 := kX.but hb1 hne
  have y1 : w1.cell? ⟨w.heap.size, 2, none⟩ = some (.int .i64 n) := k1.cell 2
  have hb01 := (But.of_below hbX).trans hb1
  have HO1 := Lib.hid (HO.out.below (hb01.below hB (fun k hk => (hbs k hk).1)))
  clear y
  go_wp2_with fail
  refine (HR.out _ w1 h1 (by have := hb01.size; omega) HO1.out).mono ?_
  rintro e w2 ⟨rfl, hb2, h2⟩
  obtain ⟨hc2, hd2⟩ := HD.out _ w2 h2
  have hb02 := hb01.trans hb2
  have HD2 := Lib.hid hd2
  clear hd2 y1
  have hgl : gr < w2.heap.size := by have := (hbs gr hgr).2; have := hb02.size; omega
  go_wp2_with fail
  refine (HD2.out).mono ?_
  rintro e w3 ⟨rfl, hb3⟩
  have hc3 : w3.cell? ⟨gr, 2, none⟩ = some (.bool z) := (hb3.cell (p := ⟨gr, 2, none⟩) hgl).trans hc2
  have hp := Lib.hid (show ∃ x w2, F x w2 ∧ Below w2.heap.size w2 w3 from ⟨_, w2, h2, hb3⟩)
  clear hc2 HD2 HD HM HR HO HOX HO1 h1 h2
  cases z with
  | true =>
    go_wp2
    go_ret
    exact ⟨rfl, hp.out, hb02.trans (But.of_below hb3)⟩
  | false =>
    go_wp2
    go_ret
    exact ⟨rfl, hp.out, hb02.trans (But.of_below hb3)⟩

set_option maxRecDepth 100000 in
set_option maxHeartbeats 8000000 in
theorem right_9n (o : OpD) (w : World) (hk : o.kind = 9) : Calls Try.prog 32 #[.pointer none, .pointer none, .agg (opCells o).toArray] w fun e w' => e = .returned (.bool true) ∧ Below w.heap.size w w' := by
  obtain ⟨kind, on, n, a, b, A, c, data, Ak, ck, keep⟩ := o
  simp only at hk
  subst hk
  obtain ⟨v, hv⟩ : ∃ v : Value, v = .pointer none := ⟨_, rfl⟩
  show Calls _ _ #[.pointer none, .pointer none, .agg #[.int .i64 9, .int .i64 on, .int .i64 n, .string (nmS a), .string (nmS b), .slice A data.length c, .slice Ak keep.length ck]] _ _
  go_enter Try.func32, Try.ntmps32
  go_upto_region 37 with fail
  obtain ⟨X, hX⟩ : ∃ X, X = w.alloc (.cells #[.int .i64 9, .int .i64 on, .int .i64 n, .string (nmS a), .string (nmS b), .slice A data.length c, .slice Ak keep.length ck] 63) := ⟨_, rfl⟩
  rw [← hX]
  have hbX : Below w.heap.size w X := by rw [hX]; exact (Below.refl _ _).alloc (Nat.le_refl _) _
  have kX : Blk X w.heap.size 63 [.int .i64 9, .int .i64 on, .int .i64 n, .string (nmS a), .string (nmS b), .slice A data.length c, .slice Ak keep.length ck] := by rw [hX]; exact Blk.new w _ _
  have hlt : w.heap.size < X.heap.size := kX.lt
  clear hX
  have y : X.cell? ⟨w.heap.size, 6, none⟩ = some (.slice Ak keep.length ck) := kX.cell 6
  go_wp2_with fail
  refine (pRestartNil _ _ _ _).mono ?_
  rintro e w1 ⟨rfl, rfl⟩
  go_wp2_with fail
  refine (rRestartNil _ _ _ _).mono ?_
  rintro e w2 ⟨rfl, rfl⟩
  go_wp2_with fail
  refine (pDownNil _).mono ?_
  rintro e w3 ⟨rfl, rfl⟩
  go_wp2
  go_ret
  exact ⟨rfl, hbX⟩

set_option maxRecDepth 100000 in
set_option maxHeartbeats 8000000 in
theorem right_9 (v : Value) (gr : Nat) (o : OpD) (B : Nat) (bs : List Nat) (z : Bool) (w : World) (M F : Bool → World → Prop) (hk : o.kind = 9) (hbs : ∀ k ∈ bs, B ≤ k ∧ k < w.heap.size) (hgr : gr ∈ bs) (hB : B ≤ w.heap.size) (hok : OpOk w B o)
    (hM : ∀ x : Bool, ∀ X, Below w.heap.size w X → OpOk X B o → Calls Try.prog 21 #[v, .slice o.Ak o.keep.length o.ck] X fun e w1 => e = .returned (.tuple #[]) ∧ But bs X w1 ∧ M x w1)
    (hR : ∀ (x : Bool) w1, M x w1 → B ≤ w1.heap.size → OpOk w1 B o → Calls Try.prog 34 #[.pointer (some ⟨gr, 0, none⟩), .slice o.Ak o.keep.length o.ck] w1 fun e w2 => e = .returned (.tuple #[]) ∧ But bs w1 w2 ∧ F x w2)
    (hD : ∀ x w2, F x w2 → w2.cell? ⟨gr, 2, none⟩ = some (.bool z) ∧ Calls Try.prog 25 #[v] w2 fun e w3 => e = .returned (.bool z) ∧ Below w2.heap.size w2 w3) :
    Calls Try.prog 32 #[v, .pointer (some ⟨gr, 0, none⟩), .agg (opCells o).toArray] w fun e w' => e = .returned (.bool true) ∧ (∃ x w2, F x w2 ∧ Below w2.heap.size w2 w') ∧ But bs w w' := by
  obtain ⟨kind, on, n, a, b, A, c, data, Ak, ck, keep⟩ := o
  simp only at hk hM hR
  subst hk
  have HM := Lib.hid hM
  have HR := Lib.hid hR
  have HD := Lib.hid hD
  have HO := Lib.hid hok
  clear hM hR hD hok
  show Calls _ _ #[v, .pointer (some ⟨gr, 0, none⟩), .agg #[.int .i64 9, .int .i64 on, .int .i64 n, .string (nmS a), .string (nmS b), .slice A data.length c, .slice Ak keep.length ck]] _ _
  go_enter Try.func32, Try.ntmps32
  go_upto_region 37 with fail
  obtain ⟨X, hX⟩ : ∃ X, X = w.alloc (.cells #[.int .i64 9, .int .i64 on, .int .i64 n, .string (nmS a), .string (nmS b), .slice A data.length c, .slice Ak keep.length ck] 63) := ⟨_, rfl⟩
  rw [← hX]
  have hbX : Below w.heap.size w X := by rw [hX]; exact (Below.refl _ _).alloc (Nat.le_refl _) _
  have kX : Blk X w.heap.size 63 [.int .i64 9, .int .i64 on, .int .i64 n, .string (nmS a), .string (nmS b), .slice A data.length c, .slice Ak keep.length ck] := by rw [hX]; exact Blk.new w _ _
  have hlt : w.heap.size < X.heap.size := kX.lt
  clear hX
  have hne : w.heap.size ∉ bs := fun hm => by have := hbs _ hm; omega
  have y : X.cell? ⟨w.heap.size, 6, none⟩ = some (.slice Ak keep.length ck) := kX.cell 6
  have hokX := HO.out.below (hbX.mono hB)
  have HOX := Lib.hid hokX
  clear hokX
  go_wp2_with fail
  refine (HM.out true X hbX HOX.out).mono ?_
  rintro e w1 ⟨rfl, hb1, h1⟩
  have k1 := kX.but hb1 hne
  have y1 : w1.cell? ⟨w.heap.size, 6, none⟩ = some (.slice Ak keep.length ck) := k1.cell 6
  have hb01 := (But.of_below hbX).trans hb1
  have HO1 := Lib.hid (HO.out.below (hb01.below hB (fun k hk => (hbs k hk).1)))
  clear y
  go_wp2_with fail
  refine (HR.out _ w1 h1 (by have := hb01.size; omega) HO1.out).mono ?_
  rintro e w2 ⟨rfl, hb2, h2⟩
  obtain ⟨hc2, hd2⟩ := HD.out _ w2 h2
  have hb02 := hb01.trans hb2
  have HD2 := Lib.hid hd2
  clear hd2 y1
  have hgl : gr < w2.heap.size := by have := (hbs gr hgr).2; have := hb02.size; omega
  go_wp2_with fail
  refine (HD2.out).mono ?_
  rintro e w3 ⟨rfl, hb3⟩
  have hc3 : w3.cell? ⟨gr, 2, none⟩ = some (.bool z) := (hb3.cell (p := ⟨gr, 2, none⟩) hgl).trans hc2
  have hp := Lib.hid (show ∃ x w2, F x w2 ∧ Below w2.heap.size w2 w3 from ⟨_, w2, h2, hb3⟩)
  clear hc2 HD2 HD HM HR HO HOX HO1 h1 h2
  cases z with
  | true =>
    go_wp2
    go_ret
    exact ⟨rfl, hp.out, hb02.trans (But.of_below hb3)⟩
  | false =>
    go_wp2
    go_ret
    exact ⟨rfl, hp.out, hb02.trans (But.of_below hb3)⟩

set_option maxRecDepth 100000 in
set_option maxHeartbeats 8000000 in
theorem right_0n (o : OpD) (w : World) (hk : o.kind < 1 ∨ 9 < o.kind) : Calls Try.prog 32 #[.pointer none, .pointer none, .agg (opCells o).toArray] w fun e w' => e = .returned (.bool true) ∧ Below w.heap.size w w' := by
  obtain ⟨kind, on, n, a, b, A, c, data, Ak, ck, keep⟩ := o
  simp only at hk
  have e1 : (kind == 1) = false := by rw [beq_eq_false_iff_ne]; omega
  have e2 : (kind == 2) = false := by rw [beq_eq_false_iff_ne]; omega
  have e3 : (kind == 3) = false := by rw [beq_eq_false_iff_ne]; omega
  have e4 : (kind == 4) = false := by rw [beq_eq_false_iff_ne]; omega
  have e5 : (kind == 5) = false := by rw [beq_eq_false_iff_ne]; omega
  have e6 : (kind == 6) = false := by rw [beq_eq_false_iff_ne]; omega
  have e7 : (kind == 7) = false := by rw [beq_eq_false_iff_ne]; omega
  have e8 : (kind == 8) = false := by rw [beq_eq_false_iff_ne]; omega
  have e9 : (kind == 9) = false := by rw [beq_eq_false_iff_ne]; omega
  clear hk
  show Calls _ _ #[.pointer none, .pointer none, .agg #[.int .i64 kind, .int .i64 on, .int .i64 n, .string (nmS a), .string (nmS b), .slice A data.length c, .slice Ak keep.length ck]] _ _
  go_enter Try.func32, Try.ntmps32
  go_wp2_with fail
  refine (pDownNil _).mono ?_
  rintro e w3 ⟨rfl, rfl⟩
  go_wp2
  go_ret
  exact ⟨rfl, (Below.refl _ _).alloc (Nat.le_refl _) _⟩

set_option maxRecDepth 100000 in
set_option maxHeartbeats 8000000 in
theorem right_0 (v : Value) (gr : Nat) (o : OpD) (z : Bool) (w : World) (hk : o.kind < 1 ∨ 9 < o.kind) (hgl : gr < w.heap.size) (hc : w.cell? ⟨gr, 2, none⟩ = some (.bool z))
    (hD : ∀ X, Below w.heap.size w X → Calls Try.prog 25 #[v] X fun e w3 => e = .returned (.bool z) ∧ Below X.heap.size X w3) :
    Calls Try.prog 32 #[v, .pointer (some ⟨gr, 0, none⟩), .agg (opCells o).toArray] w fun e w' => e = .returned (.bool true) ∧ Below w.heap.size w w' := by
  obtain ⟨kind, on, n, a, b, A, c, data, Ak, ck, keep⟩ := o
  simp only at hk
  have e1 : (kind == 1) = false := by rw [beq_eq_false_iff_ne]; omega
  have e2 : (kind == 2) = false := by rw [beq_eq_false_iff_ne]; omega
  have e3 : (kind == 3) = false := by rw [beq_eq_false_iff_ne]; omega
  have e4 : (kind == 4) = false := by rw [beq_eq_false_iff_ne]; omega
  have e5 : (kind == 5) = false := by rw [beq_eq_false_iff_ne]; omega
  have e6 : (kind == 6) = false := by rw [beq_eq_false_iff_ne]; omega
  have e7 : (kind == 7) = false := by rw [beq_eq_false_iff_ne]; omega
  have e8 : (kind == 8) = false := by rw [beq_eq_false_iff_ne]; omega
  have e9 : (kind == 9) = false := by rw [beq_eq_false_iff_ne]; omega
  clear hk
  have HD := Lib.hid hD
  clear hD
  show Calls _ _ #[v, .pointer (some ⟨gr, 0, none⟩), .agg #[.int .i64 kind, .int .i64 on, .int .i64 n, .string (nmS a), .string (nmS b), .slice A data.length c, .slice Ak keep.length ck]] _ _
  go_enter Try.func32, Try.ntmps32
  go_upto_region 39 with fail
  obtain ⟨X, hX⟩ : ∃ X, X = w.alloc (.cells #[.int .i64 kind, .int .i64 on, .int .i64 n, .string (nmS a), .string (nmS b), .slice A data.length c, .slice Ak keep.length ck] 63) := ⟨_, rfl⟩
  rw [← hX]
  have hbX : Below w.heap.size w X := by rw [hX]; exact (Below.refl _ _).alloc (Nat.le_refl _) _
  have kX : Blk X w.heap.size 63 [.int .i64 kind, .int .i64 on, .int .i64 n, .string (nmS a), .string (nmS b), .slice A data.length c, .slice Ak keep.length ck] := by rw [hX]; exact Blk.new w _ _
  have hlt : w.heap.size < X.heap.size := kX.lt
  clear hX
  go_wp2_with fail
  refine (HD.out X hbX).mono ?_
  rintro e w3 ⟨rfl, hb3⟩
  have hb03 := hbX.trans (hb3.mono hbX.size)
  have hc3 : w3.cell? ⟨gr, 2, none⟩ = some (.bool z) := (hb03.cell (p := ⟨gr, 2, none⟩) hgl).trans hc
  clear hc
  cases z with
  | true =>
    go_wp2
    go_ret
    exact ⟨rfl, hb03⟩
  | false =>
    go_wp2
    go_ret
    exact ⟨rfl, hb03⟩

end Go.Proofs.Ytmddgimadlmacaa
