import Derived.Test.YtmddgimadlmacaaRight0
/-! garnerlaw05.right: Append -/
namespace Go.Proofs.Ytmddgimadlmacaa
open Go.RowKit Garner

theorem row_front {w : World} {B n : Nat} {A : Option Addr} {xs ys : List Value} {m : Nat} (h : Row w B 1 A m (xs ++ ys)) (hl : xs.length = n) (hn : n ≤ m) : Row w B 1 A n xs := by
  refine ⟨by omega, fun h0 => ?_⟩
  obtain ⟨b, off, e, hb, hc⟩ := h.2 (by omega)
  exact ⟨b, off, e, hb, fun j u hu => hc j u (by rw [List.getElem?_append_left (List.getElem?_eq_some_iff.1 hu).1]; exact hu)⟩
theorem drop_at {α : Type} {xs ys : List α} {k : Nat} (h : xs.drop k = ys.drop k) (hx : k < xs.length) (hy : k < ys.length) : xs[k] = ys[k] ∧ ∀ u, (xs.set k u).drop (k + 1) = ys.drop (k + 1) := by
  have h1 : (xs.drop k)[0]? = (ys.drop k)[0]? := by rw [h]
  simp only [List.getElem?_drop, Nat.add_zero, List.getElem?_eq_getElem hx, List.getElem?_eq_getElem hy, Option.some.injEq] at h1
  refine ⟨h1, fun u => ?_⟩
  rw [List.drop_set_of_lt (by omega), ← List.drop_drop, h, List.drop_drop]
set_option maxRecDepth 100000 in
set_option maxHeartbeats 8000000 in
theorem right_1 (v u : Value) (o : OpD) (r B : Nat) (bs : List Nat) (w : World) (M F : Nat → World → Prop) (G : World → Prop) (hk : o.kind = 1) (hbs : ∀ k ∈ bs, B ≤ k ∧ k < w.heap.size) (hB : B ≤ w.heap.size) (hok : OpOk w B o)
    (hM : ∀ X A c, Below w.heap.size w X → Bytes X X.heap.size A o.data.length o.data → Calls Try.prog 19 #[v, .string (nmS o.a), .slice A o.data.length c] X fun e w1 => e = .returned (.int .i64 r) ∧ But bs X w1 ∧ M X.heap.size w1)
    (hR : ∀ n w1, M n w1 → B ≤ w1.heap.size → Bytes w1 B o.A o.data.length o.data → Calls Try.prog 67 #[u, .string (nmS o.a), .slice o.A o.data.length o.c] w1 fun e w2 => e = .returned (.int .i64 r) ∧ But bs w1 w2 ∧ F n w2)
    (hF : ∀ n w2 w3 q, F n w2 → w.heap.size ≤ q → q < n → But [q] w2 w3 → G w3) :
    Calls Try.prog 32 #[v, u, .agg (opCells o).toArray] w fun e w' => e = .returned (.bool true) ∧ G w' ∧ But bs w w' := by
  obtain ⟨kind, on, n, a, b, A, c, data, Ak, ck, keep⟩ := o
  have hdat := hok.data; have hdl := hok.dl
  simp only at hk hM hR hdat hdl
  clear hok
  subst hk
  have HM := Lib.hid hM
  have HR := Lib.hid hR
  have HF := Lib.hid hF
  clear hM hR hF
  show Calls _ _ #[v, u, .agg #[.int .i64 1, .int .i64 on, .int .i64 n, .string (nmS a), .string (nmS b), .slice A data.length c, .slice Ak keep.length ck]] _ _
  go_enter Try.func32, Try.ntmps32
  go_upto_region 3 with fail
  obtain ⟨X, hX⟩ : ∃ X, X = w.alloc (.cells #[.int .i64 1, .int .i64 on, .int .i64 n, .string (nmS a), .string (nmS b), .slice A data.length c, .slice Ak keep.length ck] 63) := ⟨_, rfl⟩
  rw [← hX]
  have hbX : Below w.heap.size w X := by rw [hX]; exact (Below.refl _ _).alloc (Nat.le_refl _) _
  have kX : Blk X w.heap.size 63 [.int .i64 1, .int .i64 on, .int .i64 n, .string (nmS a), .string (nmS b), .slice A data.length c, .slice Ak keep.length ck] := by rw [hX]; exact Blk.new w _ _
  have hlt : w.heap.size < X.heap.size := kX.lt
  have hne : w.heap.size ∉ bs := fun hm => by have := hbs _ hm; omega
  clear hX
  have y5 : X.cell? ⟨w.heap.size, 5, none⟩ = some (.slice A data.length c) := kX.cell 5
  have own0 : (X.alloc (.cells #[] 5)).ownsRow X.heap.size 5 1 (.slice (some ⟨X.heap.size, 0, none⟩) 0 0) 0 [] := own_empty (heap_alloc_new _ _) (Nat.le_refl _)
  have hd0 : Bytes (X.alloc (.cells #[] 5)) B A data.length data := (hdat.below (hbX.mono hB)).alloc (by omega) _
  have hbX0 : Below X.heap.size X (X.alloc (.cells #[] 5)) := (Below.refl _ _).alloc (Nat.le_refl _) _
  go_upto_region 4 with (first | (at_builtin; refine wpList_app _ rfl bytesE rfl rfl own3 rfl row3 (by simp [Value.oneCell']) (by omega) hs3.size ?_; intro v4 w4 hown4 hg4 hb4 hx4) | (at_builtin; refine wpList_app _ rfl bytesE rfl rfl own0 rfl hd0 (bv_one _) (by omega) hbX0.size ?_; intro v3 w3 hown3 hg3 hb3 hx3; simp only [Nat.zero_add, List.nil_append] at hown3; have hb03 := hbX0.trans hb3; have own3 := own_below hown3 (w' := w3.alloc (.cells #[.int .u8 1] 5)) ((Below.refl _ _).alloc (Nat.le_refl _) _); have row3 : Row (w3.alloc (.cells #[.int .u8 1] 5)) (w3.heap.size + 1) 1 (some ⟨w3.heap.size, 0, none⟩) 1 [.int .u8 1] := row_new w3 5 [.int .u8 1]; have hs3 : Below X.heap.size X (w3.alloc (.cells #[.int .u8 1] 5)) := hb03.alloc hb03.size _; clear hg3 hb3 hx3 hown3))
  have hbX4 : Below X.heap.size X w4 := hs3.trans hb4
  have hown4' : w4.ownsRow X.heap.size 5 1 v4 (data.length + 1) (data.map bv ++ [Value.int .u8 1]) := hown4
  clear own3 row3 hs3 hb03 hg4 hb4 hx4 hown4 own0 hd0 hbX0 y5
  obtain ⟨A4, c4, rfl, hc4⟩ := own_form hown4'
  obtain ⟨q, rfl, hq1, hq2, _, _, _⟩ := own_at hown4' (by omega)
  have k4 := kX.below hbX4 kX.lt
  have hb04 : Below w.heap.size w w4 := hbX.trans (hbX4.mono hbX.size)
  have hrow4 : Bytes w4 w4.heap.size (some ⟨q, 0, none⟩) data.length data := row_front (Row.of_own hown4') (by simp) (by omega)
  have hS0 : Blk w4.drew w.heap.size 63 [.int .i64 1, .int .i64 on, .int .i64 n, .string (nmS a), .string (nmS b), .slice A data.length c, .slice Ak keep.length ck] := k4.drew
  have y3 : ∀ w', Blk w' w.heap.size 63 [.int .i64 1, .int .i64 on, .int .i64 n, .string (nmS a), .string (nmS b), .slice A data.length c, .slice Ak keep.length ck] → w'.cell? ⟨w.heap.size, 3, none⟩ = some (.string (nmS a)) := fun w' h => h.cell 3
  have y5 : ∀ w', Blk w' w.heap.size 63 [.int .i64 1, .int .i64 on, .int .i64 n, .string (nmS a), .string (nmS b), .slice A data.length c, .slice Ak keep.length ck] → w'.cell? ⟨w.heap.size, 5, none⟩ = some (.slice A data.length c) := fun w' h => h.cell 5
  have hn8 : (data.length : Int) ≤ c4 := by omega
  refine wp_region_N (fun w' => Blk w' w.heap.size 63 [.int .i64 1, .int .i64 on, .int .i64 n, .string (nmS a), .string (nmS b), .slice A data.length c, .slice Ak keep.length ck]) 100 (by kernel_rfl) ?_
  apply wpAnyN_takeL 0 (by kernel_rfl) rfl (fun _ _ _ h => h) (by kernel_rfl) hS0
  · intro w' hS'
    go_simp; exact ⟨rfl, rfl⟩
  (try simp only [Act.put]); (try simp only [List.setIfInBounds_toArray]); (try simp only [List.set])
  apply wpAnyN_takeL 1 (by kernel_rfl) rfl (fun _ _ _ h => h) (by kernel_rfl) hS0
  · intro w' hS'
    go_simp; exact ⟨rfl, rfl⟩
  (try simp only [Act.put]); (try simp only [List.setIfInBounds_toArray]); (try simp only [List.set])
  apply wpAnyN_takeL 2 (by kernel_rfl) rfl (fun _ _ _ h => h) (by kernel_rfl) hS0
  · intro w' hS'
    go_simp; exact ⟨rfl, rfl⟩
  (try simp only [Act.put]); (try simp only [List.setIfInBounds_toArray]); (try simp only [List.set])
  apply wpAnyN_takeL 3 (by kernel_rfl) rfl (fun _ _ _ h => h) (by kernel_rfl) hS0
  · intro w' hS'
    go_simp; exact ⟨rfl, rfl⟩
  (try simp only [Act.put]); (try simp only [List.setIfInBounds_toArray]); (try simp only [List.set])
  apply wpAnyN_takeL 4 (by kernel_rfl) rfl (fun _ _ _ h => h) (by kernel_rfl) hS0
  · intro w' hS'
    go_simp; exact ⟨rfl, rfl⟩
  (try simp only [Act.put]); (try simp only [List.setIfInBounds_toArray]); (try simp only [List.set])
  apply wpAnyN_takeL 5 (by kernel_rfl) rfl (fun _ _ _ h => h) (by kernel_rfl) hS0
  · intro w' hS'
    go_simp; exact ⟨rfl, rfl⟩
  (try simp only [Act.put]); (try simp only [List.setIfInBounds_toArray]); (try simp only [List.set])
  apply wpAnyN_takeL 6 (by kernel_rfl) rfl (fun _ _ _ h => h) (by kernel_rfl) hS0
  · intro w' hS'
    go_simp; exact ⟨rfl, rfl⟩
  (try simp only [Act.put]); (try simp only [List.setIfInBounds_toArray]); (try simp only [List.set])
  apply wpAnyN_takeL 7 (by kernel_rfl) rfl (fun _ _ _ h => h) (by kernel_rfl) hS0
  · intro w' hS'
    go_simp; exact ⟨rfl, rfl⟩
  (try simp only [Act.put]); (try simp only [List.setIfInBounds_toArray]); (try simp only [List.set])
  apply wpAnyN_takeL 9 (by kernel_rfl) rfl (fun _ _ _ h => h) (by kernel_rfl) hS0
  · intro w' hS'
    go_simp; exact ⟨rfl, rfl⟩
  (try simp only [Act.put]); (try simp only [List.setIfInBounds_toArray]); (try simp only [List.set])
  apply wpAnyN_takeL 10 (by kernel_rfl) rfl (fun _ _ _ h => h) (by kernel_rfl) hS0
  · intro w' hS'
    go_simp; exact ⟨rfl, rfl⟩
  (try simp only [Act.put]); (try simp only [List.setIfInBounds_toArray]); (try simp only [List.set])
  apply wpAnyN_takeL 11 (by kernel_rfl) rfl (fun _ _ _ h => h) (by kernel_rfl) hS0
  · intro w' hS'
    go_simp; exact ⟨rfl, rfl⟩
  (try simp only [Act.put]); (try simp only [List.setIfInBounds_toArray]); (try simp only [List.set])
  apply wpAnyN_takeL 12 (by kernel_rfl) rfl (fun _ _ _ h => h) (by kernel_rfl) hS0
  · intro w' hS'
    go_simp; exact ⟨rfl, rfl⟩
  (try simp only [Act.put]); (try simp only [List.setIfInBounds_toArray]); (try simp only [List.set])
  apply wpAnyN_takeL 13 (by kernel_rfl) rfl (fun _ _ _ h => h) (by kernel_rfl) hS0
  · intro w' hS'
    go_simp; exact ⟨rfl, rfl⟩
  (try simp only [Act.put]); (try simp only [List.setIfInBounds_toArray]); (try simp only [List.set])
  refine wpAnyN_runL 8 (by kernel_rfl) rfl (by kernel_rfl) (fun K hK => ?_)
  go_simp
  refine (HM.out w4.drew _ _ hb04.drew hrow4.drew).mono ?_
  rintro e w5 ⟨rfl, hb5, h5⟩
  have hS1 := hS0.but hb5 hne
  refine hK _ _ (fun _ => hS1) ?_
  clear hK K
  (try simp only [Act.put]); (try simp only [List.setIfInBounds_toArray]); (try simp only [List.set])
  refine wpAnyN_runL 14 (by kernel_rfl) rfl (by kernel_rfl) (fun K hK => ?_)
  go_simp
  have hs5 : w.heap.size ≤ w5.heap.size := Nat.le_trans hb04.size hb5.size
  have hbut5 : But bs w w5 := (But.of_below hb04.drew).trans hb5
  have hd5 : Bytes w5 B A data.length data := hdat.below (hbut5.below hB (fun k hk => (hbs k hk).1))
  refine (HR.out _ w5 h5 (by omega) hd5).mono ?_
  rintro e w6 ⟨rfl, hb6, h6⟩
  have hS2 := hS1.but hb6 hne
  refine hK _ _ (fun _ => hS2) ?_
  clear hK K
  (try simp only [Act.put]); (try simp only [List.setIfInBounds_toArray]); (try simp only [List.set])
  apply wpAnyN_takeL 15 (by kernel_rfl) rfl (fun _ _ _ h => h) (by kernel_rfl) hS2
  · intro w' hS'
    go_simp; exact ⟨rfl, rfl⟩
  (try simp only [Act.put]); (try simp only [List.setIfInBounds_toArray]); (try simp only [List.set])
  apply wpAnyN_takeL 16 (by kernel_rfl) rfl (fun _ _ _ h => h) (by kernel_rfl) hS2
  · intro w' hS'
    go_simp; exact ⟨rfl, rfl⟩
  (try simp only [Act.put]); (try simp only [List.setIfInBounds_toArray]); (try simp only [List.set])
  refine wpAnyN_done (by kernel_rfl) ?_ _
  have hbut6 : But bs w w6 := hbut5.trans hb6
  have hqn : q ∉ bs := fun hm => by have := hbs _ hm; omega
  have hown6 : w6.ownsRow X.heap.size 5 1 (.slice (some ⟨q, 0, none⟩) (data.length + 1) c4) (data.length + 1) (data.map bv ++ [Value.int .u8 1]) :=
    own_but hown4' (((But.refl bs w4).drew.trans hb5).trans hb6) (fun g hg hm => by simp only [Value.ownBlock, Option.some.injEq] at hg; subst hg; exact hqn hm)
  have hs6 := hb6.size
  have hdat6 : Bytes w6 B A data.length data := hdat.below (hbut6.below hB (fun k hk => (hbs k hk).1))
  have hqs : q < w6.heap.size := by have := hb5.size; simp only [World.size_drew] at this; omega
  clear y3 y5 HM HR hS0 hS1 hrow4 hown4' hbut5 hb5 hb6 hd5 h5 k4 kX hbX4 hdat
  go_wp2_with fail
  go_loopw [8, 9] (fun ok i wr => ∃ (k : Nat) (xs : List Value), k ≤ data.length + 1 ∧ ok = .bool true ∧ i = .int .i64 k ∧ wr.ownsRow X.heap.size 5 1 (.slice (some ⟨q, 0, none⟩) (data.length + 1) c4) (data.length + 1) xs ∧ Hid (xs.drop k = (data.map bv ++ [Value.int .u8 1]).drop k) ∧ But [q] w6 wr) (fun _ i _ => data.length + 1 - (intOf i).toNat)
  case atStart => exact ⟨0, _, by omega, rfl, rfl, hown6, rfl, But.refl _ _⟩
  case round =>
    clear hown6
    obtain ⟨k, xs, hk, rfl, rfl, ownk, hdr, hbut⟩ := hrel
    obtain ⟨wo, rfl⟩ : ∃ wo : World, wo = wr := ⟨_, rfl⟩
    have kS := hS2.but hbut (by simp only [List.mem_cons, List.not_mem_nil, or_false]; omega)
    by_cases hlt : (k : Int) < (data.length : Int) + 1
    · obtain ⟨gb, hgb, hgb1, hgb2, hcc, hcm, hcell⟩ := own_at ownk (by omega)
      obtain rfl : q = gb := by simpa using hgb
      have hlk : k < xs.length := by have := ownk.1; omega
      have hly : k < (data.map bv ++ [Value.int .u8 1]).length := by simp; omega
      obtain ⟨hxk, hset⟩ := drop_at hdr.out hlk hly
      have ck : wo.cell? ⟨q, k, none⟩ = some xs[k] := by rw [hcell k (by omega), List.getElem?_eq_getElem hlk]
      rw [hxk] at ck
      have fk := ownk.frozenAt k
      have hst1 := own_set (j := k) (u := .int .u8 238) ownk
      have hb2 : But [q] w6 (wo.setCell ⟨q, k, none⟩ (.int .u8 238)) := hbut.setCell (by simp) _
      have hset1 : Hid ((xs.set k (.int .u8 238)).drop (k + 1) = (data.map bv ++ [Value.int .u8 1]).drop (k + 1)) := hset _
      have kS' := kS.far (p := ⟨q, k, none⟩) (by show w.heap.size ≠ q; omega) (.int .u8 238)
      clear hcell hset hxk hgb hdr hst1
      have hst1 := own_set (j := k) (u := .int .u8 238) ownk
      have z5 : ∀ w', Below wo.heap.size wo w' → w'.cell? ⟨w.heap.size, 5, none⟩ = some (.slice A data.length c) := fun w' h => (kS.below h kS.lt).cell 5
      have zq : ∀ w', Below wo.heap.size wo w' → w'.cell? ⟨q, k, none⟩ = some ((data.map bv ++ [Value.int .u8 1])[k]) := fun w' h => (h.cell (p := ⟨q, k, none⟩) hgb2).trans ck
      have hk0 : (0 : Int) ≤ (k : Int) := by omega
      have hT : Below wo.heap.size wo wo.drew := (Below.refl _ _).drew
      by_cases hkn : k < data.length
      · have hd7 := hdat6.below (hbut.below (by omega) (fun x hx => by simp only [List.mem_cons, List.not_mem_nil, or_false] at hx; omega))
        obtain ⟨bA, offA, rfl, hbA, hcA⟩ := hd7.at_ (k := k) hkn
        have hcA1 := hcA k (by simpa using hkn)
        simp only [List.getElem_map] at hcA1
        have e1 : (data.map bv ++ [Value.int .u8 1])[k] = bv data[k] := by rw [List.getElem_append_left (by simpa using hkn)]; simp
        simp only [e1] at zq
        obtain ⟨dk, hdk⟩ : ∃ dk, dk = data[k] := ⟨_, rfl⟩
        rw [← hdk] at zq hcA1
        clear e1 hdk ck hcA hd7
        simp only [bv] at zq hcA1
        have zd : ∀ w', Below wo.heap.size wo w' → w'.cell? ⟨bA, offA + k, none⟩ = some (.int .u8 dk.toNat) := fun w' h => (h.cell (p := ⟨bA, offA + k, none⟩) (by show bA < _; have := hbut.size; omega)).trans hcA1
        clear hcA1
        have hkn' : (k : Int) < data.length := by omega
        go_upto_region 8 with fail
        refine wp_region_N (fun w' => Below wo.heap.size wo w') 100 (by kernel_rfl) ?_
        apply wpAnyN_takeL 0 (by kernel_rfl) rfl (fun _ _ _ h => h) (by kernel_rfl) hT
        · intro w' hS'
          go_simp; exact ⟨rfl, rfl⟩
        (try simp only [Act.put]); (try simp only [List.setIfInBounds_toArray]); (try simp only [List.set])
        apply wpAnyN_takeL 1 (by kernel_rfl) rfl (fun _ _ _ h => h) (by kernel_rfl) hT
        · intro w' hS'
          go_simp; exact ⟨rfl, rfl⟩
        (try simp only [Act.put]); (try simp only [List.setIfInBounds_toArray]); (try simp only [List.set])
        apply wpAnyN_takeL 2 (by kernel_rfl) rfl (fun _ _ _ h => h) (by kernel_rfl) hT
        · intro w' hS'
          go_simp; exact ⟨rfl, rfl⟩
        (try simp only [Act.put]); (try simp only [List.setIfInBounds_toArray]); (try simp only [List.set])
        apply wpAnyN_takeL 3 (by kernel_rfl) rfl (fun _ _ _ h => h) (by kernel_rfl) hT
        · intro w' hS'
          go_simp; exact ⟨rfl, rfl⟩
        (try simp only [Act.put]); (try simp only [List.setIfInBounds_toArray]); (try simp only [List.set])
        apply wpAnyN_takeL 4 (by kernel_rfl) rfl (fun _ _ _ h => h) (by kernel_rfl) hT
        · intro w' hS'
          go_simp; exact ⟨rfl, rfl⟩
        (try simp only [Act.put]); (try simp only [List.setIfInBounds_toArray]); (try simp only [List.set])
        apply wpAnyN_takeL 5 (by kernel_rfl) rfl (fun _ _ _ h => h) (by kernel_rfl) hT
        · intro w' hS'
          go_simp; exact ⟨rfl, rfl⟩
        (try simp only [Act.put]); (try simp only [List.setIfInBounds_toArray]); (try simp only [List.set])
        apply wpAnyN_takeL 6 (by kernel_rfl) rfl (fun _ _ _ h => h) (by kernel_rfl) hT
        · intro w' hS'
          go_simp; exact ⟨rfl, rfl⟩
        (try simp only [Act.put]); (try simp only [List.setIfInBounds_toArray]); (try simp only [List.set])
        apply wpAnyN_takeL 7 (by kernel_rfl) rfl (fun _ _ _ h => h) (by kernel_rfl) hT
        · intro w' hS'
          go_simp; exact ⟨rfl, rfl⟩
        (try simp only [Act.put]); (try simp only [List.setIfInBounds_toArray]); (try simp only [List.set])
        apply wpAnyN_takeL 8 (by kernel_rfl) rfl (fun _ _ _ h => h) (by kernel_rfl) hT
        · intro w' hS'
          go_simp; exact ⟨rfl, rfl⟩
        (try simp only [Act.put]); (try simp only [List.setIfInBounds_toArray]); (try simp only [List.set])
        apply wpAnyN_takeL 9 (by kernel_rfl) rfl (fun _ _ _ h => h) (by kernel_rfl) hT
        · intro w' hS'
          go_simp; exact ⟨rfl, rfl⟩
        (try simp only [Act.put]); (try simp only [List.setIfInBounds_toArray]); (try simp only [List.set])
        apply wpAnyN_takeL 10 (by kernel_rfl) rfl (fun _ _ _ h => h) (by kernel_rfl) hT
        · intro w' hS'
          go_simp; exact ⟨rfl, rfl⟩
        (try simp only [Act.put]); (try simp only [List.setIfInBounds_toArray]); (try simp only [List.set])
        apply wpAnyN_takeL 11 (by kernel_rfl) rfl (fun _ _ _ h => h) (by kernel_rfl) hT
        · intro w' hS'
          go_simp; exact ⟨rfl, rfl⟩
        (try simp only [Act.put]); (try simp only [List.setIfInBounds_toArray]); (try simp only [List.set])
        apply wpAnyN_takeL 12 (by kernel_rfl) rfl (fun _ _ _ h => h) (by kernel_rfl) hT
        · intro w' hS'
          go_simp; exact ⟨rfl, rfl⟩
        (try simp only [Act.put]); (try simp only [List.setIfInBounds_toArray]); (try simp only [List.set])
        apply wpAnyN_takeL 13 (by kernel_rfl) rfl (fun _ _ _ h => h) (by kernel_rfl) hT
        · intro w' hS'
          go_simp; exact ⟨rfl, rfl⟩
        (try simp only [Act.put]); (try simp only [List.setIfInBounds_toArray]); (try simp only [List.set])
        apply wpAnyN_takeL 14 (by kernel_rfl) rfl (fun _ _ _ h => h) (by kernel_rfl) hT
        · intro w' hS'
          go_simp; exact ⟨rfl, rfl⟩
        (try simp only [Act.put]); (try simp only [List.setIfInBounds_toArray]); (try simp only [List.set])
        apply wpAnyN_takeL 15 (by kernel_rfl) rfl (fun _ _ _ h => h) (by kernel_rfl) hT
        · intro w' hS'
          go_simp; exact ⟨rfl, rfl⟩
        (try simp only [Act.put]); (try simp only [List.setIfInBounds_toArray]); (try simp only [List.set])
        apply wpAnyN_takeL 16 (by kernel_rfl) rfl (fun _ _ _ h => h) (by kernel_rfl) hT
        · intro w' hS'
          go_simp; exact ⟨rfl, rfl⟩
        (try simp only [Act.put]); (try simp only [List.setIfInBounds_toArray]); (try simp only [List.set])
        apply wpAnyN_takeL 17 (by kernel_rfl) rfl (fun _ _ _ h => h) (by kernel_rfl) hT
        · intro w' hS'
          go_simp; exact ⟨rfl, rfl⟩
        (try simp only [Act.put]); (try simp only [List.setIfInBounds_toArray]); (try simp only [List.set])
        apply wpAnyN_takeL 18 (by kernel_rfl) rfl (fun _ _ _ h => h) (by kernel_rfl) hT
        · intro w' hS'
          go_simp; exact ⟨rfl, rfl⟩
        (try simp only [Act.put]); (try simp only [List.setIfInBounds_toArray]); (try simp only [List.set])
        apply wpAnyN_takeL 19 (by kernel_rfl) rfl (fun _ _ _ h => h) (by kernel_rfl) hT
        · intro w' hS'
          go_simp; exact ⟨rfl, rfl⟩
        (try simp only [Act.put]); (try simp only [List.setIfInBounds_toArray]); (try simp only [List.set])
        refine wpAnyN_skipL 20 (by kernel_rfl) rfl (fun _ _ _ h => h) (by kernel_rfl) hT ?_
        (try simp only [Act.put]); (try simp only [List.setIfInBounds_toArray]); (try simp only [List.set])
        refine wpAnyN_skipL 21 (by kernel_rfl) rfl (fun _ _ _ h => h) (by kernel_rfl) hT ?_
        (try simp only [Act.put]); (try simp only [List.setIfInBounds_toArray]); (try simp only [List.set])
        refine wpAnyN_skipL 22 (by kernel_rfl) rfl (fun _ _ _ h => h) (by kernel_rfl) hT ?_
        (try simp only [Act.put]); (try simp only [List.setIfInBounds_toArray]); (try simp only [List.set])
        refine wpAnyN_skipL 23 (by kernel_rfl) rfl (fun _ _ _ h => h) (by kernel_rfl) hT ?_
        (try simp only [Act.put]); (try simp only [List.setIfInBounds_toArray]); (try simp only [List.set])
        refine wpAnyN_skipL 24 (by kernel_rfl) rfl (fun _ _ _ h => h) (by kernel_rfl) hT ?_
        (try simp only [Act.put]); (try simp only [List.setIfInBounds_toArray]); (try simp only [List.set])
        refine wpAnyN_skipL 25 (by kernel_rfl) rfl (fun _ _ _ h => h) (by kernel_rfl) hT ?_
        (try simp only [Act.put]); (try simp only [List.setIfInBounds_toArray]); (try simp only [List.set])
        refine wpAnyN_skipL 26 (by kernel_rfl) rfl (fun _ _ _ h => h) (by kernel_rfl) hT ?_
        (try simp only [Act.put]); (try simp only [List.setIfInBounds_toArray]); (try simp only [List.set])
        refine wpAnyN_skipL 27 (by kernel_rfl) rfl (fun _ _ _ h => h) (by kernel_rfl) hT ?_
        (try simp only [Act.put]); (try simp only [List.setIfInBounds_toArray]); (try simp only [List.set])
        refine wpAnyN_skipL 28 (by kernel_rfl) rfl (fun _ _ _ h => h) (by kernel_rfl) hT ?_
        (try simp only [Act.put]); (try simp only [List.setIfInBounds_toArray]); (try simp only [List.set])
        refine wpAnyN_skipL 29 (by kernel_rfl) rfl (fun _ _ _ h => h) (by kernel_rfl) hT ?_
        (try simp only [Act.put]); (try simp only [List.setIfInBounds_toArray]); (try simp only [List.set])
        refine wpAnyN_skipL 30 (by kernel_rfl) rfl (fun _ _ _ h => h) (by kernel_rfl) hT ?_
        (try simp only [Act.put]); (try simp only [List.setIfInBounds_toArray]); (try simp only [List.set])
        refine wpAnyN_skipL 31 (by kernel_rfl) rfl (fun _ _ _ h => h) (by kernel_rfl) hT ?_
        (try simp only [Act.put]); (try simp only [List.setIfInBounds_toArray]); (try simp only [List.set])
        apply wpAnyN_takeL 32 (by kernel_rfl) rfl (fun _ _ _ h => h) (by kernel_rfl) hT
        · intro w' hS'
          go_simp; exact ⟨rfl, rfl⟩
        (try simp only [Act.put]); (try simp only [List.setIfInBounds_toArray]); (try simp only [List.set])
        apply wpAnyN_takeL 33 (by kernel_rfl) rfl (fun _ _ _ h => h) (by kernel_rfl) hT
        · intro w' hS'
          go_simp; exact ⟨rfl, rfl⟩
        (try simp only [Act.put]); (try simp only [List.setIfInBounds_toArray]); (try simp only [List.set])
        apply wpAnyN_takeL 34 (by kernel_rfl) rfl (fun _ _ _ h => h) (by kernel_rfl) hT
        · intro w' hS'
          go_simp; exact ⟨rfl, rfl⟩
        (try simp only [Act.put]); (try simp only [List.setIfInBounds_toArray]); (try simp only [List.set])
        refine wpAnyN_done (by kernel_rfl) ?_ _
        have ck1 := zq wo (Below.refl _ _)
        clear z5 zq zd
        go_wp2
        go_roundw
        case rel => exact ⟨k + 1, _, by omega, rfl, by go_num, hst1.drew, hset1, hb2.drew⟩
        case measure => first | (simp [intOf]; done) | (simp [intOf]; omega)
      · obtain rfl : k = data.length := by omega
        have e1 : (data.map bv ++ [Value.int .u8 1])[data.length] = .int .u8 1 := by simp
        simp only [e1] at zq
        clear e1 ck
        go_upto_region 8 with fail
        refine wp_region_N (fun w' => Below wo.heap.size wo w') 100 (by kernel_rfl) ?_
        apply wpAnyN_takeL 0 (by kernel_rfl) rfl (fun _ _ _ h => h) (by kernel_rfl) hT
        · intro w' hS'
          go_simp; exact ⟨rfl, rfl⟩
        (try simp only [Act.put]); (try simp only [List.setIfInBounds_toArray]); (try simp only [List.set])
        apply wpAnyN_takeL 1 (by kernel_rfl) rfl (fun _ _ _ h => h) (by kernel_rfl) hT
        · intro w' hS'
          go_simp; exact ⟨rfl, rfl⟩
        (try simp only [Act.put]); (try simp only [List.setIfInBounds_toArray]); (try simp only [List.set])
        apply wpAnyN_takeL 2 (by kernel_rfl) rfl (fun _ _ _ h => h) (by kernel_rfl) hT
        · intro w' hS'
          go_simp; exact ⟨rfl, rfl⟩
        (try simp only [Act.put]); (try simp only [List.setIfInBounds_toArray]); (try simp only [List.set])
        apply wpAnyN_takeL 3 (by kernel_rfl) rfl (fun _ _ _ h => h) (by kernel_rfl) hT
        · intro w' hS'
          go_simp; exact ⟨rfl, rfl⟩
        (try simp only [Act.put]); (try simp only [List.setIfInBounds_toArray]); (try simp only [List.set])
        apply wpAnyN_takeL 4 (by kernel_rfl) rfl (fun _ _ _ h => h) (by kernel_rfl) hT
        · intro w' hS'
          go_simp; exact ⟨rfl, rfl⟩
        (try simp only [Act.put]); (try simp only [List.setIfInBounds_toArray]); (try simp only [List.set])
        apply wpAnyN_takeL 5 (by kernel_rfl) rfl (fun _ _ _ h => h) (by kernel_rfl) hT
        · intro w' hS'
          go_simp; exact ⟨rfl, rfl⟩
        (try simp only [Act.put]); (try simp only [List.setIfInBounds_toArray]); (try simp only [List.set])
        apply wpAnyN_takeL 6 (by kernel_rfl) rfl (fun _ _ _ h => h) (by kernel_rfl) hT
        · intro w' hS'
          go_simp; exact ⟨rfl, rfl⟩
        (try simp only [Act.put]); (try simp only [List.setIfInBounds_toArray]); (try simp only [List.set])
        apply wpAnyN_takeL 7 (by kernel_rfl) rfl (fun _ _ _ h => h) (by kernel_rfl) hT
        · intro w' hS'
          go_simp; exact ⟨rfl, rfl⟩
        (try simp only [Act.put]); (try simp only [List.setIfInBounds_toArray]); (try simp only [List.set])
        refine wpAnyN_skipL 8 (by kernel_rfl) rfl (fun _ _ _ h => h) (by kernel_rfl) hT ?_
        (try simp only [Act.put]); (try simp only [List.setIfInBounds_toArray]); (try simp only [List.set])
        refine wpAnyN_skipL 9 (by kernel_rfl) rfl (fun _ _ _ h => h) (by kernel_rfl) hT ?_
        (try simp only [Act.put]); (try simp only [List.setIfInBounds_toArray]); (try simp only [List.set])
        refine wpAnyN_skipL 10 (by kernel_rfl) rfl (fun _ _ _ h => h) (by kernel_rfl) hT ?_
        (try simp only [Act.put]); (try simp only [List.setIfInBounds_toArray]); (try simp only [List.set])
        refine wpAnyN_skipL 11 (by kernel_rfl) rfl (fun _ _ _ h => h) (by kernel_rfl) hT ?_
        (try simp only [Act.put]); (try simp only [List.setIfInBounds_toArray]); (try simp only [List.set])
        refine wpAnyN_skipL 12 (by kernel_rfl) rfl (fun _ _ _ h => h) (by kernel_rfl) hT ?_
        (try simp only [Act.put]); (try simp only [List.setIfInBounds_toArray]); (try simp only [List.set])
        refine wpAnyN_skipL 13 (by kernel_rfl) rfl (fun _ _ _ h => h) (by kernel_rfl) hT ?_
        (try simp only [Act.put]); (try simp only [List.setIfInBounds_toArray]); (try simp only [List.set])
        refine wpAnyN_skipL 14 (by kernel_rfl) rfl (fun _ _ _ h => h) (by kernel_rfl) hT ?_
        (try simp only [Act.put]); (try simp only [List.setIfInBounds_toArray]); (try simp only [List.set])
        refine wpAnyN_skipL 15 (by kernel_rfl) rfl (fun _ _ _ h => h) (by kernel_rfl) hT ?_
        (try simp only [Act.put]); (try simp only [List.setIfInBounds_toArray]); (try simp only [List.set])
        refine wpAnyN_skipL 16 (by kernel_rfl) rfl (fun _ _ _ h => h) (by kernel_rfl) hT ?_
        (try simp only [Act.put]); (try simp only [List.setIfInBounds_toArray]); (try simp only [List.set])
        refine wpAnyN_skipL 17 (by kernel_rfl) rfl (fun _ _ _ h => h) (by kernel_rfl) hT ?_
        (try simp only [Act.put]); (try simp only [List.setIfInBounds_toArray]); (try simp only [List.set])
        apply wpAnyN_takeL 18 (by kernel_rfl) rfl (fun _ _ _ h => h) (by kernel_rfl) hT
        · intro w' hS'
          go_simp; exact ⟨rfl, rfl⟩
        (try simp only [Act.put]); (try simp only [List.setIfInBounds_toArray]); (try simp only [List.set])
        apply wpAnyN_takeL 19 (by kernel_rfl) rfl (fun _ _ _ h => h) (by kernel_rfl) hT
        · intro w' hS'
          go_simp; exact ⟨rfl, rfl⟩
        (try simp only [Act.put]); (try simp only [List.setIfInBounds_toArray]); (try simp only [List.set])
        apply wpAnyN_takeL 20 (by kernel_rfl) rfl (fun _ _ _ h => h) (by kernel_rfl) hT
        · intro w' hS'
          go_simp; exact ⟨rfl, rfl⟩
        (try simp only [Act.put]); (try simp only [List.setIfInBounds_toArray]); (try simp only [List.set])
        apply wpAnyN_takeL 21 (by kernel_rfl) rfl (fun _ _ _ h => h) (by kernel_rfl) hT
        · intro w' hS'
          go_simp; exact ⟨rfl, rfl⟩
        (try simp only [Act.put]); (try simp only [List.setIfInBounds_toArray]); (try simp only [List.set])
        apply wpAnyN_takeL 22 (by kernel_rfl) rfl (fun _ _ _ h => h) (by kernel_rfl) hT
        · intro w' hS'
          go_simp; exact ⟨rfl, rfl⟩
        (try simp only [Act.put]); (try simp only [List.setIfInBounds_toArray]); (try simp only [List.set])
        apply wpAnyN_takeL 23 (by kernel_rfl) rfl (fun _ _ _ h => h) (by kernel_rfl) hT
        · intro w' hS'
          go_simp; exact ⟨rfl, rfl⟩
        (try simp only [Act.put]); (try simp only [List.setIfInBounds_toArray]); (try simp only [List.set])
        apply wpAnyN_takeL 24 (by kernel_rfl) rfl (fun _ _ _ h => h) (by kernel_rfl) hT
        · intro w' hS'
          go_simp; exact ⟨rfl, rfl⟩
        (try simp only [Act.put]); (try simp only [List.setIfInBounds_toArray]); (try simp only [List.set])
        apply wpAnyN_takeL 25 (by kernel_rfl) rfl (fun _ _ _ h => h) (by kernel_rfl) hT
        · intro w' hS'
          go_simp; exact ⟨rfl, rfl⟩
        (try simp only [Act.put]); (try simp only [List.setIfInBounds_toArray]); (try simp only [List.set])
        apply wpAnyN_takeL 26 (by kernel_rfl) rfl (fun _ _ _ h => h) (by kernel_rfl) hT
        · intro w' hS'
          go_simp; exact ⟨rfl, rfl⟩
        (try simp only [Act.put]); (try simp only [List.setIfInBounds_toArray]); (try simp only [List.set])
        apply wpAnyN_takeL 27 (by kernel_rfl) rfl (fun _ _ _ h => h) (by kernel_rfl) hT
        · intro w' hS'
          go_simp; exact ⟨rfl, rfl⟩
        (try simp only [Act.put]); (try simp only [List.setIfInBounds_toArray]); (try simp only [List.set])
        apply wpAnyN_takeL 28 (by kernel_rfl) rfl (fun _ _ _ h => h) (by kernel_rfl) hT
        · intro w' hS'
          go_simp; exact ⟨rfl, rfl⟩
        (try simp only [Act.put]); (try simp only [List.setIfInBounds_toArray]); (try simp only [List.set])
        apply wpAnyN_takeL 29 (by kernel_rfl) rfl (fun _ _ _ h => h) (by kernel_rfl) hT
        · intro w' hS'
          go_simp; exact ⟨rfl, rfl⟩
        (try simp only [Act.put]); (try simp only [List.setIfInBounds_toArray]); (try simp only [List.set])
        apply wpAnyN_takeL 30 (by kernel_rfl) rfl (fun _ _ _ h => h) (by kernel_rfl) hT
        · intro w' hS'
          go_simp; exact ⟨rfl, rfl⟩
        (try simp only [Act.put]); (try simp only [List.setIfInBounds_toArray]); (try simp only [List.set])
        apply wpAnyN_takeL 31 (by kernel_rfl) rfl (fun _ _ _ h => h) (by kernel_rfl) hT
        · intro w' hS'
          go_simp; exact ⟨rfl, rfl⟩
        (try simp only [Act.put]); (try simp only [List.setIfInBounds_toArray]); (try simp only [List.set])
        apply wpAnyN_takeL 32 (by kernel_rfl) rfl (fun _ _ _ h => h) (by kernel_rfl) hT
        · intro w' hS'
          go_simp; exact ⟨rfl, rfl⟩
        (try simp only [Act.put]); (try simp only [List.setIfInBounds_toArray]); (try simp only [List.set])
        apply wpAnyN_takeL 33 (by kernel_rfl) rfl (fun _ _ _ h => h) (by kernel_rfl) hT
        · intro w' hS'
          go_simp; exact ⟨rfl, rfl⟩
        (try simp only [Act.put]); (try simp only [List.setIfInBounds_toArray]); (try simp only [List.set])
        apply wpAnyN_takeL 34 (by kernel_rfl) rfl (fun _ _ _ h => h) (by kernel_rfl) hT
        · intro w' hS'
          go_simp; exact ⟨rfl, rfl⟩
        (try simp only [Act.put]); (try simp only [List.setIfInBounds_toArray]); (try simp only [List.set])
        refine wpAnyN_done (by kernel_rfl) ?_ _
        have ck1 := zq wo (Below.refl _ _)
        clear z5 zq
        go_wp2
        go_roundw
        case rel => exact ⟨data.length + 1, _, by omega, rfl, by go_num, hst1.drew, hset1, hb2.drew⟩
        case measure => first | (simp [intOf]; done) | (simp [intOf]; omega)
    · obtain rfl : k = data.length + 1 := by omega
      have h9 := HF.out _ _ wo q h6 (by omega) hq2 hbut
      have hb9 : But bs w wo := hbut6.old hbut (fun x hx => by simp only [List.mem_cons, List.not_mem_nil, or_false] at hx; subst hx; exact Or.inr (by omega))
      clear kS hS2
      go_wp2
      go_ret
      exact ⟨rfl, h9, hb9⟩
end Go.Proofs.Ytmddgimadlmacaa
