import Derived.Test.YtmddgimadlmacaaMf05
import Derived.Test.YtmddgimadlmacaaMf09
namespace Go.Proofs.Ytmddgimadlmacaa
open Go.RowKit Garner

theorem segE : Elem Try.prog 23 36 (.agg #[.int .i64 0, .int .i64 0, .int .i64 0, .int .i64 0]) 4 32 := ⟨Try.underlying23, by kernel_rfl, rfl, by omega, by omega⟩
theorem segV_one (s : Seg) : ∀ u ∈ segV s, u.oneCell' = true := by
  intro u hu
  simp only [segV, List.mem_cons, List.not_mem_nil, or_false] at hu
  rcases hu with rfl | rfl | rfl | rfl <;> rfl

theorem vZagS (n : Nat) (w : World) (h2 : (n : Int) ≤ 18446744073709551615) :
    Calls Try.prog 79 #[.int .u64 n] w fun e w' => e = .returned (.int .i64 (zag n)) ∧ w' = w := (vZag n w h2).mono fun _ _ h => ⟨h.1, h.2.symm⟩
set_option maxHeartbeats 1000000 in
theorem vSmall (n : Nat) (w : World) (h2 : (n : Int) ≤ 18446744073709551615) :
    Calls Try.prog 78 #[.int .u64 n] w fun e w' => e = .returned (.int .i64 (smallN n)) ∧ w' = w := by
  by_cases h : (n : Int) ≤ 2147483647
  all_goals
    go_enter Try.func78, Try.ntmps78
    go_wp2
    all_goals
      go_ret
      refine ⟨congrArg (fun z : Int => Ending.returned (.int .i64 z)) ?_, rfl⟩
      unfold smallN
      first | (rw [if_pos (by omega)]; done) | (rw [if_pos (by omega)]; omega) | (rw [if_neg (by omega)]; done) | (rw [if_neg (by omega)]; omega)

set_option maxRecDepth 100000 in
set_option maxHeartbeats 4000000 in
theorem vMade_ok (ns : List Nat) (A : Option Addr) (c B : Nat) (w : World) (hr : Row w B 1 A ns.length (ns.map u64v)) (hB : B ≤ w.heap.size) (hn : ∀ n ∈ ns, n < 18446744073709551616) (hl : ns.length ≤ 100000) (hok : madeOk ns) :
    Calls Try.prog 57 #[.slice A ns.length c] w fun e w' => ∃ v, e = .returned (.tuple #[.agg #[.int .i64 (manOf smallN ns).wal, .int .i64 (manOf smallN ns).next, .int .u64 (manOf smallN ns).seq, .int .i64 (manOf smallN ns).mark, v], .bool true]) ∧
      w'.ownsRow w.heap.size 36 4 v (manOf smallN ns).segs.length (segCells (manOf smallN ns).segs) ∧ Below w.heap.size w w' := by
  obtain ⟨h5, h4, hm⟩ := hok
  obtain ⟨b, off, rfl, hb, hcell⟩ := hr.at_ (k := 0) (by omega)
  have hcl : ∀ (i : Nat) (hi : i < ns.length), w.cell? ⟨b, off + i, none⟩ = some (.int .u64 (ns[i]?.getD 0 : Nat)) := fun i hi => by
    have := hcell i (by simpa using hi); rw [List.getElem?_eq_getElem hi]; simpa [u64v] using this
  have hbd : ∀ i, ((ns[i]?.getD 0 : Nat) : Int) ≤ 18446744073709551615 := fun i => by
    rcases Nat.lt_or_ge i ns.length with h | h
    · rw [List.getElem?_eq_getElem h]; have := hn _ (List.getElem_mem h); simp only [Option.getD_some]; omega
    · rw [List.getElem?_eq_none h]; simp
  have Hcl := Lib.hid hcl; clear hcl hcell
  have Hbd := Lib.hid hbd; clear hbd
  have c0 : w.cell? ⟨b, off, none⟩ = some (.int .u64 (ns[0]?.getD 0 : Nat)) := Hcl.out 0 (by omega)
  have c1 := Hcl.out 1 (by omega)
  have c2 := Hcl.out 2 (by omega)
  have c3 := Hcl.out 3 (by omega)
  have c4 := Hcl.out 4 (by omega)
  have c4' : ∀ o : Obj, (w.alloc o).cell? ⟨b, off + 4, none⟩ = some (.int .u64 (ns[4]?.getD 0 : Nat)) := fun o => (World.cell?_alloc_lt w o ⟨b, off + 4, none⟩ (by show b < _; omega)).trans c4
  clear c4
  have d0 := Hbd.out 0; have d1 := Hbd.out 1; have d2 := Hbd.out 2; have d3 := Hbd.out 3
  generalize hx0 : ns[0]?.getD 0 = x0 at *
  generalize hx1 : ns[1]?.getD 0 = x1 at *
  generalize hx2 : ns[2]?.getD 0 = x2 at *
  generalize hx3 : ns[3]?.getD 0 = x3 at *
  generalize hx4 : ns[4]?.getD 0 = x4 at *
  have Hx : Hid (ns[0]?.getD 0 = x0 ∧ ns[1]?.getD 0 = x1 ∧ ns[2]?.getD 0 = x2 ∧ ns[3]?.getD 0 = x3) := ⟨hx0, hx1, hx2, hx3⟩
  clear hx0 hx1 hx2 hx3 hx4
  have t1 : ¬ (ns.length : Int) < 5 := by omega
  have t2 : ((x4 : Int) != ((ns.length : Int) - 5) / 4) = false := by rw [bne_eq_false_iff_eq]; omega
  have t3 : ((ns.length : Int) % 4 != 1) = false := by rw [bne_eq_false_iff_eq]; omega
  have i0 : 0 < ns.length := by omega
  have i1 : (1 : Int) < ns.length := by omega
  have i2 : (2 : Int) < ns.length := by omega
  have i3 : (3 : Int) < ns.length := by omega
  have i4 : (4 : Int) < ns.length := by omega
  have H4 := Lib.hid h4; clear h4
  have Hm := Lib.hid hm; clear hm
  go_enter Try.func57, Try.ntmps57
  go_wp2_with fail
  generalize hX : w.alloc _ = X
  have hbX : Below w.heap.size w X := by rw [← hX]; exact (Below.refl _ _).alloc (Nat.le_refl _) _
  refine wp_region_N (fun w' => Below X.heap.size X w') 17 (by kernel_rfl) ?_
  have hS0 : Below X.heap.size X X.drew := (Below.refl _ _).drew
  have hrow : ∀ w' : World, Below X.heap.size X w' → ∀ i, i < ns.length → w'.cell? ⟨b, off + i, none⟩ = w.cell? ⟨b, off + i, none⟩ := fun w' h i hi => (h.cell (p := ⟨b, off + i, none⟩) (by have := hbX.size; show b < _; omega)).trans (hbX.cell (p := ⟨b, off + i, none⟩) (by show b < _; omega))
  have f0 : ∀ w' : World, Below X.heap.size X w' → w'.cell? ⟨b, off, none⟩ = some (.int .u64 x0) := fun w' h => (hrow w' h 0 (by omega)).trans c0
  have f1 : ∀ w' : World, Below X.heap.size X w' → w'.cell? ⟨b, off + 1, none⟩ = some (.int .u64 x1) := fun w' h => (hrow w' h 1 (by omega)).trans c1
  have f2 : ∀ w' : World, Below X.heap.size X w' → w'.cell? ⟨b, off + 2, none⟩ = some (.int .u64 x2) := fun w' h => (hrow w' h 2 (by omega)).trans c2
  have f3 : ∀ w' : World, Below X.heap.size X w' → w'.cell? ⟨b, off + 3, none⟩ = some (.int .u64 x3) := fun w' h => (hrow w' h 3 (by omega)).trans c3
  clear hrow
  apply wpAnyN_take 0 (by kernel_rfl) rfl (fun _ _ _ h => h) hS0
  · intro w' hS'
    go_simp; exact ⟨rfl, rfl⟩
  (try simp only [Act.put]); (try simp only [List.setIfInBounds_toArray]); (try simp only [List.set])
  apply wpAnyN_take 1 (by kernel_rfl) rfl (fun _ _ _ h => h) hS0
  · intro w' hS'
    go_simp; exact ⟨rfl, rfl⟩
  (try simp only [Act.put]); (try simp only [List.setIfInBounds_toArray]); (try simp only [List.set])
  apply wpAnyN_take 2 (by kernel_rfl) rfl (fun _ _ _ h => h) hS0
  · intro w' hS'
    go_simp; exact ⟨rfl, rfl⟩
  (try simp only [Act.put]); (try simp only [List.setIfInBounds_toArray]); (try simp only [List.set])
  apply wpAnyN_take 3 (by kernel_rfl) rfl (fun _ _ _ h => h) hS0
  · intro w' hS'
    go_simp; exact ⟨rfl, vSmall _ _ (by omega)⟩
  (try simp only [Act.put]); (try simp only [List.setIfInBounds_toArray]); (try simp only [List.set])
  apply wpAnyN_take 4 (by kernel_rfl) rfl (fun _ _ _ h => h) hS0
  · intro w' hS'
    go_simp; exact ⟨rfl, rfl⟩
  (try simp only [Act.put]); (try simp only [List.setIfInBounds_toArray]); (try simp only [List.set])
  apply wpAnyN_take 5 (by kernel_rfl) rfl (fun _ _ _ h => h) hS0
  · intro w' hS'
    go_simp; exact ⟨rfl, rfl⟩
  (try simp only [Act.put]); (try simp only [List.setIfInBounds_toArray]); (try simp only [List.set])
  apply wpAnyN_take 6 (by kernel_rfl) rfl (fun _ _ _ h => h) hS0
  · intro w' hS'
    go_simp; exact ⟨rfl, rfl⟩
  (try simp only [Act.put]); (try simp only [List.setIfInBounds_toArray]); (try simp only [List.set])
  apply wpAnyN_take 7 (by kernel_rfl) rfl (fun _ _ _ h => h) hS0
  · intro w' hS'
    go_simp; exact ⟨rfl, vSmall _ _ (by omega)⟩
  (try simp only [Act.put]); (try simp only [List.setIfInBounds_toArray]); (try simp only [List.set])
  apply wpAnyN_take 8 (by kernel_rfl) rfl (fun _ _ _ h => h) hS0
  · intro w' hS'
    go_simp; exact ⟨rfl, rfl⟩
  (try simp only [Act.put]); (try simp only [List.setIfInBounds_toArray]); (try simp only [List.set])
  apply wpAnyN_take 9 (by kernel_rfl) rfl (fun _ _ _ h => h) hS0
  · intro w' hS'
    go_simp; exact ⟨rfl, rfl⟩
  (try simp only [Act.put]); (try simp only [List.setIfInBounds_toArray]); (try simp only [List.set])
  apply wpAnyN_take 10 (by kernel_rfl) rfl (fun _ _ _ h => h) hS0
  · intro w' hS'
    go_simp; exact ⟨rfl, rfl⟩
  (try simp only [Act.put]); (try simp only [List.setIfInBounds_toArray]); (try simp only [List.set])
  apply wpAnyN_take 11 (by kernel_rfl) rfl (fun _ _ _ h => h) hS0
  · intro w' hS'
    go_simp; exact ⟨rfl, rfl⟩
  (try simp only [Act.put]); (try simp only [List.setIfInBounds_toArray]); (try simp only [List.set])
  apply wpAnyN_take 12 (by kernel_rfl) rfl (fun _ _ _ h => h) hS0
  · intro w' hS'
    go_simp; exact ⟨rfl, rfl⟩
  (try simp only [Act.put]); (try simp only [List.setIfInBounds_toArray]); (try simp only [List.set])
  apply wpAnyN_take 13 (by kernel_rfl) rfl (fun _ _ _ h => h) hS0
  · intro w' hS'
    go_simp; exact ⟨rfl, rfl⟩
  (try simp only [Act.put]); (try simp only [List.setIfInBounds_toArray]); (try simp only [List.set])
  apply wpAnyN_take 14 (by kernel_rfl) rfl (fun _ _ _ h => h) hS0
  · intro w' hS'
    go_simp; exact ⟨rfl, vZagS _ _ (by omega)⟩
  (try simp only [Act.put]); (try simp only [List.setIfInBounds_toArray]); (try simp only [List.set])
  apply wpAnyN_take 15 (by kernel_rfl) rfl (fun _ _ _ h => h) hS0
  · intro w' hS'
    go_simp; exact ⟨rfl, rfl⟩
  (try simp only [Act.put]); (try simp only [List.setIfInBounds_toArray]); (try simp only [List.set])
  refine wpAnyN_run 16 (by kernel_rfl) rfl rfl (fun K hK => ?_)
  go_simp
  refine hK _ _ (fun _ => (hS0.alloc hS0.size _)) ?_
  clear hK K
  refine wpAnyN_run 17 (by kernel_rfl) rfl rfl (fun K hK => ?_)
  go_simp
  refine hK _ _ (fun h => absurd rfl h) ?_
  clear hK K
  refine wpAnyN_done (by kernel_rfl) ?_ _
  clear f0 f1 f2 f3 hS0 c0 c1 c2 c3 c4'
  have HD : Hid (manOf smallN ns = { wal := smallN x0, next := smallN x1, seq := x2, mark := zag x3, segs := segsOf smallN (ns.drop 5) }) := by
    obtain ⟨e0, e1, e2, e3⟩ := Hx.out
    show manOf smallN ns = _
    unfold manOf; rw [e0, e1, e2, e3]
  have hres : Blk X w.heap.size 25 [.int .i64 0, .int .i64 0, .int .u64 0, .int .i64 0, .slice none 0 0] := by rw [← hX]; exact Blk.new _ _ _
  clear hX
  have hsX : w.heap.size + 1 ≤ X.heap.size := hres.lt
  go_wp2
  go_loopw [5] (fun t wr => ∃ (k p : Nat) (v : Value), Hid (p = 5 + k * 4) ∧ p ≤ ns.length ∧ t = .int .i64 p ∧ Blk wr X.heap.size 25 [.int .i64 (smallN x0), .int .i64 (smallN x1), .int .u64 x2, .int .i64 (zag x3), v] ∧
    wr.ownsRow (X.heap.size + 1) 36 4 v k (segCells (segsOf smallN ((ns.drop 5).take (k * 4)))) ∧ Below X.heap.size X wr) (fun t _ => ns.length - (intOf t).toNat)
  case atStart => exact ⟨0, 5, _, rfl, by omega, rfl, Blk.drew (Blk.new X _ _), by simpa [segsOf, segCells] using World.ownsRow_nil _ _ _ _, ((Below.refl _ _).alloc (Nat.le_refl _) _).drew⟩
  case round =>
    obtain ⟨k, p, v, hp, hpl, rfl, hblk, hown, hbel⟩ := hrel
    obtain ⟨wo, rfl⟩ : ∃ wo : World, wo = wr := ⟨_, rfl⟩
    have hso : X.heap.size + 1 ≤ wo.heap.size := hblk.lt
    by_cases hlt : (p : Int) < ns.length
    · have hp4 : p + 4 ≤ ns.length := by have h1 := hp.out; have h2 := Hm.out; omega
      have j0 : (0 : Int) ≤ p := by omega
      have j1 : (p : Int) + 1 < ns.length := by omega
      have j2 : (p : Int) + 2 < ns.length := by omega
      have j3 : (p : Int) + 3 < ns.length := by omega
      have q1 : IntKind.i64.wrap ((p : Int) + 1) = (p : Int) + 1 := IntWalk.i64_in _ ⟨by omega, by omega⟩
      have q2 : IntKind.i64.wrap ((p : Int) + 2) = (p : Int) + 2 := IntWalk.i64_in _ ⟨by omega, by omega⟩
      have q3 : IntKind.i64.wrap ((p : Int) + 3) = (p : Int) + 3 := IntWalk.i64_in _ ⟨by omega, by omega⟩
      have u1 : ((p : Int) + 1).toNat = p + 1 := by omega
      have u2 : ((p : Int) + 2).toNat = p + 2 := by omega
      have u3 : ((p : Int) + 3).toNat = p + 3 := by omega
      have hS : ∀ w' : World, (Blk w' X.heap.size 25 [.int .i64 (smallN x0), .int .i64 (smallN x1), .int .u64 x2, .int .i64 (zag x3), v] ∧ Below X.heap.size X w') → ∀ i, i < ns.length → w'.cell? ⟨b, off + i, none⟩ = some (.int .u64 (ns[i]?.getD 0 : Nat)) := fun w' h i hi =>
        ((h.2.cell (p := ⟨b, off + i, none⟩) (by show b < _; omega)).trans (hbX.cell (p := ⟨b, off + i, none⟩) (by show b < _; omega))).trans (Hcl.out i hi)
      have g0 : ∀ w' : World, _ → w'.cell? ⟨b, off + p, none⟩ = some (.int .u64 (ns[p]?.getD 0 : Nat)) := fun w' h => hS w' h p (by omega)
      have g1 : ∀ w' : World, _ → w'.cell? ⟨b, off + (p + 1), none⟩ = some (.int .u64 (ns[p + 1]?.getD 0 : Nat)) := fun w' h => hS w' h (p + 1) (by omega)
      have g2 : ∀ w' : World, _ → w'.cell? ⟨b, off + (p + 2), none⟩ = some (.int .u64 (ns[p + 2]?.getD 0 : Nat)) := fun w' h => hS w' h (p + 2) (by omega)
      have g3 : ∀ w' : World, _ → w'.cell? ⟨b, off + (p + 3), none⟩ = some (.int .u64 (ns[p + 3]?.getD 0 : Nat)) := fun w' h => hS w' h (p + 3) (by omega)
      have gm : ∀ w' : World, (Blk w' X.heap.size 25 [.int .i64 (smallN x0), .int .i64 (smallN x1), .int .u64 x2, .int .i64 (zag x3), v] ∧ Below X.heap.size X w') → w'.cell? ⟨X.heap.size, 4, none⟩ = some v := fun w' h => h.1.cell 4
      have y0 := Hbd.out p; have y1 := Hbd.out (p + 1); have y2 := Hbd.out (p + 2); have y3 := Hbd.out (p + 3)
      have hsegs := segsOf_take smallN k (ns.drop 5) (by rw [List.length_drop]; have := hp.out; omega)
      simp only [List.getElem?_drop] at hsegs
      have hpo := hp.out
      rw [show 5 + k * 4 = p by omega, show 5 + (k * 4 + 1) = p + 1 by omega, show 5 + (k * 4 + 2) = p + 2 by omega, show 5 + (k * 4 + 3) = p + 3 by omega] at hsegs
      clear hpo hS
      generalize ns[p]?.getD 0 = z0 at *
      generalize ns[p + 1]?.getD 0 = z1 at *
      generalize ns[p + 2]?.getD 0 = z2 at *
      generalize ns[p + 3]?.getD 0 = z3 at *
      have Hsegs := Lib.hid hsegs; clear hsegs
      go_wp2_with fail
      refine wp_region_N (fun w' => Blk w' X.heap.size 25 [.int .i64 (smallN x0), .int .i64 (smallN x1), .int .u64 x2, .int .i64 (zag x3), v] ∧ Below X.heap.size X w') 29 (by kernel_rfl) ?_
      have hS1 : Blk wo.drew X.heap.size 25 [.int .i64 (smallN x0), .int .i64 (smallN x1), .int .u64 x2, .int .i64 (zag x3), v] ∧ Below X.heap.size X wo.drew := ⟨hblk, hbel.drew⟩
      apply wpAnyN_take 0 (by kernel_rfl) rfl (fun _ _ _ h => h) hS1
      · intro w' hS'
        go_simp; exact ⟨rfl, rfl⟩
      (try simp only [Act.put]); (try simp only [List.setIfInBounds_toArray]); (try simp only [List.set])
      apply wpAnyN_take 1 (by kernel_rfl) rfl (fun _ _ _ h => h) hS1
      · intro w' hS'
        go_simp; exact ⟨rfl, rfl⟩
      (try simp only [Act.put]); (try simp only [List.setIfInBounds_toArray]); (try simp only [List.set])
      apply wpAnyN_take 2 (by kernel_rfl) rfl (fun _ _ _ h => h) hS1
      · intro w' hS'
        go_simp; exact ⟨rfl, rfl⟩
      (try simp only [Act.put]); (try simp only [List.setIfInBounds_toArray]); (try simp only [List.set])
      apply wpAnyN_take 3 (by kernel_rfl) rfl (fun _ _ _ h => h) hS1
      · intro w' hS'
        go_simp; exact ⟨rfl, rfl⟩
      (try simp only [Act.put]); (try simp only [List.setIfInBounds_toArray]); (try simp only [List.set])
      apply wpAnyN_take 4 (by kernel_rfl) rfl (fun _ _ _ h => h) hS1
      · intro w' hS'
        go_simp; exact ⟨rfl, rfl⟩
      (try simp only [Act.put]); (try simp only [List.setIfInBounds_toArray]); (try simp only [List.set])
      apply wpAnyN_take 5 (by kernel_rfl) rfl (fun _ _ _ h => h) hS1
      · intro w' hS'
        go_simp; exact ⟨rfl, rfl⟩
      (try simp only [Act.put]); (try simp only [List.setIfInBounds_toArray]); (try simp only [List.set])
      apply wpAnyN_take 6 (by kernel_rfl) rfl (fun _ _ _ h => h) hS1
      · intro w' hS'
        go_simp; exact ⟨rfl, vSmall _ _ (by assumption)⟩
      (try simp only [Act.put]); (try simp only [List.setIfInBounds_toArray]); (try simp only [List.set])
      apply wpAnyN_take 7 (by kernel_rfl) rfl (fun _ _ _ h => h) hS1
      · intro w' hS'
        go_simp; exact ⟨rfl, rfl⟩
      (try simp only [Act.put]); (try simp only [List.setIfInBounds_toArray]); (try simp only [List.set])
      apply wpAnyN_take 8 (by kernel_rfl) rfl (fun _ _ _ h => h) hS1
      · intro w' hS'
        go_simp; exact ⟨rfl, rfl⟩
      (try simp only [Act.put]); (try simp only [List.setIfInBounds_toArray]); (try simp only [List.set])
      apply wpAnyN_take 9 (by kernel_rfl) rfl (fun _ _ _ h => h) hS1
      · intro w' hS'
        go_simp; exact ⟨rfl, rfl⟩
      (try simp only [Act.put]); (try simp only [List.setIfInBounds_toArray]); (try simp only [List.set])
      apply wpAnyN_take 10 (by kernel_rfl) rfl (fun _ _ _ h => h) hS1
      · intro w' hS'
        go_simp; exact ⟨rfl, rfl⟩
      (try simp only [Act.put]); (try simp only [List.setIfInBounds_toArray]); (try simp only [List.set])
      apply wpAnyN_take 11 (by kernel_rfl) rfl (fun _ _ _ h => h) hS1
      · intro w' hS'
        go_simp; exact ⟨rfl, rfl⟩
      (try simp only [Act.put]); (try simp only [List.setIfInBounds_toArray]); (try simp only [List.set])
      apply wpAnyN_take 12 (by kernel_rfl) rfl (fun _ _ _ h => h) hS1
      · intro w' hS'
        go_simp; exact ⟨rfl, vSmall _ _ (by assumption)⟩
      (try simp only [Act.put]); (try simp only [List.setIfInBounds_toArray]); (try simp only [List.set])
      apply wpAnyN_take 13 (by kernel_rfl) rfl (fun _ _ _ h => h) hS1
      · intro w' hS'
        go_simp; exact ⟨rfl, rfl⟩
      (try simp only [Act.put]); (try simp only [List.setIfInBounds_toArray]); (try simp only [List.set])
      apply wpAnyN_take 14 (by kernel_rfl) rfl (fun _ _ _ h => h) hS1
      · intro w' hS'
        go_simp; exact ⟨rfl, rfl⟩
      (try simp only [Act.put]); (try simp only [List.setIfInBounds_toArray]); (try simp only [List.set])
      apply wpAnyN_take 15 (by kernel_rfl) rfl (fun _ _ _ h => h) hS1
      · intro w' hS'
        go_simp; exact ⟨rfl, rfl⟩
      (try simp only [Act.put]); (try simp only [List.setIfInBounds_toArray]); (try simp only [List.set])
      apply wpAnyN_take 16 (by kernel_rfl) rfl (fun _ _ _ h => h) hS1
      · intro w' hS'
        go_simp; exact ⟨rfl, rfl⟩
      (try simp only [Act.put]); (try simp only [List.setIfInBounds_toArray]); (try simp only [List.set])
      apply wpAnyN_take 17 (by kernel_rfl) rfl (fun _ _ _ h => h) hS1
      · intro w' hS'
        go_simp; exact ⟨rfl, rfl⟩
      (try simp only [Act.put]); (try simp only [List.setIfInBounds_toArray]); (try simp only [List.set])
      apply wpAnyN_take 18 (by kernel_rfl) rfl (fun _ _ _ h => h) hS1
      · intro w' hS'
        go_simp; exact ⟨rfl, vZagS _ _ (by assumption)⟩
      (try simp only [Act.put]); (try simp only [List.setIfInBounds_toArray]); (try simp only [List.set])
      apply wpAnyN_take 19 (by kernel_rfl) rfl (fun _ _ _ h => h) hS1
      · intro w' hS'
        go_simp; exact ⟨rfl, rfl⟩
      (try simp only [Act.put]); (try simp only [List.setIfInBounds_toArray]); (try simp only [List.set])
      apply wpAnyN_take 20 (by kernel_rfl) rfl (fun _ _ _ h => h) hS1
      · intro w' hS'
        go_simp; exact ⟨rfl, rfl⟩
      (try simp only [Act.put]); (try simp only [List.setIfInBounds_toArray]); (try simp only [List.set])
      apply wpAnyN_take 21 (by kernel_rfl) rfl (fun _ _ _ h => h) hS1
      · intro w' hS'
        go_simp; exact ⟨rfl, rfl⟩
      (try simp only [Act.put]); (try simp only [List.setIfInBounds_toArray]); (try simp only [List.set])
      apply wpAnyN_take 22 (by kernel_rfl) rfl (fun _ _ _ h => h) hS1
      · intro w' hS'
        go_simp; exact ⟨rfl, rfl⟩
      (try simp only [Act.put]); (try simp only [List.setIfInBounds_toArray]); (try simp only [List.set])
      apply wpAnyN_take 23 (by kernel_rfl) rfl (fun _ _ _ h => h) hS1
      · intro w' hS'
        go_simp; exact ⟨rfl, rfl⟩
      (try simp only [Act.put]); (try simp only [List.setIfInBounds_toArray]); (try simp only [List.set])
      apply wpAnyN_take 24 (by kernel_rfl) rfl (fun _ _ _ h => h) hS1
      · intro w' hS'
        go_simp; exact ⟨rfl, vZagS _ _ (by assumption)⟩
      (try simp only [Act.put]); (try simp only [List.setIfInBounds_toArray]); (try simp only [List.set])
      apply wpAnyN_take 25 (by kernel_rfl) rfl (fun _ _ _ h => h) hS1
      · intro w' hS'
        go_simp; exact ⟨rfl, rfl⟩
      (try simp only [Act.put]); (try simp only [List.setIfInBounds_toArray]); (try simp only [List.set])
      refine wpAnyN_run 26 (by kernel_rfl) rfl rfl (fun K hK => ?_)
      go_simp
      refine hK _ _ (fun _ => ⟨hS1.1.alloc _, hS1.2.alloc hS1.2.size _⟩) ?_
      clear hK K
      refine wpAnyN_run 27 (by kernel_rfl) rfl rfl (fun K hK => ?_)
      have hne : some X.heap.size ≠ v.ownBlock := fun e => by have := (hown.lt _ e.symm).1; omega
      refine wp_app (v := v) _ segE rfl rfl (own_below hown (((Below.refl _ _).alloc (Nat.le_refl _) (.cells #[.int .i64 (smallN z0), .int .i64 (smallN z1), .int .i64 (zag z2), .int .i64 (zag z3)] 36)).drew)) rfl (Row.drew (row_newN wo 36 4 1 (segV { id := smallN z0, count := smallN z1, mn := zag z2, mx := zag z3 }) rfl)) (segV_one _) (by have h1 := hp.out; omega) (by show _ ≤ (wo.alloc _).heap.size; simp; omega) ?_
      intro v4 w4 hown4 hg4 hb4 _
      obtain ⟨A4, c4, rfl⟩ := own_slice hown4
      have hS4 : Blk w4 X.heap.size 25 [.int .i64 (smallN x0), .int .i64 (smallN x1), .int .u64 x2, .int .i64 (zag x3), v] ∧ Below X.heap.size X w4 := ⟨Blk.grown (Blk.drew (Blk.alloc hblk _)) hg4 hne, (hbel.alloc hbel.size _).drew.trans (hb4.mono (by omega))⟩
      refine hK _ _ (fun _ => hS4) ?_
      clear hK K
      (try simp only [Act.put]); (try simp only [List.setIfInBounds_toArray]); (try simp only [List.set])
      refine wpAnyN_run 28 (by kernel_rfl) rfl rfl (fun K hK => ?_)
      go_simp
      refine hK _ _ (fun _ => hS4) ?_
      clear hK K
      have hc4 := gm w4 hS4
      have hf4 := hS4.1.frozen 4
      refine wpAnyN_run 29 (by kernel_rfl) rfl rfl (fun K hK => ?_)
      go_simp
      refine hK _ _ (fun h => absurd rfl h) ?_
      clear hK K
      refine wpAnyN_done (by kernel_rfl) ?_ _
      have hfin : (w4.setCell ⟨X.heap.size, 4, none⟩ (.slice A4 (k + 1) c4)).ownsRow (X.heap.size + 1) 36 4 (.slice A4 (k + 1) c4) (k + 1) (segCells (segsOf smallN ((ns.drop 5).take ((k + 1) * 4)))) := by
        rw [show (k + 1) * 4 = k * 4 + 4 by omega, Hsegs.out]
        have h2 : segCells (segsOf smallN ((ns.drop 5).take (k * 4)) ++ [{ id := smallN z0, count := smallN z1, mn := zag z2, mx := zag z3 }]) = segCells (segsOf smallN ((ns.drop 5).take (k * 4))) ++ segV { id := smallN z0, count := smallN z1, mn := zag z2, mx := zag z3 } := by simp [segCells]
        rw [h2]
        exact ownsRow_setCell_below hown4 (by show X.heap.size < _; omega) _
      have hblk5 := hS4.1.set_ 4 (.slice A4 (k + 1) c4)
      have hbel5 : Below X.heap.size X (w4.setCell ⟨X.heap.size, 4, none⟩ (.slice A4 (k + 1) c4)) := hS4.2.setCell (Nat.le_refl _) _
      clear hc4 hf4 gm g0 g1 g2 g3 hS1
      go_wp2
      go_roundw
      case rel =>
        have hh : Hid (p + 4 = 5 + (k + 1) * 4) := by have h1 := hp.out; show p + 4 = _; omega
        first
          | exact ⟨k + 1, p + 4, _, hh, by omega, by go_num, hblk5, hfin, hbel5⟩
          | ((repeat apply Exists.intro); exact ⟨⟨k + 1, p + 4, _, hh, by omega, by go_num, hblk5, hfin, hbel5⟩, rfl⟩)
      case measure => simp [intOf]; omega
    · have hpe : p = ns.length := by omega
      obtain ⟨A4, c4, rfl⟩ := own_slice hown
      have hk4 : Hid (k * 4 = ns.length - 5) := by have h1 := hp.out; show k * 4 = _; omega
      have hres' : Blk wo w.heap.size 25 _ := hres.below hbel (by omega)
      have k0 := hblk.cell 0; have k1 := hblk.cell 1; have k2 := hblk.cell 2; have k3 := hblk.cell 3; have k4 := hblk.cell 4
      have r0 := hres'.cell 0; have r1 := hres'.cell 1; have r2 := hres'.cell 2; have r3 := hres'.cell 3; have r4 := hres'.cell 4
      have v0 := hres'.frozen 0; have v1 := hres'.frozen 1; have v2 := hres'.frozen 2; have v3 := hres'.frozen 3; have v4 := hres'.frozen 4
      simp only [List.getElem?_cons_zero, List.getElem?_cons_succ] at k0 k1 k2 k3 k4 r0 r1 r2 r3 r4
      have Hpe := Lib.hid hpe; clear hpe
      go_wp2
      refine bodyPost_ret (v := .tuple #[.agg #[.int .i64 (smallN x0), .int .i64 (smallN x1), .int .u64 x2, .int .i64 (zag x3), .slice A4 k c4], .bool true]) (by simp [results, Try.results57, go_sem, *]) rfl ?_
      have hD := HD.out
      have hlen : (segsOf smallN (ns.drop 5)).length = k := by
        have h1 := hown.1
        rw [segCells_len] at h1
        have h2 : (ns.drop 5).take (k * 4) = ns.drop 5 := List.take_of_length_le (by rw [List.length_drop]; have := hk4.out; omega)
        rw [h2] at h1; omega
      have h2 : (ns.drop 5).take (k * 4) = ns.drop 5 := List.take_of_length_le (by rw [List.length_drop]; have := hk4.out; omega)
      rw [h2] at hown
      refine ⟨.slice A4 k c4, by rw [hD], ?_, ?_⟩
      · rw [hD, hlen]
        refine own_mono (B := X.heap.size + 1) ?_ (by omega)
        repeat' refine ownsRow_setCell_below ?_ (by show w.heap.size < _; omega) _
        exact hown
      · exact (((((hbX.trans (hbel.mono (by omega))).setCell (Nat.le_refl _) _).setCell (Nat.le_refl _) _).setCell (Nat.le_refl _) _).setCell (Nat.le_refl _) _).setCell (Nat.le_refl _) _
end Go.Proofs.Ytmddgimadlmacaa
