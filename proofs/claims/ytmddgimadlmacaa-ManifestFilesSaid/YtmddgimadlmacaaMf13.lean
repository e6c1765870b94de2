import Derived.Test.YtmddgimadlmacaaMf12
namespace Go.Proofs.Ytmddgimadlmacaa
open Go.RowKit Garner

theorem segsOf_end (g : Nat → Int) : ∀ (k : Nat) (l : List Nat), k * 4 ≤ l.length → l.length < k * 4 + 4 → segsOf g (l.take (k * 4)) = segsOf g l
  | 0, [], _, _ => rfl
  | 0, [_], _, _ => rfl
  | 0, [_, _], _, _ => rfl
  | 0, [_, _, _], _, _ => rfl
  | 0, _ :: _ :: _ :: _ :: _, _, h => by simp at h; omega
  | k + 1, a :: b :: c :: d :: r, h1, h2 => by
    rw [show (k + 1) * 4 = k * 4 + 1 + 1 + 1 + 1 by omega]
    simp only [List.take_succ_cons, segsOf, segsOf_end g k r (by simp only [List.length_cons] at h1; omega) (by simp only [List.length_cons] at h2; omega)]
  | k + 1, [], h, _ => by simp at h
  | k + 1, [_], h, _ => by simp at h; omega
  | k + 1, [_, _], h, _ => by simp at h; omega
  | k + 1, [_, _, _], h, _ => by simp at h; omega

set_option maxRecDepth 100000 in
set_option maxHeartbeats 4000000 in
theorem rMread2 (l : List UInt8) (A : Option Addr) (c B : Nat) (w : World) (hr : Bytes w B A l.length l) (hB : B ≤ w.heap.size) (hc : l.length ≤ c) (hl : l.length ≤ 140737488355328) (p : Bs) (to : Nat) (hv : fread l 0 = .ok (p, to)) :
    Calls Try.prog 15 #[.slice A l.length c] w fun e w' => MreadPost w (mreadR l) e w' := by
  have hread := fun (o : Obj) => rRead l A c B (w.alloc o) 0 (hr.alloc hB o) (by simp; omega) hc (by omega) hl
  rw [hv] at hread
  have hpl := fread_small hv
  have hP : mreadR l = match vall p with
    | .error _ => none
    | .ok ns => if ns.length < 5 then none else match mwrite (manOf numN ns) with
      | .error _ => none
      | .ok f => if f = l then some (manOf numN ns) else none := by unfold mreadR; rw [hv]; rfl
  have Hread := Lib.hid hread; clear hread hv
  have HP := Lib.hid hP; clear hP
  go_enter Try.func15, Try.ntmps15
  go_wp2_with fail
  refine (Hread.out _).mono ?_
  rintro e w1 ⟨v, rfl, hown, hb1⟩
  simp only [World.size_alloc] at hb1 hown
  have hres : Blk w1 w.heap.size 25 [.int .i64 0, .int .i64 0, .int .u64 0, .int .i64 0, .slice none 0 0] := (Blk.new w _ _).below hb1 (by omega)
  have hbw : Below w.heap.size w w1 := ((Below.refl w.heap.size w).alloc (Nat.le_refl _) _).trans (hb1.mono (Nat.le_succ _))
  have hs1 : w.heap.size + 1 ≤ w1.heap.size := hres.lt
  obtain ⟨Ap, cp, rfl, hcp, hrow⟩ := OwnB.shapeC hown
  clear hown
  go_wp2_with fail
  go_loopw [7, 8] (fun v i wr => ∃ (acc : List Nat) (at_ : Nat), Hid (vallUpto p at_ acc ∧ acc.length ≤ at_ ∧ ∀ n ∈ acc, n < 18446744073709551616) ∧ at_ ≤ p.length ∧ i = .int .i64 at_ ∧ OwnU wr w1.heap.size v acc ∧ Below w1.heap.size w1 wr) (fun _ i _ => p.length - (intOf i).toNat)
  case atStart => exact ⟨[], 0, ⟨vallUpto_zero p, by simp, by simp⟩, by omega, rfl, World.ownsRow_nil _ _ _ _, Below.refl _ _⟩
  case round =>
    obtain ⟨acc, at_, hacc, hat, rfl, hown, hbel⟩ := hrel
    obtain ⟨wo, rfl⟩ : ∃ wo : World, wo = wr := ⟨_, rfl⟩
    have hso : w1.heap.size ≤ wo.heap.size := hbel.size
    by_cases hlt : (at_ : Int) < p.length
    · have hget := rGet p Ap cp w1.heap.size wo at_ (hrow.below hbel) (by omega) (by omega)
      cases hv : vget p at_ with
      | error k =>
        rw [hv] at hget
        have hPn : Hid (mreadR l = none) := by
          show _ = _
          rw [HP.out, vallUpto_err hacc.out.1 (by omega) hv]
        have hk' : ((k : Int) != 0) = true := by rw [bne_iff_ne]; have := vget_err hv; omega
        have Hget := Lib.hid hget; clear hget hv
        have hres' : Blk wo w.heap.size 25 _ := hres.below hbel (by omega)
        have v0 := hres'.frozen 0; have v1 := hres'.frozen 1; have v2 := hres'.frozen 2; have v3 := hres'.frozen 3; have v4 := hres'.frozen 4
        have r0 := hres'.cell 0; have r1 := hres'.cell 1; have r2 := hres'.cell 2; have r3 := hres'.cell 3; have r4 := hres'.cell 4
        simp only [List.getElem?_cons_zero, List.getElem?_cons_succ] at r0 r1 r2 r3 r4
        have hbo : Below w.heap.size w wo := hbw.trans (hbel.mono (by omega))
        go_wp2_with fail
        refine Hget.out.mono ?_
        rintro e w2 ⟨rfl, rfl⟩
        simp only [vgetV]
        go_wp2
        refine bodyPost_ret (v := .tuple #[manZ, .int .i64 30]) (by simp [results, Try.results15, go_sem, manZ, *]) rfl ?_
        rw [hPn.out]
        refine ⟨rfl, ?_⟩
        exact below_set5 hbo (Nat.le_refl _) _ _ _ _ _
      | ok q =>
        obtain ⟨n, nx⟩ := q
        rw [hv] at hget
        have hgo := vget_ok hv
        have hpos := put1_pos n
        have hup := vallUpto_step hacc.out.1 (by omega) hv
        have hal := hacc.out.2.1
        have hrel' : Hid (vallUpto p nx (acc ++ [n]) ∧ (acc ++ [n]).length ≤ nx ∧ ∀ m ∈ acc ++ [n], m < 18446744073709551616) := by
          refine ⟨hup, by rw [List.length_append, List.length_singleton]; omega, fun m hm => ?_⟩
          rcases List.mem_append.1 hm with h | h
          · exact hacc.out.2.2 m h
          · rw [List.mem_singleton.1 h]; exact hgo.1
        have hnx : nx ≤ p.length := hgo.2.2.2
        have hnx2 : at_ < nx := by omega
        have hn0 : (n : Int) ≤ 18446744073709551615 := by omega
        have Hal : Hid (acc.length ≤ at_) := hal
        have Hget := Lib.hid hget; clear hget hv hgo hpos hup hal
        go_wp2_with fail
        refine Hget.out.mono ?_
        rintro e w2 ⟨rfl, rfl⟩
        simp only [vgetV]
        have hrn : Row (wo.alloc (.cells #[.int .u64 n] 22)) (wo.heap.size + 1) 1 (some ⟨wo.heap.size, 0, none⟩) 1 [u64v n] := row_new wo 22 [u64v n]
        go_wp2_with (at_builtin; refine wpList_app _ rfl u64E rfl rfl (hown.alloc _) rfl hrn (u64v_one [n]) (by have := Hal.out; omega) (by simp; omega) ?_; intro v4 w4 hown4 hg4 hb4 _)
        go_roundw
        case rel =>
          have hfin : OwnU w4 w1.heap.size v4 (acc ++ [n]) := by simpa [OwnU] using hown4
          have hbf : Below w1.heap.size w1 w4 := (hbel.alloc hso _).trans hb4
          first
            | exact ⟨acc ++ [n], nx, hrel', hnx, by go_num, hfin, hbf⟩
            | ((repeat apply Exists.intro); exact ⟨⟨acc ++ [n], nx, hrel', hnx, by go_num, hfin, hbf⟩, rfl⟩)
        case measure => simp [intOf]; omega
    · obtain ⟨A3, c3, rfl, hrow3⟩ := OwnU.shape hown
      have hPs := HP.out
      rw [vallUpto_end hacc.out.1 (by omega)] at hPs
      simp only [] at hPs
      have hn := hacc.out.2.2
      have hl3 : acc.length ≤ 100000 := by have := hacc.out.2.1; omega
      have hbo : Below w.heap.size w wo := hbw.trans (hbel.mono (by omega))
      have hres' : Blk wo w.heap.size 25 _ := hres.below hbel (by omega)
      have hso1 : w.heap.size + 1 ≤ wo.heap.size := hres'.lt
      clear hown hbel hres hbw hrow hb1 HP Hread hacc
      by_cases h5 : (acc.length : Int) < 5
      · have hP2 : mreadR l = none := by rw [hPs, if_pos (by omega)]
        clear hPs
        have HP := Lib.hid hP2
        clear hP2 hn hrow3
        have v0 := hres'.frozen 0; have v1 := hres'.frozen 1; have v2 := hres'.frozen 2; have v3 := hres'.frozen 3; have v4 := hres'.frozen 4
        have r0 := hres'.cell 0; have r1 := hres'.cell 1; have r2 := hres'.cell 2; have r3 := hres'.cell 3; have r4 := hres'.cell 4
        simp only [List.getElem?_cons_zero, List.getElem?_cons_succ] at r0 r1 r2 r3 r4
        go_wp2
        refine bodyPost_ret (v := .tuple #[manZ, .int .i64 30]) (by simp [results, Try.results15, go_sem, manZ, *]) rfl ?_
        rw [HP.out]
        exact ⟨rfl, below_set5 hbo (Nat.le_refl _) _ _ _ _ _⟩
      · rw [if_neg (by omega)] at hPs
        obtain ⟨b, off, rfl, hb, hcell⟩ := hrow3.at_ (k := 0) (by omega)
        have hcl : ∀ (i : Nat) (hi : i < acc.length), wo.cell? ⟨b, off + i, none⟩ = some (.int .u64 (acc[i]?.getD 0 : Nat)) := fun i hi => by
          have := hcell i (by simpa using hi); rw [List.getElem?_eq_getElem hi]; simpa [u64v] using this
        have hbd : ∀ i, ((acc[i]?.getD 0 : Nat) : Int) ≤ 18446744073709551615 := fun i => by
          rcases Nat.lt_or_ge i acc.length with h | h
          · rw [List.getElem?_eq_getElem h]; have := hn _ (List.getElem_mem h); simp only [Option.getD_some]; omega
          · rw [List.getElem?_eq_none h]; simp
        have Hcl := Lib.hid hcl; clear hcl hcell
        have Hbd := Lib.hid hbd; clear hbd
        have Hrow := Lib.hid hrow3; clear hrow3
        have HP := Lib.hid hPs; clear hPs
        have Hn := Lib.hid hn; clear hn
        have d2 := Hbd.out 2; have d3 := Hbd.out 3
        have i2 : (2 : Int) < acc.length := by omega
        have i3 : (3 : Int) < acc.length := by omega
        have f2 : ∀ w' : World, Below wo.heap.size wo w' → w'.cell? ⟨b, off + 2, none⟩ = some (.int .u64 (acc[2]?.getD 0 : Nat)) := fun w' h => (h.cell (p := ⟨b, off + 2, none⟩) hb).trans (Hcl.out 2 (by omega))
        have f3 : ∀ w' : World, Below wo.heap.size wo w' → w'.cell? ⟨b, off + 3, none⟩ = some (.int .u64 (acc[3]?.getD 0 : Nat)) := fun w' h => (h.cell (p := ⟨b, off + 3, none⟩) hb).trans (Hcl.out 3 (by omega))
        go_wp2_with fail
        refine wp_region_N (fun w' => Below wo.heap.size wo w') 13 (by kernel_rfl) ?_
        have hS0 : Below wo.heap.size wo wo.drew := (Below.refl _ _).drew
        apply wpAnyN_take 0 (by kernel_rfl) rfl (fun _ _ _ h => h) hS0
        · intro w' hS'
          go_simp; exact ⟨rfl, rfl⟩
        (try simp only [Act.put]); (try simp only [List.setIfInBounds_toArray]); (try simp only [List.set])
        apply wpAnyN_take 1 (by kernel_rfl) rfl (fun _ _ _ h => h) hS0
        · intro w' hS'
          go_simp; exact ⟨rfl, rNumber acc _ c3 wo.heap.size _ 0 _ (by go_num) (Hrow.out.below hS') (by omega) (Hbd.out 0)⟩
        (try simp only [Act.put]); (try simp only [List.setIfInBounds_toArray]); (try simp only [List.set])
        apply wpAnyN_take 2 (by kernel_rfl) rfl (fun _ _ _ h => h) hS0
        · intro w' hS'
          go_simp; exact ⟨rfl, rfl⟩
        (try simp only [Act.put]); (try simp only [List.setIfInBounds_toArray]); (try simp only [List.set])
        apply wpAnyN_take 3 (by kernel_rfl) rfl (fun _ _ _ h => h) hS0
        · intro w' hS'
          go_simp; exact ⟨rfl, rNumber acc _ c3 wo.heap.size _ 1 _ (by go_num) (Hrow.out.below hS') (by omega) (Hbd.out 1)⟩
        (try simp only [Act.put]); (try simp only [List.setIfInBounds_toArray]); (try simp only [List.set])
        apply wpAnyN_take 4 (by kernel_rfl) rfl (fun _ _ _ h => h) hS0
        · intro w' hS'
          go_simp; exact ⟨rfl, rfl⟩
        (try simp only [Act.put]); (try simp only [List.setIfInBounds_toArray]); (try simp only [List.set])
        apply wpAnyN_take 5 (by kernel_rfl) rfl (fun _ _ _ h => h) hS0
        · intro w' hS'
          go_simp; exact ⟨rfl, rfl⟩
        (try simp only [Act.put]); (try simp only [List.setIfInBounds_toArray]); (try simp only [List.set])
        apply wpAnyN_take 6 (by kernel_rfl) rfl (fun _ _ _ h => h) hS0
        · intro w' hS'
          go_simp; exact ⟨rfl, rfl⟩
        (try simp only [Act.put]); (try simp only [List.setIfInBounds_toArray]); (try simp only [List.set])
        apply wpAnyN_take 7 (by kernel_rfl) rfl (fun _ _ _ h => h) hS0
        · intro w' hS'
          go_simp; exact ⟨rfl, rfl⟩
        (try simp only [Act.put]); (try simp only [List.setIfInBounds_toArray]); (try simp only [List.set])
        apply wpAnyN_take 8 (by kernel_rfl) rfl (fun _ _ _ h => h) hS0
        · intro w' hS'
          go_simp; exact ⟨rfl, rfl⟩
        (try simp only [Act.put]); (try simp only [List.setIfInBounds_toArray]); (try simp only [List.set])
        apply wpAnyN_take 9 (by kernel_rfl) rfl (fun _ _ _ h => h) hS0
        · intro w' hS'
          go_simp; exact ⟨rfl, rfl⟩
        (try simp only [Act.put]); (try simp only [List.setIfInBounds_toArray]); (try simp only [List.set])
        apply wpAnyN_take 10 (by kernel_rfl) rfl (fun _ _ _ h => h) hS0
        · intro w' hS'
          go_simp; exact ⟨rfl, rZagS _ _ (by omega)⟩
        (try simp only [Act.put]); (try simp only [List.setIfInBounds_toArray]); (try simp only [List.set])
        apply wpAnyN_take 11 (by kernel_rfl) rfl (fun _ _ _ h => h) hS0
        · intro w' hS'
          go_simp; exact ⟨rfl, rfl⟩
        (try simp only [Act.put]); (try simp only [List.setIfInBounds_toArray]); (try simp only [List.set])
        refine wpAnyN_run 12 (by kernel_rfl) rfl rfl (fun K hK => ?_)
        go_simp
        refine hK _ _ (fun _ => (hS0.alloc hS0.size _)) ?_
        clear hK K
        refine wpAnyN_run 13 (by kernel_rfl) rfl rfl (fun K hK => ?_)
        go_simp
        refine hK _ _ (fun h => absurd rfl h) ?_
        clear hK K
        refine wpAnyN_done (by kernel_rfl) ?_ _
        clear f2 f3 hS0
        generalize hx0 : acc[0]?.getD 0 = x0 at *
        generalize hx1 : acc[1]?.getD 0 = x1 at *
        generalize hx2 : acc[2]?.getD 0 = x2 at *
        generalize hx3 : acc[3]?.getD 0 = x3 at *
        have HD : Hid (manOf numN acc = { wal := numN x0, next := numN x1, seq := x2, mark := zag x3, segs := segsOf numN (acc.drop 5) }) := by
          show manOf numN acc = _
          unfold manOf; rw [hx0, hx1, hx2, hx3]
        clear hx0 hx1 hx2 hx3
        go_wp2_with fail
        go_loopw [13] (fun t wr => ∃ (k p : Nat) (v : Value), Hid (p = 5 + k * 4) ∧ p ≤ acc.length ∧ t = .int .i64 p ∧ Blk wr wo.heap.size 25 [.int .i64 (numN x0), .int .i64 (numN x1), .int .u64 x2, .int .i64 (zag x3), v] ∧
          wr.ownsRow (wo.heap.size + 1) 36 4 v k (segCells (segsOf numN ((acc.drop 5).take (k * 4)))) ∧ Below wo.heap.size wo wr) (fun t _ => acc.length - (intOf t).toNat)
        case atStart => exact ⟨0, 5, _, rfl, by omega, rfl, Blk.drew (Blk.new wo _ _), by simpa [segsOf, segCells] using World.ownsRow_nil _ _ _ _, ((Below.refl _ _).alloc (Nat.le_refl _) _).drew⟩
        case round =>
          obtain ⟨k, p, v, hp, hpl, rfl, hblk, hown, hbel⟩ := hrel
          obtain ⟨wq, rfl⟩ : ∃ wq : World, wq = wr := ⟨_, rfl⟩
          have hsq : wo.heap.size + 1 ≤ wq.heap.size := hblk.lt
          by_cases hlt : (p : Int) + 3 < acc.length
          · have j0 : (0 : Int) ≤ p := by omega
            have jp : (p : Int) < acc.length := by omega
            have j1 : (p : Int) + 1 < acc.length := by omega
            have j2 : (p : Int) + 2 < acc.length := by omega
            have q1 : IntKind.i64.wrap ((p : Int) + 1) = (p : Int) + 1 := IntWalk.i64_in _ ⟨by omega, by omega⟩
            have q2 : IntKind.i64.wrap ((p : Int) + 2) = (p : Int) + 2 := IntWalk.i64_in _ ⟨by omega, by omega⟩
            have q3 : IntKind.i64.wrap ((p : Int) + 3) = (p : Int) + 3 := IntWalk.i64_in _ ⟨by omega, by omega⟩
            have u1 : ((p : Int) + 1).toNat = p + 1 := by omega
            have u2 : ((p : Int) + 2).toNat = p + 2 := by omega
            have u3 : ((p : Int) + 3).toNat = p + 3 := by omega
            have hS : ∀ w' : World, (Blk w' wo.heap.size 25 [.int .i64 (numN x0), .int .i64 (numN x1), .int .u64 x2, .int .i64 (zag x3), v] ∧ Below wo.heap.size wo w') → ∀ i, i < acc.length → w'.cell? ⟨b, off + i, none⟩ = some (.int .u64 (acc[i]?.getD 0 : Nat)) := fun w' h i hi =>
              (h.2.cell (p := ⟨b, off + i, none⟩) hb).trans (Hcl.out i hi)
            have g2 : ∀ w' : World, _ → w'.cell? ⟨b, off + (p + 2), none⟩ = some (.int .u64 (acc[p + 2]?.getD 0 : Nat)) := fun w' h => hS w' h (p + 2) (by omega)
            have g3 : ∀ w' : World, _ → w'.cell? ⟨b, off + (p + 3), none⟩ = some (.int .u64 (acc[p + 3]?.getD 0 : Nat)) := fun w' h => hS w' h (p + 3) (by omega)
            have gm : ∀ w' : World, (Blk w' wo.heap.size 25 [.int .i64 (numN x0), .int .i64 (numN x1), .int .u64 x2, .int .i64 (zag x3), v] ∧ Below wo.heap.size wo w') → w'.cell? ⟨wo.heap.size, 4, none⟩ = some v := fun w' h => h.1.cell 4
            have y2 := Hbd.out (p + 2); have y3 := Hbd.out (p + 3)
            have hnum := fun (w' : World) (i : Nat) (z : Int) (hz : z = (i : Int)) (hi : i < acc.length) (h : Below wo.heap.size wo w') => rNumber acc _ c3 wo.heap.size w' i z hz (Hrow.out.below h) hi (Hbd.out i)
            have n0 := fun (w' : World) (z : Int) (hz : z = ((p : Nat) : Int)) (h : Below wo.heap.size wo w') => hnum w' p z hz (by omega) h
            have n1 := fun (w' : World) (z : Int) (hz : z = ((p + 1 : Nat) : Int)) (h : Below wo.heap.size wo w') => hnum w' (p + 1) z hz (by omega) h
            have hsegs := segsOf_take numN k (acc.drop 5) (by rw [List.length_drop]; have := hp.out; omega)
            simp only [List.getElem?_drop] at hsegs
            have hpo := hp.out
            rw [show 5 + k * 4 = p by omega, show 5 + (k * 4 + 1) = p + 1 by omega, show 5 + (k * 4 + 2) = p + 2 by omega, show 5 + (k * 4 + 3) = p + 3 by omega] at hsegs
            clear hpo hS hnum
            generalize acc[p]?.getD 0 = z0 at *
            generalize acc[p + 1]?.getD 0 = z1 at *
            generalize acc[p + 2]?.getD 0 = z2 at *
            generalize acc[p + 3]?.getD 0 = z3 at *
            have Hsegs := Lib.hid hsegs; clear hsegs
            have N0 := Lib.hid n0; have N1 := Lib.hid n1
            clear n0 n1
            go_wp2_with fail
            refine wp_region_N (fun w' => Blk w' wo.heap.size 25 [.int .i64 (numN x0), .int .i64 (numN x1), .int .u64 x2, .int .i64 (zag x3), v] ∧ Below wo.heap.size wo w') 25 (by kernel_rfl) ?_
            have hS1 : Blk wq.drew wo.heap.size 25 [.int .i64 (numN x0), .int .i64 (numN x1), .int .u64 x2, .int .i64 (zag x3), v] ∧ Below wo.heap.size wo wq.drew := ⟨hblk, hbel.drew⟩
            apply wpAnyN_take 0 (by kernel_rfl) rfl (fun _ _ _ h => h) hS1
            · intro w' hS'
              go_simp; exact ⟨rfl, rfl⟩
            (try simp only [Act.put]); (try simp only [List.setIfInBounds_toArray]); (try simp only [List.set])
            apply wpAnyN_take 1 (by kernel_rfl) rfl (fun _ _ _ h => h) hS1
            · intro w' hS'
              go_simp; exact ⟨rfl, rfl⟩
            (try simp only [Act.put]); (try simp only [List.setIfInBounds_toArray]); (try simp only [List.set])
            apply wpAnyN_take 2 (by kernel_rfl) rfl (fun _ _ _ h => h) hS1
            · intro w' hS'
              go_simp; exact ⟨rfl, rfl⟩
            (try simp only [Act.put]); (try simp only [List.setIfInBounds_toArray]); (try simp only [List.set])
            apply wpAnyN_take 3 (by kernel_rfl) rfl (fun _ _ _ h => h) hS1
            · intro w' hS'
              go_simp; exact ⟨rfl, rfl⟩
            (try simp only [Act.put]); (try simp only [List.setIfInBounds_toArray]); (try simp only [List.set])
            apply wpAnyN_take 4 (by kernel_rfl) rfl (fun _ _ _ h => h) hS1
            · intro w' hS'
              go_simp; exact ⟨rfl, N0.out _ _ (by first | rfl | omega) hS'.2⟩
            (try simp only [Act.put]); (try simp only [List.setIfInBounds_toArray]); (try simp only [List.set])
            apply wpAnyN_take 5 (by kernel_rfl) rfl (fun _ _ _ h => h) hS1
            · intro w' hS'
              go_simp; exact ⟨rfl, rfl⟩
            (try simp only [Act.put]); (try simp only [List.setIfInBounds_toArray]); (try simp only [List.set])
            apply wpAnyN_take 6 (by kernel_rfl) rfl (fun _ _ _ h => h) hS1
            · intro w' hS'
              go_simp; exact ⟨rfl, rfl⟩
            (try simp only [Act.put]); (try simp only [List.setIfInBounds_toArray]); (try simp only [List.set])
            apply wpAnyN_take 7 (by kernel_rfl) rfl (fun _ _ _ h => h) hS1
            · intro w' hS'
              go_simp; exact ⟨rfl, rfl⟩
            (try simp only [Act.put]); (try simp only [List.setIfInBounds_toArray]); (try simp only [List.set])
            apply wpAnyN_take 8 (by kernel_rfl) rfl (fun _ _ _ h => h) hS1
            · intro w' hS'
              go_simp; exact ⟨rfl, N1.out _ _ (by first | rfl | omega) hS'.2⟩
            (try simp only [Act.put]); (try simp only [List.setIfInBounds_toArray]); (try simp only [List.set])
            apply wpAnyN_take 9 (by kernel_rfl) rfl (fun _ _ _ h => h) hS1
            · intro w' hS'
              go_simp; exact ⟨rfl, rfl⟩
            (try simp only [Act.put]); (try simp only [List.setIfInBounds_toArray]); (try simp only [List.set])
            apply wpAnyN_take 10 (by kernel_rfl) rfl (fun _ _ _ h => h) hS1
            · intro w' hS'
              go_simp; exact ⟨rfl, rfl⟩
            (try simp only [Act.put]); (try simp only [List.setIfInBounds_toArray]); (try simp only [List.set])
            apply wpAnyN_take 11 (by kernel_rfl) rfl (fun _ _ _ h => h) hS1
            · intro w' hS'
              go_simp; exact ⟨rfl, rfl⟩
            (try simp only [Act.put]); (try simp only [List.setIfInBounds_toArray]); (try simp only [List.set])
            apply wpAnyN_take 12 (by kernel_rfl) rfl (fun _ _ _ h => h) hS1
            · intro w' hS'
              go_simp; exact ⟨rfl, rfl⟩
            (try simp only [Act.put]); (try simp only [List.setIfInBounds_toArray]); (try simp only [List.set])
            apply wpAnyN_take 13 (by kernel_rfl) rfl (fun _ _ _ h => h) hS1
            · intro w' hS'
              go_simp; exact ⟨rfl, rfl⟩
            (try simp only [Act.put]); (try simp only [List.setIfInBounds_toArray]); (try simp only [List.set])
            apply wpAnyN_take 14 (by kernel_rfl) rfl (fun _ _ _ h => h) hS1
            · intro w' hS'
              go_simp; exact ⟨rfl, rZagS _ _ (by assumption)⟩
            (try simp only [Act.put]); (try simp only [List.setIfInBounds_toArray]); (try simp only [List.set])
            apply wpAnyN_take 15 (by kernel_rfl) rfl (fun _ _ _ h => h) hS1
            · intro w' hS'
              go_simp; exact ⟨rfl, rfl⟩
            (try simp only [Act.put]); (try simp only [List.setIfInBounds_toArray]); (try simp only [List.set])
            apply wpAnyN_take 16 (by kernel_rfl) rfl (fun _ _ _ h => h) hS1
            · intro w' hS'
              go_simp; exact ⟨rfl, rfl⟩
            (try simp only [Act.put]); (try simp only [List.setIfInBounds_toArray]); (try simp only [List.set])
            apply wpAnyN_take 17 (by kernel_rfl) rfl (fun _ _ _ h => h) hS1
            · intro w' hS'
              go_simp; exact ⟨rfl, rfl⟩
            (try simp only [Act.put]); (try simp only [List.setIfInBounds_toArray]); (try simp only [List.set])
            apply wpAnyN_take 18 (by kernel_rfl) rfl (fun _ _ _ h => h) hS1
            · intro w' hS'
              go_simp; exact ⟨rfl, rfl⟩
            (try simp only [Act.put]); (try simp only [List.setIfInBounds_toArray]); (try simp only [List.set])
            apply wpAnyN_take 19 (by kernel_rfl) rfl (fun _ _ _ h => h) hS1
            · intro w' hS'
              go_simp; exact ⟨rfl, rfl⟩
            (try simp only [Act.put]); (try simp only [List.setIfInBounds_toArray]); (try simp only [List.set])
            apply wpAnyN_take 20 (by kernel_rfl) rfl (fun _ _ _ h => h) hS1
            · intro w' hS'
              go_simp; exact ⟨rfl, rZagS _ _ (by assumption)⟩
            (try simp only [Act.put]); (try simp only [List.setIfInBounds_toArray]); (try simp only [List.set])
            apply wpAnyN_take 21 (by kernel_rfl) rfl (fun _ _ _ h => h) hS1
            · intro w' hS'
              go_simp; exact ⟨rfl, rfl⟩
            (try simp only [Act.put]); (try simp only [List.setIfInBounds_toArray]); (try simp only [List.set])
            refine wpAnyN_run 22 (by kernel_rfl) rfl rfl (fun K hK => ?_)
            go_simp
            refine hK _ _ (fun _ => ⟨hS1.1.alloc _, hS1.2.alloc hS1.2.size _⟩) ?_
            clear hK K
            refine wpAnyN_run 23 (by kernel_rfl) rfl rfl (fun K hK => ?_)
            have hne : some wo.heap.size ≠ v.ownBlock := fun e => by have := (hown.lt _ e.symm).1; omega
            refine wp_app (v := v) _ segE rfl rfl (own_below hown (((Below.refl _ _).alloc (Nat.le_refl _) (.cells #[.int .i64 (numN z0), .int .i64 (numN z1), .int .i64 (zag z2), .int .i64 (zag z3)] 36)).drew)) rfl (Row.drew (row_newN wq 36 4 1 [.int .i64 (numN z0), .int .i64 (numN z1), .int .i64 (zag z2), .int .i64 (zag z3)] rfl)) (segV_one ⟨numN z0, numN z1, zag z2, zag z3⟩) (by have := hp.out; omega) (by simp; omega) ?_
            intro v4 w4 hown4 hg4 hb4 _
            obtain ⟨A4, c4, rfl⟩ := own_slice hown4
            have hS4 : Blk w4 wo.heap.size 25 [.int .i64 (numN x0), .int .i64 (numN x1), .int .u64 x2, .int .i64 (zag x3), v] ∧ Below wo.heap.size wo w4 := ⟨Blk.grown (Blk.drew (Blk.alloc hblk _)) hg4 hne, (hbel.alloc hbel.size _).drew.trans (hb4.mono (by omega))⟩
            refine hK _ _ (fun _ => hS4) ?_
            clear hK K
            (try simp only [Act.put]); (try simp only [List.setIfInBounds_toArray]); (try simp only [List.set])
            refine wpAnyN_run 24 (by kernel_rfl) rfl rfl (fun K hK => ?_)
            go_simp
            refine hK _ _ (fun _ => hS4) ?_
            clear hK K
            have hc4 := gm w4 hS4
            have hf4 := hS4.1.frozen 4
            refine wpAnyN_run 25 (by kernel_rfl) rfl rfl (fun K hK => ?_)
            go_simp
            refine hK _ _ (fun h => absurd rfl h) ?_
            clear hK K
            refine wpAnyN_done (by kernel_rfl) ?_ _
            have hfin : (w4.setCell ⟨wo.heap.size, 4, none⟩ (.slice A4 (k + 1) c4)).ownsRow (wo.heap.size + 1) 36 4 (.slice A4 (k + 1) c4) (k + 1) (segCells (segsOf numN ((acc.drop 5).take ((k + 1) * 4)))) := by
              rw [show (k + 1) * 4 = k * 4 + 4 by omega, Hsegs.out]
              have h2 : segCells (segsOf numN ((acc.drop 5).take (k * 4)) ++ [{ id := numN z0, count := numN z1, mn := zag z2, mx := zag z3 }]) = segCells (segsOf numN ((acc.drop 5).take (k * 4))) ++ segV { id := numN z0, count := numN z1, mn := zag z2, mx := zag z3 } := by simp [segCells]
              rw [h2]
              exact ownsRow_setCell_below hown4 (by show wo.heap.size < _; omega) _
            have hblk5 := hS4.1.set_ 4 (.slice A4 (k + 1) c4)
            have hbel5 : Below wo.heap.size wo (w4.setCell ⟨wo.heap.size, 4, none⟩ (.slice A4 (k + 1) c4)) := hS4.2.setCell (Nat.le_refl _) _
            clear hc4 hf4 gm g2 g3 hS1
            go_wp2
            go_roundw
            case rel =>
              have hh : Hid (p + 4 = 5 + (k + 1) * 4) := by have h1 := hp.out; show p + 4 = _; omega
              first
                | exact ⟨k + 1, p + 4, _, hh, by omega, by go_num, hblk5, hfin, hbel5⟩
                | ((repeat apply Exists.intro); exact ⟨⟨k + 1, p + 4, _, hh, by omega, by go_num, hblk5, hfin, hbel5⟩, rfl⟩)
            case measure => simp [intOf]; omega
          · obtain ⟨A4, c4, rfl⟩ := own_slice hown
            have hpo := hp.out
            have hks : k ≤ 100000 := by omega
            have hend : segsOf numN ((acc.drop 5).take (k * 4)) = segsOf numN (acc.drop 5) := segsOf_end numN k _ (by rw [List.length_drop]; omega) (by rw [List.length_drop]; omega)
            rw [hend] at hown
            have hlen : k = (segsOf numN (acc.drop 5)).length := by
              have h1 := hown.1
              rw [segCells_len] at h1; omega
            have hwf := manOf_wf numN_in Hn.out
            have hmok := HD.out
            clear hp hpo hend
            have hP := HP.out
            rw [hmok] at hP hwf
            generalize segsOf numN (acc.drop 5) = sg at *
            subst hlen
            clear hmok HD HP
            have hresq : Blk wq w.heap.size 25 _ := hres'.below hbel (by omega)
            have k0 := hblk.cell 0; have k1 := hblk.cell 1; have k2 := hblk.cell 2; have k3 := hblk.cell 3; have k4 := hblk.cell 4
            simp only [List.getElem?_cons_zero, List.getElem?_cons_succ] at k0 k1 k2 k3 k4
            have hsg : sg.length ≤ 140737488355328 := by omega
            have HP := Lib.hid hP
            have Hwf := Lib.hid hwf
            clear hP hwf
            go_wp2_with fail
            refine (rWrite { wal := numN x0, next := numN x1, seq := x2, mark := zag x3, segs := sg } A4 c4 wq.heap.size wq (Row.of_own hown) (Nat.le_refl _) Hwf.out hsg).mono ?_
            intro e w6 hpost
            have hP := HP.out
            clear HP k0 k1 k2 k3 k4
            cases hm : mwrite { wal := numN x0, next := numN x1, seq := x2, mark := zag x3, segs := sg } with
            | error q =>
              rw [hm] at hpost hP
              simp only [] at hP
              have hq : ((q : Int) != 0) = true := by rw [bne_iff_ne]; have := mwrite_err hm; omega
              have hq' : ((q : Int) == 0) = false := by rw [beq_eq_false_iff_ne]; have := mwrite_err hm; omega
              obtain ⟨rfl, hb6⟩ := hpost
              have hres6 : Blk w6 w.heap.size 25 _ := hresq.below hb6 (by omega)
              have hb06 : Below w.heap.size w w6 := (hbo.trans (hbel.mono (by omega))).trans (hb6.mono (by omega))
              have v0 := hres6.frozen 0; have v1 := hres6.frozen 1; have v2 := hres6.frozen 2; have v3 := hres6.frozen 3; have v4 := hres6.frozen 4
              have r0 := hres6.cell 0; have r1 := hres6.cell 1; have r2 := hres6.cell 2; have r3 := hres6.cell 3; have r4 := hres6.cell 4
              simp only [List.getElem?_cons_zero, List.getElem?_cons_succ] at r0 r1 r2 r3 r4
              have HP := Lib.hid hP
              clear hP hm
              go_wp2
              refine bodyPost_ret (v := .tuple #[manZ, .int .i64 30]) (by simp [results, Try.results15, go_sem, manZ, *]) rfl ?_
              rw [HP.out]
              exact ⟨rfl, below_set5 hb06 (Nat.le_refl _) _ _ _ _ _⟩
            | ok f =>
              rw [hm] at hpost hP
              simp only [] at hP
              obtain ⟨v6, rfl, hown6, hb6⟩ := hpost
              obtain ⟨A6, c6, rfl, hrow6⟩ := OwnB.shape hown6
              have hres6 : Blk w6 w.heap.size 25 _ := hresq.below hb6 (by omega)
              have hblk6 := hblk.below hb6 (by omega)
              have hb06 : Below w.heap.size w w6 := (hbo.trans (hbel.mono (by omega))).trans (hb6.mono (by omega))
              have hown7 := own_below hown hb6
              have v0 := hres6.frozen 0; have v1 := hres6.frozen 1; have v2 := hres6.frozen 2; have v3 := hres6.frozen 3; have v4 := hres6.frozen 4
              have r0 := hres6.cell 0; have r1 := hres6.cell 1; have r2 := hres6.cell 2; have r3 := hres6.cell 3; have r4 := hres6.cell 4
              have k0 := hblk6.cell 0; have k1 := hblk6.cell 1; have k2 := hblk6.cell 2; have k3 := hblk6.cell 3; have k4 := hblk6.cell 4
              simp only [List.getElem?_cons_zero, List.getElem?_cons_succ] at r0 r1 r2 r3 r4 k0 k1 k2 k3 k4
              have hcv1 := run_str hrow6 (c := c6)
              have hcv2 := run_str (hr.below (hb06.mono hB)) (c := c)
              have HP := Lib.hid hP
              clear hP hm hown6
              by_cases hfl : f = l
              · have hne : (!f == l) = false := by rw [hfl]; simp
                have hP := HP.out
                rw [if_pos hfl] at hP
                have HP := Lib.hid hP
                have Hfl := Lib.hid hfl
                clear hP hfl
                go_wp2
                refine bodyPost_ret (v := .tuple #[.agg #[.int .i64 (numN x0), .int .i64 (numN x1), .int .u64 x2, .int .i64 (zag x3), .slice A4 sg.length c4], .int .i64 0]) (by simp [results, Try.results15, go_sem, *]) rfl ?_
                rw [HP.out]
                refine ⟨A4, c4, rfl, ?_, below_set5 hb06 (Nat.le_refl _) _ _ _ _ _⟩
                refine own_mono (B := w.heap.size + 1) ?_ (by omega)
                repeat' refine ownsRow_setCell_below ?_ (by show w.heap.size < _; omega) _
                exact own_mono hown7 (by omega)
              · have hne : (!f == l) = true := by simpa using hfl
                have hP := HP.out
                rw [if_neg hfl] at hP
                have HP := Lib.hid hP
                have Hfl := Lib.hid hfl
                clear hP hfl
                go_wp2
                refine bodyPost_ret (v := .tuple #[manZ, .int .i64 30]) (by simp [results, Try.results15, go_sem, manZ, *]) rfl ?_
                rw [HP.out]
                exact ⟨rfl, below_set5 hb06 (Nat.le_refl _) _ _ _ _ _⟩
end Go.Proofs.Ytmddgimadlmacaa
