import Derived.Test.YtmddgimadlmacaaMf37
import Derived.Test.YtmddgimadlmacaaMf03
import Derived.Outline
namespace Go.Proofs.Ytmddgimadlmacaa
open Go.RowKit Garner

theorem keys_bList {b : AD} (hm : MF b.fs) : ∀ nm ∈ (bList b).1, (nmS nm).size ≤ 140737488355328 := by
  intro nm h
  obtain ⟨n1, n2⟩ := small_nm
  unfold bList at h
  split at h
  · cases h
  · obtain ⟨q, hq, rfl⟩ := List.mem_map.1 h
    rcases hm.keys q hq with e | e
    · rw [e]; exact n1
    · rw [e]; exact n2
set_option maxRecDepth 100000 in
set_option maxHeartbeats 16000000 in
theorem lawMF (xs : List ManD) (A0 : Option Addr) (c0 : Nat) (arms : List Int) (A1 : Option Addr) (c1 : Nat) (fulls : List Bool) (A2 : Option Addr) (c2 : Nat) (w : World) (h0 : Mans w w.heap.size A0 xs) (hxl : xs.length ≤ 140737488355328)
    (h1 : Row w w.heap.size 1 A1 arms.length (arms.map (Value.int .i64))) (hr1 : ∀ k ∈ arms, in64 k) (h2 : Row w w.heap.size 1 A2 fulls.length (fulls.map Value.bool)) :
    Calls Try.prog 10 #[.slice A0 xs.length c0, .slice A1 arms.length c1, .slice A2 fulls.length c2] w fun e w' => e = .returned (.bool true) ∧ Below w.heap.size w w' := by
  go_enter Try.func10, Try.ntmps10
  go_wp2_with fail
  refine (vAwake w).mono ?_
  rintro e w0 ⟨rfl, hb0⟩
  go_wp2_with fail
  refine (aNew_calls w.heap.size w0 hb0.size).mono ?_
  rintro e w1 ⟨g, mp, rfl, hd1, hb1, hgl1, hml1⟩
  go_wp2_with fail
  refine (rfNew _).mono ?_
  rintro e w2 ⟨gr, rfl, hr2, hrl2, hb2⟩
  have hU0 : UU w w2 g mp gr AD.new AD.new := UU.start hd1 (hb0.trans (hb1.mono hb0.size)) hr2 hrl2 hb2
  clear hb0 hd1 hb1 hgl1 hml1 hr2 hrl2 hb2
  go_wp2_with fail
  go_loopw [9] (fun v wr => ∃ (k : Nat), k ≤ xs.length ∧ v = .int .i64 k ∧ PU w wr g mp gr) (fun v _ => xs.length - (intOf v).toNat)
  case atStart => exact ⟨0, by omega, rfl, _, _, hU0, Sim.new, MF.nil⟩
  case round =>
    clear hU0
    obtain ⟨i, hi, rfl, hpu⟩ := hrel
    obtain ⟨wo, rfl⟩ : ∃ wo : World, wo = wr := ⟨_, rfl⟩
    by_cases hlt : (i : Int) < xs.length
    · have hi0 : (0 : Int) ≤ (i : Int) := by omega
      go_upto_if 36 with fail
      go_cut [] (fun wx => PU w wx g mp gr)
      case first =>
        obtain ⟨d, b, hU, hS, hM⟩ := hpu
        by_cases ha : i < arms.length
        · have ha' : (i : Int) < arms.length := by omega
          obtain ⟨ba, oa, rfl, hba, hca⟩ := (h1.below hU.b).at_ (k := i) ha
          have hin := hr1 _ (List.getElem_mem ha)
          have hc1 := hca i (by simpa using ha)
          rw [List.getElem_map] at hc1
          obtain ⟨n, hn⟩ : ∃ n, n = arms[i] := ⟨_, rfl⟩
          rw [← hn] at hc1 hin
          clear hn hca
          go_wp2_with fail
          refine (u_arm1 n hU hin).mono ?_
          rintro e w3 ⟨rfl, hU3⟩
          have hc3 : w3.cell? ⟨ba, oa + i, none⟩ = some (.int .i64 n) := by
            rw [hU3.b.cell (p := ⟨ba, oa + i, none⟩) hba, ← hc1, hU.b.cell (p := ⟨ba, oa + i, none⟩) hba]
          clear hc1
          go_wp2_with fail
          refine (u_arm2 n hU3 hin).mono ?_
          rintro e w4 ⟨rfl, hU4⟩
          have hS4 := hS.arm n
          have hM4 := hM.arm n
          clear hU hU3 hc3
          go_wp2
          go_meet
          exact ⟨_, _, hU4, hS4, hM4⟩
        · have ha' : ¬ (i : Int) < arms.length := by omega
          go_wp2
          go_meet
          exact ⟨_, _, hU, hS, hM⟩
      case rest =>
        clear hpu
        have hpu := hcut
        clear hcut
        go_upto_if 52 with fail
        go_cut [] (fun wx => PU w wx g mp gr)
        case first =>
          obtain ⟨d, b, hU, hS, hM⟩ := hpu
          by_cases ha : i < fulls.length
          · have ha' : (i : Int) < fulls.length := by omega
            obtain ⟨ba, oa, rfl, hba, hca⟩ := (h2.below hU.b).at_ (k := i) ha
            have hc1 := hca i (by simpa using ha)
            rw [List.getElem_map] at hc1
            obtain ⟨n, hn⟩ : ∃ n, n = fulls[i] := ⟨_, rfl⟩
            rw [← hn] at hc1
            clear hn hca
            go_wp2_with fail
            refine (u_fill1 n hU).mono ?_
            rintro e w3 ⟨rfl, hU3⟩
            have hc3 : w3.cell? ⟨ba, oa + i, none⟩ = some (.bool n) := by
              rw [hU3.b.cell (p := ⟨ba, oa + i, none⟩) hba, ← hc1, hU.b.cell (p := ⟨ba, oa + i, none⟩) hba]
            clear hc1
            go_wp2_with fail
            refine (u_fill2 n hU3).mono ?_
            rintro e w4 ⟨rfl, hU4⟩
            have hS4 := hS.fill n
            clear hU hU3 hc3
            go_wp2
            go_meet
            exact ⟨_, _, hU4, hS4, hM⟩
          · have ha' : ¬ (i : Int) < fulls.length := by omega
            go_wp2
            go_meet
            exact ⟨_, _, hU, hS, hM⟩
        case rest =>
          obtain ⟨d, b, hU, hS, hM⟩ := hcut
          clear hpu
          have hil : i < xs.length := by omega
          obtain ⟨bx, ox, rfl, hbx, hcx⟩ := (h0.below hU.b).at_ (k := i) hil
          have hok := (h0.below hU.b).all _ (List.getElem_mem hil)
          obtain ⟨x, hx⟩ : ∃ x, x = xs[i] := ⟨_, rfl⟩
          rw [← hx] at hcx hok
          have hmem : x ∈ xs := by rw [hx]; exact List.getElem_mem hil
          clear hx
          have hbw : ∀ j, j < 5 → ∀ w', Below w.heap.size w w' → w'.cell? ⟨bx, ox + i * 5 + j, none⟩ = (x.cells)[j]? := fun j hj w' h => by
            rw [← hcx j hj, h.cell (p := ⟨bx, ox + i * 5 + j, none⟩) hbx, hU.b.cell (p := ⟨bx, ox + i * 5 + j, none⟩) hbx]
          have x0 := hbw 0 (by omega); have x1 := hbw 1 (by omega); have x2 := hbw 2 (by omega); have x3 := hbw 3 (by omega); have x4 := hbw 4 (by omega)
          simp only [ManD.cells, mCells, List.getElem?_cons_zero, List.getElem?_cons_succ, Nat.add_zero] at x0 x1 x2 x3 x4
          clear hbw hcx
          have hokW : ∀ w', Below w.heap.size w w' → ManOk w' w.heap.size x := fun w' h => (h0.below h).all x hmem
          have HOK := Lib.hid hokW
          clear hokW hok
          obtain ⟨s1, s2⟩ := hS.save x.m
          have hM2 := hM.save hS.asc x.m
          have hasc := hS.asc
          have hS0 : Below w.heap.size w wc.drew := hU.b.drew
          go_upto_region 14 with fail
          go_cut [86] (fun s86 wx => s86 = .bool false ∧ PU w wx g mp gr)
          case first =>
            have hUd := hU.below (Below.refl wc.heap.size wc).drew
            refine wp_region_N (fun w' => Below w.heap.size w w') 100 (by kernel_rfl) ?_
            apply wpAnyN_takeL 0 (by kernel_rfl) rfl (fun _ _ _ h => h) (by kernel_rfl) hS0
            · intro w' hS'
              go_simp; exact ⟨rfl, rfl⟩
            (try simp only [Act.put]); (try simp only [List.setIfInBounds_toArray]); (try simp only [List.set])
            apply wpAnyN_takeL 1 (by kernel_rfl) rfl (fun _ _ _ h => h) (by kernel_rfl) hS0
            · intro w' hS'
              go_simp; exact ⟨rfl, rfl⟩
            (try simp only [Act.put]); (try simp only [List.setIfInBounds_toArray]); (try simp only [List.set])
            apply wpAnyN_takeL 2 (by kernel_rfl) rfl (fun _ _ _ h => h) (by kernel_rfl) hS0
            · intro w' hS'
              go_simp; exact ⟨rfl, rfl⟩
            (try simp only [Act.put]); (try simp only [List.setIfInBounds_toArray]); (try simp only [List.set])
            apply wpAnyN_takeL 3 (by kernel_rfl) rfl (fun _ _ _ h => h) (by kernel_rfl) hS0
            · intro w' hS'
              go_simp; exact ⟨rfl, rfl⟩
            (try simp only [Act.put]); (try simp only [List.setIfInBounds_toArray]); (try simp only [List.set])
            apply wpAnyN_takeL 4 (by kernel_rfl) rfl (fun _ _ _ h => h) (by kernel_rfl) hS0
            · intro w' hS'
              go_simp; exact ⟨rfl, rfl⟩
            (try simp only [Act.put]); (try simp only [List.setIfInBounds_toArray]); (try simp only [List.set])
            apply wpAnyN_takeL 6 (by kernel_rfl) rfl (fun _ _ _ h => h) (by kernel_rfl) hS0
            · intro w' hS'
              go_simp; exact ⟨rfl, rfl⟩
            (try simp only [Act.put]); (try simp only [List.setIfInBounds_toArray]); (try simp only [List.set])
            apply wpAnyN_takeL 7 (by kernel_rfl) rfl (fun _ _ _ h => h) (by kernel_rfl) hS0
            · intro w' hS'
              go_simp; exact ⟨rfl, rfl⟩
            (try simp only [Act.put]); (try simp only [List.setIfInBounds_toArray]); (try simp only [List.set])
            apply wpAnyN_takeL 8 (by kernel_rfl) rfl (fun _ _ _ h => h) (by kernel_rfl) hS0
            · intro w' hS'
              go_simp; exact ⟨rfl, rfl⟩
            (try simp only [Act.put]); (try simp only [List.setIfInBounds_toArray]); (try simp only [List.set])
            apply wpAnyN_takeL 9 (by kernel_rfl) rfl (fun _ _ _ h => h) (by kernel_rfl) hS0
            · intro w' hS'
              go_simp; exact ⟨rfl, rfl⟩
            (try simp only [Act.put]); (try simp only [List.setIfInBounds_toArray]); (try simp only [List.set])
            apply wpAnyN_takeL 10 (by kernel_rfl) rfl (fun _ _ _ h => h) (by kernel_rfl) hS0
            · intro w' hS'
              go_simp; exact ⟨rfl, rfl⟩
            (try simp only [Act.put]); (try simp only [List.setIfInBounds_toArray]); (try simp only [List.set])
            refine wpAnyN_runL 5 (by kernel_rfl) rfl (by kernel_rfl) (fun K hK => ?_)
            go_simp
            refine (u_save1 x hUd (HOK.out _ hS0)).mono ?_
            rintro e w3 ⟨rfl, hU3⟩
            rw [s1]
            refine hK _ _ (fun _ => hU3.b) ?_
            clear hK K
            (try simp only [Act.put]); (try simp only [List.setIfInBounds_toArray]); (try simp only [List.set])
            refine wpAnyN_runL 11 (by kernel_rfl) rfl (by kernel_rfl) (fun K hK => ?_)
            go_simp
            refine (u_save2 x hU3 (HOK.out _ hU3.b) hasc hM).mono ?_
            rintro e w4 ⟨rfl, hU4⟩
            have hS4 := hU4.b
            have hdn := u_down hU4
            rw [s2.dn] at hdn
            have hof := u_off hU4
            have hof2 : ∀ w', Below w4.heap.size w4 w' → w'.cell? ⟨gr, 2, none⟩ = some (.bool (bSave x.m b).2.dn) := fun w' h => u_off (hU4.below h)
            have Hof2 := Lib.hid hof2
            have HP : ∀ w', Below w4.heap.size w4 w' → PU w w' g mp gr := fun w' h => ⟨_, _, hU4.below h, s2, hM2⟩
            have Hp := Lib.hid HP
            have HBW := Lib.hid (show ∀ w', Below w4.heap.size w4 w' → Below w.heap.size w w' from fun w' h => hU4.b.trans (h.mono hU4.b.size))
            obtain ⟨bd, hbd⟩ : ∃ bd, bd = (bSave x.m b).2.dn := ⟨_, rfl⟩
            rw [← hbd] at hdn hof Hof2
            have Hdn := Lib.hid hdn
            clear hbd hof2 HP hdn
            refine hK _ _ (fun _ => hS4) ?_
            clear hK K
            (try simp only [Act.put]); (try simp only [List.setIfInBounds_toArray]); (try simp only [List.set])
            apply wpAnyN_takeL 12 (by kernel_rfl) rfl (fun _ _ _ h => h) (by kernel_rfl) hS4
            · intro w' hS'
              go_simp; exact ⟨rfl, rfl⟩
            (try simp only [Act.put]); (try simp only [List.setIfInBounds_toArray]); (try simp only [List.set])
            apply wpAnyN_takeL 13 (by kernel_rfl) rfl (fun _ _ _ h => h) (by kernel_rfl) hS4
            · intro w' hS'
              go_simp; exact ⟨rfl, rfl⟩
            (try simp only [Act.put]); (try simp only [List.setIfInBounds_toArray]); (try simp only [List.set])
            apply wpAnyN_takeL 14 (by kernel_rfl) rfl (fun _ _ _ h => h) (by kernel_rfl) hS4
            · intro w' hS'
              go_simp; exact ⟨rfl, rfl⟩
            (try simp only [Act.put]); (try simp only [List.setIfInBounds_toArray]); (try simp only [List.set])
            apply wpAnyN_takeL 16 (by kernel_rfl) rfl (fun _ _ _ h => h) (by kernel_rfl) hS4
            · intro w' hS'
              go_simp; exact ⟨rfl, rfl⟩
            (try simp only [Act.put]); (try simp only [List.setIfInBounds_toArray]); (try simp only [List.set])
            apply wpAnyN_takeL 17 (by kernel_rfl) rfl (fun _ _ _ h => h) (by kernel_rfl) hS4
            · intro w' hS'
              go_simp; exact ⟨rfl, rfl⟩
            (try simp only [Act.put]); (try simp only [List.setIfInBounds_toArray]); (try simp only [List.set])
            apply wpAnyN_takeL 18 (by kernel_rfl) rfl (fun _ _ _ h => h) (by kernel_rfl) hS4
            · intro w' hS'
              go_simp; exact ⟨rfl, rfl⟩
            (try simp only [Act.put]); (try simp only [List.setIfInBounds_toArray]); (try simp only [List.set])
            refine wpAnyN_two 15 19 (by kernel_rfl) rfl (by kernel_rfl) rfl (by kernel_rfl) (fun K hK => ?_) (fun K hK => ?_)
            · go_simp
              refine Hdn.out.mono ?_
              rintro e w5 ⟨rfl, hb5⟩
              have hS5 := HBW.out w5 hb5
              have hof5 := Hof2.out w5 hb5
              refine hK _ _ (fun _ => hS5) ?_
              clear hK K
              (try simp only [Act.put]); (try simp only [List.setIfInBounds_toArray]); (try simp only [List.set])
              refine wpAnyN_runL 19 (by kernel_rfl) rfl (by kernel_rfl) (fun K hK => ?_)
              go_simp
              refine hK _ _ (fun _ => hS5) ?_
              clear hK K
              (try simp only [Act.put]); (try simp only [List.setIfInBounds_toArray]); (try simp only [List.set])
              apply wpAnyN_takeL 20 (by kernel_rfl) rfl (fun _ _ _ h => h) (by kernel_rfl) hS5
              · intro w' hS'
                go_simp; exact ⟨rfl, rfl⟩
              (try simp only [Act.put]); (try simp only [List.setIfInBounds_toArray]); (try simp only [List.set])
              apply wpAnyN_takeL 21 (by kernel_rfl) rfl (fun _ _ _ h => h) (by kernel_rfl) hS5
              · intro w' hS'
                go_simp; exact ⟨rfl, rfl⟩
              (try simp only [Act.put]); (try simp only [List.setIfInBounds_toArray]); (try simp only [List.set])
              refine wpAnyN_done (by kernel_rfl) ?_ _
              go_wp2
              go_meet
              exact ⟨by simp, Hp.out w5 hb5⟩
            · go_simp
              refine hK _ _ (fun _ => hS4) ?_
              clear hK K
              (try simp only [Act.put]); (try simp only [List.setIfInBounds_toArray]); (try simp only [List.set])
              refine wpAnyN_runL 15 (by kernel_rfl) rfl (by kernel_rfl) (fun K hK => ?_)
              go_simp
              refine Hdn.out.mono ?_
              rintro e w5 ⟨rfl, hb5⟩
              have hS5 := HBW.out w5 hb5
              refine hK _ _ (fun _ => hS5) ?_
              clear hK K
              (try simp only [Act.put]); (try simp only [List.setIfInBounds_toArray]); (try simp only [List.set])
              apply wpAnyN_takeL 20 (by kernel_rfl) rfl (fun _ _ _ h => h) (by kernel_rfl) hS5
              · intro w' hS'
                go_simp; exact ⟨rfl, rfl⟩
              (try simp only [Act.put]); (try simp only [List.setIfInBounds_toArray]); (try simp only [List.set])
              apply wpAnyN_takeL 21 (by kernel_rfl) rfl (fun _ _ _ h => h) (by kernel_rfl) hS5
              · intro w' hS'
                go_simp; exact ⟨rfl, rfl⟩
              (try simp only [Act.put]); (try simp only [List.setIfInBounds_toArray]); (try simp only [List.set])
              refine wpAnyN_done (by kernel_rfl) ?_ _
              go_wp2
              go_meet
              exact ⟨by simp, Hp.out w5 hb5⟩
          case rest =>
            clear hS hM hM2 hasc hS0 HOK hU s1 s2 x0 x1 x2 x3 x4
            obtain ⟨rfl, hpu⟩ := hcut
            obtain ⟨d, b, hU, hS, hM⟩ := hpu
            have hasc := hS.asc
            have hcnt := hM.count hasc
            go_wp2_with fail
            have hL1 := u_load1 hU
            rw [hS.load] at hL1
            obtain ⟨q, hq⟩ : ∃ q, q = aLoad b := ⟨_, rfl⟩
            rw [← hq] at hL1
            have HQ := Lib.hid hq
            clear hq
            refine hL1.mono ?_
            rintro e w1 ⟨A3, c3, rfl, hs3, hl3, hb3⟩
            clear hL1
            have hU1 := hU.below hb3
            go_wp2_with fail
            obtain ⟨X1, hX1⟩ : ∃ X, X = w1.alloc (.cells #[.int .i64 q.1.wal, .int .i64 q.1.next, .int .u64 q.1.seq, .int .i64 q.1.mark, .slice A3 q.1.segs.length c3] 25) := ⟨_, rfl⟩
            change Calls _ _ _ (w1.alloc (.cells #[.int .i64 q.1.wal, .int .i64 q.1.next, .int .u64 q.1.seq, .int .i64 q.1.mark, .slice A3 q.1.segs.length c3] 25)) _
            rw [← hX1]
            have hbX1 : Below w1.heap.size w1 X1 := by rw [hX1]; exact (Below.refl _ _).alloc (Nat.le_refl _) _
            have kX1 : Blk X1 w1.heap.size 25 (mCells q.1 A3 c3) := by rw [hX1]; exact Blk.new w1 _ _
            have sg1 : Segs X1 X1.heap.size A3 q.1.segs.length q.1.segs := Row.of_own (own_below hs3 hbX1)
            have hUX1 := hU1.below hbX1
            clear hX1 hs3 hU1 hb3 hU hbX1
            have hL2 := u_load2 hUX1 hasc hM
            rw [← HQ.out] at hL2
            refine hL2.mono ?_
            rintro e w2 ⟨A4, c4, rfl, hs4, hl4, hb4⟩
            clear hL2 HQ
            have kX2 := kX1.below hb4 kX1.lt
            have sg2 := (sg1.below hb4).more hb4.size
            have hU2 := hUX1.below hb4
            clear kX1 sg1 hUX1 hb4
            go_upto_region 18 with fail
            obtain ⟨X2, hX2⟩ : ∃ X, X = w2.alloc (.cells #[.int .i64 q.1.wal, .int .i64 q.1.next, .int .u64 q.1.seq, .int .i64 q.1.mark, .slice A4 q.1.segs.length c4] 25) := ⟨_, rfl⟩
            rw [← hX2]
            have hbX2 : Below w2.heap.size w2 X2 := by rw [hX2]; exact (Below.refl _ _).alloc (Nat.le_refl _) _
            have kY2 : Blk X2 w2.heap.size 25 (mCells q.1 A4 c4) := by rw [hX2]; exact Blk.new w2 _ _
            have kX3 := kX2.below hbX2 kX2.lt
            have sg3 := (sg2.below hbX2).more hbX2.size
            have sg4 : Segs X2 X2.heap.size A4 q.1.segs.length q.1.segs := Row.of_own (own_below hs4 hbX2)
            have hU3 := hU2.below hbX2
            clear hX2 hs4 hU2 hbX2 kX2 sg2
            have p0 := kX3.cell 0; have p1 := kX3.cell 1; have p2 := kX3.cell 2; have p3 := kX3.cell 3; have p4 := kX3.cell 4
            have r0 := kY2.cell 0; have r1 := kY2.cell 1; have r2 := kY2.cell 2; have r3 := kY2.cell 3; have r4 := kY2.cell 4
            simp only [mCells, List.getElem?_cons_zero, List.getElem?_cons_succ] at p0 p1 p2 p3 p4 r0 r1 r2 r3 r4
            go_wp2_with fail
            refine (rSame q.1 A3 A4 c3 c4 X2.heap.size X2 sg3 sg4 (Nat.le_refl _) hl3).mono ?_
            rintro e w3 ⟨rfl, hb5⟩
            have hU4 := hU3.below hb5
            clear p0 p1 p2 p3 p4 r0 r1 r2 r3 r4 kX3 kY2 sg3 sg4 hU3 hb5
            have hof := u_off hU4
            go_upto_if 109 with fail
            go_cut [] (fun wx => PU w wx g mp gr)
            case first =>
              have hdl : d.fs.length ≤ 10 := by rw [hS.len]; omega
              cases hbd : b.dn with
              | false =>
                rw [hbd] at hof
                clear hbd
                go_wp2
                go_meet
                exact ⟨d, b, hU4, hS, hM⟩
              | true =>
                rw [hbd] at hof
                have Hbd := Lib.hid hbd
                clear hbd
                have hmul : IntKind.i64.wrap (2 * (i : Int)) = 2 * (i : Int) := IntWalk.i64_in _ ⟨by omega, by omega⟩
                have hin : ∀ k ∈ [(i : Int), 2 * (i : Int)], in64 k := by
                  simp only [List.mem_cons, List.not_mem_nil, or_false]
                  rintro k (rfl | rfl) <;> (unfold in64; omega)
                have Hin := Lib.hid hin
                clear hin
                have hbZ : Below w3.heap.size w3 (w3.alloc (.cells #[.int .i64 i, .int .i64 (2 * (i : Int))] 3)) := (Below.refl _ _).alloc (Nat.le_refl _) _
                go_wp2_with fail
                refine (u_rst1 [(i : Int), 2 * (i : Int)] (some ⟨w3.heap.size, 0, none⟩) 2 hU4 hbZ ((row_new w3 3 [.int .i64 (i : Int), .int .i64 (2 * (i : Int))]).more (by simp)) (fun k off e => by simp only [Option.some.injEq, Addr.mk.injEq, and_true] at e; omega) (by simp) Hin.out hdl).mono ?_
                rintro e w5 ⟨rfl, hU5⟩
                have hbY : Below w5.heap.size w5 (w5.alloc (.cells #[.int .i64 i, .int .i64 (2 * (i : Int))] 3)) := (Below.refl _ _).alloc (Nat.le_refl _) _
                clear hof hbZ
                go_wp2_with fail
                refine (u_rst2 [(i : Int), 2 * (i : Int)] (some ⟨w5.heap.size, 0, none⟩) 2 hU5 hbY ((row_new w5 3 [.int .i64 (i : Int), .int .i64 (2 * (i : Int))]).more (by simp)) (fun k off e => by simp only [Option.some.injEq, Addr.mk.injEq, and_true] at e; omega) (by simp) Hin.out (by omega)).mono ?_
                rintro e w6 ⟨rfl, hU6⟩
                have hS6 := hS.restart [(i : Int), 2 * (i : Int)]
                have hM6 := hM.restart [(i : Int), 2 * (i : Int)]
                clear hU5 hbY Hin hmul Hbd
                go_wp2
                go_meet
                exact ⟨_, _, hU6, hS6, hM6⟩
            case rest =>
              clear hof hU4 hS hM hasc hcnt d b
              obtain ⟨d, b, hU, hS, hM⟩ := hcut
              have hcnt := hM.count hS.asc
              have hkeys := keys_bList hM
              have hL1 := u_list1 hU (by rw [hS.len]; omega)
              rw [hS.list] at hL1
              have hL2 : ∀ w', Below wc.heap.size wc w' → _ := fun w' h => u_list2 (hU.below h) (by omega)
              have hlen0 : (bList b).1.length ≤ 2 := by unfold bList; split <;> simp <;> omega
              have hrd1 := fun nm w' (h : Below wc.heap.size wc w') => u_read1 nm (hU.below h)
              have hrd2 := fun nm w' (h : Below wc.heap.size wc w') (hl : (nmS nm).size ≤ 140737488355328) => u_read2 nm (hU.below h) hl (by omega)
              obtain ⟨l, hl⟩ : ∃ l, l = (bList b).1 := ⟨_, rfl⟩
              obtain ⟨le, hle⟩ : ∃ l, l = (bList b).2 := ⟨_, rfl⟩
              rw [← hl] at hL1 hkeys hlen0
              rw [← hle] at hL1
              have HL2 := Lib.hid (show ∀ w', Below wc.heap.size wc w' → Calls Try.prog 42 #[.pointer (some ⟨gr, 0, none⟩)] w' fun e w'' => (∃ A c, e = .returned (.tuple #[.slice A l.length c, .int .i64 le]) ∧ w''.ownsRow w'.heap.size 9 1 (.slice A l.length c) l.length (l.map strV)) ∧ Below w'.heap.size w' w'' from fun w' h => by rw [hl, hle]; exact hL2 w' h)
              have HR1 := Lib.hid hrd1
              have HR2 := Lib.hid (show ∀ nm w', Below wc.heap.size wc w' → (nmS nm).size ≤ 140737488355328 → Calls Try.prog 43 #[.pointer (some ⟨gr, 0, none⟩), .string (nmS nm)] w' fun e w'' => (∃ A c, e = .returned (.tuple #[.slice A (aRead nm d).1.length c, .int .i64 (aRead nm d).2]) ∧ Bytes w'' w''.heap.size A (aRead nm d).1.length (aRead nm d).1 ∧ (aRead nm d).1.length ≤ c) ∧ Below w'.heap.size w' w'' from fun nm w' h hl => by rw [hS.read nm]; exact hrd2 nm w' h hl)
              have HK := Lib.hid hkeys
              have HP := Lib.hid (show ∀ w', Below wc.heap.size wc w' → PU w w' g mp gr from fun w' h => ⟨d, b, hU.below h, hS, hM⟩)
              clear hl hle hL2 hrd1 hrd2 hkeys hS hM hcnt hU
              go_wp2_with fail
              refine hL1.mono ?_
              rintro e w1 ⟨A3, c3, rfl, hs3, hb1⟩
              clear hL1
              go_wp2_with fail
              refine (HL2.out w1 hb1).mono ?_
              rintro e w2 ⟨⟨A4, c4, rfl, hs4⟩, hb2⟩
              have hb02 := hb1.trans (hb2.mono hb1.size)
              have row3 : Row w2 w2.heap.size 1 A3 l.length (l.map strV) := Row.of_own (own_below hs3 hb2)
              have row4 : Row w2 w2.heap.size 1 A4 l.length (l.map strV) := Row.of_own hs4
              clear hs3 hs4 hb1 hb2 HL2
              go_wp2_with fail
              go_loopw [16] (fun v wr => ∃ (k : Nat), k ≤ l.length ∧ v = .int .i64 k ∧ Below w2.heap.size w2 wr) (fun v _ => l.length - (intOf v).toNat)
              case atStart => exact ⟨0, by omega, rfl, Below.refl _ _⟩
              case round =>
                obtain ⟨k, hk, rfl, hbk⟩ := hrel
                obtain ⟨wp, rfl⟩ : ∃ wp : World, wp = wr := ⟨_, rfl⟩
                by_cases hkl : (k : Int) < l.length
                · have hkl' : k < l.length := by omega
                  obtain ⟨bn, on, rfl, hbn, hcn⟩ := row3.at_ (k := k) hkl'
                  obtain ⟨bm, om, rfl, hbm, hcm⟩ := row4.at_ (k := k) hkl'
                  have n0 : ∀ w', Below w2.heap.size w2 w' → w'.cell? ⟨bn, on + k, none⟩ = some (.string (nmS l[k])) := fun w' h => by
                    rw [h.cell (p := ⟨bn, on + k, none⟩) hbn, hcn k (by simpa using hkl')]; simp [strV, nmS]
                  have m0 : ∀ w', Below w2.heap.size w2 w' → w'.cell? ⟨bm, om + k, none⟩ = some (.string (nmS l[k])) := fun w' h => by
                    rw [h.cell (p := ⟨bm, om + k, none⟩) hbm, hcm k (by simpa using hkl')]; simp [strV, nmS]
                  have hnm := HK.out _ (List.getElem_mem hkl')
                  obtain ⟨nm, hnme⟩ : ∃ x, x = l[k] := ⟨_, rfl⟩
                  rw [← hnme] at n0 m0 hnm
                  clear hnme hcn hcm
                  have n1 := n0 wp hbk
                  have hbw := hb02.trans (hbk.mono hb02.size)
                  have Hnm := Lib.hid hnm
                  clear hnm
                  go_wp2_with fail
                  refine (HR1.out nm wp hbw).mono ?_
                  rintro e w5 ⟨A5, c5, rfl, hs5, hb5⟩
                  have hbk5 := hbk.trans (hb5.mono hbk.size)
                  have m1 := m0 w5 hbk5
                  clear n1
                  go_wp2_with fail
                  refine (HR2.out nm w5 (hb02.trans (hbk5.mono hb02.size)) Hnm.out).mono ?_
                  rintro e w6 ⟨⟨A6, c6, rfl, row6, _⟩, hb6⟩
                  have hbk6 := hbk5.trans (hb6.mono hbk5.size)
                  have row5 : Bytes w6 w6.heap.size A5 (aRead nm d).1.length (aRead nm d).1 := Row.of_own (own_below hs5 hb6)
                  obtain ⟨t, ht⟩ : ∃ t, t = (aRead nm d).1 := ⟨_, rfl⟩
                  rw [← ht] at row5 row6 ⊢
                  clear ht m1 hs5 hb5 hb6
                  have cv1 : ∀ w', Below w6.heap.size w6 w' → ∀ c', (convert 26 9 (.slice A5 t.length c')).run Try.prog w' = .ok (.string (nmS t)) w' := fun w' h c' => run_str (row5.below h)
                  have cv2 : ∀ w', Below w6.heap.size w6 w' → ∀ c', (convert 26 9 (.slice A6 t.length c')).run Try.prog w' = .ok (.string (nmS t)) w' := fun w' h c' => run_str (row6.below h)
                  have n6 : ∀ w', Below w6.heap.size w6 w' → w'.cell? ⟨bn, on + k, none⟩ = some (.string (nmS nm)) := fun w' h => n0 w' (hbk6.trans (h.mono hbk6.size))
                  have m6 : ∀ w', Below w6.heap.size w6 w' → w'.cell? ⟨bm, om + k, none⟩ = some (.string (nmS nm)) := fun w' h => m0 w' (hbk6.trans (h.mono hbk6.size))
                  have hT : Below w6.heap.size w6 w6.drew := (Below.refl _ _).drew
                  have hk0 : (0 : Int) ≤ (k : Int) := by omega
                  clear n0 m0 row5 row6
                  go_upto_region 32 with fail
                  refine wp_region_N (fun w' => Below w6.heap.size w6 w') 100 (by kernel_rfl) ?_
                  apply wpAnyN_takeL 0 (by kernel_rfl) rfl (fun _ _ _ h => h) (by kernel_rfl) hT
                  · intro w' hS'
                    go_simp; exact ⟨rfl, rfl⟩
                  (try simp only [Act.put]); (try simp only [List.setIfInBounds_toArray]); (try simp only [List.set])
                  apply wpAnyN_takeL 1 (by kernel_rfl) rfl (fun _ _ _ h => h) (by kernel_rfl) hT
                  · intro w' hS'
                    go_simp; exact ⟨rfl, rfl⟩
                  (try simp only [Act.put]); (try simp only [List.setIfInBounds_toArray]); (try simp only [List.set])
                  apply wpAnyN_takeL 2 (by kernel_rfl) rfl (fun _ _ _ h => h) (by kernel_rfl) hT
                  · intro w' hS'
                    go_simp; exact ⟨rfl, rfl⟩
                  (try simp only [Act.put]); (try simp only [List.setIfInBounds_toArray]); (try simp only [List.set])
                  apply wpAnyN_takeL 3 (by kernel_rfl) rfl (fun _ _ _ h => h) (by kernel_rfl) hT
                  · intro w' hS'
                    go_simp; exact ⟨rfl, rfl⟩
                  (try simp only [Act.put]); (try simp only [List.setIfInBounds_toArray]); (try simp only [List.set])
                  apply wpAnyN_takeL 4 (by kernel_rfl) rfl (fun _ _ _ h => h) (by kernel_rfl) hT
                  · intro w' hS'
                    go_simp; exact ⟨rfl, rfl⟩
                  (try simp only [Act.put]); (try simp only [List.setIfInBounds_toArray]); (try simp only [List.set])
                  apply wpAnyN_takeL 5 (by kernel_rfl) rfl (fun _ _ _ h => h) (by kernel_rfl) hT
                  · intro w' hS'
                    go_simp; exact ⟨rfl, rfl⟩
                  (try simp only [Act.put]); (try simp only [List.setIfInBounds_toArray]); (try simp only [List.set])
                  apply wpAnyN_takeL 6 (by kernel_rfl) rfl (fun _ _ _ h => h) (by kernel_rfl) hT
                  · intro w' hS'
                    go_simp; exact ⟨rfl, rfl⟩
                  (try simp only [Act.put]); (try simp only [List.setIfInBounds_toArray]); (try simp only [List.set])
                  apply wpAnyN_takeL 7 (by kernel_rfl) rfl (fun _ _ _ h => h) (by kernel_rfl) hT
                  · intro w' hS'
                    go_simp; exact ⟨rfl, rfl⟩
                  (try simp only [Act.put]); (try simp only [List.setIfInBounds_toArray]); (try simp only [List.set])
                  apply wpAnyN_takeL 8 (by kernel_rfl) rfl (fun _ _ _ h => h) (by kernel_rfl) hT
                  · intro w' hS'
                    go_simp; exact ⟨rfl, rfl⟩
                  (try simp only [Act.put]); (try simp only [List.setIfInBounds_toArray]); (try simp only [List.set])
                  apply wpAnyN_takeL 9 (by kernel_rfl) rfl (fun _ _ _ h => h) (by kernel_rfl) hT
                  · intro w' hS'
                    go_simp; exact ⟨rfl, rfl⟩
                  (try simp only [Act.put]); (try simp only [List.setIfInBounds_toArray]); (try simp only [List.set])
                  apply wpAnyN_takeL 10 (by kernel_rfl) rfl (fun _ _ _ h => h) (by kernel_rfl) hT
                  · intro w' hS'
                    go_simp; exact ⟨rfl, rfl⟩
                  (try simp only [Act.put]); (try simp only [List.setIfInBounds_toArray]); (try simp only [List.set])
                  apply wpAnyN_takeL 11 (by kernel_rfl) rfl (fun _ _ _ h => h) (by kernel_rfl) hT
                  · intro w' hS'
                    go_simp; exact ⟨rfl, rfl⟩
                  (try simp only [Act.put]); (try simp only [List.setIfInBounds_toArray]); (try simp only [List.set])
                  apply wpAnyN_takeL 12 (by kernel_rfl) rfl (fun _ _ _ h => h) (by kernel_rfl) hT
                  · intro w' hS'
                    go_simp; exact ⟨rfl, rfl⟩
                  (try simp only [Act.put]); (try simp only [List.setIfInBounds_toArray]); (try simp only [List.set])
                  apply wpAnyN_takeL 13 (by kernel_rfl) rfl (fun _ _ _ h => h) (by kernel_rfl) hT
                  · intro w' hS'
                    go_simp; exact ⟨rfl, rfl⟩
                  (try simp only [Act.put]); (try simp only [List.setIfInBounds_toArray]); (try simp only [List.set])
                  apply wpAnyN_takeL 14 (by kernel_rfl) rfl (fun _ _ _ h => h) (by kernel_rfl) hT
                  · intro w' hS'
                    go_simp; exact ⟨rfl, rfl⟩
                  (try simp only [Act.put]); (try simp only [List.setIfInBounds_toArray]); (try simp only [List.set])
                  apply wpAnyN_takeL 15 (by kernel_rfl) rfl (fun _ _ _ h => h) (by kernel_rfl) hT
                  · intro w' hS'
                    go_simp; exact ⟨rfl, rfl⟩
                  (try simp only [Act.put]); (try simp only [List.setIfInBounds_toArray]); (try simp only [List.set])
                  refine wpAnyN_done (by kernel_rfl) ?_ _
                  clear cv1 cv2 n6 m6
                  have hbk7 := hbk6.drew
                  go_wp2
                  go_roundw
                  case rel =>
                    first
                      | exact ⟨k + 1, by omega, by go_num, hbk7⟩
                      | ((repeat apply Exists.intro); exact ⟨⟨k + 1, by omega, by go_num, hbk7⟩, rfl⟩)
                  case measure => first | (simp [intOf]; done) | (simp [intOf]; omega)
                · have hp := HP.out wp (hb02.trans (hbk.mono hb02.size))
                  clear HK HR1 HR2 HP row3 row4
                  go_wp2
                  go_roundw
                  case rel =>
                    first
                      | exact ⟨i + 1, by omega, by go_num, hp⟩
                      | ((repeat apply Exists.intro); exact ⟨⟨i + 1, by omega, by go_num, hp⟩, rfl⟩)
                  case measure => first | (simp [intOf]; done) | (simp [intOf]; omega)
    · obtain ⟨d, b, hU, _, _⟩ := hpu
      have hb := hU.b
      clear hU
      go_wp2_with fail
      refine (pLoadNil wo).mono ?_
      rintro e w1 ⟨rfl, hb1⟩
      have hb01 := hb.trans (hb1.mono hb.size)
      go_wp2_with fail
      have hbX : Below w1.heap.size w1 (w1.alloc (manBox zeroMan none 0)) := (Below.refl _ _).alloc (Nat.le_refl _) _
      have hb0X := hb01.trans (hbX.mono hb01.size)
      refine (vSmallMan _).mono ?_
      rintro e w2 ⟨A2', rfl, hs2, hb2⟩
      have hb02 : Below w.heap.size w w2 := hb0X.trans (hb2.mono hb0X.size)
      clear hs2 hb2 hbX hb0X hb01 hb1 hb
      go_wp2_with fail
      refine (pSaveNil smallMan A2' 1 w2).mono ?_
      rintro e w3 ⟨rfl, hb3⟩
      go_wp2
      go_ret
      exact ⟨rfl, hb02.trans (hb3.mono hb02.size)⟩
end Go.Proofs.Ytmddgimadlmacaa
