import Derived.Test.YtmddgimadlmacaaMread
namespace Go.Proofs.Ytmddgimadlmacaa
open Go.RowKit Garner

set_option maxRecDepth 100000 in
set_option maxHeartbeats 4000000 in
theorem vMread3 (l : List UInt8) (A : Option Addr) (c B : Nat) (w : World) (hr : Bytes w B A l.length l) (hB : B ≤ w.heap.size) (hc : l.length ≤ c) (hl : l.length ≤ 140737488355328) (p : Bs) (hv : fread l 0 = .ok (p, l.length)) :
    Calls Try.prog 14 #[.slice A l.length c] w fun e w' => MreadPost w (mreadP l) e w' := by
  have hread := fun (o : Obj) => vRead l A c B (w.alloc o) 0 (hr.alloc hB o) (by simp; omega) hc (by omega) hl
  rw [hv] at hread
  have hpl := fread_small hv
  have hP : mreadP l = match vall p with
    | .error _ => none
    | .ok ns => if madeOk ns ∧ may (manOf smallN ns) then some (manOf smallN ns) else none := by unfold mreadP; rw [hv]; simp only [ne_eq, not_true_eq_false, ite_false]; rfl
  have Hread := Lib.hid hread; clear hread hv
  have HP := Lib.hid hP; clear hP
  go_enter Try.func14, Try.ntmps14
  go_wp2_with fail
  refine (Hread.out _).mono ?_
  rintro e w1 ⟨v, rfl, hown, hb1⟩
  simp only [World.size_alloc] at hb1 hown
  have hres : Blk w1 w.heap.size 25 [.int .i64 0, .int .i64 0, .int .u64 0, .int .i64 0, .slice none 0 0] := (Blk.new w _ _).below hb1 (by omega)
  have hbw : Below w.heap.size w w1 := ((Below.refl w.heap.size w).alloc (Nat.le_refl _) _).trans (hb1.mono (Nat.le_succ _))
  have hs1 : w.heap.size + 1 ≤ w1.heap.size := hres.lt
  obtain ⟨Ap, cp, rfl, hcp, hrow⟩ := OwnB.shapeC hown
  clear hown
  go_wp2_with fail
  go_loopw [7, 8] (fun v i wr => ∃ (acc : List Nat) (at_ : Nat), Hid (vallUpto p at_ acc ∧ acc.length ≤ at_ ∧ ∀ n ∈ acc, n < 18446744073709551616) ∧ at_ ≤ p.length ∧ i = .int .i64 at_ ∧ OwnU wr w1.heap.size v acc ∧ Below w1.heap.size w1 wr) (fun _ i _ => p.length - (intOf i).toNat)
  case atStart => exact ⟨[], 0, ⟨vallUpto_zero p, by simp, by simp⟩, by omega, rfl, World.ownsRow_nil _ _ _ _, Below.refl _ _⟩
  case round =>
    obtain ⟨acc, at_, hacc, hat, rfl, hown, hbel⟩ := hrel
    obtain ⟨wo, rfl⟩ : ∃ wo : World, wo = wr := ⟨_, rfl⟩
    have hso : w1.heap.size ≤ wo.heap.size := hbel.size
    by_cases hlt : (at_ : Int) < p.length
    · have hget := vGet p Ap cp w1.heap.size wo at_ (hrow.below hbel) hcp (by omega) (by omega)
      cases hv : vget p at_ with
      | error k =>
        rw [hv] at hget
        have hPn : Hid (mreadP l = none) := by
          show _ = _
          rw [HP.out, vallUpto_err hacc.out.1 (by omega) hv]
        have hk' : ((k : Int) != 0) = true := by rw [bne_iff_ne]; have := vget_err hv; omega
        have Hget := Lib.hid hget; clear hget hv
        have hres' : Blk wo w.heap.size 25 _ := hres.below hbel (by omega)
        have v0 := hres'.frozen 0; have v1 := hres'.frozen 1; have v2 := hres'.frozen 2; have v3 := hres'.frozen 3; have v4 := hres'.frozen 4
        have r0 := hres'.cell 0; have r1 := hres'.cell 1; have r2 := hres'.cell 2; have r3 := hres'.cell 3; have r4 := hres'.cell 4
        simp only [List.getElem?_cons_zero, List.getElem?_cons_succ] at r0 r1 r2 r3 r4
        have hbo : Below w.heap.size w wo := hbw.trans (hbel.mono (by omega))
        go_wp2_with fail
        refine Hget.out.mono ?_
        rintro e w2 ⟨rfl, rfl⟩
        simp only [vgetV]
        go_wp2
        refine bodyPost_ret (v := .tuple #[manZ, .int .i64 30]) (by simp [results, Try.results14, go_sem, manZ, *]) rfl ?_
        rw [hPn.out]
        refine ⟨rfl, ?_⟩
        exact below_set5 hbo (Nat.le_refl _) _ _ _ _ _
      | ok q =>
        obtain ⟨n, nx⟩ := q
        rw [hv] at hget
        have hgo := vget_ok hv
        have hpos := put1_pos n
        have hup := vallUpto_step hacc.out.1 (by omega) hv
        have hal := hacc.out.2.1
        have hrel' : Hid (vallUpto p nx (acc ++ [n]) ∧ (acc ++ [n]).length ≤ nx ∧ ∀ m ∈ acc ++ [n], m < 18446744073709551616) := by
          refine ⟨hup, by rw [List.length_append, List.length_singleton]; omega, fun m hm => ?_⟩
          rcases List.mem_append.1 hm with h | h
          · exact hacc.out.2.2 m h
          · rw [List.mem_singleton.1 h]; exact hgo.1
        have hnx : nx ≤ p.length := hgo.2.2.2
        have hnx2 : at_ < nx := by omega
        have hn0 : (n : Int) ≤ 18446744073709551615 := by omega
        have Hal : Hid (acc.length ≤ at_) := hal
        have Hget := Lib.hid hget; clear hget hv hgo hpos hup hal
        go_wp2_with fail
        refine Hget.out.mono ?_
        rintro e w2 ⟨rfl, rfl⟩
        simp only [vgetV]
        have hrn : Row (wo.alloc (.cells #[.int .u64 n] 22)) (wo.heap.size + 1) 1 (some ⟨wo.heap.size, 0, none⟩) 1 [u64v n] := row_new wo 22 [u64v n]
        go_wp2_with (at_builtin; refine wpList_app _ rfl u64E rfl rfl (hown.alloc _) rfl hrn (u64v_one [n]) (by have := Hal.out; omega) (by simp; omega) ?_; intro v4 w4 hown4 hg4 hb4 _)
        go_roundw
        case rel =>
          have hfin : OwnU w4 w1.heap.size v4 (acc ++ [n]) := by simpa [OwnU] using hown4
          have hbf : Below w1.heap.size w1 w4 := (hbel.alloc hso _).trans hb4
          first
            | exact ⟨acc ++ [n], nx, hrel', hnx, by go_num, hfin, hbf⟩
            | ((repeat apply Exists.intro); exact ⟨⟨acc ++ [n], nx, hrel', hnx, by go_num, hfin, hbf⟩, rfl⟩)
        case measure => simp [intOf]; omega
    · obtain ⟨A3, c3, rfl, hrow3⟩ := OwnU.shape hown
      have hPs := HP.out
      rw [vallUpto_end hacc.out.1 (by omega)] at hPs
      simp only [] at hPs
      have hn := hacc.out.2.2
      have hl3 : acc.length ≤ 100000 := by have := hacc.out.2.1; omega
      have hbo : Below w.heap.size w wo := hbw.trans (hbel.mono (by omega))
      have hres' : Blk wo w.heap.size 25 _ := hres.below hbel (by omega)
      clear hown hbel hres hbw hrow hb1 HP Hread hacc
      by_cases hm : madeOk acc
      · have hcall := vMade_ok acc A3 c3 wo.heap.size wo hrow3 (Nat.le_refl _) hn hl3 hm
        have hwf := manOf_wf smallN_in hn
        have hsl2 : (manOf smallN acc).segs.length ≤ 140737488355328 := by
          have hsl := segsOf_len smallN (acc.drop 5)
          show (segsOf smallN (acc.drop 5)).length ≤ _
          rw [List.length_drop] at hsl; omega
        have hP2 : mreadP l = if may (manOf smallN acc) then some (manOf smallN acc) else none := by rw [hPs]; simp only [hm, true_and]
        clear hPs
        generalize manOf smallN acc = m at *
        have Hcall := Lib.hid hcall
        have HP := Lib.hid hP2
        have Hwf := Lib.hid hwf
        clear hcall hP2 hwf hn hm hrow3
        go_wp2_with fail
        refine Hcall.out.mono ?_
        clear Hcall
        rintro e w3 ⟨v3, rfl, hown3, hb3⟩
        obtain ⟨A4, c4, rfl⟩ := own_slice hown3
        go_wp2_with fail
        have hs3 : wo.heap.size ≤ w3.heap.size := hb3.size
        have hres3 : Blk w3 w.heap.size 25 _ := hres'.below hb3 (by have := hres'.lt; omega)
        have hs4 : w.heap.size + 1 ≤ w3.heap.size := hres3.lt
        obtain ⟨X, hX⟩ : ∃ X, X = w3.alloc (manBox m A4 c4) := ⟨_, rfl⟩
        rw [← hX]
        have hbX : Below w3.heap.size w3 X := by rw [hX]; exact (Below.refl _ _).alloc (Nat.le_refl _) _
        have hblk : Blk X w3.heap.size 25 [.int .i64 m.wal, .int .i64 m.next, .int .u64 m.seq, .int .i64 m.mark, .slice A4 m.segs.length c4] := by rw [hX]; exact Blk.new _ _ _
        clear hX
        have hownX := own_below hown3 hbX
        refine (vMay m A4 c4 X.heap.size X (Row.of_own hownX) (Nat.le_refl _) Hwf.out hsl2).mono ?_
        rintro e w5 ⟨rfl, hb5⟩
        have hsX : w3.heap.size + 1 ≤ X.heap.size := hblk.lt
        have hres5 : Blk w5 w.heap.size 25 _ := (hres3.below hbX (by omega)).below hb5 (by omega)
        have hblk5 := hblk.below hb5 (by omega)
        have hown5 := own_below hownX hb5
        have hb05 : Below w.heap.size w w5 := ((hbo.trans (hb3.mono (by omega))).trans (hbX.mono (by omega))).trans (hb5.mono (by omega))
        have k0 := hblk5.cell 0; have k1 := hblk5.cell 1; have k2 := hblk5.cell 2; have k3 := hblk5.cell 3; have k4 := hblk5.cell 4
        have v0 := hres5.frozen 0; have v1 := hres5.frozen 1; have v2 := hres5.frozen 2; have v3 := hres5.frozen 3; have v4 := hres5.frozen 4
        have r0 := hres5.cell 0; have r1 := hres5.cell 1; have r2 := hres5.cell 2; have r3 := hres5.cell 3; have r4 := hres5.cell 4
        simp only [List.getElem?_cons_zero, List.getElem?_cons_succ] at r0 r1 r2 r3 r4 k0 k1 k2 k3 k4
        have HP' := HP.out
        clear HP
        by_cases hmay : may m
        · rw [if_pos hmay] at HP'
          rw [decide_eq_true hmay]
          have HP := Lib.hid HP'
          clear HP' hmay
          go_wp2
          refine bodyPost_ret (v := .tuple #[manV m A4 c4, .int .i64 0]) (by simp [results, Try.results14, go_sem, *]) rfl ?_
          rw [HP.out]
          refine ⟨A4, c4, rfl, ?_, below_set5 hb05 (Nat.le_refl _) _ _ _ _ _⟩
          refine own_mono (B := w.heap.size + 1) ?_ (by omega)
          repeat' refine ownsRow_setCell_below ?_ (by show w.heap.size < _; omega) _
          exact own_mono hown5 (by omega)
        · rw [if_neg hmay] at HP'
          rw [decide_eq_false hmay]
          have HP := Lib.hid HP'
          clear HP' hmay
          go_wp2
          refine bodyPost_ret (v := .tuple #[manZ, .int .i64 30]) (by simp [results, Try.results14, go_sem, manZ, *]) rfl ?_
          rw [HP.out]
          exact ⟨rfl, below_set5 hb05 (Nat.le_refl _) _ _ _ _ _⟩
      · have hcall := vMade_no acc A3 c3 wo.heap.size wo hrow3 (Nat.le_refl _) hl3 hm
        have hP2 : mreadP l = none := by rw [hPs]; simp only [hm, false_and, if_false]
        clear hPs
        have Hcall := Lib.hid hcall
        have HP := Lib.hid hP2
        clear hcall hP2 hn hm hrow3
        go_wp2_with fail
        refine Hcall.out.mono ?_
        clear Hcall
        rintro e w3 ⟨rfl, hb3⟩
        simp only [manZ]
        have hres3 : Blk w3 w.heap.size 25 _ := hres'.below hb3 (by have := hbo.size; have := hres'.lt; omega)
        have hs3 : w.heap.size + 1 ≤ w3.heap.size := hres3.lt
        have hres4 : ∀ o : Obj, Blk (w3.alloc o) w.heap.size 25 _ := fun o => hres3.alloc o
        have v0 := fun o => (hres4 o).frozen 0; have v1 := fun o => (hres4 o).frozen 1; have v2 := fun o => (hres4 o).frozen 2; have v3 := fun o => (hres4 o).frozen 3; have v4 := fun o => (hres4 o).frozen 4
        have r0 := fun o => (hres4 o).cell 0; have r1 := fun o => (hres4 o).cell 1; have r2 := fun o => (hres4 o).cell 2; have r3 := fun o => (hres4 o).cell 3; have r4 := fun o => (hres4 o).cell 4
        simp only [List.getElem?_cons_zero, List.getElem?_cons_succ] at r0 r1 r2 r3 r4
        go_wp2
        refine bodyPost_ret (v := .tuple #[manZ, .int .i64 30]) (by simp [results, Try.results14, go_sem, manZ, *]) rfl ?_
        rw [HP.out]
        refine ⟨rfl, ?_⟩
        exact below_set5 ((hbo.trans (hb3.mono (by omega))).alloc (by omega) _) (Nat.le_refl _) _ _ _ _ _
end Go.Proofs.Ytmddgimadlmacaa
