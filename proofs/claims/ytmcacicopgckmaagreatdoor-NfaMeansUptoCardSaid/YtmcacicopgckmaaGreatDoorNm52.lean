import Derived.Test.YtmcacicopgckmaaGreatDoorNm51
import Derived.Test.YtmcacicopgckmaaGreatDoorNm43
import Derived.Test.YtmcacicopgckmaaGreatDoorNm15
import Derived.Test.YtmcacicopgckmaaGreatDoorNm01
import Derived.Test.YtmcacicopgckmaaGreatDoorNm42
/-! nfa: Part -/
namespace Go.Proofs.YtmcacicopgckmaaGreatDoor
open Go.RowKit Garner
set_option maxRecDepth 100000 in
set_option maxHeartbeats 16000000 in
theorem vPart (t : Re) (b : Nat) (w : World) (hm : MatIs w b t) (l : Bs) :
    Calls Tryz.prog 18 #[.pointer (some ⟨b, 0, none⟩), str l] w fun e w' => e = .returned (.bool (partB t (runesP l))) ∧ Below w.heap.size w w' := by
  obtain ⟨W0, B, L, g, hb, hp, h0, hgt⟩ := hm
  have cb : w.cell? ⟨b, 0, none⟩ = some (.pointer (some ⟨g, 0, none⟩)) := hb.cell 0
  have hs := vStart hgt.prog g w hp
  have hsz := str_size l
  obtain ⟨rs, hrs⟩ : ∃ rs, runesP l = rs := ⟨_, rfl⟩
  have HS := Lib.hid hs; have HB := Lib.hid hb; have HP := Lib.hid hp; have H0 := Lib.hid h0; have HG := Lib.hid hgt; have Hsz := Lib.hid hsz; have Hrs := Lib.hid hrs
  obtain ⟨S, hS⟩ : ∃ S : ByteArray, S = ⟨l.toArray⟩ := ⟨_, rfl⟩
  have estr : str l = .string S := by rw [hS]
  rw [estr, hrs]
  have HSS := Lib.hid hS
  clear hs hb hp h0 hgt hsz hrs hS estr
  go_enter Tryz.func18, Tryz.ntmps18
  go_wp2_with fail
  refine HS.out.mono ?_
  rintro e w1 ⟨v, rfl, own1, hb1⟩
  obtain ⟨n1, hn1⟩ : ∃ n1, (startR (progR t)).length = n1 := ⟨_, rfl⟩
  rw [hn1] at own1
  obtain ⟨A1, c1, rfl, -⟩ := own_form own1
  have hl0 := LoopS.start (l := l) (find := true) own1 hn1 hb1
  rw [← HSS.out, Hrs.out] at hl0
  have HL0 := Lib.hid hl0; have HB1 := Lib.hid hb1
  clear own1 hn1 hl0 hb1
  go_wp2
  go_loopw [7] (fun _ wr => ∃ pos k A n c fb st, Hid (LoopS w wr w1.heap.size (w1.heap.size + 1) l rs (progR t) true pos k A n c fb st) ∧ Hid (∀ m, m < k → ¬ MatR (progR t) (runR (progR t) true rs m))) (fun _ wr => l.length - wr.iterPos (w1.heap.size + 1))
  case atStart => exact ⟨0, 0, A1, n1, c1, true, _, HL0, Lib.hid (fun m h => absurd h (Nat.not_lt_zero m))⟩
  case round =>
    obtain ⟨pos, k, A, n, c, fb, st, hlo, hno⟩ := hrel
    have hit := hlo.out.it
    rw [← HSS.out] at hit
    have hsz := Hsz.out
    rw [← HSS.out] at hsz
    have hnl := hlo.out.nle HG.out.prog
    by_cases hpos : pos < l.length
    · obtain ⟨r, q', hde, hq1, hr, hrun⟩ := iter_next l pos hpos
      have hnx : ∀ ty, (Instr.next (.pointer (some ⟨w1.heap.size + 1, 0, none⟩)) true ty).run Tryz.prog wr = _ := fun ty => Lib.run_next_any_at wr (w1.heap.size + 1) S pos ty hit (by omega)
      rw [HSS.out, hde] at hnx
      obtain ⟨Y, hY⟩ : ∃ Y, Y = wr.iterAt (w1.heap.size + 1) ⟨l.toArray⟩ (pos + q') := ⟨_, rfl⟩
      rw [← hY] at hnx
      have hsY : Y.heap.size = wr.heap.size := by rw [hY]; exact Lib.iterAt_size _ _ _ _
      have hwY : Below w.heap.size w Y := by rw [hY]; exact Lib.below_iterAt hlo.out.low hlo.out.kB _ _
      have oY := own_iterAt (pos' := pos + q') hlo.out.own hlo.out.it
      have bY := hlo.out.blk.iterAt (pos' := pos + q') hlo.out.it
      rw [← hY] at oY bY
      have mY : Blk Y b 60 [.pointer (some ⟨g, 0, none⟩)] := HB.out.below hwY HB.out.lt
      have hrk := (hlo.out.at_.next hrun).1
      have hplA : PlainA A c := PlainA.of_own hlo.out.own
      have hmat := vMatches HG.out.prog st hlo.out.lt A n c hlo.out.len (by omega) hplA fb false g Y.drew ((RowT.of_own oY).below (Below.refl _ _).drew) (HP.out.below hwY.drew)
      obtain ⟨mb, hmb⟩ : ∃ mb, matB (progR t) st fb false = mb := ⟨_, rfl⟩
      rw [hmb] at hmat
      have hfound : mb = true → partB t rs = true := fun e => hlo.out.found HG.out.ok hrk (by rw [hmb, e])
      have hnot : mb = false → ∀ m, m < k + 1 → ¬ MatR (progR t) (runR (progR t) true rs m) := fun e m hm => by
        rcases Nat.lt_or_ge m k with h | h
        · exact hno.out m h
        · obtain rfl : m = k := by omega
          rw [← hlo.out.eq]
          intro hx
          have : matB (progR t) st fb false = true := by rw [matB_iff, if_neg (by simp)]; exact hx
          rw [hmb, e] at this
          cases this
      have HMat := Lib.hid hmat; have HFound := Lib.hid hfound; have HNot := Lib.hid hnot; have HwY := Lib.hid hwY; have OY := Lib.hid oY; have HY := Lib.hid hY; have Hrun := Lib.hid hrun; have HsY := Lib.hid hsY
      have sS : Blk Y.drew b 60 [.pointer (some ⟨g, 0, none⟩)] ∧ Blk Y.drew w1.heap.size 70 [.slice A n c, .bool fb] := ⟨mY.drew, bY.drew⟩
      clear hmat hfound hnot hmb hrk hplA hY hrun hsY hwY oY bY mY hde hit hsz hno
      go_upto_region 7 with fail
      refine wp_region_N (fun w' => Blk w' b 60 [.pointer (some ⟨g, 0, none⟩)] ∧ Blk w' w1.heap.size 70 [.slice A n c, .bool fb]) 100 (by kernel_rfl) ?_
      apply wpAnyN_takeL 0 (by kernel_rfl) rfl (fun _ _ _ h => h) (by kernel_rfl) sS
      · intro w' hS'
        go_simp; exact ⟨rfl, rfl⟩
      (try simp only [Act.put]); (try simp only [List.setIfInBounds_toArray]); (try simp only [List.set])
      apply wpAnyN_takeL 1 (by kernel_rfl) rfl (fun _ _ _ h => h) (by kernel_rfl) sS
      · intro w' hS'
        go_simp; exact ⟨rfl, rfl⟩
      (try simp only [Act.put]); (try simp only [List.setIfInBounds_toArray]); (try simp only [List.set])
      apply wpAnyN_takeL 2 (by kernel_rfl) rfl (fun _ _ _ h => h) (by kernel_rfl) sS
      · intro w' hS'
        go_simp; exact ⟨rfl, rfl⟩
      (try simp only [Act.put]); (try simp only [List.setIfInBounds_toArray]); (try simp only [List.set])
      apply wpAnyN_takeL 3 (v := (.pointer (some ⟨g, 0, none⟩))) (by kernel_rfl) rfl (fun _ _ _ h => h) (by kernel_rfl) sS
      · intro w' hS'
        (have hk : w'.cell? ⟨b, 0, none⟩ = some (.pointer (some ⟨g, 0, none⟩)) := hS'.1.cell 0; go_simp; exact ⟨rfl, rfl⟩)
      (try simp only [Act.put]); (try simp only [List.setIfInBounds_toArray]); (try simp only [List.set])
      apply wpAnyN_takeL 4 (v := (.agg #[.slice A n c, .bool fb])) (by kernel_rfl) rfl (fun _ _ _ h => h) (by kernel_rfl) sS
      · intro w' hS'
        (have k0 : w'.cell? ⟨w1.heap.size, 0, none⟩ = some (.slice A n c) := hS'.2.cell 0; have k1 : w'.cell? ⟨w1.heap.size, 1, none⟩ = some (.bool fb) := hS'.2.cell 1; go_simp; exact ⟨rfl, rfl⟩)
      (try simp only [Act.put]); (try simp only [List.setIfInBounds_toArray]); (try simp only [List.set])
      refine wpAnyN_runL 5 (by kernel_rfl) rfl (by kernel_rfl) (fun K hK => ?_)
      go_simp
      refine HMat.out.mono ?_
      rintro e wm ⟨rfl, hbm⟩
      have sM : Blk wm b 60 [.pointer (some ⟨g, 0, none⟩)] ∧ Blk wm w1.heap.size 70 [.slice A n c, .bool fb] := ⟨sS.1.below hbm sS.1.lt, sS.2.below hbm sS.2.lt⟩
      have hYm : Below Y.heap.size Y wm := (Below.refl _ _).drew.trans hbm
      have hwm : Below w.heap.size w wm := HwY.out.trans (hYm.mono HwY.out.size)
      have om := own_below OY.out hYm
      have HYm := Lib.hid hYm; have Hwm := Lib.hid hwm; have Om := Lib.hid om
      refine hK _ _ (fun _ => sM) ?_
      clear hK K hYm hwm om hbm sS
      (try simp only [Act.put])
      refine wpAnyN_done (by kernel_rfl) ?_ _
      cases mb with
      | true =>
        have hp := HFound.out rfl
        have HPa := Lib.hid hp
        clear hp sM
        go_wp2
        go_ret
        exact ⟨by rw [HPa.out]; rfl, Hwm.out⟩
      | false =>
        have hst := vStep HG.out.prog st hlo.out.lt A n c hlo.out.len (by omega) fb r true g wm.drew ((RowT.of_own Om.out).below (Below.refl _ _).drew) (H0.out.trans (Hwm.out.drew.mono H0.out.size)) (HP.out.below Hwm.out.drew)
        have HST := Lib.hid hst
        have sS : Blk wm.drew b 60 [.pointer (some ⟨g, 0, none⟩)] ∧ Blk wm.drew w1.heap.size 70 [.slice A n c, .bool fb] := ⟨sM.1.drew, sM.2.drew⟩
        clear hst sM
        go_upto_region 9 with fail
        refine wp_region_N (fun w' => Blk w' b 60 [.pointer (some ⟨g, 0, none⟩)] ∧ Blk w' w1.heap.size 70 [.slice A n c, .bool fb]) 7 (by kernel_rfl) ?_
        apply wpAnyN_takeL 0 (by kernel_rfl) rfl (fun _ _ _ h => h) (by kernel_rfl) sS
        · intro w' hS'
          go_simp; exact ⟨rfl, rfl⟩
        (try simp only [Act.put]); (try simp only [List.setIfInBounds_toArray]); (try simp only [List.set])
        apply wpAnyN_takeL 1 (by kernel_rfl) rfl (fun _ _ _ h => h) (by kernel_rfl) sS
        · intro w' hS'
          go_simp; exact ⟨rfl, rfl⟩
        (try simp only [Act.put]); (try simp only [List.setIfInBounds_toArray]); (try simp only [List.set])
        apply wpAnyN_takeL 2 (by kernel_rfl) rfl (fun _ _ _ h => h) (by kernel_rfl) sS
        · intro w' hS'
          go_simp; exact ⟨rfl, rfl⟩
        (try simp only [Act.put]); (try simp only [List.setIfInBounds_toArray]); (try simp only [List.set])
        apply wpAnyN_takeL 3 (v := (.pointer (some ⟨g, 0, none⟩))) (by kernel_rfl) rfl (fun _ _ _ h => h) (by kernel_rfl) sS
        · intro w' hS'
          (have hk : w'.cell? ⟨b, 0, none⟩ = some (.pointer (some ⟨g, 0, none⟩)) := hS'.1.cell 0; go_simp; exact ⟨rfl, rfl⟩)
        (try simp only [Act.put]); (try simp only [List.setIfInBounds_toArray]); (try simp only [List.set])
        apply wpAnyN_takeL 4 (v := (.agg #[.slice A n c, .bool fb])) (by kernel_rfl) rfl (fun _ _ _ h => h) (by kernel_rfl) sS
        · intro w' hS'
          (have k0 : w'.cell? ⟨w1.heap.size, 0, none⟩ = some (.slice A n c) := hS'.2.cell 0; have k1 : w'.cell? ⟨w1.heap.size, 1, none⟩ = some (.bool fb) := hS'.2.cell 1; go_simp; exact ⟨rfl, rfl⟩)
        (try simp only [Act.put]); (try simp only [List.setIfInBounds_toArray]); (try simp only [List.set])
        apply wpAnyN_takeL 5 (by kernel_rfl) rfl (fun _ _ _ h => h) (by kernel_rfl) sS
        · intro w' hS'
          go_simp; exact ⟨rfl, rfl⟩
        (try simp only [Act.put]); (try simp only [List.setIfInBounds_toArray]); (try simp only [List.set])
        refine wpAnyN_runL 6 (by kernel_rfl) rfl (by kernel_rfl) (fun K hK => ?_)
        go_simp
        refine HST.out.mono ?_
        rintro e w2 ⟨v2, rfl, own2, hb2⟩
        have bm2 := sS.1.below hb2 sS.1.lt
        have bs2 := sS.2.below hb2 sS.2.lt
        obtain ⟨n', hn'⟩ : ∃ n', (stepR (progR t) true st r).length = n' := ⟨_, rfl⟩
        rw [hn'] at own2
        obtain ⟨A', c', rfl, -⟩ := own_form own2
        have hYw2 : Below wr.heap.size Y w2 := (HYm.out.trans ((Below.refl _ _).drew.trans hb2 |>.mono HYm.out.size)).mono (by rw [HsY.out]; exact Nat.le_refl _)
        rw [HY.out] at hYw2
        have hq : w.heap.size ≤ w1.heap.size := HB1.out.size
        have own2' : w2.ownsRow wr.heap.size 3 1 (.slice A' n' c') n' ((stepR (progR t) true st r).map iv) := own_mono own2 (by show wr.heap.size ≤ wm.heap.size; have := HYm.out.size; rw [HsY.out] at this; exact this)
        have hnew := hlo.out.step hq Hrun.out hYw2 own2' hn'
        have hmeas : l.length - (pos + q') < l.length - pos := by omega
        have hit2 : ((w2.setCell ⟨w1.heap.size, 0, none⟩ (.slice A' n' c')).setCell ⟨w1.heap.size, 1, none⟩ (.bool false)).iterPos (w1.heap.size + 1) = pos + q' := by simp only [World.iterPos, hnew.it]
        have hit1 : wr.iterPos (w1.heap.size + 1) = pos := by simp only [World.iterPos, hlo.out.it]
        have HNew := Lib.hid hnew; have HIt2 := Lib.hid hit2; have HIt1 := Lib.hid hit1
        have sT : Blk w2 b 60 [.pointer (some ⟨g, 0, none⟩)] ∧ Blk w2 w1.heap.size 70 [.slice A n c, .bool fb] := ⟨bm2, bs2⟩
        have c0 : w2.cell? ⟨w1.heap.size, 0, none⟩ = some (.slice A n c) := bs2.cell 0
        have c1' : w2.cell? ⟨w1.heap.size, 1, none⟩ = some (.bool fb) := bs2.cell 1
        have f0 := bs2.frozen 0
        have f1 := bs2.frozen 1
        refine hK _ _ (fun _ => sT) ?_
        clear hK K
        (try simp only [Act.put])
        clear hnew hit2 hit1 own2 own2' hYw2 hb2 bm2 hn' sS
        refine wpAnyN_runL 7 (by kernel_rfl) rfl (by kernel_rfl) (fun K hK => ?_)
        go_simp
        refine hK _ _ (fun h => absurd rfl h) ?_
        clear hK K c0 c1' f0 f1 sT
        (try simp only [Act.put])
        refine wpAnyN_done (by kernel_rfl) ?_ _
        go_wp2
        go_roundw
        case rel => exact ⟨pos + q', k + 1, A', n', c', false, _, HNew, Lib.hid (HNot.out rfl)⟩
        case measure => rw [HIt2.out, HIt1.out]; exact hmeas
    · have hnx : ∀ ty, (Instr.next (.pointer (some ⟨w1.heap.size + 1, 0, none⟩)) true ty).run Tryz.prog wr = _ := fun ty => Lib.run_next_end_at wr (w1.heap.size + 1) S pos ty hit (by omega)
      have hfin := hlo.out.part HG.out.ok hpos hno.out
      have hpl : PlainA A c := PlainA.of_own hlo.out.own
      have mY : Blk wr b 60 [.pointer (some ⟨g, 0, none⟩)] := HB.out.below hlo.out.low HB.out.lt
      have hmat := vMatches HG.out.prog st hlo.out.lt A n c hlo.out.len (by omega) hpl fb true g wr.drew ((RowT.of_own hlo.out.own).below (Below.refl _ _).drew) (HP.out.below hlo.out.low.drew)
      rw [hfin] at hmat
      have sS : Blk wr.drew b 60 [.pointer (some ⟨g, 0, none⟩)] ∧ Blk wr.drew w1.heap.size 70 [.slice A n c, .bool fb] := ⟨mY.drew, hlo.out.blk.drew⟩
      have HM := Lib.hid hmat; have Hlow := Lib.hid hlo.out.low
      clear hmat hfin hpl mY hsz hlo hno
      go_upto_region 10 with fail
      refine wp_region_N (fun w' => Blk w' b 60 [.pointer (some ⟨g, 0, none⟩)] ∧ Blk w' w1.heap.size 70 [.slice A n c, .bool fb]) 100 (by kernel_rfl) ?_
      apply wpAnyN_takeL 0 (by kernel_rfl) rfl (fun _ _ _ h => h) (by kernel_rfl) sS
      · intro w' hS'
        go_simp; exact ⟨rfl, rfl⟩
      (try simp only [Act.put]); (try simp only [List.setIfInBounds_toArray]); (try simp only [List.set])
      apply wpAnyN_takeL 1 (by kernel_rfl) rfl (fun _ _ _ h => h) (by kernel_rfl) sS
      · intro w' hS'
        go_simp; exact ⟨rfl, rfl⟩
      (try simp only [Act.put]); (try simp only [List.setIfInBounds_toArray]); (try simp only [List.set])
      apply wpAnyN_takeL 2 (by kernel_rfl) rfl (fun _ _ _ h => h) (by kernel_rfl) sS
      · intro w' hS'
        go_simp; exact ⟨rfl, rfl⟩
      (try simp only [Act.put]); (try simp only [List.setIfInBounds_toArray]); (try simp only [List.set])
      apply wpAnyN_takeL 3 (v := (.pointer (some ⟨g, 0, none⟩))) (by kernel_rfl) rfl (fun _ _ _ h => h) (by kernel_rfl) sS
      · intro w' hS'
        (have hk : w'.cell? ⟨b, 0, none⟩ = some (.pointer (some ⟨g, 0, none⟩)) := hS'.1.cell 0; go_simp; exact ⟨rfl, rfl⟩)
      (try simp only [Act.put]); (try simp only [List.setIfInBounds_toArray]); (try simp only [List.set])
      apply wpAnyN_takeL 4 (v := (.agg #[.slice A n c, .bool fb])) (by kernel_rfl) rfl (fun _ _ _ h => h) (by kernel_rfl) sS
      · intro w' hS'
        (have k0 : w'.cell? ⟨w1.heap.size, 0, none⟩ = some (.slice A n c) := hS'.2.cell 0; have k1 : w'.cell? ⟨w1.heap.size, 1, none⟩ = some (.bool fb) := hS'.2.cell 1; go_simp; exact ⟨rfl, rfl⟩)
      (try simp only [Act.put]); (try simp only [List.setIfInBounds_toArray]); (try simp only [List.set])
      refine wpAnyN_runL 5 (by kernel_rfl) rfl (by kernel_rfl) (fun K hK => ?_)
      go_simp
      refine HM.out.mono ?_
      rintro e w2 ⟨rfl, hb2⟩
      have sT : Blk w2 b 60 [.pointer (some ⟨g, 0, none⟩)] ∧ Blk w2 w1.heap.size 70 [.slice A n c, .bool fb] := ⟨sS.1.below hb2 sS.1.lt, sS.2.below hb2 sS.2.lt⟩
      have hfin2 : Below w.heap.size w w2 := Hlow.out.drew.trans (hb2.mono Hlow.out.size)
      refine hK _ _ (fun _ => sT) ?_
      clear hK K
      (try simp only [Act.put])
      apply wpAnyN_takeL 6 (by kernel_rfl) rfl (fun _ _ _ h => h) (by kernel_rfl) sT
      · intro w' hS'
        go_simp; exact ⟨rfl, rfl⟩
      (try simp only [Act.put]); (try simp only [List.setIfInBounds_toArray]); (try simp only [List.set])
      refine wpAnyN_done (by kernel_rfl) ?_ _
      go_wp2
      go_ret
      exact ⟨rfl, hfin2⟩
end Go.Proofs.YtmcacicopgckmaaGreatDoor

/-! layer 19: awake; text.Has, utf.Count; matchers that are none -/
namespace Go.Proofs.YtmcacicopgckmaaGreatDoor
open Go.RowKit Garner
set_option maxRecDepth 100000 in
theorem nWhole (s : ByteArray) (w : World) : Calls Tryz.prog 17 #[.pointer none, .string s] w fun e w' => e = .returned (.bool false) ∧ w' = w := by
  go_enter Tryz.func17, Tryz.ntmps17
  go_wp2
  go_ret
  exact ⟨rfl, rfl⟩
set_option maxRecDepth 100000 in
theorem nPart (s : ByteArray) (w : World) : Calls Tryz.prog 18 #[.pointer none, .string s] w fun e w' => e = .returned (.bool false) ∧ w' = w := by
  go_enter Tryz.func18, Tryz.ntmps18
  go_wp2
  go_ret
  exact ⟨rfl, rfl⟩
set_option maxRecDepth 100000 in
set_option maxHeartbeats 8000000 in
theorem vAwake19 (w : World) (hL : Lt w) : Calls Tryz.prog 14 #[] w fun e w' => e = .returned (.bool true) ∧ Below w.heap.size w w' := by
  have h1 := vNew [97, 42, 98] w hL (by decide)
  rw [aw_ok] at h1
  have H1 := Lib.hid h1; have HL := Lib.hid hL
  clear h1 hL
  go_enter Tryz.func14, Tryz.ntmps14
  go_wp2_with fail
  refine H1.out.mono ?_
  rintro e w1 ⟨hb1, b, rfl, hm⟩
  have h2 := vNew [42] w1 (HL.out.below hb1) (by decide)
  rw [aw_no] at h2
  have H2 := Lib.hid h2; have Hm := Lib.hid hm; have HB1 := Lib.hid hb1
  clear h2 hm hb1
  go_wp2_with fail
  refine H2.out.mono ?_
  rintro e w2 ⟨hb2, he⟩
  obtain rfl : e = _ := he
  have hm2 := Hm.out.below hb2
  have h3 := vWhole awT b w2 hm2 [97, 97, 98]
  rw [aw_r1, aw_whole] at h3
  have hbw := HB1.out.trans (hb2.mono HB1.out.size)
  have H3 := Lib.hid h3; have Hm2 := Lib.hid hm2; have HBW := Lib.hid hbw
  clear h3 hm2 hbw hb2
  go_wp2_with fail
  refine H3.out.mono ?_
  rintro e w3 ⟨rfl, hb3⟩
  have hm3 := Hm2.out.below hb3
  have h4 := vWhole awT b w3 hm3 [97, 98, 120]
  rw [aw_r2, aw_not] at h4
  have hbw := HBW.out.trans (hb3.mono HBW.out.size)
  have H4 := Lib.hid h4; have Hm3 := Lib.hid hm3; have HBW3 := Lib.hid hbw
  clear h4 hm3 hbw hb3
  go_wp2_with fail
  refine H4.out.mono ?_
  rintro e w4 ⟨rfl, hb4⟩
  have hm4 := Hm3.out.below hb4
  have h5 := vPart awT b w4 hm4 [120, 97, 98, 121]
  rw [aw_r3, aw_part] at h5
  have hbw := HBW3.out.trans (hb4.mono HBW3.out.size)
  have H5 := Lib.hid h5; have HBW4 := Lib.hid hbw
  clear h5 hm4 hbw hb4
  go_wp2_with fail
  refine H5.out.mono ?_
  rintro e w5 ⟨rfl, hb5⟩
  go_wp2
  go_ret
  exact ⟨rfl, HBW4.out.trans (hb5.mono HBW4.out.size)⟩
end Go.Proofs.YtmcacicopgckmaaGreatDoor

/-! layer 19: what New answers, told as a pointer and a number; matchers that are asked again and again -/
namespace Garner
open Go
end Garner
namespace Go.Proofs.YtmcacicopgckmaaGreatDoor
open Go.RowKit Garner
/-- a matcher that is asked at a text, again and again -/
abbrev WholeA (Z : World) (b : Nat) (S : ByteArray) (ans : Bool) : Prop := ∀ wx, Below Z.heap.size Z wx → Calls Tryz.prog 17 #[.pointer (some ⟨b, 0, none⟩), .string S] wx fun e w' => e = .returned (.bool ans) ∧ Below Z.heap.size Z w'
abbrev PartA (Z : World) (b : Nat) (S : ByteArray) (ans : Bool) : Prop := ∀ wx, Below Z.heap.size Z wx → Calls Tryz.prog 18 #[.pointer (some ⟨b, 0, none⟩), .string S] wx fun e w' => e = .returned (.bool ans) ∧ Below Z.heap.size Z w'
theorem MatIs.wholeA {Z : World} {b : Nat} {t : Re} (h : MatIs Z b t) {S : ByteArray} {l : Bs} (hS : S = ⟨l.toArray⟩) : WholeA Z b S (wholeB t (runesP l)) := fun wx hx => by
  subst hS
  exact (vWhole t b wx (h.below hx) l).mono fun e w' h => ⟨h.1, hx.trans (h.2.mono hx.size)⟩
theorem MatIs.partA {Z : World} {b : Nat} {t : Re} (h : MatIs Z b t) {S : ByteArray} {l : Bs} (hS : S = ⟨l.toArray⟩) : PartA Z b S (partB t (runesP l)) := fun wx hx => by
  subst hS
  exact (vPart t b wx (h.below hx) l).mono fun e w' h => ⟨h.1, hx.trans (h.2.mono hx.size)⟩
/-- what New answers: a pointer and a number -/
def NewK (o : Except Nat Re) (p : Option Addr) (k : Nat) (w' : World) : Prop := match o with
  | .error n => p = none ∧ k = n ∧ 0 < n ∧ n ≤ 40
  | .ok t => k = 0 ∧ ∃ b, p = some ⟨b, 0, none⟩ ∧ MatIs w' b t
theorem NewK.below {o : Except Nat Re} {p : Option Addr} {k : Nat} {w w' : World} (h : NewK o p k w) (hb : Below w.heap.size w w') : NewK o p k w' := by
  cases o with
  | error n => exact h
  | ok t =>
    obtain ⟨h1, b, h2, h3⟩ := h
    exact ⟨h1, b, h2, h3.below hb⟩
theorem NewK.zero {o : Except Nat Re} {p : Option Addr} {k : Nat} {w : World} (h : NewK o p k w) (hk : k = 0) : ∃ t b, o = .ok t ∧ p = some ⟨b, 0, none⟩ ∧ MatIs w b t := by
  cases o with
  | error n =>
    obtain ⟨-, h1, h2, -⟩ := h
    omega
  | ok t =>
    obtain ⟨-, b, h2, h3⟩ := h
    exact ⟨t, b, rfl, h2, h3⟩
theorem NewK.pos {o : Except Nat Re} {p : Option Addr} {k : Nat} {w : World} (h : NewK o p k w) (hk : k ≠ 0) : o = .error k ∧ p = none := by
  cases o with
  | error n =>
    obtain ⟨h0, h1, h2, -⟩ := h
    exact ⟨by rw [h1], h0⟩
  | ok t => exact absurd h.1 hk
theorem vNewA (l : Bs) (S : ByteArray) (hS : S = ⟨l.toArray⟩) (w : World) (hL : Lt w) (hl : l.length ≤ 9223372036854775807) :
    Calls Tryz.prog 15 #[.string S] w fun e w' => ∃ (p : Option Addr) (k : Nat), e = .returned (.tuple #[.pointer p, .int .i64 (k : Nat)]) ∧ Below w.heap.size w w' ∧ NewK (rexpP l) p k w' := by
  subst hS
  refine (vNew l w hL hl).mono ?_
  intro e w' ⟨hb, h⟩
  have he := fun k => @err_pos l k
  cases ho : rexpP l with
  | error n =>
    rw [ho] at h
    obtain ⟨h1, h2⟩ := he n ho
    exact ⟨none, n, h, hb, rfl, rfl, h1, h2⟩
  | ok t =>
    rw [ho] at h
    obtain ⟨b, rfl, hm⟩ := h
    exact ⟨some ⟨b, 0, none⟩, 0, rfl, hb, rfl, b, rfl, hm⟩
end Go.Proofs.YtmcacicopgckmaaGreatDoor

