import Derived.Test.YtmalkgakdmghiaaPa48
/-! layer 11: skip -/
namespace Go.Proofs.Ytmalkgakdmghiaa
open Go.RowKit Go.Shelf Garner

theorem postB_pos (l : List Nat) : 0 < (postB l).length := by
  unfold postB; rw [List.length_append]; have := put1_pos (nBlk l); omega
theorem own_neI {w : World} {base I : Nat} {A : Option Addr} {c : Nat} {bb : Bs} (h1 : OwnB w base (.slice A bb.length c) bb) (h2 : Bytes w I A bb.length bb) (h0 : 0 < bb.length) : (Value.slice A bb.length c).ownBlock ≠ some I := fun e => by
  obtain ⟨b, off, rfl, hb, -⟩ := h2.2 h0
  rcases h1.2 with ⟨e2, _⟩ | ⟨g, cap, cur, e2, _⟩
  · cases e2
  · injection e2 with e3 _ _
    cases e3
    simp [Value.ownBlock] at e
    omega
theorem IterIs.setNext {w : World} {base I k k' : Nat} {l xs : List Nat} (h : IterIs w base I l xs k) (hk : k' ≤ nBlk l) : IterIs (w.setCell ⟨I, 4, none⟩ (.int .i64 k')) base I l xs k' := by
  obtain ⟨A, c, Ah, ch, Ao, co, h1, h2, h3, h4, h5, h6, h7, h8⟩ := h.ex
  refine ⟨hk, h.hl, h.hr, h.hn, h.hbI, A, c, Ah, ch, Ao, co, ownsRow_setCell_other h1 (a := ⟨I, 4, none⟩) (own_neI h1 h2 (postB_pos l)) _, h2.below ((Below.refl _ _).setCell (p := ⟨I, 4, none⟩) (Nat.le_refl _) _), h3, h4.set_ 4 _,
    ownsRow_setCell_below h5 (a := ⟨I, 4, none⟩) (Nat.lt_succ_self I) _, h6, h7, fun h0 => ?_⟩
  obtain ⟨b, off, e, hb1, hb2, hc⟩ := h8 h0
  exact ⟨b, off, e, hb1, by simpa using hb2, fun j hj => (World.cell?_setCell_other _ _ _ _ (by simp)).trans (hc j hj)⟩
theorem IterIs.setOpen {w : World} {base I k co' : Nat} {l xs ys : List Nat} {Ao' : Option Addr} (h : IterIs w base I l xs k) (h6' : ys.length ≤ co') (h7' : ys.length ≤ 32) (h8' : OpenIs w I Ao' ys) : IterIs (w.setCell ⟨I, 3, none⟩ (.slice Ao' ys.length co')) base I l ys k := by
  obtain ⟨A, c, Ah, ch, Ao, co, h1, h2, h3, h4, h5, -, -, -⟩ := h.ex
  refine ⟨h.hk, h.hl, h.hr, h.hn, h.hbI, A, c, Ah, ch, Ao', co', ownsRow_setCell_other h1 (a := ⟨I, 3, none⟩) (own_neI h1 h2 (postB_pos l)) _, h2.below ((Below.refl _ _).setCell (p := ⟨I, 3, none⟩) (Nat.le_refl _) _), h3, h4.set_ 3 _,
    ownsRow_setCell_below h5 (a := ⟨I, 3, none⟩) (Nat.lt_succ_self I) _, h6', h7', fun h0 => ?_⟩
  obtain ⟨b, off, e, hb1, hb2, hc⟩ := h8' h0
  exact ⟨b, off, e, hb1, by simpa using hb2, fun j hj => (World.cell?_setCell_other _ _ _ _ (by simp)).trans (hc j hj)⟩
theorem OpenIs.of_own {w : World} {I B c : Nat} {A : Option Addr} {xs : List Nat} (h : OwnU w B (.slice A xs.length c) xs) (hI : I < B) : OpenIs w I A xs := fun h0 => by
  obtain ⟨g, rfl, hg1, hg2, _, _, hg5⟩ := own_at h h0
  refine ⟨g, 0, rfl, by omega, hg2, fun j hj => ?_⟩
  rw [Nat.zero_add, hg5 j (by omega), List.getElem?_map, List.getElem?_eq_getElem hj]; rfl

/-- the rest from block k on -/
def restB (l : List Nat) (k : Nat) : List Nat := ((blocks (nBlk l) l).drop k).flatten
theorem restB_zero (l : List Nat) : restB l 0 = l := by unfold restB; rw [List.drop_zero, blocks_join]
theorem restB_end (l : List Nat) : restB l (nBlk l) = [] := by unfold restB; rw [List.drop_of_length_le (by rw [blocks_len]; exact Nat.le_refl _)]; rfl
theorem restB_succ {l : List Nat} {k : Nat} (h : k < (blocks (nBlk l) l).length) : restB l k = (blocks (nBlk l) l)[k] ++ restB l (k + 1) := by
  unfold restB; rw [List.drop_eq_getElem_cons h, List.flatten_cons]

theorem vBlockI (l xs : List Nat) (base I k0 k : Nat) (w : World) (hI : IterIs w base I l xs k0) (hk : k < (blocks (nBlk l) l).length) :
    Calls Try.prog 20 #[.pointer (some ⟨I, 0, none⟩), .int .i64 k] w fun e w' => ∃ v, e = .returned (.tuple #[v, .bool true]) ∧ OwnU w' w.heap.size v (blocks (nBlk l) l)[k] ∧ Below w.heap.size w w' := by
  obtain ⟨A, c, Ah, ch, Ao, co, h1, h2, h3, h4, h5, h6, h7, h8⟩ := hI.ex
  exact vBlock (blocks (nBlk l) l) (postB l) A Ah c ch I I (I + 1) k _ w _ _ _ (blksOk hI.hl hI.hr hI.hn) (postB_eq l) h2 (Nat.le_of_lt hI.lt) h3 (by rw [blocks_len]; exact h4) rfl (by rw [blocks_len]; exact h5) hk

set_option maxRecDepth 100000 in
set_option maxHeartbeats 4000000 in
theorem vSkip (l : List Nat) (n k base I : Nat) (w : World) (hI : IterIs w base I l [] k) (hn64 : n < 18446744073709551616) :
    Calls Try.prog 22 #[.pointer (some ⟨I, 0, none⟩), .int .u64 n] w fun e w' => Below I w w' ∧
      ((e = .returned (.bool true) ∧ ∃ k' p, k < k' ∧ p ≠ [] ∧ IterIs w' base I l p k' ∧ seekR n (restB l k) = seekR n (p ++ restB l k')) ∨ (e = .returned (.bool false) ∧ IterIs w' base I l [] (nBlk l) ∧ seekR n (restB l k) = [])) := by
  have hIs := hI.lt
  obtain ⟨nB, hnB⟩ : ∃ nB, nB = nBlk l := ⟨_, rfl⟩
  have hnB2 : nB ≤ 2048 := by rw [hnB]; have := hI.hl; unfold nBlk; omega
  have HnB := Lib.hid hnB; clear hnB
  have Hn64 := Lib.hid hn64; clear hn64
  go_enter Try.func22, Try.ntmps22
  go_wp2
  go_loopw [] (fun wr => ∃ k1 : Nat, k ≤ k1 ∧ IterIs wr base I l [] k1 ∧ Hid (seekR n (restB l k) = seekR n (restB l k1)) ∧ Below I w wr) (fun wr => nB - (intOf ((wr.cell? ⟨I, 4, none⟩).getD undef)).toNat)
  case atStart => exact ⟨k, Nat.le_refl _, hI, Lib.hid rfl, Below.refl _ _⟩
  case round =>
    obtain ⟨k1, hk1, hI1, hs, hbel⟩ := hrel
    obtain ⟨wo, rfl⟩ : ∃ wo : World, wo = wr := ⟨_, rfl⟩
    obtain ⟨A, c, Ah, ch, Ao, co, h1, h2, h3, h4, h5, h6, h7, h8⟩ := hI1.ex
    have hk1n := hI1.hk
    rw [← HnB.out] at hk1n h4 h5
    have y0 : ∀ w', Below wo.heap.size wo w' → w'.cell? ⟨I, 1, none⟩ = some (.slice Ah nB ch) := fun w' h => (h.cell (p := ⟨I, 1, none⟩) hI1.lt).trans (h4.cell 1)
    have y1 : ∀ w', Below wo.heap.size wo w' → w'.cell? ⟨I, 4, none⟩ = some (.int .i64 k1) := fun w' h => (h.cell (p := ⟨I, 4, none⟩) hI1.lt).trans (h4.cell 4)
    have hS0 : Below wo.heap.size wo wo.drew := (Below.refl _ _).drew
    have m0 : wo.cell? ⟨I, 4, none⟩ = some (.int .i64 k1) := y1 wo (Below.refl _ _)
    go_upto_region 1 with fail
    refine wp_region_N (fun w' => Below wo.heap.size wo w') 100 (by kernel_rfl) ?_
    apply wpAnyN_takeL 0 (by kernel_rfl) rfl (fun _ _ _ h => h) (by kernel_rfl) hS0
    · intro w' hS'
      go_simp; exact ⟨rfl, rfl⟩
    (try simp only [Act.put]); (try simp only [List.setIfInBounds_toArray]); (try simp only [List.set])
    apply wpAnyN_takeL 1 (by kernel_rfl) rfl (fun _ _ _ h => h) (by kernel_rfl) hS0
    · intro w' hS'
      go_simp; exact ⟨rfl, rfl⟩
    (try simp only [Act.put]); (try simp only [List.setIfInBounds_toArray]); (try simp only [List.set])
    apply wpAnyN_takeL 2 (by kernel_rfl) rfl (fun _ _ _ h => h) (by kernel_rfl) hS0
    · intro w' hS'
      go_simp; exact ⟨rfl, rfl⟩
    (try simp only [Act.put]); (try simp only [List.setIfInBounds_toArray]); (try simp only [List.set])
    apply wpAnyN_takeL 3 (by kernel_rfl) rfl (fun _ _ _ h => h) (by kernel_rfl) hS0
    · intro w' hS'
      go_simp; exact ⟨rfl, rfl⟩
    (try simp only [Act.put]); (try simp only [List.setIfInBounds_toArray]); (try simp only [List.set])
    apply wpAnyN_takeL 4 (by kernel_rfl) rfl (fun _ _ _ h => h) (by kernel_rfl) hS0
    · intro w' hS'
      go_simp; exact ⟨rfl, rfl⟩
    (try simp only [Act.put]); (try simp only [List.setIfInBounds_toArray]); (try simp only [List.set])
    apply wpAnyN_takeL 5 (by kernel_rfl) rfl (fun _ _ _ h => h) (by kernel_rfl) hS0
    · intro w' hS'
      go_simp; exact ⟨rfl, rfl⟩
    (try simp only [Act.put]); (try simp only [List.setIfInBounds_toArray]); (try simp only [List.set])
    apply wpAnyN_takeL 6 (by kernel_rfl) rfl (fun _ _ _ h => h) (by kernel_rfl) hS0
    · intro w' hS'
      go_simp; exact ⟨rfl, rfl⟩
    (try simp only [Act.put]); (try simp only [List.setIfInBounds_toArray]); (try simp only [List.set])
    apply wpAnyN_takeL 7 (by kernel_rfl) rfl (fun _ _ _ h => h) (by kernel_rfl) hS0
    · intro w' hS'
      go_simp; exact ⟨rfl, rfl⟩
    (try simp only [Act.put]); (try simp only [List.setIfInBounds_toArray]); (try simp only [List.set])
    apply wpAnyN_takeL 8 (by kernel_rfl) rfl (fun _ _ _ h => h) (by kernel_rfl) hS0
    · intro w' hS'
      go_simp; exact ⟨rfl, rfl⟩
    (try simp only [Act.put]); (try simp only [List.setIfInBounds_toArray]); (try simp only [List.set])
    apply wpAnyN_takeL 9 (by kernel_rfl) rfl (fun _ _ _ h => h) (by kernel_rfl) hS0
    · intro w' hS'
      go_simp; exact ⟨rfl, rfl⟩
    (try simp only [Act.put]); (try simp only [List.setIfInBounds_toArray]); (try simp only [List.set])
    refine wpAnyN_done (by kernel_rfl) ?_ _
    by_cases hlt : k1 < nB
    · have lt1 : (k1 : Int) < (nB : Int) := by omega
      have hkb : k1 < (blocks (nBlk l) l).length := by rw [blocks_len, ← HnB.out]; exact hlt
      have w1 : IntKind.i64.wrap ((k1 : Int) + 1) = ((k1 + 1 : Nat) : Int) := by rw [IntKind.wrap_i64]; omega
      obtain ⟨g, rfl, hg1, hg2, hg3, hg4, hg5⟩ := own_at h5 (by omega)
      obtain ⟨z, hz⟩ : ∃ z, z = lastN (blocks (nBlk l) l)[k1] := ⟨_, rfl⟩
      have cz : wo.cell? ⟨g, k1 * 3, none⟩ = some (.int .u64 (z : Int)) := by
        rw [hg5 _ (by omega), hdC_at _ _ _ _ _ (by omega)]; unfold hdF; rw [if_pos (by omega), show k1 * 3 / 3 = k1 by omega, HnB.out, List.getElem?_eq_getElem hkb, hz]; rfl
      clear hg5
      have f4 := h4.frozen 4
      have Hz := Lib.hid hz; clear hz
      clear y0 y1
      go_upto_region 4 with fail
      obtain ⟨W, hW⟩ : ∃ W, W = wo.setCell ⟨I, 4, none⟩ (.int .i64 ((k1 : Int) + 1)) := ⟨_, rfl⟩
      rw [← hW]
      have cz' : W.cell? ⟨g, k1 * 3, none⟩ = some (.int .u64 (z : Int)) := by rw [hW]; exact (World.cell?_setCell_other _ _ _ _ (by simp)).trans cz
      have bI' : Blk W I 47 [.slice A (postB l).length c, .slice (some ⟨g, 0, none⟩) nB ch, .int .i64 l.length, .slice Ao 0 co, .int .i64 ((k1 : Int) + 1)] := by rw [hW]; exact h4.set_ 4 _
      have hIW : IterIs W base I l [] (k1 + 1) := by rw [hW]; exact hI1.setNext (k' := k1 + 1) (by rw [← HnB.out]; omega)
      have bW : Below I w W := by rw [hW]; exact hbel.setCell (p := ⟨I, 4, none⟩) (Nat.le_refl _) _
      have ci1 : W.cell? ⟨I, 1, none⟩ = some (.slice (some ⟨g, 0, none⟩) nB ch) := bI'.cell 1
      have ci4 : W.cell? ⟨I, 4, none⟩ = some (.int .i64 ((k1 : Int) + 1)) := bI'.cell 4
      clear hW
      by_cases hzn : n ≤ z
      · have hzn' : (n : Int) ≤ (z : Int) := by omega
        go_wp2_with fail
        refine (vBlockI l [] base I (k1 + 1) k1 W.drew (hIW.below (Below.refl _ _).drew) hkb).mono ?_
        rintro e w4 ⟨v4, rfl, own4, hb4⟩
        have hb4' : Below W.heap.size W w4 := (Below.refl _ _).drew.trans hb4
        obtain ⟨A4, c4, rfl, hc4⟩ := own_form own4
        have b4 := bI'.below hb4' hIW.lt
        have c43 := b4.cell 3
        simp only [List.getElem?_cons_succ, List.getElem?_cons_zero] at c43
        have f43 := b4.frozen 3
        have hI4 := hIW.below hb4'
        have hop := OpenIs.of_own own4 (I := I) hIW.lt
        obtain ⟨p, hp⟩ : ∃ p, p = (blocks (nBlk l) l)[k1] := ⟨_, rfl⟩
        rw [← hp] at own4 hc4 hop ⊢
        have hpo := (blksOk hI.hl hI.hr hI.hn).ok p (by rw [hp]; exact List.getElem_mem _)
        have Hp := Lib.hid hp; clear hp
        go_wp2_with fail
        go_ret
        refine ⟨(bW.trans (hb4'.mono (Nat.le_of_lt hIW.lt))).setCell (p := ⟨I, 3, none⟩) (Nat.le_refl _) _, .inl ⟨rfl, k1 + 1, p, by omega, hpo.1, hI4.setOpen hc4 hpo.2.1 hop, ?_⟩⟩
        rw [hs.out, restB_succ hkb, Hp.out]
      · have hzn' : ¬ (n : Int) ≤ (z : Int) := by omega
        go_wp2_with fail
        case roundEnd =>
          refine ⟨⟨k1 + 1, by omega, hIW.below (Below.refl _ _).drew, Lib.hid ?_, bW.drew⟩, ?_⟩
          · rw [hs.out, restB_succ hkb]
            refine seekR_skip (fun x hx => ?_) _
            have hpo := (blksOk hI.hl hI.hr hI.hn).ok _ (List.getElem_mem hkb)
            have := le_last (rising_pw hpo.2.2.1) hx
            rw [← Hz.out] at this
            omega
          · have e1 : W.drew.cell? ⟨I, 4, none⟩ = some (.int .i64 ((k1 : Int) + 1)) := ci4
            rw [e1, m0]
            simp [intOf]; omega
    · obtain rfl : k1 = nB := by omega
      go_wp2
      go_ret
      refine ⟨hbel.drew, .inr ⟨rfl, ?_, ?_⟩⟩
      · rw [← HnB.out]; exact hI1.below (Below.refl _ _).drew
      · rw [hs.out, HnB.out, restB_end]; rfl
end Go.Proofs.Ytmalkgakdmghiaa
