import Derived.Test.YtmalkgakdmghiaaPa47
/-! layer 11: Open -/
namespace Go.Proofs.Ytmalkgakdmghiaa
open Go.RowKit Go.Shelf Garner

set_option maxRecDepth 100000 in
set_option maxHeartbeats 4000000 in
theorem vOpenP (l : List Nat) (bb : Bs) (A : Option Addr) (c B : Nat) (w : World) (hbb : bb = postB l) (hl : l.length ≤ 65536) (hr : risingB l = true) (hn : ∀ n ∈ l, n < 18446744073709551616)
    (hb : Bytes w B A bb.length bb) (hB : B ≤ w.heap.size) :
    Calls Try.prog 8 #[.slice A bb.length c] w fun e w' => ∃ I, e = .returned (.tuple #[.pointer (some ⟨I, 0, none⟩), .int .i64 0]) ∧ IterIs w' w.heap.size I l [] 0 ∧ Below w.heap.size w w' := by
  obtain ⟨bs, hbs⟩ : ∃ bs, bs = blocks (nBlk l) l := ⟨_, rfl⟩
  have hok : BlksOk bs := by rw [hbs]; exact blksOk hl hr hn
  have hbb2 : bb = bytesB bs := by rw [hbb, hbs]; exact postB_eq l
  have hbl : bb.length ≤ 5000000 := by rw [hbb2]; exact hok.len
  have hnb : bs.length = nBlk l := by rw [hbs, blocks_len]
  have hfl : bs.flatten = l := by rw [hbs]; exact blocks_join
  have hn16 := hok.n
  have Hbb := Lib.hid hbb; clear hbb
  have Hbb2 := Lib.hid hbb2; clear hbb2
  have Hbs := Lib.hid hbs; clear hbs
  have Hnb := Lib.hid hnb; clear hnb
  have Hfl := Lib.hid hfl; clear hfl
  have Hn := Lib.hid hn; clear hn
  go_enter Try.func8, Try.ntmps8
  go_wp2_with fail
  refine (vClone bb A c B w hb hB (by omega)).mono ?_
  rintro e w1 ⟨v1, rfl, own1, hb1⟩
  have s1 := hb1.size
  obtain ⟨A1, c1, rfl, hc1, row1⟩ := OwnB.shapeC own1
  go_wp2_with fail
  obtain ⟨I, hI⟩ : ∃ I, I = w1.heap.size := ⟨_, rfl⟩
  obtain ⟨w2, hw2⟩ : ∃ w2, w2 = w1.alloc (.cells #[.slice A1 bb.length c1, .slice none 0 0, .int .i64 0, .slice none 0 0, .int .i64 0] 47) := ⟨_, rfl⟩
  have bI2 : Blk w2 I 47 [.slice A1 bb.length c1, .slice none 0 0, .int .i64 0, .slice none 0 0, .int .i64 0] := by rw [hw2]; exact Blk.newAt w1 _ _ hI
  have own2 : OwnB w2 w.heap.size (.slice A1 bb.length c1) bb := by rw [hw2]; exact own1.alloc _
  have row2 : Bytes w2 I A1 bb.length bb := by rw [hw2, hI]; exact row1.alloc (Nat.le_refl _) _
  have hb2 : Below w.heap.size w w2 := by rw [hw2]; exact hb1.alloc s1 _
  have hb12 : Below I w1 w2 := by rw [hw2, hI]; exact (Below.refl _ _).alloc (Nat.le_refl _) _
  have s2 : w2.heap.size = I + 1 := by rw [hw2, hI]; simp
  rw [← hI, ← hw2]
  have Hw2 := Lib.hid hw2; clear hw2
  have HI := Lib.hid hI; clear hI
  refine (vReadH bs bb A1 c1 I w2 _ _ _ hok Hbb2.out row2 hc1 bI2).mono ?_
  rintro e w3 ⟨hv, rfl, bI3, own3h, hb3⟩
  obtain ⟨Ah, ch, rfl, -⟩ := own_form own3h
  have s3 := hb3.size
  have sI : w.heap.size ≤ I := by rw [HI.out]; exact s1
  have own3 : OwnB w3 w.heap.size (.slice A1 bb.length c1) bb := own_below own1 (by rw [← HI.out]; exact hb12.trans hb3)
  have hA1 : ∀ g, (Value.slice A1 bb.length c1).ownBlock = some g → g < I := fun g h => by rw [HI.out]; exact (own_ge own1 g (by rw [h]; simp)).2
  have row3 : Bytes w3 I A1 bb.length bb := row2.below hb3
  clear row2 own2 bI2 row1 own1
  have ci1 : w3.cell? ⟨I, 1, none⟩ = some (.slice Ah bs.length ch) := bI3.cell 1
  have hfk : ∀ k (h : k < bs.length), (bs.take k).flatten.length + bs[k].length ≤ l.length := fun k h => by
    have h2 := congrArg List.length Hfl.out
    rw [← List.take_append_drop (k + 1) bs, List.flatten_append, List.length_append, List.take_succ_eq_append_getElem h, List.flatten_append, List.length_append] at h2
    simp at h2; simp; omega
  go_wp2_with fail
  go_loopw [5, 23] (fun v i wr => ∃ k : Nat, k ≤ bs.length ∧ i = .int .i64 k ∧ OwnU wr w3.heap.size v (bs.take k).flatten ∧ Below w3.heap.size w3 wr) (fun _ i _ => bs.length - (intOf i).toNat)
  case atStart => exact ⟨0, by omega, rfl, World.ownsRow_nil _ _ _ _, Below.refl _ _⟩
  case round =>
    obtain ⟨k, hk, rfl, owna, hbel⟩ := hrel
    obtain ⟨wo, rfl⟩ : ∃ wo : World, wo = wr := ⟨_, rfl⟩
    have sB := hbel.size
    have bIo := bI3.below hbel bI3.lt
    have hIl := bI3.lt
    have rowo : Bytes wo I A1 bb.length bb := row3.below (hbel.mono (by omega))
    by_cases hlt : k < bs.length
    · have lt1 : (k : Int) < (bs.length : Int) := by omega
      have w1' : IntKind.i64.wrap ((k : Int) + 1) = ((k + 1 : Nat) : Int) := by rw [IntKind.wrap_i64]; omega
      go_wp2_with fail
      refine (vBlock bs bb A1 Ah c1 ch I I (I + 1) k _ wo _ _ _ hok Hbb2.out rowo (by omega) hc1 bIo rfl (own_below own3h hbel) hlt).mono ?_
      rintro e w4 ⟨v4, rfl, own4, hb4⟩
      obtain ⟨A4, c4, rfl, -⟩ := own_form own4
      have owna4 := own_below owna hb4
      have s4 := hb4.size
      have hfk' := hfk k hlt
      obtain ⟨ta, hta⟩ : ∃ ta, ta = (bs.take k).flatten := ⟨_, rfl⟩
      rw [← hta] at owna4 hfk' owna
      obtain ⟨p, hp⟩ : ∃ p, p = bs[k] := ⟨_, rfl⟩
      rw [← hp] at own4 hfk' ⊢
      have Hta := Lib.hid hta; clear hta
      have Hp := Lib.hid hp; clear hp
      go_wp2_with (at_builtin; refine wpList_app _ rfl u64E rfl rfl owna4 rfl (Row.of_own own4) (u64v_one _) (by omega) (by omega) ?_; intro v5 w5 own5 hg5 hb5 _)
      case roundEnd =>
        refine ⟨⟨k + 1, by omega, by simp, ?_, hbel.trans ((hb4.mono sB).trans hb5)⟩, by simp [intOf]; omega⟩
        have e1 : (bs.take (k + 1)).flatten = ta ++ p := by rw [List.take_succ_eq_append_getElem hlt, List.flatten_append, Hta.out, Hp.out]; simp
        rw [e1]
        unfold OwnU
        rw [List.length_append, List.map_append]
        exact own5
    · obtain rfl : k = bs.length := by omega
      rw [List.take_length, Hfl.out] at owna
      obtain ⟨Aa, ca, rfl, hca⟩ := own_form owna
      go_wp2_with fail
      refine (vWrite_ok l Aa ca wo.heap.size wo (Row.of_own owna) (Nat.le_refl _) Hn.out hl hr hca).mono ?_
      rintro e w5 ⟨v5, rfl, own5, hb5⟩
      rw [← Hbb.out] at own5
      obtain ⟨A5, c5, rfl, -, row5⟩ := OwnB.shapeC own5
      have s5 := hb5.size
      have row0 : Bytes w5 w5.heap.size A bb.length bb := ((hb.below (((hb2.trans (hb3.mono sI)).mono hB).trans ((hbel.trans (hb5.mono sB)).mono (by omega))))).more (by omega)
      go_wp2_with fail
      refine (vEqual bb A5 A c5 c w5.heap.size w5 row5 row0 (Nat.le_refl _) (by omega)).mono ?_
      rintro e w6 ⟨rfl, hb6⟩
      have s6 := hb6.size
      have b36 : Below w3.heap.size w3 w6 := hbel.trans ((hb5.mono sB).trans (hb6.mono (by omega)))
      have bI6 : Blk w6 I 47 [.slice A1 bb.length c1, .slice Ah bs.length ch, .int .i64 0, .slice none 0 0, .int .i64 0] := bI3.below b36 hIl
      have ci2 := bI6.cell 2
      simp only [List.getElem?_cons_succ, List.getElem?_cons_zero] at ci2
      have fi2 := bI6.frozen 2
      go_wp2_with fail
      go_ret2
      have hbI7 : Below I w3 (w6.setCell ⟨I, 2, none⟩ (.int .i64 l.length)) := (b36.mono (Nat.le_of_lt hIl) : Below I w3 w6).setCell (p := ⟨I, 2, none⟩) (Nat.le_refl _) _
      refine ⟨I, rfl, ?_, (hb2.trans (hb3.mono sI)).trans (hbI7.mono sI)⟩
      have o7 : OwnB (w6.setCell ⟨I, 2, none⟩ (.int .i64 l.length)) w.heap.size (.slice A1 bb.length c1) bb := ownsRow_setCell_other (own_below own3 b36) (a := ⟨I, 2, none⟩) (fun e => Nat.lt_irrefl _ (hA1 I e)) _
      have h7 := ownsRow_setCell_below (own_below own3h b36) (a := ⟨I, 2, none⟩) (Nat.lt_succ_self I) (.int .i64 l.length)
      have r7 : Bytes (w6.setCell ⟨I, 2, none⟩ (.int .i64 l.length)) I A1 bb.length bb := row3.below hbI7
      have bI7 : Blk (w6.setCell ⟨I, 2, none⟩ (.int .i64 l.length)) I 47 [.slice A1 bb.length c1, .slice Ah bs.length ch, .int .i64 l.length, .slice none 0 0, .int .i64 0] := bI6.set_ 2 _
      rw [Hbb.out] at o7 r7 bI7 hc1
      rw [Hnb.out] at h7 bI7
      rw [Hbs.out] at h7
      exact ⟨Nat.zero_le _, hl, hr, Hn.out, sI, A1, c1, Ah, ch, none, 0, o7, r7, hc1, bI7, h7, by simp, by simp, fun h => absurd h (by simp)⟩
end Go.Proofs.Ytmalkgakdmghiaa
