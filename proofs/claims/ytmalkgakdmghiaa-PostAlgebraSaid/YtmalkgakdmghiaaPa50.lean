import Derived.Test.YtmalkgakdmghiaaPa49
/-! layer 11: Seek, Next, Len -/
namespace Go.Proofs.Ytmalkgakdmghiaa
open Go.RowKit Go.Shelf Garner

def sliceLen : Value → Nat
  | .slice _ n _ => min n 1
  | _ => 0
/-- what a seek answers -/
def SeekPost (l : List Nat) (n base I : Nat) (r : List Nat) (w : World) (e : Ending) (w' : World) : Prop :=
  Below I w w' ∧ ∃ xs' k', IterIs w' base I l xs' k' ∧ xs' ++ restB l k' = (seekR n r).tail ∧
    e = .returned (match seekR n r with | [] => .tuple #[.int .u64 0, .bool false] | x :: _ => .tuple #[.int .u64 (x : Int), .bool true])

set_option maxRecDepth 100000 in
set_option maxHeartbeats 4000000 in
theorem vSeek (l xs : List Nat) (n k base I : Nat) (w : World) (hI : IterIs w base I l xs k) (hn64 : n < 18446744073709551616) :
    Calls Try.prog 9 #[.pointer (some ⟨I, 0, none⟩), .int .u64 n] w (SeekPost l n base I (xs ++ restB l k) w) := by
  obtain ⟨nB, hnB⟩ : ∃ nB, nB = nBlk l := ⟨_, rfl⟩
  have hnB2 : nB ≤ 2048 := by rw [hnB]; have := hI.hl; unfold nBlk; omega
  have HnB := Lib.hid hnB; clear hnB
  have Hn64 := Lib.hid hn64; clear hn64
  go_enter Try.func9, Try.ntmps9
  go_wp2_with fail
  go_loopw [] (fun wr => ∃ xs1 k1, IterIs wr base I l xs1 k1 ∧ Hid (seekR n (xs ++ restB l k) = seekR n (xs1 ++ restB l k1)) ∧ Below I w wr) (fun wr => 2 * (nB - (intOf ((wr.cell? ⟨I, 4, none⟩).getD undef)).toNat) + sliceLen ((wr.cell? ⟨I, 3, none⟩).getD undef))
  case atStart => exact ⟨xs, k, hI, Lib.hid rfl, Below.refl _ _⟩
  case round =>
    obtain ⟨xs1, k1, hI1, hs, hbel⟩ := hrel
    obtain ⟨wo, rfl⟩ : ∃ wo : World, wo = wr := ⟨_, rfl⟩
    have hk1 := hI1.hk
    rw [← HnB.out] at hk1
    have mo3 : ∃ A co, wo.cell? ⟨I, 3, none⟩ = some (.slice A xs1.length co) ∧ wo.cell? ⟨I, 4, none⟩ = some (.int .i64 k1) := by
      obtain ⟨A, c, Ah, ch, Ao, co, h1, h2, h3, h4, h5, h6, h7, h8⟩ := hI1.ex
      exact ⟨Ao, co, h4.cell 3, h4.cell 4⟩
    obtain ⟨A3, c3, mo3, mo4⟩ := mo3
    have hIl := hI1.lt
    by_cases hne : xs1 = []
    · subst hne
      go_wp2_with fail
      refine (vSkip l n k1 base I wo hI1 Hn64.out).mono ?_
      rintro e W ⟨hbs, ⟨rfl, k2, xs2, hk2, hne2, hI2, hs2⟩ | ⟨rfl, hI2, hs2⟩⟩
      · have hk2n := hI2.hk
        rw [← HnB.out] at hk2n
        obtain ⟨A, c, Ah, ch, Ao, co, h1, h2, h3, h4, h5, h6, h7, h8⟩ := hI2.ex
        have h0 : 0 < xs2.length := List.length_pos_iff.2 hne2
        obtain ⟨b, off, rfl, hb1, hb2, hbc⟩ := h8 h0
        have ci3 : W.cell? ⟨I, 3, none⟩ = some (.slice (some ⟨b, off, none⟩) xs2.length co) := h4.cell 3
        have fi3 := h4.frozen 3
        have lt0 : (0 : Int) < (xs2.length : Int) := by omega
        have mI4 : W.cell? ⟨I, 4, none⟩ = some (.int .i64 k2) := h4.cell 4
        go_wp2_with fail
        go_loopw [26] (fun i wr => ∃ j : Nat, j ≤ xs2.length ∧ i = .int .i64 j ∧ Hid (∀ x ∈ xs2.take j, x < n) ∧ Below W.heap.size W wr) (fun i _ => xs2.length - (intOf i).toNat)
        case atStart => exact ⟨0, by omega, rfl, Lib.hid (by simp), Below.refl _ _⟩
        case round =>
          obtain ⟨j, hj, rfl, htk, hbj⟩ := hrel
          obtain ⟨X, rfl⟩ : ∃ X : World, X = wr := ⟨_, rfl⟩
          have sX := hbj.size
          have ci3X : X.cell? ⟨I, 3, none⟩ = some (.slice (some ⟨b, off, none⟩) xs2.length co) := (hbj.cell (p := ⟨I, 3, none⟩) hI2.lt).trans ci3
          have hIX := hI2.below hbj
          have hbX := h4.below hbj hI2.lt
          have fi3X := hbX.frozen 3
          by_cases hlt : j < xs2.length
          · have lt1 : (j : Int) < (xs2.length : Int) := by omega
            obtain ⟨x, hx⟩ : ∃ x, x = xs2[j] := ⟨_, rfl⟩
            have cx : X.cell? ⟨b, off + j, none⟩ = some (.int .u64 (x : Int)) := by
              rw [hbj.cell (p := ⟨b, off + j, none⟩) hb2, hbc j hlt, List.getElem?_eq_getElem hlt, hx]; rfl
            have w1 : IntKind.i64.wrap ((j : Int) + 1) = (j : Int) + 1 := by rw [IntKind.wrap_i64]; omega
            have Hx := Lib.hid hx; clear hx
            have Hbc := Lib.hid hbc; clear hbc
            by_cases hxn : n ≤ x
            · have hxn' : (n : Int) ≤ (x : Int) := by omega
              obtain ⟨m, hm⟩ : ∃ m, m = xs2.length - (j + 1) := ⟨_, rfl⟩
              obtain ⟨mc, hmc⟩ : ∃ mc, mc = co - (j + 1) := ⟨_, rfl⟩
              have l1 : (j : Int) + 1 ≤ (xs2.length : Int) := by omega
              have l2 : (j : Int) + 1 ≤ (co : Int) := by omega
              have l3 : (xs2.length : Int) ≤ (co : Int) := by omega
              have l0 : (0 : Int) ≤ (j : Int) + 1 := by omega
              obtain ⟨AA, hAA⟩ : ∃ AA : Option Addr, (if co = j + 1 then some (⟨b, off, none⟩ : Addr) else some ⟨b, off + (j + 1), none⟩) = AA := ⟨_, rfl⟩
              go_wp2_with fail
              go_ret2
              have hsk : seekR n (xs ++ restB l k) = x :: (xs2.drop (j + 1) ++ restB l k2) := by
                rw [hs.out, (show seekR n ([] ++ restB l k1) = seekR n (xs2 ++ restB l k2) from hs2)]
                have e1 : xs2 ++ restB l k2 = xs2.take j ++ x :: (xs2.drop (j + 1) ++ restB l k2) := by
                  have h9 : xs2 = xs2.take j ++ x :: xs2.drop (j + 1) := by rw [Hx.out, ← List.drop_eq_getElem_cons hlt, List.take_append_drop]
                  conv => lhs; rw [h9]
                  simp
                rw [e1]
                exact seekR_hit (fun y hy => htk.out y hy) hxn
              have hyl : (xs2.drop (j + 1)).length = xs2.length - (j + 1) := by rw [List.length_drop]
              have hop : OpenIs X I AA (xs2.drop (j + 1)) := fun h9 => by
                refine ⟨b, off + (j + 1), ?_, hb1, by omega, fun i hi => ?_⟩
                · rw [← hAA, if_neg (by omega)]
                · rw [hbj.cell (p := ⟨b, off + (j + 1) + i, none⟩) hb2, show off + (j + 1) + i = off + (j + 1 + i) by omega, Hbc.out (j + 1 + i) (by omega), List.getElem?_drop]
              have hI7 := hIX.setOpen (ys := xs2.drop (j + 1)) (Ao' := AA) (co' := co - (j + 1)) (by omega) (by omega) hop
              rw [hyl] at hI7
              refine ⟨(hbel.trans hbs).trans ((hbj.mono (Nat.le_of_lt hI2.lt)).setCell (p := ⟨I, 3, none⟩) (Nat.le_refl _) _), _, k2, hI7, by rw [hsk]; rfl, by rw [hsk]; rfl⟩
            · have hxn' : ¬ (n : Int) ≤ (x : Int) := by omega
              go_wp2_with fail
              case roundEnd =>
                refine ⟨⟨j + 1, by omega, by simp, Lib.hid ?_, hbj⟩, by simp [intOf]; omega⟩
                intro y hy
                rw [List.take_succ_eq_append_getElem hlt, List.mem_append] at hy
                rcases hy with hy | hy
                · exact htk.out y hy
                · rw [List.mem_singleton.1 hy, ← Hx.out]; omega
          · obtain rfl : j = xs2.length := by omega
            go_wp2_with fail
            refine ⟨⟨[], k2, hIX.setOpen (ys := []) (Ao' := none) (co' := 0) (by simp) (by simp) (fun h => absurd h (by simp)), Lib.hid ?_, (hbel.trans hbs).trans (((hbj.mono (Nat.le_of_lt hI2.lt)).setCell (p := ⟨I, 3, none⟩) (Nat.le_refl _) _))⟩, ?_⟩
            · rw [hs.out, (show seekR n ([] ++ restB l k1) = seekR n (xs2 ++ restB l k2) from hs2), seekR_skip (fun y hy => htk.out y (by rw [List.take_length]; exact hy))]; rfl
            · have e3 : (X.setCell ⟨I, 3, none⟩ (.slice none 0 0)).cell? ⟨I, 3, none⟩ = some (.slice none 0 0) := (hbX.set_ 3 (.slice none 0 0)).cell 3
              have e4 : (X.setCell ⟨I, 3, none⟩ (.slice none 0 0)).cell? ⟨I, 4, none⟩ = some (.int .i64 k2) := (hbX.set_ 3 (.slice none 0 0)).cell 4
              rw [e3, e4, mo3, mo4]
              simp only [Option.getD_some, intOf, sliceLen, Int.toNat_natCast]
              omega
      · go_wp2_with fail
        go_ret2
        refine ⟨hbel.trans hbs, [], nBlk l, hI2, ?_, ?_⟩
        · rw [hs.out]; show restB l (nBlk l) = (seekR n (restB l k1)).tail; rw [hs2, restB_end]; rfl
        · rw [hs.out]; show _ = Ending.returned (match seekR n (restB l k1) with | [] => _ | x :: _ => _); rw [hs2]; rfl
    · have lt0o : (0 : Int) < (xs1.length : Int) := by have := List.length_pos_iff.2 hne; omega
      obtain ⟨W, hW⟩ : ∃ W, W = wo := ⟨_, rfl⟩
      obtain ⟨xs2, hxs2⟩ : ∃ xs2, xs2 = xs1 := ⟨_, rfl⟩
      subst hW
      subst hxs2
      have hI2 := hI1
      have hne2 := hne
      obtain ⟨k2, hk2⟩ : ∃ k2, k2 = k1 := ⟨_, rfl⟩
      subst hk2
      obtain ⟨A, c, Ah, ch, Ao, co, h1, h2, h3, h4, h5, h6, h7, h8⟩ := hI2.ex
      have h0 : 0 < xs2.length := List.length_pos_iff.2 hne2
      obtain ⟨b, off, rfl, hb1, hb2, hbc⟩ := h8 h0
      have ci3 : W.cell? ⟨I, 3, none⟩ = some (.slice (some ⟨b, off, none⟩) xs2.length co) := h4.cell 3
      obtain ⟨rfl, rfl⟩ : A3 = some ⟨b, off, none⟩ ∧ co = c3 := by have e := mo3.symm.trans ci3; simp at e; exact ⟨e.1, e.2.symm⟩
      have fi3 := h4.frozen 3
      have lt0 : (0 : Int) < (xs2.length : Int) := by omega
      have mI4 : W.cell? ⟨I, 4, none⟩ = some (.int .i64 k2) := h4.cell 4
      go_wp2_with fail
      go_loopw [26] (fun i wr => ∃ j : Nat, j ≤ xs2.length ∧ i = .int .i64 j ∧ Hid (∀ x ∈ xs2.take j, x < n) ∧ Below W.heap.size W wr) (fun i _ => xs2.length - (intOf i).toNat)
      case atStart => exact ⟨0, by omega, rfl, Lib.hid (by simp), Below.refl _ _⟩
      case round =>
        obtain ⟨j, hj, rfl, htk, hbj⟩ := hrel
        obtain ⟨X, rfl⟩ : ∃ X : World, X = wr := ⟨_, rfl⟩
        have sX := hbj.size
        have ci3X : X.cell? ⟨I, 3, none⟩ = some (.slice (some ⟨b, off, none⟩) xs2.length co) := (hbj.cell (p := ⟨I, 3, none⟩) hI2.lt).trans ci3
        have hIX := hI2.below hbj
        have hbX := h4.below hbj hI2.lt
        have fi3X := hbX.frozen 3
        by_cases hlt : j < xs2.length
        · have lt1 : (j : Int) < (xs2.length : Int) := by omega
          obtain ⟨x, hx⟩ : ∃ x, x = xs2[j] := ⟨_, rfl⟩
          have cx : X.cell? ⟨b, off + j, none⟩ = some (.int .u64 (x : Int)) := by
            rw [hbj.cell (p := ⟨b, off + j, none⟩) hb2, hbc j hlt, List.getElem?_eq_getElem hlt, hx]; rfl
          have w1 : IntKind.i64.wrap ((j : Int) + 1) = (j : Int) + 1 := by rw [IntKind.wrap_i64]; omega
          have Hx := Lib.hid hx; clear hx
          have Hbc := Lib.hid hbc; clear hbc
          by_cases hxn : n ≤ x
          · have hxn' : (n : Int) ≤ (x : Int) := by omega
            obtain ⟨m, hm⟩ : ∃ m, m = xs2.length - (j + 1) := ⟨_, rfl⟩
            obtain ⟨mc, hmc⟩ : ∃ mc, mc = co - (j + 1) := ⟨_, rfl⟩
            have l1 : (j : Int) + 1 ≤ (xs2.length : Int) := by omega
            have l2 : (j : Int) + 1 ≤ (co : Int) := by omega
            have l3 : (xs2.length : Int) ≤ (co : Int) := by omega
            have l0 : (0 : Int) ≤ (j : Int) + 1 := by omega
            obtain ⟨AA, hAA⟩ : ∃ AA : Option Addr, (if co = j + 1 then some (⟨b, off, none⟩ : Addr) else some ⟨b, off + (j + 1), none⟩) = AA := ⟨_, rfl⟩
            go_wp2_with fail
            go_ret2
            have hsk : seekR n (xs ++ restB l k) = x :: (xs2.drop (j + 1) ++ restB l k2) := by
              rw [hs.out, show seekR n (xs2 ++ restB l k2) = seekR n (xs2 ++ restB l k2) from rfl]
              have e1 : xs2 ++ restB l k2 = xs2.take j ++ x :: (xs2.drop (j + 1) ++ restB l k2) := by
                have h9 : xs2 = xs2.take j ++ x :: xs2.drop (j + 1) := by rw [Hx.out, ← List.drop_eq_getElem_cons hlt, List.take_append_drop]
                conv => lhs; rw [h9]
                simp
              rw [e1]
              exact seekR_hit (fun y hy => htk.out y hy) hxn
            have hyl : (xs2.drop (j + 1)).length = xs2.length - (j + 1) := by rw [List.length_drop]
            have hop : OpenIs X I AA (xs2.drop (j + 1)) := fun h9 => by
              refine ⟨b, off + (j + 1), ?_, hb1, by omega, fun i hi => ?_⟩
              · rw [← hAA, if_neg (by omega)]
              · rw [hbj.cell (p := ⟨b, off + (j + 1) + i, none⟩) hb2, show off + (j + 1) + i = off + (j + 1 + i) by omega, Hbc.out (j + 1 + i) (by omega), List.getElem?_drop]
            have hI7 := hIX.setOpen (ys := xs2.drop (j + 1)) (Ao' := AA) (co' := co - (j + 1)) (by omega) (by omega) hop
            rw [hyl] at hI7
            refine ⟨(hbel.trans (Below.refl _ _)).trans ((hbj.mono (Nat.le_of_lt hI2.lt)).setCell (p := ⟨I, 3, none⟩) (Nat.le_refl _) _), _, k2, hI7, by rw [hsk]; rfl, by rw [hsk]; rfl⟩
          · have hxn' : ¬ (n : Int) ≤ (x : Int) := by omega
            go_wp2_with fail
            case roundEnd =>
              refine ⟨⟨j + 1, by omega, by simp, Lib.hid ?_, hbj⟩, by simp [intOf]; omega⟩
              intro y hy
              rw [List.take_succ_eq_append_getElem hlt, List.mem_append] at hy
              rcases hy with hy | hy
              · exact htk.out y hy
              · rw [List.mem_singleton.1 hy, ← Hx.out]; omega
        · obtain rfl : j = xs2.length := by omega
          go_wp2_with fail
          refine ⟨⟨[], k2, hIX.setOpen (ys := []) (Ao' := none) (co' := 0) (by simp) (by simp) (fun h => absurd h (by simp)), Lib.hid ?_, (hbel.trans (Below.refl _ _)).trans (((hbj.mono (Nat.le_of_lt hI2.lt)).setCell (p := ⟨I, 3, none⟩) (Nat.le_refl _) _))⟩, ?_⟩
          · rw [hs.out, show seekR n (xs2 ++ restB l k2) = seekR n (xs2 ++ restB l k2) from rfl, seekR_skip (fun y hy => htk.out y (by rw [List.take_length]; exact hy))]; rfl
          · have e3 : (X.setCell ⟨I, 3, none⟩ (.slice none 0 0)).cell? ⟨I, 3, none⟩ = some (.slice none 0 0) := (hbX.set_ 3 (.slice none 0 0)).cell 3
            have e4 : (X.setCell ⟨I, 3, none⟩ (.slice none 0 0)).cell? ⟨I, 4, none⟩ = some (.int .i64 k2) := (hbX.set_ 3 (.slice none 0 0)).cell 4
            rw [e3, e4, mo3, mo4]
            simp only [Option.getD_some, intOf, sliceLen, Int.toNat_natCast]
            omega
end Go.Proofs.Ytmalkgakdmghiaa
