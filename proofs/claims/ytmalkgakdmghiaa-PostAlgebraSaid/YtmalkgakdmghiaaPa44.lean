import Derived.Test.YtmalkgakdmghiaaPa43
import Derived.Test.YtmalkgakdmghiaaPa38
/-! layer 11: read -/
namespace Go.Proofs.Ytmalkgakdmghiaa
open Go.RowKit Go.Shelf Garner

set_option maxRecDepth 100000 in
set_option maxHeartbeats 4000000 in
theorem vReadH (bs : List (List Nat)) (bb : Bs) (A : Option Addr) (c I : Nat) (w : World) (n0 op0 nx0 : Value) (hok : BlksOk bs) (hbb : bb = bytesB bs) (hb : Bytes w I A bb.length bb) (hc : bb.length ≤ c)
    (hI : Blk w I 47 [.slice A bb.length c, .slice none 0 0, n0, op0, nx0]) :
    Calls Try.prog 19 #[.pointer (some ⟨I, 0, none⟩)] w fun e w' => ∃ hv, e = .returned (.bool true) ∧ Blk w' I 47 [.slice A bb.length c, hv, n0, op0, nx0] ∧
      w'.ownsRow (I + 1) 65 3 hv bs.length (hdC bs (put1 bs.length ++ headB bs).length bs.length bs.length) ∧ Below I w w' := by
  have hn16 := hok.n
  have hbl : bb.length ≤ 5000000 := by rw [hbb]; exact hok.len
  obtain ⟨nb, hnb⟩ : ∃ nb, nb = bs.length := ⟨_, rfl⟩
  obtain ⟨at0, hat0⟩ : ∃ at0, at0 = (put1 bs.length).length := ⟨_, rfl⟩
  have hg0 : vget bb 0 = .ok (nb, at0) := by
    have := vget_put1 [] (headB bs ++ bodyB bs) bs.length (by omega)
    rw [hbb, hnb, hat0]; simpa [bytesB] using this
  have z0 : ¬ (65536 : Int) < (nb : Int) := by omega
  have c0 : w.cell? ⟨I, 0, none⟩ = some (.slice A bb.length c) := hI.cell 0
  have Hbb := Lib.hid hbb; clear hbb
  have Hnb := Lib.hid hnb; clear hnb
  have Hat0 := Lib.hid hat0; clear hat0
  have Hok := Lib.hid hok; clear hok
  rw [← Hnb.out] at hn16
  go_enter Try.func19, Try.ntmps19
  go_wp2_with fail
  refine (vGet bb A c I w 0 hb hc (by omega) (by omega)).mono ?_
  rintro e w1 ⟨rfl, rfl⟩
  rw [hg0]
  unfold vgetV
  go_wp2_with fail
  go_loopw [4, 6, 29] (fun a sz i wr => ∃ (k : Nat) (hv : Value), k ≤ nb ∧ i = .int .u64 k ∧ a = .int .i64 (at0 + (headB (bs.take k)).length : Nat) ∧ OwnU wr w.heap.size sz ((bs.take k).map fun p => (packB p).length) ∧ Blk wr I 47 [.slice A bb.length c, hv, n0, op0, nx0] ∧
    wr.ownsRow w.heap.size 65 3 hv k (hdC bs 0 0 k) ∧ Below I w wr) (fun _ _ i _ => nb - (intOf i).toNat)
  case atStart => exact ⟨0, _, by omega, rfl, by simp [headB], World.ownsRow_nil _ _ _ _, hI, World.ownsRow_nil _ _ _ _, Below.refl _ _⟩
  case round =>
    obtain ⟨k, hv, hk, rfl, rfl, owns, bI, ownh, hbel⟩ := hrel
    obtain ⟨wo, rfl⟩ : ∃ wo : World, wo = wr := ⟨_, rfl⟩
    by_cases hlt : k < nb
    · have hkb : k < bs.length := by rw [← Hnb.out]; exact hlt
      obtain ⟨-, -, -, -, o4, o5⟩ := Hok.out.ok bs[k] (List.getElem_mem _)
      obtain ⟨a1, hg1, hg2, ha1⟩ := heads_get hkb o4 (by omega)
      obtain ⟨x, hx⟩ : ∃ x, x = lastN bs[k] := ⟨_, rfl⟩
      obtain ⟨y, hy⟩ : ∃ y, y = (packB bs[k]).length := ⟨_, rfl⟩
      obtain ⟨a0, ha0⟩ : ∃ a0, a0 = at0 + (headB (bs.take k)).length := ⟨_, rfl⟩
      obtain ⟨a2, ha2⟩ : ∃ a2, a2 = at0 + (headB (bs.take (k + 1))).length := ⟨_, rfl⟩
      rw [← Hbb.out, ← Hat0.out, ← hx, ← ha0] at hg1
      rw [← Hbb.out, ← Hat0.out, ← hy, ← ha2] at hg2
      rw [← Hbb.out] at ha1
      have ha0l : a0 ≤ bb.length := by
        rcases Nat.lt_or_ge bb.length a0 with h | h
        · exfalso
          have := hg1
          unfold vget at this
          rw [List.drop_eq_nil_of_le (by omega)] at this
          simp [vgetAux] at this
        · exact h
      rw [← ha0]
      have x64 : x < 18446744073709551616 := by rw [hx]; exact o4
      have y1000 : y ≤ 1000 := by rw [hy]; exact o5
      have Hx := Lib.hid hx; clear hx
      have Hy := Lib.hid hy; clear hy
      have Ha0 := Lib.hid ha0; clear ha0
      have Ha2 := Lib.hid ha2; clear ha2
      have Hg1 := Lib.hid hg1; clear hg1
      have Hg2 := Lib.hid hg2; clear hg2
      have Ho := Lib.hid (And.intro o4 o5); clear o4 o5
      have Hx64 := Lib.hid x64; clear x64
      obtain ⟨Ah, ch, rfl, -⟩ := own_form ownh
      obtain ⟨nk, hnk⟩ : ∃ nk, nk = ((bs.take k).map fun p => (packB p).length).length := ⟨_, rfl⟩
      unfold OwnU at owns
      rw [← hnk] at owns
      have hnk2 : nk = k := by rw [hnk]; simp; omega
      subst hnk2
      clear hnk
      obtain ⟨As, cs, rfl, -⟩ := own_form owns
      have c0k : wo.cell? ⟨I, 0, none⟩ = some (.slice A bb.length c) := bI.cell 0
      have c1k : wo.cell? ⟨I, 1, none⟩ = some (.slice Ah nk ch) := bI.cell 1
      have f1k := bI.frozen 1
      have lt1 : (nk : Int) < (nb : Int) := by omega
      have w1 : IntKind.u64.wrap ((nk : Int) + 1) = ((nk + 1 : Nat) : Int) := by rw [IntKind.wrap_u64]; omega
      have sB := hbel.size
      have hIw := hI.lt
      go_wp2_with fail
      refine (vGet bb A c I wo a0 (hb.below hbel) hc ha0l (by omega)).mono ?_
      rintro e wx ⟨rfl, rfl⟩
      rw [Hg1.out]
      unfold vgetV
      go_wp2_with fail
      refine (vGet bb A c I wo a1 (hb.below hbel) hc ha1 (by omega)).mono ?_
      rintro e wx ⟨rfl, rfl⟩
      rw [Hg2.out]
      unfold vgetV
      have hnoI : (Value.slice Ah nk ch).ownBlock = none ∨ (Value.slice Ah nk ch).ownBlock ≠ some I := .inr fun e => by have := (own_ge ownh I (by rw [e]; simp)).1; omega
      have hnoS : (Value.slice As nk cs).ownBlock = none ∨ (Value.slice As nk cs).ownBlock ≠ some I := .inr fun e => by have := (own_ge owns I (by rw [e]; simp)).1; omega
      have hHS : (Value.slice As nk cs).ownBlock = none ∨ (Value.slice As nk cs).ownBlock ≠ (Value.slice Ah nk ch).ownBlock := by
        rcases Option.eq_none_or_eq_some (Value.slice As nk cs).ownBlock with h | ⟨g, h⟩
        · exact .inl h
        · exact .inr fun e => own_own ownh owns (by decide) g h (by rw [← e, h]; simp)
      have keyH : ∀ (o : Obj) (wh : World), (wo.alloc o).grownBy wh (Value.slice Ah nk ch).ownBlock → Blk wh I 47 [.slice A bb.length c, .slice Ah nk ch, n0, op0, nx0] ∧ wh.ownsRow w.heap.size 31 1 (.slice As nk cs) nk (((bs.take nk).map fun p => (packB p).length).map u64v) := fun o wh hgh => by
        refine ⟨(bI.alloc o).grown hgh fun e => ?_, own_grown (owns.alloc o) hgh hHS⟩
        rcases hnoI with h | h
        · rw [h] at e; cases e
        · exact h e.symm
      go_upto_region 15 with (at_builtin; refine wpList_app _ rfl hdE rfl rfl (ownh.alloc _) rfl (row_newN wo 65 3 1 [.int .u64 (x : Int), .int .i64 0, .int .i64 0] rfl) (by simp [Value.oneCell']) (by omega) (by simp; omega) ?_; intro vh wh ownh2 hgh hbh hvh; obtain ⟨bIh, ownsh⟩ := keyH _ _ hgh; obtain ⟨A3, c3, rfl, -⟩ := own_form ownh2; have c1h := bIh.cell 1; have f1h := bIh.frozen 1; simp only [List.getElem?_cons_succ, List.getElem?_cons_zero] at c1h)
      have shh := hbh.size
      simp only [World.size_alloc] at shh
      have k1 : w.heap.size ≤ ((wh.setCell ⟨I, 1, none⟩ (.slice A3 (nk + 1) c3)).alloc (.cells #[.int .u64 (y : Int)] 31)).heap.size := by simp; omega
      have k2' : (wh.setCell ⟨I, 1, none⟩ (.slice A3 (nk + 1) c3)).ownsRow w.heap.size 31 1 (.slice As nk cs) nk (((bs.take nk).map fun p => (packB p).length).map u64v) := ownsRow_setCell_below ownsh (a := ⟨I, 1, none⟩) hIw _
      have rowy : Row ((wh.setCell ⟨I, 1, none⟩ (.slice A3 (nk + 1) c3)).alloc (.cells #[.int .u64 (y : Int)] 31)) (wh.heap.size + 1) 1 (some ⟨wh.heap.size, 0, none⟩) 1 [.int .u64 (y : Int)] := by
        have h := row_new (wh.setCell ⟨I, 1, none⟩ (.slice A3 (nk + 1) c3)) 31 [.int .u64 (y : Int)]
        rw [show (wh.setCell ⟨I, 1, none⟩ (.slice A3 (nk + 1) c3)).heap.size = wh.heap.size by simp] at h
        exact h
      go_wp2_with (at_builtin; refine wpList_app _ rfl u64E rfl rfl (k2'.alloc _) rfl rowy (by simp [Value.oneCell']) (by show (nk + 1) * 8 ≤ _; omega) k1 ?_; intro vs ws owns2 hgs hbs hvs)
      case roundEnd =>
        have hgs' : World.grownBy _ ws (Value.slice As nk cs).ownBlock := hgs
        have bI3 : Blk (wh.setCell ⟨I, 1, none⟩ (.slice A3 (nk + 1) c3)) I 47 [.slice A bb.length c, .slice A3 (nk + 1) c3, n0, op0, nx0] := bIh.set_ 1 _
        have ownh3 : (wh.setCell ⟨I, 1, none⟩ (.slice A3 (nk + 1) c3)).ownsRow w.heap.size 65 3 (.slice A3 (nk + 1) c3) (nk + 1) (hdC bs 0 0 nk ++ [.int .u64 (x : Int), .int .i64 0, .int .i64 0]) := ownsRow_setCell_below ownh2 (a := ⟨I, 1, none⟩) hIw _
        have hSA : ∀ g, (Value.slice A3 (nk + 1) c3).ownBlock = some g → g ∉ (Value.slice As nk cs).ownBlock.toList := own_own k2' ownh3 (by decide)
        have hbx : Below I wo ws := by
          have h1 : Below I wo wh := ((Below.refl _ _).alloc (by omega) _).trans (hbh.mono (by omega))
          have h2 := (h1.setCell (p := ⟨I, 1, none⟩) (Nat.le_refl _) (.slice A3 (nk + 1) c3)).alloc (by simp; omega) (.cells #[.int .u64 (y : Int)] 31)
          exact h2.trans (hbs.mono (by omega))
        refine ⟨⟨nk + 1, .slice A3 (nk + 1) c3, by omega, by simp, by rw [Ha2.out], ?_, (bI3.alloc _).grown hgs' (fun e => ?_), ?_, hbel.trans hbx⟩, by simp [intOf]; omega⟩
        · have e1 : (bs.take (nk + 1)).map (fun p => (packB p).length) = (bs.take nk).map (fun p => (packB p).length) ++ [y] := by
            rw [List.take_succ_eq_append_getElem hkb, List.map_append, Hy.out]; rfl
          rw [e1]
          have e2 : (((bs.take nk).map fun p => (packB p).length) ++ [y]).length = nk + 1 := by simp; omega
          unfold OwnU
          rw [e2, List.map_append]
          exact owns2
        · rcases hnoS with h | h
          · rw [h] at e; cases e
          · exact h e.symm
        · rw [hdC_snoc, List.getElem?_eq_getElem hkb, Option.getD_some, ← Hx.out]
          exact own_grown (ownh3.alloc _) hgs' (by
            rcases Option.eq_none_or_eq_some (Value.slice A3 (nk + 1) c3).ownBlock with h | ⟨g, h⟩
            · exact .inl h
            · exact .inr fun e => hSA g h (by rw [← e, h]; simp))
    · obtain rfl : k = nb := by omega
      obtain ⟨Ah, ch, rfl, -⟩ := own_form ownh
      obtain ⟨nk, hnk⟩ : ∃ nk, nk = ((bs.take k).map fun p => (packB p).length).length := ⟨_, rfl⟩
      unfold OwnU at owns
      rw [← hnk] at owns
      have hnk2 : nk = k := by have := Hnb.out; rw [hnk]; simp; omega
      subst hnk2
      clear hnk
      rw [show bs.take nk = bs by rw [Hnb.out, List.take_length]] at owns ⊢
      obtain ⟨As, cs, rfl, -⟩ := own_form owns
      obtain ⟨a0, ha0⟩ : ∃ a0, a0 = at0 + (headB bs).length := ⟨_, rfl⟩
      rw [← ha0]
      have ha0l : a0 + (bodyB bs).length = bb.length := by
        rw [Hbb.out, ha0, Hat0.out]; unfold bytesB; simp only [List.length_append]; omega
      have Ha0 := Lib.hid ha0; clear ha0
      have c0k : wo.cell? ⟨I, 0, none⟩ = some (.slice A bb.length c) := bI.cell 0
      have c1k : wo.cell? ⟨I, 1, none⟩ = some (.slice Ah nk ch) := bI.cell 1
      have sB := hbel.size
      have hIw := hI.lt
      rw [hdC_zero bs 0 a0] at ownh
      have Hg0 := Lib.hid hg0; clear hg0
      have hbx := hb.below hbel
      go_wp2
      go_loopw [4, 74] (fun a i wr => ∃ (k : Nat), k ≤ nk ∧ i = .int .i64 k ∧ a = .int .i64 (atB a0 bs k : Nat) ∧ Blk wr I 47 [.slice A bb.length c, .slice Ah nk ch, n0, op0, nx0] ∧ wr.ownsRow w.heap.size 31 1 (.slice As nk cs) nk ((bs.map fun p => (packB p).length).map u64v) ∧
        wr.ownsRow w.heap.size 65 3 (.slice Ah nk ch) nk (hdC bs a0 k nk) ∧ Below I wo wr) (fun _ i _ => nk - (intOf i).toNat)
      case atStart => exact ⟨0, by omega, rfl, by simp [atB, bodyB], bI, owns, ownh, Below.refl _ _⟩
      case round =>
        obtain ⟨k, hk, rfl, rfl, bI', owns', ownh', hbel'⟩ := hrel
        obtain ⟨wp, rfl⟩ : ∃ wp : World, wp = wr := ⟨_, rfl⟩
        by_cases hlt : k < nk
        · have hkb : k < bs.length := by rw [← Hnb.out]; exact hlt
          obtain ⟨-, -, -, -, -, o5⟩ := Hok.out.ok bs[k] (List.getElem_mem _)
          obtain ⟨y, hy⟩ : ∃ y, y = (packB bs[k]).length := ⟨_, rfl⟩
          obtain ⟨a1, ha1⟩ : ∃ a1, a1 = atB a0 bs k := ⟨_, rfl⟩
          obtain ⟨a2, ha2⟩ : ∃ a2, a2 = atB a0 bs (k + 1) := ⟨_, rfl⟩
          have ha12 : a2 = a1 + y := by rw [ha2, ha1, hy]; exact atB_succ hkb
          have ha2l : a2 ≤ bb.length := by rw [ha2, ← ha0l]; exact atB_end
          obtain ⟨q, rfl, hq1, hq2, hq3, hq4, hq5⟩ := own_at owns' (by omega)
          obtain ⟨g, rfl, hg1, hg2, hg3, hg4, hg5⟩ := own_at ownh' (by omega)
          have cq : wp.cell? ⟨q, k, none⟩ = some (.int .u64 (y : Int)) := by
            rw [hq5 k (by omega), List.getElem?_map, List.getElem?_map, List.getElem?_eq_getElem hkb, hy]; rfl
          have cg : wp.cell? ⟨g, k * 3 + 1, none⟩ = some (.int .i64 0) := by
            rw [hg5 (k * 3 + 1) (by omega), hdC_at _ _ _ _ _ (by omega)]; unfold hdF; rw [if_neg (by omega), if_neg (by omega)]
          have cg2 : wp.cell? ⟨g, k * 3 + 2, none⟩ = some (.int .i64 0) := by
            rw [hg5 (k * 3 + 2) (by omega), hdC_at _ _ _ _ _ (by omega)]; unfold hdF; rw [if_neg (by omega), if_neg (by omega)]
          have fg := ownh'.frozenAt
          have hIw := hI.lt
          clear hq5 hg5
          obtain ⟨d, hd⟩ : ∃ d, d = bb.length - a1 := ⟨_, rfl⟩
          have w1 : IntKind.i64.wrap ((bb.length : Int) - (a1 : Int)) = (d : Int) := by rw [IntKind.wrap_i64]; omega
          have w2 : IntKind.u64.wrap (d : Int) = (d : Int) := by rw [IntKind.wrap_u64]; omega
          have z2 : ¬ (d : Int) < (y : Int) := by omega
          have w3 : IntKind.i64.wrap (y : Int) = (y : Int) := by rw [hy, IntKind.wrap_i64]; omega
          have w4 : IntKind.i64.wrap ((a1 : Int) + (y : Int)) = (a2 : Int) := by rw [IntKind.wrap_i64]; omega
          have w5 : IntKind.i64.wrap ((k : Int) + 1) = ((k + 1 : Nat) : Int) := by rw [IntKind.wrap_i64]; omega
          have lt1 : (k : Int) < (nk : Int) := by omega
          have c0p : wp.cell? ⟨I, 0, none⟩ = some (.slice A bb.length c) := bI'.cell 0
          rw [← ha1]
          have Hy := Lib.hid hy; clear hy
          have Ha1 := Lib.hid ha1; clear ha1
          have Ha2 := Lib.hid ha2; clear ha2
          have Ha12 := Lib.hid ha12; clear ha12
          have Hd := Lib.hid hd; clear hd
          have Ha0l := Lib.hid ha0l; clear ha0l
          go_upto_region 22 with fail
          refine wp_region_N (fun w' => Blk w' I 47 [.slice A bb.length c, .slice (some ⟨g, 0, none⟩) nk ch, n0, op0, nx0]) 20 (by kernel_rfl) ?_
          have hS0 : Blk wp.drew I 47 [.slice A bb.length c, .slice (some ⟨g, 0, none⟩) nk ch, n0, op0, nx0] := bI'
          have y0 : ∀ w', Blk w' I 47 [.slice A bb.length c, .slice (some ⟨g, 0, none⟩) nk ch, n0, op0, nx0] → w'.cell? ⟨I, 1, none⟩ = some (.slice (some ⟨g, 0, none⟩) nk ch) := fun w' h => h.cell 1
          apply wpAnyN_takeL 0 (by kernel_rfl) rfl (fun _ _ _ h => h) (by kernel_rfl) hS0
          · intro w' hS'
            go_simp; exact ⟨rfl, rfl⟩
          (try simp only [Act.put]); (try simp only [List.setIfInBounds_toArray]); (try simp only [List.set])
          apply wpAnyN_takeL 1 (by kernel_rfl) rfl (fun _ _ _ h => h) (by kernel_rfl) hS0
          · intro w' hS'
            go_simp; exact ⟨rfl, rfl⟩
          (try simp only [Act.put]); (try simp only [List.setIfInBounds_toArray]); (try simp only [List.set])
          apply wpAnyN_takeL 2 (by kernel_rfl) rfl (fun _ _ _ h => h) (by kernel_rfl) hS0
          · intro w' hS'
            go_simp; exact ⟨rfl, rfl⟩
          (try simp only [Act.put]); (try simp only [List.setIfInBounds_toArray]); (try simp only [List.set])
          apply wpAnyN_takeL 3 (by kernel_rfl) rfl (fun _ _ _ h => h) (by kernel_rfl) hS0
          · intro w' hS'
            go_simp; exact ⟨rfl, rfl⟩
          (try simp only [Act.put]); (try simp only [List.setIfInBounds_toArray]); (try simp only [List.set])
          apply wpAnyN_takeL 4 (by kernel_rfl) rfl (fun _ _ _ h => h) (by kernel_rfl) hS0
          · intro w' hS'
            go_simp; exact ⟨rfl, rfl⟩
          (try simp only [Act.put]); (try simp only [List.setIfInBounds_toArray]); (try simp only [List.set])
          apply wpAnyN_takeL 5 (by kernel_rfl) rfl (fun _ _ _ h => h) (by kernel_rfl) hS0
          · intro w' hS'
            go_simp; exact ⟨rfl, rfl⟩
          (try simp only [Act.put]); (try simp only [List.setIfInBounds_toArray]); (try simp only [List.set])
          apply wpAnyN_takeL 6 (by kernel_rfl) rfl (fun _ _ _ h => h) (by kernel_rfl) hS0
          · intro w' hS'
            go_simp; exact ⟨rfl, rfl⟩
          (try simp only [Act.put]); (try simp only [List.setIfInBounds_toArray]); (try simp only [List.set])
          apply wpAnyN_takeL 7 (by kernel_rfl) rfl (fun _ _ _ h => h) (by kernel_rfl) hS0
          · intro w' hS'
            go_simp; exact ⟨rfl, rfl⟩
          (try simp only [Act.put]); (try simp only [List.setIfInBounds_toArray]); (try simp only [List.set])
          apply wpAnyN_takeL 8 (by kernel_rfl) rfl (fun _ _ _ h => h) (by kernel_rfl) hS0
          · intro w' hS'
            go_simp; exact ⟨rfl, rfl⟩
          (try simp only [Act.put]); (try simp only [List.setIfInBounds_toArray]); (try simp only [List.set])
          apply wpAnyN_takeL 9 (by kernel_rfl) rfl (fun _ _ _ h => h) (by kernel_rfl) hS0
          · intro w' hS'
            go_simp; exact ⟨rfl, rfl⟩
          (try simp only [Act.put]); (try simp only [List.setIfInBounds_toArray]); (try simp only [List.set])
          apply wpAnyN_takeL 10 (by kernel_rfl) rfl (fun _ _ _ h => h) (by kernel_rfl) hS0
          · intro w' hS'
            go_simp; exact ⟨rfl, rfl⟩
          (try simp only [Act.put]); (try simp only [List.setIfInBounds_toArray]); (try simp only [List.set])
          apply wpAnyN_takeL 11 (by kernel_rfl) rfl (fun _ _ _ h => h) (by kernel_rfl) hS0
          · intro w' hS'
            go_simp; exact ⟨rfl, rfl⟩
          (try simp only [Act.put]); (try simp only [List.setIfInBounds_toArray]); (try simp only [List.set])
          apply wpAnyN_takeL 12 (by kernel_rfl) rfl (fun _ _ _ h => h) (by kernel_rfl) hS0
          · intro w' hS'
            go_simp; exact ⟨rfl, rfl⟩
          (try simp only [Act.put]); (try simp only [List.setIfInBounds_toArray]); (try simp only [List.set])
          apply wpAnyN_takeL 13 (by kernel_rfl) rfl (fun _ _ _ h => h) (by kernel_rfl) hS0
          · intro w' hS'
            go_simp; exact ⟨rfl, rfl⟩
          (try simp only [Act.put]); (try simp only [List.setIfInBounds_toArray]); (try simp only [List.set])
          apply wpAnyN_takeL 14 (by kernel_rfl) rfl (fun _ _ _ h => h) (by kernel_rfl) hS0
          · intro w' hS'
            go_simp; exact ⟨rfl, rfl⟩
          (try simp only [Act.put]); (try simp only [List.setIfInBounds_toArray]); (try simp only [List.set])
          apply wpAnyN_takeL 15 (by kernel_rfl) rfl (fun _ _ _ h => h) (by kernel_rfl) hS0
          · intro w' hS'
            go_simp; exact ⟨rfl, rfl⟩
          (try simp only [Act.put]); (try simp only [List.setIfInBounds_toArray]); (try simp only [List.set])
          apply wpAnyN_takeL 16 (by kernel_rfl) rfl (fun _ _ _ h => h) (by kernel_rfl) hS0
          · intro w' hS'
            go_simp; exact ⟨rfl, rfl⟩
          (try simp only [Act.put]); (try simp only [List.setIfInBounds_toArray]); (try simp only [List.set])
          have cgd : wp.drew.cell? ⟨g, k * 3 + 1, none⟩ = some (.int .i64 0) := cg
          have fgd : wp.drew.frozen? ⟨g, k * 3 + 1, none⟩ = false := fg _
          refine wpAnyN_runL 17 (by kernel_rfl) rfl (by kernel_rfl) (fun K hK => ?_)
          go_simp
          obtain ⟨W1, hW1⟩ : ∃ W1, W1 = wp.setCell ⟨g, k * 3 + 1, none⟩ (.int .i64 (a1 : Int)) := ⟨_, rfl⟩
          have bI1 : Blk W1 I 47 [.slice A bb.length c, .slice (some ⟨g, 0, none⟩) nk ch, n0, op0, nx0] := by rw [hW1]; exact bI'.far (p := ⟨g, k * 3 + 1, none⟩) (by show I ≠ g; omega) _
          have ownh1 : W1.ownsRow w.heap.size 65 3 (.slice (some ⟨g, 0, none⟩) nk ch) nk ((hdC bs a0 k nk).set (k * 3 + 1) (.int .i64 (a1 : Int))) := by rw [hW1]; exact own_setC ownh'
          have owns1 : W1.ownsRow w.heap.size 31 1 (.slice (some ⟨q, 0, none⟩) nk cs) nk ((bs.map fun p => (packB p).length).map u64v) := by rw [hW1]; exact ownsRow_setCell_other owns' (fun e => own_own ownh' owns' (by decide) g e (by simp [Value.ownBlock])) _
          have cg2' : W1.cell? ⟨g, k * 3 + 2, none⟩ = some (.int .i64 0) := by rw [hW1]; exact (World.cell?_setCell_other _ _ _ _ (by simp)).trans cg2
          have bel1 : Below I wo W1 := by rw [hW1]; exact hbel'.setCell (by show I ≤ g; omega) _
          rw [← hW1]
          have HW1 := Lib.hid hW1; clear hW1
          have hS1 : Blk W1.drew I 47 [.slice A bb.length c, .slice (some ⟨g, 0, none⟩) nk ch, n0, op0, nx0] := bI1
          refine hK _ _ (fun _ => hS1) ?_
          clear hK K
          (try simp only [Act.put]); (try simp only [List.setIfInBounds_toArray]); (try simp only [List.set])
          refine wpAnyN_runL 18 (by kernel_rfl) rfl (by kernel_rfl) (fun K hK => ?_)
          go_simp
          refine hK _ _ (fun _ => hS1) ?_
          clear hK K
          (try simp only [Act.put]); (try simp only [List.setIfInBounds_toArray]); (try simp only [List.set])
          refine wpAnyN_runL 19 (by kernel_rfl) rfl (by kernel_rfl) (fun K hK => ?_)
          go_simp
          refine hK _ _ (fun _ => hS1) ?_
          clear hK K
          (try simp only [Act.put]); (try simp only [List.setIfInBounds_toArray]); (try simp only [List.set])
          have fg2 : W1.drew.frozen? ⟨g, k * 3 + 2, none⟩ = false := ownh1.frozenAt _
          have cg2d : W1.drew.cell? ⟨g, k * 3 + 2, none⟩ = some (.int .i64 0) := cg2'
          refine wpAnyN_runL 20 (by kernel_rfl) rfl (by kernel_rfl) (fun K hK => ?_)
          go_simp
          refine hK _ _ (fun h => absurd rfl h) ?_
          clear hK K
          (try simp only [Act.put])
          refine wpAnyN_done (by kernel_rfl) ?_ _
          go_wp2
          case roundEnd =>
            refine ⟨⟨k + 1, by omega, by simp, by rw [Ha2.out], bI1.far (p := ⟨g, k * 3 + 2, none⟩) (by show I ≠ g; omega) _, ?_, ?_, (bel1.setCell (p := ⟨g, k * 3 + 2, none⟩) (by show I ≤ g; omega) _).drew⟩, by simp [intOf]; omega⟩
            · exact ownsRow_setCell_other owns1 (fun e => own_own ownh1 owns1 (by decide) g e (by simp [Value.ownBlock])) _
            · have e1 : hdC bs a0 (k + 1) nk = ((hdC bs a0 k nk).set (k * 3 + 1) (.int .i64 (a1 : Int))).set (k * 3 + 2) (.int .i64 (a2 : Int)) := by
                rw [← hdC_set bs a0 k nk hlt, Ha1.out, Ha2.out, Nat.mul_comm]
              rw [e1]
              exact own_setC ownh1
        · obtain rfl : k = nk := by omega
          have c0p : wp.cell? ⟨I, 0, none⟩ = some (.slice A bb.length c) := bI'.cell 0
          have hend : atB a0 bs k = bb.length := by rw [Hnb.out, atB_all]; exact ha0l
          have Hend := Lib.hid hend
          rw [hend]
          clear hend
          go_wp2
          go_ret
          refine ⟨_, rfl, bI', ?_, hbel.trans hbel'⟩
          rw [Hnb.out] at ownh' ⊢
          have e0 : a0 = (put1 bs.length ++ headB bs).length := by rw [Ha0.out, Hat0.out, List.length_append]
          rw [← e0]
          exact own_mono ownh' (by have := hI.lt; omega)
end Go.Proofs.Ytmalkgakdmghiaa
