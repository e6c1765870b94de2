import Derived.Test.YtecejnilajbdpaaGreatDoorTu41
/-! query's scanner: text (printed by gen_qpe.py) -/
namespace Garner
open Go
theorem has_esc (d : UInt8) : Lib.contains [34, 92, 110] [d] = (decide (d = 34) || decide (d = 92) || decide (d = 110)) := by
  rw [Bool.eq_iff_iff, contains_one]
  simp [or_assoc]
end Garner
namespace Go.Proofs.YtecejnilajbdpaaGreatDoor
open Go.RowKit Go.Shelf Garner
/-- where text's loop stands -/
structure TxSt (w0 wr : World) (g : Nat) (S : Bs) (bad0 bad : Bool) (b : Bs) (v : Value) (i : Nat) : Prop where
  sc : ScanIs wr g S bad
  ob : wr.ownsRow w0.heap.size 5 1 v b.length (b.map bv)
  bu : But [g] w0 wr
  tx : TxS S bad0 b i bad
  le : b.length ≤ i
section
variable {w0 wr w' : World} {g i j : Nat} {S b : Bs} {bad0 ba : Bool} {v v' : Value} {c : UInt8}
/-- a byte more; the row was grown over a new box of one byte -/
theorem TxSt.add (h : TxSt w0 wr g S bad0 ba b v i) (hg : g < w0.heap.size) {o : Obj} (hgw : (wr.alloc o).grownBy w' v.ownBlock) (ho : w'.ownsRow w0.heap.size 5 1 v' (b.length + 1) (b.map bv ++ [bv c])) (e : textG (S.drop i) = (textG (S.drop j)).map fun x => (c :: x.1, x.2)) (hij : i < j) : TxSt w0 w' g S bad0 ba (b ++ [c]) v' j := by
  have hbl : Below wr.heap.size wr (wr.alloc o) := (Below.refl _ _).alloc (Nat.le_refl _) _
  have n1 : some g ≠ v.ownBlock := fun e => by have := (h.ob.lt g e.symm).1; omega
  have hbu : But v.ownBlock.toList (wr.alloc o) w' := But.grown hgw fun k hk => Option.mem_toList.2 hk
  refine ⟨(h.sc.below hbl h.sc.lt).grown hgw n1, ?_, (h.bu.trans (.of_below hbl)).old hbu fun x hx => .inr (h.ob.lt x (Option.mem_toList.1 hx)).1, h.tx.add e, by rw [List.length_append]; have := h.le; simp; omega⟩
  rw [List.length_append, List.map_append]; exact ho
theorem TxSt.bad (h : TxSt w0 wr g S bad0 ba b v i) (hg : g < w0.heap.size) (e : textG (S.drop i) = none) (hij : i < j) : TxSt w0 (wr.setCell ⟨g, 1, none⟩ (.bool true)) g S bad0 true b v j :=
  ⟨h.sc.set_ 1 (.bool true), own_but h.ob ((But.refl [g] wr).setCell (p := ⟨g, 1, none⟩) (by simp) _) (fun k hk hm => by rw [List.mem_singleton] at hm; have := (h.ob.lt k hk).1; omega), h.bu.setCell (by simp) _, h.tx.no e b j, by have := h.le; omega⟩
end
def STextO (g : Nat) (s : Bs) (bad : Bool) (w : World) (e : Ending) (w' : World) : Prop := ∃ t s' bad', e = .returned (strB t) ∧ ScanIs w' g s' bad' ∧ But [g] w w' ∧ s'.length ≤ s.length ∧ t.length ≤ s.length ∧ ((bad' = bad ∧ tok1 s = .tok (34 :: t) s') ∨ (bad' = true ∧ ∀ t r, tok1 s ≠ .tok (34 :: t) r))
set_option maxRecDepth 100000 in
set_option maxHeartbeats 32000000 in
/-- the loop: from a state in which the quote was taken -/
theorem vSText (g : Nat) (s : Bs) (bad : Bool) (w : World) (h : ScanIs w g s bad) (hl : s.length ≤ 1000000000) :
    Calls Tryz.prog 77 #[.pointer (some ⟨g, 0, none⟩)] w fun e w' => STextO g s bad w e w' := by
  have hn := vSNext g s ([34] : List UInt8) bad ⟨#[34]⟩ rfl w h
  have hnl := nextS_len ([34] : List UInt8) s
  obtain ⟨q, hq⟩ : ∃ q, Lib.hasPrefix (skipS s) [34] = q := ⟨_, rfl⟩
  obtain ⟨S, hS⟩ : ∃ S, nextS [34] s = S := ⟨_, rfl⟩
  rw [hS] at hn hnl
  rw [hq] at hn
  /- what the loop's end says of the whole -/
  have hend : ∀ bad1 : Bool, bad1 = (if q then bad else true) → ∀ (b' : Bool) (t s' : Bs), ((b' = bad1 ∧ textG S = some (t, s')) ∨ (b' = true ∧ textG S = none)) → ((b' = bad ∧ tok1 s = .tok (34 :: t) s') ∨ (b' = true ∧ ∀ t r, tok1 s ≠ .tok (34 :: t) r)) := by
    intro bad1 hb1 b' t s' hc
    cases q with
    | true =>
      obtain ⟨r, hr⟩ := has_head.1 hq
      have hS2 : S = r := by rw [← hS]; unfold nextS; rw [hq, hr]; rfl
      have htk : tok1 s = (match textG S with | some x => .tok (34 :: x.1) x.2 | none => .bad) := by rw [tok1, hr, tok0_quote, hS2]; cases textG r <;> rfl
      rcases hc with ⟨h1, h2⟩ | ⟨h1, h2⟩
      · exact .inl ⟨by rw [h1, hb1]; rfl, by rw [htk, h2]⟩
      · refine .inr ⟨h1, fun t r e => ?_⟩
        rw [htk, h2] at e
        cases e
    | false =>
      have hno : ∀ t r, tok1 s ≠ .tok (34 :: t) r := fun t r e => by
        obtain ⟨s', e2⟩ := tok_quote e
        rw [has_head.2 ⟨s', e2⟩] at hq
        cases hq
      rcases hc with ⟨h1, h2⟩ | ⟨h1, h2⟩
      · exact .inr ⟨by rw [h1, hb1]; rfl, hno⟩
      · exact .inr ⟨h1, hno⟩
  obtain ⟨T, eT, hT⟩ := str_form S
  obtain ⟨N, hN⟩ : ∃ N, S.length = N := ⟨_, rfl⟩
  rw [hN] at hnl
  have zT : T.size = N := by rw [hT, ← hN]; exact str_size S
  have Hg := Lib.hid h.lt
  have HN := Lib.hid hn; have HT := Lib.hid hT; have HNn := Lib.hid hN; have HeT := Lib.hid eT; have HEnd := Lib.hid hend; have HNl := Lib.hid hnl
  clear hn hT hN eT h hend hS hq
  go_enter Tryz.func77, Tryz.ntmps77
  go_wp2_with fail
  refine HN.out.mono ?_
  rintro e w1 ⟨rfl, k1, b1, -⟩
  rw [ScanIs, HeT.out] at k1
  go_upto_if 8 with fail
  go_cut [] (fun wx => ScanIs wx g S (if q then bad else true) ∧ But [g] w wx)
  case first =>
    have k1' : ScanIs w1 g S bad := by rw [ScanIs, HeT.out]; exact k1
    have c1 : w1.cell? ⟨g, 1, none⟩ = some (.bool bad) := k1.cell 1
    have f1 := k1.frozen 1
    cases q with
    | true =>
      have K1 := Lib.hid k1'; have B1 := Lib.hid b1
      clear k1 k1' b1 c1 f1
      go_wp2
      go_meet
      case rel => exact ⟨K1.out, B1.out⟩
    | false =>
      have K1 := Lib.hid (k1'.set_ 1 (.bool true)); have B1 := Lib.hid (b1.setCell (p := ⟨g, 1, none⟩) (by simp) (.bool true))
      clear k1 k1' b1
      go_wp2
      go_meet
      case rel => exact ⟨K1.out, B1.out⟩
  case rest =>
    obtain ⟨kc, bc⟩ := hcut
    obtain ⟨bad1, hb1⟩ : ∃ bad1, (if q then bad else true) = bad1 := ⟨_, rfl⟩
    rw [hb1] at kc
    have hend2 := HEnd.out bad1 hb1.symm
    have H0 : Hid (TxSt w wc g S bad1 bad1 [] (.slice none 0 0) 0) := Lib.hid ⟨kc, World.ownsRow_nil _ _ _ _, bc, TxS.start S bad1, Nat.le_refl _⟩
    have HEn2 := Lib.hid hend2
    clear kc bc hend2 hb1 HEnd HN k1 b1
    go_wp2
    go_loopw [3, 4] (fun v i wr => ∃ (k : Nat) (bad2 : Bool) (b : Bs), k ≤ N ∧ i = .int .i64 k ∧ Hid (TxSt w wr g S bad1 bad2 b v k)) (fun _ i _ => N - (intOf i).toNat)
    case atStart => exact ⟨0, bad1, [], Nat.zero_le _, rfl, H0⟩
    case round =>
      obtain ⟨k, bad2, b, hk, rfl, HSt⟩ := hrel
      obtain ⟨wo, rfl⟩ : ∃ wo : World, wo = wr := ⟨_, rfl⟩
      have wk1 : IntKind.i64.wrap ((k : Int) + 1) = ((k + 1 : Nat) : Int) := by rw [IntKind.wrap_i64]; omega
      have wk2 : IntKind.i64.wrap ((k : Int) + 2) = ((k + 2 : Nat) : Int) := by rw [IntKind.wrap_i64]; omega
      have wk3 : IntKind.i64.wrap (((k + 1 : Nat) : Int) + 1) = ((k + 2 : Nat) : Int) := by rw [IntKind.wrap_i64]; omega
      have hob := HSt.out.ob
      obtain ⟨bl, hbl⟩ : ∃ bl, b.length = bl := ⟨_, rfl⟩
      have hble := HSt.out.le
      rw [hbl] at hob hble
      obtain ⟨BA, bc, rfl, -⟩ := own_form hob
      have ksc := HSt.out.sc
      rw [ScanIs, HeT.out] at ksc
      have c0 : wo.cell? ⟨g, 0, none⟩ = some (.string T) := ksc.cell 0
      have c1 : wo.cell? ⟨g, 1, none⟩ = some (.bool bad2) := ksc.cell 1
      have f0 := ksc.frozen 0
      have f1 := ksc.frozen 1
      have HOb := Lib.hid hob; have Hbl := Lib.hid hbl; have Ksc := Lib.hid ksc
      have hsw := HSt.out.bu.size
      clear hob hbl ksc
      by_cases hlt : k < N
      · have z1 : (k : Int) < (N : Int) := by omega
        obtain ⟨c, hc⟩ : ∃ c, S[k]? = some c := ⟨_, List.getElem?_eq_getElem (by rw [HNn.out]; exact hlt)⟩
        have htx := textG_at hc
        have i1 := idx_byte (P := Tryz.prog) 9 Tryz.underlying9 T S HT.out (k : Int) k rfl (by rw [HNn.out]; exact hlt) wo
        rw [show byteN S k = c.toNat by unfold byteN; rw [List.getD, hc]; rfl] at i1
        have HTx := Lib.hid htx; have Hc := Lib.hid hc
        clear htx hc
        by_cases h34 : c = 34
        · subst h34
          have hfin := HEn2.out bad2 b (S.drop (k + 1)) (HSt.out.tx.fin (HTx.out.1 rfl))
          have hex : T.extract (k + 1) N = ⟨(S.drop (k + 1)).toArray⟩ := by
            rw [HT.out]
            apply ByteArray.ext
            rw [← Array.toList_inj, Lib.extract_data]
            simp only
            rw [List.take_of_length_le (by rw [List.length_drop, HNn.out]; exact Nat.le_refl _)]
          obtain ⟨T2, hT2⟩ : ∃ T2, T2 = (⟨(S.drop (k + 1)).toArray⟩ : ByteArray) := ⟨_, rfl⟩
          rw [← hT2] at hex
          obtain ⟨W2, hW2⟩ : ∃ W2, W2 = wo.setCell ⟨g, 0, none⟩ (.string T2) := ⟨_, rfl⟩
          have k2 : Blk W2 g 94 [.string T2, .bool bad2] := by rw [hW2]; exact Ksc.out.set_ 0 _
          have b2 : But [g] wo W2 := by rw [hW2]; exact (But.refl _ _).setCell (by simp) _
          have o2 := own_but HOb.out b2 fun x hx hm => by rw [List.mem_singleton] at hm; have h1 := (HOb.out.lt x hx).1; have h2 := Hg.out; omega
          have hby : Bytes W2 W2.heap.size BA bl b := Row.of_own o2
          have hcv := run_str (c := bc) hby
          have K2 := Lib.hid k2; have B2 := Lib.hid (HSt.out.bu.trans b2); have HFin := Lib.hid hfin; have HT2 := Lib.hid hT2
          clear k2 b2 o2 hby hfin hT2
          go_upto_region 11 with fail
          rw [← hW2]
          clear hW2 f0 f1
          go_wp2
          go_ret
          have hNl := HNl.out
          have hN := HNn.out
          have hb2 := Hbl.out
          exact ⟨b, S.drop (k + 1), bad2, rfl, by show Blk _ _ _ [strB _, _]; rw [strB_str, ← HT2.out]; exact K2.out, B2.out, by rw [List.length_drop]; omega, by omega, HFin.out⟩
        · by_cases h10 : c = 10
          · subst h10
            have HNo := Lib.hid (HTx.out.2.1 rfl)
            have hst2 := HSt.out.bad (j := k + 1) Hg.out HNo.out (by omega)
            have HSt2 := Lib.hid hst2
            clear hst2
            go_wp2
            go_roundw
            case rel => exact ⟨k + 1, true, b, by omega, by first | rfl | go_num, HSt2⟩
            case measure => simp [intOf]; omega
          · by_cases h92 : c = 92
            · subst h92
              by_cases hk1 : k + 1 < N
              · obtain ⟨d, hd⟩ : ∃ d, S[k + 1]? = some d := ⟨_, List.getElem?_eq_getElem (by rw [HNn.out]; exact hk1)⟩
                obtain ⟨t1, t2, t3⟩ := HTx.out.2.2.1 rfl d hd
                have z2 : ((k + 1 : Nat) : Int) < (N : Int) := by omega
                have z3 : (k : Int) + 1 < (N : Int) := by omega
                have i2 := idx_byte (P := Tryz.prog) 9 Tryz.underlying9 T S HT.out ((k : Int) + 1) (k + 1) (by omega) (by rw [HNn.out]; exact hk1) wo
                rw [show byteN S (k + 1) = d.toNat by unfold byteN; rw [List.getD, hd]; rfl] at i2
                have hex : T.extract (k + 1) (k + 2) = ⟨#[d]⟩ := by
                  rw [HT.out]
                  apply ByteArray.ext
                  apply Array.toList_inj.1
                  have h2 := (List.getElem?_eq_some_iff.1 hd)
                  simp [ByteArray.extract_mk]
                  rw [List.drop_eq_getElem_cons h2.1, h2.2]
                  simp
                have hcon := sContains1 ⟨#[34, 92, 110]⟩ d wo
                rw [show (⟨#[34, 92, 110]⟩ : ByteArray).data.toList = [34, 92, 110] from rfl, has_esc] at hcon
                obtain ⟨dn, hdn⟩ : ∃ dn, d.toNat = dn := ⟨_, rfl⟩
                rw [hdn] at i2
                have Hbv : Hid (bv d = .int .u8 (dn : Nat)) := Lib.hid (by show Value.int .u8 _ = _; rw [hdn])
                by_cases hde : d = 34 ∨ d = 92
                · have HEq := Lib.hid (t1 hde)
                  have hb : (decide (d = 34) || decide (d = 92) || decide (d = 110)) = true := by rcases hde with h | h <;> simp [h]
                  rw [hb] at hcon
                  have hn110 : ¬ (dn : Int) = 110 := by
                    rw [← hdn]
                    rcases hde with h | h <;> rw [h] <;> decide
                  have HCon := Lib.hid hcon; have Hhex := Lib.hid hex
                  clear hcon t1 t2 t3 hd hdn hde hb
                  go_wp2_with (first | (with_reducible refine HCon.out.mono ?_; rintro e wz ⟨rfl, hz⟩; obtain rfl : wo = wz := hz.symm) | (at_builtin; refine wpList_app _ rfl bytesE rfl rfl (HOb.out.alloc _) rfl (row_newN wo 5 1 1 [.int .u8 (dn : Nat)] rfl) (by intro u hu; rw [List.mem_singleton] at hu; subst hu; rfl) (by omega) (by simp; omega) ?_; intro v8 w8 own8 hg8 hb8 hx8))
                  have hst2 := HSt.out.add (c := d) (j := k + 2) Hg.out hg8 (by rw [Hbl.out, Hbv.out]; exact own8) HEq.out (by omega)
                  have HSt2 := Lib.hid hst2
                  clear own8 hg8 hb8 hx8 hst2
                  go_wp2
                  go_roundw
                  case rel => exact ⟨k + 2, bad2, _, by omega, by first | rfl | go_num, HSt2⟩
                  case measure => simp [intOf]; omega
                · by_cases hd1 : d = 110
                  · have HEq := Lib.hid (t2 hd1)
                    have hb : (decide (d = 34) || decide (d = 92) || decide (d = 110)) = true := by simp [hd1]
                    rw [hb] at hcon
                    have hn110 : dn = 110 := by rw [← hdn, hd1]; rfl
                    subst hn110
                    have HCon := Lib.hid hcon
                    have Hbv : Hid (bv (10 : UInt8) = .int .u8 10) := Lib.hid rfl
                    clear hcon t1 t2 t3 hd hdn hde hb hd1
                    go_wp2_with (first | (with_reducible refine HCon.out.mono ?_; rintro e wz ⟨rfl, hz⟩; obtain rfl : wo = wz := hz.symm) | (at_builtin; refine wpList_app _ rfl bytesE rfl rfl (HOb.out.alloc _) rfl (row_newN wo 5 1 1 [.int .u8 10] rfl) (by intro u hu; rw [List.mem_singleton] at hu; subst hu; rfl) (by omega) (by simp; omega) ?_; intro v8 w8 own8 hg8 hb8 hx8))
                    have hst2 := HSt.out.add (c := 10) (j := k + 2) Hg.out hg8 (by rw [Hbl.out, Hbv.out]; exact own8) HEq.out (by omega)
                    have HSt2 := Lib.hid hst2
                    clear own8 hg8 hb8 hx8 hst2
                    go_wp2
                    go_roundw
                    case rel => exact ⟨k + 2, bad2, _, by omega, by first | rfl | go_num, HSt2⟩
                    case measure => simp [intOf]; omega
                  · have HNo := Lib.hid (t3 (fun h => hde (.inl h)) (fun h => hde (.inr h)) hd1)
                    have hb : (decide (d = 34) || decide (d = 92) || decide (d = 110)) = false := by simp at hde ⊢; exact ⟨hde, hd1⟩
                    rw [hb] at hcon
                    have HCon := Lib.hid hcon
                    clear hcon t1 t2 t3 hd hdn hde hb hd1
                    have hst2 := HSt.out.bad (j := k + 1) Hg.out HNo.out (by omega)
                    have HSt2 := Lib.hid hst2
                    clear hst2
                    go_wp2_with (with_reducible refine HCon.out.mono ?_; rintro e wz ⟨rfl, hz⟩; obtain rfl : wo = wz := hz.symm)
                    go_roundw
                    case rel => exact ⟨k + 1, true, b, by omega, by first | rfl | go_num, HSt2⟩
                    case measure => simp [intOf]; omega
              · have z2 : ¬ ((k + 1 : Nat) : Int) < (N : Int) := by omega
                have z3 : ¬ (k : Int) + 1 < (N : Int) := by omega
                have HNo := Lib.hid (HTx.out.2.2.2.1 rfl (List.getElem?_eq_none_iff.2 (by rw [HNn.out]; omega)))
                have hst2 := HSt.out.bad (j := k + 1) Hg.out HNo.out (by omega)
                have HSt2 := Lib.hid hst2
                clear hst2
                go_wp2
                go_roundw
                case rel => exact ⟨k + 1, true, b, by omega, by first | rfl | go_num, HSt2⟩
                case measure => simp [intOf]; omega
            · have HEq := Lib.hid (HTx.out.2.2.2.2 h34 h10 h92)
              obtain ⟨dn, hdn⟩ : ∃ dn, c.toNat = dn := ⟨_, rfl⟩
              rw [hdn] at i1
              have n1 : ¬ (dn : Int) = 34 := fun h => h34 (by apply UInt8.toNat.inj; rw [hdn]; exact_mod_cast h)
              have n2 : ¬ (dn : Int) = 10 := fun h => h10 (by apply UInt8.toNat.inj; rw [hdn]; exact_mod_cast h)
              have n3 : ¬ (dn : Int) = 92 := fun h => h92 (by apply UInt8.toNat.inj; rw [hdn]; exact_mod_cast h)
              have m1 : ((dn : Int) == 34) = false := beq_eq_false_iff_ne.2 n1
              have m2 : ((dn : Int) == 10) = false := beq_eq_false_iff_ne.2 n2
              have m3 : ((dn : Int) == 92) = false := beq_eq_false_iff_ne.2 n3
              have Hbv : Hid (bv c = .int .u8 (dn : Nat)) := Lib.hid (by show Value.int .u8 _ = _; rw [hdn])
              clear h34 h10 h92 hdn
              go_wp2_with (at_builtin; refine wpList_app _ rfl bytesE rfl rfl (HOb.out.alloc _) rfl (row_newN wo 5 1 1 [.int .u8 (dn : Nat)] rfl) (by intro u hu; rw [List.mem_singleton] at hu; subst hu; rfl) (by omega) (by simp; omega) ?_; intro v8 w8 own8 hg8 hb8 hx8)
              have hst2 := HSt.out.add (c := c) (j := k + 1) Hg.out hg8 (by rw [Hbl.out, Hbv.out]; exact own8) HEq.out (by omega)
              have HSt2 := Lib.hid hst2
              clear own8 hg8 hb8 hx8 hst2
              go_wp2
              go_roundw
              case rel => exact ⟨k + 1, bad2, _, by omega, by first | rfl | go_num, HSt2⟩
              case measure => simp [intOf]; omega
      · obtain rfl : k = N := by omega
        have z1 : ¬ (k : Int) < (k : Int) := by omega
        have hfin : textG S = none → ∃ t : Bs, t.length ≤ s.length ∧ True := fun _ => ⟨[], Nat.zero_le _, trivial⟩
        have hno : textG S = none := by
          rcases HSt.out.tx with ⟨-, h⟩ | ⟨-, h⟩
          · rw [h, List.drop_eq_nil_of_le (by rw [HNn.out]; exact Nat.le_refl _)]; rfl
          · exact h
        have hf2 := HEn2.out true [] [] (.inr ⟨rfl, hno⟩)
        have k2 := (Ksc.out.set_ 1 (.bool true)).set_ 0 (.string ⟨#[]⟩)
        have b2 := (HSt.out.bu.setCell (p := ⟨g, 1, none⟩) (by simp) (.bool true)).setCell (p := ⟨g, 0, none⟩) (by simp) (.string ⟨#[]⟩)
        have f2 : (wo.setCell ⟨g, 1, none⟩ (.bool true)).frozen? ⟨g, 0, none⟩ = false := (Ksc.out.set_ 1 (.bool true)).frozen 0
        have c2 : (wo.setCell ⟨g, 1, none⟩ (.bool true)).cell? ⟨g, 0, none⟩ = some (.string T) := (Ksc.out.set_ 1 (.bool true)).cell 0
        have K2 := Lib.hid k2; have B2 := Lib.hid b2; have Hf2 := Lib.hid hf2
        clear k2 b2 hf2 hno hfin
        go_wp2
        go_ret
        exact ⟨[], [], true, rfl, K2.out, B2.out, Nat.zero_le _, Nat.zero_le _, by simpa using Hf2.out⟩
end Go.Proofs.YtecejnilajbdpaaGreatDoor

