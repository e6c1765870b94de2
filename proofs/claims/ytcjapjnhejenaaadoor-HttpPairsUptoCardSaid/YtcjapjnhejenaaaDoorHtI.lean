import Derived.Test.YtcjapjnhejenaaaDoorHtG
import Derived.Deep.RegionWith
/-! http: decode -/
namespace Garner
theorem decG_plain {c : UInt8} (r : Bs) (h : c ≠ 37) : decG (c :: r) = (decG r).map (c :: ·) := by
  rcases r with _ | ⟨a, _ | ⟨b, r⟩⟩
  · simp [decG, h]
  · simp [decG, h]
  · rw [decG, if_neg h]
theorem decG_two {r : Bs} (h : r.length < 2) : decG (37 :: r) = none := by
  rcases r with _ | ⟨a, _ | ⟨b, r⟩⟩
  · rw [decG, if_pos rfl]
  · rw [decG, if_pos rfl]
  · simp at h; omega
theorem decG_hex (a b : UInt8) (r : Bs) : decG (37 :: a :: b :: r) = if hexP a < 0 ∨ hexP b < 0 then none else (decG r).map (UInt8.ofNat (16 * hexP a + hexP b).toNat :: ·) := by
  rw [decG, if_pos rfl]
theorem byte37 {x : UInt8} (h : x.toNat = 37) : x = 37 := UInt8.toNat_inj.1 (h.trans (by decide))
def decO : Option Bs → Bool → Bs × Bool
  | none, _ => ([], false)
  | some o, ok => (o, ok && validP o)
theorem decV_eq (s : Bs) (ok : Bool) : decV s ok = decO (decG s) ok := by unfold decV; cases decG s <;> rfl
theorem map_cons_app (o : Option Bs) (out : Bs) (c : UInt8) : (o.map (c :: ·)).map (out ++ ·) = o.map ((out ++ [c]) ++ ·) := by cases o <;> simp
end Garner
namespace Go.Proofs.YtcjapjnhejenaaaDoor
open Go.RowKit Go.Shelf Garner

set_option maxRecDepth 100000 in
set_option maxHeartbeats 1000000 in
theorem vDecode (l : Bs) (bo : Nat) (ok : Bool) (w : World) (hL : Lt w) (hs : l.length ≤ 100000) (hbo : Blk w bo 4 [.bool ok]) :
    Calls Tryd.prog 43 #[str l, .pointer (some ⟨bo, 0, none⟩)] w fun e w' => e = .returned (str (decV l ok).1) ∧ Blk w' bo 4 [.bool (decV l ok).2] ∧ But [bo] w w' := by
  obtain ⟨ANS, hANS⟩ : ∃ ANS, decG l = ANS := ⟨_, rfl⟩
  have hD := decV_eq l ok
  rw [hANS] at hD
  obtain ⟨D, hDD⟩ : ∃ D, decV l ok = D := ⟨_, rfl⟩
  rw [hDD] at hD ⊢
  clear hDD
  have HD := Lib.hid hD; clear hD
  have HA := Lib.hid hANS; clear hANS
  have hbl := hbo.lt
  obtain ⟨n, hn⟩ : ∃ n, l.length = n := ⟨_, rfl⟩
  rw [hn] at hs
  have Hn := Lib.hid hn; clear hn
  unfold str
  obtain ⟨sv, hsv⟩ : ∃ sv : ByteArray, sv = ⟨l.toArray⟩ := ⟨_, rfl⟩
  have hsz : sv.size = n := by rw [hsv, str_size, Hn.out]
  have hidx : ∀ (k : Nat) (h : k < sv.size) (x : UInt8), l[k]? = some x → sv[k] = x := fun k h x hx => by
    subst hsv
    have h2 : k < l.length := by rw [str_size] at h; exact h
    rw [List.getElem?_eq_getElem h2] at hx
    exact Option.some.inj hx
  rw [← hsv]
  have Hidx := Lib.hid hidx; clear hidx
  have Hsv := Lib.hid hsv; clear hsv
  go_enter Tryd.func43, Tryd.ntmps43
  go_wp2
  go_loopw [5, 6] (fun v i wr => ∃ (k : Nat) (out : Bs), k ≤ n ∧ i = .int .i64 k ∧ OwnB wr w.heap.size v out ∧ out.length ≤ k ∧ Hid ((decG (l.drop k)).map (out ++ ·) = ANS) ∧ Below w.heap.size w wr) (fun _ i _ => n - (intOf i).toNat)
  case atStart => exact ⟨0, [], Nat.zero_le _, rfl, World.ownsRow_nil _ _ _ _, Nat.le_refl _, Lib.hid (by rw [List.drop_zero, HA.out]; cases ANS <;> simp), Below.refl _ _⟩
  case round =>
    obtain ⟨k, out, hk, rfl, hown, hol, hans, hbel⟩ := hrel
    obtain ⟨wo, rfl⟩ : ∃ wo : World, wo = wr := ⟨_, rfl⟩
    have hs0 := hbel.size
    have hbw := hbo.below hbel hbl
    obtain ⟨Ao, co, rfl, -⟩ := OwnB.shape hown
    have w1 : IntKind.i64.wrap ((k : Int) + 1) = ((k + 1 : Nat) : Int) := by rw [IntKind.wrap_i64]; omega
    have w2 : IntKind.i64.wrap ((k : Int) + 2) = ((k + 2 : Nat) : Int) := by rw [IntKind.wrap_i64]; omega
    by_cases hlt : k < n
    · have z1 : (k : Int) < (sv.size : Int) := by omega
      have z1' : (k : Int) < (n : Int) := by omega
      obtain ⟨x, hx⟩ : ∃ x : UInt8, l[k]? = some x := ⟨_, List.getElem?_eq_getElem (by have := Hn.out; omega)⟩
      have hix := Hidx.out k (by omega) x hx
      have hdr : l.drop k = x :: l.drop (k + 1) := by
        rw [List.getElem?_eq_some_iff] at hx
        obtain ⟨h1, h2⟩ := hx
        rw [List.drop_eq_getElem_cons h1, h2]
      have ha0 := hans.out
      rw [hdr] at ha0
      have hklt : k < sv.size := by omega
      clear hx hdr
      by_cases hc : x = 37
      · have z2 : (x.toNat : Int) = 37 := by rw [hc]; rfl
        rw [hc] at ha0 hix
        have bad : ANS = none → ∀ W, Below w.heap.size w W → Blk (W.setCell ⟨bo, 0, none⟩ (.bool false)) bo 4 [.bool D.2] ∧ But [bo] w (W.setCell ⟨bo, 0, none⟩ (.bool false)) ∧ D.1 = [] := fun hn W hb => by
          have hd := HD.out
          rw [hn] at hd
          have e1 : D.1 = [] := by rw [hd]; rfl
          have e2 : D.2 = false := by rw [hd]; rfl
          rw [e2]
          exact ⟨(hbo.below hb hbl).set_ 0 _, (But.of_below hb).setCell (by simp) _, e1⟩
        have Hbad := Lib.hid bad; clear bad
        have hfz := hbw.frozen 0
        have hcb := hbw.cell 0
        by_cases h2 : n ≤ k + 2
        · have z3 : (n : Int) ≤ ((k + 2 : Nat) : Int) := by omega
          rw [decG_two (by rw [List.length_drop]; have := Hn.out; omega)] at ha0
          obtain ⟨b1, b2, b3⟩ := Hbad.out ha0.symm wo hbel
          have B1 := Lib.hid b1; clear b1
          have B2 := Lib.hid b2; clear b2
          have B3 := Lib.hid b3; clear b3 ha0 hc
          go_wp2
          go_ret
          exact ⟨by rw [B3.out]; rfl, B1.out, B2.out⟩
        · have z3 : ¬ (n : Int) ≤ ((k + 2 : Nat) : Int) := by omega
          obtain ⟨a, ha⟩ : ∃ a : UInt8, l[k + 1]? = some a := ⟨_, List.getElem?_eq_getElem (by have := Hn.out; omega)⟩
          obtain ⟨b, hb⟩ : ∃ b : UInt8, l[k + 2]? = some b := ⟨_, List.getElem?_eq_getElem (by have := Hn.out; omega)⟩
          have hia := Hidx.out (k + 1) (by omega) a ha
          have hib := Hidx.out (k + 2) (by omega) b hb
          have hdr2 : l.drop (k + 1) = a :: b :: l.drop (k + 3) := by
            rw [List.getElem?_eq_some_iff] at ha hb
            obtain ⟨h1, h2⟩ := ha
            obtain ⟨h3, h4⟩ := hb
            rw [List.drop_eq_getElem_cons h1, h2, List.drop_eq_getElem_cons (by omega : k + 1 + 1 < l.length), h4]
          rw [hdr2, decG_hex] at ha0
          have l1 : ((k + 1 : Nat) : Int) < (sv.size : Int) := by omega
          have l2 : ((k + 2 : Nat) : Int) < (sv.size : Int) := by omega
          have l3 : k + 1 < sv.size := by omega
          have l4 : k + 2 < sv.size := by omega
          obtain ⟨p, hp⟩ : ∃ p, hexP a = p := ⟨_, rfl⟩
          obtain ⟨q, hq⟩ : ∃ q, hexP b = q := ⟨_, rfl⟩
          have ca := fun W => vHex a W
          have cb := fun W => vHex b W
          have p15 := hexP_le a
          have q15 := hexP_le b
          rw [hp] at ca ha0 p15
          rw [hq] at cb ha0 q15
          have va : Value.int .u8 (a.toNat : Int) = bv a := rfl
          have vb : Value.int .u8 (b.toNat : Int) = bv b := rfl
          clear ha hb hdr2 hp hq hc
          by_cases hp0 : p < 0
          · rw [if_pos (.inl hp0)] at ha0
            obtain ⟨b1, b2, b3⟩ := Hbad.out ha0.symm wo hbel
            have B1 := Lib.hid b1; clear b1
            have B2 := Lib.hid b2; clear b2
            have B3 := Lib.hid b3; clear b3 ha0
            go_wp2_with fail
            refine (ca _).mono ?_
            rintro e w' ⟨rfl, rfl⟩
            go_wp2
            go_ret
            exact ⟨by rw [B3.out]; rfl, B1.out, B2.out⟩
          · by_cases hq0 : q < 0
            · rw [if_pos (.inr hq0)] at ha0
              obtain ⟨b1, b2, b3⟩ := Hbad.out ha0.symm wo hbel
              have B1 := Lib.hid b1; clear b1
              have B2 := Lib.hid b2; clear b2
              have B3 := Lib.hid b3; clear b3 ha0
              go_wp2_with fail
              refine (ca _).mono ?_
              rintro e w' ⟨rfl, rfl⟩
              go_wp2_with fail
              refine (cb _).mono ?_
              rintro e w' ⟨rfl, rfl⟩
              go_wp2
              go_ret
              exact ⟨by rw [B3.out]; rfl, B1.out, B2.out⟩
            · rw [if_neg (fun h => h.elim hp0 hq0), map_cons_app] at ha0
              have Ha := Lib.hid ha0; clear ha0
              have w3 : IntKind.i64.wrap (16 * p) = 16 * p := by rw [IntKind.wrap_i64]; omega
              have w4 : IntKind.i64.wrap (16 * p + q) = 16 * p + q := by rw [IntKind.wrap_i64]; omega
              have w5 : IntKind.u8.wrap (16 * p + q) = 16 * p + q := by rw [IntKind.wrap_u8]; omega
              have w6 : IntKind.i64.wrap (((k + 2 : Nat) : Int) + 1) = ((k + 3 : Nat) : Int) := by rw [IntKind.wrap_i64]; omega
              go_wp2_with fail
              refine (ca _).mono ?_
              rintro e w' ⟨rfl, hw'⟩
              obtain rfl : wo = w' := hw'.symm
              go_wp2_with fail
              refine (cb _).mono ?_
              rintro e w' ⟨rfl, hw'⟩
              obtain rfl : wo = w' := hw'.symm
              go_upto_region 10 with fail
              have hib2 : sv[((k : Int) + 2).toNat]'(by omega) = b := by
                have e : ((k : Int) + 2).toNat = k + 2 := by omega
                simp only [e]
                exact hib
              have hS0 : Below w.heap.size w wo.drew := hbel.drew
              refine wp_region_N (fun w' => Below w.heap.size w w') 100 (by kernel_rfl) ?_
              apply wpAnyN_takeL 0 (by kernel_rfl) rfl (fun _ _ _ h => h) (by kernel_rfl) hS0
              · intro w' hS'
                go_simp; exact ⟨rfl, rfl⟩
              (try simp only [Act.put]); (try simp only [List.setIfInBounds_toArray]); (try simp only [List.set])
              apply wpAnyN_takeL 1 (by kernel_rfl) rfl (fun _ _ _ h => h) (by kernel_rfl) hS0
              · intro w' hS'
                go_simp; exact ⟨rfl, rfl⟩
              (try simp only [Act.put]); (try simp only [List.setIfInBounds_toArray]); (try simp only [List.set])
              apply wpAnyN_takeL 2 (by kernel_rfl) rfl (fun _ _ _ h => h) (by kernel_rfl) hS0
              · intro w' hS'
                go_simp; exact ⟨rfl, rfl⟩
              (try simp only [Act.put]); (try simp only [List.setIfInBounds_toArray]); (try simp only [List.set])
              apply wpAnyN_takeL 3 (by kernel_rfl) rfl (fun _ _ _ h => h) (by kernel_rfl) hS0
              · intro w' hS'
                go_simp; exact ⟨rfl, rfl⟩
              (try simp only [Act.put]); (try simp only [List.setIfInBounds_toArray]); (try simp only [List.set])
              apply wpAnyN_takeL 4 (by kernel_rfl) rfl (fun _ _ _ h => h) (by kernel_rfl) hS0
              · intro w' hS'
                go_simp; exact ⟨rfl, rfl⟩
              (try simp only [Act.put]); (try simp only [List.setIfInBounds_toArray]); (try simp only [List.set])
              apply wpAnyN_takeL 7 (by kernel_rfl) rfl (fun _ _ _ h => h) (by kernel_rfl) hS0
              · intro w' hS'
                go_simp; exact ⟨rfl, rfl⟩
              (try simp only [Act.put]); (try simp only [List.setIfInBounds_toArray]); (try simp only [List.set])
              apply wpAnyN_takeL 8 (by kernel_rfl) rfl (fun _ _ _ h => h) (by kernel_rfl) hS0
              · intro w' hS'
                go_simp; exact ⟨rfl, rfl⟩
              (try simp only [Act.put]); (try simp only [List.setIfInBounds_toArray]); (try simp only [List.set])
              apply wpAnyN_takeL 9 (by kernel_rfl) rfl (fun _ _ _ h => h) (by kernel_rfl) hS0
              · intro w' hS'
                go_simp; exact ⟨rfl, rfl⟩
              (try simp only [Act.put]); (try simp only [List.setIfInBounds_toArray]); (try simp only [List.set])
              apply wpAnyN_takeL 10 (by kernel_rfl) rfl (fun _ _ _ h => h) (by kernel_rfl) hS0
              · intro w' hS'
                go_simp; exact ⟨rfl, rfl⟩
              (try simp only [Act.put]); (try simp only [List.setIfInBounds_toArray]); (try simp only [List.set])
              apply wpAnyN_takeL 5 (v := (.int .i64 p)) (by kernel_rfl) rfl (fun _ _ _ h => h) (by kernel_rfl) hS0
              · intro w' hS'
                (go_simp; exact ⟨rfl, ca _⟩)
              (try simp only [Act.put]); (try simp only [List.setIfInBounds_toArray]); (try simp only [List.set])
              apply wpAnyN_takeL 11 (v := (.int .i64 q)) (by kernel_rfl) rfl (fun _ _ _ h => h) (by kernel_rfl) hS0
              · intro w' hS'
                (go_simp; exact ⟨rfl, cb _⟩)
              (try simp only [Act.put]); (try simp only [List.setIfInBounds_toArray]); (try simp only [List.set])
              apply wpAnyN_takeL 6 (by kernel_rfl) rfl (fun _ _ _ h => h) (by kernel_rfl) hS0
              · intro w' hS'
                go_simp; exact ⟨rfl, rfl⟩
              (try simp only [Act.put]); (try simp only [List.setIfInBounds_toArray]); (try simp only [List.set])
              apply wpAnyN_takeL 12 (by kernel_rfl) rfl (fun _ _ _ h => h) (by kernel_rfl) hS0
              · intro w' hS'
                go_simp; exact ⟨rfl, rfl⟩
              (try simp only [Act.put]); (try simp only [List.setIfInBounds_toArray]); (try simp only [List.set])
              apply wpAnyN_takeL 13 (by kernel_rfl) rfl (fun _ _ _ h => h) (by kernel_rfl) hS0
              · intro w' hS'
                go_simp; exact ⟨rfl, rfl⟩
              (try simp only [Act.put]); (try simp only [List.setIfInBounds_toArray]); (try simp only [List.set])
              refine wpAnyN_runL 14 (by kernel_rfl) rfl (by kernel_rfl) (fun K hK => ?_)
              go_simp
              obtain ⟨w2, hw2⟩ : ∃ W, W = (wo.alloc (.cells #[.int .u8 (16 * p + q)] 5)).drew := ⟨_, rfl⟩
              rw [← hw2]
              have hS2 : Below w.heap.size w w2 := by rw [hw2]; exact (hbel.alloc hbel.size _).drew
              have hown2 : OwnB w2 w.heap.size (.slice Ao out.length co) out := by rw [hw2]; exact own_below hown (((Below.refl _ _).alloc (Nat.le_refl _) _).drew)
              have hrow2 : Row w2 (wo.heap.size + 1) 1 (some ⟨wo.heap.size, 0, none⟩) 1 [.int .u8 (16 * p + q)] := by rw [hw2]; exact (row_new wo 5 [.int .u8 (16 * p + q)]).drew
              clear hw2
              refine hK _ _ (fun _ => hS2) ?_
              clear hK K
              (try simp only [Act.put]); (try simp only [List.setIfInBounds_toArray]); (try simp only [List.set])
              refine wpAnyN_runL 15 (by kernel_rfl) rfl (by kernel_rfl) (fun K hK => ?_)
              refine wp_app w2 bytesE rfl rfl hown2 rfl hrow2 (by simp [Value.oneCell']) (by omega) hS2.size ?_
              intro v4 w4 hown4 hg4 hb4 hx4
              have hS4 : Below w.heap.size w w4 := hS2.trans hb4
              refine hK _ _ (fun _ => hS4) ?_
              clear hK K
              (try simp only [Act.put]); (try simp only [List.setIfInBounds_toArray]); (try simp only [List.set])
              refine wpAnyN_runL 16 (by kernel_rfl) rfl (by kernel_rfl) (fun K hK => ?_)
              go_simp
              refine hK _ _ (fun _ => hS4) ?_
              clear hK K
              (try simp only [Act.put]); (try simp only [List.setIfInBounds_toArray]); (try simp only [List.set])
              refine wpAnyN_done (by kernel_rfl) ?_ _
              go_wp2
              refine ⟨⟨k + 3, out ++ [UInt8.ofNat (16 * p + q).toNat], by omega, by simp; omega, ?_, by simp; omega, Ha, hS4⟩, by simp [intOf]; omega⟩
              unfold OwnB
              rw [List.length_append, List.map_append]
              have ev : ([UInt8.ofNat (16 * p + q).toNat] : Bs).map bv = [.int .u8 (16 * p + q)] := by
                show [Value.int .u8 ((UInt8.ofNat (16 * p + q).toNat).toNat : Int)] = _
                rw [ofNat_toNat (by omega)]
                congr 2
                omega
              rw [ev]
              exact hown4
      · have z2 : ¬ (x.toNat : Int) = 37 := fun e => hc (byte37 (by omega))
        rw [decG_plain _ hc, map_cons_app] at ha0
        have Ha := Lib.hid ha0; clear ha0
        go_wp2_with (at_builtin; refine wpList_app _ rfl bytesE rfl rfl (hown.alloc _) rfl (row_new wo _ [_]) (by simp [Value.oneCell']) (by first | omega | (simp; done) | (simp; omega)) (by simp; omega) ?_; intro v4 w4 hown4 hg4 hb4 _)
        exact ⟨⟨k + 1, out ++ [x], by omega, by simp, by unfold OwnB; rw [List.length_append, List.map_append]; exact hown4, by simp; omega, Ha, (hbel.alloc hs0 _).trans hb4⟩, by simp [intOf]; omega⟩
    · obtain rfl : k = n := by omega
      have ha0 := hans.out
      rw [List.drop_eq_nil_of_le (by have := Hn.out; omega)] at ha0
      have ha1 : ANS = some out := by rw [← ha0]; simp [decG]
      have hd := HD.out
      rw [ha1] at hd
      have e1 : D.1 = out := by rw [hd]; rfl
      have e2 : D.2 = (ok && validP out) := by rw [hd]; rfl
      have E1 := Lib.hid e1
      have E2 := Lib.hid e2
      clear e1 e2 hd ha1 ha0
      have z1 : ¬ (k : Int) < (sv.size : Int) := by omega
      have z1' : ¬ (k : Int) < (k : Int) := by omega
      have hfz := hbw.frozen 0
      have hcb := hbw.cell 0
      have hstr := run_str (c := co) (Row.of_own hown : Bytes wo wo.heap.size Ao out.length out)
      have hval := cValid out wo (hL.below hbel) (by omega)
      have hstore : ∀ (W : World) (u : Value), OwnB W w.heap.size (.slice Ao out.length co) out → (convert 22 9 (.slice Ao out.length co)).run Tryd.prog (W.setCell ⟨bo, 0, none⟩ u) = .ok (.string ⟨out.toArray⟩) (W.setCell ⟨bo, 0, none⟩ u) := fun W u h => by
        have h2 := own_but h ((But.refl [bo] W).setCell (p := ⟨bo, 0, none⟩) (by simp) u) (fun g hg hm => by
          have := (own_ge h g (by rw [hg]; simp)).1
          simp at hm
          omega)
        exact run_str (c := co) (Row.of_own h2)
      cases ok with
      | false =>
        have hs2 := hstore wo (.bool false) hown
        have Hs := Lib.hid hstore; clear hstore
        go_wp2
        go_ret
        refine ⟨by rw [E1.out]; rfl, ?_, (But.of_below hbel).setCell (by simp) _⟩
        rw [E2.out]
        exact hbw.set_ 0 _
      | true =>
        have Hs := Lib.hid hstore; clear hstore
        go_wp2_with fail
        refine hval.mono ?_
        rintro e w3 ⟨rfl, hb3⟩
        have hbw3 := hbw.below hb3 (by omega)
        have hfz3 := hbw3.frozen 0
        have hcb3 := hbw3.cell 0
        have hs2 := Hs.out w3 (.bool (validP out)) (own_below hown hb3)
        have hb4 := hbel.trans (hb3.mono hs0)
        go_wp2
        go_ret
        refine ⟨by rw [E1.out]; rfl, ?_, (But.of_below hb4).setCell (by simp) _⟩
        rw [E2.out]
        exact hbw3.set_ 0 _
end Go.Proofs.YtcjapjnhejenaaaDoor
