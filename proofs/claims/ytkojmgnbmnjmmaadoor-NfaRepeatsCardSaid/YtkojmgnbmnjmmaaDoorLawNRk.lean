import Derived.Test.YtkojmgnbmnjmmaaDoorNcRow
/-! NfaRepeats: the walk -/
namespace Garner
open Go
theorem enc_digit : ∀ p : Fin 10, Utf8.encode (48 + (p.val : Int)) = ⟨#[UInt8.ofNat (48 + p.val)]⟩ := by decide +kernel
theorem runes_flat : ∀ (G : List Bs), (∀ g ∈ G, Lib.validD g = true) → runesP G.flatten = (G.map runesP).flatten
  | [], _ => rfl
  | g :: G, h => by
    rw [List.flatten_cons, app1 (h g (by simp)), runes_flat G fun x hx => h x (by simp [hx])]
    rfl
/-- lines that were taken -/
structure TakenR (t : Re) (G : List Bs) : Prop where
  valid : ∀ g ∈ G, Lib.validD g = true
  whole : ∀ g ∈ G, wholeB t (runesP g) = true
  few : G.length ≤ 8
theorem TakenR.nil {t : Re} : TakenR t [] := ⟨by simp, by simp, by simp⟩
theorem TakenR.snoc {t : Re} {G : List Bs} {g : Bs} (h : TakenR t G) (h1 : Lib.validD g = true) (h2 : wholeB t (runesP g) = true) (h3 : G.length < 8) : TakenR t (G ++ [g]) := by
  refine ⟨fun x hx => ?_, fun x hx => ?_, by rw [List.length_append]; simp; omega⟩
  · rcases List.mem_append.1 hx with hx | hx
    · exact h.valid x hx
    · rw [List.mem_singleton.1 hx]; exact h1
  · rcases List.mem_append.1 hx with hx | hx
    · exact h.whole x hx
    · rw [List.mem_singleton.1 hx]; exact h2
theorem TakenR.star {t : Re} {G : List Bs} (h : TakenR t G) (hf : t.free) : wholeB (.rep t 0 none) (runesP G.flatten) = true := by
  rw [runes_flat G h.valid]
  exact star_lines hf _ fun l hl => by
    obtain ⟨g, hg, rfl⟩ := List.mem_map.1 hl
    exact h.whole g hg
theorem TakenR.times {t : Re} {G : List Bs} (h : TakenR t G) (hf : t.free) : wholeB (.rep t G.length (some G.length)) (runesP G.flatten) = true := by
  rw [runes_flat G h.valid]
  have := times_lines hf (G.map runesP) fun l hl => by
    obtain ⟨g, hg, rfl⟩ := List.mem_map.1 hl
    exact h.whole g hg
  rwa [List.length_map] at this
theorem free_of {s : Bs} {t : Re} (h : rexpP s = .ok t) (h1 : Lib.contains s [94] = false) (h2 : Lib.contains s [36] = false) : t.free := by
  rw [has_sign (by decide), decide_eq_false_iff_not] at h1 h2
  exact (read_ok (rexp_ok h).2).free h1 h2
end Garner
namespace Go.Proofs.YtkojmgnbmnjmmaaDoor
open Go.RowKit Garner
set_option maxRecDepth 100000 in
set_option maxHeartbeats 32000000 in
theorem lawNR (S : ByteArray) (s : Bs) (ls : List ByteArray) (A : Option Addr) (n c B : Nat) (hS : S = ⟨s.toArray⟩) (hn : ls.length = n) (w : World) (hr : Row w B 1 A n (ls.map Value.string)) (hB : B ≤ w.heap.size) (hL : Lt w) (b1 : s.length ≤ 140737488355328) (b2 : ∀ x ∈ ls, x.size ≤ 140737488355328) (b3 : n ≤ 140737488355328) :
    Calls Tryd.prog 8 #[.string S, .slice A n c] w fun e w' => e = .returned (.bool true) ∧ Below w.heap.size w w' := by
  have h1 := vAwake19 w hL
  obtain ⟨P1, p1, f1, y1⟩ := cat2 (A := ⟨#[40]⟩) (a := [40]) rfl hS
  obtain ⟨P2, p2, f2, y2⟩ := cat2 (B := ⟨#[41, 42]⟩) (b := [41, 42]) f1 rfl
  obtain ⟨Q2, q2, g2, z2⟩ := cat2 (B := ⟨#[41, 123]⟩) (b := [41, 123]) f1 rfl
  have zS : S.size = s.length := by rw [hS]; exact str_size s
  simp only [List.length_append, List.length_cons, List.length_nil] at y1 y2 z2
  have zS1 : S.size ≤ 1000000000000000 := by omega
  have zP1 : P1.size ≤ 1000000000000000 := by omega
  have zQ2 : Q2.size ≤ 1000000000000000 := by omega
  have F2 := Lib.hid (show P2 = ⟨(40 :: (s ++ 41 :: [42])).toArray⟩ by rw [f2]; simp)
  have G2 := Lib.hid g2
  have HS := Lib.hid hS; have HL := Lib.hid hL; have H1 := Lib.hid h1; have Hn := Lib.hid hn; have HR := Lib.hid hr; have HB2 := Lib.hid b2
  clear h1 hS hL f1 f2 g2 y1 y2 z2 zS hn hr b2
  go_enter Tryd.func8, Tryd.ntmps8
  go_wp2_with fail
  refine H1.out.mono ?_
  rintro e w1 ⟨rfl, hb1⟩
  have h2 := vNewA s S HS.out w1 (HL.out.below hb1) (by omega)
  have H2 := Lib.hid h2; have HB1 := Lib.hid hb1
  clear h2 hb1
  go_wp2_with fail
  refine H2.out.mono ?_
  rintro e w2 ⟨pa, ka, rfl, hb2, hk2⟩
  have hw2 := HB1.out.trans (hb2.mono HB1.out.size)
  have h3 := vNewA _ P2 F2.out w2 (HL.out.below hw2) (by simp; omega)
  have H3 := Lib.hid h3; have HK2 := Lib.hid hk2; have HW2 := Lib.hid hw2
  clear h3 hb2 hk2 hw2
  go_wp2_with fail
  refine H3.out.mono ?_
  rintro e w3 ⟨pb, kb, rfl, hb3, hk3⟩
  have hw3 := HW2.out.trans (hb3.mono HW2.out.size)
  have hk2 := HK2.out.below hb3
  have HK2' := Lib.hid hk2; have HK3 := Lib.hid hk3; have HW3 := Lib.hid hw3
  clear hk2 HK2 hk3 hw3 hb3
  by_cases hka : ka = 0
  · by_cases hkb : kb = 0
    · obtain ⟨ta, ba, ha, rfl, hma⟩ := HK2'.out.zero hka
      obtain ⟨tb, bb, hb, rfl, hmb⟩ := HK3.out.zero hkb
      subst hka; subst hkb
      have hH1 := vHas1 s S HS.out 94 w3
      have hH2 := vHas1 s S HS.out 36 w3
      obtain ⟨x1, hx1⟩ : ∃ x1, Lib.contains s [94] = x1 := ⟨_, rfl⟩
      obtain ⟨x2, hx2⟩ : ∃ x2, Lib.contains s [36] = x2 := ⟨_, rfl⟩
      rw [hx1] at hH1
      rw [hx2] at hH2
      have HH1 := Lib.hid hH1; have HH2 := Lib.hid hH2; have X1 := Lib.hid hx1; have X2 := Lib.hid hx2
      have HA := Lib.hid ha; have HBt := Lib.hid hb; have MA := Lib.hid hma; have MB := Lib.hid hmb
      clear ha hb hma hmb HK2' HK3 hH1 hH2 hx1 hx2
      cases x1 with
      | true =>
        go_wp2_with (with_reducible refine HH1.out.mono ?_; rintro e wy ⟨rfl, hz⟩; obtain rfl : w3 = wy := hz.symm)
        go_ret
        exact ⟨rfl, HW3.out⟩
      | false =>
        cases x2 with
        | true =>
          go_wp2_with (first | (with_reducible refine HH1.out.mono ?_; rintro e wy ⟨rfl, hz⟩; obtain rfl : w3 = wy := hz.symm) | (with_reducible refine HH2.out.mono ?_; rintro e wy ⟨rfl, hz⟩; obtain rfl : w3 = wy := hz.symm))
          go_ret
          exact ⟨rfl, HW3.out⟩
        | false =>
          have hfree := free_of HA.out X1.out X2.out
          obtain rfl := star_parse HA.out HBt.out
          have HF := Lib.hid hfree
          clear hfree
          go_wp2_with (first | (with_reducible refine HH1.out.mono ?_; rintro e wy ⟨rfl, hz⟩; obtain rfl : w3 = wy := hz.symm) | (with_reducible refine HH2.out.mono ?_; rintro e wy ⟨rfl, hz⟩; obtain rfl : w3 = wy := hz.symm))
          go_loopw [9, 10, 11] (fun v9 v10 v11 wr => ∃ (j m : Nat) (D : ByteArray) (G : List Bs), j ≤ n ∧ v11 = .int .i64 j ∧ v10 = .int .i64 m ∧ v9 = .string D ∧ m ≤ 8 ∧ D.size ≤ m * 140737488355328 ∧ Hid (G.length = m) ∧ Hid (D = ⟨G.flatten.toArray⟩) ∧ Hid (TakenR ta G) ∧ Hid (Below w3.heap.size w3 wr)) (fun _ _ i _ => n - (intOf i).toNat)
          case atStart => exact ⟨0, 0, _, [], Nat.zero_le _, rfl, rfl, rfl, by omega, (show ByteArray.size ⟨#[]⟩ ≤ 0 * 140737488355328 from Nat.le_refl _), Lib.hid rfl, Lib.hid rfl, Lib.hid .nil, Lib.hid (Below.refl _ _)⟩
          case round =>
            obtain ⟨j, m, D, G, hj, rfl, rfl, rfl, hm8, hDs, hG, hD, hT, hbw⟩ := hrel
            obtain ⟨wo, rfl⟩ : ∃ wo : World, wo = wr := ⟨_, rfl⟩
            have wj1 : IntKind.i64.wrap ((j : Int) + 1) = ((j + 1 : Nat) : Int) := by rw [IntKind.wrap_i64]; omega
            have wm1 : IntKind.i64.wrap ((m : Int) + 1) = ((m + 1 : Nat) : Int) := by rw [IntKind.wrap_i64]; omega
            by_cases hgo : j < n ∧ m < 8
            · obtain ⟨hlt, hm⟩ := hgo
              have z1 : (j : Int) < (n : Int) := by omega
              have z2 : (m : Int) < 8 := by omega
              obtain ⟨x, hx⟩ : ∃ x, ls[j]? = some x := ⟨_, List.getElem?_eq_getElem (by rw [Hn.out]; exact hlt)⟩
              have hxs := HB2.out x (List.mem_of_getElem? hx)
              obtain ⟨b, off, rfl, hbB, hcell⟩ := HR.out.2 (by omega)
              have cx0 := hcell j (.string x) (by rw [List.getElem?_map, hx]; rfl)
              have hwo : Below w.heap.size w wo := HW3.out.trans (hbw.out.mono HW3.out.size)
              have cxx : ∀ wq, Below w.heap.size w wq → wq.cell? ⟨b, off + j, none⟩ = some (.string x) := fun wq hq => by
                rw [hq.cell (p := ⟨b, off + j, none⟩) (by show b < _; omega)]; exact cx0
              have cX := cxx wo hwo
              obtain ⟨xl, hxl⟩ : ∃ xl : Bs, x.data.toList = xl := ⟨_, rfl⟩
              have ex : str xl = .string x := by rw [← hxl]
              have ex2 : x = ⟨xl.toArray⟩ := by rw [← hxl]
              have hxl2 : xl.length ≤ 140737488355328 := by rw [← hxl, ← Lib.size_eq]; exact hxs
              have hV := cValid xl wo (HL.out.below hwo) (by omega)
              rw [ex] at hV
              obtain ⟨vb, hvb⟩ : ∃ vb, Lib.validD xl = vb := ⟨_, rfl⟩
              rw [hvb] at hV
              have HV := Lib.hid hV; have CXX := Lib.hid cxx; have Hvb := Lib.hid hvb; have Hwo := Lib.hid hwo; have Hex2 := Lib.hid ex2
              clear hV cxx hvb hwo ex ex2 hxl hx cx0 hcell
              go_wp2_with fail
              refine HV.out.mono ?_
              rintro e w4 ⟨rfl, hb4⟩
              have hw4 := Hwo.out.trans (hb4.mono Hwo.out.size)
              have hb34 := hbw.out.trans (hb4.mono hbw.out.size)
              have cX4 := CXX.out w4 hw4
              have hW := vWhole ta ba w4 (MA.out.below hb34) xl
              obtain ⟨wb, hwb⟩ : ∃ wb, wholeB ta (runesP xl) = wb := ⟨_, rfl⟩
              rw [hwb, str, ← Hex2.out] at hW
              have HWh := Lib.hid hW; have Hw4 := Lib.hid hw4; have H34 := Lib.hid hb34; have Hwb := Lib.hid hwb
              clear hW hw4 hb34 hb4 hwb
              cases vb with
              | false =>
                go_wp2_with fail
                go_roundw
                case rel => exact ⟨j + 1, m, D, G, by omega, by go_num, rfl, rfl, hm8, hDs, hG, hD, hT, H34⟩
                case measure => simp [intOf]; omega
              | true =>
                go_wp2_with fail
                refine HWh.out.mono ?_
                rintro e w5 ⟨rfl, hb5⟩
                have hw5 := Hw4.out.trans (hb5.mono Hw4.out.size)
                have hb35 := H34.out.trans (hb5.mono H34.out.size)
                have cX5 := CXX.out w5 hw5
                have H35 := Lib.hid hb35
                clear hw5 hb35 hb5
                cases wb with
                | false =>
                  go_wp2_with fail
                  go_roundw
                  case rel => exact ⟨j + 1, m, D, G, by omega, by go_num, rfl, rfl, hm8, hDs, hG, hD, hT, H35⟩
                  case measure => simp [intOf]; omega
                | true =>
                  obtain ⟨D2, d2, e2, s2⟩ := cat2 hD.out Hex2.out
                  have hT2 := hT.out.snoc Hvb.out Hwb.out (by rw [hG.out]; exact hm)
                  have hg2 : (G ++ [xl]).length = m + 1 := by rw [List.length_append, hG.out]; rfl
                  have hd2 : D2 = ⟨(G ++ [xl]).flatten.toArray⟩ := by rw [e2]; simp
                  have hs2 : D2.size ≤ (m + 1) * 140737488355328 := by
                    have e1 : D.size = G.flatten.length := by rw [hD.out]; exact str_size _
                    rw [s2, ← e1]; omega
                  have zD : D.size ≤ 2000000000000000 := by omega
                  have zx : x.size ≤ 140737488355328 := hxs
                  have HT2 := Lib.hid hT2; have HG2 := Lib.hid hg2; have HD2 := Lib.hid hd2; have HS2 := Lib.hid hs2
                  clear hT2 hg2 hd2 hs2 e2 s2
                  go_wp2_with fail
                  go_roundw
                  case rel => exact ⟨j + 1, m + 1, D2, G ++ [xl], by omega, by go_num, by go_num, rfl, by omega, HS2.out, HG2, HD2, HT2, H35⟩
                  case measure => simp [intOf]; omega
            · have hd : ∀ p : Fin 9, True := fun _ => trivial
              have he : Utf8.encode (48 + (m : Int)) = ⟨#[UInt8.ofNat (48 + m)]⟩ := enc_digit ⟨m, by omega⟩
              obtain ⟨DB, hDB⟩ : ∃ DB : ByteArray, DB = ⟨#[UInt8.ofNat (48 + m)]⟩ := ⟨_, rfl⟩
              rw [← hDB] at he
              have sDB : DB.size = 1 := by rw [hDB]; rfl
              obtain ⟨Q3, q3, g3, z3⟩ := cat2 (b := [UInt8.ofNat (48 + m)]) G2.out hDB
              obtain ⟨Q4, q4, g4, z4⟩ := cat2 (B := ⟨#[125]⟩) (b := [125]) g3 rfl
              have zQ3 : Q3.size ≤ 1000000000000000 := by rw [z3]; simp; omega
              have hQ4 : Q4 = ⟨(40 :: (s ++ 41 :: [123, UInt8.ofNat (48 + m), 125])).toArray⟩ := by rw [g4]; simp
              have hwo : Below w.heap.size w wo := HW3.out.trans (hbw.out.mono HW3.out.size)
              have h5 := vNewA _ Q4 hQ4 wo (HL.out.below hwo) (by simp; omega)
              have H5 := Lib.hid h5; have Hwo := Lib.hid hwo
              clear h5 hwo hQ4 g3 g4 z3 z4 hDB hd hDs b1 b3
              have hstop : ¬ (j : Int) < (n : Int) ∨ ((j : Int) < (n : Int) ∧ ¬ (m : Int) < 8) := by omega
              clear hgo
              rcases hstop with z1 | ⟨z1, z2⟩
              all_goals
                go_wp2_with fail
                refine H5.out.mono ?_
                rintro e w6 ⟨pc, kc, rfl, hb6, hk6⟩
                have hw6 := Hwo.out.trans (hb6.mono Hwo.out.size)
                have hb36 := hbw.out.trans (hb6.mono hbw.out.size)
                have sW := (MB.out.below hb36).wholeA hD.out
                rw [hT.out.star HF.out] at sW
                have nW := (MB.out.below hb36).wholeA (S := ⟨#[]⟩) (l := []) rfl
                rw [runes_nil, star_nil] at nW
                have r0 : Below w6.heap.size w6 w6 := Below.refl _ _
                have SW := Lib.hid sW; have NW := Lib.hid nW; have HW6 := Lib.hid hw6
                clear sW nW hw6 hb36 hb6
                by_cases hkc : kc = 0
                · obtain ⟨tc, bc, hc, rfl, hmc⟩ := hk6.zero hkc
                  subst hkc
                  obtain rfl := times_parse (k := m) hm8 HA.out hc
                  have tW := hmc.wholeA hD.out
                  have ht := hT.out.times HF.out
                  rw [hG.out] at ht
                  rw [ht] at tW
                  have TW := Lib.hid tW
                  clear tW ht hc hmc hk6
                  go_wp2_with (first | (with_reducible refine (SW.out _ (by assumption)).mono ?_; rintro e wy ⟨rfl, hby⟩) | (with_reducible refine (TW.out _ (by assumption)).mono ?_; rintro e wy ⟨rfl, hby⟩) | (with_reducible refine (NW.out _ (by assumption)).mono ?_; rintro e wy ⟨rfl, hby⟩))
                  go_ret
                  refine ⟨rfl, HW6.out.trans (Below.mono (?_ : Below w6.heap.size w6 _) HW6.out.size)⟩
                  assumption
                · have z : ¬ (kc : Int) = 0 := by omega
                  clear hk6 hkc zS1 zP1 zQ2 zQ3 p1 p2 q2 q3 q4 he sDB hm8 hj
                  go_wp2_with (first | (with_reducible refine (SW.out _ (by assumption)).mono ?_; rintro e wy ⟨rfl, hby⟩) | (with_reducible refine (NW.out _ (by assumption)).mono ?_; rintro e wy ⟨rfl, hby⟩))
                  go_ret
                  refine ⟨rfl, HW6.out.trans (Below.mono (?_ : Below w6.heap.size w6 _) HW6.out.size)⟩
                  assumption
    · have z1 : (ka : Int) = 0 := by omega
      have z2 : ¬ (kb : Int) = 0 := by omega
      go_wp2_with fail
      go_ret
      exact ⟨rfl, HW3.out⟩
  · have z1 : ¬ (ka : Int) = 0 := by omega
    go_wp2_with fail
    go_ret
    exact ⟨rfl, HW3.out⟩
end Go.Proofs.YtkojmgnbmnjmmaaDoor
