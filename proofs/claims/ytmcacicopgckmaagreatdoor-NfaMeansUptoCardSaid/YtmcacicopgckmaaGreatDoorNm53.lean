import Derived.Test.YtmcacicopgckmaaGreatDoorNm48
import Derived.Test.YtmcacicopgckmaaGreatDoorNm52
/-! NfaMeans: the walk -/
namespace Go.Proofs.YtmcacicopgckmaaGreatDoor
open Go.RowKit Garner
/-- matchers that are none, asked again and again -/
theorem nil_wholeA (Z : World) (S : ByteArray) : ∀ wx, Below Z.heap.size Z wx → Calls Tryz.prog 17 #[.pointer none, .string S] wx fun e w' => e = .returned (.bool false) ∧ Below Z.heap.size Z w' := fun wx hx =>
  (nWhole S wx).mono fun e w' h => ⟨h.1, by rw [h.2]; exact hx⟩
theorem nil_partA (Z : World) (S : ByteArray) : ∀ wx, Below Z.heap.size Z wx → Calls Tryz.prog 18 #[.pointer none, .string S] wx fun e w' => e = .returned (.bool false) ∧ Below Z.heap.size Z w' := fun wx hx =>
  (nPart S wx).mono fun e w' h => ⟨h.1, by rw [h.2]; exact hx⟩
set_option maxRecDepth 100000 in
set_option maxHeartbeats 64000000 in
theorem lawNM (S : ByteArray) (s : Bs) (ls : List ByteArray) (A : Option Addr) (n c B : Nat) (hS : S = ⟨s.toArray⟩) (hn : ls.length = n) (w : World) (hr : Row w B 1 A n (ls.map Value.string)) (hB : B ≤ w.heap.size) (hL : Lt w) (b1 : s.length ≤ 140737488355328) (b2 : ∀ x ∈ ls, x.size ≤ 1048576) (b3 : n ≤ 140737488355328) :
    Calls Tryz.prog 4 #[.string S, .slice A n c] w fun e w' => e = .returned (.bool true) ∧ Below w.heap.size w w' := by
  have h0 := vAwake19 w hL
  have eS : str s = .string S := by rw [hS]
  have he := fun k => @err_pos s k
  have HS := Lib.hid hS; have ES := Lib.hid eS; have HL := Lib.hid hL; have H0 := Lib.hid h0; have Hn := Lib.hid hn; have HR := Lib.hid hr; have HB2 := Lib.hid b2; have HE := Lib.hid he
  clear h0 hS hL eS hn hr b2 he
  go_enter Tryz.func4, Tryz.ntmps4
  go_wp2_with fail
  refine H0.out.mono ?_
  rintro e w1 ⟨rfl, hb1⟩
  have h1 := vNewA s S HS.out w1 (HL.out.below hb1) (by omega)
  have H1 := Lib.hid h1; have HW1 := Lib.hid hb1
  clear h1 hb1
  go_wp2_with fail
  refine H1.out.mono ?_
  rintro e w2 ⟨pa, ka, rfl, hb2, hk2⟩
  have hw2 := HW1.out.trans (hb2.mono HW1.out.size)
  have h2 := qParse s w2 (by omega)
  rw [ES.out] at h2
  have H2 := Lib.hid h2; have HW2 := Lib.hid hw2; have HK2 := Lib.hid hk2
  clear h2 hw2 hb2 hk2
  go_wp2_with fail
  refine H2.out.mono ?_
  rintro e w3 ⟨hb3, ho⟩
  have hw3 := HW2.out.trans (hb3.mono HW2.out.size)
  have hk3 := HK2.out.below hb3
  cases hx : rexpP s with
  | error k =>
    rw [hx] at ho hk3
    obtain rfl := ho
    obtain ⟨rfl, rfl, hk0, -⟩ := hk3
    have HW3 := Lib.hid hw3
    have z1 : ¬ (ka : Int) = 0 := by omega
    have z1b : ((ka : Int) != 0) = true := by simp; omega
    have z1c : ((ka : Int) == 0) = false := by simp; omega
    clear hx hw3 hb3 HK2 H1 H2 HE
    go_wp2
    go_loopw [9] (fun i wr => ∃ j : Nat, j ≤ n ∧ i = .int .i64 j ∧ Hid (Below w3.heap.size w3 wr)) (fun i _ => n - (intOf i).toNat)
    case atStart => exact ⟨0, Nat.zero_le _, rfl, Lib.hid (Below.refl _ _)⟩
    case round =>
      obtain ⟨j, hj, rfl, hbw⟩ := hrel
      obtain ⟨wo, rfl⟩ : ∃ wo : World, wo = wr := ⟨_, rfl⟩
      have wj1 : IntKind.i64.wrap ((j : Int) + 1) = ((j + 1 : Nat) : Int) := by rw [IntKind.wrap_i64]; omega
      by_cases hlt : j < n
      · have z2 : (j : Int) < (n : Int) := by omega
        obtain ⟨x, hxx⟩ : ∃ x, ls[j]? = some x := ⟨_, List.getElem?_eq_getElem (by rw [Hn.out]; exact hlt)⟩
        obtain ⟨b, off, rfl, hbB, hcell⟩ := HR.out.2 (by omega)
        have cx0 := hcell j (.string x) (by rw [List.getElem?_map, hxx]; rfl)
        have cX : ∀ wx, Below w3.heap.size w3 wx → wx.cell? ⟨b, off + j, none⟩ = some (.string x) := fun wx h => by
          rw [(HW3.out.trans (h.mono HW3.out.size)).cell (p := ⟨b, off + j, none⟩) (by show b < _; omega)]; exact cx0
        have NP := Lib.hid (nil_partA w3 x); have NW := Lib.hid (nil_wholeA w3 x); have CX := Lib.hid cX
        have r0 := hbw.out
        have cX0 := cX wo r0
        clear cx0 hcell hxx cX
        go_wp2_with (first | (with_reducible refine (NP.out _ (by assumption)).mono ?_; rintro e wy ⟨rfl, hbz⟩; have cY := CX.out _ hbz) | (with_reducible refine (NW.out _ (by assumption)).mono ?_; rintro e wy ⟨rfl, hby⟩; have cY := CX.out _ hby))
        go_upto_region 12 with fail
        go_quiet (fail)
        go_wp2
        go_roundw
        case rel => exact ⟨j + 1, by omega, by go_num, Lib.hid (belowN hbz _)⟩
        case measure => simp [intOf]; omega
      · obtain rfl : j = n := by omega
        have z2 : ¬ (j : Int) < (j : Int) := by omega
        go_wp2
        go_ret
        exact ⟨rfl, HW3.out.trans (hbw.out.mono HW3.out.size)⟩
  | ok t =>
    rw [hx] at ho hk3
    obtain ⟨vN, rfl, hN⟩ := ho
    obtain ⟨rfl, bm, rfl, hma⟩ := hk3
    have hg := rexp_goodE hx
    obtain ⟨NA, nc, rfl⟩ : ∃ NA nc, vN = .slice NA (t.flat 0).length nc := by
      obtain ⟨ds, -, ho, -⟩ := hN
      obtain ⟨NA, nc, h, -⟩ := own_form ho
      exact ⟨NA, nc, h⟩
    obtain ⟨N, hNl⟩ : ∃ N, (t.flat 0).length = N := ⟨_, rfl⟩
    have HW3 := Lib.hid hw3; have HN := Lib.hid hN; have MA := Lib.hid hma; have HNl := Lib.hid hNl; have HG := Lib.hid hg
    rw [hNl]
    clear hx hw3 hb3 hN hma hNl hg HK2 H1 H2 HE
    go_wp2
    go_loopw [9] (fun i wr => ∃ j : Nat, j ≤ n ∧ i = .int .i64 j ∧ Hid (Below w3.heap.size w3 wr)) (fun i _ => n - (intOf i).toNat)
    case atStart => exact ⟨0, Nat.zero_le _, rfl, Lib.hid (Below.refl _ _)⟩
    case round =>
      obtain ⟨j, hj, rfl, hbw⟩ := hrel
      obtain ⟨wo, rfl⟩ : ∃ wo : World, wo = wr := ⟨_, rfl⟩
      have wj1 : IntKind.i64.wrap ((j : Int) + 1) = ((j + 1 : Nat) : Int) := by rw [IntKind.wrap_i64]; omega
      by_cases hlt : j < n
      · have z2 : (j : Int) < (n : Int) := by omega
        obtain ⟨x, hxx⟩ : ∃ x, ls[j]? = some x := ⟨_, List.getElem?_eq_getElem (by rw [Hn.out]; exact hlt)⟩
        have hxs := HB2.out x (List.mem_of_getElem? hxx)
        obtain ⟨b, off, rfl, hbB, hcell⟩ := HR.out.2 (by omega)
        have cx0 := hcell j (.string x) (by rw [List.getElem?_map, hxx]; rfl)
        have cX : ∀ wx, Below w3.heap.size w3 wx → wx.cell? ⟨b, off + j, none⟩ = some (.string x) := fun wx h => by
          rw [(HW3.out.trans (h.mono HW3.out.size)).cell (p := ⟨b, off + j, none⟩) (by show b < _; omega)]; exact cx0
        obtain ⟨xl, hxl⟩ : ∃ xl : Bs, x.data.toList = xl := ⟨_, rfl⟩
        have ex2 : x = ⟨xl.toArray⟩ := by rw [← hxl]
        have hxl2 : xl.length ≤ 1048576 := by rw [← hxl, ← Lib.size_eq]; exact hxs
        have pW := MA.out.wholeA ex2
        have pP := MA.out.partA ex2
        have rW : ∀ wx, Below w3.heap.size w3 wx → Calls Tryz.prog 19 #[.slice NA N nc, .string x] wx fun e w' => e = .returned (.bool (wholeB t (runesP xl))) ∧ Below w3.heap.size w3 w' := fun wx h => by
          have h1 := wWhole t HG.out HN.out x xl ex2 (by omega) wx h
          rw [HNl.out] at h1
          exact h1.mono fun e w' h2 => ⟨h2.1, h.trans (h2.2.mono h.size)⟩
        have rP : ∀ wx, Below w3.heap.size w3 wx → Calls Tryz.prog 20 #[.slice NA N nc, .string x] wx fun e w' => e = .returned (.bool (partB t (runesP xl))) ∧ Below w3.heap.size w3 w' := fun wx h => by
          have h1 := wPart t HG.out HN.out x xl ex2 (by omega) wx h
          rw [HNl.out] at h1
          exact h1.mono fun e w' h2 => ⟨h2.1, h.trans (h2.2.mono h.size)⟩
        obtain ⟨aw, haw⟩ : ∃ aw, wholeB t (runesP xl) = aw := ⟨_, rfl⟩
        obtain ⟨ap, hap⟩ : ∃ ap, partB t (runesP xl) = ap := ⟨_, rfl⟩
        rw [haw] at pW rW
        rw [hap] at pP rP
        have PW := Lib.hid pW; have PP := Lib.hid pP; have RW := Lib.hid rW; have RP := Lib.hid rP
        have hS0 := hbw.out.drew
        have cX0 := cX wo hbw.out
        clear cx0 hcell hxx hxl ex2 hxl2 hxs pW pP rW rP haw hap
        go_upto_region 12 with fail
        refine wp_region_N (fun w' => Below w3.heap.size w3 w') 100 (by kernel_rfl) ?_
        apply wpAnyN_takeL 0 (by kernel_rfl) rfl (fun _ _ _ h => h) (by kernel_rfl) hS0
        · intro w' hS'
          go_simp; exact ⟨rfl, rfl⟩
        (try simp only [Act.put]); (try simp only [List.setIfInBounds_toArray]); (try simp only [List.set])
        apply wpAnyN_takeL 1 (by kernel_rfl) rfl (fun _ _ _ h => h) (by kernel_rfl) hS0
        · intro w' hS'
          go_simp; exact ⟨rfl, rfl⟩
        (try simp only [Act.put]); (try simp only [List.setIfInBounds_toArray]); (try simp only [List.set])
        apply wpAnyN_takeL 2 (by kernel_rfl) rfl (fun _ _ _ h => h) (by kernel_rfl) hS0
        · intro w' hS'
          go_simp; exact ⟨rfl, rfl⟩
        (try simp only [Act.put]); (try simp only [List.setIfInBounds_toArray]); (try simp only [List.set])
        apply wpAnyN_takeL 3 (by kernel_rfl) rfl (fun _ _ _ h => h) (by kernel_rfl) hS0
        · intro w' hS'
          go_simp; exact ⟨rfl, rfl⟩
        (try simp only [Act.put]); (try simp only [List.setIfInBounds_toArray]); (try simp only [List.set])
        apply wpAnyN_takeL 4 (by kernel_rfl) rfl (fun _ _ _ h => h) (by kernel_rfl) hS0
        · intro w' hS'
          go_simp; exact ⟨rfl, rfl⟩
        (try simp only [Act.put]); (try simp only [List.setIfInBounds_toArray]); (try simp only [List.set])
        apply wpAnyN_takeL 5 (by kernel_rfl) rfl (fun _ _ _ h => h) (by kernel_rfl) hS0
        · intro w' hS'
          go_simp; exact ⟨rfl, rfl⟩
        (try simp only [Act.put]); (try simp only [List.setIfInBounds_toArray]); (try simp only [List.set])
        apply wpAnyN_takeL 6 (by kernel_rfl) rfl (fun _ _ _ h => h) (by kernel_rfl) hS0
        · intro w' hS'
          go_simp; exact ⟨rfl, rfl⟩
        (try simp only [Act.put]); (try simp only [List.setIfInBounds_toArray]); (try simp only [List.set])
        apply wpAnyN_takeL 7 (by kernel_rfl) rfl (fun _ _ _ h => h) (by kernel_rfl) hS0
        · intro w' hS'
          go_simp; exact ⟨rfl, rfl⟩
        (try simp only [Act.put]); (try simp only [List.setIfInBounds_toArray]); (try simp only [List.set])
        apply wpAnyN_takeL 9 (by kernel_rfl) rfl (fun _ _ _ h => h) (by kernel_rfl) hS0
        · intro w' hS'
          go_simp; exact ⟨rfl, rfl⟩
        (try simp only [Act.put]); (try simp only [List.setIfInBounds_toArray]); (try simp only [List.set])
        apply wpAnyN_takeL 10 (by kernel_rfl) rfl (fun _ _ _ h => h) (by kernel_rfl) hS0
        · intro w' hS'
          go_simp; exact ⟨rfl, rfl⟩
        (try simp only [Act.put]); (try simp only [List.setIfInBounds_toArray]); (try simp only [List.set])
        apply wpAnyN_takeL 11 (by kernel_rfl) rfl (fun _ _ _ h => h) (by kernel_rfl) hS0
        · intro w' hS'
          go_simp; exact ⟨rfl, rfl⟩
        (try simp only [Act.put]); (try simp only [List.setIfInBounds_toArray]); (try simp only [List.set])
        apply wpAnyN_takeL 12 (by kernel_rfl) rfl (fun _ _ _ h => h) (by kernel_rfl) hS0
        · intro w' hS'
          go_simp; exact ⟨rfl, rfl⟩
        (try simp only [Act.put]); (try simp only [List.setIfInBounds_toArray]); (try simp only [List.set])
        apply wpAnyN_takeL 13 (by kernel_rfl) rfl (fun _ _ _ h => h) (by kernel_rfl) hS0
        · intro w' hS'
          go_simp; exact ⟨rfl, rfl⟩
        (try simp only [Act.put]); (try simp only [List.setIfInBounds_toArray]); (try simp only [List.set])
        refine wpAnyN_runL 8 (by kernel_rfl) rfl (by kernel_rfl) (fun K hK => ?_)
        go_simp
        refine (PW.out _ hS0).mono ?_
        rintro e w5 ⟨rfl, s5⟩
        refine hK _ _ (fun _ => s5) ?_
        clear hK K
        (try simp only [Act.put]); (try simp only [List.setIfInBounds_toArray]); (try simp only [List.set])
        refine wpAnyN_runL 14 (by kernel_rfl) rfl (by kernel_rfl) (fun K hK => ?_)
        go_simp
        refine (RW.out _ s5).mono ?_
        rintro e w6 ⟨rfl, s6⟩
        refine hK _ _ (fun _ => s6) ?_
        clear hK K
        (try simp only [Act.put]); (try simp only [List.setIfInBounds_toArray]); (try simp only [List.set])
        apply wpAnyN_takeL 15 (v := (.bool false)) (by kernel_rfl) rfl (fun _ _ _ h => h) (by kernel_rfl) s6
        · intro w' hS'
          (go_simp; exact ⟨rfl, rfl⟩)
        (try simp only [Act.put]); (try simp only [List.setIfInBounds_toArray]); (try simp only [List.set])
        apply wpAnyN_takeL 16 (by kernel_rfl) rfl (fun _ _ _ h => h) (by kernel_rfl) s6
        · intro w' hS'
          go_simp; exact ⟨rfl, rfl⟩
        (try simp only [Act.put]); (try simp only [List.setIfInBounds_toArray]); (try simp only [List.set])
        apply wpAnyN_takeL 17 (by kernel_rfl) rfl (fun _ _ _ h => h) (by kernel_rfl) s6
        · intro w' hS'
          go_simp; exact ⟨rfl, rfl⟩
        (try simp only [Act.put]); (try simp only [List.setIfInBounds_toArray]); (try simp only [List.set])
        apply wpAnyN_takeL 18 (by kernel_rfl) rfl (fun _ _ _ h => h) (by kernel_rfl) s6
        · intro w' hS'
          go_simp; exact ⟨rfl, rfl⟩
        (try simp only [Act.put]); (try simp only [List.setIfInBounds_toArray]); (try simp only [List.set])
        apply wpAnyN_takeL 19 (by kernel_rfl) rfl (fun _ _ _ h => h) (by kernel_rfl) s6
        · intro w' hS'
          go_simp; exact ⟨rfl, rfl⟩
        (try simp only [Act.put]); (try simp only [List.setIfInBounds_toArray]); (try simp only [List.set])
        apply wpAnyN_takeL 20 (by kernel_rfl) rfl (fun _ _ _ h => h) (by kernel_rfl) s6
        · intro w' hS'
          go_simp; exact ⟨rfl, rfl⟩
        (try simp only [Act.put]); (try simp only [List.setIfInBounds_toArray]); (try simp only [List.set])
        apply wpAnyN_takeL 21 (by kernel_rfl) rfl (fun _ _ _ h => h) (by kernel_rfl) s6
        · intro w' hS'
          go_simp; exact ⟨rfl, rfl⟩
        (try simp only [Act.put]); (try simp only [List.setIfInBounds_toArray]); (try simp only [List.set])
        apply wpAnyN_takeL 23 (by kernel_rfl) rfl (fun _ _ _ h => h) (by kernel_rfl) s6
        · intro w' hS'
          go_simp; exact ⟨rfl, rfl⟩
        (try simp only [Act.put]); (try simp only [List.setIfInBounds_toArray]); (try simp only [List.set])
        apply wpAnyN_takeL 24 (by kernel_rfl) rfl (fun _ _ _ h => h) (by kernel_rfl) s6
        · intro w' hS'
          go_simp; exact ⟨rfl, rfl⟩
        (try simp only [Act.put]); (try simp only [List.setIfInBounds_toArray]); (try simp only [List.set])
        apply wpAnyN_takeL 25 (by kernel_rfl) rfl (fun _ _ _ h => h) (by kernel_rfl) s6
        · intro w' hS'
          go_simp; exact ⟨rfl, rfl⟩
        (try simp only [Act.put]); (try simp only [List.setIfInBounds_toArray]); (try simp only [List.set])
        apply wpAnyN_takeL 26 (by kernel_rfl) rfl (fun _ _ _ h => h) (by kernel_rfl) s6
        · intro w' hS'
          go_simp; exact ⟨rfl, rfl⟩
        (try simp only [Act.put]); (try simp only [List.setIfInBounds_toArray]); (try simp only [List.set])
        apply wpAnyN_takeL 27 (by kernel_rfl) rfl (fun _ _ _ h => h) (by kernel_rfl) s6
        · intro w' hS'
          go_simp; exact ⟨rfl, rfl⟩
        (try simp only [Act.put]); (try simp only [List.setIfInBounds_toArray]); (try simp only [List.set])
        refine wpAnyN_runL 22 (by kernel_rfl) rfl (by kernel_rfl) (fun K hK => ?_)
        go_simp
        refine (PP.out _ s6).mono ?_
        rintro e w7 ⟨rfl, s7⟩
        refine hK _ _ (fun _ => s7) ?_
        clear hK K
        (try simp only [Act.put]); (try simp only [List.setIfInBounds_toArray]); (try simp only [List.set])
        refine wpAnyN_runL 28 (by kernel_rfl) rfl (by kernel_rfl) (fun K hK => ?_)
        go_simp
        refine (RP.out _ s7).mono ?_
        rintro e w8 ⟨rfl, s8⟩
        refine hK _ _ (fun _ => s8) ?_
        clear hK K
        (try simp only [Act.put]); (try simp only [List.setIfInBounds_toArray]); (try simp only [List.set])
        apply wpAnyN_takeL 29 (v := (.bool false)) (by kernel_rfl) rfl (fun _ _ _ h => h) (by kernel_rfl) s8
        · intro w' hS'
          (go_simp; exact ⟨rfl, rfl⟩)
        (try simp only [Act.put]); (try simp only [List.setIfInBounds_toArray]); (try simp only [List.set])
        apply wpAnyN_takeL 30 (by kernel_rfl) rfl (fun _ _ _ h => h) (by kernel_rfl) s8
        · intro w' hS'
          go_simp; exact ⟨rfl, rfl⟩
        (try simp only [Act.put]); (try simp only [List.setIfInBounds_toArray]); (try simp only [List.set])
        apply wpAnyN_takeL 31 (by kernel_rfl) rfl (fun _ _ _ h => h) (by kernel_rfl) s8
        · intro w' hS'
          go_simp; exact ⟨rfl, rfl⟩
        (try simp only [Act.put]); (try simp only [List.setIfInBounds_toArray]); (try simp only [List.set])
        refine wpAnyN_done (by kernel_rfl) ?_ _
        go_wp2
        go_roundw
        case rel => exact ⟨j + 1, by omega, by go_num, Lib.hid s8⟩
        case measure => simp [intOf]; omega
      · obtain rfl : j = n := by omega
        have z2 : ¬ (j : Int) < (j : Int) := by omega
        go_wp2
        go_ret
        exact ⟨rfl, HW3.out.trans (hbw.out.mono HW3.out.size)⟩
end Go.Proofs.YtmcacicopgckmaaGreatDoor

