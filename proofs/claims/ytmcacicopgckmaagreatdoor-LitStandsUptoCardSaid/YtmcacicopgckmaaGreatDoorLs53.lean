import Derived.Test.YtmcacicopgckmaaGreatDoorLs47
import Derived.Test.YtmcacicopgckmaaGreatDoorLs48
import Derived.Test.YtmcacicopgckmaaGreatDoorLs52
/-! LitStands: the walk -/
namespace Garner
open Go
theorem flat_len_le {α β : Type} : ∀ (l : List α) (f : α → List β) (m : Nat), (∀ x ∈ l, (f x).length ≤ m) → (l.flatMap f).length ≤ l.length * m
  | [], f, m, _ => by simp
  | a :: l, f, m, h => by
    have h1 := flat_len_le l f m fun x hx => h x (by simp [hx])
    have h2 := h a (by simp)
    rw [List.flatMap_cons, List.length_append, List.length_cons, Nat.add_mul]
    omega
theorem any_take {α : Type} [BEq α] [LawfulBEq α] (l : List α) (x : α) (j : Nat) (y : α) (h : l[j]? = some y) : (l.take (j + 1)).contains x = ((l.take j).contains x || y == x) := by
  rw [List.take_add_one, h, Option.toList_some, Bool.eq_iff_iff, List.contains_iff_mem, Bool.or_eq_true, List.contains_iff_mem, beq_iff_eq, List.mem_append, List.mem_singleton]
  exact ⟨fun h => h.imp id Eq.symm, fun h => h.imp id Eq.symm⟩
end Garner
namespace Go.Proofs.YtmcacicopgckmaaGreatDoor
open Go.RowKit Garner
/-- what LitStands takes of a pattern -/
def standsE (s : Bs) : Prop := (∃ k, k ≠ 0 ∧ rexpP s = .error k ∧ needsE s = .error k ∧ wordsE s = .error k) ∨ ∃ t N W, rexpP s = .ok t ∧ needsE s = .ok N ∧ wordsE s = .ok W ∧ N.length ≤ 20001 ∧ W.length ≤ 900000000 ∧ (∀ l, partB t (runesP l) = true → ∀ x ∈ N, Lib.contains l x = true) ∧ ∀ l, partB t (runesP l) = true → ∀ x ∈ W, x ∈ onceB (wordsT l)
theorem stands_of (s : Bs) : standsE s := by
  unfold standsE wordsE needsE
  cases h : rexpP s with
  | error k => exact .inl ⟨k, by have := err_pos h; omega, rfl, rfl, rfl⟩
  | ok t =>
    obtain ⟨h1, h2⟩ := needs_few h
    exact .inr ⟨t, _, _, rfl, rfl, rfl, h1, by
      have h3 := once_len ((needsP t).flatMap innerP)
      have h4 := flat_len_le (needsP t) innerP 40000 fun x hx => Nat.le_trans (inner_len x) (h2 x hx)
      have h5 : (needsP t).length * 40000 ≤ 20001 * 40000 := Nat.mul_le_mul_right _ h1
      omega, fun l hl x hx => needs_stand hl hx, fun l hl x hx => words_stand hl hx⟩
/-- matchers that are none, asked again and again -/
theorem none_wholeA (Z : World) (S : ByteArray) : ∀ wx, Below Z.heap.size Z wx → Calls Tryz.prog 17 #[.pointer none, .string S] wx fun e w' => e = .returned (.bool false) ∧ Below Z.heap.size Z w' := fun wx hx =>
  (nWhole S wx).mono fun e w' h => ⟨h.1, by rw [h.2]; exact hx⟩
theorem none_partA (Z : World) (S : ByteArray) : ∀ wx, Below Z.heap.size Z wx → Calls Tryz.prog 18 #[.pointer none, .string S] wx fun e w' => e = .returned (.bool false) ∧ Below Z.heap.size Z w' := fun wx hx =>
  (nPart S wx).mono fun e w' h => ⟨h.1, by rw [h.2]; exact hx⟩
set_option maxRecDepth 100000 in
set_option maxHeartbeats 64000000 in
theorem lawLS (S : ByteArray) (s : Bs) (ls : List ByteArray) (A : Option Addr) (n c B : Nat) (hS : S = ⟨s.toArray⟩) (hn : ls.length = n) (w : World) (hr : Row w B 1 A n (ls.map Value.string)) (hB : B ≤ w.heap.size) (hL : Lt w) (b1 : s.length ≤ 1048576) (b2 : ∀ x ∈ ls, x.size ≤ 1048576) (b3 : n ≤ 1048576) :
    Calls Tryz.prog 6 #[.string S, .slice A n c] w fun e w' => e = .returned (.bool true) ∧ Below w.heap.size w w' := by
  have h0 := vAwake21 w hL
  have eS : str s = .string S := by rw [hS]
  have hst := stands_of s
  have HS := Lib.hid hS; have ES := Lib.hid eS; have HL := Lib.hid hL; have H0 := Lib.hid h0; have Hn := Lib.hid hn; have HR := Lib.hid hr; have HB2 := Lib.hid b2; have HST := Lib.hid hst
  clear h0 hS hL eS hn hr b2 hst
  go_enter Tryz.func6, Tryz.ntmps6
  go_wp2_with fail
  refine H0.out.mono ?_
  rintro e w1 ⟨rfl, hb1⟩
  have h1 := vNewA s S HS.out w1 (HL.out.below hb1) (by omega)
  have H1 := Lib.hid h1; have HW1 := Lib.hid hb1
  clear h1 hb1
  go_wp2_with fail
  refine H1.out.mono ?_
  rintro e w2 ⟨pa, ka, rfl, hb2, hk2⟩
  have hw2 := HW1.out.trans (hb2.mono HW1.out.size)
  have h2 := vNeeds s w2 (HL.out.below hw2) (by omega)
  rw [ES.out] at h2
  have H2 := Lib.hid h2; have HW2 := Lib.hid hw2; have HK2 := Lib.hid hk2
  clear h2 hw2 hb2 hk2
  go_wp2_with fail
  refine H2.out.mono ?_
  rintro e w3 ⟨hb3, he⟩
  have hw3 := HW2.out.trans (hb3.mono HW2.out.size)
  have h3 := vWords s w3 (HL.out.below hw3) (by omega)
  rw [ES.out] at h3
  have hk3 := HK2.out.below hb3
  have H3 := Lib.hid h3; have HW3 := Lib.hid hw3; have HK3 := Lib.hid hk3
  clear h3 hw3 hk3 HK2 H2 H1
  rcases HST.out with ⟨k, hk0, er, en, ew⟩ | ⟨t, N, W, er, en, ew, hNl, hWl, hN, hW⟩
  · have hk3 := HK3.out
    rw [er] at hk3
    obtain ⟨rfl, rfl, -, hk40⟩ := hk3
    rw [en] at he
    obtain rfl : e = _ := he
    have h3 := H3.out
    rw [ew] at h3
    have H4 := Lib.hid h3
    clear h3 er en ew HK3 HST
    go_wp2_with fail
    refine H4.out.mono ?_
    rintro e w4 ⟨hb4, he⟩
    obtain rfl : e = _ := he
    have hw4 := HW3.out.trans (hb4.mono HW3.out.size)
    have HW4 := Lib.hid hw4
    clear hb4 hw4 hb3
    go_wp2
    go_loopw [11] (fun i wr => ∃ j : Nat, j ≤ n ∧ i = .int .i64 j ∧ Hid (Below w4.heap.size w4 wr)) (fun i _ => n - (intOf i).toNat)
    case atStart => exact ⟨0, Nat.zero_le _, rfl, Lib.hid (Below.refl _ _)⟩
    case round =>
      obtain ⟨j, hj, rfl, hbw⟩ := hrel
      have wj1 : IntKind.i64.wrap ((j : Int) + 1) = ((j + 1 : Nat) : Int) := by rw [IntKind.wrap_i64]; omega
      by_cases hlt : j < n
      · have z1 : (j : Int) < (n : Int) := by omega
        obtain ⟨x, hx⟩ : ∃ x, ls[j]? = some x := ⟨_, List.getElem?_eq_getElem (by rw [Hn.out]; exact hlt)⟩
        obtain ⟨b, off, rfl, hbB, hcell⟩ := HR.out.2 (by omega)
        have cx0 := hcell j (.string x) (by rw [List.getElem?_map, hx]; rfl)
        have hwr : Below w.heap.size w wr := HW4.out.trans (hbw.out.mono HW4.out.size)
        have cX : wr.cell? ⟨b, off + j, none⟩ = some (.string x) := by
          rw [hwr.cell (p := ⟨b, off + j, none⟩) (by show b < _; omega)]; exact cx0
        have NP := Lib.hid (none_partA w4 x); have NW := Lib.hid (none_wholeA w4 x)
        have r0 := hbw.out
        clear cx0 hcell hx hwr hbw
        go_wp2_with (first | (with_reducible refine (NP.out _ (by assumption)).mono ?_; rintro e wy ⟨rfl, hby⟩) | (with_reducible refine (NW.out _ (by assumption)).mono ?_; rintro e wy ⟨rfl, hbz⟩))
        go_roundw
        case rel => exact ⟨j + 1, by omega, by go_num, Lib.hid hbz⟩
        case measure => simp [intOf]; omega
      · obtain rfl : j = n := by omega
        have z1 : ¬ (j : Int) < (j : Int) := by omega
        go_wp2_with fail
        go_ret
        exact ⟨rfl, HW4.out.trans (hbw.out.mono HW4.out.size)⟩
  · have hk3 := HK3.out
    rw [er] at hk3
    obtain ⟨rfl, bm, rfl, hma⟩ := hk3
    rw [en] at he
    obtain ⟨vN, rfl, oN⟩ := he
    obtain ⟨AN, cN, rfl, -⟩ := own_form oN
    obtain ⟨nN, hnN⟩ : ∃ nN, N.length = nN := ⟨_, rfl⟩
    rw [hnN] at oN ⊢ hNl
    have h3 := H3.out
    rw [ew] at h3
    have H4 := Lib.hid h3; have MA := Lib.hid hma; have ON := Lib.hid oN; have HnN := Lib.hid hnN; have HN := Lib.hid hN; have HWd := Lib.hid hW
    clear h3 er en ew HK3 HST hma oN hnN hN hW
    go_wp2_with fail
    refine H4.out.mono ?_
    rintro e w4 ⟨hb4, vW, rfl, oW⟩
    obtain ⟨AW, cW, rfl, -⟩ := own_form oW
    obtain ⟨nW, hnW⟩ : ∃ nW, W.length = nW := ⟨_, rfl⟩
    rw [hnW] at oW ⊢
    have hw4 := HW3.out.trans (hb4.mono HW3.out.size)
    have HW4 := Lib.hid hw4; have MA4 := Lib.hid (MA.out.below hb4); have HnW := Lib.hid hnW
    have RN := Lib.hid (Row.of_own (own_below ON.out hb4)); have RW := Lib.hid (Row.of_own oW)
    rw [hnW] at hWl
    clear hb4 hw4 hb3 MA ON oW hnW
    go_wp2
    go_loopw [11] (fun i wr => ∃ j : Nat, j ≤ n ∧ i = .int .i64 j ∧ Hid (Below w4.heap.size w4 wr)) (fun i _ => n - (intOf i).toNat)
    case atStart => exact ⟨0, Nat.zero_le _, rfl, Lib.hid (Below.refl _ _)⟩
    case round =>
      obtain ⟨j, hj, rfl, hbw⟩ := hrel
      have wj1 : IntKind.i64.wrap ((j : Int) + 1) = ((j + 1 : Nat) : Int) := by rw [IntKind.wrap_i64]; omega
      by_cases hlt : j < n
      · have z1 : (j : Int) < (n : Int) := by omega
        obtain ⟨x, hx⟩ : ∃ x, ls[j]? = some x := ⟨_, List.getElem?_eq_getElem (by rw [Hn.out]; exact hlt)⟩
        have hxs := HB2.out x (List.mem_of_getElem? hx)
        obtain ⟨b, off, rfl, hbB, hcell⟩ := HR.out.2 (by omega)
        have cx0 := hcell j (.string x) (by rw [List.getElem?_map, hx]; rfl)
        have hwr : Below w.heap.size w wr := HW4.out.trans (hbw.out.mono HW4.out.size)
        have cX : wr.cell? ⟨b, off + j, none⟩ = some (.string x) := by
          rw [hwr.cell (p := ⟨b, off + j, none⟩) (by show b < _; omega)]; exact cx0
        obtain ⟨xl, hxl⟩ : ∃ xl : Bs, x.data.toList = xl := ⟨_, rfl⟩
        have ex : str xl = .string x := by rw [← hxl]
        have ex2 : x = ⟨xl.toArray⟩ := by rw [← hxl]
        have hxl2 : xl.length ≤ 1048576 := by rw [← hxl, ← Lib.size_eq]; exact hxs
        have mar := MA4.out.below hbw.out
        have lP := mar.partA ex2
        have lW := mar.wholeA ex2
        have hwp : wholeB t (runesP xl) = true → partB t (runesP xl) = true := whole_part
        have r0 : Below wr.heap.size wr wr := Below.refl _ _
        have Ex := Lib.hid ex; have Ex2 := Lib.hid ex2; have Hbw := Lib.hid hbw.out
        have hNp := HN.out xl; have hWp := HWd.out xl
        cases hpb : partB t (runesP xl) with
        | false =>
          have hwb : wholeB t (runesP xl) = false := by
            cases hwb : wholeB t (runesP xl) with
            | false => rfl
            | true => rw [hwp hwb] at hpb; cases hpb
          rw [hpb] at lP
          rw [hwb] at lW
          have LP := Lib.hid lP; have LW := Lib.hid lW
          clear lP lW hpb hwb hwp mar ex ex2 hxl hwr cx0 hcell hx hbw hNp hWp
          go_wp2_with (first | (with_reducible refine (LP.out _ (by assumption)).mono ?_; rintro e wy ⟨rfl, hby⟩) | (with_reducible refine (LW.out _ (by assumption)).mono ?_; rintro e wy ⟨rfl, hbz⟩))
          go_roundw
          case rel => exact ⟨j + 1, by omega, by go_num, Lib.hid (Hbw.out.trans (hbz.mono Hbw.out.size))⟩
          case measure => simp [intOf]; omega
        | true =>
          rw [hpb] at lP
          have HNp := Lib.hid (hNp hpb); have HWp := Lib.hid (hWp hpb)
          have LP := Lib.hid lP
          clear lP lW hpb hwp mar ex ex2 hxl hwr cx0 hcell hx hbw hNp hWp
          go_wp2_with fail
          with_reducible refine (LP.out _ r0).mono ?_
          rintro e w5 ⟨rfl, hb5⟩
          have hb45 := Hbw.out.trans (hb5.mono Hbw.out.size)
          have H45 := Lib.hid hb45
          clear hb5 hb45 r0 cX
          go_wp2
          go_loopw [13] (fun i wq => ∃ k : Nat, k ≤ nN ∧ i = .int .i64 k ∧ Hid (Below w4.heap.size w4 wq)) (fun i _ => nN - (intOf i).toNat)
          case atStart => exact ⟨0, Nat.zero_le _, rfl, H45⟩
          case round =>
            obtain ⟨k, hk, rfl, hbq⟩ := hrel
            obtain ⟨wo, rfl⟩ : ∃ wo : World, wo = wr := ⟨_, rfl⟩
            have wk1 : IntKind.i64.wrap ((k : Int) + 1) = ((k + 1 : Nat) : Int) := by rw [IntKind.wrap_i64]; omega
            by_cases hkn : k < nN
            · have z2 : (k : Int) < (nN : Int) := by omega
              obtain ⟨y, hy⟩ : ∃ y, N[k]? = some y := ⟨_, List.getElem?_eq_getElem (by rw [HnN.out]; exact hkn)⟩
              obtain ⟨bN, oN, rfl, hbN, cN0⟩ := str_at RN.out hy
              have cN1 : wo.cell? ⟨bN, oN + k, none⟩ = some (.string ⟨y.toArray⟩) := by
                rw [hbq.out.cell (p := ⟨bN, oN + k, none⟩) (by show bN < _; omega)]; exact cN0
              have hh := vHas xl y wo (HL.out.below (HW4.out.trans (hbq.out.mono HW4.out.size))) (by omega)
              rw [Ex.out, HNp.out y (List.mem_of_getElem? hy)] at hh
              obtain ⟨Y, hY⟩ : ∃ Y : ByteArray, Y = ⟨y.toArray⟩ := ⟨_, rfl⟩
              rw [show str y = .string Y by rw [hY]] at hh
              rw [← hY] at cN1
              have HH := Lib.hid hh
              clear hh cN0 hy hY
              go_wp2_with (with_reducible refine HH.out.mono ?_; rintro e wy ⟨rfl, hz⟩; obtain rfl : wo = wy := hz.symm)
              go_roundw
              case rel => exact ⟨k + 1, by omega, by go_num, hbq⟩
              case measure => simp [intOf]; omega
            · obtain rfl : k = nN := by omega
              have z2 : ¬ (k : Int) < (k : Int) := by omega
              have hset := vSet x xl Ex2.out wo (by omega)
              have HSet := Lib.hid hset
              clear hset
              go_wp2_with fail
              refine HSet.out.mono ?_
              rintro e w6 ⟨vS, rfl, oS, hb6⟩
              obtain ⟨AS, cS, rfl, -⟩ := own_form oS
              obtain ⟨ST, hST⟩ : ∃ ST, onceB (wordsT xl) = ST := ⟨_, rfl⟩
              rw [hST] at oS HWp ⊢
              obtain ⟨nS, hnS⟩ : ∃ nS, ST.length = nS := ⟨_, rfl⟩
              have hnSl : nS ≤ 9223372036854775807 := by
                by_cases h : 0 < ST.length
                · obtain ⟨gS, -, -, -, hq1, hq2, -⟩ := own_at oS h
                  simp only [maxLen] at hq2
                  omega
                · omega
              rw [hnS] at oS ⊢
              have hb46 := hbq.out.trans (hb6.mono hbq.out.size)
              have H46 := Lib.hid hb46; have RS := Lib.hid (Row.of_own oS); have HnS := Lib.hid hnS
              clear oS hb6 hb46 hST hnS hbq HSet H45 LP
              go_wp2
              go_loopw [15] (fun i wq => ∃ k : Nat, k ≤ nW ∧ i = .int .i64 k ∧ Hid (Below w4.heap.size w4 wq) ∧ Hid (Below w6.heap.size w6 wq)) (fun i _ => nW - (intOf i).toNat)
              case atStart => exact ⟨0, Nat.zero_le _, rfl, H46, Lib.hid (Below.refl _ _)⟩
              case round =>
                obtain ⟨q, hq, rfl, hbq, hb6q⟩ := hrel
                obtain ⟨wo, rfl⟩ : ∃ wo : World, wo = wr := ⟨_, rfl⟩
                have wq1 : IntKind.i64.wrap ((q : Int) + 1) = ((q + 1 : Nat) : Int) := by rw [IntKind.wrap_i64]; omega
                by_cases hqn : q < nW
                · have z2 : (q : Int) < (nW : Int) := by omega
                  have hV := cValid xl wo (HL.out.below (HW4.out.trans (hbq.out.mono HW4.out.size))) (by omega)
                  rw [Ex.out] at hV
                  obtain ⟨vb, hvb⟩ : ∃ vb, Lib.validD xl = vb := ⟨_, rfl⟩
                  rw [hvb] at hV
                  have HV := Lib.hid hV
                  clear hV hvb
                  go_wp2_with fail
                  refine HV.out.mono ?_
                  rintro e w7 ⟨rfl, hb7⟩
                  have hb47 := hbq.out.trans (hb7.mono hbq.out.size)
                  have hb67 := hb6q.out.trans (hb7.mono hb6q.out.size)
                  have H47 := Lib.hid hb47; have H67 := Lib.hid hb67
                  clear hb7 hb47 hb67 hbq hb6q HV
                  cases vb with
                  | false =>
                    go_wp2_with fail
                    go_roundw
                    case rel => exact ⟨j + 1, by omega, by go_num, H47⟩
                    case measure => simp [intOf]; omega
                  | true =>
                    obtain ⟨y, hy⟩ : ∃ y, W[q]? = some y := ⟨_, List.getElem?_eq_getElem (by rw [HnW.out]; exact hqn)⟩
                    obtain ⟨bW, oW, rfl, hbW, cW0⟩ := str_at RW.out hy
                    have hys := HWp.out y (List.mem_of_getElem? hy)
                    have Hy := Lib.hid hy; have Hys := Lib.hid hys; have CW := Lib.hid cW0
                    clear hy hys cW0
                    go_wp2
                    go_loopw [16, 17] (fun ok i wz => ∃ m : Nat, m ≤ nS ∧ i = .int .i64 m ∧ ok = .bool ((ST.take m).contains y) ∧ Hid (Below w7.heap.size w7 wz)) (fun _ i _ => nS - (intOf i).toNat)
                    case atStart => exact ⟨0, Nat.zero_le _, rfl, rfl, Lib.hid (Below.refl _ _)⟩
                    case round =>
                      obtain ⟨m, hm, rfl, rfl, hbz⟩ := hrel
                      obtain ⟨wz, rfl⟩ : ∃ wz : World, wz = wr := ⟨_, rfl⟩
                      have h4z := H47.out.trans (hbz.out.mono H47.out.size)
                      have h6z := H67.out.trans (hbz.out.mono H67.out.size)
                      have H4z := Lib.hid h4z; have H6z := Lib.hid h6z
                      clear h4z h6z
                      by_cases hmn : m < nS
                      · have z3 : (m : Int) < (nS : Int) := by omega
                        have wm1 : IntKind.i64.wrap ((m : Int) + 1) = ((m + 1 : Nat) : Int) := by rw [IntKind.wrap_i64]; omega
                        obtain ⟨z, hz⟩ : ∃ z, ST[m]? = some z := ⟨_, List.getElem?_eq_getElem (by rw [HnS.out]; exact hmn)⟩
                        obtain ⟨bS, oS, rfl, hbS, cS0⟩ := str_at RS.out hz
                        have cS1 : wz.cell? ⟨bS, oS + m, none⟩ = some (.string ⟨z.toArray⟩) := by
                          rw [H6z.out.cell (p := ⟨bS, oS + m, none⟩) (by show bS < _; omega)]; exact cS0
                        have cW1 : wz.cell? ⟨bW, oW + q, none⟩ = some (.string ⟨y.toArray⟩) := by
                          rw [H4z.out.cell (p := ⟨bW, oW + q, none⟩) (by show bW < _; omega)]; exact CW.out
                        have htk := any_take ST y m z hz
                        obtain ⟨o1, ho1⟩ : ∃ o1, (ST.take m).contains y = o1 := ⟨_, rfl⟩
                        obtain ⟨o2, ho2⟩ : ∃ o2, (z == y) = o2 := ⟨_, rfl⟩
                        rw [ho1, ho2] at htk
                        have Htk := Lib.hid htk
                        rw [ho1]
                        clear htk ho1 hz cS0
                        cases o1 <;> cases o2
                        all_goals
                          go_wp2_with fail
                          go_quiet (fail)
                          go_wp2
                          go_roundw
                          case rel =>
                            refine ⟨m + 1, by omega, by go_num, ?_, ?_⟩
                            · exact congrArg Value.bool Htk.out.symm
                            · exact Lib.hid (hbz.out.trans ⟨rfl, rfl, rfl, Nat.le_refl _, fun _ _ => rfl⟩)
                          case measure => simp [intOf]; omega
                      · obtain rfl : m = nS := by omega
                        have z3 : ¬ (m : Int) < (m : Int) := by omega
                        have hall : (ST.take m).contains y = true := by
                          rw [List.take_of_length_le (by rw [HnS.out]; exact Nat.le_refl _), List.contains_iff_mem]; exact Hys.out
                        rw [hall]
                        go_wp2
                        go_roundw
                        case rel => exact ⟨q + 1, by omega, by go_num, H4z, H6z⟩
                        case measure => simp [intOf]; omega
                · obtain rfl : q = nW := by omega
                  have z2 : ¬ (q : Int) < (q : Int) := by omega
                  go_wp2_with fail
                  go_roundw
                  case rel => exact ⟨j + 1, by omega, by go_num, hbq⟩
                  case measure => simp [intOf]; omega
      · obtain rfl : j = n := by omega
        have z1 : ¬ (j : Int) < (j : Int) := by omega
        go_wp2_with fail
        go_ret
        exact ⟨rfl, HW4.out.trans (hbw.out.mono HW4.out.size)⟩
end Go.Proofs.YtmcacicopgckmaaGreatDoor
