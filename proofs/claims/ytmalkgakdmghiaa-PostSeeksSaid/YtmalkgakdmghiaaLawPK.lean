import Derived.Test.YtmalkgakdmghiaaAwk
/-! PostKeeps: the walk -/
namespace Go.Proofs.Ytmalkgakdmghiaa
open Go.RowKit Go.Shelf Garner

theorem packP_cases (l : List Nat) : (l.length ≤ 65536 ∧ risingB l = true) ∨ ∃ k, packP l = .error k ∧ 0 < k := by
  by_cases h1 : 65536 < l.length
  · exact .inr ⟨3, by unfold packP; rw [if_pos h1], by omega⟩
  · cases h2 : risingB l with
    | true => exact .inl ⟨by omega, rfl⟩
    | false => exact .inr ⟨1, by unfold packP; rw [if_neg h1, if_neg (by rw [h2]; simp)], by omega⟩
theorem seekR_head {l : List Nat} {k : Nat} (h : k < l.length) : seekR l[k] (l.drop k) = l[k] :: l.drop (k + 1) := by
  rw [List.drop_eq_getElem_cons h]
  exact seekR_hit (a := []) (by simp) (Nat.le_refl _)

set_option maxRecDepth 100000 in
set_option maxHeartbeats 8000000 in
theorem lawPK (l : List Nat) (A : Option Addr) (c B : Nat) (w : World) (hr : Row w B 1 A l.length (l.map u64v)) (hB : B ≤ w.heap.size) (hn : ∀ n ∈ l, n < 18446744073709551616) (hl : l.length ≤ 140737488355328) (hc : l.length ≤ c) :
    Calls Try.prog 5 #[.slice A l.length c] w fun e w' => e = .returned (.bool true) ∧ Below w.heap.size w w' := by
  have Hn := Lib.hid hn; clear hn
  go_enter Try.func5, Try.ntmps5
  go_wp2_with fail
  refine (awakeP w).mono ?_
  rintro e w1 ⟨rfl, hb1⟩
  have s1 := hb1.size
  have hr1 := hr.below (hb1.mono hB)
  rcases packP_cases l with ⟨hl2, hris⟩ | ⟨k, hk, hk0⟩
  · have Hris := Lib.hid hris; clear hris
    go_wp2_with fail
    refine (vWrite_ok l A c B w1 hr1 (by omega) Hn.out hl2 Hris.out hc).mono ?_
    rintro e w2 ⟨v2, rfl, own2, hb2⟩
    have hb02 : Below w.heap.size w w2 := hb1.trans (hb2.mono s1)
    have s2 := hb02.size
    obtain ⟨bb, hbb⟩ : ∃ bb, bb = postB l := ⟨_, rfl⟩
    have hbbp : 0 < bb.length := by rw [hbb]; exact postB_pos l
    have hbbl : bb.length ≤ 5000000 := by rw [hbb, postB_eq]; exact (blksOk hl2 Hris.out Hn.out).len
    rw [← hbb] at own2
    have Hbb := Lib.hid hbb; clear hbb
    obtain ⟨A2, c2, rfl, -⟩ := own_form own2
    obtain ⟨g, rfl, hg1, hg2, hg3, hg4, -⟩ := own_at own2 hbbp
    go_wp2_with fail
    refine (vOpenP l bb _ c2 w2.heap.size w2 Hbb.out hl2 Hris.out Hn.out (Row.of_own own2) (Nat.le_refl _)).mono ?_
    rintro e w3 ⟨I, rfl, hI, hb3⟩
    have own3 : OwnB w3 w.heap.size (.slice (some ⟨g, 0, none⟩) bb.length c2) bb := own_mono (own_below own2 hb3) s1
    have hb03 : Below w.heap.size w w3 := hb02.trans (hb3.mono s2)
    clear own2 hb02
    go_wp2
    go_loopw [6] (fun i wr => ∃ (k : Nat) (xs : List Value), k ≤ bb.length ∧ i = .int .i64 k ∧ wr.ownsRow w.heap.size 5 1 (.slice (some ⟨g, 0, none⟩) bb.length c2) bb.length xs ∧ IterIs wr w2.heap.size I l [] 0 ∧ Below w.heap.size w wr) (fun i _ => bb.length - (intOf i).toNat)
    case atStart => exact ⟨0, _, by omega, rfl, own3, hI, hb03⟩
    case round =>
      obtain ⟨k, xs, hk, rfl, own4, hI4, hb4⟩ := hrel
      obtain ⟨wo, rfl⟩ : ∃ wo : World, wo = wr := ⟨_, rfl⟩
      by_cases hlt : k < bb.length
      · have lt1 : (k : Int) < (bb.length : Int) := by omega
        have w1' : IntKind.i64.wrap ((k : Int) + 1) = (k : Int) + 1 := by rw [IntKind.wrap_i64]; omega
        obtain ⟨g', hg', -, hg6, -, -, hcell⟩ := own_at own4 hbbp
        cases hg'
        have hxl : xs.length = bb.length := by have := own4.1; omega
        have ck : wo.cell? ⟨g, k, none⟩ = some (xs[k]'(by omega)) := by rw [hcell k (by omega), List.getElem?_eq_getElem (by omega)]
        have fk := own4.frozenAt k
        clear hcell
        go_wp2
        refine ⟨⟨k + 1, _, by omega, by simp, own_setC own4, hI4.keep (by simp) (fun j h1 h2 => Below.heap_setCell _ _ _ _ (by show j ≠ g; omega)), hb4.setCell (p := ⟨g, k, none⟩) (by show w.heap.size ≤ g; omega) _⟩, by simp [intOf]; omega⟩
      · obtain rfl : k = bb.length := by omega
        clear own4 own3
        go_wp2_with fail
        refine (vLen l [] 0 w2.heap.size I wo hI4).mono ?_
        rintro e w5 ⟨rfl, hb5⟩
        have s4 := hb4.size
        have hI5 := hI4.below hb5
        have hb05 : Below w.heap.size w w5 := hb4.trans (hb5.mono s4)
        clear hb5 hI4 hb4
        go_wp2
        go_loopw [7] (fun i wr => ∃ (k kk : Nat) (xs : List Nat), k ≤ l.length ∧ i = .int .i64 k ∧ IterIs wr w2.heap.size I l xs kk ∧ Hid (xs ++ restB l kk = l.drop k) ∧ Below w.heap.size w wr) (fun i _ => l.length - (intOf i).toNat)
        case atStart => exact ⟨0, 0, [], by omega, rfl, hI5, Lib.hid (by rw [restB_zero]; rfl), hb05⟩
        case round =>
          obtain ⟨k, kk, xs, hk, rfl, hI6, hrest, hb6⟩ := hrel
          obtain ⟨wp, rfl⟩ : ∃ wp : World, wp = wr := ⟨_, rfl⟩
          have s6 := hb6.size
          by_cases hlt : k < l.length
          · have lt1 : (k : Int) < (l.length : Int) := by omega
            have w1' : IntKind.i64.wrap ((k : Int) + 1) = (k : Int) + 1 := by rw [IntKind.wrap_i64]; omega
            obtain ⟨b, off, rfl, hb, hcell⟩ := hr.at_ hlt
            obtain ⟨x, hx⟩ : ∃ x, x = l[k] := ⟨_, rfl⟩
            have hcx : ∀ w' : World, Below w.heap.size w w' → w'.cell? ⟨b, off + k, none⟩ = some (.int .u64 (x : Int)) := fun w' h => by
              rw [h.cell (p := ⟨b, off + k, none⟩) (by show b < _; omega), hcell k (by simpa using hlt), List.getElem_map, hx]; rfl
            have cx := hcx wp hb6
            have hx64 : x < 18446744073709551616 := by rw [hx]; exact Hn.out _ (List.getElem_mem _)
            clear hcell
            have hsk : seekR x (xs ++ restB l kk) = x :: l.drop (k + 1) := by rw [hrest.out, hx]; exact seekR_head hlt
            have Hsk := Lib.hid hsk; clear hsk
            have Hx := Lib.hid hx; clear hx
            have Hx64 := Lib.hid hx64; clear hx64
            have Hcx := Lib.hid hcx; clear hcx
            go_wp2_with fail
            refine (vSeek l xs x kk w2.heap.size I wp hI6 Hx64.out).mono ?_
            rintro e w7 ⟨hb7, xs', k', hI7, hr7, rfl⟩
            rw [Hsk.out] at hr7 ⊢
            have hb07 : Below w.heap.size w w7 := hb6.trans (hb7.mono (by have := hI6.hbI; omega))
            have cx7 := Hcx.out w7 hb07
            have Hr7 := Lib.hid hr7; clear hr7
            go_wp2
            refine ⟨⟨k + 1, k', xs', by omega, by simp, hI7, Lib.hid (by rw [Hr7.out]; rfl), hb07⟩, by simp [intOf]; omega⟩
          · obtain rfl : k = l.length := by omega
            go_wp2_with fail
            refine (vSeekNil 0 wp).mono ?_
            rintro e w8 ⟨rfl, hb8⟩
            have hb08 : Below w.heap.size w w8 := hb6.trans (hb8.mono s6)
            have s8 := hb08.size
            go_wp2_with fail
            refine (vLenNil w8).mono ?_
            rintro e w9 ⟨rfl, hb9⟩
            go_wp2
            go_ret
            exact ⟨rfl, hb08.trans (hb9.mono s8)⟩
  · have Hk := Lib.hid hk; clear hk
    have hk1 : ¬ (k : Int) = 0 := by omega
    go_wp2_with fail
    refine (vWrite_no l A c B k w1 hr1 (by omega) Hn.out hl Hk.out hk0).mono ?_
    rintro e w2 ⟨rfl, hb2⟩
    go_wp2
    go_ret
    exact ⟨rfl, hb1.trans (hb2.mono s1)⟩
end Go.Proofs.Ytmalkgakdmghiaa
