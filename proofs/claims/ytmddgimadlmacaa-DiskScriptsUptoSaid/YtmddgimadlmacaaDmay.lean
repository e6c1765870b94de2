import Derived.Test.YtmddgimadlmacaaName
import Derived.Test.YtmddgimadlmacaaDnew
namespace Go.Proofs.Ytmddgimadlmacaa
open Go.RowKit Garner

/-- what may says of names -/
def dmay (names : List ByteArray) (down : Bool) : Nat := if names.all nameOk then (if down then 23 else 0) else 1
set_option maxRecDepth 100000 in
set_option maxHeartbeats 4000000 in
theorem vDmay (names : List ByteArray) (A : Option Addr) (c B g mp : Nat) (a b : Bool) (left : Int) (w : World) (hr : Row w B 1 A names.length (names.map Value.string)) (hB : B ≤ w.heap.size) (hd : Blk w g 97 (diskV mp a b left)) (hl : names.length ≤ 1000) :
    Calls Try.prog 66 #[.pointer (some ⟨g, 0, none⟩), .slice A names.length c] w fun e w' => e = .returned (.int .i64 (dmay names b)) ∧ Below w.heap.size w w' := by
  have hgw : g < w.heap.size := hd.lt
  go_enter Try.func66, Try.ntmps66
  go_wp2_with fail
  go_loopw [11] (fun i wr => ∃ k : Nat, k ≤ names.length ∧ i = .int .i64 k ∧ Hid ((names.take k).all nameOk = true) ∧ Below w.heap.size w wr) (fun i _ => names.length - (intOf i).toNat)
  case atStart => exact ⟨0, by omega, rfl, rfl, Below.refl _ _⟩
  case round =>
    obtain ⟨k, hk, rfl, hall, hbel⟩ := hrel
    obtain ⟨wo, rfl⟩ : ∃ wo : World, wo = wr := ⟨_, rfl⟩
    by_cases hlt : (k : Int) < names.length
    · have hlt' : k < names.length := by omega
      obtain ⟨bb, off, rfl, hb, hcell⟩ := (hr.below (hbel.mono hB)).at_ (k := k) hlt'
      have c0 : wo.cell? ⟨bb, off + k, none⟩ = some (.string names[k]) := by have := hcell k (by simpa using hlt'); simpa using this
      clear hcell
      have hnx : (names.take (k + 1)).all nameOk = nameOk names[k] := by
        rw [List.take_succ_eq_append_getElem hlt', List.all_append, hall.out]; simp
      obtain ⟨s, hs⟩ : ∃ s, s = names[k] := ⟨_, rfl⟩
      rw [← hs] at c0 hnx
      have Hs := Lib.hid hs; clear hs
      have Hnx := Lib.hid hnx; clear hnx
      go_wp2_with fail
      refine (vName s wo).mono ?_
      rintro e w2 ⟨rfl, hb2⟩
      have hb02 : Below w.heap.size w w2 := hbel.trans (hb2.mono hbel.size)
      cases hn : nameOk s with
      | true =>
        have hn2 : Hid ((names.take (k + 1)).all nameOk = true) := Hnx.out.trans hn
        clear hn
        go_wp2
        go_roundw
        case rel =>
          first
            | exact ⟨k + 1, by omega, by go_num, hn2, hb02⟩
            | ((repeat apply Exists.intro); exact ⟨⟨k + 1, by omega, by go_num, hn2, hb02⟩, rfl⟩)
        case measure => simp [intOf]; omega
      | false =>
        have hn2 : Hid (dmay names b = 1) := by
          show dmay names b = 1
          unfold dmay; rw [if_neg]
          intro h
          rw [List.all_eq_true] at h
          have := h s (by rw [Hs.out]; exact List.getElem_mem hlt')
          rw [hn] at this; cases this
        clear hn
        go_wp2
        go_ret
        rw [hn2.out]
        exact ⟨rfl, hb02⟩
    · obtain rfl : k = names.length := by omega
      rw [List.take_length] at hall
      have hd2 : Hid (dmay names b = if b then 23 else 0) := by show dmay names b = _; unfold dmay; rw [if_pos hall.out]
      have x2 : wo.cell? ⟨g, 2, none⟩ = some (.bool b) := (hbel.cell (p := ⟨g, 2, none⟩) hgw).trans (hd.cell 2)
      cases b
      all_goals
        go_wp2
        go_ret
        rw [hd2.out]
        exact ⟨rfl, hbel⟩
end Go.Proofs.Ytmddgimadlmacaa
