import Derived.Test.YtmddgimadlmacaaDisk
namespace Go.Proofs.Ytmddgimadlmacaa
open Go.RowKit Garner

def chgL (names : List ByteArray) (dn : Bool) (left : Int) : Int := if dmay names dn = 0 then armed left else left
def chgD (names : List ByteArray) (dn : Bool) (left : Int) : Bool := if dmay names dn = 0 then armedD left dn else dn
theorem chgL_no {names : List ByteArray} {dn : Bool} {left : Int} (h : dmay names dn ≠ 0) : chgL names dn left = left := if_neg h
theorem chgD_no {names : List ByteArray} {dn : Bool} {left : Int} (h : dmay names dn ≠ 0) : chgD names dn left = dn := if_neg h
theorem chgL_idle {names : List ByteArray} {dn : Bool} {left : Int} (h : left ≤ 0) : chgL names dn left = left := by
  unfold chgL armed
  rw [if_neg (show ¬ 0 < left by omega)]
  split <;> rfl
theorem chgD_idle {names : List ByteArray} {dn : Bool} {left : Int} (h : left ≤ 0) : chgD names dn left = dn := by
  unfold chgD armedD
  rw [if_neg (show ¬ 0 < left by omega)]
  split <;> rfl
theorem chgL_yes {names : List ByteArray} {dn : Bool} {left : Int} (h : dmay names dn = 0) (hl : 0 < left) : chgL names dn left = left - 1 := by unfold chgL armed; rw [if_pos h, if_pos hl]
theorem chgD_yes {names : List ByteArray} {dn : Bool} {left : Int} (h : dmay names dn = 0) (hl : 0 < left) : chgD names dn left = decide (left = 1) := by unfold chgD armedD; rw [if_pos h, if_pos hl]
theorem dmay_down {names : List ByteArray} {dn : Bool} (h : dmay names dn = 0) : dn = false := by
  unfold dmay at h
  split at h
  · cases dn
    · rfl
    · simp at h
  · cases h
set_option maxRecDepth 100000 in
set_option maxHeartbeats 4000000 in
theorem vChange (names : List ByteArray) (A : Option Addr) (c B g mp : Nat) (es : Files) (fl dn : Bool) (left : Int) (O : Nat → Prop) (w : World) (hr : Row w B 1 A names.length (names.map Value.string)) (hB : B ≤ w.heap.size) (hd : DiskIs O w g mp es fl dn left) (hl : names.length ≤ 1000) :
    Calls Try.prog 62 #[.pointer (some ⟨g, 0, none⟩), .slice A names.length c] w fun e w' => e = .returned (.int .i64 (dmay names dn)) ∧ DiskIs O w' g mp es fl (chgD names dn left) (chgL names dn left) ∧ But [g] w w' := by
  have hlo := hd.lo; have hhi := hd.hi
  by_cases h0 : dmay names dn = 0
  · obtain rfl := dmay_down h0
    by_cases hp : 0 < left
    · have e1 := chgL_yes h0 hp
      have e2 := chgD_yes h0 hp
      have h0' : ((dmay names false : Nat) : Int) = 0 := by omega
      have H0 := Lib.hid h0'; have E1 := Lib.hid e1; have E2 := Lib.hid e2
      clear h0 h0' e1 e2
      go_enter Try.func62, Try.ntmps62
      go_wp2_with fail
      refine (vDmay names A c B g mp fl false left w hr hB hd.blk hl).mono ?_
      rintro e w1 ⟨rfl, hb1⟩
      rw [H0.out]
      have hd1 := hd.below hb1
      have k0 := hd1.blk.frozen 3; have k2 := hd1.blk.frozen 2
      have c3 : w1.cell? ⟨g, 3, none⟩ = some (.int .i64 left) := hd1.blk.cell 3
      have c2 : w1.cell? ⟨g, 2, none⟩ = some (.bool false) := hd1.blk.cell 2
      clear hd
      go_wp2
      go_ret
      rw [H0.out, E1.out, E2.out]
      have hdec : (left - 1 == 0) = decide (left = 1) := by rw [Bool.eq_iff_iff]; simp; omega
      rw [hdec]
      have hbut : But [g] w1 ((w1.setCell ⟨g, 3, none⟩ (.int .i64 (left - 1))).setCell ⟨g, 2, none⟩ (.bool (decide (left = 1)))) := ((But.refl _ _).setCell (by simp) _).setCell (by simp) _
      have hk : Blk ((w1.setCell ⟨g, 3, none⟩ (.int .i64 (left - 1))).setCell ⟨g, 2, none⟩ (.bool (decide (left = 1)))) g 97 (diskV mp fl (decide (left = 1)) (left - 1)) := (hd1.blk.set_ 3 (.int .i64 (left - 1))).set_ 2 (.bool (decide (left = 1)))
      exact ⟨rfl, hd1.box hbut hk (by omega) (by omega), (But.of_below hb1).trans hbut⟩
    · have e1 : chgL names false left = left := chgL_idle (by omega)
      have e2 : chgD names false left = false := chgD_idle (by omega)
      have h0' : ((dmay names false : Nat) : Int) = 0 := by omega
      have H0 := Lib.hid h0'; have E1 := Lib.hid e1; have E2 := Lib.hid e2
      clear h0 h0' e1 e2
      go_enter Try.func62, Try.ntmps62
      go_wp2_with fail
      refine (vDmay names A c B g mp fl false left w hr hB hd.blk hl).mono ?_
      rintro e w1 ⟨rfl, hb1⟩
      rw [H0.out]
      have hd1 := hd.below hb1
      have c3 : w1.cell? ⟨g, 3, none⟩ = some (.int .i64 left) := hd1.blk.cell 3
      clear hd
      go_wp2
      go_ret
      rw [H0.out, E1.out, E2.out]
      exact ⟨rfl, hd1, But.of_below hb1⟩
  · have e1 := chgL_no (left := left) h0
    have e2 := chgD_no (left := left) h0
    have h0' : (((dmay names dn : Nat) : Int) == 0) = false := by rw [beq_eq_false_iff_ne]; omega
    have E1 := Lib.hid e1; have E2 := Lib.hid e2
    clear h0 e1 e2
    go_enter Try.func62, Try.ntmps62
    go_wp2_with fail
    refine (vDmay names A c B g mp fl dn left w hr hB hd.blk hl).mono ?_
    rintro e w1 ⟨rfl, hb1⟩
    have hd1 := hd.below hb1
    clear hd
    go_wp2
    go_ret
    rw [E1.out, E2.out]
    exact ⟨rfl, hd1, But.of_below hb1⟩
end Go.Proofs.Ytmddgimadlmacaa
