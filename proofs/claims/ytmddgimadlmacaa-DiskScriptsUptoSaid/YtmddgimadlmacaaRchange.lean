import Derived.Test.YtmddgimadlmacaaRname
import Derived.Test.YtmddgimadlmacaaChange
namespace Go.Proofs.Ytmddgimadlmacaa
open Go.RowKit Garner

/-- the document's disk: its box -/
abbrev refV (F : Value) (fl dn : Bool) (left : Int) : List Value := [F, .bool fl, .bool dn, .int .i64 left]
theorem dmay_bad1 {a b : ByteArray} {dn : Bool} (h : nameOk a = false) : dmay [a, b] dn = 1 := by unfold dmay; simp [h]
theorem dmay_bad2 {a b : ByteArray} {dn : Bool} (h : nameOk b = false) : dmay [a, b] dn = 1 := by unfold dmay; simp [h]
theorem dmay_ok {a b : ByteArray} {dn : Bool} (h : nameOk a = true) (h' : nameOk b = true) : dmay [a, b] dn = if dn then 23 else 0 := by unfold dmay; simp [h, h']
theorem dmay_same (a : ByteArray) (dn : Bool) : dmay [a, a] dn = dmay [a] dn := by unfold dmay; simp
set_option maxRecDepth 100000 in
set_option maxHeartbeats 4000000 in
theorem rChange (a b : ByteArray) (g : Nat) (F : Value) (fl dn : Bool) (left : Int) (w : World) (hd : Blk w g 77 (refV F fl dn left)) (hlo : -1 ≤ left) (hhi : left ≤ 9223372036854775807) (hla : a.size ≤ 140737488355328) (hlb : b.size ≤ 140737488355328) :
    Calls Try.prog 83 #[.pointer (some ⟨g, 0, none⟩), .string a, .string b] w fun e w' => e = .returned (.int .i64 (dmay [a, b] dn)) ∧ Blk w' g 77 (refV F fl (chgD [a, b] dn left) (chgL [a, b] dn left)) ∧ But [g] w w' := by
  cases ha : nameOk a with
  | false =>
    have h0 := dmay_bad1 (b := b) (dn := dn) ha
    have e1 := chgL_no (names := [a, b]) (dn := dn) (left := left) (by rw [h0]; decide)
    have e2 := chgD_no (names := [a, b]) (dn := dn) (left := left) (by rw [h0]; decide)
    have H0 := Lib.hid h0; have E1 := Lib.hid e1; have E2 := Lib.hid e2
    clear h0 e1 e2
    go_enter Try.func83, Try.ntmps83
    go_wp2_with fail
    refine (rName a w hla).mono ?_
    rintro e w1 ⟨rfl, hb1⟩
    rw [ha]
    have hd1 := hd.below hb1 hd.lt
    clear hd
    go_wp2
    go_ret
    rw [H0.out, E1.out, E2.out]
    exact ⟨rfl, hd1, But.of_below hb1⟩
  | true =>
    cases hb : nameOk b with
    | false =>
      have h0 := dmay_bad2 (a := a) (dn := dn) hb
      have e1 := chgL_no (names := [a, b]) (dn := dn) (left := left) (by rw [h0]; decide)
      have e2 := chgD_no (names := [a, b]) (dn := dn) (left := left) (by rw [h0]; decide)
      have H0 := Lib.hid h0; have E1 := Lib.hid e1; have E2 := Lib.hid e2
      clear h0 e1 e2
      go_enter Try.func83, Try.ntmps83
      go_wp2_with fail
      refine (rName a w hla).mono ?_
      rintro e w1 ⟨rfl, hb1⟩
      rw [ha]
      have hd1 := hd.below hb1 hd.lt
      clear hd
      go_wp2_with fail
      refine (rName b w1 hlb).mono ?_
      rintro e w2 ⟨rfl, hb2⟩
      rw [hb]
      have hd2 := hd1.below hb2 hd1.lt
      have hb02 := hb1.trans (hb2.mono hb1.size)
      clear hd1 hb1 hb2
      go_wp2
      go_ret
      rw [H0.out, E1.out, E2.out]
      exact ⟨rfl, hd2, But.of_below hb02⟩
    | true =>
      have h0 := dmay_ok (dn := dn) ha hb
      have H0 := Lib.hid h0
      go_enter Try.func83, Try.ntmps83
      clear h0
      go_wp2_with fail
      refine (rName a w hla).mono ?_
      rintro e w1 ⟨rfl, hb1⟩
      rw [ha]
      have hd1 := hd.below hb1 hd.lt
      clear hd
      go_wp2_with fail
      refine (rName b w1 hlb).mono ?_
      rintro e w2 ⟨rfl, hb2⟩
      rw [hb]
      have hd2 := hd1.below hb2 hd1.lt
      have hb02 := hb1.trans (hb2.mono hb1.size)
      clear hd1 hb1 hb2
      have c2 : w2.cell? ⟨g, 2, none⟩ = some (.bool dn) := hd2.cell 2
      have c3 : w2.cell? ⟨g, 3, none⟩ = some (.int .i64 left) := hd2.cell 3
      have k2 := hd2.frozen 2; have k3 := hd2.frozen 3
      cases dn with
      | true =>
        have e1 := chgL_no (names := [a, b]) (dn := true) (left := left) (by rw [H0.out]; decide)
        have e2 := chgD_no (names := [a, b]) (dn := true) (left := left) (by rw [H0.out]; decide)
        have E1 := Lib.hid e1; have E2 := Lib.hid e2
        clear e1 e2
        go_wp2
        go_ret
        rw [H0.out, E1.out, E2.out]
        exact ⟨rfl, hd2, But.of_below hb02⟩
      | false =>
        by_cases hp : 0 < left
        · have e1 := chgL_yes (names := [a, b]) H0.out hp
          have e2 := chgD_yes (names := [a, b]) H0.out hp
          have E1 := Lib.hid e1; have E2 := Lib.hid e2
          clear e1 e2
          have hgt := decide_eq_true (show left > 0 from hp)
          by_cases h1 : left = 1
          · subst h1
            go_wp2
            go_ret
            rw [H0.out, E1.out, E2.out]
            have hbut : But [g] w2 ((w2.setCell ⟨g, 3, none⟩ (.int .i64 0)).setCell ⟨g, 2, none⟩ (.bool true)) := ((But.refl _ _).setCell (by simp) _).setCell (by simp) _
            exact ⟨rfl, (hd2.set_ 3 (.int .i64 0)).set_ 2 (.bool true), (But.of_below hb02).trans hbut⟩
          · have hne : (left - 1 == 0) = false := by rw [beq_eq_false_iff_ne]; omega
            go_wp2
            go_ret
            rw [H0.out, E1.out, E2.out, decide_eq_false h1]
            have hbut : But [g] w2 (w2.setCell ⟨g, 3, none⟩ (.int .i64 (left - 1))) := (But.refl _ _).setCell (by simp) _
            exact ⟨rfl, hd2.set_ 3 (.int .i64 (left - 1)), (But.of_below hb02).trans hbut⟩
        · have e1 := chgL_idle (names := [a, b]) (dn := false) (left := left) (by omega)
          have e2 := chgD_idle (names := [a, b]) (dn := false) (left := left) (by omega)
          have E1 := Lib.hid e1; have E2 := Lib.hid e2
          clear e1 e2
          have hgt := decide_eq_false (show ¬ left > 0 from hp)
          go_wp2
          go_ret
          rw [H0.out, E1.out, E2.out]
          exact ⟨rfl, hd2, But.of_below hb02⟩
end Go.Proofs.Ytmddgimadlmacaa
