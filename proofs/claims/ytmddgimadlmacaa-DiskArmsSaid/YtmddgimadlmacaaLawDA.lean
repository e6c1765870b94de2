import Derived.Test.YtmddgimadlmacaaAwake5
namespace Go.Proofs.Ytmddgimadlmacaa
open Go.RowKit Garner

abbrev fsA : List (Bs × FileD) := [([97], ([1], 0))]
theorem da1 : aAppend [97] [1] AD.new = (0, ⟨fsA, false, false, -1⟩) := by kernel_rfl
theorem da2 (fl : Bool) (L : Int) : aRead [97] ⟨fsA, fl, false, L⟩ = ([1], 0) := by kernel_rfl
theorem da3 (fl : Bool) (L : Int) : aList ⟨fsA, fl, false, L⟩ = ([[97]], 0) := by simp [aList, sortN]
theorem da4 (fl : Bool) (L : Int) : aDelete [110, 111, 110, 101] ⟨fsA, fl, false, L⟩ = (21, ⟨fsA, fl, armedD L false, armed L⟩) := by kernel_rfl
theorem da5 (d : AD) : aSync [65] d = (1, d) := by
  have h : ∀ b, dmay [nmS [65]] b = 1 := fun b => by cases b <;> kernel_rfl
  unfold aSync; rw [h]; rfl
theorem da6 (fl : Bool) (L : Int) : aRead [97] ⟨fsA, fl, true, L⟩ = ([], 23) := by kernel_rfl
theorem da7 (fl : Bool) (L : Int) : aList ⟨fsA, fl, true, L⟩ = ([], 23) := by kernel_rfl
theorem da8 : dmay [nmS [98]] true = 23 := by kernel_rfl
theorem da9 (fl : Bool) (L : Int) : aRename [97] [98] ⟨fsA, fl, true, L⟩ = (23, ⟨fsA, fl, true, L⟩) := by kernel_rfl
theorem da10 : dmay [nmS []] true = 1 := by kernel_rfl
theorem da11 (fl : Bool) (L : Int) : aRestart [9] ⟨fsA, fl, true, L⟩ = ⟨[([97], ([1], 1))], false, false, -1⟩ := by
  unfold aRestart; rw [rst_one]; rfl
theorem da12 : aRead [97] ⟨[([97], ([1], 1))], false, false, -1⟩ = ([1], 0) := by kernel_rfl
theorem da13 : aAppend [98] [] ⟨[([97], ([1], 1))], false, false, -1⟩ = (0, ⟨[([97], ([1], 1)), ([98], ([], 0))], false, false, -1⟩) := by kernel_rfl
set_option maxRecDepth 100000 in
set_option maxHeartbeats 4000000 in
theorem lawDA (n : Nat) (full : Bool) (w : World) (hn : n ≤ 255) : Calls Try.prog 7 #[.int .u8 n, .bool full] w fun e w' => e = .returned (.bool true) ∧ Below w.heap.size w w' := by
  go_enter Try.func7, Try.ntmps7
  go_wp2_with fail
  refine (vAwake5 w).mono ?_
  rintro e w0 ⟨rfl, hb0⟩
  go_wp2_with fail
  refine (aNew_calls w.heap.size w0 hb0.size).mono ?_
  rintro e w1 ⟨g, mp, rfl, hd1, hb1, _, _⟩
  have hb01 := hb0.trans (hb1.mono hb0.size)
  clear hb0 hb1
  go_wp2_with fail
  have hbX : Below w1.heap.size w1 (w1.alloc (.cells #[.int .u8 1] 5)) := (Below.refl _ _).alloc (Nat.le_refl _) _
  refine (aAppend_calls [97] [1] (some ⟨w1.heap.size, 0, none⟩) 1 (w1.heap.size + 1) w.heap.size g mp AD.new _ (hd1.below hbX) (row_bytes w1 [1] _ (Nat.le_refl _) _ rfl) (by simp) (by decide)).mono ?_
  rintro e w2 ⟨rfl, hd2, hb2⟩
  have hb02 := (hb01.trans (hbX.mono hb01.size)).trans ((hd1.below hbX).down hb2)
  rw [da1] at hd2 ⊢
  clear hd1 hb01 hbX hb2
  go_wp2_with fail
  refine (aFill_calls w.heap.size g mp _ _ full hd2).mono ?_
  rintro e w3 ⟨rfl, hd3, hb3⟩
  have hb03 := hb02.trans (hd2.down hb3)
  simp only [aFill] at hd3
  clear hd2 hb02 hb3
  have hn' : (n : Int) ≤ 255 := by omega
  have hn0 : (0 : Int) ≤ n := by omega
  go_wp2_with fail
  refine (aArm_calls w.heap.size g mp _ _ ((n : Int) + 1) (by omega) (by omega) hd3).mono ?_
  rintro e w4 ⟨rfl, hd4, hb4⟩
  have hb04 := hb03.trans (hd3.down hb4)
  have e4 : aArm ((n : Int) + 1) ⟨fsA, full, false, -1⟩ = ⟨fsA, full, decide ((0 : Nat) = n + 1), (n : Int) + 1 - (0 : Nat)⟩ := by
    have h1 : decide ((n : Int) + 1 = 0) = decide ((0 : Nat) = n + 1) := by rw [Bool.eq_iff_iff]; simp; omega
    have h2 : max ((n : Int) + 1) (-1) = (n : Int) + 1 - (0 : Nat) := by omega
    show (⟨fsA, full, _, _⟩ : AD) = _
    rw [h1, h2]
  rw [e4] at hd4
  clear hd3 hb03 hb4 e4
  go_wp2_with fail
  go_loopw [6] (fun i wr => ∃ k : Nat, k ≤ n + 1 ∧ i = .int .i64 k ∧ DiskA w.heap.size wr g mp ⟨fsA, full, decide (k = n + 1), (n : Int) + 1 - k⟩ ∧ Below w.heap.size w wr) (fun i _ => n + 1 - (intOf i).toNat)
  case atStart => exact ⟨0, by omega, rfl, hd4, hb04⟩
  case round =>
    clear hd4 hb04
    obtain ⟨k, hk, rfl, hd, hb⟩ := hrel
    obtain ⟨wo, rfl⟩ : ∃ wo : World, wo = wr := ⟨_, rfl⟩
    by_cases hlt : (k : Int) ≤ n
    · have hdk : decide (k = n + 1) = false := decide_eq_false (by omega)
      rw [hdk] at hd
      clear hdk
      go_wp2_with fail
      refine (aRead_calls [97] w.heap.size g mp _ wo hd).mono ?_
      rintro e w5 ⟨A5, c5, rfl, _, hb5⟩
      rw [da2]
      have hd5 := hd.below hb5
      have hb05 := hb.trans (hb5.mono hb.size)
      clear hd hb hb5
      go_wp2_with fail
      refine (aList_calls w.heap.size g mp _ w5 hd5 (by simp)).mono ?_
      rintro e w6 ⟨A6, c6, rfl, _, hb6⟩
      rw [da3]
      have hd6 := hd5.below hb6
      have hb06 := hb05.trans (hb6.mono hb05.size)
      clear hd5 hb05 hb6
      go_wp2_with fail
      refine (aDown_calls w.heap.size g mp _ w6 hd6).mono ?_
      rintro e w7 ⟨rfl, hb7⟩
      have hd7 := hd6.below hb7
      have hb07 := hb06.trans (hb7.mono hb06.size)
      clear hd6 hb06 hb7
      go_wp2_with fail
      refine (aDelete_calls [110, 111, 110, 101] w.heap.size g mp _ w7 hd7).mono ?_
      rintro e w8 ⟨rfl, hd8, hb8⟩
      have hb08 := hb07.trans (hd7.down hb8)
      rw [da4] at hd8 ⊢
      clear hd7 hb07 hb8
      go_wp2_with fail
      refine (aSync_calls [65] w.heap.size g mp _ w8 hd8).mono ?_
      rintro e w9 ⟨rfl, hd9, hb9⟩
      have hb09 := hb08.trans (hd8.down hb9)
      rw [da5] at hd9 ⊢
      clear hd8 hb08 hb9
      have e9 : (⟨fsA, full, armedD ((n : Int) + 1 - k) false, armed ((n : Int) + 1 - k)⟩ : AD) = ⟨fsA, full, decide (k + 1 = n + 1), (n : Int) + 1 - ((k + 1 : Nat) : Int)⟩ := by
        have h1 : armed ((n : Int) + 1 - k) = (n : Int) + 1 - ((k + 1 : Nat) : Int) := by unfold armed; rw [if_pos (by omega)]; omega
        have h2 : armedD ((n : Int) + 1 - k) false = decide (k + 1 = n + 1) := by unfold armedD; rw [if_pos (by omega), Bool.eq_iff_iff]; simp; omega
        rw [h1, h2]
      rw [e9] at hd9
      clear e9
      go_wp2
      go_roundw
      case rel => exact ⟨k + 1, by omega, by go_num, hd9, hb09⟩
      case measure => simp [intOf]; omega
    · obtain rfl : k = n + 1 := by omega
      have hdk : decide (n + 1 = n + 1) = true := by simp
      rw [hdk] at hd
      clear hdk
      go_wp2_with fail
      refine (aRead_calls [97] w.heap.size g mp _ wo hd).mono ?_
      rintro e w5 ⟨A5, c5, rfl, _, hb5⟩
      rw [da6]
      have hd5 := hd.below hb5
      have hb05 := hb.trans (hb5.mono hb.size)
      clear hd hb hb5
      go_wp2_with fail
      refine (aList_calls w.heap.size g mp _ w5 hd5 (by simp)).mono ?_
      rintro e w6 ⟨A6, c6, rfl, _, hb6⟩
      rw [da7]
      have hd6 := hd5.below hb6
      have hb06 := hb05.trans (hb6.mono hb05.size)
      clear hd5 hb05 hb6
      go_wp2_with fail
      refine (aDown_calls w.heap.size g mp _ w6 hd6).mono ?_
      rintro e w7 ⟨rfl, hb7⟩
      have hd7 := hd6.below hb7
      have hb07 := hb06.trans (hb7.mono hb06.size)
      clear hd6 hb06 hb7
      go_wp2_with fail
      refine (aAppend_refused [98] w.heap.size g mp _ _ _ hd7 (by rw [da8]; decide)).mono ?_
      rintro e w8 ⟨rfl, hd8, hb8⟩
      have hb08 := hb07.trans (hd7.down hb8)
      rw [da8]
      clear hd7 hb07 hb8
      go_wp2_with fail
      refine (aRename_calls [97] [98] w.heap.size g mp _ _ hd8).mono ?_
      rintro e w9 ⟨rfl, hd9, hb9⟩
      have hb09 := hb08.trans (hd8.down hb9)
      rw [da9] at hd9 ⊢
      clear hd8 hb08 hb9
      go_wp2_with fail
      refine (aAppend_refused [] w.heap.size g mp _ _ _ hd9 (by rw [da10]; decide)).mono ?_
      rintro e w10 ⟨rfl, hd10, hb10⟩
      have hb010 := hb09.trans (hd9.down hb10)
      rw [da10]
      clear hd9 hb09 hb10
      go_wp2_with fail
      refine (aArm_calls w.heap.size g mp _ _ (-1) (by omega) (by omega) hd10).mono ?_
      rintro e w11 ⟨rfl, hd11, hb11⟩
      have hb011 := hb010.trans (hd10.down hb11)
      simp only [aArm, if_true] at hd11
      clear hd10 hb010 hb11
      go_wp2_with fail
      refine (aDown_calls w.heap.size g mp _ _ hd11).mono ?_
      rintro e w12 ⟨rfl, hb12⟩
      have hd12 := hd11.below hb12
      have hb012 := hb011.trans (hb12.mono hb011.size)
      clear hd11 hb011 hb12
      go_wp2_with fail
      have hbX : Below w12.heap.size w12 (w12.alloc (.cells #[.int .i64 9] 3)) := (Below.refl _ _).alloc (Nat.le_refl _) _
      have hlt12 := hd12.lt
      refine (aRestart_calls (some ⟨w12.heap.size, 0, none⟩) 1 w.heap.size g mp _ _ [9] (hd12.below hbX) ((row_new w12 3 [.int .i64 9]).more (by simp)) (fun _ b off e => by simp only [Option.some.injEq, Addr.mk.injEq, and_true] at e; omega) (by simp) (by simp [in64]) (by simp)).mono ?_
      rintro e w13 ⟨rfl, hd13, hb13⟩
      have hb013 := (hb012.trans (hbX.mono hb012.size)).trans ((hd12.below hbX).down hb13)
      rw [da11] at hd13
      clear hd12 hb012 hbX hb13
      go_wp2_with fail
      refine (aRead_calls [97] w.heap.size g mp _ _ hd13).mono ?_
      rintro e w14 ⟨A14, c14, rfl, own14, hb14⟩
      rw [da12] at own14 ⊢
      have hd14 := hd13.below hb14
      have hb014 := hb013.trans (hb14.mono hb013.size)
      clear hd13 hb013 hb14
      go_wp2_with fail
      refine (aDown_calls w.heap.size g mp _ _ hd14).mono ?_
      rintro e w15 ⟨rfl, hb15⟩
      have hd15 := hd14.below hb15
      have hb015 := hb014.trans (hb15.mono hb014.size)
      have own15 := own_below own14 hb15
      have hcv : ∀ c' : Nat, (convert 26 9 (.slice A14 1 c')).run Try.prog w15 = .ok (.string ⟨#[1]⟩) w15 := fun c' => run_str (l := [1]) (Row.of_own own15)
      clear hd14 hb014 hb15 own14
      go_wp2_with fail
      refine (aAppend_calls [98] [] none 0 0 w.heap.size g mp _ _ hd15 Row.none_ (by simp) (by decide)).mono ?_
      rintro e w16 ⟨rfl, hd16, hb16⟩
      have hb016 := hb015.trans (hd15.down hb16)
      rw [da13]
      go_wp2
      go_ret
      exact ⟨rfl, hb016⟩
end Go.Proofs.Ytmddgimadlmacaa
