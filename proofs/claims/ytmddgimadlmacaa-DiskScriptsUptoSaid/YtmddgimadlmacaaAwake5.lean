import Derived.Test.YtmddgimadlmacaaDiskP
import Derived.Lib.SlBytesConst
namespace Go.Proofs.Ytmddgimadlmacaa
open Go.RowKit Garner

theorem awA1 : aAppend [97] [120, 121] AD.new = (0, ⟨[([97], ([120, 121], 0))], false, false, -1⟩) := by kernel_rfl
theorem awA2 : aSync [97] ⟨[([97], ([120, 121], 0))], false, false, -1⟩ = (0, ⟨[([97], ([120, 121], 2))], false, false, -1⟩) := by kernel_rfl
theorem awA3 : aAppend [97] [122] ⟨[([97], ([120, 121], 2))], false, false, -1⟩ = (0, ⟨[([97], ([120, 121, 122], 2))], false, false, -1⟩) := by kernel_rfl
theorem awA4 : aRestart [0] ⟨[([97], ([120, 121, 122], 2))], false, false, -1⟩ = ⟨[([97], ([120, 121], 2))], false, false, -1⟩ := by
  unfold aRestart; rw [rst_one]; rfl
theorem awA5 : aRead [97] ⟨[([97], ([120, 121], 2))], false, false, -1⟩ = ([120, 121], 0) := by kernel_rfl
theorem awA6 : dmay [nmS [65]] false = 1 := by kernel_rfl
set_option maxRecDepth 100000 in
set_option maxHeartbeats 4000000 in
theorem vAwake5 (w : World) : Calls Try.prog 17 #[] w fun e w' => e = .returned (.bool true) ∧ Below w.heap.size w w' := by
  have kc := fun (u : World) (C : Array Value) (n c : Nat) => Lib.run_convert_bytes_const (P := Try.prog) u 26 5 C n c Try.underlying26 Try.underlying5
  go_enter Try.func17, Try.ntmps17
  go_wp2_with fail
  refine (aNew_calls w.heap.size w (Nat.le_refl _)).mono ?_
  rintro e w1 ⟨g, mp, rfl, hd1, hb1, _, _⟩
  go_wp2_with fail
  have hbX : Below w1.heap.size w1 (w1.alloc (.cells #[.int .u8 120, .int .u8 121] 5 (2, 3))) := (Below.refl _ _).alloc (Nat.le_refl _) _
  refine (aAppend_calls [97] [120, 121] (some ⟨w1.heap.size, 0, none⟩) 2 (w1.heap.size + 1) w.heap.size g mp AD.new _ (hd1.below hbX) (bytes_mark w1 [120, 121] _ _ rfl) (by simp) (by decide)).mono ?_
  rintro e w2 ⟨rfl, hd2, hb2⟩
  rw [awA1] at hd2 ⊢
  have hb02 := hb1.trans (hbX.mono hb1.size)
  have hb02 := hb02.trans (hd1.down (But.two0 hbX |>.trans hb2) |> fun _ => (hd1.below hbX).down hb2)
  clear hd1 hb1 hbX hb2
  go_wp2_with fail
  refine (aSync_calls [97] w.heap.size g mp _ _ hd2).mono ?_
  rintro e w3 ⟨rfl, hd3, hb3⟩
  have hb03 := hb02.trans (hd2.down hb3)
  rw [awA2] at hd3 ⊢
  clear hd2 hb02 hb3
  go_wp2_with fail
  have hbX : Below w3.heap.size w3 (w3.alloc (.cells #[.int .u8 122] 5 (1, 2))) := (Below.refl _ _).alloc (Nat.le_refl _) _
  refine (aAppend_calls [97] [122] (some ⟨w3.heap.size, 0, none⟩) 1 (w3.heap.size + 1) w.heap.size g mp _ _ (hd3.below hbX) (bytes_mark w3 [122] _ _ rfl) (by simp) (by decide)).mono ?_
  rintro e w4 ⟨rfl, hd4, hb4⟩
  have hb04 := (hb03.trans (hbX.mono hb03.size)).trans ((hd3.below hbX).down hb4)
  rw [awA3] at hd4 ⊢
  clear hd3 hb03 hbX hb4
  go_wp2_with fail
  have hbX : Below w4.heap.size w4 (w4.alloc (.cells #[.int .i64 0] 3)) := (Below.refl _ _).alloc (Nat.le_refl _) _
  have hlt4 := hd4.lt
  refine (aRestart_calls (some ⟨w4.heap.size, 0, none⟩) 1 w.heap.size g mp _ _ [0] (hd4.below hbX) ((row_new w4 3 [.int .i64 0]).more (by simp)) (fun _ b off e => by simp only [Option.some.injEq, Addr.mk.injEq, and_true] at e; omega) (by simp) (by simp [in64]) (by simp)).mono ?_
  rintro e w5 ⟨rfl, hd5, hb5⟩
  have hb05 := (hb04.trans (hbX.mono hb04.size)).trans ((hd4.below hbX).down hb5)
  rw [awA4] at hd5
  clear hd4 hb04 hbX hb5
  go_wp2_with fail
  refine (aRead_calls [97] w.heap.size g mp _ _ hd5).mono ?_
  rintro e w6 ⟨A6, c6, rfl, own6, hb6⟩
  rw [awA5] at own6 ⊢
  have hd6 := hd5.below hb6
  have hb06 := hb05.trans (hb6.mono hb05.size)
  have hcv : ∀ c' : Nat, (convert 26 9 (.slice A6 2 c')).run Try.prog w6 = .ok (.string ⟨#[120, 121]⟩) w6 := fun c' => run_str (l := [120, 121]) (Row.of_own own6)
  clear hd5 hb05 hb6
  go_wp2_with fail
  refine (aAppend_refused [65] w.heap.size g mp _ _ _ hd6 (by rw [awA6]; decide)).mono ?_
  rintro e w7 ⟨rfl, hd7, hb7⟩
  have hb07 := hb06.trans (hd6.down hb7)
  rw [awA6]
  go_wp2
  go_ret
  exact ⟨rfl, hb07⟩
end Go.Proofs.Ytmddgimadlmacaa
