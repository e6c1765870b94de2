import Derived.Test.YtmalkgakdmghiaaPa50
import Derived.Test.YtmalkgakdmghiaaPa36
/-! layer 11: Next, Len, nil receivers -/
namespace Go.Proofs.Ytmalkgakdmghiaa
open Go.RowKit Go.Shelf Garner

theorem seekR_nil0 (r : List Nat) : seekR 0 r = r := by
  cases r with
  | nil => rfl
  | cons x r => unfold seekR; rw [List.dropWhile_cons_of_neg (by simp)]

set_option maxRecDepth 100000 in
set_option maxHeartbeats 4000000 in
theorem vNext (l xs : List Nat) (k base I : Nat) (w : World) (hI : IterIs w base I l xs k) :
    Calls Try.prog 10 #[.pointer (some ⟨I, 0, none⟩)] w (SeekPost l 0 base I (xs ++ restB l k) w) := by
  go_enter Try.func10, Try.ntmps10
  go_wp2_with fail
  refine (vSeek l xs 0 k base I w hI (by omega)).mono ?_
  rintro e w' ⟨hb, xs', k', hI', hr, rfl⟩
  rw [seekR_nil0] at hr ⊢
  cases hx : xs ++ restB l k with
  | nil =>
    go_wp2
    go_ret2
    exact ⟨hb, xs', k', hI', by rw [hr, hx, seekR_nil0], by rw [seekR_nil0, hx]; rfl⟩
  | cons x r =>
    go_wp2
    go_ret2
    exact ⟨hb, xs', k', hI', by rw [hr, hx, seekR_nil0], by rw [seekR_nil0, hx]; rfl⟩
theorem vSeekNil (n : Int) (w : World) : Calls Try.prog 9 #[.pointer none, .int .u64 n] w fun e w' => e = .returned (.tuple #[.int .u64 0, .bool false]) ∧ Below w.heap.size w w' := by
  go_enter Try.func9, Try.ntmps9
  go_wp2
  go_ret2
  exact ⟨rfl, Below.refl _ _⟩
theorem vLen (l xs : List Nat) (k base I : Nat) (w : World) (hI : IterIs w base I l xs k) :
    Calls Try.prog 14 #[.pointer (some ⟨I, 0, none⟩)] w fun e w' => e = .returned (.int .i64 l.length) ∧ Below w.heap.size w w' := by
  obtain ⟨A, c, Ah, ch, Ao, co, h1, h2, h3, h4, h5, h6, h7, h8⟩ := hI.ex
  have c2 : w.cell? ⟨I, 2, none⟩ = some (.int .i64 l.length) := h4.cell 2
  go_enter Try.func14, Try.ntmps14
  go_wp2
  go_ret
  exact ⟨rfl, Below.refl _ _⟩
theorem vLenNil (w : World) : Calls Try.prog 14 #[.pointer none] w fun e w' => e = .returned (.int .i64 0) ∧ Below w.heap.size w w' := by
  go_enter Try.func14, Try.ntmps14
  go_wp2
  go_ret
  exact ⟨rfl, Below.refl _ _⟩
end Go.Proofs.Ytmalkgakdmghiaa
/-! layer 11: awake -/
namespace Go.Proofs.Ytmalkgakdmghiaa
open Go.RowKit Go.Shelf Garner

theorem put1_small {n : Nat} (h : n < 128) : put1 n = [UInt8.ofNat n] := by rw [put1, if_pos h]
theorem bits56 : maxBits (gapsN [5, 6]) = 0 := by simp [gapsN, maxBits, Lib.bitLen, Lib.bitLenAux]
theorem pack56 : packB [5, 6] = [2, 5, 0] := by
  have hb : bodyN [5, 6] = [] := List.eq_nil_of_length_eq_zero (by rw [bodyN_len, bits56]; rfl)
  show put1 2 ++ (put1 5 ++ (UInt8.ofNat (maxBits (gapsN [5, 6])) :: bodyN [5, 6])) = _
  rw [hb, bits56, put1_small (by omega), put1_small (by omega)]; rfl
theorem post56 : postB [5, 6] = [1, 6, 3, 2, 5, 0] := by
  show put1 1 ++ ((put1 6 ++ put1 (packB [5, 6]).length ++ []) ++ (packB [5, 6] ++ [])) = _
  rw [pack56, put1_small (by omega), put1_small (by omega)]
  show _ ++ ((_ ++ put1 3 ++ _) ++ _) = _
  rw [put1_small (by omega)]; rfl
theorem orS1 : orS [1, 2, 3] = [1, 2, 3] := by decide
theorem orS2 : orS [3, 2] = [2, 3] := by decide
theorem orS3 : orS [3, 1, 3] = [1, 3] := by decide
theorem and1 {a b : Option Addr} {c d : Nat} : andS [(a, c, [1, 2, 3]), (b, d, [3, 2])] = [2, 3] := by unfold andS; simp only [List.foldl_cons, List.foldl_nil, orS1, orS2]; decide
theorem row_newAt (w : World) (t : TypeId) (l : List Value) {g : Nat} (hg : g = w.heap.size) : Row (w.alloc (.cells l.toArray t)) (g + 1) 1 (some ⟨g, 0, none⟩) l.length l := by subst hg; exact row_new w t l
theorem rest56 : restB [5, 6] 0 = [5, 6] := by rw [restB_zero]

set_option maxRecDepth 100000 in
set_option maxHeartbeats 8000000 in
theorem awakeP (w : World) : Calls Try.prog 6 #[] w fun e w' => e = .returned (.bool true) ∧ Below w.heap.size w w' := by
  go_enter Try.func6, Try.ntmps6
  go_wp2_with fail
  refine (vWrite_ok [5, 6] (some ⟨w.heap.size, 0, none⟩) 2 (w.heap.size + 1) _ (row_new w 31 ([5, 6].map u64v)) (by simp) (by simp) (by simp) (by decide) (by simp)).mono ?_
  rintro e w1 ⟨v1, rfl, own1, hb1⟩
  have hw1 : Below w.heap.size w w1 := ((Below.refl _ _).alloc (Nat.le_refl _) _).trans (hb1.mono (by simp))
  rw [post56] at own1
  have own1' : OwnB w1 w.heap.size v1 [1, 6, 3, 2, 5, 0] := own_mono own1 (by simp)
  clear own1 hb1
  have s1 := hw1.size
  obtain ⟨A1, c1, rfl, -⟩ := own_form own1'
  go_wp2_with fail
  refine (vOpenP [5, 6] [1, 6, 3, 2, 5, 0] (some ⟨w1.heap.size, 0, none⟩) 6 (w1.heap.size + 1) _ post56.symm (by simp) (by decide) (by simp) (row_new w1 5 ([1, 6, 3, 2, 5, 0].map bv)) (by simp)).mono ?_
  rintro e w2 ⟨I, rfl, hI, hb2⟩
  have hw2 : Below w1.heap.size w1 w2 := ((Below.refl _ _).alloc (Nat.le_refl _) _).trans (hb2.mono (by simp))
  clear hb2
  have s2 := hw2.size
  go_wp2_with fail
  refine (vNext [5, 6] [] 0 _ I w2 hI).mono ?_
  rintro e w3 ⟨hb3, xs', k', hI3, -, rfl⟩
  have hIb := hI.hbI
  simp only [World.size_alloc] at hIb
  rw [seekR_nil0, rest56]
  have hw3 : Below w1.heap.size w1 w3 := hw2.trans (hb3.mono (by omega))
  have s3 := hw3.size
  have own3 := own_below own1' hw3
  have hcv : ∀ c' : Nat, (convert 24 9 (.slice A1 6 c')).run Try.prog w3 = .ok (.string ⟨#[1, 6, 3, 2, 5, 0]⟩) w3 := fun c' => run_str (l := [1, 6, 3, 2, 5, 0]) (Row.of_own own3)
  go_wp2_with fail
  refine (vLen [5, 6] xs' k' _ I w3 hI3).mono ?_
  rintro e w4 ⟨rfl, hb4⟩
  have hw4 : Below w1.heap.size w1 w4 := hw3.trans (hb4.mono s3)
  have s4 := hw4.size
  clear hb4 hI3 hI hb3 hcv own3 hw3 hw2 hIb
  obtain ⟨S, hS⟩ : ∃ S, S = w4.heap.size := ⟨_, rfl⟩
  obtain ⟨wA, hwA⟩ : ∃ wA, wA = ((w4.alloc (.cells ([1, 2, 3].map u64v).toArray 31)).alloc (.cells ([3, 2].map u64v).toArray 31)).alloc (.cells ([((some ⟨S, 0, none⟩, 3, [1, 2, 3]) : SlU), (some ⟨S + 1, 0, none⟩, 2, [3, 2])].map SlU.v).toArray 22) := ⟨_, rfl⟩
  have sA : wA.heap.size = S + 3 := by rw [hwA, hS]; simp
  have r0 : Row wA (S + 3) 1 (some ⟨S, 0, none⟩) 3 ([1, 2, 3].map u64v) := by
    rw [hwA]; exact ((((row_newAt w4 _ _ hS).alloc (by simp; omega) _).alloc (by simp; omega) _)).more (by omega)
  have r1 : Row wA (S + 3) 1 (some ⟨S + 1, 0, none⟩) 2 ([3, 2].map u64v) := by
    rw [hwA]; exact ((row_newAt (w4.alloc _) _ _ (g := S + 1) (by simp; omega)).alloc (by simp; omega) _).more (by omega)
  have r2 : Row wA (S + 3) 1 (some ⟨S + 2, 0, none⟩) 2 ([((some ⟨S, 0, none⟩, 3, [1, 2, 3]) : SlU), (some ⟨S + 1, 0, none⟩, 2, [3, 2])].map SlU.v) := by
    rw [hwA]; exact row_newAt ((w4.alloc _).alloc _) _ _ (g := S + 2) (by simp; omega)
  have hA : Below w1.heap.size w1 wA := by rw [hwA]; exact ((hw4.alloc s4 _).alloc (by simp; omega) _).alloc (by simp; omega) _
  have HwA := Lib.hid hwA; clear hwA
  subst hS
  go_wp2_with fail
  change Calls Try.prog 11 #[.slice (some ⟨w4.heap.size + 2, 0, none⟩) 2 2] (((w4.alloc (.cells ([1, 2, 3].map u64v).toArray 31)).alloc (.cells ([3, 2].map u64v).toArray 31)).alloc (.cells ([((some ⟨w4.heap.size, 0, none⟩, 3, [1, 2, 3]) : SlU), (some ⟨w4.heap.size + 1, 0, none⟩, 2, [3, 2])].map SlU.v).toArray 22)) _
  rw [← HwA.out]
  have hAs := hA.size
  refine (vAndS (some ⟨w4.heap.size, 0, none⟩, 3, [1, 2, 3]) [(some ⟨w4.heap.size + 1, 0, none⟩, 2, [3, 2])] (some ⟨w4.heap.size + 2, 0, none⟩) 2 (w4.heap.size + 3) wA r2 (by omega) (by
    intro p hp
    rcases List.mem_cons.1 hp with rfl | hp
    · exact ⟨r0, by simp, by simp, by rw [orS1]; simp, by rw [orS1]; simp⟩
    · rw [List.mem_singleton.1 hp]
      exact ⟨r1, by simp, by simp, by rw [orS2]; simp, by rw [orS2]; simp⟩) (by simp) (by simp)).mono ?_
  rintro e w5 ⟨v5, rfl, own5, hb5⟩
  rw [and1] at own5
  have hw5 : Below w1.heap.size w1 w5 := hA.trans (hb5.mono hAs)
  have s5 := hw5.size
  obtain ⟨A5, c5, rfl, -⟩ := own_form own5
  have own5' : OwnU w5 w1.heap.size (.slice A5 2 c5) [2, 3] := own_mono own5 hAs
  clear own5 hb5 r0 r1 r2 HwA hA sA hAs hw4 s4
  go_wp2_with fail
  have row5 : Row w5 w5.heap.size 1 A5 2 ([2, 3].map u64v) := Row.of_own own5'
  refine (vSame [2, 3] A5 (some ⟨w5.heap.size, 0, none⟩) c5 2 (w5.heap.size + 1) _ ((row5.alloc (Nat.le_refl _) _).more (by omega)) (row_new w5 31 ([2, 3].map u64v)) (by simp) (by simp)).mono ?_
  rintro e w6 ⟨rfl, hb6⟩
  have hw6 : Below w1.heap.size w1 w6 := (hw5.alloc s5 _).trans (hb6.mono (by simp; omega))
  have s6 := hw6.size
  clear hb6 row5 own5' hw5 s5
  obtain ⟨wB, hwB⟩ : ∃ wB, wB = ((w6.alloc (.cells ([3].map u64v).toArray 31)).alloc (.cells ([1, 3].map u64v).toArray 31)).alloc (.cells ([((some ⟨w6.heap.size, 0, none⟩, 1, [3]) : SlU), (some ⟨w6.heap.size + 1, 0, none⟩, 2, [1, 3])].map SlU.v).toArray 22) := ⟨_, rfl⟩
  have sB : wB.heap.size = w6.heap.size + 3 := by rw [hwB]; simp
  have r0 : Row wB (w6.heap.size + 3) 1 (some ⟨w6.heap.size, 0, none⟩) 1 ([3].map u64v) := by
    rw [hwB]; exact ((((row_newAt w6 _ _ rfl).alloc (by simp) _).alloc (by simp) _)).more (by omega)
  have r1 : Row wB (w6.heap.size + 3) 1 (some ⟨w6.heap.size + 1, 0, none⟩) 2 ([1, 3].map u64v) := by
    rw [hwB]; exact ((row_newAt (w6.alloc _) _ _ (g := w6.heap.size + 1) (by simp)).alloc (by simp) _).more (by omega)
  have r2 : Row wB (w6.heap.size + 3) 1 (some ⟨w6.heap.size + 2, 0, none⟩) 2 ([((some ⟨w6.heap.size, 0, none⟩, 1, [3]) : SlU), (some ⟨w6.heap.size + 1, 0, none⟩, 2, [1, 3])].map SlU.v) := by
    rw [hwB]; exact row_newAt ((w6.alloc _).alloc _) _ _ (g := w6.heap.size + 2) (by simp)
  have hB : Below w1.heap.size w1 wB := by rw [hwB]; exact ((hw6.alloc s6 _).alloc (by simp; omega) _).alloc (by simp; omega) _
  have HwB := Lib.hid hwB; clear hwB
  go_wp2_with fail
  change Calls Try.prog 12 #[.slice (some ⟨w6.heap.size + 2, 0, none⟩) 2 2] (((w6.alloc (.cells ([3].map u64v).toArray 31)).alloc (.cells ([1, 3].map u64v).toArray 31)).alloc (.cells ([((some ⟨w6.heap.size, 0, none⟩, 1, [3]) : SlU), (some ⟨w6.heap.size + 1, 0, none⟩, 2, [1, 3])].map SlU.v).toArray 22)) _
  rw [← HwB.out]
  have hBs := hB.size
  refine (vOrS [(some ⟨w6.heap.size, 0, none⟩, 1, [3]), (some ⟨w6.heap.size + 1, 0, none⟩, 2, [1, 3])] (some ⟨w6.heap.size + 2, 0, none⟩) 2 (w6.heap.size + 3) wB r2 (by omega) (by
    intro p hp
    rcases List.mem_cons.1 hp with rfl | hp
    · exact r0
    · rw [List.mem_singleton.1 hp]; exact r1) (by simp [catU]) (by simp [catU]) (by simp)).mono ?_
  rintro e w7 ⟨v7, rfl, own7, hb7⟩
  rw [show catU [((some ⟨w6.heap.size, 0, none⟩, 1, [3]) : SlU), (some ⟨w6.heap.size + 1, 0, none⟩, 2, [1, 3])] = [3, 1, 3] from rfl, orS3] at own7
  have hw7 : Below w1.heap.size w1 w7 := hB.trans (hb7.mono hBs)
  have s7 := hw7.size
  obtain ⟨A7, c7, rfl, -⟩ := own_form own7
  have own7' : OwnU w7 w1.heap.size (.slice A7 2 c7) [1, 3] := own_mono own7 hBs
  clear own7 hb7 r0 r1 r2 HwB hB sB hBs hw6 s6
  go_wp2_with fail
  have row7 : Row w7 w7.heap.size 1 A7 2 ([1, 3].map u64v) := Row.of_own own7'
  refine (vSame [1, 3] A7 (some ⟨w7.heap.size, 0, none⟩) c7 2 (w7.heap.size + 1) _ ((row7.alloc (Nat.le_refl _) _).more (by omega)) (row_new w7 31 ([1, 3].map u64v)) (by simp) (by simp)).mono ?_
  rintro e w8 ⟨rfl, hb8⟩
  have hw8 : Below w1.heap.size w1 w8 := (hw7.alloc s7 _).trans (hb8.mono (by simp; omega))
  clear hb8 row7 own7' hw7
  go_wp2
  go_ret
  exact ⟨rfl, hw1.trans (hw8.mono s1)⟩
end Go.Proofs.Ytmalkgakdmghiaa
