import Derived.Test.YtecejnilajbdpaaGreatDoorTq51
/-! awake of the laws of query: its constants -/
namespace Garner
open Go
def awS : Bs := " {app=\"web\", env!~\"dev|test\"} |= \"err\" ".toUTF8.data.toList
def awPr : Bs := "{app=\"web\",env!~\"dev|test\"} |= \"err\"".toUTF8.data.toList
def awB : Bs := "{} |~ \"*\"".toUTF8.data.toList
def awQ : QueryP := ⟨[⟨[97, 112, 112], 1, [119, 101, 98]⟩, ⟨[101, 110, 118], 4, [100, 101, 118, 124, 116, 101, 115, 116]⟩], [⟨1, [101, 114, 114]⟩]⟩
def bdQ : QueryP := ⟨[], [⟨3, [42]⟩]⟩
theorem aw_toks : (toks awS).bind queryR = some awQ := by kernel_rfl
theorem bd_toks : (toks awB).bind queryR = some bdQ := by kernel_rfl
theorem aw_print : printP awQ = awPr := by kernel_rfl
theorem aw_valid : Lib.validD awS = true := by kernel_rfl
theorem bd_valid : Lib.validD awB = true := by kernel_rfl
theorem aw_check : checkQ awQ = 0 := by kernel_rfl
theorem bd_check : checkQ bdQ = 40 := by kernel_rfl
def awR : RecP := ⟨0, 0, [([97, 112, 112], [119, 101, 98])], [97, 110, 32, 101, 114, 114]⟩
def awR2 : RecP := ⟨0, 0, [], [97, 110, 32, 101, 114, 114]⟩
theorem aw_holds2 : holdsQ awQ awR2 = false := by kernel_rfl
theorem aw_parse : parseQ awS = .ok awQ := by
  unfold parseQ
  rw [if_neg (by decide), aw_valid, if_neg (by decide), aw_toks]
  simp only
  rw [if_pos aw_check]
theorem bd_parse : parseQ awB = .error 40 := by
  unfold parseQ
  rw [if_neg (by decide), bd_valid, if_neg (by decide), bd_toks]
  simp only
  rw [if_neg (by rw [bd_check]; decide), bd_check]
def devT : Re := .alt [.seq [litS 100, litS 101, litS 118], .seq [litS 116, litS 101, litS 115, litS 116]]
theorem dev_ok : rexpP [100, 101, 118, 124, 116, 101, 115, 116] = .ok devT := by
  have h1 : Lib.validD [100, 101, 118, 124, 116, 101, 115, 116] = true := by kernel_rfl
  have h2 : runesP [100, 101, 118, 124, 116, 101, 115, 116] = [100, 101, 118, 124, 116, 101, 115, 116] := by kernel_rfl
  have h3 : readR [100, 101, 118, 124, 116, 101, 115, 116] = .ok devT := by kernel_rfl
  unfold rexpP
  rw [if_neg (by decide), if_neg (by rw [h1]; decide), h2, h3]
theorem dev_not : patWhole [100, 101, 118, 124, 116, 101, 115, 116] [] = false := by
  unfold patWhole
  rw [dev_ok]
  show wholeB devT (runesP []) = false
  rw [show runesP [] = [] by kernel_rfl, Bool.eq_false_iff]
  intro h
  rcases (whole_iff.1 h : devT.M [] 0 0) with ⟨k, ⟨-, x, hx, -⟩, -⟩ | ⟨k, ⟨-, x, hx, -⟩, -⟩ | h
  · cases hx
  · cases hx
  · exact h
theorem aw_holds : holdsQ awQ awR = true := by
  have h1 : matHolds awR ⟨[97, 112, 112], 1, [119, 101, 98]⟩ = true := by kernel_rfl
  have h2 : matHolds awR ⟨[101, 110, 118], 4, [100, 101, 118, 124, 116, 101, 115, 116]⟩ = true := by
    unfold matHolds matYes
    rw [if_pos (by decide)]
    show (patWhole [100, 101, 118, 124, 116, 101, 115, 116] [] != notO 4) = true
    rw [dev_not]; decide
  have h3 : filHolds awR ⟨1, [101, 114, 114]⟩ = true := by kernel_rfl
  unfold holdsQ awQ
  simp only [List.all_cons, List.all_nil, h1, h2, h3, Bool.and_true]
end Garner

/-! awake of the laws of query -/
namespace Go.Proofs.YtecejnilajbdpaaGreatDoor
open Go.RowKit Go.Shelf Garner
theorem aw_in {w w' : World} {e : Ending} (h : QParseO awS w e w') : ∃ MA mc FA fc, e = .returned (.tuple #[.agg #[.slice MA 2 mc, .slice FA 1 fc], .int .i64 0]) ∧ Below w.heap.size w w' ∧ QueryAt w' MA 2 FA 1 awQ := by
  obtain ⟨V1, V2, q, k, rfl, hb, o1, o2, sm, sf, -, hc⟩ := h
  rcases hc with ⟨rfl, hq⟩ | ⟨-, hq, -⟩
  · rw [aw_parse] at hq
    injection hq with hq
    subst hq
    obtain ⟨MA, mc, rfl, -⟩ := own_form o1
    obtain ⟨FA, fc, rfl, -⟩ := own_form o2
    exact ⟨MA, mc, FA, fc, rfl, hb, .of_own o1, .of_own o2, rfl, rfl, fun m hm => by have := sm m hm; omega, fun f hf => by have := sf f hf; omega⟩
  · rw [aw_parse] at hq; cases hq
theorem bd_in {w w' : World} {e : Ending} (h : QParseO awB w e w') : e = .returned (.tuple #[.agg #[.slice none 0 0, .slice none 0 0], .int .i64 40]) ∧ Below w.heap.size w w' := by
  obtain ⟨V1, V2, q, k, rfl, hb, -, -, -, -, -, hc⟩ := h
  rcases hc with ⟨-, hq⟩ | ⟨-, hq, -, rfl, rfl⟩
  · rw [bd_parse] at hq; cases hq
  · rw [bd_parse] at hq
    injection hq with hq
    subst hq
    exact ⟨rfl, hb⟩
theorem awS_lit : str awS = .string ⟨#[32, 123, 97, 112, 112, 61, 34, 119, 101, 98, 34, 44, 32, 101, 110, 118, 33, 126, 34, 100, 101, 118, 124, 116, 101, 115, 116, 34, 125, 32, 124, 61, 32, 34, 101, 114, 114, 34, 32]⟩ := by kernel_rfl
theorem awB_lit : str awB = .string ⟨#[123, 125, 32, 124, 126, 32, 34, 42, 34]⟩ := by kernel_rfl
theorem awPr_lit : str awPr = .string ⟨#[123, 97, 112, 112, 61, 34, 119, 101, 98, 34, 44, 101, 110, 118, 33, 126, 34, 100, 101, 118, 124, 116, 101, 115, 116, 34, 125, 32, 124, 61, 32, 34, 101, 114, 114, 34]⟩ := by kernel_rfl
set_option maxRecDepth 100000 in
set_option maxHeartbeats 32000000 in
theorem awake24 (w : World) (hL : Lt w) : Calls Tryz.prog 25 #[] w fun e w' => e = .returned (.bool true) ∧ Below w.heap.size w w' := by
  have hp := vQParse awS w hL (by decide)
  rw [awS_lit] at hp
  have HP := Lib.hid hp; have HL := Lib.hid hL
  clear hp hL
  go_enter Tryz.func25, Tryz.ntmps25
  go_wp2_with fail
  refine HP.out.mono ?_
  rintro e w1 hO
  obtain ⟨MA, mc, FA, fc, rfl, hb1, hq1⟩ := aw_in hO
  obtain ⟨X1, hX1⟩ : ∃ X1, X1 = w1.alloc (.cells #[.slice MA 2 mc, .slice FA 1 fc] 25) := ⟨_, rfl⟩
  have bX1 : Below w1.heap.size w1 X1 := by rw [hX1]; exact (Below.refl _ _).alloc (Nat.le_refl _) _
  have kX1 : Blk X1 w1.heap.size 25 [.slice MA 2 mc, .slice FA 1 fc] := by rw [hX1]; exact Blk.new w1 _ _
  have hw1 := hb1.trans (bX1.mono hb1.size)
  have hqX := hq1.below bX1
  have hpr := vQPrint awQ MA FA 2 1 mc fc X1 (HL.out.below hw1) hqX (by decide) (by decide) (by decide) (by decide)
  unfold QPrintO at hpr
  rw [aw_check, if_pos rfl, aw_print, awPr_lit] at hpr
  have x0 : X1.cell? ⟨w1.heap.size, 0, none⟩ = some (.slice MA 2 mc) := kX1.cell 0
  have x1 : X1.cell? ⟨w1.heap.size, 1, none⟩ = some (.slice FA 1 fc) := kX1.cell 1
  have HPr := Lib.hid hpr; have HW1 := Lib.hid hw1; have HQ1 := Lib.hid hqX; have HK1 := Lib.hid kX1
  obtain ⟨qb, hqbe⟩ : ∃ qb, w1.heap.size = qb := ⟨_, rfl⟩
  rw [hqbe] at HK1 x0 x1
  clear hO hb1 hq1 bX1 kX1 hw1 hqX hpr HP
  go_upto_region 2 with fail
  rw [← hX1]
  clear hX1
  go_wp2_with fail
  refine HPr.out.mono ?_
  rintro e w2 ⟨rfl, hb2⟩
  have hw2 := HW1.out.trans (hb2.mono HW1.out.size)
  have hq2 := HQ1.out.below hb2
  have k2 := HK1.out.below hb2 HK1.out.lt
  have hp := vQParse awB w2 (HL.out.below hw2) (by decide)
  rw [awB_lit] at hp
  have HP := Lib.hid hp; have HW2 := Lib.hid hw2; have HQ2 := Lib.hid hq2; have HK2 := Lib.hid k2
  clear hw2 hq2 k2 hp hb2 x0 x1 HPr HW1 HQ1 HK1
  go_wp2_with fail
  refine HP.out.mono ?_
  rintro e w3 hO
  obtain ⟨rfl, hb3⟩ := bd_in hO
  obtain ⟨X3, hX3⟩ : ∃ X3, X3 = w3.alloc (.cells #[.slice none 0 0, .slice none 0 0] 25) := ⟨_, rfl⟩
  have bX3 : Below w3.heap.size w3 X3 := by rw [hX3]; exact (Below.refl _ _).alloc (Nat.le_refl _) _
  have hb23 := hb3.trans (bX3.mono hb3.size)
  have hw3 := HW2.out.trans (hb23.mono HW2.out.size)
  have hq3 := HQ2.out.below hb23
  have k3 := HK2.out.below hb23 HK2.out.lt
  have x0 : X3.cell? ⟨qb, 0, none⟩ = some (.slice MA 2 mc) := k3.cell 0
  have x1 : X3.cell? ⟨qb, 1, none⟩ = some (.slice FA 1 fc) := k3.cell 1
  have hn := vQNew awQ MA FA 2 1 mc fc X3 (HL.out.below hw3) hq3 (by decide) (by decide)
  rw [aw_check] at hn
  have HN := Lib.hid hn; have HW3 := Lib.hid hw3
  clear hO hb3 bX3 hb23 hw3 hq3 k3 hn HP HW2 HQ2 HK2
  go_upto_region 4 with fail
  rw [← hX3]
  clear hX3
  go_wp2_with fail
  refine HN.out.mono ?_
  rintro e w4 ⟨hb4, hc⟩
  obtain ⟨g, v1, v2, P, Q, pv, rfl, hF, hpl⟩ := hc.elim (fun h => h.2) (fun h => absurd rfl h.1)
  have hw4 := HW3.out.trans (hb4.mono HW3.out.size)
  have hFA : FilAt X3.heap.size w4 g awQ := ⟨v1, v2, P, Q, pv, hF, hpl⟩
  have HW4 := Lib.hid hw4; have HFA := Lib.hid hFA
  clear hc hF hpl hb4 hw4 hFA x0 x1 HN HW3
  go_wp2_with fail
  obtain ⟨X4, hX4⟩ : ∃ X4, X4 = w4.alloc (.cells #[.string ⟨#[97, 112, 112]⟩, .string ⟨#[119, 101, 98]⟩] 43) := ⟨_, rfl⟩
  have bX4 : Below w4.heap.size w4 X4 := by rw [hX4]; exact (Below.refl _ _).alloc (Nat.le_refl _) _
  have hw4 := HW4.out.trans (bX4.mono HW4.out.size)
  have hr : Row X4 X4.heap.size 2 (some ⟨w4.heap.size, 0, none⟩) 1 (awR.labels.flatMap labCells) := by
    rw [hX4]
    exact (row_newN w4 43 2 1 [.string ⟨#[97, 112, 112]⟩, .string ⟨#[119, 101, 98]⟩] rfl).more (by simp)
  have hh := vQHolds awQ awR X3.heap.size g (some ⟨w4.heap.size, 0, none⟩) 1 1 0 0 X4 (HL.out.below hw4) (HFA.out.below bX4) (by decide) (by decide) hr rfl (by decide) (by decide)
  rw [aw_holds] at hh
  have hfa := HFA.out.below bX4
  have HH := Lib.hid hh; have HW := Lib.hid hw4; have HF4 := Lib.hid hfa
  clear bX4 hw4 hr hh hfa HFA HW4
  rw [← hX4]
  clear hX4
  refine HH.out.mono ?_
  rintro e w5 ⟨rfl, hb5⟩
  have hw5 := HW.out.trans (hb5.mono HW.out.size)
  have hh2 := vQHolds awQ awR2 X3.heap.size g none 0 0 0 0 w5 (HL.out.below hw5) (HF4.out.below hb5) (by decide) (by decide) Row.none_ rfl (by decide) (by decide)
  rw [aw_holds2] at hh2
  have HH2 := Lib.hid hh2; have HW5 := Lib.hid hw5
  clear hb5 hw5 hh2 HH HW HF4
  go_wp2_with fail
  refine HH2.out.mono ?_
  rintro e w6 ⟨rfl, hb6⟩
  have hw6 := HW5.out.trans (hb6.mono HW5.out.size)
  have HW6 := Lib.hid hw6
  clear hb6 hw6 HH2 HW5
  go_wp2
  go_ret
  exact ⟨rfl, HW6.out⟩
end Go.Proofs.YtecejnilajbdpaaGreatDoor

