import Derived.Test.YtecejnilajbdpaaGreatDoorTu41
import Derived.Test.YtecejnilajbdpaaGreatDoorTu47
import Derived.Test.YtecejnilajbdpaaGreatDoorTu43
import Derived.Test.YtecejnilajbdpaaGreatDoorTu42
/-! tail: Take -/
namespace Garner
open Go
end Garner
namespace Go.Proofs.YtecejnilajbdpaaGreatDoor
open Go.RowKit Go.Shelf Garner
def TakeO (K : Nat) (B g : Nat) (q : QueryP) (ds : List RecD) (ov : Bool) (f : Nat) (w : World) (e : Ending) (w' : World) : Prop :=
  ∃ L V', e = .returned (.tuple #[L, .bool (ov && decide (ds.length - K = 0))]) ∧ w'.ownsRow w.heap.size 38 4 L K ((ds.take K).flatMap RecD.cells) ∧ TailIs B w' g q (ds.drop K) ov f V' ∧ But [g] w w' ∧ KeepM TT w w' ∧ (∀ k, V'.ownBlock = some k → w.heap.size ≤ k) ∧ ∀ k, L.ownBlock = some k → k ∉ tailS g V'
theorem TakeO.dn {K B g : Nat} {q : QueryP} {ds : List RecD} {ov : Bool} {f : Nat} {w w' w2 : World} {e : Ending} (h : TakeO K B g q ds ov f w e w') (hb : Below w'.heap.size w' w2) : TakeO K B g q ds ov f w e w2 := by
  obtain ⟨L, V', h1, h2, h3, h4, h5, h6, h7⟩ := h
  exact ⟨L, V', h1, own_below h2 hb, h3.below hb, h4.trans (.of_below hb), h5.trans (.of_below hb), h6, h7⟩
end Go.Proofs.YtecejnilajbdpaaGreatDoor

/-! tail: Offer -/
namespace Go.Proofs.YtecejnilajbdpaaGreatDoor
open Go.RowKit Go.Shelf Garner
section
variable {B g : Nat} {q : QueryP} {ds : List RecD} {ov : Bool} {f : Nat} {V : Value} {r : RecP} {w w' : World}
end
end Go.Proofs.YtecejnilajbdpaaGreatDoor

/-! the document's equality of records, where they are equal -/
namespace Go.Proofs.YtecejnilajbdpaaGreatDoor
open Go.RowKit Go.Shelf Garner
end Go.Proofs.YtecejnilajbdpaaGreatDoor

/-! the document's equality of rows of records, where they are equal -/
namespace Go.Proofs.YtecejnilajbdpaaGreatDoor
open Go.RowKit Go.Shelf Garner
/-- a row of records that may be read -/
structure RecsAt (w : World) (A : Option Addr) (n : Nat) (ds : List RecD) : Prop where
  row : Row w w.heap.size 4 A n (ds.flatMap RecD.cells)
  len : ds.length = n
  lab : ∀ d ∈ ds, Row w w.heap.size 2 d.A d.r.labels.length (d.r.labels.flatMap labCells)
  few : ∀ d ∈ ds, d.r.labels.length ≤ 1000000000000
theorem RecsAt.below {w w' : World} {A : Option Addr} {n : Nat} {ds : List RecD} (h : RecsAt w A n ds) (hb : Below w.heap.size w w') : RecsAt w' A n ds :=
  ⟨(h.row.below hb).more hb.size, h.len, fun d hd => ((h.lab d hd).below hb).more hb.size, h.few⟩
end Go.Proofs.YtecejnilajbdpaaGreatDoor

/-! awake of the laws of query: its constants -/
namespace Garner
open Go
def awS : Bs := " {app=\"web\", env!~\"dev|test\"} |= \"err\" ".toUTF8.data.toList
def awPr : Bs := "{app=\"web\",env!~\"dev|test\"} |= \"err\"".toUTF8.data.toList
def awB : Bs := "{} |~ \"*\"".toUTF8.data.toList
def awQ : QueryP := ⟨[⟨[97, 112, 112], 1, [119, 101, 98]⟩, ⟨[101, 110, 118], 4, [100, 101, 118, 124, 116, 101, 115, 116]⟩], [⟨1, [101, 114, 114]⟩]⟩
def bdQ : QueryP := ⟨[], [⟨3, [42]⟩]⟩
theorem aw_toks : (toks awS).bind queryR = some awQ := by kernel_rfl
theorem bd_toks : (toks awB).bind queryR = some bdQ := by kernel_rfl
theorem aw_print : printP awQ = awPr := by kernel_rfl
theorem aw_valid : Lib.validD awS = true := by kernel_rfl
theorem bd_valid : Lib.validD awB = true := by kernel_rfl
theorem aw_check : checkQ awQ = 0 := by kernel_rfl
theorem bd_check : checkQ bdQ = 40 := by kernel_rfl
def awR : RecP := ⟨0, 0, [([97, 112, 112], [119, 101, 98])], [97, 110, 32, 101, 114, 114]⟩
def awR2 : RecP := ⟨0, 0, [], [97, 110, 32, 101, 114, 114]⟩
theorem aw_holds2 : holdsQ awQ awR2 = false := by kernel_rfl
theorem aw_parse : parseQ awS = .ok awQ := by
  unfold parseQ
  rw [if_neg (by decide), aw_valid, if_neg (by decide), aw_toks]
  simp only
  rw [if_pos aw_check]
theorem bd_parse : parseQ awB = .error 40 := by
  unfold parseQ
  rw [if_neg (by decide), bd_valid, if_neg (by decide), bd_toks]
  simp only
  rw [if_neg (by rw [bd_check]; decide), bd_check]
def devT : Re := .alt [.seq [litS 100, litS 101, litS 118], .seq [litS 116, litS 101, litS 115, litS 116]]
theorem dev_ok : rexpP [100, 101, 118, 124, 116, 101, 115, 116] = .ok devT := by
  have h1 : Lib.validD [100, 101, 118, 124, 116, 101, 115, 116] = true := by kernel_rfl
  have h2 : runesP [100, 101, 118, 124, 116, 101, 115, 116] = [100, 101, 118, 124, 116, 101, 115, 116] := by kernel_rfl
  have h3 : readR [100, 101, 118, 124, 116, 101, 115, 116] = .ok devT := by kernel_rfl
  unfold rexpP
  rw [if_neg (by decide), if_neg (by rw [h1]; decide), h2, h3]
theorem dev_not : patWhole [100, 101, 118, 124, 116, 101, 115, 116] [] = false := by
  unfold patWhole
  rw [dev_ok]
  show wholeB devT (runesP []) = false
  rw [show runesP [] = [] by kernel_rfl, Bool.eq_false_iff]
  intro h
  rcases (whole_iff.1 h : devT.M [] 0 0) with ⟨k, ⟨-, x, hx, -⟩, -⟩ | ⟨k, ⟨-, x, hx, -⟩, -⟩ | h
  · cases hx
  · cases hx
  · exact h
theorem aw_holds : holdsQ awQ awR = true := by
  have h1 : matHolds awR ⟨[97, 112, 112], 1, [119, 101, 98]⟩ = true := by kernel_rfl
  have h2 : matHolds awR ⟨[101, 110, 118], 4, [100, 101, 118, 124, 116, 101, 115, 116]⟩ = true := by
    unfold matHolds matYes
    rw [if_pos (by decide)]
    show (patWhole [100, 101, 118, 124, 116, 101, 115, 116] [] != notO 4) = true
    rw [dev_not]; decide
  have h3 : filHolds awR ⟨1, [101, 114, 114]⟩ = true := by kernel_rfl
  unfold holdsQ awQ
  simp only [List.all_cons, List.all_nil, h1, h2, h3, Bool.and_true]
end Garner

/-! awake of the laws of query -/
namespace Go.Proofs.YtecejnilajbdpaaGreatDoor
open Go.RowKit Go.Shelf Garner
theorem aw_in {w w' : World} {e : Ending} (h : QParseO awS w e w') : ∃ MA mc FA fc, e = .returned (.tuple #[.agg #[.slice MA 2 mc, .slice FA 1 fc], .int .i64 0]) ∧ Below w.heap.size w w' ∧ QueryAt w' MA 2 FA 1 awQ := by
  obtain ⟨V1, V2, q, k, rfl, hb, o1, o2, sm, sf, -, hc⟩ := h
  rcases hc with ⟨rfl, hq⟩ | ⟨-, hq, -⟩
  · rw [aw_parse] at hq
    injection hq with hq
    subst hq
    obtain ⟨MA, mc, rfl, -⟩ := own_form o1
    obtain ⟨FA, fc, rfl, -⟩ := own_form o2
    exact ⟨MA, mc, FA, fc, rfl, hb, .of_own o1, .of_own o2, rfl, rfl, fun m hm => by have := sm m hm; omega, fun f hf => by have := sf f hf; omega⟩
  · rw [aw_parse] at hq; cases hq
theorem bd_in {w w' : World} {e : Ending} (h : QParseO awB w e w') : e = .returned (.tuple #[.agg #[.slice none 0 0, .slice none 0 0], .int .i64 40]) ∧ Below w.heap.size w w' := by
  obtain ⟨V1, V2, q, k, rfl, hb, -, -, -, -, -, hc⟩ := h
  rcases hc with ⟨-, hq⟩ | ⟨-, hq, -, rfl, rfl⟩
  · rw [bd_parse] at hq; cases hq
  · rw [bd_parse] at hq
    injection hq with hq
    subst hq
    exact ⟨rfl, hb⟩
theorem awS_lit : str awS = .string ⟨#[32, 123, 97, 112, 112, 61, 34, 119, 101, 98, 34, 44, 32, 101, 110, 118, 33, 126, 34, 100, 101, 118, 124, 116, 101, 115, 116, 34, 125, 32, 124, 61, 32, 34, 101, 114, 114, 34, 32]⟩ := by kernel_rfl
theorem awB_lit : str awB = .string ⟨#[123, 125, 32, 124, 126, 32, 34, 42, 34]⟩ := by kernel_rfl
theorem awPr_lit : str awPr = .string ⟨#[123, 97, 112, 112, 61, 34, 119, 101, 98, 34, 44, 101, 110, 118, 33, 126, 34, 100, 101, 118, 124, 116, 101, 115, 116, 34, 125, 32, 124, 61, 32, 34, 101, 114, 114, 34]⟩ := by kernel_rfl
set_option maxRecDepth 100000 in
set_option maxHeartbeats 32000000 in
theorem awake24 (w : World) (hL : Lt w) : Calls Tryz.prog 25 #[] w fun e w' => e = .returned (.bool true) ∧ Below w.heap.size w w' := by
  have hp := vQParse awS w hL (by decide)
  rw [awS_lit] at hp
  have HP := Lib.hid hp; have HL := Lib.hid hL
  clear hp hL
  go_enter Tryz.func25, Tryz.ntmps25
  go_wp2_with fail
  refine HP.out.mono ?_
  rintro e w1 hO
  obtain ⟨MA, mc, FA, fc, rfl, hb1, hq1⟩ := aw_in hO
  obtain ⟨X1, hX1⟩ : ∃ X1, X1 = w1.alloc (.cells #[.slice MA 2 mc, .slice FA 1 fc] 25) := ⟨_, rfl⟩
  have bX1 : Below w1.heap.size w1 X1 := by rw [hX1]; exact (Below.refl _ _).alloc (Nat.le_refl _) _
  have kX1 : Blk X1 w1.heap.size 25 [.slice MA 2 mc, .slice FA 1 fc] := by rw [hX1]; exact Blk.new w1 _ _
  have hw1 := hb1.trans (bX1.mono hb1.size)
  have hqX := hq1.below bX1
  have hpr := vQPrint awQ MA FA 2 1 mc fc X1 (HL.out.below hw1) hqX (by decide) (by decide) (by decide) (by decide)
  unfold QPrintO at hpr
  rw [aw_check, if_pos rfl, aw_print, awPr_lit] at hpr
  have x0 : X1.cell? ⟨w1.heap.size, 0, none⟩ = some (.slice MA 2 mc) := kX1.cell 0
  have x1 : X1.cell? ⟨w1.heap.size, 1, none⟩ = some (.slice FA 1 fc) := kX1.cell 1
  have HPr := Lib.hid hpr; have HW1 := Lib.hid hw1; have HQ1 := Lib.hid hqX; have HK1 := Lib.hid kX1
  obtain ⟨qb, hqbe⟩ : ∃ qb, w1.heap.size = qb := ⟨_, rfl⟩
  rw [hqbe] at HK1 x0 x1
  clear hO hb1 hq1 bX1 kX1 hw1 hqX hpr HP
  go_upto_region 2 with fail
  rw [← hX1]
  clear hX1
  go_wp2_with fail
  refine HPr.out.mono ?_
  rintro e w2 ⟨rfl, hb2⟩
  have hw2 := HW1.out.trans (hb2.mono HW1.out.size)
  have hq2 := HQ1.out.below hb2
  have k2 := HK1.out.below hb2 HK1.out.lt
  have hp := vQParse awB w2 (HL.out.below hw2) (by decide)
  rw [awB_lit] at hp
  have HP := Lib.hid hp; have HW2 := Lib.hid hw2; have HQ2 := Lib.hid hq2; have HK2 := Lib.hid k2
  clear hw2 hq2 k2 hp hb2 x0 x1 HPr HW1 HQ1 HK1
  go_wp2_with fail
  refine HP.out.mono ?_
  rintro e w3 hO
  obtain ⟨rfl, hb3⟩ := bd_in hO
  obtain ⟨X3, hX3⟩ : ∃ X3, X3 = w3.alloc (.cells #[.slice none 0 0, .slice none 0 0] 25) := ⟨_, rfl⟩
  have bX3 : Below w3.heap.size w3 X3 := by rw [hX3]; exact (Below.refl _ _).alloc (Nat.le_refl _) _
  have hb23 := hb3.trans (bX3.mono hb3.size)
  have hw3 := HW2.out.trans (hb23.mono HW2.out.size)
  have hq3 := HQ2.out.below hb23
  have k3 := HK2.out.below hb23 HK2.out.lt
  have x0 : X3.cell? ⟨qb, 0, none⟩ = some (.slice MA 2 mc) := k3.cell 0
  have x1 : X3.cell? ⟨qb, 1, none⟩ = some (.slice FA 1 fc) := k3.cell 1
  have hn := vQNew awQ MA FA 2 1 mc fc X3 (HL.out.below hw3) hq3 (by decide) (by decide)
  rw [aw_check] at hn
  have HN := Lib.hid hn; have HW3 := Lib.hid hw3
  clear hO hb3 bX3 hb23 hw3 hq3 k3 hn HP HW2 HQ2 HK2
  go_upto_region 4 with fail
  rw [← hX3]
  clear hX3
  go_wp2_with fail
  refine HN.out.mono ?_
  rintro e w4 ⟨hb4, hc⟩
  obtain ⟨g, v1, v2, P, Q, pv, rfl, hF, hpl⟩ := hc.elim (fun h => h.2) (fun h => absurd rfl h.1)
  have hw4 := HW3.out.trans (hb4.mono HW3.out.size)
  have hFA : FilAt X3.heap.size w4 g awQ := ⟨v1, v2, P, Q, pv, hF, hpl⟩
  have HW4 := Lib.hid hw4; have HFA := Lib.hid hFA
  clear hc hF hpl hb4 hw4 hFA x0 x1 HN HW3
  go_wp2_with fail
  obtain ⟨X4, hX4⟩ : ∃ X4, X4 = w4.alloc (.cells #[.string ⟨#[97, 112, 112]⟩, .string ⟨#[119, 101, 98]⟩] 43) := ⟨_, rfl⟩
  have bX4 : Below w4.heap.size w4 X4 := by rw [hX4]; exact (Below.refl _ _).alloc (Nat.le_refl _) _
  have hw4 := HW4.out.trans (bX4.mono HW4.out.size)
  have hr : Row X4 X4.heap.size 2 (some ⟨w4.heap.size, 0, none⟩) 1 (awR.labels.flatMap labCells) := by
    rw [hX4]
    exact (row_newN w4 43 2 1 [.string ⟨#[97, 112, 112]⟩, .string ⟨#[119, 101, 98]⟩] rfl).more (by simp)
  have hh := vQHolds awQ awR X3.heap.size g (some ⟨w4.heap.size, 0, none⟩) 1 1 0 0 X4 (HL.out.below hw4) (HFA.out.below bX4) (by decide) (by decide) hr rfl (by decide) (by decide)
  rw [aw_holds] at hh
  have hfa := HFA.out.below bX4
  have HH := Lib.hid hh; have HW := Lib.hid hw4; have HF4 := Lib.hid hfa
  clear bX4 hw4 hr hh hfa HFA HW4
  rw [← hX4]
  clear hX4
  refine HH.out.mono ?_
  rintro e w5 ⟨rfl, hb5⟩
  have hw5 := HW.out.trans (hb5.mono HW.out.size)
  have hh2 := vQHolds awQ awR2 X3.heap.size g none 0 0 0 0 w5 (HL.out.below hw5) (HF4.out.below hb5) (by decide) (by decide) Row.none_ rfl (by decide) (by decide)
  rw [aw_holds2] at hh2
  have HH2 := Lib.hid hh2; have HW5 := Lib.hid hw5
  clear hb5 hw5 hh2 HH HW HF4
  go_wp2_with fail
  refine HH2.out.mono ?_
  rintro e w6 ⟨rfl, hb6⟩
  have hw6 := HW5.out.trans (hb6.mono HW5.out.size)
  have HW6 := Lib.hid hw6
  clear hb6 hw6 HH2 HW5
  go_wp2
  go_ret
  exact ⟨rfl, HW6.out⟩
end Go.Proofs.YtecejnilajbdpaaGreatDoor

/-! the document's Same of two queries -/
namespace Go.Proofs.YtecejnilajbdpaaGreatDoor
open Go.RowKit Go.Shelf Garner
def SameO (q q' : QueryP) (w : World) (e : Ending) (w' : World) : Prop := ∃ b, e = .returned (.bool b) ∧ (b = true ↔ q = q') ∧ Below w.heap.size w w'
theorem SameO.no {q q' : QueryP} {w w' : World} (h : q ≠ q') (hb : Below w.heap.size w w') : SameO q q' w (.returned (.bool false)) w' := ⟨false, rfl, ⟨(by intro h; cases h), fun e => absurd e h⟩, hb⟩
set_option maxRecDepth 100000 in
set_option maxHeartbeats 32000000 in
theorem gSame (q q' : QueryP) (MA FA MA' FA' : Option Addr) (nm nf cm cf nm' nf' cm' cf' : Nat) (w : World) (hq : QueryAt w MA nm FA nf q) (hq' : QueryAt w MA' nm' FA' nf' q') (h1 : nm ≤ 140737488355328) (h2 : nf ≤ 140737488355328) :
    Calls Tryz.prog 28 #[.agg #[.slice MA nm cm, .slice FA nf cf], .agg #[.slice MA' nm' cm', .slice FA' nf' cf']] w fun e w' => SameO q q' w e w' := by
  obtain ⟨X0, hX0⟩ : ∃ X0, X0 = w.alloc (.cells #[.slice MA nm cm, .slice FA nf cf] 25) := ⟨_, rfl⟩
  have b0 : Below w.heap.size w X0 := by rw [hX0]; exact (Below.refl _ _).alloc (Nat.le_refl _) _
  have k0 : Blk X0 w.heap.size 25 [.slice MA nm cm, .slice FA nf cf] := by rw [hX0]; exact Blk.new w _ _
  have z0 : X0.heap.size = w.heap.size + 1 := by rw [hX0]; simp
  obtain ⟨X, hX⟩ : ∃ X, X = X0.alloc (.cells #[.slice MA' nm' cm', .slice FA' nf' cf'] 25) := ⟨_, rfl⟩
  have b1 : Below X0.heap.size X0 X := by rw [hX]; exact (Below.refl _ _).alloc (Nat.le_refl _) _
  have k1 : Blk X (w.heap.size + 1) 25 [.slice MA' nm' cm', .slice FA' nf' cf'] := by rw [hX, ← z0]; exact Blk.new X0 _ _
  have hwX := b0.trans (b1.mono b0.size)
  have k0' := k0.below b1 k0.lt
  have x0 : X.cell? ⟨w.heap.size, 0, none⟩ = some (.slice MA nm cm) := k0'.cell 0
  have x1 : X.cell? ⟨w.heap.size, 1, none⟩ = some (.slice FA nf cf) := k0'.cell 1
  have y0 : X.cell? ⟨w.heap.size + 1, 0, none⟩ = some (.slice MA' nm' cm') := k1.cell 0
  have y1 : X.cell? ⟨w.heap.size + 1, 1, none⟩ = some (.slice FA' nf' cf') := k1.cell 1
  have HwX := Lib.hid hwX; have HQ := Lib.hid hq; have HQ' := Lib.hid hq'; have K0 := Lib.hid k0'; have K1 := Lib.hid k1
  have Hnm := Lib.hid hq.nm_; have Hnf := Lib.hid hq.nf_; have Hnm' := Lib.hid hq'.nm_; have Hnf' := Lib.hid hq'.nf_
  have Hz := Lib.hid z0
  clear b0 b1 k0 k1 k0' hwX hq hq' z0
  go_enter Tryz.func28, Tryz.ntmps28
  go_upto_region 1 with fail
  rw [← hX0, ← hX]
  clear hX hX0
  by_cases hm : nm = nm'
  · by_cases hf : nf = nf'
    · subst hm
      subst hf
      have H0 : Hid (q.ms.take 0 = q'.ms.take 0 ∧ Below X.heap.size X X) := Lib.hid ⟨rfl, Below.refl _ _⟩
      go_wp2
      clear x0 x1 y0 y1
      go_loopw [5] (fun i wr => ∃ k : Nat, k ≤ nm ∧ i = .int .i64 k ∧ Hid (q.ms.take k = q'.ms.take k ∧ Below X.heap.size X wr)) (fun i _ => nm - (intOf i).toNat)
      case atStart => exact ⟨0, Nat.zero_le _, rfl, H0⟩
      case round =>
        obtain ⟨k, hk, rfl, hst⟩ := hrel
        obtain ⟨wo, rfl⟩ : ∃ wo : World, wo = wr := ⟨_, rfl⟩
        have wk1 : IntKind.i64.wrap ((k : Int) + 1) = ((k + 1 : Nat) : Int) := by rw [IntKind.wrap_i64]; omega
        have x0 : wo.cell? ⟨w.heap.size, 0, none⟩ = some (.slice MA nm cm) := (K0.out.below hst.out.2 K0.out.lt).cell 0
        have y0 : wo.cell? ⟨w.heap.size + 1, 0, none⟩ = some (.slice MA' nm cm') := (K1.out.below hst.out.2 K1.out.lt).cell 0
        by_cases hlt : k < nm
        · have z3 : (k : Int) < (nm : Int) := by omega
          obtain ⟨m, hm⟩ : ∃ m, q.ms[k]? = some m := ⟨_, List.getElem?_eq_getElem (by rw [Hnm.out]; exact hlt)⟩
          obtain ⟨m', hm'⟩ : ∃ m', q'.ms[k]? = some m' := ⟨_, List.getElem?_eq_getElem (by rw [Hnm'.out]; exact hlt)⟩
          obtain ⟨b, off, rfl, hc⟩ := HQ.out.mat hm
          obtain ⟨b', off', rfl, hc'⟩ := HQ'.out.mat hm'
          have hwo := HwX.out.trans (hst.out.2.mono HwX.out.size)
          obtain ⟨c0, c1, c2⟩ := hc wo hwo
          obtain ⟨d0, d1, d2⟩ := hc' wo hwo
          obtain ⟨N1, e1, hN1⟩ := str_form m.name
          obtain ⟨N2, e2, hN2⟩ := str_form m.val
          obtain ⟨M1, f1, hM1⟩ := str_form m'.name
          obtain ⟨M2, f2, hM2⟩ := str_form m'.val
          obtain ⟨o, ho⟩ : ∃ o, m.op = o := ⟨_, rfl⟩
          obtain ⟨p, hp⟩ : ∃ p, m'.op = p := ⟨_, rfl⟩
          rw [e1] at c0
          rw [ho] at c1
          rw [e2] at c2
          rw [f1] at d0
          rw [hp] at d1
          rw [f2] at d2
          have g1 := str_eql hN1 hM1
          have g2 := str_eql hN2 hM2
          have hne : m ≠ m' → q ≠ q' := fun h e => h (by rw [e, hm'] at hm; exact (Option.some.inj hm).symm)
          have hnx : m = m' → q.ms.take (k + 1) = q'.ms.take (k + 1) := fun e => by rw [List.take_add_one, List.take_add_one, hst.out.1, hm, hm', e]
          have hmm : m.name = m'.name → o = p → m.val = m'.val → m = m' := fun e1 e2 e3 => by
            rw [← ho, ← hp] at e2
            cases m; cases m'; simp at e1 e2 e3; simp [e1, e2, e3]
          obtain ⟨t1, ht1⟩ : ∃ t1, decide (m.name = m'.name) = t1 := ⟨_, rfl⟩
          obtain ⟨t2, ht2⟩ : ∃ t2, decide (m.val = m'.val) = t2 := ⟨_, rfl⟩
          rw [ht1] at g1
          rw [ht2] at g2
          have Hne := Lib.hid hne; have Hnx := Lib.hid hnx; have Hmm := Lib.hid hmm; have Ht1 := Lib.hid ht1; have Ht2 := Lib.hid ht2; have Hbw := Lib.hid hst.out.2
          clear hne hnx hmm ht1 ht2 hst
          have Hm := Lib.hid hm; have Hm' := Lib.hid hm'; have Ho := Lib.hid ho; have Hp := Lib.hid hp; have Hwo := Lib.hid hwo
          clear hc hc' e1 e2 f1 f2 hN1 hN2 hM1 hM2 ho hp hm hm' hwo
          go_upto_region 6 with fail
          have hfalse : ∀ n, m ≠ m' → SameO q q' w (.returned (.bool false)) (wo.drewN n) := fun n h => .no (Hne.out h) (below_dn Hwo.out n)
          have HFalse := Lib.hid hfalse
          clear hfalse
          cases t1 with
          | false =>
            have hmd : m ≠ m' := fun e => of_decide_eq_false Ht1.out (by rw [e])
            have Hmd := Lib.hid hmd
            clear hmd
            go_quiet (fail)
            go_wp2
            go_ret
            exact HFalse.out _ Hmd.out
          | true =>
            by_cases hop : o = p
            · subst hop
              cases t2 with
              | false =>
                have hmd : m ≠ m' := fun e => of_decide_eq_false Ht2.out (by rw [e])
                have Hmd := Lib.hid hmd
                clear hmd
                go_quiet (fail)
                go_wp2
                go_ret
                exact HFalse.out _ Hmd.out
              | true =>
                have hme := Hmm.out (of_decide_eq_true Ht1.out) rfl (of_decide_eq_true Ht2.out)
                have HR : Hid (∀ n, q.ms.take (k + 1) = q'.ms.take (k + 1) ∧ Below X.heap.size X (wo.drewN n)) := Lib.hid fun n => ⟨Hnx.out hme, below_dn Hbw.out n⟩
                clear hme
                go_quiet (fail)
                go_wp2
                go_roundw
                case rel => exact ⟨k + 1, by omega, by first | rfl | go_num, Lib.hid (HR.out _)⟩
                case measure => simp [intOf]; omega
            · have hmd : m ≠ m' := fun e => hop (by rw [← Ho.out, ← Hp.out, e])
              have Hmd := Lib.hid hmd
              have zo : (o == p) = false := beq_eq_false_iff_ne.2 hop
              clear hmd
              go_quiet (fail)
              go_wp2
              go_ret
              exact HFalse.out _ Hmd.out
        · obtain rfl : k = nm := by omega
          have z3 : ¬ (k : Int) < (k : Int) := by omega
          have hms : q.ms = q'.ms := by
            have h := hst.out.1
            rwa [List.take_of_length_le (by rw [Hnm.out]; exact Nat.le_refl _), List.take_of_length_le (by rw [Hnm'.out]; exact Nat.le_refl _)] at h
          have Hms := Lib.hid hms
          have H1 : Hid (q.fs.take 0 = q'.fs.take 0 ∧ Below X.heap.size X wo) := Lib.hid ⟨rfl, hst.out.2⟩
          clear hms hst
          go_wp2
          clear x0 y0
          go_loopw [6] (fun i wr => ∃ k : Nat, k ≤ nf ∧ i = .int .i64 k ∧ Hid (q.fs.take k = q'.fs.take k ∧ Below X.heap.size X wr)) (fun i _ => nf - (intOf i).toNat)
          case atStart => exact ⟨0, Nat.zero_le _, rfl, H1⟩
          case round =>
            clear z3 wk1
            obtain ⟨k, hk, rfl, hst⟩ := hrel
            obtain ⟨wo, rfl⟩ : ∃ wo : World, wo = wr := ⟨_, rfl⟩
            have wk1 : IntKind.i64.wrap ((k : Int) + 1) = ((k + 1 : Nat) : Int) := by rw [IntKind.wrap_i64]; omega
            have x0 : wo.cell? ⟨w.heap.size, 1, none⟩ = some (.slice FA nf cf) := (K0.out.below hst.out.2 K0.out.lt).cell 1
            have y0 : wo.cell? ⟨w.heap.size + 1, 1, none⟩ = some (.slice FA' nf cf') := (K1.out.below hst.out.2 K1.out.lt).cell 1
            by_cases hlt : k < nf
            · have z3 : (k : Int) < (nf : Int) := by omega
              obtain ⟨m, hm⟩ : ∃ m, q.fs[k]? = some m := ⟨_, List.getElem?_eq_getElem (by rw [Hnf.out]; exact hlt)⟩
              obtain ⟨m', hm'⟩ : ∃ m', q'.fs[k]? = some m' := ⟨_, List.getElem?_eq_getElem (by rw [Hnf'.out]; exact hlt)⟩
              obtain ⟨b, off, rfl, hc⟩ := fil_cells HQ.out.fs hm hlt
              obtain ⟨b', off', rfl, hc'⟩ := fil_cells HQ'.out.fs hm' hlt
              have hwo := HwX.out.trans (hst.out.2.mono HwX.out.size)
              obtain ⟨c1, c2⟩ := hc wo hwo
              obtain ⟨d1, d2⟩ := hc' wo hwo
              obtain ⟨N2, e2, hN2⟩ := str_form m.text
              obtain ⟨M2, f2, hM2⟩ := str_form m'.text
              obtain ⟨o, ho⟩ : ∃ o, m.op = o := ⟨_, rfl⟩
              obtain ⟨p, hp⟩ : ∃ p, m'.op = p := ⟨_, rfl⟩
              rw [ho] at c1
              rw [e2] at c2
              rw [hp] at d1
              rw [f2] at d2
              have g2 := str_eql hN2 hM2
              have hne : m ≠ m' → q ≠ q' := fun h e => h (by rw [e, hm'] at hm; exact (Option.some.inj hm).symm)
              have hnx : m = m' → q.fs.take (k + 1) = q'.fs.take (k + 1) := fun e => by rw [List.take_add_one, List.take_add_one, hst.out.1, hm, hm', e]
              have hmm : o = p → m.text = m'.text → m = m' := fun e2 e3 => by
                rw [← ho, ← hp] at e2
                cases m; cases m'; simp at e2 e3; simp [e2, e3]
              obtain ⟨t2, ht2⟩ : ∃ t2, decide (m.text = m'.text) = t2 := ⟨_, rfl⟩
              rw [ht2] at g2
              have Hne := Lib.hid hne; have Hnx := Lib.hid hnx; have Hmm := Lib.hid hmm; have Ht2 := Lib.hid ht2; have Hbw := Lib.hid hst.out.2
              clear hne hnx hmm ht2 hst
              have Hm := Lib.hid hm; have Hm' := Lib.hid hm'; have Ho := Lib.hid ho; have Hp := Lib.hid hp; have Hwo := Lib.hid hwo
              clear hc hc' e2 f2 hN2 hM2 ho hp hm hm' hwo
              go_upto_region 11 with fail
              have hfalse : ∀ n, m ≠ m' → SameO q q' w (.returned (.bool false)) (wo.drewN n) := fun n h => .no (Hne.out h) (below_dn Hwo.out n)
              have HFalse := Lib.hid hfalse
              clear hfalse
              by_cases hop : o = p
              · subst hop
                cases t2 with
                | false =>
                  have hmd : m ≠ m' := fun e => of_decide_eq_false Ht2.out (by rw [e])
                  have Hmd := Lib.hid hmd
                  clear hmd
                  go_quiet (fail)
                  go_wp2
                  go_ret
                  exact HFalse.out _ Hmd.out
                | true =>
                  have hme := Hmm.out rfl (of_decide_eq_true Ht2.out)
                  have HR : Hid (∀ n, q.fs.take (k + 1) = q'.fs.take (k + 1) ∧ Below X.heap.size X (wo.drewN n)) := Lib.hid fun n => ⟨Hnx.out hme, below_dn Hbw.out n⟩
                  clear hme
                  go_quiet (fail)
                  go_wp2
                  go_roundw
                  case rel => exact ⟨k + 1, by omega, by first | rfl | go_num, Lib.hid (HR.out _)⟩
                  case measure => simp [intOf]; omega
              · have hmd : m ≠ m' := fun e => hop (by rw [← Ho.out, ← Hp.out, e])
                have Hmd := Lib.hid hmd
                have zo : (o == p) = false := beq_eq_false_iff_ne.2 hop
                clear hmd
                go_quiet (fail)
                go_wp2
                go_ret
                exact HFalse.out _ Hmd.out
            · obtain rfl : k = nf := by omega
              have z3 : ¬ (k : Int) < (k : Int) := by omega
              have hfs : q.fs = q'.fs := by
                have h := hst.out.1
                rwa [List.take_of_length_le (by rw [Hnf.out]; exact Nat.le_refl _), List.take_of_length_le (by rw [Hnf'.out]; exact Nat.le_refl _)] at h
              have hqq : q = q' := by
                have h1 := Hms.out
                cases q; cases q'; simp at h1 hfs; simp [h1, hfs]
              have hans : SameO q q' w (.returned (.bool true)) wo := ⟨true, rfl, ⟨fun _ => hqq, fun _ => rfl⟩, HwX.out.trans (hst.out.2.mono HwX.out.size)⟩
              have HAns := Lib.hid hans
              clear hfs hqq hans hst
              go_wp2
              go_ret
              exact HAns.out
    · have hans : SameO q q' w (.returned (.bool false)) X := .no (fun e => hf (by rw [← Hnf.out, ← Hnf'.out, e])) HwX.out
      have HAns := Lib.hid hans
      have z1 : ((nm : Int) == (nm' : Int)) = true := by rw [hm]; simp
      have z2 : ((nf : Int) == (nf' : Int)) = false := beq_eq_false_iff_ne.2 (by omega)
      subst hm
      clear hans
      go_wp2
      go_ret
      exact HAns.out
  · have hans : SameO q q' w (.returned (.bool false)) X := .no (fun e => hm (by rw [← Hnm.out, ← Hnm'.out, e])) HwX.out
    have HAns := Lib.hid hans
    have z1 : ((nm : Int) == (nm' : Int)) = false := beq_eq_false_iff_ne.2 (by omega)
    clear hans
    go_wp2
    go_ret
    exact HAns.out
end Go.Proofs.YtecejnilajbdpaaGreatDoor

/-! the document's parser of queries, plain: tokens by place, a query's parts by place -/
namespace Garner
open Go
/-! tokens at a place -/
section
variable {S : Bs} {i j : Nat} {c : UInt8} {t : Bs} {l : List Bs}
/-- what Tokens' loop has: the tokens so far, and the place -/
def TkI (S : Bs) (l : List Bs) (i : Nat) : Prop := toks S = (toks (S.drop i)).map (l ++ ·)
theorem TkI.start (S : Bs) : TkI S [] 0 := by
  unfold TkI
  rw [List.drop_zero]
  cases toks S <;> rfl
theorem TkI.step (h : TkI S l i) (e : toks (S.drop i) = (toks (S.drop j)).map (t :: ·)) : TkI S (l ++ [t]) j := by
  unfold TkI at h ⊢
  rw [h, e]
  cases toks (S.drop j) with
  | none => rfl
  | some x => simp
theorem TkI.skip (h : TkI S l i) (e : toks (S.drop i) = toks (S.drop j)) : TkI S l j := by
  unfold TkI at h ⊢
  rw [h, e]
theorem TkI.none_ (h : TkI S l i) (e : toks (S.drop i) = none) : toks S = none := by
  unfold TkI at h
  rw [h, e]; rfl
theorem TkI.fin (h : TkI S l i) (hi : S.length ≤ i) : toks S = some l := by
  unfold TkI at h
  rw [h, List.drop_eq_nil_of_le hi]
  show (some ([] : List Bs)).map _ = _
  simp
end
/-! a query's parts at a place -/
section
variable {ms : List MatP} {fs : List FilP} {l : List Bs} {i : Nat}
end
end Garner

/-! the document's at, text, op, name of its parser of queries -/
namespace Garner
open Go
end Garner
namespace Go.Proofs.YtecejnilajbdpaaGreatDoor
open Go.RowKit Go.Shelf Garner
end Go.Proofs.YtecejnilajbdpaaGreatDoor

