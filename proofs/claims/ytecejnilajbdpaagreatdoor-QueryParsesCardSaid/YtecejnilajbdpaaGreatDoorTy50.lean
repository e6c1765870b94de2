import Derived.Test.YtecejnilajbdpaaGreatDoorTy42
import Derived.Test.YtecejnilajbdpaaGreatDoorTy48
import Derived.Test.YtecejnilajbdpaaGreatDoorTy47
import Derived.Test.YtecejnilajbdpaaGreatDoorTy49
namespace Garner
open Go
structure TailP where
 ws : List RecP
 over : Bool
def takeN (n : Int) (m : Nat) : Nat := min n.toNat m
def TailP.take (t : TailP) (n : Int) : TailP × List RecP × Bool :=
 (⟨t.ws.drop (takeN n t.ws.length), t.over⟩, t.ws.take (takeN n t.ws.length), t.over && decide ((t.ws.drop (takeN n t.ws.length)).length = 0))
end Garner
namespace Go.Proofs.YtecejnilajbdpaaGreatDoor
open Go.RowKit Go.Shelf Garner
structure RecD where
 r : RecP
 A : Option Addr
 c : Nat
def RecD.cells (d : RecD) : List Value := [.int .i64 d.r.time, .int .u64 d.r.seq, .slice d.A d.r.labels.length d.c, strB d.r.line]
theorem RecD.cells_len (d : RecD) : d.cells.length = 4 := rfl
def LabOwn (B : Nat) (w : World) (d : RecD) : Prop := w.ownsRow B 43 2 (.slice d.A d.r.labels.length d.c) d.r.labels.length (d.r.labels.flatMap labCells)
abbrev TT : List TypeId := [75, 38]
structure TailIs (B : Nat) (w : World) (g : Nat) (q : QueryP) (ds : List RecD) (ov : Bool) (f : Nat) (V : Value) : Prop where
 blk : Blk w g 75 [.pointer (some ⟨f, 0, none⟩), V, .bool ov]
 fil : FilAt B w f q
 row : w.ownsRow B 38 4 V ds.length (ds.flatMap RecD.cells)
 lab : ∀ d ∈ ds, LabOwn B w d
 ms : q.ms.length ≤ 16
 fs : q.fs.length ≤ 16
 low : B ≤ g
def tailS (g : Nat) (V : Value) : List Nat := g :: V.ownBlock.toList
section
variable {B : Nat} {w w' : World} {g f : Nat} {q : QueryP} {ds : List RecD} {ov : Bool} {V : Value}
theorem FilAt.keepTT (h : FilAt B w g q) (hk : KeepM TT w w') : FilAt B w' g q := by
 obtain ⟨v1, v2, P, Q, pv, h1, h2⟩ := h
 exact ⟨v1, v2, P, Q, pv, h1.keepT hk (by decide) (by decide) (by decide) (by decide) (by decide) (by decide) (by decide) (by decide), h2⟩
theorem TailIs.other {S : List Nat} (h : TailIs B w g q ds ov f V) (hb : But S w w') (hk : KeepM TT w w') (hS : ∀ k ∈ tailS g V, k ∉ S) : TailIs B w' g q ds ov f V :=
 ⟨h.blk.but hb (hS _ (by simp [tailS])), h.fil.keepTT hk, own_but h.row hb fun k hk' => hS k (by simp [tailS, hk']), fun d hd => hk.own (h.lab d hd) (by decide), h.ms, h.fs, h.low⟩
theorem TailIs.below (h : TailIs B w g q ds ov f V) (hb : Below w.heap.size w w') : TailIs B w' g q ds ov f V := h.other (S := []) (.of_below hb) (.of_below hb) (by simp)
theorem TailIs.lt (h : TailIs B w g q ds ov f V) : ∀ k ∈ tailS g V, B ≤ k ∧ k < w.heap.size := fun k hk => by
 rcases List.mem_cons.1 hk with rfl | hk
 ·exact ⟨h.low, h.blk.lt⟩
 ·exact h.row.lt k (Option.mem_toList.1 hk)
end
end Go.Proofs.YtecejnilajbdpaaGreatDoor
namespace Garner
open Go
end Garner
namespace Go.Proofs.YtecejnilajbdpaaGreatDoor
open Go.RowKit Go.Shelf Garner
def TakeO (K : Nat) (B g : Nat) (q : QueryP) (ds : List RecD) (ov : Bool) (f : Nat) (w : World) (e : Ending) (w' : World) : Prop :=
 ∃ L V', e = .returned (.tuple #[L, .bool (ov && decide (ds.length - K = 0))]) ∧ w'.ownsRow w.heap.size 38 4 L K ((ds.take K).flatMap RecD.cells) ∧ TailIs B w' g q (ds.drop K) ov f V' ∧ But [g] w w' ∧ KeepM TT w w' ∧ (∀ k, V'.ownBlock = some k → w.heap.size ≤ k) ∧ ∀ k, L.ownBlock = some k → k ∉ tailS g V'
theorem TakeO.dn {K B g : Nat} {q : QueryP} {ds : List RecD} {ov : Bool} {f : Nat} {w w' w2 : World} {e : Ending} (h : TakeO K B g q ds ov f w e w') (hb : Below w'.heap.size w' w2) : TakeO K B g q ds ov f w e w2 := by
 obtain ⟨L, V', h1, h2, h3, h4, h5, h6, h7⟩ := h
 exact ⟨L, V', h1, own_below h2 hb, h3.below hb, h4.trans (.of_below hb), h5.trans (.of_below hb), h6, h7⟩
section
variable {B g : Nat} {q : QueryP} {ds : List RecD} {ov : Bool} {f : Nat} {V : Value} {r : RecP} {w w' : World}
end
open Go.RowKit Go.Shelf Garner
structure RecsAt (w : World) (A : Option Addr) (n : Nat) (ds : List RecD) : Prop where
 row : Row w w.heap.size 4 A n (ds.flatMap RecD.cells)
 len : ds.length = n
 lab : ∀ d ∈ ds, Row w w.heap.size 2 d.A d.r.labels.length (d.r.labels.flatMap labCells)
 few : ∀ d ∈ ds, d.r.labels.length ≤ 1000000000000
theorem RecsAt.below {w w' : World} {A : Option Addr} {n : Nat} {ds : List RecD} (h : RecsAt w A n ds) (hb : Below w.heap.size w w') : RecsAt w' A n ds :=
 ⟨(h.row.below hb).more hb.size, h.len, fun d hd => ((h.lab d hd).below hb).more hb.size, h.few⟩
structure GpC (w0 wr : World) (qb n : Nat) (l : List Bs) (LA : Option Addr) (lc : Nat) (V1 V2 : Value) (ms : List MatP) (fs : List FilP) : Prop where
 be : Below w0.heap.size w0 wr
 kr : Blk wr w0.heap.size 25 [.slice none 0 0, .slice none 0 0]
 kq : Blk wr qb 25 [V1, V2]
 hq : w0.heap.size < qb
 o1 : wr.ownsRow w0.heap.size 69 3 V1 ms.length (ms.flatMap MatP.cells)
 o2 : wr.ownsRow w0.heap.size 71 2 V2 fs.length (fs.flatMap FilP.cells)
 ol : wr.ownsRow w0.heap.size 9 1 (.slice LA n lc) n (l.map strB)
 sm : ∀ m ∈ ms, m.name.length ≤ 512 ∧ m.val.length ≤ 512
 sf : ∀ f ∈ fs, f.text.length ≤ 512
section
variable {w0 wr w' : World} {qb n mb lc : Nat} {l : List Bs} {LA : Option Addr} {V1 V2 V' : Value} {ms : List MatP} {fs : List FilP} {m : MatP} {f : FilP}
theorem GpC.below (h : GpC w0 wr qb n l LA lc V1 V2 ms fs) (hb : Below wr.heap.size wr w') : GpC w0 w' qb n l LA lc V1 V2 ms fs :=
 ⟨h.be.trans (hb.mono h.be.size), h.kr.below hb h.kr.lt, h.kq.below hb h.kq.lt, h.hq, own_below h.o1 hb, own_below h.o2 hb, own_below h.ol hb, h.sm, h.sf⟩
theorem GpC.box (h : GpC w0 wr qb n l LA lc V1 V2 ms fs) (hb : But [mb] wr w') (hk : KeepM [69, 71] wr w') (h1 : V1.ownBlock ≠ some mb) (h2 : V2.ownBlock ≠ some mb) (h0 : w0.heap.size ≤ mb) : GpC w0 w' qb n l LA lc V1 V2 ms fs :=
 ⟨h.be.trans (hb.below h.be.size fun x hx => by rw [List.mem_singleton] at hx; rw [hx]; exact h0), hk.blk h.kr (by decide), hk.blk h.kq (by decide), h.hq, own_but h.o1 hb fun k hk hm => h1 (by rw [List.mem_singleton] at hm; rw [← hm]; exact hk), own_but h.o2 hb fun k hk hm => h2 (by rw [List.mem_singleton] at hm; rw [← hm]; exact hk), hk.own h.ol (by decide), h.sm, h.sf⟩
theorem GpC.addM (h : GpC w0 wr qb n l LA lc V1 V2 ms fs) (hm : m.name.length ≤ 512 ∧ m.val.length ≤ 512) (hgw : wr.grownBy w' V1.ownBlock) (hbl : Below w0.heap.size wr w') (ho : w'.ownsRow w0.heap.size 69 3 V' (ms.length + 1) (ms.flatMap MatP.cells ++ m.cells)) : GpC w0 (w'.setCell ⟨qb, 0, none⟩ V') qb n l LA lc V' V2 (ms ++ [m]) fs := by
 have hbu : But V1.ownBlock.toList wr w' := But.grown hgw fun k hk => Option.mem_toList.2 hk
 have nq : qb ∉ V1.ownBlock.toList := own_blk h.o1 h.kq (by decide)
 have nr : w0.heap.size ∉ V1.ownBlock.toList := own_blk h.o1 h.kr (by decide)
 have hq := h.kq.but hbu nq
 have kq : KeepM [25] w' (w'.setCell ⟨qb, 0, none⟩ V') := KeepM.setCell (.refl _ w') (p := ⟨qb, 0, none⟩) (show w'.heap[qb]? = _ from hq) (by simp) _
 have hqb := h.hq
 refine ⟨(h.be.trans hbl).setCell (by show w0.heap.size ≤ qb; omega) _, (h.kr.but hbu nr).far (by show w0.heap.size ≠ qb; omega) _, hq.set_ 0 V', hqb, ?_, kq.own (own_but h.o2 hbu fun k hk hm => own_own h.o1 h.o2 (by decide) k hk hm) (by decide), kq.own (own_but h.ol hbu fun k hk hm => own_own h.o1 h.ol (by decide) k hk hm) (by decide), fun x hx => ?_, h.sf⟩
 ·rw [List.length_append, List.flatMap_append]
  refine kq.own ?_ (by decide)
  simpa using ho
 ·rcases List.mem_append.1 hx with hx | hx
  ·exact h.sm x hx
  ·rw [List.mem_singleton] at hx; rw [hx]; exact hm
theorem GpC.addF (h : GpC w0 wr qb n l LA lc V1 V2 ms fs) (hf : f.text.length ≤ 512) (hgw : wr.grownBy w' V2.ownBlock) (hbl : Below w0.heap.size wr w') (ho : w'.ownsRow w0.heap.size 71 2 V' (fs.length + 1) (fs.flatMap FilP.cells ++ f.cells)) : GpC w0 (w'.setCell ⟨qb, 1, none⟩ V') qb n l LA lc V1 V' ms (fs ++ [f]) := by
 have hbu : But V2.ownBlock.toList wr w' := But.grown hgw fun k hk => Option.mem_toList.2 hk
 have nq : qb ∉ V2.ownBlock.toList := own_blk h.o2 h.kq (by decide)
 have nr : w0.heap.size ∉ V2.ownBlock.toList := own_blk h.o2 h.kr (by decide)
 have hq := h.kq.but hbu nq
 have kq : KeepM [25] w' (w'.setCell ⟨qb, 1, none⟩ V') := KeepM.setCell (.refl _ w') (p := ⟨qb, 1, none⟩) (show w'.heap[qb]? = _ from hq) (by simp) _
 have hqb := h.hq
 refine ⟨(h.be.trans hbl).setCell (by show w0.heap.size ≤ qb; omega) _, (h.kr.but hbu nr).far (by show w0.heap.size ≠ qb; omega) _, hq.set_ 1 V', hqb, kq.own (own_but h.o1 hbu fun k hk hm => own_own h.o2 h.o1 (by decide) k hk hm) (by decide), ?_, kq.own (own_but h.ol hbu fun k hk hm => own_own h.o2 h.ol (by decide) k hk hm) (by decide), h.sm, fun x hx => ?_⟩
 ·rw [List.length_append, List.flatMap_append]
  refine kq.own ?_ (by decide)
  simpa using ho
 ·rcases List.mem_append.1 hx with hx | hx
  ·exact h.sf x hx
  ·rw [List.mem_singleton] at hx; rw [hx]; exact hf
theorem GpC.grew (h : GpC w0 wr qb n l LA lc V1 V2 ms fs) {V : Value} (hv : V = V1 ∨ V = V2) (hgw : wr.grownBy w' V.ownBlock) : Blk w' qb 25 [V1, V2] := by
 have hbu : But V.ownBlock.toList wr w' := But.grown hgw fun k hk => Option.mem_toList.2 hk
 refine h.kq.but hbu ?_
 rcases hv with rfl | rfl
 ·exact own_blk h.o1 h.kq (by decide)
 ·exact own_blk h.o2 h.kq (by decide)
theorem GpC.row (h : GpC w0 wr qb n l LA lc V1 V2 ms fs) : Row wr wr.heap.size 1 LA n (l.map strB) := .of_own h.ol
end
end Go.Proofs.YtecejnilajbdpaaGreatDoor
namespace Garner
open Go
def awS : Bs := " {app=\"web\", env!~\"dev|test\"} |= \"err\" ".toUTF8.data.toList
def awPr : Bs := "{app=\"web\",env!~\"dev|test\"} |= \"err\"".toUTF8.data.toList
def awB : Bs := "{} |~ \"*\"".toUTF8.data.toList
def awQ : QueryP := ⟨[⟨[97, 112, 112], 1, [119, 101, 98]⟩, ⟨[101, 110, 118], 4, [100, 101, 118, 124, 116, 101, 115, 116]⟩], [⟨1, [101, 114, 114]⟩]⟩
def bdQ : QueryP := ⟨[], [⟨3, [42]⟩]⟩
theorem aw_toks : (toks awS).bind queryR = some awQ := by kernel_rfl
theorem bd_toks : (toks awB).bind queryR = some bdQ := by kernel_rfl
theorem aw_print : printP awQ = awPr := by kernel_rfl
theorem aw_valid : Lib.validD awS = true := by kernel_rfl
theorem bd_valid : Lib.validD awB = true := by kernel_rfl
theorem aw_check : checkQ awQ = 0 := by kernel_rfl
theorem bd_check : checkQ bdQ = 40 := by kernel_rfl
def awR : RecP := ⟨0, 0, [([97, 112, 112], [119, 101, 98])], [97, 110, 32, 101, 114, 114]⟩
def awR2 : RecP := ⟨0, 0, [], [97, 110, 32, 101, 114, 114]⟩
theorem aw_holds2 : holdsQ awQ awR2 = false := by kernel_rfl
theorem aw_parse : parseQ awS = .ok awQ := by
 unfold parseQ
 rw [if_neg (by decide), aw_valid, if_neg (by decide), aw_toks]
 simp only
 rw [if_pos aw_check]
theorem bd_parse : parseQ awB = .error 40 := by
 unfold parseQ
 rw [if_neg (by decide), bd_valid, if_neg (by decide), bd_toks]
 simp only
 rw [if_neg (by rw [bd_check]; decide), bd_check]
def devT : Re := .alt [.seq [litS 100, litS 101, litS 118], .seq [litS 116, litS 101, litS 115, litS 116]]
theorem dev_ok : rexpP [100, 101, 118, 124, 116, 101, 115, 116] = .ok devT := by
 have h1 : Lib.validD [100, 101, 118, 124, 116, 101, 115, 116] = true := by kernel_rfl
 have h2 : runesP [100, 101, 118, 124, 116, 101, 115, 116] = [100, 101, 118, 124, 116, 101, 115, 116] := by kernel_rfl
 have h3 : readR [100, 101, 118, 124, 116, 101, 115, 116] = .ok devT := by kernel_rfl
 unfold rexpP
 rw [if_neg (by decide), if_neg (by rw [h1]; decide), h2, h3]
theorem dev_not : patWhole [100, 101, 118, 124, 116, 101, 115, 116] [] = false := by
 unfold patWhole
 rw [dev_ok]
 show wholeB devT (runesP []) = false
 rw [show runesP [] = [] by kernel_rfl, Bool.eq_false_iff]
 intro h
 rcases (whole_iff.1 h : devT.M [] 0 0) with ⟨k, ⟨-, x, hx, -⟩, -⟩ | ⟨k, ⟨-, x, hx, -⟩, -⟩ | h
 ·cases hx
 ·cases hx
 ·exact h
theorem aw_holds : holdsQ awQ awR = true := by
 have h1 : matHolds awR ⟨[97, 112, 112], 1, [119, 101, 98]⟩ = true := by kernel_rfl
 have h2 : matHolds awR ⟨[101, 110, 118], 4, [100, 101, 118, 124, 116, 101, 115, 116]⟩ = true := by
  unfold matHolds matYes
  rw [if_pos (by decide)]
  show (patWhole [100, 101, 118, 124, 116, 101, 115, 116] [] != notO 4) = true
  rw [dev_not]; decide
 have h3 : filHolds awR ⟨1, [101, 114, 114]⟩ = true := by kernel_rfl
 unfold holdsQ awQ
 simp only [List.all_cons, List.all_nil, h1, h2, h3, Bool.and_true]
end Garner
namespace Go.Proofs.YtecejnilajbdpaaGreatDoor
open Go.RowKit Go.Shelf Garner
theorem aw_in {w w' : World} {e : Ending} (h : QParseO awS w e w') : ∃ MA mc FA fc, e = .returned (.tuple #[.agg #[.slice MA 2 mc, .slice FA 1 fc], .int .i64 0]) ∧ Below w.heap.size w w' ∧ QueryAt w' MA 2 FA 1 awQ := by
 obtain ⟨V1, V2, q, k, rfl, hb, o1, o2, sm, sf, -, hc⟩ := h
 rcases hc with ⟨rfl, hq⟩ | ⟨-, hq, -⟩
 ·rw [aw_parse] at hq
  injection hq with hq
  subst hq
  obtain ⟨MA, mc, rfl, -⟩ := own_form o1
  obtain ⟨FA, fc, rfl, -⟩ := own_form o2
  exact ⟨MA, mc, FA, fc, rfl, hb, .of_own o1, .of_own o2, rfl, rfl, fun m hm => by have := sm m hm; omega, fun f hf => by have := sf f hf; omega⟩
 ·rw [aw_parse] at hq; cases hq
theorem bd_in {w w' : World} {e : Ending} (h : QParseO awB w e w') : e = .returned (.tuple #[.agg #[.slice none 0 0, .slice none 0 0], .int .i64 40]) ∧ Below w.heap.size w w' := by
 obtain ⟨V1, V2, q, k, rfl, hb, -, -, -, -, -, hc⟩ := h
 rcases hc with ⟨-, hq⟩ | ⟨-, hq, -, rfl, rfl⟩
 ·rw [bd_parse] at hq; cases hq
 ·rw [bd_parse] at hq
  injection hq with hq
  subst hq
  exact ⟨rfl, hb⟩
theorem awS_lit : str awS = .string ⟨#[32, 123, 97, 112, 112, 61, 34, 119, 101, 98, 34, 44, 32, 101, 110, 118, 33, 126, 34, 100, 101, 118, 124, 116, 101, 115, 116, 34, 125, 32, 124, 61, 32, 34, 101, 114, 114, 34, 32]⟩ := by kernel_rfl
theorem awB_lit : str awB = .string ⟨#[123, 125, 32, 124, 126, 32, 34, 42, 34]⟩ := by kernel_rfl
theorem awPr_lit : str awPr = .string ⟨#[123, 97, 112, 112, 61, 34, 119, 101, 98, 34, 44, 101, 110, 118, 33, 126, 34, 100, 101, 118, 124, 116, 101, 115, 116, 34, 125, 32, 124, 61, 32, 34, 101, 114, 114, 34]⟩ := by kernel_rfl
set_option maxRecDepth 100000 in
set_option maxHeartbeats 32000000 in
theorem awake24 (w : World) (hL : Lt w) : Calls Tryz.prog 25 #[] w fun e w' => e = .returned (.bool true) ∧ Below w.heap.size w w' := by
 have hp := vQParse awS w hL (by decide)
 rw [awS_lit] at hp
 have HP := Lh hp; have HL := Lh hL
 clear hp hL
 go_enter Tryz.func25, Tryz.ntmps25
 go_wp2_with fail
 refine HP.out.mono ?_
 rintro e w1 hO
 obtain ⟨MA, mc, FA, fc, rfl, hb1, hq1⟩ := aw_in hO
 obtain ⟨X1, hX1⟩ : ∃ X1, X1 = w1.alloc (.cells #[.slice MA 2 mc, .slice FA 1 fc] 25) := ⟨_, rfl⟩
 have bX1 : Below w1.heap.size w1 X1 := by rw [hX1]; exact (Below.refl _ _).alloc (Nat.le_refl _) _
 have kX1 : Blk X1 w1.heap.size 25 [.slice MA 2 mc, .slice FA 1 fc] := by rw [hX1]; exact Blk.new w1 _ _
 have hw1 := hb1.trans (bX1.mono hb1.size)
 have hqX := hq1.below bX1
 have hpr := vQPrint awQ MA FA 2 1 mc fc X1 (HL.out.below hw1) hqX (by decide) (by decide) (by decide) (by decide)
 unfold QPrintO at hpr
 rw [aw_check, if_pos rfl, aw_print, awPr_lit] at hpr
 have x0 : X1.cell? ⟨w1.heap.size, 0, none⟩ = some (.slice MA 2 mc) := kX1.cell 0
 have x1 : X1.cell? ⟨w1.heap.size, 1, none⟩ = some (.slice FA 1 fc) := kX1.cell 1
 have HPr := Lh hpr; have HW1 := Lh hw1; have HQ1 := Lh hqX; have HK1 := Lh kX1
 obtain ⟨qb, hqbe⟩ : ∃ qb, w1.heap.size = qb := ⟨_, rfl⟩
 rw [hqbe] at HK1 x0 x1
 clear hO hb1 hq1 bX1 kX1 hw1 hqX hpr HP
 go_upto_region 2 with fail
 rw [← hX1]
 clear hX1
 go_wp2_with fail
 refine HPr.out.mono ?_
 rintro e w2 ⟨rfl, hb2⟩
 have hw2 := HW1.out.trans (hb2.mono HW1.out.size)
 have hq2 := HQ1.out.below hb2
 have k2 := HK1.out.below hb2 HK1.out.lt
 have hp := vQParse awB w2 (HL.out.below hw2) (by decide)
 rw [awB_lit] at hp
 have HP := Lh hp; have HW2 := Lh hw2; have HQ2 := Lh hq2; have HK2 := Lh k2
 clear hw2 hq2 k2 hp hb2 x0 x1 HPr HW1 HQ1 HK1
 go_wp2_with fail
 refine HP.out.mono ?_
 rintro e w3 hO
 obtain ⟨rfl, hb3⟩ := bd_in hO
 obtain ⟨X3, hX3⟩ : ∃ X3, X3 = w3.alloc (.cells #[.slice none 0 0, .slice none 0 0] 25) := ⟨_, rfl⟩
 have bX3 : Below w3.heap.size w3 X3 := by rw [hX3]; exact (Below.refl _ _).alloc (Nat.le_refl _) _
 have hb23 := hb3.trans (bX3.mono hb3.size)
 have hw3 := HW2.out.trans (hb23.mono HW2.out.size)
 have hq3 := HQ2.out.below hb23
 have k3 := HK2.out.below hb23 HK2.out.lt
 have x0 : X3.cell? ⟨qb, 0, none⟩ = some (.slice MA 2 mc) := k3.cell 0
 have x1 : X3.cell? ⟨qb, 1, none⟩ = some (.slice FA 1 fc) := k3.cell 1
 have hn := vQNew awQ MA FA 2 1 mc fc X3 (HL.out.below hw3) hq3 (by decide) (by decide)
 rw [aw_check] at hn
 have HN := Lh hn; have HW3 := Lh hw3
 clear hO hb3 bX3 hb23 hw3 hq3 k3 hn HP HW2 HQ2 HK2
 go_upto_region 4 with fail
 rw [← hX3]
 clear hX3
 go_wp2_with fail
 refine HN.out.mono ?_
 rintro e w4 ⟨hb4, hc⟩
 obtain ⟨g, v1, v2, P, Q, pv, rfl, hF, hpl⟩ := hc.elim (fun h => h.2) (fun h => absurd rfl h.1)
 have hw4 := HW3.out.trans (hb4.mono HW3.out.size)
 have hFA : FilAt X3.heap.size w4 g awQ := ⟨v1, v2, P, Q, pv, hF, hpl⟩
 have HW4 := Lh hw4; have HFA := Lh hFA
 clear hc hF hpl hb4 hw4 hFA x0 x1 HN HW3
 go_wp2_with fail
 obtain ⟨X4, hX4⟩ : ∃ X4, X4 = w4.alloc (.cells #[.string ⟨#[97, 112, 112]⟩, .string ⟨#[119, 101, 98]⟩] 43) := ⟨_, rfl⟩
 have bX4 : Below w4.heap.size w4 X4 := by rw [hX4]; exact (Below.refl _ _).alloc (Nat.le_refl _) _
 have hw4 := HW4.out.trans (bX4.mono HW4.out.size)
 have hr : Row X4 X4.heap.size 2 (some ⟨w4.heap.size, 0, none⟩) 1 (awR.labels.flatMap labCells) := by
  rw [hX4]
  exact (row_newN w4 43 2 1 [.string ⟨#[97, 112, 112]⟩, .string ⟨#[119, 101, 98]⟩] rfl).more (by simp)
 have hh := vQHolds awQ awR X3.heap.size g (some ⟨w4.heap.size, 0, none⟩) 1 1 0 0 X4 (HL.out.below hw4) (HFA.out.below bX4) (by decide) (by decide) hr rfl (by decide) (by decide)
 rw [aw_holds] at hh
 have hfa := HFA.out.below bX4
 have HH := Lh hh; have HW := Lh hw4; have HF4 := Lh hfa
 clear bX4 hw4 hr hh hfa HFA HW4
 rw [← hX4]
 clear hX4
 refine HH.out.mono ?_
 rintro e w5 ⟨rfl, hb5⟩
 have hw5 := HW.out.trans (hb5.mono HW.out.size)
 have hh2 := vQHolds awQ awR2 X3.heap.size g none 0 0 0 0 w5 (HL.out.below hw5) (HF4.out.below hb5) (by decide) (by decide) Row.none_ rfl (by decide) (by decide)
 rw [aw_holds2] at hh2
 have HH2 := Lh hh2; have HW5 := Lh hw5
 clear hb5 hw5 hh2 HH HW HF4
 go_wp2_with fail
 refine HH2.out.mono ?_
 rintro e w6 ⟨rfl, hb6⟩
 have hw6 := HW5.out.trans (hb6.mono HW5.out.size)
 have HW6 := Lh hw6
 clear hb6 hw6 HH2 HW5
 go_wp2
 go_ret
 exact ⟨rfl, HW6.out⟩
end Go.Proofs.YtecejnilajbdpaaGreatDoor
