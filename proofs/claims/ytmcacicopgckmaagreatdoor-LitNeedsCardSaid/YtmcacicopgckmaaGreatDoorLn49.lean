import Derived.Test.YtmcacicopgckmaaGreatDoorLn41
import Derived.Test.YtmcacicopgckmaaGreatDoorLn45
import Derived.Test.YtmcacicopgckmaaGreatDoorLn46
import Derived.Test.YtmcacicopgckmaaGreatDoorLn21
import Derived.Test.YtmcacicopgckmaaGreatDoorLn48
/-! garnerref21: of -/
namespace Garner
open Go
end Garner
namespace Go.Proofs.YtmcacicopgckmaaGreatDoor
open Go.RowKit Garner
theorem Blk.app {w w' : World} {B g n sz : Nat} {e t : TypeId} {cs xs : List Value} {v : Value} (h : Blk w g t cs) (ho : w.ownsRow B e sz v n xs) (hne : e ≠ t) (hg : w.grownBy w' v.ownBlock) : Blk w' g t cs :=
  h.grown hg fun e1 => by
    have := own_blk ho h hne
    rw [← e1] at this
    simp at this
/-- what of answers: the texts of L, in a new row -/
def OfO (w : World) (L : List Bs) (e : Ending) (w' : World) : Prop := ∃ v, e = .returned v ∧ w'.ownsRow w.heap.size 9 1 v L.length (L.map strV) ∧ Below w.heap.size w w'
def OfC (W0 : World) (A : Option Addr) (c : Nat) (ns : List NodeP) (t : Re) : Prop :=
  ∀ (b : Nat) (w : World), AtN ns b (t.flat b) → Below W0.heap.size W0 w →
    Calls Tryz.prog 36 #[.slice A ns.length c, .int .i64 ((b + t.cnt - 1 : Nat) : Int)] w fun e w' => OfO w (litT t) e w'
section
variable {F : Nat → Prop} {W0 : World} {B0 : Nat} {A : Option Addr} {c : Nat} {ns : List NodeP}
/-- of's beginning: the node in a box; plain asked of it -/
theorem of_pre (hN : NodesIs F W0 B0 (.slice A ns.length c) ns) {nd : NodeP} {k : Nat} (hk : ns[k]? = some nd) {w : World} (hb : Below W0.heap.size W0 w) (hg : ∀ r, litN nd = some r → goodR r) :
    ∃ gN kA kc sA sc X, A = some ⟨gN, 0, none⟩ ∧ gN < W0.heap.size ∧ k < ns.length ∧
      w.cell? ⟨gN, k * 5, none⟩ = some (.int .i64 (nd.kind : Nat)) ∧ w.cell? ⟨gN, k * 5 + 1, none⟩ = some (.slice kA nd.kids.length kc) ∧ w.cell? ⟨gN, k * 5 + 2, none⟩ = some (.int .i64 (nd.mn : Nat)) ∧ w.cell? ⟨gN, k * 5 + 3, none⟩ = some (.int .i64 nd.mx) ∧ w.cell? ⟨gN, k * 5 + 4, none⟩ = some (.slice sA nd.set.length sc) ∧
      X = w.alloc (.cells #[.int .i64 (nd.kind : Nat), .slice kA nd.kids.length kc, .int .i64 (nd.mn : Nat), .int .i64 nd.mx, .slice sA nd.set.length sc] 94) ∧ Below w.heap.size w X ∧
      Blk X w.heap.size 94 [.int .i64 (nd.kind : Nat), .slice kA nd.kids.length kc, .int .i64 (nd.mn : Nat), .int .i64 nd.mx, .slice sA nd.set.length sc] ∧
      RowT w 3 kA nd.kids.length (nd.kids.map iv) ∧
      ∀ wx, Below w.heap.size w wx → Calls Tryz.prog 59 #[.agg #[.int .i64 (nd.kind : Nat), .slice kA nd.kids.length kc, .int .i64 (nd.mn : Nat), .int .i64 nd.mx, .slice sA nd.set.length sc]] wx fun e w' => e = .returned (str (plS nd)) ∧ Below wx.heap.size wx w' := by
  obtain ⟨gN, kA, kc, sA, sc2, rfl, hgN, c0, c1, c2, c3, c4, r1, r2⟩ := node_cells hN hk hb
  exact ⟨gN, kA, kc, sA, sc2, _, rfl, hgN, (List.getElem?_eq_some_iff.1 hk).1, c0, c1, c2, c3, c4, rfl, (Below.refl _ _).alloc (Nat.le_refl _) _, Blk.new w _ _, r1, fun wx hx => gPlain nd kA sA nd.kids.length kc sc2 nd.set.length rfl wx (r2.below hx) hg⟩
theorem litT_sub {t : Re} (h : litP t = none) (h2 : subL t = none) : litT t = [] := by rw [litT_none h, litSub_eq, h2]
theorem str_ne {x : Bs} {S : ByteArray} (hS : S = ⟨x.toArray⟩) (hx : x ≠ []) : S.toList.isEmpty = false := by
  rw [Lib.toList_data, hS]
  cases x with
  | nil => exact absurd rfl hx
  | cons _ _ => rfl
set_option maxRecDepth 100000 in
set_option maxHeartbeats 16000000 in
theorem of_leaf (hN : NodesIs F W0 B0 (.slice A ns.length c) ns) (t : Re) (hu : t.uni) (hs : subL t = none) : OfC W0 A c ns t := by
  intro b w hat hb
  obtain ⟨nd, hk, hlit, hsub⟩ := node_root hat
  rw [hs] at hsub
  obtain ⟨k, hk0⟩ : ∃ k, b + t.cnt - 1 = k := ⟨_, rfl⟩
  rw [hk0] at hk ⊢
  obtain ⟨gN, kA, kc, sA, sc2, X, rfl, hgN, hkl, d0, d1, d2, d3, d4, eX, hwX, bX, rK, hp⟩ := of_pre hN hk hb fun r hr => hu.lit (hlit ▸ hr)
  obtain ⟨N, hNl⟩ : ∃ N, ns.length = N := ⟨_, rfl⟩
  rw [hNl] at hkl ⊢
  have z1 : (k : Int) < (N : Int) := by omega
  obtain ⟨K, hK⟩ : ∃ K, nd.kind = K := ⟨_, rfl⟩
  obtain ⟨mn, hmn⟩ : ∃ mn, nd.mn = mn := ⟨_, rfl⟩
  obtain ⟨mx, hmx⟩ : ∃ mx, nd.mx = mx := ⟨_, rfl⟩
  obtain ⟨kl, hkl2⟩ : ∃ kl, nd.kids.length = kl := ⟨_, rfl⟩
  obtain ⟨Q, hQ⟩ : ∃ Q, nd.set.length = Q := ⟨_, rfl⟩
  rw [hK, hmn] at hsub
  rw [hK] at d0 eX bX hp
  rw [hkl2] at d1 eX bX hp
  rw [hmn] at d2 eX bX hp
  rw [hmx] at d3 eX bX hp
  rw [hQ] at d4 eX bX hp
  have x0 : X.cell? ⟨w.heap.size, 0, none⟩ = some (.int .i64 (K : Nat)) := bX.cell 0
  have x1 : X.cell? ⟨w.heap.size, 1, none⟩ = some (.slice kA kl kc) := bX.cell 1
  have x2 : X.cell? ⟨w.heap.size, 2, none⟩ = some (.int .i64 (mn : Nat)) := bX.cell 2
  have x3 : X.cell? ⟨w.heap.size, 3, none⟩ = some (.int .i64 mx) := bX.cell 3
  have x4 : X.cell? ⟨w.heap.size, 4, none⟩ = some (.slice sA Q sc2) := bX.cell 4
  have hp1 := hp X hwX
  have xc : ∀ wx, Below X.heap.size X wx → ∀ j, wx.cell? ⟨w.heap.size, j, none⟩ = X.cell? ⟨w.heap.size, j, none⟩ := fun wx h j => h.cell (p := ⟨w.heap.size, j, none⟩) bX.lt
  have HwX := Lib.hid hwX; have HP := Lib.hid hp; have HX := Lib.hid bX; have HSub := Lib.hid hsub; have HXC := Lib.hid xc
  cases hl : litP t with
  | some r =>
    have hpl : plS nd = encR r := plS_some (by rw [hlit]; exact hl)
    rw [hpl] at hp1
    obtain ⟨S, hS⟩ : ∃ S : ByteArray, S = ⟨(encR r).toArray⟩ := ⟨_, rfl⟩
    rw [show str (encR r) = .string S by rw [hS]] at hp1
    have hq := str_ne hS (encR_ne r)
    have hp2 : ∀ wx, Below w.heap.size w wx → Calls Tryz.prog 59 #[.agg #[.int .i64 (K : Nat), .slice kA kl kc, .int .i64 (mn : Nat), .int .i64 mx, .slice sA Q sc2]] wx fun e w' => e = .returned (.string S) ∧ Below wx.heap.size wx w' := fun wx h => by
      have := hp wx h
      rwa [hpl, show str (encR r) = .string S by rw [hS]] at this
    have HP1 := Lib.hid hp1; have HP2 := Lib.hid hp2; have HS := Lib.hid hS; have HL := Lib.hid (litT_some hl)
    clear hp hp1 hp2 hpl hS hl hwX bX rK hK hmn hmx hkl2 hQ hNl hk hat hb hsub hlit hu hs xc
    go_enter Tryz.func36, Tryz.ntmps36
    go_upto_region 2 with fail
    rw [← eX]
    clear eX d0 d1 d2 d3 d4
    go_wp2_with fail
    refine HP1.out.mono ?_
    rintro e w2 ⟨rfl, hb2⟩
    have y0 := HXC.out w2 hb2
    have y1 : w2.cell? ⟨w.heap.size, 0, none⟩ = some (.int .i64 (K : Nat)) := (y0 0).trans x0
    have y2 : w2.cell? ⟨w.heap.size, 1, none⟩ = some (.slice kA kl kc) := (y0 1).trans x1
    have y3 : w2.cell? ⟨w.heap.size, 2, none⟩ = some (.int .i64 (mn : Nat)) := (y0 2).trans x2
    have y4 : w2.cell? ⟨w.heap.size, 3, none⟩ = some (.int .i64 mx) := (y0 3).trans x3
    have y5 : w2.cell? ⟨w.heap.size, 4, none⟩ = some (.slice sA Q sc2) := (y0 4).trans x4
    have hw2 := HwX.out.trans (hb2.mono HwX.out.size)
    have HP3 := Lib.hid (HP2.out w2 hw2); have HW2 := Lib.hid hw2
    clear hb2 y0 hw2 HP1
    go_wp2_with fail
    refine HP3.out.mono ?_
    rintro e w3 ⟨rfl, hb3⟩
    have hw3 := HW2.out.trans (hb3.mono HW2.out.size)
    have HW3 := Lib.hid hw3
    clear hb3 hw3 y1 y2 y3 y4 y5
    go_wp2
    go_ret
    refine ⟨_, rfl, ?_, HW3.out.trans ((Below.refl _ _).alloc HW3.out.size _)⟩
    rw [HL.out]
    have h9 : Blk (w3.alloc (.cells #[.string S] 9)) w3.heap.size 9 [.string S] := Blk.new w3 _ [.string S]
    have h8 := h9.own (B := w.heap.size) (n := 1) HW3.out.size rfl (by unfold maxLen; omega)
    simpa [HS.out] using h8
  | none =>
    have hpl : plS nd = [] := plS_none (by rw [hlit]; exact hl)
    rw [hpl] at hp1
    have HP1 := Lib.hid hp1; have HL := Lib.hid (litT_sub hl hs)
    obtain ⟨hk3, hk5⟩ := hsub
    clear hp hp1 hpl hl hwX bX rK hK hmn hmx hkl2 hQ hNl hk hat hb hlit hu hs HP xc
    have z3 : ((K : Int) != 3) = true := by simp; omega
    have z3' : ¬ (K : Int) = 3 := by omega
    have hfin : ∀ w3, Below w.heap.size w w3 → OfO w (litT t) (.returned (.slice none 0 0)) w3 := fun w3 h => ⟨_, rfl, by rw [HL.out]; exact World.ownsRow_nil _ _ _ _, h⟩
    have HFin := Lib.hid hfin
    clear hfin
    by_cases h5 : K = 5
    · subst h5
      obtain rfl : mn = 0 := hk5 rfl
      have eX' : X = w.alloc (.cells #[.int .i64 5, .slice kA kl kc, .int .i64 0, .int .i64 mx, .slice sA Q sc2] 94) := eX
      clear hk5 hk3 eX
      go_enter Tryz.func36, Tryz.ntmps36
      go_upto_region 2 with fail
      rw [← eX']
      clear eX' d0 d1 d2 d3 d4
      go_wp2_with fail
      refine HP1.out.mono ?_
      rintro e w2 ⟨rfl, hb2⟩
      have y0 := HXC.out w2 hb2
      have y1 : w2.cell? ⟨w.heap.size, 0, none⟩ = some (.int .i64 5) := (y0 0).trans x0
      have y3 : w2.cell? ⟨w.heap.size, 2, none⟩ = some (.int .i64 0) := (y0 2).trans x2
      have HW2 := Lib.hid (HwX.out.trans (hb2.mono HwX.out.size))
      clear hb2 y0 HP1
      go_wp2
      go_ret
      exact HFin.out _ HW2.out
    · have z5 : ((K : Int) == 5) = false := by simp; omega
      have z5' : ¬ (K : Int) = 5 := by omega
      clear hk5 h5 hk3
      go_enter Tryz.func36, Tryz.ntmps36
      go_upto_region 2 with fail
      rw [← eX]
      clear eX d0 d1 d2 d3 d4
      go_wp2_with fail
      refine HP1.out.mono ?_
      rintro e w2 ⟨rfl, hb2⟩
      have y0 := HXC.out w2 hb2
      have y1 : w2.cell? ⟨w.heap.size, 0, none⟩ = some (.int .i64 (K : Nat)) := (y0 0).trans x0
      have HW2 := Lib.hid (HwX.out.trans (hb2.mono HwX.out.size))
      clear hb2 y0 HP1
      go_wp2
      go_ret
      exact HFin.out _ HW2.out
end
end Go.Proofs.YtmcacicopgckmaaGreatDoor

/-! garnerref21: of at repetitions and rows -/
namespace Garner
open Go
def mxW : Option Nat → Int
  | none => -1
  | some m => ((m : Nat) : Int)
/-- a plain tree's text -/
def plT (t : Re) : Bs := match litP t with
  | some r => encR r
  | none => []
theorem plT_some {t : Re} {r : Nat} (h : litP t = some r) : plT t = encR r := by unfold plT; rw [h]
theorem plT_none {t : Re} (h : litP t = none) : plT t = [] := by unfold plT; rw [h]
theorem litRow_end (run : Bs) : litRow [] run = addL run := by rw [litRow]
theorem addL_ne {run : Bs} (h : run ≠ []) : addL run = [run] := by unfold addL; rw [if_neg h]
/-- a row from a place at which no plain tree stands -/
theorem litRow_at {l : List Re} {p : Nat} (h : p = l.length ∨ ∃ t, l[p]? = some t ∧ litP t = none) {run : Bs} (hr : run ≠ []) : litRow (l.drop p) run = [run] ++ litRow (l.drop p) [] := by
  rcases h with h | ⟨t, ht, hl⟩
  · rw [List.drop_eq_nil_of_le (by omega), litRow_end, litRow_end, addL_ne hr]
    simp [addL]
  · rw [litRow_drop ht, litRow_drop ht, hl]
    simp [addL, hr]
end Garner
namespace Go.Proofs.YtmcacicopgckmaaGreatDoor
open Go.RowKit Garner
section
variable {F : Nat → Prop} {W0 : World} {B0 : Nat} {A : Option Addr} {c : Nat} {ns : List NodeP}
set_option maxRecDepth 100000 in
set_option maxHeartbeats 16000000 in
theorem of_rep (hN : NodesIs F W0 B0 (.slice A ns.length c) ns) (kt : Re) (mn : Nat) (mx : Option Nat) (hm : 0 < mn) (ih : OfC W0 A c ns kt) : OfC W0 A c ns (.rep kt mn mx) := by
  intro b w hat hb
  have hk := last_at (t := .rep kt mn mx) (l := kt.flat b) rfl (by rw [flat_len]; rfl) hat
  obtain ⟨k, hk0⟩ : ∃ k, b + (Re.rep kt mn mx).cnt - 1 = k := ⟨_, rfl⟩
  rw [hk0] at hk ⊢
  have hk2 : ns[k]? = some ⟨5, [b + kt.cnt - 1], mn, mxW mx, []⟩ := by cases mx <;> exact hk
  obtain ⟨mv, hmv⟩ : ∃ mv : Int, mxW mx = mv := ⟨_, rfl⟩
  rw [hmv] at hk2
  obtain ⟨gN, kA, kc, sA, sc2, X, rfl, hgN, hkl, d0, d1, d2, d3, d4, eX, hwX, bX, rK, hp⟩ := of_pre hN hk2 hb fun r hr => by cases hr
  obtain ⟨N, hNl⟩ : ∃ N, ns.length = N := ⟨_, rfl⟩
  have hrec := fun w h1 => ih b w (AtN.left (m := [_]) hat) h1
  rw [hNl] at hkl ⊢
  rw [hNl] at hrec
  have z1 : (k : Int) < (N : Int) := by omega
  obtain ⟨r, hr⟩ : ∃ r, b + kt.cnt - 1 = r := ⟨_, rfl⟩
  rw [hr] at hrec
  obtain ⟨bk, ok, rfl, ck0⟩ := rK.at_ (k := 0) (u := iv (b + kt.cnt - 1)) rfl
  rw [hr] at ck0
  have ckid : w.cell? ⟨bk, ok, none⟩ = some (.int .i64 (r : Nat)) := ck0
  have hbk : bk < w.heap.size := by
    obtain ⟨b', o', cs, z, e, hh, -⟩ := rK.2 (by show 0 < 1; omega)
    cases e
    exact (Array.getElem?_eq_some_iff.1 hh).1
  have e0 : w.cell? ⟨gN, k * 5, none⟩ = some (.int .i64 5) := d0
  have e1 : w.cell? ⟨gN, k * 5 + 1, none⟩ = some (.slice (some ⟨bk, ok, none⟩) 1 kc) := d1
  have e2 : w.cell? ⟨gN, k * 5 + 2, none⟩ = some (.int .i64 (mn : Nat)) := d2
  have e3 : w.cell? ⟨gN, k * 5 + 3, none⟩ = some (.int .i64 mv) := d3
  have e4 : w.cell? ⟨gN, k * 5 + 4, none⟩ = some (.slice sA 0 sc2) := d4
  have hX : X = w.alloc (.cells #[.int .i64 5, .slice (some ⟨bk, ok, none⟩) 1 kc, .int .i64 (mn : Nat), .int .i64 mv, .slice sA 0 sc2] 94) := eX
  have x0 : X.cell? ⟨w.heap.size, 0, none⟩ = some (.int .i64 5) := bX.cell 0
  have x1 : X.cell? ⟨w.heap.size, 1, none⟩ = some (.slice (some ⟨bk, ok, none⟩) 1 kc) := bX.cell 1
  have x2 : X.cell? ⟨w.heap.size, 2, none⟩ = some (.int .i64 (mn : Nat)) := bX.cell 2
  have x3 : X.cell? ⟨w.heap.size, 3, none⟩ = some (.int .i64 mv) := bX.cell 3
  have x4 : X.cell? ⟨w.heap.size, 4, none⟩ = some (.slice sA 0 sc2) := bX.cell 4
  have hp1 : Calls Tryz.prog 59 #[.agg #[.int .i64 5, .slice (some ⟨bk, ok, none⟩) 1 kc, .int .i64 (mn : Nat), .int .i64 mv, .slice sA 0 sc2]] X fun e w' => e = .returned (.string ⟨#[]⟩) ∧ Below X.heap.size X w' := hp X hwX
  have hL : litT (.rep kt mn mx) = litT kt := by rw [rep_lit, if_pos hm]
  have xc : ∀ wx, Below X.heap.size X wx → ∀ j, wx.cell? ⟨w.heap.size, j, none⟩ = X.cell? ⟨w.heap.size, j, none⟩ := fun wx h j => h.cell (p := ⟨w.heap.size, j, none⟩) bX.lt
  have hm2 : (0 : Int) < (mn : Int) := by omega
  have hm3 : (1 : Int) ≤ (mn : Int) := by omega
  have HwX := Lib.hid hwX; have HP1 := Lib.hid hp1; have HXC := Lib.hid xc; have HL := Lib.hid hL; have HRec := Lib.hid hrec; have HB := Lib.hid hb; have Hbk := Lib.hid hbk; have CK := Lib.hid ckid
  clear hwX hp hp1 xc hL hrec hb hbk d0 d1 d2 d3 d4 eX bX rK ck0 ckid hk hk2 hat hk0 hNl hr hmv ih hN
  go_enter Tryz.func36, Tryz.ntmps36
  go_upto_region 2 with fail
  rw [← hX]
  clear hX e0 e1 e2 e3 e4
  go_wp2_with fail
  refine HP1.out.mono ?_
  rintro e w2 ⟨rfl, hb2⟩
  have y0 := HXC.out w2 hb2
  have y1 : w2.cell? ⟨w.heap.size, 0, none⟩ = some (.int .i64 5) := (y0 0).trans x0
  have y2 : w2.cell? ⟨w.heap.size, 1, none⟩ = some (.slice (some ⟨bk, ok, none⟩) 1 kc) := (y0 1).trans x1
  have y3 : w2.cell? ⟨w.heap.size, 2, none⟩ = some (.int .i64 (mn : Nat)) := (y0 2).trans x2
  have hw2 := HwX.out.trans (hb2.mono HwX.out.size)
  have y6 : w2.cell? ⟨bk, ok, none⟩ = some (.int .i64 (r : Nat)) := by rw [hw2.cell (p := ⟨bk, ok, none⟩) Hbk.out]; exact CK.out
  have HR2 := Lib.hid (HRec.out w2 (HB.out.trans (hw2.mono HB.out.size))); have HW2 := Lib.hid hw2
  clear hb2 y0 hw2 HP1
  go_wp2_with fail
  refine HR2.out.mono ?_
  rintro e w3 ⟨v, rfl, o3, b3⟩
  have O3 := Lib.hid (own_mono o3 HW2.out.size); have B3 := Lib.hid (HW2.out.trans (b3.mono HW2.out.size))
  clear o3 b3 y1 y2 y3 y6
  go_wp2
  go_ret
  exact ⟨_, rfl, by rw [HL.out]; exact O3.out, B3.out⟩
set_option maxRecDepth 100000 in
set_option maxHeartbeats 32000000 in
theorem of_seq (hN : NodesIs F W0 B0 (.slice A ns.length c) ns) (l : List Re) (hu : unis l) (hcn : cnts l ≤ 20000) (ih : ∀ t ∈ l, OfC W0 A c ns t) : OfC W0 A c ns (.seq l) := by
  intro b w hat hb
  have hk := last_at (t := .seq l) (l := flats b l) rfl (by rw [flats_len]; rfl) hat
  have hat2 : AtN ns b (flats b l) := AtN.left (m := [_]) hat
  obtain ⟨k, hk0⟩ : ∃ k, b + (Re.seq l).cnt - 1 = k := ⟨_, rfl⟩
  rw [hk0] at hk ⊢
  obtain ⟨gN, kA, kc, sA, sc2, X, rfl, hgN, hkl, d0, d1, d2, d3, d4, eX, hwX, bX0, rK, hp⟩ := of_pre hN hk hb fun r hr => by cases hr
  obtain ⟨N, hNl⟩ : ∃ N, ns.length = N := ⟨_, rfl⟩
  obtain ⟨Q, hQ⟩ : ∃ Q, l.length = Q := ⟨_, rfl⟩
  have hQc := len_cnts l
  rw [hNl] at hkl ⊢
  have z1 : (k : Int) < (N : Int) := by omega
  have hkids : RowT w 3 kA Q ((roots b l).map iv) := by rw [← hQ, ← roots_length l b]; exact rK
  have bX : Blk X w.heap.size 94 [.int .i64 3, .slice kA Q kc, .int .i64 0, .int .i64 0, .slice sA 0 sc2] := by rw [← hQ, ← roots_length l b]; exact bX0
  have e0 : w.cell? ⟨gN, k * 5, none⟩ = some (.int .i64 3) := d0
  have e1 : w.cell? ⟨gN, k * 5 + 1, none⟩ = some (.slice kA Q kc) := by rw [← hQ, ← roots_length l b]; exact d1
  have e2 : w.cell? ⟨gN, k * 5 + 2, none⟩ = some (.int .i64 0) := d2
  have e3 : w.cell? ⟨gN, k * 5 + 3, none⟩ = some (.int .i64 0) := d3
  have e4 : w.cell? ⟨gN, k * 5 + 4, none⟩ = some (.slice sA 0 sc2) := d4
  have hX : X = w.alloc (.cells #[.int .i64 3, .slice kA Q kc, .int .i64 0, .int .i64 0, .slice sA 0 sc2] 94) := by rw [← hQ, ← roots_length l b]; exact eX
  have x0 : X.cell? ⟨w.heap.size, 0, none⟩ = some (.int .i64 3) := bX.cell 0
  have x1 : X.cell? ⟨w.heap.size, 1, none⟩ = some (.slice kA Q kc) := bX.cell 1
  have x2 : X.cell? ⟨w.heap.size, 2, none⟩ = some (.int .i64 0) := bX.cell 2
  have x3 : X.cell? ⟨w.heap.size, 3, none⟩ = some (.int .i64 0) := bX.cell 3
  have x4 : X.cell? ⟨w.heap.size, 4, none⟩ = some (.slice sA 0 sc2) := bX.cell 4
  have hp1 : Calls Tryz.prog 59 #[.agg #[.int .i64 3, .slice kA Q kc, .int .i64 0, .int .i64 0, .slice sA 0 sc2]] X fun e w' => e = .returned (.string ⟨#[]⟩) ∧ Below X.heap.size X w' := by
    rw [← hQ, ← roots_length l b]; exact hp X hwX
  obtain ⟨TOT, hTOT⟩ : ∃ TOT, litRow l [] = TOT := ⟨_, rfl⟩
  have hL : litT (.seq l) = TOT := by rw [litT_none (litP_seq l), litSub]; exact hTOT
  have hTl : TOT.length ≤ 40001 := by rw [← hTOT]; have := litRow_len l []; omega
  -- a kid: its number, its node, what plain says of it
  have hkid : ∀ (q : Nat) (t : Re), l[q]? = some t → ∃ (r : Nat) (nd : NodeP) (kA2 : Option Addr) (kc2 : Nat) (sA2 : Option Addr) (sc3 : Nat), (roots b l)[q]? = some r ∧ r < N ∧ plS nd = plT t ∧
      (∀ wx, Below w.heap.size w wx → wx.cell? ⟨gN, r * 5, none⟩ = some (.int .i64 (nd.kind : Nat)) ∧ wx.cell? ⟨gN, r * 5 + 1, none⟩ = some (.slice kA2 nd.kids.length kc2) ∧ wx.cell? ⟨gN, r * 5 + 2, none⟩ = some (.int .i64 (nd.mn : Nat)) ∧ wx.cell? ⟨gN, r * 5 + 3, none⟩ = some (.int .i64 nd.mx) ∧ wx.cell? ⟨gN, r * 5 + 4, none⟩ = some (.slice sA2 nd.set.length sc3) ∧
        Calls Tryz.prog 59 #[.agg #[.int .i64 (nd.kind : Nat), .slice kA2 nd.kids.length kc2, .int .i64 (nd.mn : Nat), .int .i64 nd.mx, .slice sA2 nd.set.length sc3]] wx fun e w' => e = .returned (str (plS nd)) ∧ Below wx.heap.size wx w') ∧
      ∀ wx, Below w.heap.size w wx → Calls Tryz.prog 36 #[.slice (some ⟨gN, 0, none⟩) N c, .int .i64 (r : Nat)] wx fun e w' => OfO wx (litT t) e w' := by
    intro q t ht
    have hroot := kid_root ht b
    obtain ⟨nd, hnd, hlit, -⟩ := node_root (kid_nodes ht hat2)
    have hut := unis_at hu (List.mem_of_getElem? ht)
    obtain ⟨gN2, kA2, kc2, sA2, sc3, e, hg2, c0, c1, c2, c3, c4, -, rs⟩ := node_cells hN hnd hb
    cases e
    have hcell : ∀ wx j, Below w.heap.size w wx → wx.cell? ⟨gN, j, none⟩ = w.cell? ⟨gN, j, none⟩ := fun wx j h => h.cell (p := ⟨gN, j, none⟩) (by have := hb.size; show gN < _; omega)
    refine ⟨_, nd, kA2, kc2, sA2, sc3, hroot, by rw [← hNl]; exact (List.getElem?_eq_some_iff.1 hnd).1, ?_, fun wx h => ⟨by rw [hcell wx _ h]; exact c0, by rw [hcell wx _ h]; exact c1, by rw [hcell wx _ h]; exact c2, by rw [hcell wx _ h]; exact c3, by rw [hcell wx _ h]; exact c4, gPlain nd kA2 sA2 nd.kids.length kc2 sc3 nd.set.length rfl wx (rs.below h) fun r hr => hut.lit (hlit ▸ hr)⟩, fun wx h => ?_⟩
    · unfold plS plT; rw [hlit]; cases litP t <;> rfl
    · have := ih t (List.mem_of_getElem? ht) _ wx (kid_nodes ht hat2) (hb.trans (h.mono hb.size))
      rwa [hNl] at this
  have HwX := Lib.hid hwX; have HP1 := Lib.hid hp1; have HL := Lib.hid hL; have HB := Lib.hid hb; have HKids := Lib.hid hkids; have HKid := Lib.hid hkid; have BX := Lib.hid bX; have HQ := Lib.hid hQ; have HT := Lib.hid hTOT; have HTl := Lib.hid hTl
  have hQ9 : Q ≤ 20000 := by omega
  clear hwX hp hp1 hL hb d0 d1 d2 d3 d4 eX bX0 bX rK hkids hkid hk hat hk0 hNl ih hN hQ hTOT hTl hat2 hu hcn hQc
  go_enter Tryz.func36, Tryz.ntmps36
  go_upto_region 2 with fail
  rw [← hX]
  clear hX e0 e1 e2 e3 e4
  go_wp2_with fail
  refine HP1.out.mono ?_
  rintro e w2 ⟨rfl, hb2⟩
  have bX2 := BX.out.below hb2 BX.out.lt
  have y1 : w2.cell? ⟨w.heap.size, 0, none⟩ = some (.int .i64 3) := bX2.cell 0
  have y2 : w2.cell? ⟨w.heap.size, 1, none⟩ = some (.slice kA Q kc) := bX2.cell 1
  have y3 : w2.cell? ⟨w.heap.size, 2, none⟩ = some (.int .i64 0) := bX2.cell 2
  have HW2 := Lib.hid (HwX.out.trans (hb2.mono HwX.out.size)); have BX2 := Lib.hid bX2
  clear hb2 HP1 x0 x1 x2 x3 x4 bX2
  go_wp2
  go_loopw [6, 7] (fun v i wr => ∃ (j : Nat) (out : List Bs), j ≤ Q ∧ i = .int .i64 j ∧ Hid (wr.ownsRow w.heap.size 9 1 v out.length (out.map strV)) ∧ Hid (Blk wr w.heap.size 94 [.int .i64 3, .slice kA Q kc, .int .i64 0, .int .i64 0, .slice sA 0 sc2]) ∧ Hid (Below w.heap.size w wr) ∧ Hid (out ++ litRow (l.drop j) [] = TOT)) (fun _ i _ => Q - (intOf i).toNat)
  case atStart => exact ⟨0, [], Nat.zero_le _, rfl, Lib.hid (World.ownsRow_nil _ _ _ _), BX2, HW2, HT⟩
  case round =>
    obtain ⟨j, out, hj, rfl, hO, hbX, hbw, heq⟩ := hrel
    obtain ⟨wo, rfl⟩ : ∃ wo : World, wo = wr := ⟨_, rfl⟩
    obtain ⟨OA, oc, rfl, -⟩ := own_form hO.out
    obtain ⟨on, hon⟩ : ∃ on, out.length = on := ⟨_, rfl⟩
    have hon9 : on ≤ 40001 := by
      have h1 := congrArg List.length heq.out
      have h2 := HTl.out
      rw [List.length_append] at h1; omega
    rw [hon] at hO ⊢
    have Hon := Lib.hid hon
    clear hon y1 y2 y3
    have v1 : wo.cell? ⟨w.heap.size, 1, none⟩ = some (.slice kA Q kc) := hbX.out.cell 1
    by_cases hlt : j < Q
    · have z2 : (j : Int) < (Q : Int) := by omega
      go_wp2
      go_loopw [7, 8] (fun i v wr => ∃ (p : Nat) (rn : Bs) (S : ByteArray), j ≤ p ∧ p ≤ Q ∧ i = .int .i64 p ∧ v = .string S ∧ rn.length ≤ 4 * p ∧ Hid (S = ⟨rn.toArray⟩) ∧ Hid (rn = [] ↔ p = j) ∧ Hid (litRow (l.drop j) [] = litRow (l.drop p) rn) ∧ Hid (Below wo.heap.size wo wr)) (fun i _ _ => Q - (intOf i).toNat)
      case atStart => exact ⟨j, [], ⟨#[]⟩, Nat.le_refl _, hj, rfl, rfl, Nat.zero_le _, Lib.hid rfl, Lib.hid ⟨fun _ => rfl, fun _ => rfl⟩, Lib.hid rfl, Lib.hid (Below.refl _ _)⟩
      case round =>
        obtain ⟨p, rn, S, hjp, hpQ, rfl, rfl, hrl, hS, hrn, hlr, hbi⟩ := hrel
        obtain ⟨wi, rfl⟩ : ∃ wi : World, wi = wr := ⟨_, rfl⟩
        have hbXi := hbX.out.below hbi.out hbX.out.lt
        have hwi := hbw.out.trans (hbi.out.mono hbw.out.size)
        have u1 : wi.cell? ⟨w.heap.size, 1, none⟩ = some (.slice kA Q kc) := hbXi.cell 1
        have wp1 : IntKind.i64.wrap ((p : Int) + 1) = ((p + 1 : Nat) : Int) := by rw [IntKind.wrap_i64]; omega
        have hfinish : ∀ wz, Below wi.heap.size wi wz → rn ≠ [] → (p = Q ∨ ∃ t, l[p]? = some t ∧ litP t = none) → Hid (wz.ownsRow w.heap.size 9 1 (.slice OA on oc) on (out.map strV)) ∧ Hid (Blk wz w.heap.size 94 [.int .i64 3, .slice kA Q kc, .int .i64 0, .int .i64 0, .slice sA 0 sc2]) ∧ Hid (Below w.heap.size w wz) ∧ Hid ((out ++ [rn]) ++ litRow (l.drop p) [] = TOT) := fun wz hz hne hat => by
          refine ⟨Lib.hid (own_below (own_below hO.out hbi.out) hz), Lib.hid (hbXi.below hz hbXi.lt), Lib.hid (hwi.trans (hz.mono hwi.size)), Lib.hid ?_⟩
          rw [← heq.out, hlr.out, litRow_at (hat.imp (fun h => by rw [HQ.out]; exact h) id) hne, List.append_assoc]
        have HFin := Lib.hid hfinish
        clear hfinish
        by_cases hlp : p < Q
        · have z3 : (p : Int) < (Q : Int) := by omega
          obtain ⟨t, ht⟩ : ∃ t, l[p]? = some t := ⟨_, List.getElem?_eq_getElem (by rw [HQ.out]; exact hlp)⟩
          obtain ⟨r, nd, kA2, kc2, sA2, sc3, hroot, hrN, hpl, hnd, hof⟩ := HKid.out p t ht
          obtain ⟨bk, ok, rfl, ck0⟩ := (HKids.out.below hwi).at_ (k := p) (u := iv r) (by rw [List.getElem?_map, hroot]; rfl)
          have ckid : wi.cell? ⟨bk, ok + p, none⟩ = some (.int .i64 (r : Nat)) := ck0
          have z4 : (r : Int) < (N : Int) := by omega
          obtain ⟨n0, n1, n2, n3, n4, hpc⟩ := hnd wi hwi
          have hdr := litRow_drop ht rn
          cases hl : litP t with
          | some x =>
            rw [plT_some hl] at hpl
            rw [hl] at hdr
            obtain ⟨EN, hEN⟩ : ∃ EN : ByteArray, EN = ⟨(encR x).toArray⟩ := ⟨_, rfl⟩
            have hstr : str (plS nd) = .string EN := by rw [hpl, hEN]
            rw [hstr] at hpc
            have hq := str_ne hEN (encR_ne x)
            have hxl := encR_len x
            obtain ⟨C, hC, hC2, hC3⟩ := cat2 hS.out hEN
            have hSs : S.size = rn.length := by rw [hS.out]; exact str_size rn
            have hEs : EN.size = (encR x).length := by rw [hEN]; exact str_size _
            have bz1 : S.size ≤ 100000 := by omega
            have bz2 : EN.size ≤ 4 := by omega
            have hnl : (rn ++ encR x).length ≤ 4 * (p + 1) := by rw [List.length_append]; omega
            have hne2 : (rn ++ encR x = []) ↔ p + 1 = j := ⟨fun h => absurd (List.append_eq_nil_iff.1 h).2 (encR_ne x), fun h => by omega⟩
            have HPc := Lib.hid hpc; have HC2 := Lib.hid hC2; have HNe2 := Lib.hid hne2; have HDr := Lib.hid (hlr.out.trans hdr); have HWi := Lib.hid hwi; have HNd := Lib.hid hnd; have HStr := Lib.hid hstr; have HNl := Lib.hid hnl; have HBXi := Lib.hid hbXi; have CK := Lib.hid ckid; have HRK := Lib.hid (HKids.out.below hwi); have HRoot := Lib.hid hroot
            clear hpc hC2 hne2 hdr hwi hnd hof hroot ck0 ht hl hpl hstr hnl hSs hEs hxl hC3 hEN hrl hbXi
            go_wp2_with fail
            refine HPc.out.mono ?_
            rintro e w5 ⟨rfl, hb5⟩
            have hw5 := HWi.out.trans (hb5.mono HWi.out.size)
            obtain ⟨m0, m1, m2, m3, m4, hpc5⟩ := HNd.out w5 hw5
            rw [HStr.out] at hpc5
            have u5 : w5.cell? ⟨w.heap.size, 1, none⟩ = some (.slice (some ⟨bk, ok, none⟩) Q kc) := (HBXi.out.below hb5 HBXi.out.lt).cell 1
            obtain ⟨b5', o5', e5, ck5'⟩ := (HRK.out.below hb5).at_ (k := p) (u := iv r) (by rw [List.getElem?_map, HRoot.out]; rfl)
            cases e5
            have ck5 : w5.cell? ⟨bk, ok + p, none⟩ = some (.int .i64 (r : Nat)) := ck5'
            have HP5 := Lib.hid hpc5; have HB5 := Lib.hid (hbi.out.trans (hb5.mono hbi.out.size))
            clear hpc5 hb5 hw5 ck5' n0 n1 n2 n3 n4 ckid u1
            go_wp2_with fail
            refine HP5.out.mono ?_
            rintro e w6 ⟨rfl, hb6⟩
            have HB6 := Lib.hid (HB5.out.trans (hb6.mono HB5.out.size))
            clear hb6 m0 m1 m2 m3 m4 ck5 u5
            go_wp2
            go_roundw
            case rel => exact ⟨p + 1, rn ++ encR x, C, by omega, by omega, by first | rfl | go_num, rfl, HNl.out, HC2, HNe2, HDr, HB6⟩
            case measure => simp [intOf]; omega
          | none =>
            rw [plT_none hl] at hpl
            rw [hl] at hdr
            have hstr : str (plS nd) = .string ⟨#[]⟩ := by rw [hpl]
            rw [hstr] at hpc
            have HPc := Lib.hid hpc; have HWi := Lib.hid hwi; have HNd := Lib.hid hnd; have HOf := Lib.hid hof; have HBXi := Lib.hid hbXi; have HRK := Lib.hid (HKids.out.below hwi); have HRoot := Lib.hid hroot; have HDr := Lib.hid hdr; have HLt := Lib.hid (litT_none hl); have HTt := Lib.hid (show ∃ t, l[p]? = some t ∧ litP t = none from ⟨t, ht, hl⟩)
            clear hpc hwi hnd hof hroot ck0 ht hl hpl hstr hrl hbXi hdr
            go_wp2_with fail
            refine HPc.out.mono ?_
            rintro e w5 ⟨rfl, hb5⟩
            have hw5 := HWi.out.trans (hb5.mono HWi.out.size)
            by_cases hre : rn = []
            · obtain rfl : p = j := hrn.out.1 hre
              have hS0 : S = ⟨#[]⟩ := by rw [hS.out, hre]
              subst hS0
              have u5 : w5.cell? ⟨w.heap.size, 1, none⟩ = some (.slice (some ⟨bk, ok, none⟩) Q kc) := (HBXi.out.below hb5 HBXi.out.lt).cell 1
              obtain ⟨b5', o5', e5, ck5'⟩ := (HRK.out.below hb5).at_ (k := p) (u := iv r) (by rw [List.getElem?_map, HRoot.out]; rfl)
              cases e5
              have ck5 : w5.cell? ⟨bk, ok + p, none⟩ = some (.int .i64 (r : Nat)) := ck5'
              have HO5 := Lib.hid (HOf.out w5 hw5); have HB5 := Lib.hid hw5; have O5 := Lib.hid (own_below (own_below hO.out hbi.out) hb5); have BX5 := Lib.hid (HBXi.out.below hb5 HBXi.out.lt)
              have heq2 : (out ++ litT t) ++ litRow (l.drop (p + 1)) [] = TOT := by
                rw [← heq.out, hlr.out, HDr.out, HLt.out, hre]
                simp [addL]
              have hn2 : (out ++ litT t).length ≤ 40001 := by
                have h1 := congrArg List.length heq2
                have h2 := HTl.out
                rw [List.length_append] at h1; omega
              have HEq2 := Lib.hid heq2; have HN2 := Lib.hid hn2
              clear hb5 hw5 ck5' n0 n1 n2 n3 n4 ckid u1 heq2 hn2 hre
              go_wp2_with fail
              refine HO5.out.mono ?_
              rintro e w6 ⟨v6, rfl, o6, b6⟩
              obtain ⟨A6, c6, rfl, -⟩ := own_form o6
              obtain ⟨n6, hn6⟩ : ∃ n6, (litT t).length = n6 := ⟨_, rfl⟩
              have hn69 : on + n6 ≤ 40001 := by have := HN2.out; rw [List.length_append, Hon.out, hn6] at this; exact this
              rw [hn6] at o6 ⊢
              have HO6 := Lib.hid (own_below O5.out b6); have HR6 := Lib.hid (Row.of_own o6); have BX6 := Lib.hid (BX5.out.below b6 BX5.out.lt); have B6 := Lib.hid (HB5.out.trans (b6.mono HB5.out.size)); have Hn6 := Lib.hid hn6
              have hs6 := B6.out.size
              clear o6 b6 hn6 ck5 u5
              go_wp2_with (at_builtin; refine wpList_app _ rfl strE rfl rfl HO6.out rfl HR6.out (strV_one _) (by omega) hs6 ?_; intro v8 w8 own8 hg8 hb8 hx8)
              have hO8 : Hid (w8.ownsRow w.heap.size 9 1 v8 (out ++ litT t).length ((out ++ litT t).map strV)) := Lib.hid (by rw [List.length_append, Hon.out, Hn6.out, List.map_append]; exact own8)
              have hX8 := Lib.hid (BX6.out.app HO6.out (by decide) hg8); have hB8 := Lib.hid (B6.out.trans hb8)
              clear own8 hg8 hb8 hx8
              go_wp2
              go_roundw
              case rel => exact ⟨p + 1, out ++ litT t, by omega, by first | rfl | go_num, hO8, hX8, hB8, HEq2⟩
              case measure => simp [intOf]; omega
            · obtain ⟨q1, q2, q3, q4⟩ := HFin.out w5 hb5 hre (.inr HTt.out)
              have hq := str_ne hS.out hre
              have hpj : p ≠ j := fun h => hre (hrn.out.2 h)
              have hs5 := hw5.size
              have HS := Lib.hid hS.out
              clear hb5 hw5 n0 n1 n2 n3 n4 ckid u1 hre hrn hS HFin
              go_wp2_with (at_builtin; refine wpList_app _ rfl strE rfl rfl (q1.out.alloc _) rfl (row_new w5 _ [_]) (by simp [Value.oneCell']) (by first | omega | (simp; omega)) (by simp; omega) ?_; intro v8 w8 own8 hg8 hb8 hx8)
              have hO8 : Hid (w8.ownsRow w.heap.size 9 1 v8 (out ++ [rn]).length ((out ++ [rn]).map strV)) := Lib.hid (by
                rw [List.length_append, Hon.out, List.map_append]
                rw [HS.out] at own8
                exact own8)
              have hX8 := Lib.hid ((q2.out.alloc (.cells #[.string S] 9)).app (q1.out.alloc _) (by decide) hg8); have hB8 := Lib.hid ((q3.out.alloc hs5 (.cells #[.string S] 9)).trans hb8)
              clear own8 hg8 hb8 hx8
              go_wp2
              go_roundw
              case rel => exact ⟨p, out ++ [rn], by omega, by first | rfl | go_num, hO8, hX8, hB8, q4⟩
              case measure => simp [intOf]; omega
        · obtain rfl : p = Q := by omega
          have z3 : ¬ (p : Int) < (p : Int) := by omega
          have hre : rn ≠ [] := fun h => by have := hrn.out.1 h; omega
          obtain ⟨q1, q2, q3, q4⟩ := HFin.out wi (Below.refl _ _) hre (.inl rfl)
          have hq := str_ne hS.out hre
          have hs5 := hwi.size
          have HS := Lib.hid hS.out
          clear hwi hbXi hre hrn hS HFin
          go_wp2_with (at_builtin; refine wpList_app _ rfl strE rfl rfl (q1.out.alloc _) rfl (row_new wi _ [_]) (by simp [Value.oneCell']) (by first | omega | (simp; omega)) (by simp; omega) ?_; intro v8 w8 own8 hg8 hb8 hx8)
          have hO8 : Hid (w8.ownsRow w.heap.size 9 1 v8 (out ++ [rn]).length ((out ++ [rn]).map strV)) := Lib.hid (by
            rw [List.length_append, Hon.out, List.map_append]
            rw [HS.out] at own8
            exact own8)
          have hX8 := Lib.hid ((q2.out.alloc (.cells #[.string S] 9)).app (q1.out.alloc _) (by decide) hg8); have hB8 := Lib.hid ((q3.out.alloc hs5 (.cells #[.string S] 9)).trans hb8)
          clear own8 hg8 hb8 hx8
          go_wp2
          go_roundw
          case rel => exact ⟨p, out ++ [rn], by omega, by first | rfl | go_num, hO8, hX8, hB8, q4⟩
          case measure => simp [intOf]; omega
    · obtain rfl : j = Q := by omega
      have z2 : ¬ (j : Int) < (j : Int) := by omega
      have hfin : out = TOT := by
        have h1 := heq.out
        rwa [List.drop_eq_nil_of_le (by rw [HQ.out]; exact Nat.le_refl _), litRow_end, show addL [] = [] from rfl, List.append_nil] at h1
      have HFin := Lib.hid (HL.out.trans hfin.symm)
      clear hfin heq
      go_wp2
      go_ret
      exact ⟨_, rfl, by rw [HFin.out, Hon.out]; exact hO.out, hbw.out⟩
theorem ofAll (hN : NodesIs F W0 B0 (.slice A ns.length c) ns) : ∀ (q : Nat) (t : Re), t.cnt ≤ q → t.cnt ≤ 20000 → t.uni → OfC W0 A c ns t := by
  intro q
  induction q with
  | zero => intro t hq; have := cnt_pos t; omega
  | succ q ih =>
    intro t hq hb hu
    cases hs : subL t with
    | none => exact of_leaf hN t hu hs
    | some l =>
      cases t with
      | seq l2 =>
        have e : (Re.seq l2).cnt = cnts l2 + 1 := rfl
        exact of_seq hN l2 hu (by omega) fun t ht => by have := cnts_mem ht; exact ih t (by omega) (by omega) (unis_at hu ht)
      | rep k mn mx =>
        have e : (Re.rep k mn mx).cnt = k.cnt + 1 := rfl
        rw [subL] at hs
        split at hs
        · rename_i hm
          exact of_rep hN k mn mx hm (ih k (by omega) (by omega) hu)
        · cases hs
      | emp => cases hs
      | set _ => cases hs
      | alt _ => cases hs
      | bgn => cases hs
      | fin => cases hs
end
end Go.Proofs.YtmcacicopgckmaaGreatDoor

