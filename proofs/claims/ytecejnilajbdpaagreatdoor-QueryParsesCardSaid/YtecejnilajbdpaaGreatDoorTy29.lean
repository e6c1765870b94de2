import Derived.Test.YtecejnilajbdpaaGreatDoorTy28
import Derived.Test.YtecejnilajbdpaaGreatDoorTy19
import Derived.Test.YtecejnilajbdpaaGreatDoorTy21
namespace Go.Proofs.YtecejnilajbdpaaGreatDoor
open Go.RowKit Garner
def altP : List Re → Nat → Nat → List InstP
 | [], _, _ => []
 | t :: ts, p, e => ⟨1, p + 1, p + (t.len + 2), []⟩ :: (t.code (p + 1) ++ (⟨1, e, e, []⟩ :: altP ts (p + (t.len + 2)) e))
def altPL : List Re → Nat
 | [] => 0
 | t :: ts => (t.len + 2) + altPL ts
def outP : List Re → Nat → List Nat
 | [], _ => []
 | t :: ts, p => (p + (t.len + 1)) :: outP ts (p + (t.len + 2))
theorem altP_len : ∀ (ts : List Re) (p e : Nat), (altP ts p e).length = altPL ts
 | [], _, _ => rfl
 | t :: ts, p, e => by simp only [altP, altPL, List.length_cons, List.length_append, code_len, altP_len ts]; omega
theorem outP_len : ∀ (ts : List Re) (p : Nat), (outP ts p).length = ts.length
 | [], _ => rfl
 | t :: ts, p => by simp only [outP, List.length_cons, outP_len ts]
theorem altP_snoc : ∀ (ts : List Re) (t : Re) (p e : Nat), altP (ts ++ [t]) p e = altP ts p e ++ (⟨1, p + altPL ts + 1, p + altPL ts + (t.len + 2), []⟩ :: (t.code (p + altPL ts + 1) ++ [⟨1, e, e, []⟩]))
 | [], t, p, e => by simp [altP, altPL]
 | u :: ts, t, p, e => by
  have ih := altP_snoc ts t (p + (u.len + 2)) e
  rw [show p + (u.len + 2) + altPL ts = p + altPL (u :: ts) by rw [altPL]; omega] at ih
  rw [List.cons_append, altP, ih, altP]
  simp
theorem altPL_snoc : ∀ (ts : List Re) (t : Re), altPL (ts ++ [t]) = altPL ts + (t.len + 2)
 | [], t => by simp [altPL]
 | u :: ts, t => by rw [List.cons_append, altPL, altPL_snoc ts t, altPL]; omega
theorem outP_snoc : ∀ (ts : List Re) (t : Re) (p : Nat), outP (ts ++ [t]) p = outP ts p ++ [p + altPL ts + (t.len + 1)]
 | [], t, p => by simp [outP, altPL]
 | u :: ts, t, p => by
  have ih := outP_snoc ts t (p + (u.len + 2))
  rw [show p + (u.len + 2) + altPL ts = p + altPL (u :: ts) by rw [altPL]; omega] at ih
  rw [List.cons_append, outP, ih, outP]; rfl
theorem altC_snoc : ∀ (ts : List Re) (t : Re) (p e : Nat), altC (ts ++ [t]) p e = altP ts p e ++ t.code (p + altPL ts)
 | [], t, p, e => by simp [altP, altPL, altC]
 | [u], t, p, e => by simp [altP, altPL, altC]
 | u :: v :: ts, t, p, e => by
  have ih := altC_snoc (v :: ts) t (p + (u.len + 2)) e
  rw [show p + (u.len + 2) + altPL (v :: ts) = p + altPL (u :: v :: ts) by rw [altPL.eq_def (u :: v :: ts)]; dsimp only; omega] at ih
  show ⟨1, p + 1, p + (u.len + 2), []⟩ :: (u.code (p + 1) ++ (⟨1, e, e, []⟩ :: altC ((v :: ts) ++ [t]) (p + (u.len + 2)) e)) = _
  rw [ih, altP.eq_def (u :: v :: ts)]
  simp
theorem altLen_snoc : ∀ (ts : List Re) (t : Re), altLen (ts ++ [t]) = altPL ts + t.len
 | [], t => by simp [altPL, altLen]
 | [u], t => by simp [altPL, altLen]
 | u :: v :: ts, t => by
  have ih := altLen_snoc (v :: ts) t
  show u.len + 2 + altLen ((v :: ts) ++ [t]) = _
  rw [ih, altPL.eq_def (u :: v :: ts)]
  dsimp only
  omega
theorem below_set {B : Nat} {U W : World} (h : Below B U W) (p : Addr) (u : Value) : Below B (U.setCell p u) (W.setCell p u) :=
 ⟨h.os, h.tape, h.output, by simpa [World.setCell] using h.size, fun k hk => by simp [World.setCell, Array.getElem?_modify, h.block k hk]⟩
theorem size_set (U : World) (p : Addr) (u : Value) : (U.setCell p u).heap.size = U.heap.size := by simp [World.setCell]
structure QU (F : Nat → Prop) (U W : World) (g N : Nat) (rs : List Nat) (ns : List NodeP) (deep most : Nat) : Prop where
 qs : QS F U g N rs ns deep most
 low : Below U.heap.size U W
structure QUX (U W : World) (g n : Nat) : Prop where
 qx : QX U g n
 low : Below U.heap.size U W
section
variable {F : Nat → Prop} {U W : World} {g N : Nat} {rs : List Nat} {ns : List NodeP} {deep most : Nat}
theorem QU.at_ (h : QU F U W g N rs ns deep most) : QS F W g N rs ns deep most := h.qs.below h.low
theorem QUX.at_ {n : Nat} (h : QUX U W g n) : QX W g n := h.qx.below h.low
theorem QU.below {W' : World} (h : QU F U W g N rs ns deep most) (hb : Below U.heap.size W W') : QU F U W' g N rs ns deep most := ⟨h.qs, h.low.trans hb⟩
theorem QUX.below {W' : World} {n : Nat} (h : QUX U W g n) (hb : Below U.heap.size W W') : QUX U W' g n := ⟨h.qx, h.low.trans hb⟩
theorem QU.bad (h : QU F U W g N rs ns deep most) : ∃ U', U'.heap.size = U.heap.size ∧ QUX U' (W.setCell ⟨g, 5, none⟩ (.bool true)) g ns.length ∧ QP g U U' := by
 obtain ⟨h1, h2⟩ := h.qs.bad
 refine ⟨U.setCell ⟨g, 5, none⟩ (.bool true), size_set _ _ _, ⟨h1, ?_⟩, h2⟩
 rw [size_set]
 exact below_set h.low _ _
theorem QUX.bad {n : Nat} (h : QUX U W g n) : ∃ U', U'.heap.size = U.heap.size ∧ QUX U' (W.setCell ⟨g, 5, none⟩ (.bool true)) g n ∧ QP g U U' := by
 obtain ⟨h1, h2⟩ := h.qx.bad
 refine ⟨U.setCell ⟨g, 5, none⟩ (.bool true), size_set _ _ _, ⟨h1, ?_⟩, h2⟩
 rw [size_set]
 exact below_set h.low _ _
theorem QU.step {a : Nat} {r : List Nat} (h : QU F U W g N (a :: r) ns deep most) : ∃ p : Nat, W.cell? ⟨g, 1, none⟩ = some (.int .i64 (p : Nat)) ∧ W.frozen? ⟨g, 1, none⟩ = false ∧ p ≤ 200 ∧ But [g] W (W.setCell ⟨g, 1, none⟩ (.int .i64 ((p : Int) + 1))) ∧ ∃ U', U'.heap.size = U.heap.size ∧ QU F U' (W.setCell ⟨g, 1, none⟩ (.int .i64 ((p : Int) + 1))) g N r ns deep most ∧ QP g U U' := by
 obtain ⟨p, h1, h2, h3, h4, h5⟩ := h.qs.step
 obtain ⟨p', h1', h2', -⟩ := h.at_.step
 obtain rfl : p' = p := by
  have := h.low.cell (p := ⟨g, 1, none⟩) h.qs.lt
  rw [h1', h1] at this
  injection this with e; injection e with _ e; omega
 refine ⟨p', h1', h2', h3, (But.refl [g] W).setCell (p := ⟨g, 1, none⟩) (by simp) _, U.setCell ⟨g, 1, none⟩ (.int .i64 ((p' : Int) + 1)), size_set _ _ _, ⟨h4, ?_⟩, h5⟩
 rw [size_set]
 exact below_set h.low _ _
set_option maxRecDepth 100000 in
set_option maxHeartbeats 8000000 in
theorem uIs (ch : Nat) (U W : World) (g N : Nat) (rs : List Nat) (ns : List NodeP) (deep most : Nat) (h : QU F U W g N rs ns deep most) :
  Calls Tryz.prog 111 #[.pointer (some ⟨g, 0, none⟩), .int .i32 (ch : Nat)] W fun e W' => e = .returned (.bool (decide (rs.head? = some ch))) ∧ But [g] W W' ∧ ∃ U', U'.heap.size = U.heap.size ∧ QU F U' W' g N (if rs.head? = some ch then rs.tail else rs) ns deep most ∧ QP g U U' := by
 by_cases hc : rs.head? = some ch
 ·obtain ⟨r, rfl⟩ : ∃ r, rs = ch :: r := by
   cases rs with
   | nil => cases hc
   | cons a r => injection hc with hc; exact ⟨r, by rw [hc]⟩
  rw [if_pos hc, decide_eq_true hc]
  show Calls _ _ _ _ fun e W' => e = .returned (.bool true) ∧ But [g] W W' ∧ ∃ U', U'.heap.size = U.heap.size ∧ QU F U' W' g N r ns deep most ∧ QP g U U'
  have hp := qPeek g N W _ ns deep most h.at_
  have e0 : peekV (ch :: r) = (ch : Int) := rfl
  rw [e0] at hp
  have HP := Lh hp; have H := Lh h
  clear hp h e0 hc
  go_enter Tryz.func111, Tryz.ntmps111
  go_wp2_with fail
  refine HP.out.mono ?_
  rintro e w1 ⟨rfl, hb⟩
  obtain ⟨p, c1, f1, hp2, hbt, hq⟩ := (H.out.below (hb.mono H.out.low.size)).step
  have w1' : IntKind.i64.wrap ((p : Int) + 1) = (p : Int) + 1 := by rw [IntKind.wrap_i64]; omega
  have HQ := Lh hq; have HB := Lh ((But.of_below (S := [g]) hb).trans hbt)
  clear hq hbt
  go_wp2
  go_ret
  exact ⟨rfl, HB.out, HQ.out⟩
 ·rw [if_neg hc, decide_eq_false hc]
  exact (qIs_no ch g N W rs ns deep most h.at_ hc).mono fun _ _ ⟨h1, h2⟩ => ⟨h1, .of_below h2, U, rfl, h.below (h2.mono h.low.size), .refl _ _⟩
theorem uxIs (ch : Nat) (U W : World) (g n : Nat) (h : QUX U W g n) :
  Calls Tryz.prog 111 #[.pointer (some ⟨g, 0, none⟩), .int .i32 (ch : Nat)] W fun e W' => e = .returned (.bool false) ∧ But [g] W W' ∧ QUX U W' g n :=
 (xIs ch g n W h.at_).mono fun _ _ ⟨h1, h2⟩ => ⟨h1, .of_below h2, h.below (h2.mono h.low.size)⟩
set_option maxRecDepth 100000 in
set_option maxHeartbeats 8000000 in
theorem uDigit (U W : World) (g N : Nat) (rs : List Nat) (ns : List NodeP) (deep most : Nat) (h : QU F U W g N rs ns deep most) :
  Calls Tryz.prog 159 #[.pointer (some ⟨g, 0, none⟩)] W fun e W' => But [g] W W' ∧ ∃ U', U'.heap.size = U.heap.size ∧ QP g U U' ∧ ((∃ d r, digR rs = some (d, r) ∧ d ≤ 8 ∧ e = .returned (.int .i64 (d : Nat)) ∧ QU F U' W' g N r ns deep most) ∨ (digR rs = none ∧ e = .returned (.int .i64 0) ∧ QUX U' W' g ns.length)) := by
 have hp := qPeek g N W rs ns deep most h.at_
 have HP := Lh hp; have H := Lh h
 clear hp
 by_cases hok : ∃ a r, rs = a :: r ∧ 48 ≤ a ∧ a ≤ 56
 ·obtain ⟨a, r, rfl, h1, h2⟩ := hok
  have e0 : peekV (a :: r) = (a : Int) := rfl
  have e1 : digR (a :: r) = some (a - 48, r) := if_pos ⟨h1, h2⟩
  have hp2 := HP.out
  rw [e0] at hp2
  have HP2 := Lh hp2; have E1 := Lh e1
  have z1 : ¬ (a : Int) < 48 := by omega
  have z2 : ¬ (a : Int) > 56 := by omega
  have z3 : IntKind.i64.wrap (a : Int) = (a : Int) := by rw [IntKind.wrap_i64]; omega
  have z4 : IntKind.i64.wrap ((a : Int) - 48) = ((a - 48 : Nat) : Int) := by rw [IntKind.wrap_i64]; omega
  clear hp2 HP e0 e1 h
  go_enter Tryz.func159, Tryz.ntmps159
  go_wp2_with fail
  refine HP2.out.mono ?_
  rintro e w1 ⟨rfl, hb⟩
  obtain ⟨p, c1, f1, hp2, hbt, hq⟩ := (H.out.below (hb.mono H.out.low.size)).step
  have w1' : IntKind.i64.wrap ((p : Int) + 1) = (p : Int) + 1 := by rw [IntKind.wrap_i64]; omega
  have HQ := Lh hq; have HB := Lh ((But.of_below (S := [g]) hb).trans hbt)
  clear hq hbt
  go_wp2
  go_ret
  obtain ⟨U', u1, u2, u3⟩ := HQ.out
  exact ⟨HB.out, U', u1, u3, .inl ⟨a - 48, r, E1.out, by omega, rfl, u2⟩⟩
 ·have e1 : digR rs = none := by
   cases rs with
   | nil => rfl
   | cons a r => exact if_neg fun h => hok ⟨a, r, rfl, h.1, h.2⟩
  have hv : peekV rs < 48 ∨ (¬ peekV rs < 48 ∧ peekV rs > 56) := by
   cases rs with
   | nil => left; show (-1 : Int) < 48; omega
   | cons a r =>
    show ((a : Nat) : Int) < 48 ∨ (¬ ((a : Nat) : Int) < 48 ∧ ((a : Nat) : Int) > 56)
    rcases Nat.lt_or_ge a 48 with h | h
    ·left; omega
    ·right
     refine ⟨by omega, ?_⟩
     rcases Nat.lt_or_ge 56 a with h2 | h2
     ·omega
     ·exact absurd ⟨a, r, rfl, h, h2⟩ hok
  obtain ⟨v, hv2⟩ : ∃ v, peekV rs = v := ⟨_, rfl⟩
  have hp2 := HP.out
  rw [hv2] at hp2 hv
  have HP2 := Lh hp2; have E1 := Lh e1
  clear hp2 HP e1 hok hv2 h
  go_enter Tryz.func159, Tryz.ntmps159
  rcases hv with z1 | ⟨z1, z2⟩
  all_goals
   go_wp2_with fail
   refine HP2.out.mono ?_
   rintro e w1 ⟨rfl, hb⟩
   have hU := H.out.below (hb.mono H.out.low.size)
   obtain ⟨c5, f5⟩ := hU.at_.cell5
   have hq := hU.bad
   have HQ := Lh hq; have HB := Lh ((But.of_below (S := [g]) hb).trans ((But.refl [g] w1).setCell (p := ⟨g, 5, none⟩) (by simp) (.bool true)))
   clear hq hU
   go_wp2
   go_ret
   obtain ⟨U', u1, u2, u3⟩ := HQ.out
   exact ⟨HB.out, U', u1, u3, .inr ⟨E1.out, rfl, u2⟩⟩
end
open Go.RowKit Garner
structure ItI (w U W : World) (g kb nb kv : Nat) (mn mx : Int) : Prop where
 qp : QP g w U
 gl : g < U.heap.size
 k1 : U.heap.size ≤ kb
 k2 : kb < nb
 k3 : nb < W.heap.size
 kid : Blk W kb 3 [iv kv]
 blk : Blk W nb 182 [.int .i64 5, .slice (some ⟨kb, 0, none⟩) 1 1, .int .i64 mn, .int .i64 mx, .slice none 0 0]
section
variable {F : Nat → Prop} {w U U' W W' : World} {g N kb nb kv : Nat} {mn mx : Int}
theorem ItI.next (h : ItI w U W g kb nb kv mn mx) (hb : But [g] W W') (hs : U'.heap.size = U.heap.size) (hq : QP g U U') : ItI w U' W' g kb nb kv mn mx := by
 have := h.k1
 have := h.k2
 have := h.gl
 exact ⟨h.qp.trans hq, by rw [hs]; exact h.gl, by rw [hs]; exact h.k1, h.k2, Nat.lt_of_lt_of_le h.k3 hb.size, h.kid.but hb (by simp; omega), h.blk.but hb (by simp; omega)⟩
theorem ItI.min (h : ItI w U W g kb nb kv mn mx) (x : Int) : ItI w U (W.setCell ⟨nb, 2, none⟩ (.int .i64 x)) g kb nb kv x mx ∧ Below U.heap.size W (W.setCell ⟨nb, 2, none⟩ (.int .i64 x)) ∧ W.frozen? ⟨nb, 2, none⟩ = false := by
 have := h.k1
 have := h.k2
 exact ⟨⟨h.qp, h.gl, h.k1, h.k2, by rw [size_set]; exact h.k3, h.kid.far (by simp; omega) _, h.blk.set_ 2 _⟩, (Below.refl _ _).setCell (p := ⟨nb, 2, none⟩) (by simp; omega) _, h.blk.frozen 2⟩
theorem ItI.max (h : ItI w U W g kb nb kv mn mx) (x : Int) : ItI w U (W.setCell ⟨nb, 3, none⟩ (.int .i64 x)) g kb nb kv mn x ∧ Below U.heap.size W (W.setCell ⟨nb, 3, none⟩ (.int .i64 x)) ∧ W.frozen? ⟨nb, 3, none⟩ = false := by
 have := h.k1
 have := h.k2
 exact ⟨⟨h.qp, h.gl, h.k1, h.k2, by rw [size_set]; exact h.k3, h.kid.far (by simp; omega) _, h.blk.set_ 3 _⟩, (Below.refl _ _).setCell (p := ⟨nb, 3, none⟩) (by simp; omega) _, h.blk.frozen 3⟩
theorem ItI.cells (h : ItI w U W g kb nb kv mn mx) : W.cell? ⟨nb, 0, none⟩ = some (.int .i64 5) ∧ W.cell? ⟨nb, 1, none⟩ = some (.slice (some ⟨kb, 0, none⟩) 1 1) ∧ W.cell? ⟨nb, 2, none⟩ = some (.int .i64 mn) ∧ W.cell? ⟨nb, 3, none⟩ = some (.int .i64 mx) ∧ W.cell? ⟨nb, 4, none⟩ = some (.slice none 0 0) :=
 ⟨h.blk.cell 0, h.blk.cell 1, h.blk.cell 2, h.blk.cell 3, h.blk.cell 4⟩
theorem ItI.row (h : ItI w U W g kb nb kv mn mx) : RowT W 3 (some ⟨kb, 0, none⟩) 1 [iv kv] :=
 ⟨rfl, fun _ => ⟨kb, 0, _, _, rfl, h.kid, fun j u hu => by simpa using hu⟩⟩
theorem uRep {F1 : Nat → Prop} (t : Re) (mn : Nat) (mx : Option Nat) (kv : Nat) (mnv mxv : Int) (g N : Nat) (w U W : World) (r : List Nat) (ns : List NodeP) (deep mo : Nat) (hkv : ns.length + t.cnt - 1 = kv) (hmn : mnv = (mn : Int)) (hmx : mxv = mxI mx)
  (hI : ItI w U W g kb nb kv mnv mxv) (h : QU F1 U W g N r (ns ++ t.flat ns.length) deep mo) (hF1 : ∀ k, F1 k → Ext F w U k) (h0 : ∀ k, F k → k < w.heap.size) (hns : ns.length + t.cnt < 100000) :
  Calls Tryz.prog 113 #[.pointer (some ⟨g, 0, none⟩), .agg #[.int .i64 5, .slice (some ⟨kb, 0, none⟩) 1 1, .int .i64 mnv, .int .i64 mxv, .slice none 0 0]] W fun e w' =>
   QP g w w' ∧ e = .returned (.int .i64 ((ns.length + (Re.rep t mn mx).cnt - 1 : Nat) : Int)) ∧ QS (Ext F w w') w' g N r (ns ++ (Re.rep t mn mx).flat ns.length) deep mo := by
 subst hmn hmx
 have hwU := hI.qp.keep.size
 have hUW := h.low.size
 have hx : QS (Ext F w W) W g N r (ns ++ t.flat ns.length) deep mo := h.at_.mono (fun k hk => by
  rcases hF1 k hk with h | h
  ·exact .inl h
  ·exact .inr ⟨h.1, by omega⟩) (Ext.lt h0 (by omega))
 have hk1 := hI.k1
 have hk2 := hI.k2
 have hk3 := hI.k3
 have hd : NodeOk (Ext F w W) W ⟨⟨5, [kv], mn, mxI mx, []⟩, some ⟨kb, 0, none⟩, 1, none, 0⟩ :=
  ⟨hI.row, RowT.nil, fun a e => (by cases e; exact .inr ⟨by show w.heap.size ≤ kb; omega, by show kb < W.heap.size; omega⟩), fun a e => (by cases e)⟩
 refine (qNode ⟨⟨5, [kv], mn, mxI mx, []⟩, some ⟨kb, 0, none⟩, 1, none, 0⟩ g N _ r _ deep mo hx hd (by rw [List.length_append, flat_len]; exact hns)).mono ?_
 rintro e w2 ⟨rfl, h3, k3⟩
 have k2 := hI.qp.trans (.trans (.of_below h.low (Nat.le_of_lt hI.gl)) k3)
 have s3 := k3.keep.size
 refine ⟨k2, ?_, ?_⟩
 ·rw [List.length_append, flat_len]; rfl
 ·rw [rep_flat, hkv, ← List.append_assoc]
  refine h3.mono (fun k hk => ?_) (Ext.lt h0 (by omega))
  rcases hk with hk | hk
  ·exact .inl hk
  ·exact .inr ⟨hk.1, by omega⟩
theorem uRepX (K : Nat) (ns : List NodeP) (deep most n : Nat) (hI : ItI w U W g kb nb kv mn mx) (h : QUX U W g n) (hn : n + 1 ≤ ns.length + K) (hb : n < 1000000) :
  Calls Tryz.prog 113 #[.pointer (some ⟨g, 0, none⟩), .agg #[.int .i64 5, .slice (some ⟨kb, 0, none⟩) 1 1, .int .i64 mn, .int .i64 mx, .slice none 0 0]] W fun e w' =>
   ∃ x : Int, e = .returned (.int .i64 x) ∧ QP g w w' ∧ OutC K F none w g N ns deep most (.returned (.int .i64 x)) w' := by
 refine (xNode 5 mn mx (some ⟨kb, 0, none⟩) 1 1 none 0 0 g n W h.at_ (by omega)).mono ?_
 rintro e w2 ⟨rfl, h3, k3⟩
 exact ⟨_, rfl, hI.qp.trans (.trans (.of_below h.low (Nat.le_of_lt hI.gl)) k3), _, _, rfl, h3, hn⟩
end
end Go.Proofs.YtecejnilajbdpaaGreatDoor
namespace Garner
open Go
theorem sixN_succ (c : Nat) (b : Nat → Nat) (k : Nat) : sixN c b (k + 1) = sixN c b k * 64 + b (k + 1) % 64 := rfl
theorem pow64 {m : Nat} (h : m ≤ 3) : 64 ^ m ≤ 262144 := by
 have : m = 0 ∨ m = 1 ∨ m = 2 ∨ m = 3 := by omega
 rcases this with rfl | rfl | rfl | rfl <;> decide
end Garner
namespace Go.Proofs.YtecejnilajbdpaaGreatDoor
open Go.RowKit Garner
set_option maxRecDepth 100000 in
set_option maxHeartbeats 16000000 in
theorem vOne (S : ByteArray) (l : Bs) (hS : S = ⟨l.toArray⟩) (p : Nat) (w : World) (hp : p < l.length) (hl : l.length ≤ 4611686018427387904) :
  Calls Tryz.prog 79 #[.string S, .int .i64 (p : Nat)] w fun e w' => e = .returned (.tuple #[.int .i32 ((Utf8.decode ⟨l.toArray⟩ p).1 : Nat), .int .i64 ((Utf8.decode ⟨l.toArray⟩ p).2 : Nat)]) ∧ w' = w := by
 have hd := decode_byteN l p
 obtain ⟨b, hb⟩ : ∃ b : Nat → Nat, b = fun k => byteN l (p + k) := ⟨_, rfl⟩
 have hb0 : b 0 = byteN l p := by rw [hb]; rfl
 have hlt : ∀ k, b k < 256 := fun k => by rw [hb]; exact byteN_lt _ _
 have e0 : Lib.decodeN (l.length - p) (byteN l p) (byteN l (p + 1)) (byteN l (p + 2)) (byteN l (p + 3)) = Lib.decodeN (l.length - p) (b 0) (b 1) (b 2) (b 3) := by rw [hb]; rfl
 rw [e0, lead_dec _ _ (hlt 0)] at hd
 have hidx : ∀ k, p + k < l.length → ∀ z : Int, z = ((p + k : Nat) : Int) → (Instr.index 9 (.string S) (.int .i64 z)).run Tryz.prog w = .ok (.int .u8 (b k : Nat)) w := fun k hk z hz => by
  have := idx_byte (P := Tryz.prog) 9 Tryz.underlying9 S l hS z (p + k) hz hk w
  rw [this, hb]
 have zS : S.size = l.length := by rw [hS]; exact str_size l
 obtain ⟨N, hN⟩ : ∃ N, l.length = N := ⟨_, rfl⟩
 rw [hN] at hd hidx zS hp hl
 have i0 := hidx 0 (by omega) (p : Int) (by omega)
 have l0 := hlt 0
 have HI := Lh hidx; have HLt := Lh hlt
 clear hb hb0 e0 hidx hlt hS hN
 obtain ⟨D, hD⟩ : ∃ D, Utf8.decode ⟨l.toArray⟩ p = D := ⟨_, rfl⟩
 rw [hD] at hd ⊢
 clear hD
 obtain ⟨c0, hc0⟩ : ∃ c0, b 0 = c0 := ⟨_, rfl⟩
 rw [hc0] at hd i0 l0
 have HD := Lh hd
 clear hd hc0
 go_enter Tryz.func79, Tryz.ntmps79
 by_cases h1 : c0 < 128
 ·have z1 : (c0 : Int) < 128 := by omega
  have w1 : IntKind.i32.wrap (c0 : Int) = (c0 : Int) := by rw [IntKind.wrap_i32]; omega
  have hd := HD.out
  rw [if_pos h1] at hd
  subst hd
  go_wp2
  go_ret2
  exact ⟨rfl, rfl⟩
 have z1 : ¬ (c0 : Int) < 128 := by omega
 by_cases h2 : 192 ≤ c0 ∧ c0 < 224
 ·have y1 : (192 : Int) ≤ (c0 : Int) := by omega
  have y2 : (c0 : Int) < 224 := by omega
  have hd := HD.out
  rw [if_neg h1, if_pos h2] at hd
  obtain ⟨q0, hq0⟩ : ∃ q0 : Nat, c0 - 192 = q0 := ⟨_, rfl⟩
  have hq64 : q0 < 64 := by omega
  have hsub : (c0 : Int) - 192 = (q0 : Int) := by omega
  have wsub : IntKind.i64.wrap ((c0 : Int) - 192) = (q0 : Int) := by rw [IntKind.wrap_i64]; omega
  rw [hq0] at hd
  have HDd := Lh hd
  clear hd HD hq0
  go_wp2_with fail
  go_loopw [6, 9] (fun c k wr => ∃ m : Nat, 1 ≤ m ∧ m ≤ 2 ∧ k = .int .i64 m ∧ c = .int .i64 (sixN q0 b (m - 1) : Nat) ∧ sixN q0 b (m - 1) < 64 ^ m ∧ Hid (∀ j, 1 ≤ j → j < m → j < N - p ∧ b j / 64 = 2) ∧ wr = w) (fun _ k _ => 3 - (intOf k).toNat)
  case atStart => exact ⟨1, Nat.le_refl _, by omega, rfl, rfl, by simpa [sixN] using hq64, Lh (fun j h1 h2 => by omega), rfl⟩
  case round =>
   obtain ⟨m, hm1, hm2, rfl, rfl, hpw, hall, hwr⟩ := hrel
   obtain rfl : w = wr := hwr.symm
   obtain ⟨q, hq⟩ : ∃ q, m = q + 1 := ⟨m - 1, by omega⟩
   have hqm : m - 1 = q := by omega
   rw [hqm] at hpw ⊢
   have Hq := Lh hq
   clear hq hqm
   by_cases hgo : m ≤ 1
   ·have x1 : (m : Int) ≤ 1 := by omega
    have hpz := pow64 (m := m) (by omega)
    have wa : IntKind.i64.wrap ((p : Int) + (m : Int)) = (p : Int) + (m : Int) := by rw [IntKind.wrap_i64]; omega
    by_cases hin : p + m < N
    ·have x2 : ¬ (N : Int) ≤ (p : Int) + (m : Int) := by omega
     have i1 := HI.out m hin ((p : Int) + (m : Int)) (by omega)
     have lb := HLt.out m
     have hs := sixN_succ q0 b q
     obtain ⟨bb, hbb⟩ : ∃ bb, b m = bb := ⟨_, rfl⟩
     rw [← Hq.out, hbb] at hs
     rw [hbb] at i1 lb
     by_cases hsix : bb / 64 = 2
     ·have x3 : ((bb : Nat) : Int) / 64 = 2 := by omega
      obtain ⟨c1, hc1⟩ : ∃ c1, sixN q0 b q = c1 := ⟨_, rfl⟩
      rw [hc1] at hs hpw ⊢
      have w2 : IntKind.i64.wrap ((c1 : Int) * 64) = (c1 : Int) * 64 := by rw [IntKind.wrap_i64]; omega
      have w3 : IntKind.i64.wrap ((c1 : Int) * 64 + (bb : Int) % 64) = (c1 : Int) * 64 + (bb : Int) % 64 := by rw [IntKind.wrap_i64]; omega
      have w4 : IntKind.i64.wrap ((m : Int) + 1) = ((m + 1 : Nat) : Int) := by rw [IntKind.wrap_i64]; omega
      have hpn : c1 * 64 + bb % 64 < 64 ^ (m + 1) := by rw [Nat.pow_succ]; omega
      have hall2 : ∀ j, 1 ≤ j → j < m + 1 → j < N - p ∧ b j / 64 = 2 := fun j h1 h2 => by
       rcases Nat.lt_or_ge j m with h3 | h3
       ·exact hall.out j h1 h3
       ·obtain rfl : j = m := by omega
        exact ⟨by omega, by rw [hbb]; exact hsix⟩
      have HAll := Lh hall2; have HPn := Lh hpn; have HSx := Lh hs
      clear hall2 hpn hs hsix hall hbb hc1 hpz hpw
      go_wp2_with fail
      go_roundw
      case rel => exact ⟨m + 1, by omega, by omega, by first | rfl | go_num, congrArg (Value.int .i64) (by rw [Nat.add_sub_cancel, HSx.out]; omega), by rw [Nat.add_sub_cancel, HSx.out]; exact HPn.out, HAll, by first | rfl | trivial⟩
      case measure => simp [intOf]; omega
     ·have x3 : ¬ ((bb : Nat) : Int) / 64 = 2 := by omega
      have hd := HDd.out
      rw [leadN, if_neg (fun h => hsix (by rw [← hbb]; exact (h m hm1 hgo).2))] at hd
      subst hd
      clear hall hs hsix hbb hpz hpw
      go_wp2_with fail
      go_ret2
      exact ⟨rfl, rfl⟩
    ·have x2 : (N : Int) ≤ (p : Int) + (m : Int) := by omega
     have hd := HDd.out
     rw [leadN, if_neg (fun h => hin (by have := (h m hm1 hgo).1; omega))] at hd
     subst hd
     clear hall hpz hpw
     go_wp2_with fail
     go_ret2
     exact ⟨rfl, rfl⟩
   ·have x1 : ¬ (m : Int) ≤ 1 := by omega
    obtain rfl : m = 1 + 1 := by omega
    obtain rfl : q = 1 := by have := Hq.out; omega
    have x1 : ¬ ((1 : Int) + 1) ≤ 1 := by omega
    have hd := HDd.out
    rw [leadN, if_pos (fun j h1 h2 => hall.out j h1 (by omega))] at hd
    obtain ⟨c1, hc1⟩ : ∃ c1, sixN q0 b 1 = c1 := ⟨_, rfl⟩
    rw [hc1] at hd hpw ⊢
    have hc9 : c1 < 16777216 := Nat.lt_of_lt_of_le hpw (by decide)
    have w2 : IntKind.i32.wrap (c1 : Int) = (c1 : Int) := by rw [IntKind.wrap_i32]; omega
    have hcase : c1 < 128 ∨ (¬ c1 < 128 ∧ 1114111 < c1) ∨ (¬ c1 < 128 ∧ ¬ 1114111 < c1 ∧ 55296 ≤ c1 ∧ c1 ≤ 57343) ∨ (¬ c1 < 128 ∧ ¬ 1114111 < c1 ∧ 55296 ≤ c1 ∧ ¬ c1 ≤ 57343) ∨ (¬ c1 < 128 ∧ ¬ 1114111 < c1 ∧ ¬ 55296 ≤ c1) := by omega
    clear hall hc1 hpw
    rcases hcase with u1 | ⟨u1, u2⟩ | ⟨u1, u2, u3, u4⟩ | ⟨u1, u2, u3, u4⟩ | ⟨u1, u2, u3⟩
    ·rw [if_pos (by omega)] at hd
     subst hd
     have v1 : (c1 : Int) < 128 := by omega
     go_wp2_with fail
     go_ret2
     exact ⟨rfl, rfl⟩
    ·rw [if_pos (by omega)] at hd
     subst hd
     have v1 : ¬ (c1 : Int) < 128 := by omega
     have v2 : (c1 : Int) > 1114111 := by omega
     go_wp2_with fail
     go_ret2
     exact ⟨rfl, rfl⟩
    ·rw [if_pos (by omega)] at hd
     subst hd
     have v1 : ¬ (c1 : Int) < 128 := by omega
     have v2 : ¬ (c1 : Int) > 1114111 := by omega
     have v3 : (55296 : Int) ≤ (c1 : Int) := by omega
     have v4 : (c1 : Int) ≤ 57343 := by omega
     go_wp2_with fail
     go_ret2
     exact ⟨rfl, rfl⟩
    ·rw [if_neg (by omega)] at hd
     subst hd
     have v1 : ¬ (c1 : Int) < 128 := by omega
     have v2 : ¬ (c1 : Int) > 1114111 := by omega
     have v3 : (55296 : Int) ≤ (c1 : Int) := by omega
     have v4 : ¬ (c1 : Int) ≤ 57343 := by omega
     go_wp2_with fail
     go_ret2
     exact ⟨rfl, rfl⟩
    ·rw [if_neg (by omega)] at hd
     subst hd
     have v1 : ¬ (c1 : Int) < 128 := by omega
     have v2 : ¬ (c1 : Int) > 1114111 := by omega
     have v3 : ¬ (55296 : Int) ≤ (c1 : Int) := by omega
     go_wp2_with fail
     go_ret2
     exact ⟨rfl, rfl⟩
 by_cases h3 : 224 ≤ c0 ∧ c0 < 240
 ·have y1 : (224 : Int) ≤ (c0 : Int) := by omega
  have y2 : (c0 : Int) < 240 := by omega
  have g0a : (192 : Int) ≤ (c0 : Int) := by omega
  have g0b : ¬ (c0 : Int) < 224 := by omega
  have hd := HD.out
  rw [if_neg h1, if_neg h2, if_pos h3] at hd
  obtain ⟨q0, hq0⟩ : ∃ q0 : Nat, c0 - 224 = q0 := ⟨_, rfl⟩
  have hq64 : q0 < 64 := by omega
  have hsub : (c0 : Int) - 224 = (q0 : Int) := by omega
  have wsub : IntKind.i64.wrap ((c0 : Int) - 224) = (q0 : Int) := by rw [IntKind.wrap_i64]; omega
  rw [hq0] at hd
  have HDd := Lh hd
  clear hd HD hq0
  go_wp2_with fail
  go_loopw [6, 9] (fun c k wr => ∃ m : Nat, 1 ≤ m ∧ m ≤ 3 ∧ k = .int .i64 m ∧ c = .int .i64 (sixN q0 b (m - 1) : Nat) ∧ sixN q0 b (m - 1) < 64 ^ m ∧ Hid (∀ j, 1 ≤ j → j < m → j < N - p ∧ b j / 64 = 2) ∧ wr = w) (fun _ k _ => 4 - (intOf k).toNat)
  case atStart => exact ⟨1, Nat.le_refl _, by omega, rfl, rfl, by simpa [sixN] using hq64, Lh (fun j h1 h2 => by omega), rfl⟩
  case round =>
   obtain ⟨m, hm1, hm2, rfl, rfl, hpw, hall, hwr⟩ := hrel
   obtain rfl : w = wr := hwr.symm
   obtain ⟨q, hq⟩ : ∃ q, m = q + 1 := ⟨m - 1, by omega⟩
   have hqm : m - 1 = q := by omega
   rw [hqm] at hpw ⊢
   have Hq := Lh hq
   clear hq hqm
   by_cases hgo : m ≤ 2
   ·have x1 : (m : Int) ≤ 2 := by omega
    have hpz := pow64 (m := m) (by omega)
    have wa : IntKind.i64.wrap ((p : Int) + (m : Int)) = (p : Int) + (m : Int) := by rw [IntKind.wrap_i64]; omega
    by_cases hin : p + m < N
    ·have x2 : ¬ (N : Int) ≤ (p : Int) + (m : Int) := by omega
     have i1 := HI.out m hin ((p : Int) + (m : Int)) (by omega)
     have lb := HLt.out m
     have hs := sixN_succ q0 b q
     obtain ⟨bb, hbb⟩ : ∃ bb, b m = bb := ⟨_, rfl⟩
     rw [← Hq.out, hbb] at hs
     rw [hbb] at i1 lb
     by_cases hsix : bb / 64 = 2
     ·have x3 : ((bb : Nat) : Int) / 64 = 2 := by omega
      obtain ⟨c1, hc1⟩ : ∃ c1, sixN q0 b q = c1 := ⟨_, rfl⟩
      rw [hc1] at hs hpw ⊢
      have w2 : IntKind.i64.wrap ((c1 : Int) * 64) = (c1 : Int) * 64 := by rw [IntKind.wrap_i64]; omega
      have w3 : IntKind.i64.wrap ((c1 : Int) * 64 + (bb : Int) % 64) = (c1 : Int) * 64 + (bb : Int) % 64 := by rw [IntKind.wrap_i64]; omega
      have w4 : IntKind.i64.wrap ((m : Int) + 1) = ((m + 1 : Nat) : Int) := by rw [IntKind.wrap_i64]; omega
      have hpn : c1 * 64 + bb % 64 < 64 ^ (m + 1) := by rw [Nat.pow_succ]; omega
      have hall2 : ∀ j, 1 ≤ j → j < m + 1 → j < N - p ∧ b j / 64 = 2 := fun j h1 h2 => by
       rcases Nat.lt_or_ge j m with h3 | h3
       ·exact hall.out j h1 h3
       ·obtain rfl : j = m := by omega
        exact ⟨by omega, by rw [hbb]; exact hsix⟩
      have HAll := Lh hall2; have HPn := Lh hpn; have HSx := Lh hs
      clear hall2 hpn hs hsix hall hbb hc1 hpz hpw
      go_wp2_with fail
      go_roundw
      case rel => exact ⟨m + 1, by omega, by omega, by first | rfl | go_num, congrArg (Value.int .i64) (by rw [Nat.add_sub_cancel, HSx.out]; omega), by rw [Nat.add_sub_cancel, HSx.out]; exact HPn.out, HAll, by first | rfl | trivial⟩
      case measure => simp [intOf]; omega
     ·have x3 : ¬ ((bb : Nat) : Int) / 64 = 2 := by omega
      have hd := HDd.out
      rw [leadN, if_neg (fun h => hsix (by rw [← hbb]; exact (h m hm1 hgo).2))] at hd
      subst hd
      clear hall hs hsix hbb hpz hpw
      go_wp2_with fail
      go_ret2
      exact ⟨rfl, rfl⟩
    ·have x2 : (N : Int) ≤ (p : Int) + (m : Int) := by omega
     have hd := HDd.out
     rw [leadN, if_neg (fun h => hin (by have := (h m hm1 hgo).1; omega))] at hd
     subst hd
     clear hall hpz hpw
     go_wp2_with fail
     go_ret2
     exact ⟨rfl, rfl⟩
   ·have x1 : ¬ (m : Int) ≤ 2 := by omega
    obtain rfl : m = 2 + 1 := by omega
    obtain rfl : q = 2 := by have := Hq.out; omega
    have x1 : ¬ ((2 : Int) + 1) ≤ 2 := by omega
    have hd := HDd.out
    rw [leadN, if_pos (fun j h1 h2 => hall.out j h1 (by omega))] at hd
    obtain ⟨c1, hc1⟩ : ∃ c1, sixN q0 b 2 = c1 := ⟨_, rfl⟩
    rw [hc1] at hd hpw ⊢
    have hc9 : c1 < 16777216 := Nat.lt_of_lt_of_le hpw (by decide)
    have w2 : IntKind.i32.wrap (c1 : Int) = (c1 : Int) := by rw [IntKind.wrap_i32]; omega
    have hcase : c1 < 2048 ∨ (¬ c1 < 2048 ∧ 1114111 < c1) ∨ (¬ c1 < 2048 ∧ ¬ 1114111 < c1 ∧ 55296 ≤ c1 ∧ c1 ≤ 57343) ∨ (¬ c1 < 2048 ∧ ¬ 1114111 < c1 ∧ 55296 ≤ c1 ∧ ¬ c1 ≤ 57343) ∨ (¬ c1 < 2048 ∧ ¬ 1114111 < c1 ∧ ¬ 55296 ≤ c1) := by omega
    clear hall hc1 hpw
    rcases hcase with u1 | ⟨u1, u2⟩ | ⟨u1, u2, u3, u4⟩ | ⟨u1, u2, u3, u4⟩ | ⟨u1, u2, u3⟩
    ·rw [if_pos (by omega)] at hd
     subst hd
     have v1 : (c1 : Int) < 2048 := by omega
     go_wp2_with fail
     go_ret2
     exact ⟨rfl, rfl⟩
    ·rw [if_pos (by omega)] at hd
     subst hd
     have v1 : ¬ (c1 : Int) < 2048 := by omega
     have v2 : (c1 : Int) > 1114111 := by omega
     go_wp2_with fail
     go_ret2
     exact ⟨rfl, rfl⟩
    ·rw [if_pos (by omega)] at hd
     subst hd
     have v1 : ¬ (c1 : Int) < 2048 := by omega
     have v2 : ¬ (c1 : Int) > 1114111 := by omega
     have v3 : (55296 : Int) ≤ (c1 : Int) := by omega
     have v4 : (c1 : Int) ≤ 57343 := by omega
     go_wp2_with fail
     go_ret2
     exact ⟨rfl, rfl⟩
    ·rw [if_neg (by omega)] at hd
     subst hd
     have v1 : ¬ (c1 : Int) < 2048 := by omega
     have v2 : ¬ (c1 : Int) > 1114111 := by omega
     have v3 : (55296 : Int) ≤ (c1 : Int) := by omega
     have v4 : ¬ (c1 : Int) ≤ 57343 := by omega
     go_wp2_with fail
     go_ret2
     exact ⟨rfl, rfl⟩
    ·rw [if_neg (by omega)] at hd
     subst hd
     have v1 : ¬ (c1 : Int) < 2048 := by omega
     have v2 : ¬ (c1 : Int) > 1114111 := by omega
     have v3 : ¬ (55296 : Int) ≤ (c1 : Int) := by omega
     go_wp2_with fail
     go_ret2
     exact ⟨rfl, rfl⟩
 by_cases h4 : 240 ≤ c0 ∧ c0 < 248
 ·have y1 : (240 : Int) ≤ (c0 : Int) := by omega
  have y2 : (c0 : Int) < 248 := by omega
  have g0a : (192 : Int) ≤ (c0 : Int) := by omega
  have g0b : ¬ (c0 : Int) < 224 := by omega
  have g1a : (224 : Int) ≤ (c0 : Int) := by omega
  have g1b : ¬ (c0 : Int) < 240 := by omega
  have hd := HD.out
  rw [if_neg h1, if_neg h2, if_neg h3, if_pos h4] at hd
  obtain ⟨q0, hq0⟩ : ∃ q0 : Nat, c0 - 240 = q0 := ⟨_, rfl⟩
  have hq64 : q0 < 64 := by omega
  have hsub : (c0 : Int) - 240 = (q0 : Int) := by omega
  have wsub : IntKind.i64.wrap ((c0 : Int) - 240) = (q0 : Int) := by rw [IntKind.wrap_i64]; omega
  rw [hq0] at hd
  have HDd := Lh hd
  clear hd HD hq0
  go_wp2_with fail
  go_loopw [6, 9] (fun c k wr => ∃ m : Nat, 1 ≤ m ∧ m ≤ 4 ∧ k = .int .i64 m ∧ c = .int .i64 (sixN q0 b (m - 1) : Nat) ∧ sixN q0 b (m - 1) < 64 ^ m ∧ Hid (∀ j, 1 ≤ j → j < m → j < N - p ∧ b j / 64 = 2) ∧ wr = w) (fun _ k _ => 5 - (intOf k).toNat)
  case atStart => exact ⟨1, Nat.le_refl _, by omega, rfl, rfl, by simpa [sixN] using hq64, Lh (fun j h1 h2 => by omega), rfl⟩
  case round =>
   obtain ⟨m, hm1, hm2, rfl, rfl, hpw, hall, hwr⟩ := hrel
   obtain rfl : w = wr := hwr.symm
   obtain ⟨q, hq⟩ : ∃ q, m = q + 1 := ⟨m - 1, by omega⟩
   have hqm : m - 1 = q := by omega
   rw [hqm] at hpw ⊢
   have Hq := Lh hq
   clear hq hqm
   by_cases hgo : m ≤ 3
   ·have x1 : (m : Int) ≤ 3 := by omega
    have hpz := pow64 (m := m) (by omega)
    have wa : IntKind.i64.wrap ((p : Int) + (m : Int)) = (p : Int) + (m : Int) := by rw [IntKind.wrap_i64]; omega
    by_cases hin : p + m < N
    ·have x2 : ¬ (N : Int) ≤ (p : Int) + (m : Int) := by omega
     have i1 := HI.out m hin ((p : Int) + (m : Int)) (by omega)
     have lb := HLt.out m
     have hs := sixN_succ q0 b q
     obtain ⟨bb, hbb⟩ : ∃ bb, b m = bb := ⟨_, rfl⟩
     rw [← Hq.out, hbb] at hs
     rw [hbb] at i1 lb
     by_cases hsix : bb / 64 = 2
     ·have x3 : ((bb : Nat) : Int) / 64 = 2 := by omega
      obtain ⟨c1, hc1⟩ : ∃ c1, sixN q0 b q = c1 := ⟨_, rfl⟩
      rw [hc1] at hs hpw ⊢
      have w2 : IntKind.i64.wrap ((c1 : Int) * 64) = (c1 : Int) * 64 := by rw [IntKind.wrap_i64]; omega
      have w3 : IntKind.i64.wrap ((c1 : Int) * 64 + (bb : Int) % 64) = (c1 : Int) * 64 + (bb : Int) % 64 := by rw [IntKind.wrap_i64]; omega
      have w4 : IntKind.i64.wrap ((m : Int) + 1) = ((m + 1 : Nat) : Int) := by rw [IntKind.wrap_i64]; omega
      have hpn : c1 * 64 + bb % 64 < 64 ^ (m + 1) := by rw [Nat.pow_succ]; omega
      have hall2 : ∀ j, 1 ≤ j → j < m + 1 → j < N - p ∧ b j / 64 = 2 := fun j h1 h2 => by
       rcases Nat.lt_or_ge j m with h3 | h3
       ·exact hall.out j h1 h3
       ·obtain rfl : j = m := by omega
        exact ⟨by omega, by rw [hbb]; exact hsix⟩
      have HAll := Lh hall2; have HPn := Lh hpn; have HSx := Lh hs
      clear hall2 hpn hs hsix hall hbb hc1 hpz hpw
      go_wp2_with fail
      go_roundw
      case rel => exact ⟨m + 1, by omega, by omega, by first | rfl | go_num, congrArg (Value.int .i64) (by rw [Nat.add_sub_cancel, HSx.out]; omega), by rw [Nat.add_sub_cancel, HSx.out]; exact HPn.out, HAll, by first | rfl | trivial⟩
      case measure => simp [intOf]; omega
     ·have x3 : ¬ ((bb : Nat) : Int) / 64 = 2 := by omega
      have hd := HDd.out
      rw [leadN, if_neg (fun h => hsix (by rw [← hbb]; exact (h m hm1 hgo).2))] at hd
      subst hd
      clear hall hs hsix hbb hpz hpw
      go_wp2_with fail
      go_ret2
      exact ⟨rfl, rfl⟩
    ·have x2 : (N : Int) ≤ (p : Int) + (m : Int) := by omega
     have hd := HDd.out
     rw [leadN, if_neg (fun h => hin (by have := (h m hm1 hgo).1; omega))] at hd
     subst hd
     clear hall hpz hpw
     go_wp2_with fail
     go_ret2
     exact ⟨rfl, rfl⟩
   ·have x1 : ¬ (m : Int) ≤ 3 := by omega
    obtain rfl : m = 3 + 1 := by omega
    obtain rfl : q = 3 := by have := Hq.out; omega
    have x1 : ¬ ((3 : Int) + 1) ≤ 3 := by omega
    have hd := HDd.out
    rw [leadN, if_pos (fun j h1 h2 => hall.out j h1 (by omega))] at hd
    obtain ⟨c1, hc1⟩ : ∃ c1, sixN q0 b 3 = c1 := ⟨_, rfl⟩
    rw [hc1] at hd hpw ⊢
    have hc9 : c1 < 16777216 := Nat.lt_of_lt_of_le hpw (by decide)
    have w2 : IntKind.i32.wrap (c1 : Int) = (c1 : Int) := by rw [IntKind.wrap_i32]; omega
    have hcase : c1 < 65536 ∨ (¬ c1 < 65536 ∧ 1114111 < c1) ∨ (¬ c1 < 65536 ∧ ¬ 1114111 < c1 ∧ 55296 ≤ c1 ∧ c1 ≤ 57343) ∨ (¬ c1 < 65536 ∧ ¬ 1114111 < c1 ∧ 55296 ≤ c1 ∧ ¬ c1 ≤ 57343) ∨ (¬ c1 < 65536 ∧ ¬ 1114111 < c1 ∧ ¬ 55296 ≤ c1) := by omega
    clear hall hc1 hpw
    rcases hcase with u1 | ⟨u1, u2⟩ | ⟨u1, u2, u3, u4⟩ | ⟨u1, u2, u3, u4⟩ | ⟨u1, u2, u3⟩
    ·rw [if_pos (by omega)] at hd
     subst hd
     have v1 : (c1 : Int) < 65536 := by omega
     go_wp2_with fail
     go_ret2
     exact ⟨rfl, rfl⟩
    ·rw [if_pos (by omega)] at hd
     subst hd
     have v1 : ¬ (c1 : Int) < 65536 := by omega
     have v2 : (c1 : Int) > 1114111 := by omega
     go_wp2_with fail
     go_ret2
     exact ⟨rfl, rfl⟩
    ·rw [if_pos (by omega)] at hd
     subst hd
     have v1 : ¬ (c1 : Int) < 65536 := by omega
     have v2 : ¬ (c1 : Int) > 1114111 := by omega
     have v3 : (55296 : Int) ≤ (c1 : Int) := by omega
     have v4 : (c1 : Int) ≤ 57343 := by omega
     go_wp2_with fail
     go_ret2
     exact ⟨rfl, rfl⟩
    ·rw [if_neg (by omega)] at hd
     subst hd
     have v1 : ¬ (c1 : Int) < 65536 := by omega
     have v2 : ¬ (c1 : Int) > 1114111 := by omega
     have v3 : (55296 : Int) ≤ (c1 : Int) := by omega
     have v4 : ¬ (c1 : Int) ≤ 57343 := by omega
     go_wp2_with fail
     go_ret2
     exact ⟨rfl, rfl⟩
    ·rw [if_neg (by omega)] at hd
     subst hd
     have v1 : ¬ (c1 : Int) < 65536 := by omega
     have v2 : ¬ (c1 : Int) > 1114111 := by omega
     have v3 : ¬ (55296 : Int) ≤ (c1 : Int) := by omega
     go_wp2_with fail
     go_ret2
     exact ⟨rfl, rfl⟩
 have hd := HD.out
 rw [if_neg h1, if_neg h2, if_neg h3, if_neg h4] at hd
 subst hd
 have hcase : c0 < 192 ∨ 248 ≤ c0 := by omega
 rcases hcase with u | u
 ·have g0 : ¬ (192 : Int) ≤ (c0 : Int) := by omega
  have g1 : ¬ (224 : Int) ≤ (c0 : Int) := by omega
  have g2 : ¬ (240 : Int) ≤ (c0 : Int) := by omega
  go_wp2_with fail
  go_ret2
  exact ⟨rfl, rfl⟩
 ·have g0 : (192 : Int) ≤ (c0 : Int) := by omega
  have g0b : ¬ (c0 : Int) < 224 := by omega
  have g1 : (224 : Int) ≤ (c0 : Int) := by omega
  have g1b : ¬ (c0 : Int) < 240 := by omega
  have g2 : (240 : Int) ≤ (c0 : Int) := by omega
  have g2b : ¬ (c0 : Int) < 248 := by omega
  go_wp2_with fail
  go_ret2
  exact ⟨rfl, rfl⟩
end Go.Proofs.YtecejnilajbdpaaGreatDoor
