import Derived.Test.YtecejnilajbdpaaGreatDoorTz29
import Derived.Test.YtecejnilajbdpaaGreatDoorTz27
set_option maxRecDepth 100000
set_option maxHeartbeats 16000000
namespace Go.Proofs.YtecejnilajbdpaaGreatDoor
open Go.RowKit Garner
theorem nodeRepN {F : Nat → Prop} {W0 : World} {B0 : Nat} {A : Option Addr} {c : Nat} {ns : List NodeP} (hN : NodesIs F W0 B0 (.slice A ns.length c) ns) (t : Re) (mn : Nat) (hmn : mn ≤ 8) (ih : CodeC W0 A c ns t) : CodeC W0 A c ns (.rep t mn none) := by
 intro b w g ins hat hBg hp hb hsz
 have hn := last_at (t := .rep t mn none) (l := t.flat b) rfl (by rw [flat_len]; rfl) hat
 have hat2 : AtN ns b (t.flat b) := AtN.left (m := [_]) hat
 have hkl := (List.getElem?_eq_some_iff.1 hn).1
 obtain ⟨gN, d, rfl, hd, hok, hgN, hcell⟩ := hN.node hn
 obtain ⟨k, hk⟩ : ∃ k, b + Re.cnt (.rep t mn none) - 1 = k := ⟨_, rfl⟩
 rw [hk] at hn hkl hcell ⊢
 have cc : ∀ j, j < 5 → w.cell? ⟨gN, k * 5 + j, none⟩ = d.cells[j]? := fun j hj => by
  rw [hb.cell (p := ⟨gN, k * 5 + j, none⟩) hgN, hcell j hj]
 have c0 : w.cell? ⟨gN, k * 5, none⟩ = some (.int .i64 (d.n.kind : Nat)) := cc 0 (by omega)
 have c1 : w.cell? ⟨gN, k * 5 + 1, none⟩ = some (.slice d.kA d.n.kids.length d.kc) := cc 1 (by omega)
 have c2 : w.cell? ⟨gN, k * 5 + 2, none⟩ = some (.int .i64 (d.n.mn : Nat)) := cc 2 (by omega)
 have c3 : w.cell? ⟨gN, k * 5 + 3, none⟩ = some (.int .i64 d.n.mx) := cc 3 (by omega)
 have c4 : w.cell? ⟨gN, k * 5 + 4, none⟩ = some (.slice d.sA d.n.set.length d.sc) := cc 4 (by omega)
 have hkids := hok.kids
 rw [hd] at c0 c1 c2 c3 c4 hkids
 have hg := hp.lt
 have f0 : w.cell? ⟨g, 0, none⟩ = some (.slice (some ⟨gN, 0, none⟩) ns.length c) := by
  obtain ⟨O, m, h1, -⟩ := hp.ex
  exact h1.cell 0
 obtain ⟨sA, hsA⟩ : ∃ sA, d.sA = sA := ⟨_, rfl⟩
 obtain ⟨sc, hsc⟩ : ∃ sc, d.sc = sc := ⟨_, rfl⟩
 obtain ⟨kA, hkA⟩ : ∃ kA, d.kA = kA := ⟨_, rfl⟩
 obtain ⟨kc, hkc⟩ : ∃ kc, d.kc = kc := ⟨_, rfl⟩
 rw [hsA, hsc] at c4
 rw [hkA, hkc] at c1
 rw [hkA] at hkids
 dsimp only at c1 c2 c3 hkids
 have hbX : Below w.heap.size w (w.alloc (.cells #[.int .i64 5, .slice kA 1 kc, .int .i64 (mn : Nat), .int .i64 (-1), .slice sA 0 sc] 182)) := (Below.refl _ _).alloc (Nat.le_refl _) _
 have pX := hp.below hbX
 have qX := QK.of_below hbX hb.size
 have z1 : (k : Int) < (ns.length : Int) := by omega
 have he := vRepN ih mn b hat2 hmn kA kc sA sc _ g ins hkids hBg pX (QK.from hb qX) hsz
 have He := Lh he; have QX := Lh qX
 clear hcell cc hok hp pX hb hbX hat hat2 hn hN qX hkids ih hsz he
 go_enter Tryz.func93, Tryz.ntmps93
 go_wp2_with fail
 refine He.out.mono ?_
 rintro e w2 ⟨rfl, p2, q2⟩
 have P2 := Lh p2; have Q2 := Lh q2
 clear p2 q2
 go_wp2
 go_end0
 exact ⟨rfl, P2.out, QX.out.trans Q2.out⟩
theorem nodeRepM {F : Nat → Prop} {W0 : World} {B0 : Nat} {A : Option Addr} {c : Nat} {ns : List NodeP} (hN : NodesIs F W0 B0 (.slice A ns.length c) ns) (t : Re) (mn mx : Nat) (hmn : mn ≤ 8) (hmx : mx ≤ 8) (hle : mn ≤ mx) (ih : CodeC W0 A c ns t) : CodeC W0 A c ns (.rep t mn (some mx)) := by
 intro b w g ins hat hBg hp hb hsz
 have hn := last_at (t := .rep t mn (some mx)) (l := t.flat b) rfl (by rw [flat_len]; rfl) hat
 have hat2 : AtN ns b (t.flat b) := AtN.left (m := [_]) hat
 have hkl := (List.getElem?_eq_some_iff.1 hn).1
 obtain ⟨gN, d, rfl, hd, hok, hgN, hcell⟩ := hN.node hn
 obtain ⟨k, hk⟩ : ∃ k, b + Re.cnt (.rep t mn (some mx)) - 1 = k := ⟨_, rfl⟩
 rw [hk] at hn hkl hcell ⊢
 have cc : ∀ j, j < 5 → w.cell? ⟨gN, k * 5 + j, none⟩ = d.cells[j]? := fun j hj => by
  rw [hb.cell (p := ⟨gN, k * 5 + j, none⟩) hgN, hcell j hj]
 have c0 : w.cell? ⟨gN, k * 5, none⟩ = some (.int .i64 (d.n.kind : Nat)) := cc 0 (by omega)
 have c1 : w.cell? ⟨gN, k * 5 + 1, none⟩ = some (.slice d.kA d.n.kids.length d.kc) := cc 1 (by omega)
 have c2 : w.cell? ⟨gN, k * 5 + 2, none⟩ = some (.int .i64 (d.n.mn : Nat)) := cc 2 (by omega)
 have c3 : w.cell? ⟨gN, k * 5 + 3, none⟩ = some (.int .i64 d.n.mx) := cc 3 (by omega)
 have c4 : w.cell? ⟨gN, k * 5 + 4, none⟩ = some (.slice d.sA d.n.set.length d.sc) := cc 4 (by omega)
 have hkids := hok.kids
 rw [hd] at c0 c1 c2 c3 c4 hkids
 have hg := hp.lt
 have f0 : w.cell? ⟨g, 0, none⟩ = some (.slice (some ⟨gN, 0, none⟩) ns.length c) := by
  obtain ⟨O, m, h1, -⟩ := hp.ex
  exact h1.cell 0
 obtain ⟨sA, hsA⟩ : ∃ sA, d.sA = sA := ⟨_, rfl⟩
 obtain ⟨sc, hsc⟩ : ∃ sc, d.sc = sc := ⟨_, rfl⟩
 obtain ⟨kA, hkA⟩ : ∃ kA, d.kA = kA := ⟨_, rfl⟩
 obtain ⟨kc, hkc⟩ : ∃ kc, d.kc = kc := ⟨_, rfl⟩
 rw [hsA, hsc] at c4
 rw [hkA, hkc] at c1
 rw [hkA] at hkids
 dsimp only at c1 c2 c3 hkids
 have hbX : Below w.heap.size w (w.alloc (.cells #[.int .i64 5, .slice kA 1 kc, .int .i64 (mn : Nat), .int .i64 (mx : Nat), .slice sA 0 sc] 182)) := (Below.refl _ _).alloc (Nat.le_refl _) _
 have pX := hp.below hbX
 have qX := QK.of_below hbX hb.size
 have z1 : (k : Int) < (ns.length : Int) := by omega
 have he := vRepM ih mn mx b hat2 hmn hmx hle kA kc sA sc _ g ins hkids hBg pX (QK.from hb qX) hsz
 have He := Lh he; have QX := Lh qX
 clear hcell cc hok hp pX hb hbX hat hat2 hn hN qX hkids ih hsz he
 go_enter Tryz.func93, Tryz.ntmps93
 go_wp2_with fail
 refine He.out.mono ?_
 rintro e w2 ⟨rfl, p2, q2⟩
 have P2 := Lh p2; have Q2 := Lh q2
 clear p2 q2
 go_wp2
 go_end0
 exact ⟨rfl, P2.out, QX.out.trans Q2.out⟩
def altP : List Re → Nat → Nat → List InstP
 | [], _, _ => []
 | t :: ts, p, e => ⟨1, p + 1, p + (t.len + 2), []⟩ :: (t.code (p + 1) ++ (⟨1, e, e, []⟩ :: altP ts (p + (t.len + 2)) e))
def altPL : List Re → Nat
 | [] => 0
 | t :: ts => (t.len + 2) + altPL ts
def outP : List Re → Nat → List Nat
 | [], _ => []
 | t :: ts, p => (p + (t.len + 1)) :: outP ts (p + (t.len + 2))
theorem altP_len : ∀ (ts : List Re) (p e : Nat), (altP ts p e).length = altPL ts
 | [], _, _ => rfl
 | t :: ts, p, e => by simp only [altP, altPL, List.length_cons, List.length_append, code_len, altP_len ts]; omega
theorem outP_len : ∀ (ts : List Re) (p : Nat), (outP ts p).length = ts.length
 | [], _ => rfl
 | t :: ts, p => by simp only [outP, List.length_cons, outP_len ts]
theorem altP_snoc : ∀ (ts : List Re) (t : Re) (p e : Nat), altP (ts ++ [t]) p e = altP ts p e ++ (⟨1, p + altPL ts + 1, p + altPL ts + (t.len + 2), []⟩ :: (t.code (p + altPL ts + 1) ++ [⟨1, e, e, []⟩]))
 | [], t, p, e => by simp [altP, altPL]
 | u :: ts, t, p, e => by
  have ih := altP_snoc ts t (p + (u.len + 2)) e
  rw [show p + (u.len + 2) + altPL ts = p + altPL (u :: ts) by rw [altPL]; omega] at ih
  rw [List.cons_append, altP, ih, altP]
  simp
theorem altPL_snoc : ∀ (ts : List Re) (t : Re), altPL (ts ++ [t]) = altPL ts + (t.len + 2)
 | [], t => by simp [altPL]
 | u :: ts, t => by rw [List.cons_append, altPL, altPL_snoc ts t, altPL]; omega
theorem outP_snoc : ∀ (ts : List Re) (t : Re) (p : Nat), outP (ts ++ [t]) p = outP ts p ++ [p + altPL ts + (t.len + 1)]
 | [], t, p => by simp [outP, altPL]
 | u :: ts, t, p => by
  have ih := outP_snoc ts t (p + (u.len + 2))
  rw [show p + (u.len + 2) + altPL ts = p + altPL (u :: ts) by rw [altPL]; omega] at ih
  rw [List.cons_append, outP, ih, outP]; rfl
theorem altC_snoc : ∀ (ts : List Re) (t : Re) (p e : Nat), altC (ts ++ [t]) p e = altP ts p e ++ t.code (p + altPL ts)
 | [], t, p, e => by simp [altP, altPL, altC]
 | [u], t, p, e => by simp [altP, altPL, altC]
 | u :: v :: ts, t, p, e => by
  have ih := altC_snoc (v :: ts) t (p + (u.len + 2)) e
  rw [show p + (u.len + 2) + altPL (v :: ts) = p + altPL (u :: v :: ts) by rw [altPL.eq_def (u :: v :: ts)]; dsimp only; omega] at ih
  show ⟨1, p + 1, p + (u.len + 2), []⟩ :: (u.code (p + 1) ++ (⟨1, e, e, []⟩ :: altC ((v :: ts) ++ [t]) (p + (u.len + 2)) e)) = _
  rw [ih, altP.eq_def (u :: v :: ts)]
  simp
theorem altLen_snoc : ∀ (ts : List Re) (t : Re), altLen (ts ++ [t]) = altPL ts + t.len
 | [], t => by simp [altPL, altLen]
 | [u], t => by simp [altPL, altLen]
 | u :: v :: ts, t => by
  have ih := altLen_snoc (v :: ts) t
  show u.len + 2 + altLen ((v :: ts) ++ [t]) = _
  rw [ih, altPL.eq_def (u :: v :: ts)]
  dsimp only
  omega
theorem below_set {B : Nat} {U W : World} (h : Below B U W) (p : Addr) (u : Value) : Below B (U.setCell p u) (W.setCell p u) :=
 ⟨h.os, h.tape, h.output, by simpa [World.setCell] using h.size, fun k hk => by simp [World.setCell, Array.getElem?_modify, h.block k hk]⟩
theorem size_set (U : World) (p : Addr) (u : Value) : (U.setCell p u).heap.size = U.heap.size := by simp [World.setCell]
structure QU (F : Nat → Prop) (U W : World) (g N : Nat) (rs : List Nat) (ns : List NodeP) (deep most : Nat) : Prop where
 qs : QS F U g N rs ns deep most
 low : Below U.heap.size U W
structure QUX (U W : World) (g n : Nat) : Prop where
 qx : QX U g n
 low : Below U.heap.size U W
section
variable {F : Nat → Prop} {U W : World} {g N : Nat} {rs : List Nat} {ns : List NodeP} {deep most : Nat}
theorem QU.at_ (h : QU F U W g N rs ns deep most) : QS F W g N rs ns deep most := h.qs.below h.low
theorem QUX.at_ {n : Nat} (h : QUX U W g n) : QX W g n := h.qx.below h.low
theorem QU.below {W' : World} (h : QU F U W g N rs ns deep most) (hb : Below U.heap.size W W') : QU F U W' g N rs ns deep most := ⟨h.qs, h.low.trans hb⟩
theorem QUX.below {W' : World} {n : Nat} (h : QUX U W g n) (hb : Below U.heap.size W W') : QUX U W' g n := ⟨h.qx, h.low.trans hb⟩
theorem QU.bad (h : QU F U W g N rs ns deep most) : ∃ U', U'.heap.size = U.heap.size ∧ QUX U' (W.setCell ⟨g, 5, none⟩ (.bool true)) g ns.length ∧ QP g U U' := by
 obtain ⟨h1, h2⟩ := h.qs.bad
 refine ⟨U.setCell ⟨g, 5, none⟩ (.bool true), size_set _ _ _, ⟨h1, ?_⟩, h2⟩
 rw [size_set]
 exact below_set h.low _ _
theorem QUX.bad {n : Nat} (h : QUX U W g n) : ∃ U', U'.heap.size = U.heap.size ∧ QUX U' (W.setCell ⟨g, 5, none⟩ (.bool true)) g n ∧ QP g U U' := by
 obtain ⟨h1, h2⟩ := h.qx.bad
 refine ⟨U.setCell ⟨g, 5, none⟩ (.bool true), size_set _ _ _, ⟨h1, ?_⟩, h2⟩
 rw [size_set]
 exact below_set h.low _ _
theorem QU.step {a : Nat} {r : List Nat} (h : QU F U W g N (a :: r) ns deep most) : ∃ p : Nat, W.cell? ⟨g, 1, none⟩ = some (.int .i64 (p : Nat)) ∧ W.frozen? ⟨g, 1, none⟩ = false ∧ p ≤ 200 ∧ But [g] W (W.setCell ⟨g, 1, none⟩ (.int .i64 ((p : Int) + 1))) ∧ ∃ U', U'.heap.size = U.heap.size ∧ QU F U' (W.setCell ⟨g, 1, none⟩ (.int .i64 ((p : Int) + 1))) g N r ns deep most ∧ QP g U U' := by
 obtain ⟨p, h1, h2, h3, h4, h5⟩ := h.qs.step
 obtain ⟨p', h1', h2', -⟩ := h.at_.step
 obtain rfl : p' = p := by
  have := h.low.cell (p := ⟨g, 1, none⟩) h.qs.lt
  rw [h1', h1] at this
  injection this with e; injection e with _ e; omega
 refine ⟨p', h1', h2', h3, (But.refl [g] W).setCell (p := ⟨g, 1, none⟩) (by simp) _, U.setCell ⟨g, 1, none⟩ (.int .i64 ((p' : Int) + 1)), size_set _ _ _, ⟨h4, ?_⟩, h5⟩
 rw [size_set]
 exact below_set h.low _ _
theorem uIs (ch : Nat) (U W : World) (g N : Nat) (rs : List Nat) (ns : List NodeP) (deep most : Nat) (h : QU F U W g N rs ns deep most) :
  Calls Tryz.prog 111 #[.pointer (some ⟨g, 0, none⟩), .int .i32 (ch : Nat)] W fun e W' => e = .returned (.bool (decide (rs.head? = some ch))) ∧ But [g] W W' ∧ ∃ U', U'.heap.size = U.heap.size ∧ QU F U' W' g N (if rs.head? = some ch then rs.tail else rs) ns deep most ∧ QP g U U' := by
 by_cases hc : rs.head? = some ch
 ·obtain ⟨r, rfl⟩ : ∃ r, rs = ch :: r := by
   cases rs with
   | nil => cases hc
   | cons a r => injection hc with hc; exact ⟨r, by rw [hc]⟩
  rw [if_pos hc, decide_eq_true hc]
  show Calls _ _ _ _ fun e W' => e = .returned (.bool true) ∧ But [g] W W' ∧ ∃ U', U'.heap.size = U.heap.size ∧ QU F U' W' g N r ns deep most ∧ QP g U U'
  have hp := qPeek g N W _ ns deep most h.at_
  have e0 : peekV (ch :: r) = (ch : Int) := rfl
  rw [e0] at hp
  have HP := Lh hp; have H := Lh h
  clear hp h e0 hc
  go_enter Tryz.func111, Tryz.ntmps111
  go_wp2_with fail
  refine HP.out.mono ?_
  rintro e w1 ⟨rfl, hb⟩
  obtain ⟨p, c1, f1, hp2, hbt, hq⟩ := (H.out.below (hb.mono H.out.low.size)).step
  have w1' : IntKind.i64.wrap ((p : Int) + 1) = (p : Int) + 1 := by rw [IntKind.wrap_i64]; omega
  have HQ := Lh hq; have HB := Lh ((But.of_below (S := [g]) hb).trans hbt)
  clear hq hbt
  go_wp2
  go_ret
  exact ⟨rfl, HB.out, HQ.out⟩
 rw [if_neg hc, decide_eq_false hc]
 exact (qIs_no ch g N W rs ns deep most h.at_ hc).mono fun _ _ ⟨h1, h2⟩ => ⟨h1, .of_below h2, U, rfl, h.below (h2.mono h.low.size), .refl _ _⟩
theorem uxIs (ch : Nat) (U W : World) (g n : Nat) (h : QUX U W g n) :
  Calls Tryz.prog 111 #[.pointer (some ⟨g, 0, none⟩), .int .i32 (ch : Nat)] W fun e W' => e = .returned (.bool false) ∧ But [g] W W' ∧ QUX U W' g n :=
 (xIs ch g n W h.at_).mono fun _ _ ⟨h1, h2⟩ => ⟨h1, .of_below h2, h.below (h2.mono h.low.size)⟩
theorem uDigit (U W : World) (g N : Nat) (rs : List Nat) (ns : List NodeP) (deep most : Nat) (h : QU F U W g N rs ns deep most) :
  Calls Tryz.prog 159 #[.pointer (some ⟨g, 0, none⟩)] W fun e W' => But [g] W W' ∧ ∃ U', U'.heap.size = U.heap.size ∧ QP g U U' ∧ ((∃ d r, digR rs = some (d, r) ∧ d ≤ 8 ∧ e = .returned (.int .i64 (d : Nat)) ∧ QU F U' W' g N r ns deep most) ∨ (digR rs = none ∧ e = .returned (.int .i64 0) ∧ QUX U' W' g ns.length)) := by
 have hp := qPeek g N W rs ns deep most h.at_
 have HP := Lh hp; have H := Lh h
 clear hp
 by_cases hok : ∃ a r, rs = a :: r ∧ 48 ≤ a ∧ a ≤ 56
 ·obtain ⟨a, r, rfl, h1, h2⟩ := hok
  have e0 : peekV (a :: r) = (a : Int) := rfl
  have e1 : digR (a :: r) = some (a - 48, r) := if_pos ⟨h1, h2⟩
  have hp2 := HP.out
  rw [e0] at hp2
  have HP2 := Lh hp2; have E1 := Lh e1
  have z1 : ¬ (a : Int) < 48 := by omega
  have z2 : ¬ (a : Int) > 56 := by omega
  have z3 : IntKind.i64.wrap (a : Int) = (a : Int) := by rw [IntKind.wrap_i64]; omega
  have z4 : IntKind.i64.wrap ((a : Int) - 48) = ((a - 48 : Nat) : Int) := by rw [IntKind.wrap_i64]; omega
  clear hp2 HP e0 e1 h
  go_enter Tryz.func159, Tryz.ntmps159
  go_wp2_with fail
  refine HP2.out.mono ?_
  rintro e w1 ⟨rfl, hb⟩
  obtain ⟨p, c1, f1, hp2, hbt, hq⟩ := (H.out.below (hb.mono H.out.low.size)).step
  have w1' : IntKind.i64.wrap ((p : Int) + 1) = (p : Int) + 1 := by rw [IntKind.wrap_i64]; omega
  have HQ := Lh hq; have HB := Lh ((But.of_below (S := [g]) hb).trans hbt)
  clear hq hbt
  go_wp2
  go_ret
  obtain ⟨U', u1, u2, u3⟩ := HQ.out
  exact ⟨HB.out, U', u1, u3, .inl ⟨a - 48, r, E1.out, by omega, rfl, u2⟩⟩
 have e1 : digR rs = none := by
  cases rs with
  | nil => rfl
  | cons a r => exact if_neg fun h => hok ⟨a, r, rfl, h.1, h.2⟩
 have hv : peekV rs < 48 ∨ (¬ peekV rs < 48 ∧ peekV rs > 56) := by
  cases rs with
  | nil => left; show (-1 : Int) < 48; omega
  | cons a r =>
   show ((a : Nat) : Int) < 48 ∨ (¬ ((a : Nat) : Int) < 48 ∧ ((a : Nat) : Int) > 56)
   rcases Nat.lt_or_ge a 48 with h | h
   ·left; omega
   right
   refine ⟨by omega, ?_⟩
   rcases Nat.lt_or_ge 56 a with h2 | h2
   ·omega
   exact absurd ⟨a, r, rfl, h, h2⟩ hok
 obtain ⟨v, hv2⟩ : ∃ v, peekV rs = v := ⟨_, rfl⟩
 have hp2 := HP.out
 rw [hv2] at hp2 hv
 have HP2 := Lh hp2; have E1 := Lh e1
 clear hp2 HP e1 hok hv2 h
 go_enter Tryz.func159, Tryz.ntmps159
 rcases hv with z1 | ⟨z1, z2⟩
 all_goals
  go_wp2_with fail
  refine HP2.out.mono ?_
  rintro e w1 ⟨rfl, hb⟩
  have hU := H.out.below (hb.mono H.out.low.size)
  obtain ⟨c5, f5⟩ := hU.at_.cell5
  have hq := hU.bad
  have HQ := Lh hq; have HB := Lh ((But.of_below (S := [g]) hb).trans ((But.refl [g] w1).setCell (p := ⟨g, 5, none⟩) (by simp) (.bool true)))
  clear hq hU
  go_wp2
  go_ret
  obtain ⟨U', u1, u2, u3⟩ := HQ.out
  exact ⟨HB.out, U', u1, u3, .inr ⟨E1.out, rfl, u2⟩⟩
end
open Go.RowKit Garner
structure ItI (w U W : World) (g kb nb kv : Nat) (mn mx : Int) : Prop where
 qp : QP g w U
 gl : g < U.heap.size
 k1 : U.heap.size ≤ kb
 k2 : kb < nb
 k3 : nb < W.heap.size
 kid : Blk W kb 3 [iv kv]
 blk : Blk W nb 182 [.int .i64 5, .slice (some ⟨kb, 0, none⟩) 1 1, .int .i64 mn, .int .i64 mx, .slice none 0 0]
section
variable {F : Nat → Prop} {w U U' W W' : World} {g N kb nb kv : Nat} {mn mx : Int}
theorem ItI.next (h : ItI w U W g kb nb kv mn mx) (hb : But [g] W W') (hs : U'.heap.size = U.heap.size) (hq : QP g U U') : ItI w U' W' g kb nb kv mn mx := by
 have := h.k1
 have := h.k2
 have := h.gl
 exact ⟨h.qp.trans hq, by rw [hs]; exact h.gl, by rw [hs]; exact h.k1, h.k2, Nat.lt_of_lt_of_le h.k3 hb.size, h.kid.but hb (by simp; omega), h.blk.but hb (by simp; omega)⟩
theorem ItI.min (h : ItI w U W g kb nb kv mn mx) (x : Int) : ItI w U (W.setCell ⟨nb, 2, none⟩ (.int .i64 x)) g kb nb kv x mx ∧ Below U.heap.size W (W.setCell ⟨nb, 2, none⟩ (.int .i64 x)) ∧ W.frozen? ⟨nb, 2, none⟩ = false := by
 have := h.k1
 have := h.k2
 exact ⟨⟨h.qp, h.gl, h.k1, h.k2, by rw [size_set]; exact h.k3, h.kid.far (by simp; omega) _, h.blk.set_ 2 _⟩, (Below.refl _ _).setCell (p := ⟨nb, 2, none⟩) (by simp; omega) _, h.blk.frozen 2⟩
theorem ItI.max (h : ItI w U W g kb nb kv mn mx) (x : Int) : ItI w U (W.setCell ⟨nb, 3, none⟩ (.int .i64 x)) g kb nb kv mn x ∧ Below U.heap.size W (W.setCell ⟨nb, 3, none⟩ (.int .i64 x)) ∧ W.frozen? ⟨nb, 3, none⟩ = false := by
 have := h.k1
 have := h.k2
 exact ⟨⟨h.qp, h.gl, h.k1, h.k2, by rw [size_set]; exact h.k3, h.kid.far (by simp; omega) _, h.blk.set_ 3 _⟩, (Below.refl _ _).setCell (p := ⟨nb, 3, none⟩) (by simp; omega) _, h.blk.frozen 3⟩
theorem ItI.cells (h : ItI w U W g kb nb kv mn mx) : W.cell? ⟨nb, 0, none⟩ = some (.int .i64 5) ∧ W.cell? ⟨nb, 1, none⟩ = some (.slice (some ⟨kb, 0, none⟩) 1 1) ∧ W.cell? ⟨nb, 2, none⟩ = some (.int .i64 mn) ∧ W.cell? ⟨nb, 3, none⟩ = some (.int .i64 mx) ∧ W.cell? ⟨nb, 4, none⟩ = some (.slice none 0 0) :=
 ⟨h.blk.cell 0, h.blk.cell 1, h.blk.cell 2, h.blk.cell 3, h.blk.cell 4⟩
theorem ItI.row (h : ItI w U W g kb nb kv mn mx) : RowT W 3 (some ⟨kb, 0, none⟩) 1 [iv kv] :=
 ⟨rfl, fun _ => ⟨kb, 0, _, _, rfl, h.kid, fun j u hu => by simpa using hu⟩⟩
theorem uRep {F1 : Nat → Prop} (t : Re) (mn : Nat) (mx : Option Nat) (kv : Nat) (mnv mxv : Int) (g N : Nat) (w U W : World) (r : List Nat) (ns : List NodeP) (deep mo : Nat) (hkv : ns.length + t.cnt - 1 = kv) (hmn : mnv = (mn : Int)) (hmx : mxv = mxI mx)
  (hI : ItI w U W g kb nb kv mnv mxv) (h : QU F1 U W g N r (ns ++ t.flat ns.length) deep mo) (hF1 : ∀ k, F1 k → Ext F w U k) (h0 : ∀ k, F k → k < w.heap.size) (hns : ns.length + t.cnt < 100000) :
  Calls Tryz.prog 113 #[.pointer (some ⟨g, 0, none⟩), .agg #[.int .i64 5, .slice (some ⟨kb, 0, none⟩) 1 1, .int .i64 mnv, .int .i64 mxv, .slice none 0 0]] W fun e w' =>
   QP g w w' ∧ e = .returned (.int .i64 ((ns.length + (Re.rep t mn mx).cnt - 1 : Nat) : Int)) ∧ QS (Ext F w w') w' g N r (ns ++ (Re.rep t mn mx).flat ns.length) deep mo := by
 subst hmn hmx
 have hwU := hI.qp.keep.size
 have hUW := h.low.size
 have hx : QS (Ext F w W) W g N r (ns ++ t.flat ns.length) deep mo := h.at_.mono (fun k hk => by
  rcases hF1 k hk with h | h
  ·exact .inl h
  exact .inr ⟨h.1, by omega⟩) (Ext.lt h0 (by omega))
 have hk1 := hI.k1
 have hk2 := hI.k2
 have hk3 := hI.k3
 have hd : NodeOk (Ext F w W) W ⟨⟨5, [kv], mn, mxI mx, []⟩, some ⟨kb, 0, none⟩, 1, none, 0⟩ :=
  ⟨hI.row, RowT.nil, fun a e => (by cases e; exact .inr ⟨by show w.heap.size ≤ kb; omega, by show kb < W.heap.size; omega⟩), fun a e => (by cases e)⟩
 refine (qNode ⟨⟨5, [kv], mn, mxI mx, []⟩, some ⟨kb, 0, none⟩, 1, none, 0⟩ g N _ r _ deep mo hx hd (by rw [List.length_append, flat_len]; exact hns)).mono ?_
 rintro e w2 ⟨rfl, h3, k3⟩
 have k2 := hI.qp.trans (.trans (.of_below h.low (Nat.le_of_lt hI.gl)) k3)
 have s3 := k3.keep.size
 refine ⟨k2, ?_, ?_⟩
 ·rw [List.length_append, flat_len]; rfl
 rw [rep_flat, hkv, ← List.append_assoc]
 refine h3.mono (fun k hk => ?_) (Ext.lt h0 (by omega))
 rcases hk with hk | hk
 ·exact .inl hk
 exact .inr ⟨hk.1, by omega⟩
theorem uRepX (K : Nat) (ns : List NodeP) (deep most n : Nat) (hI : ItI w U W g kb nb kv mn mx) (h : QUX U W g n) (hn : n + 1 ≤ ns.length + K) (hb : n < 1000000) :
  Calls Tryz.prog 113 #[.pointer (some ⟨g, 0, none⟩), .agg #[.int .i64 5, .slice (some ⟨kb, 0, none⟩) 1 1, .int .i64 mn, .int .i64 mx, .slice none 0 0]] W fun e w' =>
   ∃ x : Int, e = .returned (.int .i64 x) ∧ QP g w w' ∧ OutC K F none w g N ns deep most (.returned (.int .i64 x)) w' := by
 refine (xNode 5 mn mx (some ⟨kb, 0, none⟩) 1 1 none 0 0 g n W h.at_ (by omega)).mono ?_
 rintro e w2 ⟨rfl, h3, k3⟩
 exact ⟨_, rfl, hI.qp.trans (.trans (.of_below h.low (Nat.le_of_lt hI.gl)) k3), _, _, rfl, h3, hn⟩
end
end Go.Proofs.YtecejnilajbdpaaGreatDoor
namespace Garner
open Go
theorem dec_pos (l : Bs) (p : Nat) (h : p < l.length) : 1 ≤ (Utf8.decode ⟨l.toArray⟩ p).2 ∧ (Utf8.decode ⟨l.toArray⟩ p).1 ≤ 1114111 ∧ runesP (l.drop p) = (Utf8.decode ⟨l.toArray⟩ p).1 :: runesP (l.drop (p + (Utf8.decode ⟨l.toArray⟩ p).2)) ∧ Lib.validD (l.drop p) = (if (Utf8.decode ⟨l.toArray⟩ p).1 = 65533 ∧ (Utf8.decode ⟨l.toArray⟩ p).2 = 1 then false else Lib.validD (l.drop (p + (Utf8.decode ⟨l.toArray⟩ p).2))) := by
 have hd := Lib.decodeL_drop ⟨l.toArray⟩ p
 have e : (⟨l.toArray⟩ : ByteArray).data.toList = l := by simp
 rw [e] at hd
 have hne : l.drop p ≠ [] := fun e => by
  have := congrArg List.length e
  rw [List.length_drop] at this
  simp only [List.length_nil] at this
  omega
 refine ⟨by rw [← hd]; exact Lib.decodeL_width _, by rw [← hd]; exact Lib.decodeL_rune _, by rw [runes_step hne, hd, List.drop_drop], ?_⟩
 rw [Lib.validD_step _ hne, hd, List.drop_drop]
end Garner
namespace Go.Proofs.YtecejnilajbdpaaGreatDoor
open Go.RowKit Garner
def RunesAt (w0 : World) (l : Bs) (N : Nat) (v ok i : Value) (wr : World) : Prop := ∃ (p : Nat) (ov : Bool) (out : List Nat), p ≤ N ∧ i = .int .i64 p ∧ ok = .bool ov ∧ Hid (runesP l = out ++ runesP (l.drop p)) ∧ Hid (Lib.validD l = (ov && Lib.validD (l.drop p))) ∧ Hid (wr.ownsRow w0.heap.size 21 1 v out.length (out.map rv)) ∧ Hid (Below w0.heap.size w0 wr) ∧ out.length ≤ p
theorem vRunes (S : ByteArray) (l : Bs) (hS : S = ⟨l.toArray⟩) (w : World) (hl : l.length ≤ 1000000000000) :
  Calls Tryz.prog 49 #[.string S] w fun e w' => ∃ v, e = .returned (.tuple #[v, .bool (Lib.validD l)]) ∧ w'.ownsRow w.heap.size 21 1 v (runesP l).length ((runesP l).map rv) ∧ Below w.heap.size w w' := by
 have zS : S.size = l.length := by rw [hS]; exact str_size l
 obtain ⟨N, hN⟩ : ∃ N, l.length = N := ⟨_, rfl⟩
 have HS := Lh hS; have HN := Lh hN
 rw [hN] at zS hl
 clear hS hN
 go_enter Tryz.func49, Tryz.ntmps49
 go_wp2
 go_loopw [4, 5, 6] (fun v ok i wr => RunesAt w l N v ok i wr) (fun _ _ i _ => N - (intOf i).toNat)
 case atStart => exact ⟨0, true, [], Nat.zero_le _, rfl, rfl, Lh rfl, Lh rfl, Lh (World.ownsRow_nil _ _ _ _), Lh (Below.refl _ _), Nat.le_refl _⟩
 obtain ⟨p, ov, out, hp, rfl, rfl, hr, hv, hown, hbw, hol⟩ := hrel
 obtain ⟨wo, rfl⟩ : ∃ wo : World, wo = wr := ⟨_, rfl⟩
 obtain ⟨A3, c3, rfl, -⟩ := own_form hown.out
 obtain ⟨n3, hn3⟩ : ∃ n3, out.length = n3 := ⟨_, rfl⟩
 rw [hn3] at hown hol ⊢
 have Hn3 := Lh hn3
 clear hn3
 have hso := hbw.out.size
 by_cases hlt : p < N
 ·have z1 : (p : Int) < (N : Int) := by omega
  have hplen : p < l.length := by rw [HN.out]; exact hlt
  obtain ⟨d1, d2, d3, d4⟩ := dec_pos l p hplen
  have h1 := vOne S l HS.out p wo hplen (by rw [HN.out]; omega)
  have hdn : p + (Utf8.decode ⟨l.toArray⟩ p).2 ≤ N := by
   have hd := Lib.decodeL_drop ⟨l.toArray⟩ p
   have e : (⟨l.toArray⟩ : ByteArray).data.toList = l := by simp
   rw [e] at hd
   have hne : l.drop p ≠ [] := fun e => by
    have := congrArg List.length e
    rw [List.length_drop] at this
    simp only [List.length_nil] at this
    omega
   have := Lib.decodeL_le (l.drop p) hne
   rw [hd, List.length_drop, HN.out] at this
   omega
  obtain ⟨r, hrr⟩ : ∃ r, (Utf8.decode ⟨l.toArray⟩ p).1 = r := ⟨_, rfl⟩
  obtain ⟨q, hq⟩ : ∃ q, (Utf8.decode ⟨l.toArray⟩ p).2 = q := ⟨_, rfl⟩
  rw [hrr, hq] at h1 d3 d4
  rw [hrr] at d2
  rw [hq] at d1 hdn
  have wq : IntKind.i64.wrap ((p : Int) + (q : Int)) = ((p + q : Nat) : Int) := by rw [IntKind.wrap_i64]; omega
  have H1 := Lh h1
  have hr2 : runesP l = (out ++ [r]) ++ runesP (l.drop (p + q)) := by rw [hr.out, d3]; simp
  have Hr2 := Lh hr2; have D4 := Lh d4; have Hv := Lh hv.out; have Hbw := Lh hbw.out; have Hown := Lh hown.out
  clear h1 hr2 d3 d4 hr hv hbw hown hrr hq hplen
  go_wp2_with fail
  refine H1.out.mono ?_
  rintro e w1 ⟨rfl, hz⟩
  obtain rfl : wo = w1 := hz.symm
  clear H1
  go_upto_region 7 with (at_builtin; refine wpList_app _ rfl runeE rfl rfl (Hown.out.alloc _) rfl (row_new wo _ [_]) (by simp [Value.oneCell']) (by first | omega | (simp; omega)) (by simp; omega) ?_; intro v8 w8 own8 hg8 hb8 hx8)
  have hb9 : Below w.heap.size w w8 := (Hbw.out.alloc hso _).trans hb8
  have O8 := Lh own8; have B9 := Lh hb9
  clear own8 hg8 hb8 hx8 hb9
  have hcase : (q = 1 ∧ r = 65533) ∨ (q = 1 ∧ r ≠ 65533) ∨ q ≠ 1 := by omega
  rcases hcase with ⟨rfl, rfl⟩ | ⟨rfl, hr3⟩ | hq1
  ·have hv2 : Lib.validD l = (false && Lib.validD (l.drop (p + 1))) := by rw [Hv.out, D4.out, if_pos ⟨rfl, rfl⟩]; simp
   have HV2 := Lh hv2
   clear hv2
   go_wp2
   go_roundw
   case rel => exact ⟨p + 1, false, out ++ [65533], hdn, by first | rfl | go_num, rfl, Hr2, HV2, Lh (by rw [List.length_append, Hn3.out, List.map_append]; exact O8.out), B9, by rw [List.length_append, Hn3.out]; show n3 + 1 ≤ _; omega⟩
   case measure => simp [intOf]; omega
  ·have zr : ¬ (r : Int) = 65533 := by omega
   have hv2 : Lib.validD l = (ov && Lib.validD (l.drop (p + 1))) := by rw [Hv.out, D4.out, if_neg (fun h => hr3 h.1)]
   have HV2 := Lh hv2
   clear hv2 hr3
   go_wp2
   go_roundw
   case rel => exact ⟨p + 1, ov, out ++ [r], hdn, by first | rfl | go_num, rfl, Hr2, HV2, Lh (by rw [List.length_append, Hn3.out, List.map_append]; exact O8.out), B9, by rw [List.length_append, Hn3.out]; show n3 + 1 ≤ _; omega⟩
   case measure => simp [intOf]; omega
  have zq : ¬ (q : Int) = 1 := by omega
  have hv2 : Lib.validD l = (ov && Lib.validD (l.drop (p + q))) := by rw [Hv.out, D4.out, if_neg (fun h => hq1 h.2)]
  have HV2 := Lh hv2
  clear hv2 hq1
  go_wp2
  go_roundw
  case rel => exact ⟨p + q, ov, out ++ [r], hdn, by first | rfl | go_num, rfl, Hr2, HV2, Lh (by rw [List.length_append, Hn3.out, List.map_append]; exact O8.out), B9, by rw [List.length_append, Hn3.out]; show n3 + 1 ≤ _; omega⟩
  case measure => simp [intOf]; omega
 obtain rfl : p = N := by omega
 have z1 : ¬ (p : Int) < (p : Int) := by omega
 have hdr : l.drop p = [] := List.drop_eq_nil_of_le (by rw [HN.out]; exact Nat.le_refl _)
 have hr1 := hr.out
 have hv1 := hv.out
 rw [hdr, runes_nil, List.append_nil] at hr1
 rw [hdr, Lib.validD_nil, Bool.and_true] at hv1
 have HO := Lh hown.out; have HB := Lh hbw.out; have HR := Lh hr1; have HVv := Lh hv1
 clear hr1 hv1 hr hv hdr hown hbw
 go_wp2_with fail
 go_ret2
 exact ⟨_, by rw [HVv.out]; rfl, by rw [HR.out, Hn3.out]; exact HO.out, HB.out⟩
end Go.Proofs.YtecejnilajbdpaaGreatDoor
