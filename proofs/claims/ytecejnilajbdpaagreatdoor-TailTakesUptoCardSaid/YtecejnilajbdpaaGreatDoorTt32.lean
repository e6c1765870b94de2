import Derived.Test.YtecejnilajbdpaaGreatDoorTt31
/-! autom: node of a repetition -/
namespace Go.Proofs.YtecejnilajbdpaaGreatDoor
open Go.RowKit Garner
set_option maxRecDepth 100000 in
set_option maxHeartbeats 16000000 in
theorem nodeRepN {F : Nat → Prop} {W0 : World} {B0 : Nat} {A : Option Addr} {c : Nat} {ns : List NodeP} (hN : NodesIs F W0 B0 (.slice A ns.length c) ns) (t : Re) (mn : Nat) (hmn : mn ≤ 8) (ih : CodeC W0 A c ns t) : CodeC W0 A c ns (.rep t mn none) := by
  intro b w g ins hat hBg hp hb hsz
  have hn := last_at (t := .rep t mn none) (l := t.flat b) rfl (by rw [flat_len]; rfl) hat
  have hat2 : AtN ns b (t.flat b) := AtN.left (m := [_]) hat
  have hkl := (List.getElem?_eq_some_iff.1 hn).1
  obtain ⟨gN, d, rfl, hd, hok, hgN, hcell⟩ := hN.node hn
  obtain ⟨k, hk⟩ : ∃ k, b + Re.cnt (.rep t mn none) - 1 = k := ⟨_, rfl⟩
  rw [hk] at hn hkl hcell ⊢
  have cc : ∀ j, j < 5 → w.cell? ⟨gN, k * 5 + j, none⟩ = d.cells[j]? := fun j hj => by
    rw [hb.cell (p := ⟨gN, k * 5 + j, none⟩) hgN, hcell j hj]
  have c0 : w.cell? ⟨gN, k * 5, none⟩ = some (.int .i64 (d.n.kind : Nat)) := cc 0 (by omega)
  have c1 : w.cell? ⟨gN, k * 5 + 1, none⟩ = some (.slice d.kA d.n.kids.length d.kc) := cc 1 (by omega)
  have c2 : w.cell? ⟨gN, k * 5 + 2, none⟩ = some (.int .i64 (d.n.mn : Nat)) := cc 2 (by omega)
  have c3 : w.cell? ⟨gN, k * 5 + 3, none⟩ = some (.int .i64 d.n.mx) := cc 3 (by omega)
  have c4 : w.cell? ⟨gN, k * 5 + 4, none⟩ = some (.slice d.sA d.n.set.length d.sc) := cc 4 (by omega)
  have hkids := hok.kids
  rw [hd] at c0 c1 c2 c3 c4 hkids
  have hg := hp.lt
  have f0 : w.cell? ⟨g, 0, none⟩ = some (.slice (some ⟨gN, 0, none⟩) ns.length c) := by
    obtain ⟨O, m, h1, -⟩ := hp.ex
    exact h1.cell 0
  obtain ⟨sA, hsA⟩ : ∃ sA, d.sA = sA := ⟨_, rfl⟩
  obtain ⟨sc, hsc⟩ : ∃ sc, d.sc = sc := ⟨_, rfl⟩
  obtain ⟨kA, hkA⟩ : ∃ kA, d.kA = kA := ⟨_, rfl⟩
  obtain ⟨kc, hkc⟩ : ∃ kc, d.kc = kc := ⟨_, rfl⟩
  rw [hsA, hsc] at c4
  rw [hkA, hkc] at c1
  rw [hkA] at hkids
  dsimp only at c1 c2 c3 hkids
  have hbX : Below w.heap.size w (w.alloc (.cells #[.int .i64 5, .slice kA 1 kc, .int .i64 (mn : Nat), .int .i64 (-1), .slice sA 0 sc] 182)) := (Below.refl _ _).alloc (Nat.le_refl _) _
  have pX := hp.below hbX
  have qX := QK.of_below hbX hb.size
  have z1 : (k : Int) < (ns.length : Int) := by omega
  have he := vRepN ih mn b hat2 hmn kA kc sA sc _ g ins hkids hBg pX (QK.from hb qX) hsz
  have He := Lib.hid he; have QX := Lib.hid qX
  clear hcell cc hok hp pX hb hbX hat hat2 hn hN qX hkids ih hsz he
  go_enter Tryz.func93, Tryz.ntmps93
  go_wp2_with fail
  refine He.out.mono ?_
  rintro e w2 ⟨rfl, p2, q2⟩
  have P2 := Lib.hid p2; have Q2 := Lib.hid q2
  clear p2 q2
  go_wp2
  go_end0
  exact ⟨rfl, P2.out, QX.out.trans Q2.out⟩
set_option maxRecDepth 100000 in
set_option maxHeartbeats 16000000 in
theorem nodeRepM {F : Nat → Prop} {W0 : World} {B0 : Nat} {A : Option Addr} {c : Nat} {ns : List NodeP} (hN : NodesIs F W0 B0 (.slice A ns.length c) ns) (t : Re) (mn mx : Nat) (hmn : mn ≤ 8) (hmx : mx ≤ 8) (hle : mn ≤ mx) (ih : CodeC W0 A c ns t) : CodeC W0 A c ns (.rep t mn (some mx)) := by
  intro b w g ins hat hBg hp hb hsz
  have hn := last_at (t := .rep t mn (some mx)) (l := t.flat b) rfl (by rw [flat_len]; rfl) hat
  have hat2 : AtN ns b (t.flat b) := AtN.left (m := [_]) hat
  have hkl := (List.getElem?_eq_some_iff.1 hn).1
  obtain ⟨gN, d, rfl, hd, hok, hgN, hcell⟩ := hN.node hn
  obtain ⟨k, hk⟩ : ∃ k, b + Re.cnt (.rep t mn (some mx)) - 1 = k := ⟨_, rfl⟩
  rw [hk] at hn hkl hcell ⊢
  have cc : ∀ j, j < 5 → w.cell? ⟨gN, k * 5 + j, none⟩ = d.cells[j]? := fun j hj => by
    rw [hb.cell (p := ⟨gN, k * 5 + j, none⟩) hgN, hcell j hj]
  have c0 : w.cell? ⟨gN, k * 5, none⟩ = some (.int .i64 (d.n.kind : Nat)) := cc 0 (by omega)
  have c1 : w.cell? ⟨gN, k * 5 + 1, none⟩ = some (.slice d.kA d.n.kids.length d.kc) := cc 1 (by omega)
  have c2 : w.cell? ⟨gN, k * 5 + 2, none⟩ = some (.int .i64 (d.n.mn : Nat)) := cc 2 (by omega)
  have c3 : w.cell? ⟨gN, k * 5 + 3, none⟩ = some (.int .i64 d.n.mx) := cc 3 (by omega)
  have c4 : w.cell? ⟨gN, k * 5 + 4, none⟩ = some (.slice d.sA d.n.set.length d.sc) := cc 4 (by omega)
  have hkids := hok.kids
  rw [hd] at c0 c1 c2 c3 c4 hkids
  have hg := hp.lt
  have f0 : w.cell? ⟨g, 0, none⟩ = some (.slice (some ⟨gN, 0, none⟩) ns.length c) := by
    obtain ⟨O, m, h1, -⟩ := hp.ex
    exact h1.cell 0
  obtain ⟨sA, hsA⟩ : ∃ sA, d.sA = sA := ⟨_, rfl⟩
  obtain ⟨sc, hsc⟩ : ∃ sc, d.sc = sc := ⟨_, rfl⟩
  obtain ⟨kA, hkA⟩ : ∃ kA, d.kA = kA := ⟨_, rfl⟩
  obtain ⟨kc, hkc⟩ : ∃ kc, d.kc = kc := ⟨_, rfl⟩
  rw [hsA, hsc] at c4
  rw [hkA, hkc] at c1
  rw [hkA] at hkids
  dsimp only at c1 c2 c3 hkids
  have hbX : Below w.heap.size w (w.alloc (.cells #[.int .i64 5, .slice kA 1 kc, .int .i64 (mn : Nat), .int .i64 (mx : Nat), .slice sA 0 sc] 182)) := (Below.refl _ _).alloc (Nat.le_refl _) _
  have pX := hp.below hbX
  have qX := QK.of_below hbX hb.size
  have z1 : (k : Int) < (ns.length : Int) := by omega
  have he := vRepM ih mn mx b hat2 hmn hmx hle kA kc sA sc _ g ins hkids hBg pX (QK.from hb qX) hsz
  have He := Lib.hid he; have QX := Lib.hid qX
  clear hcell cc hok hp pX hb hbX hat hat2 hn hN qX hkids ih hsz he
  go_enter Tryz.func93, Tryz.ntmps93
  go_wp2_with fail
  refine He.out.mono ?_
  rintro e w2 ⟨rfl, p2, q2⟩
  have P2 := Lib.hid p2; have Q2 := Lib.hid q2
  clear p2 q2
  go_wp2
  go_end0
  exact ⟨rfl, P2.out, QX.out.trans Q2.out⟩
end Go.Proofs.YtecejnilajbdpaaGreatDoor

/-! autom: alt -/
namespace Go.Proofs.YtecejnilajbdpaaGreatDoor
open Go.RowKit Garner
/-- kids behind a fork and before an out -/
def altP : List Re → Nat → Nat → List InstP
  | [], _, _ => []
  | t :: ts, p, e => ⟨1, p + 1, p + (t.len + 2), []⟩ :: (t.code (p + 1) ++ (⟨1, e, e, []⟩ :: altP ts (p + (t.len + 2)) e))
def altPL : List Re → Nat
  | [] => 0
  | t :: ts => (t.len + 2) + altPL ts
def outP : List Re → Nat → List Nat
  | [], _ => []
  | t :: ts, p => (p + (t.len + 1)) :: outP ts (p + (t.len + 2))
theorem altP_len : ∀ (ts : List Re) (p e : Nat), (altP ts p e).length = altPL ts
  | [], _, _ => rfl
  | t :: ts, p, e => by simp only [altP, altPL, List.length_cons, List.length_append, code_len, altP_len ts]; omega
theorem outP_len : ∀ (ts : List Re) (p : Nat), (outP ts p).length = ts.length
  | [], _ => rfl
  | t :: ts, p => by simp only [outP, List.length_cons, outP_len ts]
theorem altP_snoc : ∀ (ts : List Re) (t : Re) (p e : Nat), altP (ts ++ [t]) p e = altP ts p e ++ (⟨1, p + altPL ts + 1, p + altPL ts + (t.len + 2), []⟩ :: (t.code (p + altPL ts + 1) ++ [⟨1, e, e, []⟩]))
  | [], t, p, e => by simp [altP, altPL]
  | u :: ts, t, p, e => by
    have ih := altP_snoc ts t (p + (u.len + 2)) e
    rw [show p + (u.len + 2) + altPL ts = p + altPL (u :: ts) by rw [altPL]; omega] at ih
    rw [List.cons_append, altP, ih, altP]
    simp
theorem altPL_snoc : ∀ (ts : List Re) (t : Re), altPL (ts ++ [t]) = altPL ts + (t.len + 2)
  | [], t => by simp [altPL]
  | u :: ts, t => by rw [List.cons_append, altPL, altPL_snoc ts t, altPL]; omega
theorem outP_snoc : ∀ (ts : List Re) (t : Re) (p : Nat), outP (ts ++ [t]) p = outP ts p ++ [p + altPL ts + (t.len + 1)]
  | [], t, p => by simp [outP, altPL]
  | u :: ts, t, p => by
    have ih := outP_snoc ts t (p + (u.len + 2))
    rw [show p + (u.len + 2) + altPL ts = p + altPL (u :: ts) by rw [altPL]; omega] at ih
    rw [List.cons_append, outP, ih, outP]; rfl
theorem altC_snoc : ∀ (ts : List Re) (t : Re) (p e : Nat), altC (ts ++ [t]) p e = altP ts p e ++ t.code (p + altPL ts)
  | [], t, p, e => by simp [altP, altPL, altC]
  | [u], t, p, e => by simp [altP, altPL, altC]
  | u :: v :: ts, t, p, e => by
    have ih := altC_snoc (v :: ts) t (p + (u.len + 2)) e
    rw [show p + (u.len + 2) + altPL (v :: ts) = p + altPL (u :: v :: ts) by rw [altPL.eq_def (u :: v :: ts)]; dsimp only; omega] at ih
    show ⟨1, p + 1, p + (u.len + 2), []⟩ :: (u.code (p + 1) ++ (⟨1, e, e, []⟩ :: altC ((v :: ts) ++ [t]) (p + (u.len + 2)) e)) = _
    rw [ih, altP.eq_def (u :: v :: ts)]
    simp
theorem altLen_snoc : ∀ (ts : List Re) (t : Re), altLen (ts ++ [t]) = altPL ts + t.len
  | [], t => by simp [altPL, altLen]
  | [u], t => by simp [altPL, altLen]
  | u :: v :: ts, t => by
    have ih := altLen_snoc (v :: ts) t
    show u.len + 2 + altLen ((v :: ts) ++ [t]) = _
    rw [ih, altPL.eq_def (u :: v :: ts)]
    dsimp only
    omega
end Go.Proofs.YtecejnilajbdpaaGreatDoor

