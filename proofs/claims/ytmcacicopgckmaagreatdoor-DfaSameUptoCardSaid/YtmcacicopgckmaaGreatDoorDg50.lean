import Derived.Test.YtmcacicopgckmaaGreatDoorDg49
import Derived.Laws.CopyOwn
import Derived.BigQuiet
/-! garnerref19: Ends at leaves -/
namespace Go.Proofs.YtmcacicopgckmaaGreatDoor
open Go.RowKit Garner
theorem own_blkW {w : World} {B g n : Nat} {e : TypeId} {xs : List Value} (h : w.ownsRow B e 1 (.slice (some ⟨g, 0, none⟩) n n) n xs) : Blk w g e xs := by
  rcases h.2 with ⟨e1, _⟩ | ⟨g', cap, cur, e1, _, hh, _, _, hs, hx⟩
  · cases e1
  · injection e1 with e2 e3 e4
    injection e2 with e2
    injection e2 with e2
    subst e2; subst e4
    unfold Blk
    rw [hh, ← hx, List.take_of_length_le (by rw [Array.length_toList, hs]; exact Nat.le_refl _)]
theorem Blk.own {w : World} {B g n : Nat} {e : TypeId} {xs : List Value} (h : Blk w g e xs) (hB : B ≤ g) (hn : xs.length = n) (hm : n ≤ maxLen) : w.ownsRow B e 1 (.slice (some ⟨g, 0, none⟩) n n) n xs :=
  ⟨by omega, .inr ⟨g, n, xs.toArray, rfl, hB, h, Nat.le_refl _, hm, by simp [hn], by simp [List.take_of_length_le, hn]⟩⟩
theorem node_cells {F : Nat → Prop} {W0 : World} {B0 : Nat} {A : Option Addr} {c : Nat} {ns : List NodeP} (hN : NodesIs F W0 B0 (.slice A ns.length c) ns) {n : NodeP} {k : Nat} (hk : ns[k]? = some n) {w : World} (hb : Below W0.heap.size W0 w) :
    ∃ gN kA kc sA sc, A = some ⟨gN, 0, none⟩ ∧ gN < W0.heap.size ∧ w.cell? ⟨gN, k * 5, none⟩ = some (.int .i64 (n.kind : Nat)) ∧ w.cell? ⟨gN, k * 5 + 1, none⟩ = some (.slice kA n.kids.length kc) ∧ w.cell? ⟨gN, k * 5 + 2, none⟩ = some (.int .i64 (n.mn : Nat)) ∧ w.cell? ⟨gN, k * 5 + 3, none⟩ = some (.int .i64 n.mx) ∧ w.cell? ⟨gN, k * 5 + 4, none⟩ = some (.slice sA n.set.length sc) ∧ RowT w 3 kA n.kids.length (n.kids.map iv) ∧ RowT w 21 sA n.set.length (n.set.map rv) := by
  obtain ⟨gN, d, rfl, hd, hok, hgN, hcell⟩ := hN.node hk
  have cc : ∀ j, j < 5 → w.cell? ⟨gN, k * 5 + j, none⟩ = d.cells[j]? := fun j hj => by
    rw [hb.cell (p := ⟨gN, k * 5 + j, none⟩) hgN, hcell j hj]
  have h1 := hok.kids.below hb
  have h2 := hok.set.below hb
  subst hd
  exact ⟨gN, d.kA, d.kc, d.sA, d.sc, rfl, hgN, cc 0 (by omega), cc 1 (by omega), cc 2 (by omega), cc 3 (by omega), cc 4 (by omega), h1, h2⟩
/-- a tree's nodes and a text's runes in memory -/
structure EIn (W0 : World) (A : Option Addr) (c : Nat) (ns : List NodeP) (SA : Option Addr) (s : List Nat) (n m : Nat) : Prop where
  nodes : ∃ F B0, NodesIs F W0 B0 (.slice A ns.length c) ns
  few : ns.length ≤ 10000
  runes : RowT W0 21 SA n (s.map rv)
  len : s.length = n
  m_ : n + 1 = m
  small : n ≤ 1500000
  sets : ∀ nd ∈ ns, nd.set.length ≤ 100000
/-- what Ends and its like answer: a new row that tells the places of Q -/
def EndsO (w : World) (n m : Nat) (Q : Nat → Prop) (e : Ending) (w' : World) : Prop := ∃ C c2 M, e = .returned (.slice C m c2) ∧ w'.ownsRow w.heap.size 4 1 (.slice C m c2) m ((M : List Bool).map Value.bool) ∧ Below w.heap.size w w' ∧ IsP M n Q
def EndsC (W0 : World) (A : Option Addr) (c : Nat) (ns : List NodeP) (SA : Option Addr) (sc : Nat) (s : List Nat) (n m : Nat) (t : Re) : Prop :=
  ∀ (b : Nat) (w : World) (FA : Option Addr) (fc : Nat) (L : List Bool) (P : Nat → Prop), AtN ns b (t.flat b) → Below W0.heap.size W0 w → RowT w 4 FA m (L.map Value.bool) → IsP L n P →
    Calls Tryz.prog 46 #[.slice A ns.length c, .int .i64 ((b + t.cnt - 1 : Nat) : Int), .slice SA n sc, .slice FA m fc] w fun e w' => EndsO w n m (imgP n (t.M s) P) e w'
/-- copy(out, from) of rows that are as long -/
theorem run_copyB {w X : World} {FA : Option Addr} {g m B : Nat} {t : TypeId} {L : List Bool} {cur : List Value} (fc : Nat) (hF : RowT X 4 FA m (L.map Value.bool)) (hB : Blk X g t cur) (hb : Below B w X) (hBg : B ≤ g) (hm : 0 < m) (hc : cur.length = m := by simp) :
    ∃ Y, (Builtin.copy_ #[74, 74] 3 #[.slice (some ⟨g, 0, none⟩) m m, .slice FA m fc]).run Tryz.prog X = .ok (goInt m) Y ∧ Blk Y g t (L.map Value.bool) ∧ Below B w Y ∧ But [g] X Y := by
  have hl := hF.1
  obtain ⟨b, off, cs, z, rfl, hbb, hcc⟩ := hF.2 hm
  have h := run_copy_row (P := Tryz.prog) X 74 74 3 4 g 0 m m ⟨b, off, none⟩ m fc cur.toArray t (L.map Value.bool) Tryz.underlying74 (by kernel_rfl) hB (by rw [hl]; exact (Nat.min_self m).symm) (fun j v hj => by rw [addr_add]; simp only [World.cell?, hbb]; exact hcc j v hj) (by rw [hl, Nat.zero_add]; simp [hc]) (fun v hv => by obtain ⟨x, _, rfl⟩ := List.mem_map.1 hv; rfl)
  rw [hl] at h
  refine ⟨_, h, ?_, below_setRow hb hBg _, ⟨rfl, rfl, rfl, by simp, fun k _ hk => setRow_other X g k _ (by simpa using hk)⟩⟩
  have h2 := setRow_heap X g cur.toArray (cur.toArray.toList.take 0 ++ L.map Value.bool ++ cur.toArray.toList.drop (0 + m)).toArray t (0, 0) hB
  unfold Blk
  rw [h2]
  simp [List.drop_of_length_le, hc]
section
variable {W0 : World} {A : Option Addr} {c : Nat} {ns : List NodeP} {SA : Option Addr} {sc : Nat} {s : List Nat} {n m : Nat}
/-- Ends' beginning: a new row, and the node in a box -/
theorem ends_pre (E : EIn W0 A c ns SA s n m) {nd : NodeP} {k : Nat} (hk : ns[k]? = some nd) {w : World} (hb : Below W0.heap.size W0 w) :
    ∃ gN kA kc sA sc w1 X, A = some ⟨gN, 0, none⟩ ∧ k < ns.length ∧ (Instr.makeSlice 74 (.int .i64 m) (.int .i64 m)).run Tryz.prog w = .ok (.slice (some ⟨w.heap.size, 0, none⟩) m m) w1 ∧
      w1.cell? ⟨gN, k * 5, none⟩ = some (.int .i64 (nd.kind : Nat)) ∧ w1.cell? ⟨gN, k * 5 + 1, none⟩ = some (.slice kA nd.kids.length kc) ∧ w1.cell? ⟨gN, k * 5 + 2, none⟩ = some (.int .i64 (nd.mn : Nat)) ∧ w1.cell? ⟨gN, k * 5 + 3, none⟩ = some (.int .i64 nd.mx) ∧ w1.cell? ⟨gN, k * 5 + 4, none⟩ = some (.slice sA nd.set.length sc) ∧
      X = w1.alloc (.cells #[.int .i64 (nd.kind : Nat), .slice kA nd.kids.length kc, .int .i64 (nd.mn : Nat), .int .i64 nd.mx, .slice sA nd.set.length sc] 94) ∧ Below w.heap.size w X ∧
      Blk X w1.heap.size 94 [.int .i64 (nd.kind : Nat), .slice kA nd.kids.length kc, .int .i64 (nd.mn : Nat), .int .i64 nd.mx, .slice sA nd.set.length sc] ∧ w.heap.size < w1.heap.size ∧ Blk X w.heap.size 4 ((List.replicate m false).map Value.bool) ∧
      RowT w 3 kA nd.kids.length (nd.kids.map iv) ∧ RowT w 21 sA nd.set.length (nd.set.map rv) := by
  obtain ⟨F, B0, hN⟩ := E.nodes
  obtain ⟨gN, kA, kc, sA, sc2, rfl, hg, c0, c1, c2, c3, c4, r1, r2⟩ := node_cells hN hk hb
  have hm := E.m_
  have hsm := E.small
  obtain ⟨w1, hmk, own1, b1⟩ := mkBools m w (by omega)
  have s0 := hb.size
  have cc : ∀ j, w1.cell? ⟨gN, j, none⟩ = w.cell? ⟨gN, j, none⟩ := fun j => b1.cell (p := ⟨gN, j, none⟩) (by show gN < _; omega)
  have hbX : Below w1.heap.size w1 (w1.alloc (.cells #[.int .i64 (nd.kind : Nat), .slice kA nd.kids.length kc, .int .i64 (nd.mn : Nat), .int .i64 nd.mx, .slice sA nd.set.length sc2] 94)) := (Below.refl _ _).alloc (Nat.le_refl _) _
  have hlw := own1.lt w.heap.size rfl
  exact ⟨gN, kA, kc, sA, sc2, w1, _, rfl, (List.getElem?_eq_some_iff.1 hk).1, hmk, by rw [cc]; exact c0, by rw [cc]; exact c1, by rw [cc]; exact c2, by rw [cc]; exact c3, by rw [cc]; exact c4, rfl, b1.trans (hbX.mono b1.size), Blk.new w1 _ _, hlw.2, (own_blkW own1).below hbX hlw.2, r1, r2⟩
set_option maxRecDepth 100000 in
set_option maxHeartbeats 16000000 in
theorem ends_emp (E : EIn W0 A c ns SA s n m) : EndsC W0 A c ns SA sc s n m .emp := by
  intro b w FA fc L P hat hb hF hP
  have hk := last_at (t := .emp) (l := []) rfl rfl hat
  have hk' := List.mem_of_getElem? hk
  obtain ⟨k, hk0⟩ : ∃ k, b + (Re.cnt (.emp)) - 1 = k := ⟨_, rfl⟩
  rw [hk0] at hk ⊢
  obtain ⟨gN, kA, kc, sA, sc2, w1, X, rfl, hkl, hmk, d0, d1, d2, d3, d4, eX, hwX, bX, hlw, bO, rK, rS⟩ := ends_pre E hk hb
  have hm := E.m_
  have hsm := E.small
  have hsl := E.len
  obtain ⟨N, hNl⟩ : ∃ N, ns.length = N := ⟨_, rfl⟩
  rw [hNl] at hkl ⊢
  have z1 : (k : Int) < (N : Int) := by omega
  have wm : IntKind.i64.wrap ((n : Int) + 1) = (m : Int) := by rw [IntKind.wrap_i64]; omega
  have k0 : w1.cell? ⟨gN, k * 5, none⟩ = some (.int .i64 1) := d0
  have k1 : w1.cell? ⟨gN, k * 5 + 1, none⟩ = some (.slice kA 0 kc) := d1
  have k2 : w1.cell? ⟨gN, k * 5 + 2, none⟩ = some (.int .i64 0) := d2
  have k3 : w1.cell? ⟨gN, k * 5 + 3, none⟩ = some (.int .i64 0) := d3
  have k4 : w1.cell? ⟨gN, k * 5 + 4, none⟩ = some (.slice sA 0 sc2) := d4
  have hX : X = w1.alloc (.cells #[.int .i64 1, .slice kA 0 kc, .int .i64 0, .int .i64 0, .slice sA 0 sc2] 94) := eX
  have x1 : X.cell? ⟨w1.heap.size, 1, none⟩ = some (.slice kA 0 kc) := bX.cell 1
  have x4 : X.cell? ⟨w1.heap.size, 4, none⟩ = some (.slice sA 0 sc2) := bX.cell 4
  have x2 : X.cell? ⟨w1.heap.size, 2, none⟩ = some (.int .i64 0) := bX.cell 2
  have x3 : X.cell? ⟨w1.heap.size, 3, none⟩ = some (.int .i64 0) := bX.cell 3
  have x0 : X.cell? ⟨w1.heap.size, 0, none⟩ = some (.int .i64 1) := bX.cell 0
  have HwX := Lib.hid hwX; have BO := Lib.hid bO; have HP := Lib.hid hP; have HM := Lib.hid hm; have BX := Lib.hid bX; have HF := Lib.hid hF; have RK := Lib.hid rK; have RS := Lib.hid rS; have HLW := Lib.hid hlw; have HAT := Lib.hid hat; have HB := Lib.hid hb
  clear hwX bO hP hm bX hF rK rS d0 d1 d2 d3 d4 eX hk hlw hat hk0 hb
  have hans : IsP L n (imgP n (Re.emp.M s) P) := HP.out.congr fun j hj => ⟨fun h => ⟨j, hj, h, rfl⟩, fun ⟨i, _, h1, h2⟩ => by
    have h2 : i = j := h2
    subst h2; exact h1⟩
  obtain ⟨Y, hcp, bY, hbY, -⟩ := run_copyB fc (HF.out.below HwX.out) BO.out HwX.out (Nat.le_refl _) (by have := HM.out; omega)
  have OY := Lib.hid (bY.own (B := w.heap.size) (n := m) (Nat.le_refl _) (by have := hans.1; have := HM.out; rw [List.length_map]; omega) (by have := HM.out; unfold maxLen; omega)); have HbY := Lib.hid hbY; have HA := Lib.hid hans
  clear bY hbY hans
  go_enter Tryz.func46, Tryz.ntmps46
  go_upto_region 3 with fail
  rw [← hX]
  clear hX k0 k1 k2 k3 k4 hmk
  go_wp2
  go_ret
  exact ⟨_, _, L, rfl, OY.out, HbY.out, HA.out⟩
set_option maxRecDepth 100000 in
set_option maxHeartbeats 16000000 in
theorem ends_bgn (E : EIn W0 A c ns SA s n m) : EndsC W0 A c ns SA sc s n m .bgn := by
  intro b w FA fc L P hat hb hF hP
  have hk := last_at (t := .bgn) (l := []) rfl rfl hat
  have hk' := List.mem_of_getElem? hk
  obtain ⟨k, hk0⟩ : ∃ k, b + (Re.cnt (.bgn)) - 1 = k := ⟨_, rfl⟩
  rw [hk0] at hk ⊢
  obtain ⟨gN, kA, kc, sA, sc2, w1, X, rfl, hkl, hmk, d0, d1, d2, d3, d4, eX, hwX, bX, hlw, bO, rK, rS⟩ := ends_pre E hk hb
  have hm := E.m_
  have hsm := E.small
  have hsl := E.len
  obtain ⟨N, hNl⟩ : ∃ N, ns.length = N := ⟨_, rfl⟩
  rw [hNl] at hkl ⊢
  have z1 : (k : Int) < (N : Int) := by omega
  have wm : IntKind.i64.wrap ((n : Int) + 1) = (m : Int) := by rw [IntKind.wrap_i64]; omega
  have k0 : w1.cell? ⟨gN, k * 5, none⟩ = some (.int .i64 6) := d0
  have k1 : w1.cell? ⟨gN, k * 5 + 1, none⟩ = some (.slice kA 0 kc) := d1
  have k2 : w1.cell? ⟨gN, k * 5 + 2, none⟩ = some (.int .i64 0) := d2
  have k3 : w1.cell? ⟨gN, k * 5 + 3, none⟩ = some (.int .i64 0) := d3
  have k4 : w1.cell? ⟨gN, k * 5 + 4, none⟩ = some (.slice sA 0 sc2) := d4
  have hX : X = w1.alloc (.cells #[.int .i64 6, .slice kA 0 kc, .int .i64 0, .int .i64 0, .slice sA 0 sc2] 94) := eX
  have x1 : X.cell? ⟨w1.heap.size, 1, none⟩ = some (.slice kA 0 kc) := bX.cell 1
  have x4 : X.cell? ⟨w1.heap.size, 4, none⟩ = some (.slice sA 0 sc2) := bX.cell 4
  have x2 : X.cell? ⟨w1.heap.size, 2, none⟩ = some (.int .i64 0) := bX.cell 2
  have x3 : X.cell? ⟨w1.heap.size, 3, none⟩ = some (.int .i64 0) := bX.cell 3
  have x0 : X.cell? ⟨w1.heap.size, 0, none⟩ = some (.int .i64 6) := bX.cell 0
  have HwX := Lib.hid hwX; have BO := Lib.hid bO; have HP := Lib.hid hP; have HM := Lib.hid hm; have BX := Lib.hid bX; have HF := Lib.hid hF; have RK := Lib.hid rK; have RS := Lib.hid rS; have HLW := Lib.hid hlw; have HAT := Lib.hid hat; have HB := Lib.hid hb
  clear hwX bO hP hm bX hF rK rS d0 d1 d2 d3 d4 eX hk hlw hat hk0 hb
  obtain ⟨x, hx, hxP⟩ := HP.out.at_ (Nat.zero_le n)
  have hans : IsP ((List.replicate (n + 1) false).set 0 x) n (imgP n (Re.bgn.M s) P) := (IsP.set_at n 0 (Nat.zero_le _) x).congr fun j hj => ⟨fun ⟨h1, h2⟩ => ⟨0, Nat.zero_le _, hxP.1 h2, h1.symm, rfl⟩, fun ⟨i, _, h1, h2, h3⟩ => by
    subst h3
    exact ⟨h2.symm, hxP.2 h1⟩⟩
  obtain ⟨ba, oa, rfl, ca⟩ := (HF.out.below HwX.out).at_ (k := 0) (u := .bool x) (by rw [List.getElem?_map, hx]; rfl)
  have ca' : X.cell? ⟨ba, oa, none⟩ = some (.bool x) := ca
  have cb : X.cell? ⟨w.heap.size, 0, none⟩ = some (.bool false) := by rw [BO.out.cell 0, ← HM.out]; simp [List.replicate_succ]
  have fb := BO.out.frozen 0
  have z0 : (0 : Int) < (m : Int) := by have := HM.out; omega
  have oY := ((BO.out.set_ 0 (.bool x)).own (B := w.heap.size) (n := m) (Nat.le_refl _) (by simp) (by have := HM.out; unfold maxLen; omega))
  rw [show ((List.replicate m false).map Value.bool).set 0 (.bool x) = ((List.replicate (n + 1) false).set 0 x).map Value.bool by rw [HM.out, List.map_set]] at oY
  have OY := Lib.hid oY; have HbY := Lib.hid (HwX.out.setCell (p := ⟨w.heap.size, 0, none⟩) (Nat.le_refl _) (.bool x)); have HA := Lib.hid hans
  clear oY hans ca hx hxP
  go_enter Tryz.func46, Tryz.ntmps46
  go_upto_region 3 with fail
  rw [← hX]
  clear hX k0 k1 k2 k3 k4 hmk
  go_wp2
  go_ret
  exact ⟨_, _, _, rfl, OY.out, HbY.out, HA.out⟩
set_option maxRecDepth 100000 in
set_option maxHeartbeats 16000000 in
theorem ends_fin (E : EIn W0 A c ns SA s n m) : EndsC W0 A c ns SA sc s n m .fin := by
  intro b w FA fc L P hat hb hF hP
  have hk := last_at (t := .fin) (l := []) rfl rfl hat
  have hk' := List.mem_of_getElem? hk
  obtain ⟨k, hk0⟩ : ∃ k, b + (Re.cnt (.fin)) - 1 = k := ⟨_, rfl⟩
  rw [hk0] at hk ⊢
  obtain ⟨gN, kA, kc, sA, sc2, w1, X, rfl, hkl, hmk, d0, d1, d2, d3, d4, eX, hwX, bX, hlw, bO, rK, rS⟩ := ends_pre E hk hb
  have hm := E.m_
  have hsm := E.small
  have hsl := E.len
  obtain ⟨N, hNl⟩ : ∃ N, ns.length = N := ⟨_, rfl⟩
  rw [hNl] at hkl ⊢
  have z1 : (k : Int) < (N : Int) := by omega
  have wm : IntKind.i64.wrap ((n : Int) + 1) = (m : Int) := by rw [IntKind.wrap_i64]; omega
  have k0 : w1.cell? ⟨gN, k * 5, none⟩ = some (.int .i64 7) := d0
  have k1 : w1.cell? ⟨gN, k * 5 + 1, none⟩ = some (.slice kA 0 kc) := d1
  have k2 : w1.cell? ⟨gN, k * 5 + 2, none⟩ = some (.int .i64 0) := d2
  have k3 : w1.cell? ⟨gN, k * 5 + 3, none⟩ = some (.int .i64 0) := d3
  have k4 : w1.cell? ⟨gN, k * 5 + 4, none⟩ = some (.slice sA 0 sc2) := d4
  have hX : X = w1.alloc (.cells #[.int .i64 7, .slice kA 0 kc, .int .i64 0, .int .i64 0, .slice sA 0 sc2] 94) := eX
  have x1 : X.cell? ⟨w1.heap.size, 1, none⟩ = some (.slice kA 0 kc) := bX.cell 1
  have x4 : X.cell? ⟨w1.heap.size, 4, none⟩ = some (.slice sA 0 sc2) := bX.cell 4
  have x2 : X.cell? ⟨w1.heap.size, 2, none⟩ = some (.int .i64 0) := bX.cell 2
  have x3 : X.cell? ⟨w1.heap.size, 3, none⟩ = some (.int .i64 0) := bX.cell 3
  have x0 : X.cell? ⟨w1.heap.size, 0, none⟩ = some (.int .i64 7) := bX.cell 0
  have HwX := Lib.hid hwX; have BO := Lib.hid bO; have HP := Lib.hid hP; have HM := Lib.hid hm; have BX := Lib.hid bX; have HF := Lib.hid hF; have RK := Lib.hid rK; have RS := Lib.hid rS; have HLW := Lib.hid hlw; have HAT := Lib.hid hat; have HB := Lib.hid hb
  clear hwX bO hP hm bX hF rK rS d0 d1 d2 d3 d4 eX hk hlw hat hk0 hb
  obtain ⟨x, hx, hxP⟩ := HP.out.at_ (Nat.le_refl n)
  have hans : IsP ((List.replicate (n + 1) false).set n x) n (imgP n (Re.fin.M s) P) := (IsP.set_at n n (Nat.le_refl _) x).congr fun j hj => ⟨fun ⟨h1, h2⟩ => ⟨n, Nat.le_refl _, hxP.1 h2, h1.symm, hsl.symm⟩, fun ⟨i, _, h1, h2, h3⟩ => by
    rw [hsl] at h3
    subst h3
    exact ⟨h2.symm, hxP.2 h1⟩⟩
  obtain ⟨ba, oa, rfl, ca⟩ := (HF.out.below HwX.out).at_ (k := n) (u := .bool x) (by rw [List.getElem?_map, hx]; rfl)
  have cb : X.cell? ⟨w.heap.size, n, none⟩ = some (.bool false) := by rw [BO.out.cell n, List.getElem?_map, List.getElem?_replicate, if_pos (by have := HM.out; omega)]; rfl
  have fb := BO.out.frozen n
  have z0 : (n : Int) < (m : Int) := by have := HM.out; omega
  have oY := ((BO.out.set_ n (.bool x)).own (B := w.heap.size) (n := m) (Nat.le_refl _) (by simp) (by have := HM.out; unfold maxLen; omega))
  rw [show ((List.replicate m false).map Value.bool).set n (.bool x) = ((List.replicate (n + 1) false).set n x).map Value.bool by rw [HM.out, List.map_set]] at oY
  have OY := Lib.hid oY; have HbY := Lib.hid (HwX.out.setCell (p := ⟨w.heap.size, n, none⟩) (Nat.le_refl _) (.bool x)); have HA := Lib.hid hans
  clear oY hans hx hxP hsl
  go_enter Tryz.func46, Tryz.ntmps46
  go_upto_region 3 with fail
  rw [← hX]
  clear hX k0 k1 k2 k3 k4 hmk
  go_wp2
  go_ret
  exact ⟨_, _, _, rfl, OY.out, HbY.out, HA.out⟩
end
end Go.Proofs.YtmcacicopgckmaaGreatDoor

