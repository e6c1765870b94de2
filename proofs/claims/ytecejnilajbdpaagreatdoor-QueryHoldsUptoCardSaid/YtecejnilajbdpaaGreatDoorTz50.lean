import Derived.Laws.CopyOwn
import Derived.Test.YtecejnilajbdpaaGreatDoorTz37
set_option maxRecDepth 100000
set_option maxHeartbeats 16000000
namespace Go.Proofs.YtecejnilajbdpaaGreatDoor
open Go.RowKit Garner
theorem own_blkW {w : World} {B g n : Nat} {e : TypeId} {xs : List Value} (h : w.ownsRow B e 1 (.slice (some ⟨g, 0, none⟩) n n) n xs) : Blk w g e xs := by
 rcases h.2 with ⟨e1, _⟩ | ⟨g', cap, cur, e1, _, hh, _, _, hs, hx⟩
 ·cases e1
 injection e1 with e2 e3 e4
 injection e2 with e2
 injection e2 with e2
 subst e2; subst e4
 unfold Blk
 rw [hh, ← hx, List.take_of_length_le (by rw [Array.length_toList, hs]; exact Nat.le_refl _)]
theorem Blk.own {w : World} {B g n : Nat} {e : TypeId} {xs : List Value} (h : Blk w g e xs) (hB : B ≤ g) (hn : xs.length = n) (hm : n ≤ maxLen) : w.ownsRow B e 1 (.slice (some ⟨g, 0, none⟩) n n) n xs :=
 ⟨by omega, .inr ⟨g, n, xs.toArray, rfl, hB, h, Nat.le_refl _, hm, by simp [hn], by simp [List.take_of_length_le, hn]⟩⟩
theorem node_cells {F : Nat → Prop} {W0 : World} {B0 : Nat} {A : Option Addr} {c : Nat} {ns : List NodeP} (hN : NodesIs F W0 B0 (.slice A ns.length c) ns) {n : NodeP} {k : Nat} (hk : ns[k]? = some n) {w : World} (hb : Below W0.heap.size W0 w) :
  ∃ gN kA kc sA sc, A = some ⟨gN, 0, none⟩ ∧ gN < W0.heap.size ∧ w.cell? ⟨gN, k * 5, none⟩ = some (.int .i64 (n.kind : Nat)) ∧ w.cell? ⟨gN, k * 5 + 1, none⟩ = some (.slice kA n.kids.length kc) ∧ w.cell? ⟨gN, k * 5 + 2, none⟩ = some (.int .i64 (n.mn : Nat)) ∧ w.cell? ⟨gN, k * 5 + 3, none⟩ = some (.int .i64 n.mx) ∧ w.cell? ⟨gN, k * 5 + 4, none⟩ = some (.slice sA n.set.length sc) ∧ RowT w 3 kA n.kids.length (n.kids.map iv) ∧ RowT w 21 sA n.set.length (n.set.map rv) := by
 obtain ⟨gN, d, rfl, hd, hok, hgN, hcell⟩ := hN.node hk
 have cc : ∀ j, j < 5 → w.cell? ⟨gN, k * 5 + j, none⟩ = d.cells[j]? := fun j hj => by
  rw [hb.cell (p := ⟨gN, k * 5 + j, none⟩) hgN, hcell j hj]
 have h1 := hok.kids.below hb
 have h2 := hok.set.below hb
 subst hd
 exact ⟨gN, d.kA, d.kc, d.sA, d.sc, rfl, hgN, cc 0 (by omega), cc 1 (by omega), cc 2 (by omega), cc 3 (by omega), cc 4 (by omega), h1, h2⟩
structure EIn (W0 : World) (A : Option Addr) (c : Nat) (ns : List NodeP) (SA : Option Addr) (s : List Nat) (n m : Nat) : Prop where
 nodes : ∃ F B0, NodesIs F W0 B0 (.slice A ns.length c) ns
 few : ns.length ≤ 10000
 runes : RowT W0 21 SA n (s.map rv)
 len : s.length = n
 m_ : n + 1 = m
 small : n ≤ 1500000
 sets : ∀ nd ∈ ns, nd.set.length ≤ 100000
def EndsO (w : World) (n m : Nat) (Q : Nat → Prop) (e : Ending) (w' : World) : Prop := ∃ C c2 M, e = .returned (.slice C m c2) ∧ w'.ownsRow w.heap.size 4 1 (.slice C m c2) m ((M : List Bool).map Value.bool) ∧ Below w.heap.size w w' ∧ IsP M n Q
def EndsC (W0 : World) (A : Option Addr) (c : Nat) (ns : List NodeP) (SA : Option Addr) (sc : Nat) (s : List Nat) (n m : Nat) (t : Re) : Prop :=
 ∀ (b : Nat) (w : World) (FA : Option Addr) (fc : Nat) (L : List Bool) (P : Nat → Prop), AtN ns b (t.flat b) → Below W0.heap.size W0 w → RowT w 4 FA m (L.map Value.bool) → IsP L n P →
  Calls Tryz.prog 92 #[.slice A ns.length c, .int .i64 ((b + t.cnt - 1 : Nat) : Int), .slice SA n sc, .slice FA m fc] w fun e w' => EndsO w n m (imgP n (t.M s) P) e w'
theorem run_copyB {w X : World} {FA : Option Addr} {g m B : Nat} {t : TypeId} {L : List Bool} {cur : List Value} (fc : Nat) (hF : RowT X 4 FA m (L.map Value.bool)) (hB : Blk X g t cur) (hb : Below B w X) (hBg : B ≤ g) (hm : 0 < m) (hc : cur.length = m := by simp) :
  ∃ Y, (Builtin.copy_ #[153, 153] 3 #[.slice (some ⟨g, 0, none⟩) m m, .slice FA m fc]).run Tryz.prog X = .ok (goInt m) Y ∧ Blk Y g t (L.map Value.bool) ∧ Below B w Y ∧ But [g] X Y := by
 have hl := hF.1
 obtain ⟨b, off, cs, z, rfl, hbb, hcc⟩ := hF.2 hm
 have h := run_copy_row (P := Tryz.prog) X 153 153 3 4 g 0 m m ⟨b, off, none⟩ m fc cur.toArray t (L.map Value.bool) Tryz.underlying153 (by kernel_rfl) hB (by rw [hl]; exact (Nat.min_self m).symm) (fun j v hj => by rw [addr_add]; simp only [World.cell?, hbb]; exact hcc j v hj) (by rw [hl, Nat.zero_add]; simp [hc]) (fun v hv => by obtain ⟨x, _, rfl⟩ := List.mem_map.1 hv; rfl)
 rw [hl] at h
 refine ⟨_, h, ?_, below_setRow hb hBg _, ⟨rfl, rfl, rfl, by simp, fun k _ hk => setRow_other X g k _ (by simpa using hk)⟩⟩
 have h2 := setRow_heap X g cur.toArray (cur.toArray.toList.take 0 ++ L.map Value.bool ++ cur.toArray.toList.drop (0 + m)).toArray t (0, 0) hB
 unfold Blk
 rw [h2]
 simp [List.drop_of_length_le, hc]
section
variable {W0 : World} {A : Option Addr} {c : Nat} {ns : List NodeP} {SA : Option Addr} {sc : Nat} {s : List Nat} {n m : Nat}
theorem ends_pre (E : EIn W0 A c ns SA s n m) {nd : NodeP} {k : Nat} (hk : ns[k]? = some nd) {w : World} (hb : Below W0.heap.size W0 w) :
  ∃ gN kA kc sA sc w1 X, A = some ⟨gN, 0, none⟩ ∧ k < ns.length ∧ (Instr.makeSlice 153 (.int .i64 m) (.int .i64 m)).run Tryz.prog w = .ok (.slice (some ⟨w.heap.size, 0, none⟩) m m) w1 ∧
   w1.cell? ⟨gN, k * 5, none⟩ = some (.int .i64 (nd.kind : Nat)) ∧ w1.cell? ⟨gN, k * 5 + 1, none⟩ = some (.slice kA nd.kids.length kc) ∧ w1.cell? ⟨gN, k * 5 + 2, none⟩ = some (.int .i64 (nd.mn : Nat)) ∧ w1.cell? ⟨gN, k * 5 + 3, none⟩ = some (.int .i64 nd.mx) ∧ w1.cell? ⟨gN, k * 5 + 4, none⟩ = some (.slice sA nd.set.length sc) ∧
   X = w1.alloc (.cells #[.int .i64 (nd.kind : Nat), .slice kA nd.kids.length kc, .int .i64 (nd.mn : Nat), .int .i64 nd.mx, .slice sA nd.set.length sc] 182) ∧ Below w.heap.size w X ∧
   Blk X w1.heap.size 182 [.int .i64 (nd.kind : Nat), .slice kA nd.kids.length kc, .int .i64 (nd.mn : Nat), .int .i64 nd.mx, .slice sA nd.set.length sc] ∧ w.heap.size < w1.heap.size ∧ Blk X w.heap.size 4 ((List.replicate m false).map Value.bool) ∧
   RowT w 3 kA nd.kids.length (nd.kids.map iv) ∧ RowT w 21 sA nd.set.length (nd.set.map rv) := by
 obtain ⟨F, B0, hN⟩ := E.nodes
 obtain ⟨gN, kA, kc, sA, sc2, rfl, hg, c0, c1, c2, c3, c4, r1, r2⟩ := node_cells hN hk hb
 have hm := E.m_
 have hsm := E.small
 obtain ⟨w1, hmk, own1, b1⟩ := mkBools m w (by omega)
 have s0 := hb.size
 have cc : ∀ j, w1.cell? ⟨gN, j, none⟩ = w.cell? ⟨gN, j, none⟩ := fun j => b1.cell (p := ⟨gN, j, none⟩) (by show gN < _; omega)
 have hbX : Below w1.heap.size w1 (w1.alloc (.cells #[.int .i64 (nd.kind : Nat), .slice kA nd.kids.length kc, .int .i64 (nd.mn : Nat), .int .i64 nd.mx, .slice sA nd.set.length sc2] 182)) := (Below.refl _ _).alloc (Nat.le_refl _) _
 have hlw := own1.lt w.heap.size rfl
 exact ⟨gN, kA, kc, sA, sc2, w1, _, rfl, (List.getElem?_eq_some_iff.1 hk).1, hmk, by rw [cc]; exact c0, by rw [cc]; exact c1, by rw [cc]; exact c2, by rw [cc]; exact c3, by rw [cc]; exact c4, rfl, b1.trans (hbX.mono b1.size), Blk.new w1 _ _, hlw.2, (own_blkW own1).below hbX hlw.2, r1, r2⟩
theorem ends_emp (E : EIn W0 A c ns SA s n m) : EndsC W0 A c ns SA sc s n m .emp := by
 intro b w FA fc L P hat hb hF hP
 have hk := last_at (t := .emp) (l := []) rfl rfl hat
 have hk' := List.mem_of_getElem? hk
 obtain ⟨k, hk0⟩ : ∃ k, b + (Re.cnt (.emp)) - 1 = k := ⟨_, rfl⟩
 rw [hk0] at hk ⊢
 obtain ⟨gN, kA, kc, sA, sc2, w1, X, rfl, hkl, hmk, d0, d1, d2, d3, d4, eX, hwX, bX, hlw, bO, rK, rS⟩ := ends_pre E hk hb
 have hm := E.m_
 have hsm := E.small
 have hsl := E.len
 obtain ⟨N, hNl⟩ : ∃ N, ns.length = N := ⟨_, rfl⟩
 rw [hNl] at hkl ⊢
 have z1 : (k : Int) < (N : Int) := by omega
 have wm : IntKind.i64.wrap ((n : Int) + 1) = (m : Int) := by rw [IntKind.wrap_i64]; omega
 have k0 : w1.cell? ⟨gN, k * 5, none⟩ = some (.int .i64 1) := d0
 have k1 : w1.cell? ⟨gN, k * 5 + 1, none⟩ = some (.slice kA 0 kc) := d1
 have k2 : w1.cell? ⟨gN, k * 5 + 2, none⟩ = some (.int .i64 0) := d2
 have k3 : w1.cell? ⟨gN, k * 5 + 3, none⟩ = some (.int .i64 0) := d3
 have k4 : w1.cell? ⟨gN, k * 5 + 4, none⟩ = some (.slice sA 0 sc2) := d4
 have hX : X = w1.alloc (.cells #[.int .i64 1, .slice kA 0 kc, .int .i64 0, .int .i64 0, .slice sA 0 sc2] 182) := eX
 have x1 : X.cell? ⟨w1.heap.size, 1, none⟩ = some (.slice kA 0 kc) := bX.cell 1
 have x4 : X.cell? ⟨w1.heap.size, 4, none⟩ = some (.slice sA 0 sc2) := bX.cell 4
 have x2 : X.cell? ⟨w1.heap.size, 2, none⟩ = some (.int .i64 0) := bX.cell 2
 have x3 : X.cell? ⟨w1.heap.size, 3, none⟩ = some (.int .i64 0) := bX.cell 3
 have x0 : X.cell? ⟨w1.heap.size, 0, none⟩ = some (.int .i64 1) := bX.cell 0
 have HwX := Lh hwX; have BO := Lh bO; have HP := Lh hP; have HM := Lh hm; have BX := Lh bX; have HF := Lh hF; have RK := Lh rK; have RS := Lh rS; have HLW := Lh hlw; have HAT := Lh hat; have HB := Lh hb
 clear hwX bO hP hm bX hF rK rS d0 d1 d2 d3 d4 eX hk hlw hat hk0 hb
 have hans : IsP L n (imgP n (Re.emp.M s) P) := HP.out.congr fun j hj => ⟨fun h => ⟨j, hj, h, rfl⟩, fun ⟨i, _, h1, h2⟩ => by
  have h2 : i = j := h2
  subst h2; exact h1⟩
 obtain ⟨Y, hcp, bY, hbY, -⟩ := run_copyB fc (HF.out.below HwX.out) BO.out HwX.out (Nat.le_refl _) (by have := HM.out; omega)
 have OY := Lh (bY.own (B := w.heap.size) (n := m) (Nat.le_refl _) (by have := hans.1; have := HM.out; rw [List.length_map]; omega) (by have := HM.out; unfold maxLen; omega)); have HbY := Lh hbY; have HA := Lh hans
 clear bY hbY hans
 go_enter Tryz.func92, Tryz.ntmps92
 go_upto_region 3 with fail
 rw [← hX]
 clear hX k0 k1 k2 k3 k4 hmk
 go_wp2
 go_ret
 exact ⟨_, _, L, rfl, OY.out, HbY.out, HA.out⟩
theorem ends_bgn (E : EIn W0 A c ns SA s n m) : EndsC W0 A c ns SA sc s n m .bgn := by
 intro b w FA fc L P hat hb hF hP
 have hk := last_at (t := .bgn) (l := []) rfl rfl hat
 have hk' := List.mem_of_getElem? hk
 obtain ⟨k, hk0⟩ : ∃ k, b + (Re.cnt (.bgn)) - 1 = k := ⟨_, rfl⟩
 rw [hk0] at hk ⊢
 obtain ⟨gN, kA, kc, sA, sc2, w1, X, rfl, hkl, hmk, d0, d1, d2, d3, d4, eX, hwX, bX, hlw, bO, rK, rS⟩ := ends_pre E hk hb
 have hm := E.m_
 have hsm := E.small
 have hsl := E.len
 obtain ⟨N, hNl⟩ : ∃ N, ns.length = N := ⟨_, rfl⟩
 rw [hNl] at hkl ⊢
 have z1 : (k : Int) < (N : Int) := by omega
 have wm : IntKind.i64.wrap ((n : Int) + 1) = (m : Int) := by rw [IntKind.wrap_i64]; omega
 have k0 : w1.cell? ⟨gN, k * 5, none⟩ = some (.int .i64 6) := d0
 have k1 : w1.cell? ⟨gN, k * 5 + 1, none⟩ = some (.slice kA 0 kc) := d1
 have k2 : w1.cell? ⟨gN, k * 5 + 2, none⟩ = some (.int .i64 0) := d2
 have k3 : w1.cell? ⟨gN, k * 5 + 3, none⟩ = some (.int .i64 0) := d3
 have k4 : w1.cell? ⟨gN, k * 5 + 4, none⟩ = some (.slice sA 0 sc2) := d4
 have hX : X = w1.alloc (.cells #[.int .i64 6, .slice kA 0 kc, .int .i64 0, .int .i64 0, .slice sA 0 sc2] 182) := eX
 have x1 : X.cell? ⟨w1.heap.size, 1, none⟩ = some (.slice kA 0 kc) := bX.cell 1
 have x4 : X.cell? ⟨w1.heap.size, 4, none⟩ = some (.slice sA 0 sc2) := bX.cell 4
 have x2 : X.cell? ⟨w1.heap.size, 2, none⟩ = some (.int .i64 0) := bX.cell 2
 have x3 : X.cell? ⟨w1.heap.size, 3, none⟩ = some (.int .i64 0) := bX.cell 3
 have x0 : X.cell? ⟨w1.heap.size, 0, none⟩ = some (.int .i64 6) := bX.cell 0
 have HwX := Lh hwX; have BO := Lh bO; have HP := Lh hP; have HM := Lh hm; have BX := Lh bX; have HF := Lh hF; have RK := Lh rK; have RS := Lh rS; have HLW := Lh hlw; have HAT := Lh hat; have HB := Lh hb
 clear hwX bO hP hm bX hF rK rS d0 d1 d2 d3 d4 eX hk hlw hat hk0 hb
 obtain ⟨x, hx, hxP⟩ := HP.out.at_ (Nat.zero_le n)
 have hans : IsP ((List.replicate (n + 1) false).set 0 x) n (imgP n (Re.bgn.M s) P) := (IsP.set_at n 0 (Nat.zero_le _) x).congr fun j hj => ⟨fun ⟨h1, h2⟩ => ⟨0, Nat.zero_le _, hxP.1 h2, h1.symm, rfl⟩, fun ⟨i, _, h1, h2, h3⟩ => by
  subst h3
  exact ⟨h2.symm, hxP.2 h1⟩⟩
 obtain ⟨ba, oa, rfl, ca⟩ := (HF.out.below HwX.out).at_ (k := 0) (u := .bool x) (by rw [List.getElem?_map, hx]; rfl)
 have ca' : X.cell? ⟨ba, oa, none⟩ = some (.bool x) := ca
 have cb : X.cell? ⟨w.heap.size, 0, none⟩ = some (.bool false) := by rw [BO.out.cell 0, ← HM.out]; simp [List.replicate_succ]
 have fb := BO.out.frozen 0
 have z0 : (0 : Int) < (m : Int) := by have := HM.out; omega
 have oY := ((BO.out.set_ 0 (.bool x)).own (B := w.heap.size) (n := m) (Nat.le_refl _) (by simp) (by have := HM.out; unfold maxLen; omega))
 rw [show ((List.replicate m false).map Value.bool).set 0 (.bool x) = ((List.replicate (n + 1) false).set 0 x).map Value.bool by rw [HM.out, List.map_set]] at oY
 have OY := Lh oY; have HbY := Lh (HwX.out.setCell (p := ⟨w.heap.size, 0, none⟩) (Nat.le_refl _) (.bool x)); have HA := Lh hans
 clear oY hans ca hx hxP
 go_enter Tryz.func92, Tryz.ntmps92
 go_upto_region 3 with fail
 rw [← hX]
 clear hX k0 k1 k2 k3 k4 hmk
 go_wp2
 go_ret
 exact ⟨_, _, _, rfl, OY.out, HbY.out, HA.out⟩
theorem ends_fin (E : EIn W0 A c ns SA s n m) : EndsC W0 A c ns SA sc s n m .fin := by
 intro b w FA fc L P hat hb hF hP
 have hk := last_at (t := .fin) (l := []) rfl rfl hat
 have hk' := List.mem_of_getElem? hk
 obtain ⟨k, hk0⟩ : ∃ k, b + (Re.cnt (.fin)) - 1 = k := ⟨_, rfl⟩
 rw [hk0] at hk ⊢
 obtain ⟨gN, kA, kc, sA, sc2, w1, X, rfl, hkl, hmk, d0, d1, d2, d3, d4, eX, hwX, bX, hlw, bO, rK, rS⟩ := ends_pre E hk hb
 have hm := E.m_
 have hsm := E.small
 have hsl := E.len
 obtain ⟨N, hNl⟩ : ∃ N, ns.length = N := ⟨_, rfl⟩
 rw [hNl] at hkl ⊢
 have z1 : (k : Int) < (N : Int) := by omega
 have wm : IntKind.i64.wrap ((n : Int) + 1) = (m : Int) := by rw [IntKind.wrap_i64]; omega
 have k0 : w1.cell? ⟨gN, k * 5, none⟩ = some (.int .i64 7) := d0
 have k1 : w1.cell? ⟨gN, k * 5 + 1, none⟩ = some (.slice kA 0 kc) := d1
 have k2 : w1.cell? ⟨gN, k * 5 + 2, none⟩ = some (.int .i64 0) := d2
 have k3 : w1.cell? ⟨gN, k * 5 + 3, none⟩ = some (.int .i64 0) := d3
 have k4 : w1.cell? ⟨gN, k * 5 + 4, none⟩ = some (.slice sA 0 sc2) := d4
 have hX : X = w1.alloc (.cells #[.int .i64 7, .slice kA 0 kc, .int .i64 0, .int .i64 0, .slice sA 0 sc2] 182) := eX
 have x1 : X.cell? ⟨w1.heap.size, 1, none⟩ = some (.slice kA 0 kc) := bX.cell 1
 have x4 : X.cell? ⟨w1.heap.size, 4, none⟩ = some (.slice sA 0 sc2) := bX.cell 4
 have x2 : X.cell? ⟨w1.heap.size, 2, none⟩ = some (.int .i64 0) := bX.cell 2
 have x3 : X.cell? ⟨w1.heap.size, 3, none⟩ = some (.int .i64 0) := bX.cell 3
 have x0 : X.cell? ⟨w1.heap.size, 0, none⟩ = some (.int .i64 7) := bX.cell 0
 have HwX := Lh hwX; have BO := Lh bO; have HP := Lh hP; have HM := Lh hm; have BX := Lh bX; have HF := Lh hF; have RK := Lh rK; have RS := Lh rS; have HLW := Lh hlw; have HAT := Lh hat; have HB := Lh hb
 clear hwX bO hP hm bX hF rK rS d0 d1 d2 d3 d4 eX hk hlw hat hk0 hb
 obtain ⟨x, hx, hxP⟩ := HP.out.at_ (Nat.le_refl n)
 have hans : IsP ((List.replicate (n + 1) false).set n x) n (imgP n (Re.fin.M s) P) := (IsP.set_at n n (Nat.le_refl _) x).congr fun j hj => ⟨fun ⟨h1, h2⟩ => ⟨n, Nat.le_refl _, hxP.1 h2, h1.symm, hsl.symm⟩, fun ⟨i, _, h1, h2, h3⟩ => by
  rw [hsl] at h3
  subst h3
  exact ⟨h2.symm, hxP.2 h1⟩⟩
 obtain ⟨ba, oa, rfl, ca⟩ := (HF.out.below HwX.out).at_ (k := n) (u := .bool x) (by rw [List.getElem?_map, hx]; rfl)
 have cb : X.cell? ⟨w.heap.size, n, none⟩ = some (.bool false) := by rw [BO.out.cell n, List.getElem?_map, List.getElem?_replicate, if_pos (by have := HM.out; omega)]; rfl
 have fb := BO.out.frozen n
 have z0 : (n : Int) < (m : Int) := by have := HM.out; omega
 have oY := ((BO.out.set_ n (.bool x)).own (B := w.heap.size) (n := m) (Nat.le_refl _) (by simp) (by have := HM.out; unfold maxLen; omega))
 rw [show ((List.replicate m false).map Value.bool).set n (.bool x) = ((List.replicate (n + 1) false).set n x).map Value.bool by rw [HM.out, List.map_set]] at oY
 have OY := Lh oY; have HbY := Lh (HwX.out.setCell (p := ⟨w.heap.size, n, none⟩) (Nat.le_refl _) (.bool x)); have HA := Lh hans
 clear oY hans hx hxP hsl
 go_enter Tryz.func92, Tryz.ntmps92
 go_upto_region 3 with fail
 rw [← hX]
 clear hX k0 k1 k2 k3 k4 hmk
 go_wp2
 go_ret
 exact ⟨_, _, _, rfl, OY.out, HbY.out, HA.out⟩
end
open Go.RowKit Garner
section
variable {W0 : World} {A : Option Addr} {c : Nat} {ns : List NodeP} {SA : Option Addr} {sc : Nat} {s : List Nat} {n m : Nat}
theorem ends_set (E : EIn W0 A c ns SA s n m) (l : List Nat) : EndsC W0 A c ns SA sc s n m (.set l) := by
 intro b w FA fc L P hat hb hF hP
 have hk := last_at (t := .set l) (l := []) rfl rfl hat
 have hk' := List.mem_of_getElem? hk
 obtain ⟨k, hk0⟩ : ∃ k, b + (Re.cnt (.set l)) - 1 = k := ⟨_, rfl⟩
 rw [hk0] at hk ⊢
 obtain ⟨gN, kA, kc, sA, sc2, w1, X, rfl, hkl, hmk, d0, d1, d2, d3, d4, eX, hwX, bX, hlw, bO, rK, rS⟩ := ends_pre E hk hb
 have hm := E.m_
 have hsm := E.small
 have hsl := E.len
 obtain ⟨N, hNl⟩ : ∃ N, ns.length = N := ⟨_, rfl⟩
 rw [hNl] at hkl ⊢
 have z1 : (k : Int) < (N : Int) := by omega
 have wm : IntKind.i64.wrap ((n : Int) + 1) = (m : Int) := by rw [IntKind.wrap_i64]; omega
 obtain ⟨Q, hQ⟩ : ∃ Q, l.length = Q := ⟨_, rfl⟩
 have k0 : w1.cell? ⟨gN, k * 5, none⟩ = some (.int .i64 2) := d0
 have k1 : w1.cell? ⟨gN, k * 5 + 1, none⟩ = some (.slice kA 0 kc) := d1
 have k2 : w1.cell? ⟨gN, k * 5 + 2, none⟩ = some (.int .i64 0) := d2
 have k3 : w1.cell? ⟨gN, k * 5 + 3, none⟩ = some (.int .i64 0) := d3
 have k4 : w1.cell? ⟨gN, k * 5 + 4, none⟩ = some (.slice sA Q sc2) := by rw [← hQ]; exact d4
 have hX : X = w1.alloc (.cells #[.int .i64 2, .slice kA 0 kc, .int .i64 0, .int .i64 0, .slice sA Q sc2] 182) := by rw [← hQ]; exact eX
 have x1 : X.cell? ⟨w1.heap.size, 1, none⟩ = some (.slice kA 0 kc) := bX.cell 1
 have x4 : X.cell? ⟨w1.heap.size, 4, none⟩ = some (.slice sA Q sc2) := by rw [← hQ]; exact bX.cell 4
 have x2 : X.cell? ⟨w1.heap.size, 2, none⟩ = some (.int .i64 0) := bX.cell 2
 have x3 : X.cell? ⟨w1.heap.size, 3, none⟩ = some (.int .i64 0) := bX.cell 3
 have x0 : X.cell? ⟨w1.heap.size, 0, none⟩ = some (.int .i64 2) := bX.cell 0
 have HwX := Lh hwX; have BO := Lh bO; have HP := Lh hP; have HM := Lh hm; have BX := Lh bX; have HF := Lh hF; have RK := Lh rK; have RS := Lh rS; have HLW := Lh hlw; have HAT := Lh hat; have HB := Lh hb
 clear hwX bO hP hm bX hF rK rS d0 d1 d2 d3 d4 eX hk hlw hat hk0 hb
 have hQ9 : Q ≤ 100000 := by
  have := E.sets _ hk'
  rw [← hQ]; exact this
 have rS2 : RowT w 21 sA Q (l.map rv) := by rw [← hQ]; exact RS.out
 have rR : RowT w 21 SA n (s.map rv) := E.runes.below HB.out
 have RS2 := Lh rS2; have RR := Lh rR; have HQ := Lh hQ; have HSL := Lh hsl
 have hg1 : w1.heap.size ≠ w.heap.size := by have := HLW.out; omega
 have HG1 := Lh hg1
 clear rS2 rR hQ hsl hg1 RS RK HAT x1
 go_enter Tryz.func92, Tryz.ntmps92
 go_upto_region 3 with fail
 rw [← hX]
 clear hX k0 k1 k2 k3 k4 hmk
 go_wp2
 go_loopw [11] (fun i wr => ∃ (q : Nat) (O : List Bool), q ≤ n ∧ i = .int .i64 q ∧ Hid (Blk wr w.heap.size 4 (O.map Value.bool)) ∧ Hid (But [w.heap.size] X wr) ∧ Hid (IsP O n (fun j => ∃ i, i < q ∧ j = i + 1 ∧ P i ∧ ∃ r, s[i]? = some r ∧ hasR l r = true))) (fun i _ => n - (intOf i).toNat)
 case atStart => exact ⟨0, List.replicate m false, Nat.zero_le _, rfl, BO, Lh (But.refl _ _), Lh (by
  rw [← HM.out]
  exact (IsP.none n).congr fun j _ => ⟨fun h => h.elim, fun ⟨i, h, _⟩ => absurd h (Nat.not_lt_zero i)⟩)⟩
 obtain ⟨q, O, hq, rfl, hO, hbu, hP⟩ := hrel
 obtain ⟨wo, rfl⟩ : ∃ wo : World, wo = wr := ⟨_, rfl⟩
 have wk1 := wS q (by omega)
 have hbel : Below w.heap.size w wo := HwX.out.trans (hbu.out.below HwX.out.size (by simp))
 by_cases hlt : q < n
 ·have z2 : (q : Int) < (n : Int) := by omega
  have z3 : (q : Int) < (m : Int) := by have := HM.out; omega
  have z4 : (q : Int) + 1 < (m : Int) := by have := HM.out; omega
  obtain ⟨x, hx, hxP⟩ := HP.out.at_ (Nat.le_of_lt hlt)
  obtain ⟨r, hr⟩ : ∃ r, s[q]? = some r := ⟨_, List.getElem?_eq_getElem (by rw [HSL.out]; exact hlt)⟩
  obtain ⟨ba, oa, rfl, ca⟩ := (HF.out.below hbel).at_ (k := q) (u := .bool x) (by rw [List.getElem?_map, hx]; rfl)
  obtain ⟨bs, os, rfl, cs0⟩ := (RR.out.below hbel).at_ (k := q) (u := rv r) (by rw [List.getElem?_map, hr]; rfl)
  have cs1 : wo.cell? ⟨bs, os + q, none⟩ = some (.int .i32 (r : Nat)) := cs0
  have bB := BX.out.but hbu.out (by simp only [List.mem_singleton]; exact HG1.out)
  have cb4 : wo.cell? ⟨w1.heap.size, 4, none⟩ = some (.slice sA Q sc2) := by rw [← HQ.out]; exact bB.cell 4
  have hh : ∀ u, Calls Tryz.prog 124 #[.slice sA Q sc2, .int .i32 (r : Nat)] (wo.drewN u) fun e w' => e = .returned (.bool (hasR l r)) ∧ w' = wo.drewN u := fun u =>
   qHasL l sA sc2 Q r (wo.drewN u) HQ.out.symm (RS2.out.below (belowN hbel u)) hQ9
  have hOl := hP.out.1
  obtain ⟨u0, hu0⟩ : ∃ u0, wo.cell? ⟨w.heap.size, q + 1, none⟩ = some u0 := by
   rw [hO.out.cell (q + 1)]
   exact ⟨_, List.getElem?_eq_getElem (by rw [List.length_map, hOl]; omega)⟩
  have fk := hO.out.frozen (q + 1)
  have hno : (x = true → hasR l r = true → False) → Hid (IsP O n (fun j => ∃ i, i < q + 1 ∧ j = i + 1 ∧ P i ∧ ∃ r, s[i]? = some r ∧ hasR l r = true)) := fun h => Lh (hP.out.congr fun j _ => ⟨fun ⟨i, h1, h2⟩ => ⟨i, by omega, h2⟩, fun ⟨i, h1, h2, h3, r', h4, h5⟩ => by
   by_cases e : i = q
   ·subst e
    rw [hr] at h4
    cases h4
    exact (h (hxP.2 h3) h5).elim
   exact ⟨i, by omega, h2, h3, r', h4, h5⟩⟩)
  have hyes : x = true → hasR l r = true → Hid (IsP (O.set (q + 1) true) n (fun j => ∃ i, i < q + 1 ∧ j = i + 1 ∧ P i ∧ ∃ r, s[i]? = some r ∧ hasR l r = true)) := fun h1 h2 => Lh ((hP.out.put (by omega : q + 1 ≤ n)).congr fun j _ => ⟨fun h => by
   rcases h with ⟨i, h3, h4⟩ | h
   ·exact ⟨i, by omega, h4⟩
   ·exact ⟨q, by omega, h, hxP.1 h1, r, hr, h2⟩, fun ⟨i, h3, h4, h5⟩ => by
   by_cases e : i = q
   ·subst e; exact .inr h4
   exact .inl ⟨i, by omega, h4, h5⟩⟩)
  obtain ⟨hb, hhb⟩ : ∃ hb, hasR l r = hb := ⟨_, rfl⟩
  rw [hhb] at hh hno hyes
  have HH := Lh hh; have HNo := Lh hno; have HYes := Lh hyes
  clear hh hno hyes hhb hr hx hxP cs0 bB hbel hOl
  cases x with
  | false =>
   go_upto_region 10 with fail
   go_quiet (fail)
   go_wp2
   go_roundw
   case rel => exact ⟨q + 1, O, by omega, rfl, Lh (hO.out.drewN _), Lh (hbu.out.trans (But.of_below (belowN (Below.refl _ _) _))), HNo.out (by simp)⟩
   case measure => simp [intOf]; omega
  | true =>
   cases hb with
   | false =>
    go_upto_region 10 with fail
    go_quiet ((go_at_call 124; exact Calls.quiet_of_same (HH.out _)))
    go_wp2
    go_roundw
    case rel => exact ⟨q + 1, O, by omega, rfl, Lh (hO.out.drewN _), Lh (hbu.out.trans (But.of_below (belowN (Below.refl _ _) _))), HNo.out (by simp)⟩
    case measure => simp [intOf]; omega
   | true =>
    go_upto_region 10 with fail
    go_quiet ((go_at_call 124; exact Calls.quiet_of_same (HH.out _)))
    go_wp2
    go_roundw
    case rel => exact ⟨q + 1, O.set (q + 1) true, by omega, rfl, Lh (by
     have h9 := (hO.out.drewN nq).set_ (q + 1) (.bool true)
     rw [← List.map_set] at h9
     exact h9), Lh ((hbu.out.trans (But.of_below (belowN (Below.refl _ _) nq))).setCell (p := ⟨w.heap.size, q + 1, none⟩) (by simp) (.bool true)), HYes.out rfl rfl⟩
    case measure => simp [intOf]; omega
 obtain rfl : q = n := by omega
 have z2 : ¬ (q : Int) < (q : Int) := by omega
 have hans : IsP O q (imgP q ((Re.set l).M s) P) := hP.out.congr fun j _ => ⟨fun ⟨i, h1, h2, h3, h4⟩ => ⟨i, by omega, h3, h2, h4⟩, fun ⟨i, h1, h2, h3, r, h4, h5⟩ => ⟨i, by
  have := (List.getElem?_eq_some_iff.1 h4).1
  rw [HSL.out] at this
  exact this, h3, h2, r, h4, h5⟩⟩
 have oY := hO.out.own (B := w.heap.size) (n := m) (Nat.le_refl _) (by rw [List.length_map, hans.1]; exact HM.out) (by have := HM.out; unfold maxLen; omega)
 have OY := Lh oY; have HA := Lh hans; have HBel := Lh hbel
 clear oY hans hbel hP hO hbu
 go_wp2
 go_ret
 exact ⟨_, _, _, rfl, OY.out, HBel.out, HA.out⟩
end
open Go.RowKit Garner
section
variable {W0 : World} {A : Option Addr} {c : Nat} {ns : List NodeP} {SA : Option Addr} {sc : Nat} {s : List Nat} {n m : Nat}
theorem ends_seq (E : EIn W0 A c ns SA s n m) (l : List Re) (ih : ∀ t ∈ l, EndsC W0 A c ns SA sc s n m t) (hlen : l.length ≤ 100000) : EndsC W0 A c ns SA sc s n m (.seq l) := by
 intro b w FA fc L P hat hb hF hP
 have hk := last_at (t := .seq l) (l := flats b l) rfl (by rw [flats_len]; rfl) hat
 have hk' := List.mem_of_getElem? hk
 obtain ⟨k, hk0⟩ : ∃ k, b + (Re.cnt (.seq l)) - 1 = k := ⟨_, rfl⟩
 rw [hk0] at hk ⊢
 obtain ⟨gN, kA, kc, sA, sc2, w1, X, rfl, hkl, hmk, d0, d1, d2, d3, d4, eX, hwX, bX, hlw, bO, rK, rS⟩ := ends_pre E hk hb
 have hm := E.m_
 have hsm := E.small
 have hsl := E.len
 obtain ⟨N, hNl⟩ : ∃ N, ns.length = N := ⟨_, rfl⟩
 rw [hNl] at hkl ⊢
 have z1 : (k : Int) < (N : Int) := by omega
 have wm : IntKind.i64.wrap ((n : Int) + 1) = (m : Int) := by rw [IntKind.wrap_i64]; omega
 obtain ⟨Q, hQ⟩ : ∃ Q, l.length = Q := ⟨_, rfl⟩
 have k0 : w1.cell? ⟨gN, k * 5, none⟩ = some (.int .i64 3) := d0
 have k1 : w1.cell? ⟨gN, k * 5 + 1, none⟩ = some (.slice kA Q kc) := by rw [← hQ, ← roots_length l b]; exact d1
 have k2 : w1.cell? ⟨gN, k * 5 + 2, none⟩ = some (.int .i64 0) := d2
 have k3 : w1.cell? ⟨gN, k * 5 + 3, none⟩ = some (.int .i64 0) := d3
 have k4 : w1.cell? ⟨gN, k * 5 + 4, none⟩ = some (.slice sA 0 sc2) := d4
 have hX : X = w1.alloc (.cells #[.int .i64 3, .slice kA Q kc, .int .i64 0, .int .i64 0, .slice sA 0 sc2] 182) := by rw [← hQ, ← roots_length l b]; exact eX
 have x1 : X.cell? ⟨w1.heap.size, 1, none⟩ = some (.slice kA Q kc) := by rw [← hQ, ← roots_length l b]; exact bX.cell 1
 have x4 : X.cell? ⟨w1.heap.size, 4, none⟩ = some (.slice sA 0 sc2) := bX.cell 4
 have x2 : X.cell? ⟨w1.heap.size, 2, none⟩ = some (.int .i64 0) := bX.cell 2
 have x3 : X.cell? ⟨w1.heap.size, 3, none⟩ = some (.int .i64 0) := bX.cell 3
 have x0 : X.cell? ⟨w1.heap.size, 0, none⟩ = some (.int .i64 3) := bX.cell 0
 have HwX := Lh hwX; have BO := Lh bO; have HP := Lh hP; have HM := Lh hm; have BX := Lh bX; have HF := Lh hF; have RK := Lh rK; have RS := Lh rS; have HLW := Lh hlw; have HAT := Lh hat; have HB := Lh hb
 clear hwX bO hP hm bX hF rK rS d0 d1 d2 d3 d4 eX hk hlw hat hk0 hb
 have hkids : RowT w 3 kA Q ((roots b l).map iv) := by rw [← hQ, ← roots_length l b]; exact RK.out
 have hat2 : AtN ns b (flats b l) := AtN.left (m := [_]) HAT.out
 obtain ⟨Y, hcp, bY, hbY, buY⟩ := run_copyB fc (HF.out.below HwX.out) BO.out HwX.out (Nat.le_refl _) (by have := HM.out; omega)
 have oY := bY.own (B := w.heap.size) (n := m) (Nat.le_refl _) (by have := HP.out.1; have := HM.out; rw [List.length_map]; omega) (by have := HM.out; unfold maxLen; omega)
 have bXY := BX.out.but buY (by simp only [List.mem_singleton]; have := HLW.out; omega)
 have y1 : Y.cell? ⟨w1.heap.size, 1, none⟩ = some (.slice kA Q kc) := by rw [← hQ, ← roots_length l b]; exact bXY.cell 1
 have hlt1 := bXY.lt
 rw [hQ] at hlen
 have HKids := Lh hkids; have HAt2 := Lh hat2; have OY := Lh oY; have HbY := Lh hbY; have HQ := Lh hQ; have HNl := Lh hNl; have Y1 := Lh y1; have HLt1 := Lh hlt1; have HIH := Lh ih
 clear hkids hat2 oY hbY bY buY bXY hQ hNl HAT RK RS x1 x4 hsl hlt1 ih
 go_enter Tryz.func92, Tryz.ntmps92
 go_upto_region 3 with fail
 rw [← hX]
 clear hX k0 k1 k2 k3 k4 hmk
 go_wp2
 go_loopw [9, 12] (fun v i wr => ∃ (q : Nat) (C : Option Addr) (c2 : Nat) (M : List Bool), q ≤ Q ∧ i = .int .i64 q ∧ v = .slice C m c2 ∧ Hid (wr.ownsRow w.heap.size 4 1 (.slice C m c2) m (M.map Value.bool)) ∧ Hid (Below Y.heap.size Y wr) ∧ Hid (IsP M n (imgP n (Ms s (l.take q)) P))) (fun _ i _ => Q - (intOf i).toNat)
 case atStart => exact ⟨0, _, _, L, Nat.zero_le _, rfl, rfl, OY, Lh (Below.refl _ _), Lh (HP.out.congr fun j hj => (img_row0 P j hj).symm)⟩
 obtain ⟨q, C, c2, M, hq, rfl, rfl, hO, hbw, hP⟩ := hrel
 obtain ⟨wo, rfl⟩ : ∃ wo : World, wo = wr := ⟨_, rfl⟩
 have wk1 := wS q (by omega)
 have xb : wo.cell? ⟨w1.heap.size, 1, none⟩ = some (.slice kA Q kc) := by rw [hbw.out.cell (p := ⟨w1.heap.size, 1, none⟩) HLt1.out]; exact Y1.out
 have hbel : Below w.heap.size w wo := HbY.out.trans (hbw.out.mono HbY.out.size)
 by_cases hlt : q < Q
 ·have z2 : (q : Int) < (Q : Int) := by omega
  obtain ⟨t, ht⟩ : ∃ t, l[q]? = some t := ⟨_, List.getElem?_eq_getElem (by rw [HQ.out]; exact hlt)⟩
  have hroot := kid_root ht b
  obtain ⟨bk, ok, rfl, ck0⟩ := (HKids.out.below hbel).at_ (k := q) (u := iv _) (by rw [List.getElem?_map, hroot]; rfl)
  have hc := HIH.out t (List.mem_of_getElem? ht) _ wo C c2 M _ (kid_nodes ht HAt2.out) (HB.out.trans (hbel.mono HB.out.size)) (RowT.of_own hO.out) hP.out
  obtain ⟨r, hr⟩ : ∃ r, b + cnts (l.take q) + t.cnt - 1 = r := ⟨_, rfl⟩
  rw [hr] at ck0 hc
  rw [HNl.out] at hc
  have ckid : wo.cell? ⟨bk, ok + q, none⟩ = some (.int .i64 (r : Nat)) := ck0
  have hn : s.length = n := E.len
  have himg := fun j => (img_row hn ht P j).symm
  have HC := Lh hc; have HImg := Lh himg; have HBel := Lh hbel
  clear hc himg ck0 hr hroot ht hn hbel
  go_wp2_with fail
  refine HC.out.mono ?_
  rintro e w3 ⟨C3, c3, M3, rfl, o3, b3, i3⟩
  have O3 := Lh (own_mono o3 HBel.out.size); have B3 := Lh (hbw.out.trans (b3.mono hbw.out.size)); have I3 := Lh (i3.congr fun j _ => HImg.out j)
  clear o3 b3 i3
  go_wp2
  go_roundw
  case rel => exact ⟨q + 1, C3, c3, M3, by omega, by first | rfl | go_num, rfl, O3, B3, I3⟩
  case measure => simp [intOf]; omega
 obtain rfl : q = Q := by omega
 have z2 : ¬ (q : Int) < (q : Int) := by omega
 have hans : IsP M n (imgP n ((Re.seq l).M s) P) := by
  have := hP.out
  rwa [List.take_of_length_le (by rw [HQ.out]; exact Nat.le_refl _)] at this
 have HA := Lh hans; have HBel := Lh hbel
 clear hans hbel hP hbw
 go_wp2
 go_ret
 exact ⟨_, _, _, rfl, hO.out, HBel.out, HA.out⟩
theorem ends_alt (E : EIn W0 A c ns SA s n m) (l : List Re) (ih : ∀ t ∈ l, EndsC W0 A c ns SA sc s n m t) (hlen : l.length ≤ 100000) : EndsC W0 A c ns SA sc s n m (.alt l) := by
 intro b w FA fc L P hat hb hF hP
 have hk := last_at (t := .alt l) (l := flats b l) rfl (by rw [flats_len]; rfl) hat
 have hk' := List.mem_of_getElem? hk
 obtain ⟨k, hk0⟩ : ∃ k, b + (Re.cnt (.alt l)) - 1 = k := ⟨_, rfl⟩
 rw [hk0] at hk ⊢
 obtain ⟨gN, kA, kc, sA, sc2, w1, X, rfl, hkl, hmk, d0, d1, d2, d3, d4, eX, hwX, bX, hlw, bO, rK, rS⟩ := ends_pre E hk hb
 have hm := E.m_
 have hsm := E.small
 have hsl := E.len
 obtain ⟨N, hNl⟩ : ∃ N, ns.length = N := ⟨_, rfl⟩
 rw [hNl] at hkl ⊢
 have z1 : (k : Int) < (N : Int) := by omega
 have wm : IntKind.i64.wrap ((n : Int) + 1) = (m : Int) := by rw [IntKind.wrap_i64]; omega
 obtain ⟨Q, hQ⟩ : ∃ Q, l.length = Q := ⟨_, rfl⟩
 have k0 : w1.cell? ⟨gN, k * 5, none⟩ = some (.int .i64 4) := d0
 have k1 : w1.cell? ⟨gN, k * 5 + 1, none⟩ = some (.slice kA Q kc) := by rw [← hQ, ← roots_length l b]; exact d1
 have k2 : w1.cell? ⟨gN, k * 5 + 2, none⟩ = some (.int .i64 0) := d2
 have k3 : w1.cell? ⟨gN, k * 5 + 3, none⟩ = some (.int .i64 0) := d3
 have k4 : w1.cell? ⟨gN, k * 5 + 4, none⟩ = some (.slice sA 0 sc2) := d4
 have hX : X = w1.alloc (.cells #[.int .i64 4, .slice kA Q kc, .int .i64 0, .int .i64 0, .slice sA 0 sc2] 182) := by rw [← hQ, ← roots_length l b]; exact eX
 have x1 : X.cell? ⟨w1.heap.size, 1, none⟩ = some (.slice kA Q kc) := by rw [← hQ, ← roots_length l b]; exact bX.cell 1
 have x4 : X.cell? ⟨w1.heap.size, 4, none⟩ = some (.slice sA 0 sc2) := bX.cell 4
 have x2 : X.cell? ⟨w1.heap.size, 2, none⟩ = some (.int .i64 0) := bX.cell 2
 have x3 : X.cell? ⟨w1.heap.size, 3, none⟩ = some (.int .i64 0) := bX.cell 3
 have x0 : X.cell? ⟨w1.heap.size, 0, none⟩ = some (.int .i64 4) := bX.cell 0
 have HwX := Lh hwX; have BO := Lh bO; have HP := Lh hP; have HM := Lh hm; have BX := Lh bX; have HF := Lh hF; have RK := Lh rK; have RS := Lh rS; have HLW := Lh hlw; have HAT := Lh hat; have HB := Lh hb
 clear hwX bO hP hm bX hF rK rS d0 d1 d2 d3 d4 eX hk hlw hat hk0 hb
 have hkids : RowT w 3 kA Q ((roots b l).map iv) := by rw [← hQ, ← roots_length l b]; exact RK.out
 have hat2 : AtN ns b (flats b l) := AtN.left (m := [_]) HAT.out
 have oY := BO.out.own (B := w.heap.size) (n := m) (Nat.le_refl _) (by simp) (by have := HM.out; unfold maxLen; omega)
 have hlt1 := BX.out.lt
 rw [hQ] at hlen
 have HKids := Lh hkids; have HAt2 := Lh hat2; have OY := Lh oY; have HQ := Lh hQ; have HNl := Lh hNl; have Y1 := Lh x1; have HLt1 := Lh hlt1; have HIH := Lh ih
 clear hkids hat2 oY hQ hNl HAT RK RS x1 x4 hsl hlt1 ih
 go_enter Tryz.func92, Tryz.ntmps92
 go_upto_region 3 with fail
 rw [← hX]
 clear hX k0 k1 k2 k3 k4 hmk
 go_wp2
 go_loopw [9, 13] (fun v i wr => ∃ (q : Nat) (C : Option Addr) (c2 : Nat) (M : List Bool), q ≤ Q ∧ i = .int .i64 q ∧ v = .slice C m c2 ∧ Hid (wr.ownsRow w.heap.size 4 1 (.slice C m c2) m (M.map Value.bool)) ∧ Hid (Below X.heap.size X wr) ∧ Hid (IsP M n (imgP n (Ma s (l.take q)) P))) (fun _ i _ => Q - (intOf i).toNat)
 case atStart => exact ⟨0, _, _, List.replicate m false, Nat.zero_le _, rfl, rfl, OY, Lh (Below.refl _ _), Lh (by
  rw [← HM.out]
  exact (IsP.none n).congr fun j _ => (img_alt0 P j).symm)⟩
 obtain ⟨q, C, c2, M, hq, rfl, rfl, hO, hbw, hP⟩ := hrel
 obtain ⟨wo, rfl⟩ : ∃ wo : World, wo = wr := ⟨_, rfl⟩
 have wk1 := wS q (by omega)
 have xb : wo.cell? ⟨w1.heap.size, 1, none⟩ = some (.slice kA Q kc) := by rw [hbw.out.cell (p := ⟨w1.heap.size, 1, none⟩) HLt1.out]; exact Y1.out
 have hbel : Below w.heap.size w wo := HwX.out.trans (hbw.out.mono HwX.out.size)
 by_cases hlt : q < Q
 ·have z2 : (q : Int) < (Q : Int) := by omega
  obtain ⟨t, ht⟩ : ∃ t, l[q]? = some t := ⟨_, List.getElem?_eq_getElem (by rw [HQ.out]; exact hlt)⟩
  have hroot := kid_root ht b
  obtain ⟨bk, ok, rfl, ck0⟩ := (HKids.out.below hbel).at_ (k := q) (u := iv _) (by rw [List.getElem?_map, hroot]; rfl)
  have hc := HIH.out t (List.mem_of_getElem? ht) _ wo FA fc L _ (kid_nodes ht HAt2.out) (HB.out.trans (hbel.mono HB.out.size)) (HF.out.below hbel) HP.out
  obtain ⟨r, hr⟩ : ∃ r, b + cnts (l.take q) + t.cnt - 1 = r := ⟨_, rfl⟩
  rw [hr] at ck0 hc
  rw [HNl.out] at hc
  have ckid : wo.cell? ⟨bk, ok + q, none⟩ = some (.int .i64 (r : Nat)) := ck0
  have himg := fun j => (img_alt (s := s) (n := n) ht P j).symm
  have HC := Lh hc; have HImg := Lh himg; have HBel := Lh hbel
  clear hc himg ck0 hr hroot ht hbel
  go_wp2_with fail
  refine HC.out.mono ?_
  rintro e w3 ⟨C3, c3, M3, rfl, o3, b3, i3⟩
  have hj := wJoin M M3 C C3 c2 c3 m w3 (by rw [hP.out.1]; exact HM.out) (by rw [i3.1]; exact HM.out) (by have := HM.out; omega) (RowT.of_own (own_below hO.out b3)) (RowT.of_own o3)
  have HJ := Lh hj; have B3 := Lh (hbw.out.trans (b3.mono hbw.out.size)); have S3 := Lh (Nat.le_trans HBel.out.size b3.size); have I3 := Lh ((hP.out.orB i3).congr fun j _ => HImg.out j)
  clear o3 b3 i3 hj
  go_wp2_with fail
  refine HJ.out.mono ?_
  rintro e w4 ⟨C4, c4, rfl, o4, b4⟩
  have O4 := Lh (own_mono o4 S3.out); have B4 := Lh (B3.out.trans (b4.mono B3.out.size))
  clear o4 b4
  go_wp2
  go_roundw
  case rel => exact ⟨q + 1, C4, c4, _, by omega, by first | rfl | go_num, rfl, O4, B4, I3⟩
  case measure => simp [intOf]; omega
 obtain rfl : q = Q := by omega
 have z2 : ¬ (q : Int) < (q : Int) := by omega
 have hans : IsP M n (imgP n ((Re.alt l).M s) P) := by
  have := hP.out
  rwa [List.take_of_length_le (by rw [HQ.out]; exact Nat.le_refl _)] at this
 have HA := Lh hans; have HBel := Lh hbel
 clear hans hbel hP hbw
 go_wp2
 go_ret
 exact ⟨_, _, _, rfl, hO.out, HBel.out, HA.out⟩
end
end Go.Proofs.YtecejnilajbdpaaGreatDoor
