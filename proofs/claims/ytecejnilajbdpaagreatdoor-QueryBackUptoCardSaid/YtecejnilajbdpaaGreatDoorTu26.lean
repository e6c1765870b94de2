import Derived.Test.YtecejnilajbdpaaGreatDoorTu25
import Derived.Deep.CutRange
/-! autom: a tree's nodes; node of a leaf -/
namespace Go.Proofs.YtecejnilajbdpaaGreatDoor
open Go.RowKit Garner
/-- node lays a tree's instructions -/
def CodeC (W0 : World) (A : Option Addr) (c : Nat) (ns : List NodeP) (t : Re) : Prop :=
  ∀ (b : Nat) (w : World) (g : Nat) (ins : List InstP), AtN ns b (t.flat b) → W0.heap.size ≤ g → ProgIs W0 W0.heap.size (.slice A ns.length c) w g ins → Below W0.heap.size W0 w → ins.length + t.len ≤ 90000 →
    Calls Tryz.prog 93 #[.pointer (some ⟨g, 0, none⟩), .int .i64 (b + t.cnt - 1 : Nat)] w fun e w' => e = .returned (.tuple #[]) ∧ ProgIs W0 W0.heap.size (.slice A ns.length c) w' g (ins ++ t.code ins.length) ∧ QK W0.heap.size w w'
set_option maxRecDepth 100000 in
set_option maxHeartbeats 16000000 in
/-- a leaf: bgn or fin -/
theorem nodeEdge {F : Nat → Prop} {W0 : World} {B0 : Nat} {A : Option Addr} {c : Nat} {ns : List NodeP} (hN : NodesIs F W0 B0 (.slice A ns.length c) ns) (t : Re) (ht : t = .bgn ∨ t = .fin) : CodeC W0 A c ns t := by
  intro b w g ins hat hBg hp hb hsz
  obtain ⟨K, KK, hf, hl, hcd, hK⟩ : ∃ K KK : Nat, t.flat b = [⟨K, [], 0, 0, []⟩] ∧ t.cnt = 1 ∧ t.code ins.length = [⟨KK, ins.length + 1, 0, []⟩] ∧ ((K = 6 ∧ KK = 2) ∨ (K = 7 ∧ KK = 3)) := by
    rcases ht with rfl | rfl
    · exact ⟨6, 2, rfl, rfl, rfl, .inl ⟨rfl, rfl⟩⟩
    · exact ⟨7, 3, rfl, rfl, rfl, .inr ⟨rfl, rfl⟩⟩
  have hn := last_at (l := []) hf hl hat
  have hkl := (List.getElem?_eq_some_iff.1 hn).1
  obtain ⟨gN, d, rfl, hd, hok, hgN, hcell⟩ := hN.node hn
  obtain ⟨k, hk⟩ : ∃ k, b + t.cnt - 1 = k := ⟨_, rfl⟩
  rw [hk] at hn hkl hcell ⊢
  rw [hcd]
  obtain ⟨N, hNs⟩ : ∃ N, ins.length = N := ⟨_, rfl⟩
  have hlt1 : N < 100000 := by omega
  have cc : ∀ j, j < 5 → w.cell? ⟨gN, k * 5 + j, none⟩ = d.cells[j]? := fun j hj => by
    rw [hb.cell (p := ⟨gN, k * 5 + j, none⟩) hgN, hcell j hj]
  have c0 : w.cell? ⟨gN, k * 5, none⟩ = some (.int .i64 (d.n.kind : Nat)) := cc 0 (by omega)
  have c1 : w.cell? ⟨gN, k * 5 + 1, none⟩ = some (.slice d.kA d.n.kids.length d.kc) := cc 1 (by omega)
  have c2 : w.cell? ⟨gN, k * 5 + 2, none⟩ = some (.int .i64 (d.n.mn : Nat)) := cc 2 (by omega)
  have c3 : w.cell? ⟨gN, k * 5 + 3, none⟩ = some (.int .i64 d.n.mx) := cc 3 (by omega)
  have c4 : w.cell? ⟨gN, k * 5 + 4, none⟩ = some (.slice d.sA d.n.set.length d.sc) := cc 4 (by omega)
  rw [hd] at c0 c1 c2 c3 c4
  have hg := hp.lt
  have f0 : w.cell? ⟨g, 0, none⟩ = some (.slice (some ⟨gN, 0, none⟩) ns.length c) := by
    obtain ⟨O, m, h1, -⟩ := hp.ex
    exact h1.cell 0
  have hbX : Below w.heap.size w (w.alloc (.cells #[.int .i64 (K : Nat), .slice d.kA 0 d.kc, .int .i64 0, .int .i64 0, .slice d.sA 0 d.sc] 182)) := (Below.refl _ _).alloc (Nat.le_refl _) _
  have pX := hp.below hbX
  have hsz0 := hb.size
  have hh := vHere _ g ins pX
  have he := vEmit ⟨⟨KK, N + 1, 0, []⟩, none, 0⟩ _ g ins pX (by have := hbX.size; omega) hBg (by exact RowT.nil) (by omega)
  rw [hNs] at hh he ⊢
  have z1 : (k : Int) < (ns.length : Int) := by omega
  have wN : IntKind.i64.wrap ((N : Int) + 1) = ((N + 1 : Nat) : Int) := by rw [IntKind.wrap_i64]; omega
  have qX := QK.of_below hbX hsz0
  have He := Lib.hid he; have QX := Lib.hid qX
  clear hcell cc hok hp pX hb hbX hat hn hN he qX hf
  go_enter Tryz.func93, Tryz.ntmps93
  rcases hK with ⟨rfl, rfl⟩ | ⟨rfl, rfl⟩
  all_goals
    go_wp2_with fail
    refine hh.mono ?_
    rintro e w1 ⟨rfl, rfl⟩
    go_wp2_with fail
    refine He.out.mono ?_
    rintro e w2 ⟨rfl, p2, q2⟩
    have P2 := Lib.hid p2; have Q2 := Lib.hid q2
    clear p2 q2
    go_wp2
    go_end0
    exact ⟨rfl, P2.out, QX.out.trans Q2.out⟩
set_option maxRecDepth 100000 in
set_option maxHeartbeats 16000000 in
/-- a leaf: nothing -/
theorem nodeEmp {F : Nat → Prop} {W0 : World} {B0 : Nat} {A : Option Addr} {c : Nat} {ns : List NodeP} (hN : NodesIs F W0 B0 (.slice A ns.length c) ns) : CodeC W0 A c ns .emp := by
  intro b w g ins hat hBg hp hb hsz
  have hn := last_at (t := .emp) (l := []) rfl rfl hat
  have hkl := (List.getElem?_eq_some_iff.1 hn).1
  obtain ⟨gN, d, rfl, hd, hok, hgN, hcell⟩ := hN.node hn
  obtain ⟨k, hk⟩ : ∃ k, b + Re.cnt .emp - 1 = k := ⟨_, rfl⟩
  rw [hk] at hn hkl hcell ⊢
  have cc : ∀ j, j < 5 → w.cell? ⟨gN, k * 5 + j, none⟩ = d.cells[j]? := fun j hj => by
    rw [hb.cell (p := ⟨gN, k * 5 + j, none⟩) hgN, hcell j hj]
  have c0 : w.cell? ⟨gN, k * 5, none⟩ = some (.int .i64 (d.n.kind : Nat)) := cc 0 (by omega)
  have c1 : w.cell? ⟨gN, k * 5 + 1, none⟩ = some (.slice d.kA d.n.kids.length d.kc) := cc 1 (by omega)
  have c2 : w.cell? ⟨gN, k * 5 + 2, none⟩ = some (.int .i64 (d.n.mn : Nat)) := cc 2 (by omega)
  have c3 : w.cell? ⟨gN, k * 5 + 3, none⟩ = some (.int .i64 d.n.mx) := cc 3 (by omega)
  have c4 : w.cell? ⟨gN, k * 5 + 4, none⟩ = some (.slice d.sA d.n.set.length d.sc) := cc 4 (by omega)
  rw [hd] at c0 c1 c2 c3 c4
  have hg := hp.lt
  have f0 : w.cell? ⟨g, 0, none⟩ = some (.slice (some ⟨gN, 0, none⟩) ns.length c) := by
    obtain ⟨O, m, h1, -⟩ := hp.ex
    exact h1.cell 0
  have hbX : Below w.heap.size w (w.alloc (.cells #[.int .i64 1, .slice d.kA 0 d.kc, .int .i64 0, .int .i64 0, .slice d.sA 0 d.sc] 182)) := (Below.refl _ _).alloc (Nat.le_refl _) _
  have pX := hp.below hbX
  have z1 : (k : Int) < (ns.length : Int) := by omega
  have qX := QK.of_below hbX hb.size
  have PX := Lib.hid pX; have QX := Lib.hid qX
  clear hcell cc hok hp pX hb hbX hat hn hN qX
  go_enter Tryz.func93, Tryz.ntmps93
  go_wp2_with fail
  go_end0
  exact ⟨rfl, by simpa [Re.code] using PX.out, QX.out⟩
set_option maxRecDepth 100000 in
set_option maxHeartbeats 16000000 in
/-- a leaf: a set -/
theorem nodeSet {F : Nat → Prop} {W0 : World} {B0 : Nat} {A : Option Addr} {c : Nat} {ns : List NodeP} (hN : NodesIs F W0 B0 (.slice A ns.length c) ns) (l : List Nat) : CodeC W0 A c ns (.set l) := by
  intro b w g ins hat hBg hp hb hsz
  have hn := last_at (t := .set l) (l := []) rfl rfl hat
  have hkl := (List.getElem?_eq_some_iff.1 hn).1
  obtain ⟨gN, d, rfl, hd, hok, hgN, hcell⟩ := hN.node hn
  obtain ⟨k, hk⟩ : ∃ k, b + Re.cnt (.set l) - 1 = k := ⟨_, rfl⟩
  rw [hk] at hn hkl hcell ⊢
  obtain ⟨N, hNs⟩ : ∃ N, ins.length = N := ⟨_, rfl⟩
  have hlt1 : N < 100000 := by omega
  have cc : ∀ j, j < 5 → w.cell? ⟨gN, k * 5 + j, none⟩ = d.cells[j]? := fun j hj => by
    rw [hb.cell (p := ⟨gN, k * 5 + j, none⟩) hgN, hcell j hj]
  have c0 : w.cell? ⟨gN, k * 5, none⟩ = some (.int .i64 (d.n.kind : Nat)) := cc 0 (by omega)
  have c1 : w.cell? ⟨gN, k * 5 + 1, none⟩ = some (.slice d.kA d.n.kids.length d.kc) := cc 1 (by omega)
  have c2 : w.cell? ⟨gN, k * 5 + 2, none⟩ = some (.int .i64 (d.n.mn : Nat)) := cc 2 (by omega)
  have c3 : w.cell? ⟨gN, k * 5 + 3, none⟩ = some (.int .i64 d.n.mx) := cc 3 (by omega)
  have c4 : w.cell? ⟨gN, k * 5 + 4, none⟩ = some (.slice d.sA d.n.set.length d.sc) := cc 4 (by omega)
  have hset := hok.set
  rw [hd] at c0 c1 c2 c3 c4 hset
  have hg := hp.lt
  have f0 : w.cell? ⟨g, 0, none⟩ = some (.slice (some ⟨gN, 0, none⟩) ns.length c) := by
    obtain ⟨O, m, h1, -⟩ := hp.ex
    exact h1.cell 0
  obtain ⟨sA, hsA⟩ : ∃ sA, d.sA = sA := ⟨_, rfl⟩
  obtain ⟨sc, hsc⟩ : ∃ sc, d.sc = sc := ⟨_, rfl⟩
  obtain ⟨kA, hkA⟩ : ∃ kA, d.kA = kA := ⟨_, rfl⟩
  obtain ⟨kc, hkc⟩ : ∃ kc, d.kc = kc := ⟨_, rfl⟩
  rw [hsA] at c4 hset
  rw [hsc] at c4
  rw [hkA, hkc] at c1
  have e1 : (Re.set l).code N = [⟨0, N + 1, 0, l⟩] := rfl
  obtain ⟨sl, hsl⟩ : ∃ sl, l.length = sl := ⟨_, rfl⟩
  have hset' : RowT W0 21 sA sl (l.map rv) := by rw [← hsl]; exact hset
  have c4' : w.cell? ⟨gN, k * 5 + 4, none⟩ = some (.slice sA sl sc) := by rw [← hsl]; exact c4
  have hbX : Below w.heap.size w (w.alloc (.cells #[.int .i64 2, .slice kA 0 kc, .int .i64 0, .int .i64 0, .slice sA sl sc] 182)) := (Below.refl _ _).alloc (Nat.le_refl _) _
  obtain ⟨X, hX⟩ : ∃ X, X = w.alloc (.cells #[.int .i64 2, .slice kA 0 kc, .int .i64 0, .int .i64 0, .slice sA sl sc] 182) := ⟨_, rfl⟩
  have bX : Blk X w.heap.size 182 [.int .i64 2, .slice kA 0 kc, .int .i64 0, .int .i64 0, .slice sA sl sc] := by rw [hX]; exact Blk.new w _ _
  rw [← hX] at hbX
  have pX := hp.below hbX
  have bD : Below X.heap.size X X.drew := (Below.refl _ _).drew
  have pD := pX.below bD
  have hsz0 := hb.size
  have hss := hbX.size
  have he : Calls Tryz.prog 94 #[.pointer (some ⟨g, 0, none⟩), .agg #[.int .i64 0, .int .i64 ((N + 1 : Nat) : Int), .int .i64 0, .slice sA sl sc]] X.drew fun e w' => e = .returned (.int .i64 (N : Nat)) ∧ ProgIs W0 W0.heap.size (.slice (some ⟨gN, 0, none⟩) ns.length c) w' g (ins ++ [⟨0, N + 1, 0, l⟩]) ∧ QK W0.heap.size X.drew w' := by
    have := vEmit (W0 := W0) (B := W0.heap.size) ⟨⟨0, N + 1, 0, l⟩, sA, sc⟩ X.drew g ins pD (by have := bD.size; omega) hBg (by show RowT W0 _ sA l.length _; rw [hsl]; exact hset') (by omega)
    rw [hNs] at this
    dsimp only at this
    rw [hsl] at this
    exact this
  have z1 : (k : Int) < (ns.length : Int) := by omega
  have wN : IntKind.i64.wrap ((N : Int) + 1) = ((N + 1 : Nat) : Int) := by rw [IntKind.wrap_i64]; omega
  have qX := (QK.of_below hbX hsz0).trans (QK.of_below bD (by omega))
  have PX := pD
  have He := Lib.hid he; have QX := Lib.hid qX
  rw [hNs, e1]
  clear hcell cc hok hp pX hb hbX hat hn hN he qX hset c4 e1 hset' bD
  go_enter Tryz.func93, Tryz.ntmps93
  go_upto_region 3 with fail
  rw [← hX]
  clear hX
  have sS : ProgIs W0 W0.heap.size (.slice (some ⟨gN, 0, none⟩) ns.length c) X.drew g ins ∧ Blk X.drew w.heap.size 182 [.int .i64 2, .slice kA 0 kc, .int .i64 0, .int .i64 0, .slice sA sl sc] := ⟨PX, bX⟩
  clear PX
  refine wp_region_N (fun w' => ProgIs W0 W0.heap.size (.slice (some ⟨gN, 0, none⟩) ns.length c) w' g ins ∧ Blk w' w.heap.size 182 [.int .i64 2, .slice kA 0 kc, .int .i64 0, .int .i64 0, .slice sA sl sc]) 7 (by kernel_rfl) ?_
  apply wpAnyN_takeT 0 (by kernel_rfl) rfl (fun _ _ _ h => h) (by kernel_rfl) sS
  · intro w' hS'
    go_simp; exact ⟨rfl, rfl⟩
  (try simp only [Act.put]); (try simp only [List.setIfInBounds_toArray]); (try simp only [List.set])
  apply wpAnyN_takeT 1 (by kernel_rfl) rfl (fun _ _ _ h => h) (by kernel_rfl) sS
  · intro w' hS'
    go_simp; exact ⟨rfl, rfl⟩
  (try simp only [Act.put]); (try simp only [List.setIfInBounds_toArray]); (try simp only [List.set])
  apply wpAnyN_takeT 2 (v := (.int .i64 (N : Nat))) (by kernel_rfl) rfl (fun _ _ _ h => h) (by kernel_rfl) sS
  · intro w' hS'
    (have hst := vHere w' g ins hS'.1; rw [hNs] at hst; go_simp; exact ⟨rfl, hst⟩)
  (try simp only [Act.put]); (try simp only [List.setIfInBounds_toArray]); (try simp only [List.set])
  apply wpAnyN_takeT 3 (v := (.int .i64 ((N + 1 : Nat) : Int))) (by kernel_rfl) rfl (fun _ _ _ h => h) (by kernel_rfl) sS
  · intro w' hS'
    (go_simp; exact ⟨rfl, rfl⟩)
  (try simp only [Act.put]); (try simp only [List.setIfInBounds_toArray]); (try simp only [List.set])
  apply wpAnyN_takeT 4 (by kernel_rfl) rfl (fun _ _ _ h => h) (by kernel_rfl) sS
  · intro w' hS'
    go_simp; exact ⟨rfl, rfl⟩
  (try simp only [Act.put]); (try simp only [List.setIfInBounds_toArray]); (try simp only [List.set])
  apply wpAnyN_takeT 5 (v := (.slice sA sl sc)) (by kernel_rfl) rfl (fun _ _ _ h => h) (by kernel_rfl) sS
  · intro w' hS'
    (have k4 : w'.cell? ⟨w.heap.size, 4, none⟩ = some (.slice sA sl sc) := hS'.2.cell 4; go_simp; exact ⟨rfl, rfl⟩)
  (try simp only [Act.put]); (try simp only [List.setIfInBounds_toArray]); (try simp only [List.set])
  apply wpAnyN_takeT 6 (v := (.agg #[.int .i64 0, .int .i64 ((N + 1 : Nat) : Int), .int .i64 0, .slice sA sl sc])) (by kernel_rfl) rfl (fun _ _ _ h => h) (by kernel_rfl) sS
  · intro w' hS'
    (go_simp; exact ⟨rfl, rfl⟩)
  (try simp only [Act.put]); (try simp only [List.setIfInBounds_toArray]); (try simp only [List.set])
  refine wpAnyN_runL 7 (by kernel_rfl) rfl (by kernel_rfl) (fun K hK => ?_)
  go_simp
  refine He.out.mono ?_
  rintro e w2 ⟨rfl, p2, q2⟩
  have P2 := Lib.hid p2; have Q2 := Lib.hid q2
  clear p2 q2
  refine hK _ _ (fun h => absurd rfl h) ?_
  clear hK K
  (try simp only [Act.put])
  refine wpAnyN_done (by kernel_rfl) ?_ _
  go_wp2
  go_end0
  exact ⟨rfl, P2.out, QX.out.trans Q2.out⟩
end Go.Proofs.YtecejnilajbdpaaGreatDoor

/-! autom: node of a row -/
namespace Go.Proofs.YtecejnilajbdpaaGreatDoor
open Go.RowKit Garner
theorem lens_app : ∀ a m : List Re, lens (a ++ m) = lens a + lens m
  | [], m => by simp [lens]
  | t :: a, m => by rw [List.cons_append, lens, lens, lens_app a m]; omega
theorem codes_app : ∀ (a m : List Re) (p : Nat), codes (a ++ m) p = codes a p ++ codes m (p + lens a)
  | [], m, p => by simp [codes, lens]
  | t :: a, m, p => by
    show t.code p ++ codes (a ++ m) (p + t.len) = (t.code p ++ codes a (p + t.len)) ++ codes m (p + (t.len + lens a))
    rw [codes_app a m, List.append_assoc, Nat.add_assoc]
theorem codes_one (t : Re) (p : Nat) : codes [t] p = t.code p := by simp [codes]
theorem QK.from {B : Nat} {W0 w w' : World} (h : Below B W0 w) (q : QK B w w') : Below B W0 w' := h.trans q.low
set_option maxRecDepth 100000 in
set_option maxHeartbeats 16000000 in
theorem nodeSeq {F : Nat → Prop} {W0 : World} {B0 : Nat} {A : Option Addr} {c : Nat} {ns : List NodeP} (hN : NodesIs F W0 B0 (.slice A ns.length c) ns) (l : List Re) (hl : l.length ≤ 10000) (ih : ∀ t ∈ l, CodeC W0 A c ns t) : CodeC W0 A c ns (.seq l) := by
  intro b w g ins hat hBg hp hb hsz
  have hn := last_at (t := .seq l) (l := flats b l) rfl (by rw [flats_len]; rfl) hat
  have hat2 : AtN ns b (flats b l) := AtN.left (m := [_]) hat
  have hkl := (List.getElem?_eq_some_iff.1 hn).1
  obtain ⟨gN, d, rfl, hd, hok, hgN, hcell⟩ := hN.node hn
  obtain ⟨k, hk⟩ : ∃ k, b + Re.cnt (.seq l) - 1 = k := ⟨_, rfl⟩
  rw [hk] at hn hkl hcell ⊢
  obtain ⟨N, hNs⟩ : ∃ N, ins.length = N := ⟨_, rfl⟩
  have cc : ∀ j, j < 5 → w.cell? ⟨gN, k * 5 + j, none⟩ = d.cells[j]? := fun j hj => by
    rw [hb.cell (p := ⟨gN, k * 5 + j, none⟩) hgN, hcell j hj]
  have c0 : w.cell? ⟨gN, k * 5, none⟩ = some (.int .i64 (d.n.kind : Nat)) := cc 0 (by omega)
  have c1 : w.cell? ⟨gN, k * 5 + 1, none⟩ = some (.slice d.kA d.n.kids.length d.kc) := cc 1 (by omega)
  have c2 : w.cell? ⟨gN, k * 5 + 2, none⟩ = some (.int .i64 (d.n.mn : Nat)) := cc 2 (by omega)
  have c3 : w.cell? ⟨gN, k * 5 + 3, none⟩ = some (.int .i64 d.n.mx) := cc 3 (by omega)
  have c4 : w.cell? ⟨gN, k * 5 + 4, none⟩ = some (.slice d.sA d.n.set.length d.sc) := cc 4 (by omega)
  have hkids := hok.kids
  rw [hd] at c0 c1 c2 c3 c4 hkids
  have hg := hp.lt
  have f0 : w.cell? ⟨g, 0, none⟩ = some (.slice (some ⟨gN, 0, none⟩) ns.length c) := by
    obtain ⟨O, m, h1, -⟩ := hp.ex
    exact h1.cell 0
  obtain ⟨sA, hsA⟩ : ∃ sA, d.sA = sA := ⟨_, rfl⟩
  obtain ⟨sc, hsc⟩ : ∃ sc, d.sc = sc := ⟨_, rfl⟩
  obtain ⟨kA, hkA⟩ : ∃ kA, d.kA = kA := ⟨_, rfl⟩
  obtain ⟨kc, hkc⟩ : ∃ kc, d.kc = kc := ⟨_, rfl⟩
  rw [hsA, hsc] at c4
  rw [hkA, hkc] at c1
  rw [hkA] at hkids
  obtain ⟨kl, hkl2⟩ : ∃ kl, l.length = kl := ⟨_, rfl⟩
  dsimp only at c1 hkids
  rw [roots_length, hkl2] at c1 hkids
  rw [hkl2] at hl
  have hbX : Below w.heap.size w (w.alloc (.cells #[.int .i64 3, .slice kA kl kc, .int .i64 0, .int .i64 0, .slice sA 0 sc] 182)) := (Below.refl _ _).alloc (Nat.le_refl _) _
  have pX := hp.below hbX
  have hsz0 := hb.size
  have qX := QK.of_below hbX hsz0
  have z1 : (k : Int) < (ns.length : Int) := by omega
  have PX := Lib.hid pX; have QX := Lib.hid qX; have HB := Lib.hid hb; have Hk := Lib.hid hkids; have Hat := Lib.hid hat2; have Hih := Lib.hid ih; have Hkl2 := Lib.hid hkl2; have Hsz := Lib.hid hsz; have HNs := Lib.hid hNs
  have e1 : ins ++ (Re.seq l).code ins.length = ins ++ codes l N := by rw [hNs]; rfl
  rw [e1]
  clear hcell cc hok hp pX hb hbX hat hat2 hn hN qX hkids ih hkl2 e1 hsz hNs
  go_enter Tryz.func93, Tryz.ntmps93
  go_wp2
  go_loopw [47] (fun i wr => ∃ j : Nat, j ≤ kl ∧ i = .int .i64 j ∧ Hid (ProgIs W0 W0.heap.size (.slice (some ⟨gN, 0, none⟩) ns.length c) wr g (ins ++ codes (l.take j) N)) ∧ Hid (QK W0.heap.size w wr)) (fun i _ => kl - (intOf i).toNat)
  case atStart => exact ⟨0, Nat.zero_le _, rfl, Lib.hid (by simpa [codes] using PX.out), QX⟩
  case round =>
    obtain ⟨j, hj, rfl, hps, hq⟩ := hrel
    obtain ⟨wo, rfl⟩ : ∃ wo : World, wo = wr := ⟨_, rfl⟩
    have wk1 : IntKind.i64.wrap ((j : Int) + 1) = ((j + 1 : Nat) : Int) := by rw [IntKind.wrap_i64]; omega
    by_cases hlt : j < kl
    · obtain ⟨t, ht⟩ : ∃ t, l[j]? = some t := ⟨_, List.getElem?_eq_getElem (by rw [Hkl2.out]; exact hlt)⟩
      have hroot := kid_root ht b
      have hW : Below W0.heap.size W0 wo := QK.from HB.out hq.out
      have hrow := Hk.out.below hW
      obtain ⟨bk, ok, rfl, ck0⟩ := hrow.at_ (k := j) (u := iv _) (by rw [List.getElem?_map, hroot]; rfl)
      have hlens : lens (l.take j) + t.len ≤ lens l := by
        obtain ⟨a, m, e, -, h3, -⟩ := split_at ht
        rw [h3, e, lens_app, lens]; omega
      have hlc : (ins ++ codes (l.take j) N).length = N + lens (l.take j) := by rw [List.length_append, codes_len, HNs.out]
      have hszz := Hsz.out
      rw [HNs.out] at hszz
      have hc := Hih.out t (List.mem_of_getElem? ht) (b + cnts (l.take j)) wo g _ (kid_nodes ht Hat.out) hBg hps.out hW (by rw [hlc]; show _ ≤ _; have : (Re.seq l).len = lens l := rfl; omega)
      obtain ⟨r, hr⟩ : ∃ r, b + cnts (l.take j) + t.cnt - 1 = r := ⟨_, rfl⟩
      rw [hr] at hc ck0
      have ckid : wo.cell? ⟨bk, ok + j, none⟩ = some (.int .i64 (r : Nat)) := ck0
      have e2 : (ins ++ codes (l.take j) N) ++ t.code (ins ++ codes (l.take j) N).length = ins ++ codes (l.take (j + 1)) N := by
        obtain ⟨a, m, e, -, h3, h4⟩ := split_at ht
        rw [hlc, h3, h4, codes_app, codes_one, List.append_assoc]
      rw [e2] at hc
      have HC := Lib.hid hc
      have z2 : (j : Int) < (kl : Int) := by omega
      clear hc e2 hr ck0 hlc hlens hrow hW hroot ht hps hszz
      go_wp2_with fail
      refine HC.out.mono ?_
      rintro e w2 ⟨rfl, p2, q2⟩
      have P2 := Lib.hid p2; have Q2 := Lib.hid q2
      clear p2 q2
      go_wp2
      go_roundw
      case rel => exact ⟨j + 1, by omega, rfl, P2, Lib.hid (hq.out.trans Q2.out)⟩
      case measure => simp [intOf]; omega
    · have z2 : ¬ (j : Int) < (kl : Int) := by omega
      obtain rfl : j = kl := by omega
      have hfin := hps.out
      rw [List.take_of_length_le (by rw [Hkl2.out]; exact Nat.le_refl _)] at hfin
      have HF := Lib.hid hfin
      clear hfin hps
      go_wp2_with fail
      go_end0
      exact ⟨rfl, HF.out, hq.out⟩
end Go.Proofs.YtecejnilajbdpaaGreatDoor

/-! autom: an instruction is mended -/
namespace Go.Proofs.YtecejnilajbdpaaGreatDoor
open Go.RowKit Garner
theorem inst_at : ∀ {ds : List InstD} {k : Nat} {d : InstD}, ds[k]? = some d → ∀ j, j < 4 → (ds.flatMap InstD.cells)[k * 4 + j]? = d.cells[j]?
  | [], k, d, h, j, hj => by simp at h
  | x :: ds, 0, d, h, j, hj => by
    simp at h; subst h
    rw [List.flatMap_cons, List.getElem?_append_left (by show 0 * 4 + j < 4; omega), Nat.zero_mul, Nat.zero_add]
  | x :: ds, k + 1, d, h, j, hj => by
    have ih := inst_at (ds := ds) (k := k) (d := d) (by simpa using h) j hj
    have hl : x.cells.length = 4 := rfl
    rw [List.flatMap_cons, List.getElem?_append_right (by omega), hl, show (k + 1) * 4 + j - 4 = k * 4 + j by omega]
    exact ih
theorem inst_set : ∀ {ds : List InstD} {k : Nat} {d : InstD}, ds[k]? = some d → ∀ (j : Nat) (u : Value) (d' : InstD), j < 4 → d'.cells = d.cells.set j u → (ds.flatMap InstD.cells).set (k * 4 + j) u = (ds.set k d').flatMap InstD.cells
  | [], k, d, h, j, u, d', hj, e => by simp at h
  | x :: ds, 0, d, h, j, u, d', hj, e => by
    simp at h; subst h
    rw [List.flatMap_cons, List.set_append, if_pos (by show 0 * 4 + j < 4; omega), Nat.zero_mul, Nat.zero_add, List.set_cons_zero, List.flatMap_cons, e]
  | x :: ds, k + 1, d, h, j, u, d', hj, e => by
    have ih := inst_set (ds := ds) (k := k) (d := d) (by simpa using h) j u d' hj e
    have hl : x.cells.length = 4 := rfl
    rw [List.flatMap_cons, List.set_append, if_neg (by omega), hl, show (k + 1) * 4 + j - 4 = k * 4 + j by omega, ih, List.set_cons_succ, List.flatMap_cons]
theorem ProgIs.patch {W0 : World} {B : Nat} {L : Value} {w : World} {g : Nat} {ins : List InstP} (h : ProgIs W0 B L w g ins) {f : Nat} {p : InstP} (hf : ins[f]? = some p) :
    ∃ gI m, w.cell? ⟨g, 1, none⟩ = some (.slice (some ⟨gI, 0, none⟩) ins.length m) ∧ (w.cell? ⟨gI, f * 4 + 1, none⟩ = some (.int .i64 p.x) ∧ w.frozen? ⟨gI, f * 4 + 1, none⟩ = false) ∧ (w.cell? ⟨gI, f * 4 + 2, none⟩ = some (.int .i64 p.y) ∧ w.frozen? ⟨gI, f * 4 + 2, none⟩ = false) ∧
      (∀ x : Nat, ProgIs W0 B L (w.setCell ⟨gI, f * 4 + 1, none⟩ (.int .i64 x)) g (ins.set f ⟨p.kind, x, p.y, p.runes⟩) ∧ QK B w (w.setCell ⟨gI, f * 4 + 1, none⟩ (.int .i64 x)) ∧ (w.setCell ⟨gI, f * 4 + 1, none⟩ (.int .i64 x)).cell? ⟨g, 1, none⟩ = some (.slice (some ⟨gI, 0, none⟩) ins.length m) ∧ (w.setCell ⟨gI, f * 4 + 1, none⟩ (.int .i64 x)).cell? ⟨gI, f * 4 + 2, none⟩ = some (.int .i64 p.y) ∧ (w.setCell ⟨gI, f * 4 + 1, none⟩ (.int .i64 x)).frozen? ⟨gI, f * 4 + 2, none⟩ = false) ∧
      (∀ y : Nat, ProgIs W0 B L (w.setCell ⟨gI, f * 4 + 2, none⟩ (.int .i64 y)) g (ins.set f ⟨p.kind, p.x, y, p.runes⟩) ∧ QK B w (w.setCell ⟨gI, f * 4 + 2, none⟩ (.int .i64 y)) ∧ (w.setCell ⟨gI, f * 4 + 2, none⟩ (.int .i64 y)).cell? ⟨g, 1, none⟩ = some (.slice (some ⟨gI, 0, none⟩) ins.length m) ∧ (w.setCell ⟨gI, f * 4 + 2, none⟩ (.int .i64 y)).cell? ⟨gI, f * 4 + 1, none⟩ = some (.int .i64 p.x) ∧ (w.setCell ⟨gI, f * 4 + 2, none⟩ (.int .i64 y)).frozen? ⟨gI, f * 4 + 1, none⟩ = false) := by
  have hnb := h.nb
  obtain ⟨O, m, hb, ds, hds, hown, hall⟩ := h.ex
  obtain ⟨hlt, -⟩ := List.getElem?_eq_some_iff.1 hf
  obtain ⟨gI, rfl, hBI, hgI, -, -, hc⟩ := own_at hown (by omega)
  have hf' := hf
  rw [← hds, List.getElem?_map] at hf'
  cases hd : ds[f]? with
  | none => rw [hd] at hf'; cases hf'
  | some d =>
  rw [hd] at hf'
  injection hf' with ep
  have hdm := hall d (List.mem_of_getElem? hd)
  have hne : g ≠ gI := fun e => by
    subst e
    obtain ⟨cs, t, z, h1, h2⟩ := own_typed hown g rfl
    unfold Blk at hb
    rw [hb] at h1
    cases h1
    exact absurd h2 (by decide)
  have key : ∀ (j : Nat) (v : Nat) (q : InstP), j < 4 → q.runes = p.runes → (⟨q, d.sA, d.sc⟩ : InstD).cells = d.cells.set j (.int .i64 v) →
      ProgIs W0 B L (w.setCell ⟨gI, f * 4 + j, none⟩ (.int .i64 v)) g (ins.set f q) ∧ QK B w (w.setCell ⟨gI, f * 4 + j, none⟩ (.int .i64 v)) := fun j v q hj hr hcs => by
    obtain ⟨o2, -⟩ := hown.stored (f * 4 + j) (.int .i64 v)
    rw [inst_set hd j _ ⟨q, d.sA, d.sc⟩ hj hcs] at o2
    obtain ⟨cs, t, z, h1, h2⟩ := own_typed hown gI rfl
    refine ⟨⟨⟨some ⟨gI, 0, none⟩, m, ?_, ds.set f ⟨q, d.sA, d.sc⟩, ?_, ?_, ?_⟩, by rw [List.length_set]; exact hnb⟩, ⟨(KeepT.refl _ w).setCell (p := ⟨gI, f * 4 + j, none⟩) h1 (by rw [h2]; simp) _, (Below.refl _ _).setCell (p := ⟨gI, f * 4 + j, none⟩) hBI _⟩⟩
    · rw [List.length_set]
      unfold Blk at hb ⊢
      rw [← hb]
      exact Below.heap_setCell _ _ _ _ hne
    · rw [List.map_set, hds]
    · rw [List.length_set]; exact o2
    · intro x hx
      rcases List.mem_or_eq_of_mem_set hx with hx | rfl
      · exact hall x hx
      · show RowT W0 _ d.sA q.runes.length (q.runes.map rv)
        rw [hr, ← ep]; exact hdm
  have hcellG : ∀ (j : Nat) (v : Value), (w.setCell ⟨gI, f * 4 + j, none⟩ v).cell? ⟨g, 1, none⟩ = some (.slice (some ⟨gI, 0, none⟩) ins.length m) := fun j v => by
    rw [World.cell?_setCell_other _ _ _ _ (fun e => hne (congrArg Addr.block e).symm)]
    exact hb.cell 1
  have hx : w.cell? ⟨gI, f * 4 + 1, none⟩ = some (.int .i64 p.x) := by rw [hc _ (by omega), inst_at hd 1 (by omega), ← ep]; rfl
  have hy : w.cell? ⟨gI, f * 4 + 2, none⟩ = some (.int .i64 p.y) := by rw [hc _ (by omega), inst_at hd 2 (by omega), ← ep]; rfl
  refine ⟨gI, m, hb.cell 1, ⟨hx, hown.frozenAt _⟩, ⟨hy, hown.frozenAt _⟩, fun x => ?_, fun y => ?_⟩
  · obtain ⟨k1, k2⟩ := key 1 x ⟨p.kind, x, p.y, p.runes⟩ (by omega) rfl (by rw [← ep]; rfl)
    exact ⟨k1, k2, hcellG 1 _, by rw [World.cell?_setCell_other _ _ _ _ (fun e => (by injection e with _ e _; omega))]; exact hy, (hown.stored (f * 4 + 1) (.int .i64 x)).1.frozenAt _⟩
  · obtain ⟨k1, k2⟩ := key 2 y ⟨p.kind, p.x, y, p.runes⟩ (by omega) rfl (by rw [← ep]; rfl)
    exact ⟨k1, k2, hcellG 2 _, by rw [World.cell?_setCell_other _ _ _ _ (fun e => (by injection e with _ e _; omega))]; exact hx, (hown.stored (f * 4 + 2) (.int .i64 y)).1.frozenAt _⟩
end Go.Proofs.YtecejnilajbdpaaGreatDoor

