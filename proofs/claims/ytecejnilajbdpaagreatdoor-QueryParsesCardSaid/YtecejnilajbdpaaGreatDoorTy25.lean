import Derived.Test.YtecejnilajbdpaaGreatDoorTy21
import Derived.Test.YtecejnilajbdpaaGreatDoorTy23
import Derived.Deep.CutRange
import Derived.Test.YtecejnilajbdpaaGreatDoorTy24
import Derived.Deep.DeepCutAuto
namespace Go.Proofs.YtecejnilajbdpaaGreatDoor
open Go.RowKit Garner
def CodeC (W0 : World) (A : Option Addr) (c : Nat) (ns : List NodeP) (t : Re) : Prop :=
 ∀ (b : Nat) (w : World) (g : Nat) (ins : List InstP), AtN ns b (t.flat b) → W0.heap.size ≤ g → ProgIs W0 W0.heap.size (.slice A ns.length c) w g ins → Below W0.heap.size W0 w → ins.length + t.len ≤ 90000 →
  Calls Tryz.prog 93 #[.pointer (some ⟨g, 0, none⟩), .int .i64 (b + t.cnt - 1 : Nat)] w fun e w' => e = .returned (.tuple #[]) ∧ ProgIs W0 W0.heap.size (.slice A ns.length c) w' g (ins ++ t.code ins.length) ∧ QK W0.heap.size w w'
set_option maxRecDepth 100000 in
set_option maxHeartbeats 16000000 in
theorem nodeEdge {F : Nat → Prop} {W0 : World} {B0 : Nat} {A : Option Addr} {c : Nat} {ns : List NodeP} (hN : NodesIs F W0 B0 (.slice A ns.length c) ns) (t : Re) (ht : t = .bgn ∨ t = .fin) : CodeC W0 A c ns t := by
 intro b w g ins hat hBg hp hb hsz
 obtain ⟨K, KK, hf, hl, hcd, hK⟩ : ∃ K KK : Nat, t.flat b = [⟨K, [], 0, 0, []⟩] ∧ t.cnt = 1 ∧ t.code ins.length = [⟨KK, ins.length + 1, 0, []⟩] ∧ ((K = 6 ∧ KK = 2) ∨ (K = 7 ∧ KK = 3)) := by
  rcases ht with rfl | rfl
  ·exact ⟨6, 2, rfl, rfl, rfl, .inl ⟨rfl, rfl⟩⟩
  ·exact ⟨7, 3, rfl, rfl, rfl, .inr ⟨rfl, rfl⟩⟩
 have hn := last_at (l := []) hf hl hat
 have hkl := (List.getElem?_eq_some_iff.1 hn).1
 obtain ⟨gN, d, rfl, hd, hok, hgN, hcell⟩ := hN.node hn
 obtain ⟨k, hk⟩ : ∃ k, b + t.cnt - 1 = k := ⟨_, rfl⟩
 rw [hk] at hn hkl hcell ⊢
 rw [hcd]
 obtain ⟨N, hNs⟩ : ∃ N, ins.length = N := ⟨_, rfl⟩
 have hlt1 : N < 100000 := by omega
 have cc : ∀ j, j < 5 → w.cell? ⟨gN, k * 5 + j, none⟩ = d.cells[j]? := fun j hj => by
  rw [hb.cell (p := ⟨gN, k * 5 + j, none⟩) hgN, hcell j hj]
 have c0 : w.cell? ⟨gN, k * 5, none⟩ = some (.int .i64 (d.n.kind : Nat)) := cc 0 (by omega)
 have c1 : w.cell? ⟨gN, k * 5 + 1, none⟩ = some (.slice d.kA d.n.kids.length d.kc) := cc 1 (by omega)
 have c2 : w.cell? ⟨gN, k * 5 + 2, none⟩ = some (.int .i64 (d.n.mn : Nat)) := cc 2 (by omega)
 have c3 : w.cell? ⟨gN, k * 5 + 3, none⟩ = some (.int .i64 d.n.mx) := cc 3 (by omega)
 have c4 : w.cell? ⟨gN, k * 5 + 4, none⟩ = some (.slice d.sA d.n.set.length d.sc) := cc 4 (by omega)
 rw [hd] at c0 c1 c2 c3 c4
 have hg := hp.lt
 have f0 : w.cell? ⟨g, 0, none⟩ = some (.slice (some ⟨gN, 0, none⟩) ns.length c) := by
  obtain ⟨O, m, h1, -⟩ := hp.ex
  exact h1.cell 0
 have hbX : Below w.heap.size w (w.alloc (.cells #[.int .i64 (K : Nat), .slice d.kA 0 d.kc, .int .i64 0, .int .i64 0, .slice d.sA 0 d.sc] 182)) := (Below.refl _ _).alloc (Nat.le_refl _) _
 have pX := hp.below hbX
 have hsz0 := hb.size
 have hh := vHere _ g ins pX
 have he := vEmit ⟨⟨KK, N + 1, 0, []⟩, none, 0⟩ _ g ins pX (by have := hbX.size; omega) hBg (by exact RowT.nil) (by omega)
 rw [hNs] at hh he ⊢
 have z1 : (k : Int) < (ns.length : Int) := by omega
 have wN : IntKind.i64.wrap ((N : Int) + 1) = ((N + 1 : Nat) : Int) := by rw [IntKind.wrap_i64]; omega
 have qX := QK.of_below hbX hsz0
 have He := Lh he; have QX := Lh qX
 clear hcell cc hok hp pX hb hbX hat hn hN he qX hf
 go_enter Tryz.func93, Tryz.ntmps93
 rcases hK with ⟨rfl, rfl⟩ | ⟨rfl, rfl⟩
 all_goals
  go_wp2_with fail
  refine hh.mono ?_
  rintro e w1 ⟨rfl, rfl⟩
  go_wp2_with fail
  refine He.out.mono ?_
  rintro e w2 ⟨rfl, p2, q2⟩
  have P2 := Lh p2; have Q2 := Lh q2
  clear p2 q2
  go_wp2
  go_end0
  exact ⟨rfl, P2.out, QX.out.trans Q2.out⟩
set_option maxRecDepth 100000 in
set_option maxHeartbeats 16000000 in
theorem nodeEmp {F : Nat → Prop} {W0 : World} {B0 : Nat} {A : Option Addr} {c : Nat} {ns : List NodeP} (hN : NodesIs F W0 B0 (.slice A ns.length c) ns) : CodeC W0 A c ns .emp := by
 intro b w g ins hat hBg hp hb hsz
 have hn := last_at (t := .emp) (l := []) rfl rfl hat
 have hkl := (List.getElem?_eq_some_iff.1 hn).1
 obtain ⟨gN, d, rfl, hd, hok, hgN, hcell⟩ := hN.node hn
 obtain ⟨k, hk⟩ : ∃ k, b + Re.cnt .emp - 1 = k := ⟨_, rfl⟩
 rw [hk] at hn hkl hcell ⊢
 have cc : ∀ j, j < 5 → w.cell? ⟨gN, k * 5 + j, none⟩ = d.cells[j]? := fun j hj => by
  rw [hb.cell (p := ⟨gN, k * 5 + j, none⟩) hgN, hcell j hj]
 have c0 : w.cell? ⟨gN, k * 5, none⟩ = some (.int .i64 (d.n.kind : Nat)) := cc 0 (by omega)
 have c1 : w.cell? ⟨gN, k * 5 + 1, none⟩ = some (.slice d.kA d.n.kids.length d.kc) := cc 1 (by omega)
 have c2 : w.cell? ⟨gN, k * 5 + 2, none⟩ = some (.int .i64 (d.n.mn : Nat)) := cc 2 (by omega)
 have c3 : w.cell? ⟨gN, k * 5 + 3, none⟩ = some (.int .i64 d.n.mx) := cc 3 (by omega)
 have c4 : w.cell? ⟨gN, k * 5 + 4, none⟩ = some (.slice d.sA d.n.set.length d.sc) := cc 4 (by omega)
 rw [hd] at c0 c1 c2 c3 c4
 have hg := hp.lt
 have f0 : w.cell? ⟨g, 0, none⟩ = some (.slice (some ⟨gN, 0, none⟩) ns.length c) := by
  obtain ⟨O, m, h1, -⟩ := hp.ex
  exact h1.cell 0
 have hbX : Below w.heap.size w (w.alloc (.cells #[.int .i64 1, .slice d.kA 0 d.kc, .int .i64 0, .int .i64 0, .slice d.sA 0 d.sc] 182)) := (Below.refl _ _).alloc (Nat.le_refl _) _
 have pX := hp.below hbX
 have z1 : (k : Int) < (ns.length : Int) := by omega
 have qX := QK.of_below hbX hb.size
 have PX := Lh pX; have QX := Lh qX
 clear hcell cc hok hp pX hb hbX hat hn hN qX
 go_enter Tryz.func93, Tryz.ntmps93
 go_wp2_with fail
 go_end0
 exact ⟨rfl, by simpa [Re.code] using PX.out, QX.out⟩
set_option maxRecDepth 100000 in
set_option maxHeartbeats 16000000 in
theorem nodeSet {F : Nat → Prop} {W0 : World} {B0 : Nat} {A : Option Addr} {c : Nat} {ns : List NodeP} (hN : NodesIs F W0 B0 (.slice A ns.length c) ns) (l : List Nat) : CodeC W0 A c ns (.set l) := by
 intro b w g ins hat hBg hp hb hsz
 have hn := last_at (t := .set l) (l := []) rfl rfl hat
 have hkl := (List.getElem?_eq_some_iff.1 hn).1
 obtain ⟨gN, d, rfl, hd, hok, hgN, hcell⟩ := hN.node hn
 obtain ⟨k, hk⟩ : ∃ k, b + Re.cnt (.set l) - 1 = k := ⟨_, rfl⟩
 rw [hk] at hn hkl hcell ⊢
 obtain ⟨N, hNs⟩ : ∃ N, ins.length = N := ⟨_, rfl⟩
 have hlt1 : N < 100000 := by omega
 have cc : ∀ j, j < 5 → w.cell? ⟨gN, k * 5 + j, none⟩ = d.cells[j]? := fun j hj => by
  rw [hb.cell (p := ⟨gN, k * 5 + j, none⟩) hgN, hcell j hj]
 have c0 : w.cell? ⟨gN, k * 5, none⟩ = some (.int .i64 (d.n.kind : Nat)) := cc 0 (by omega)
 have c1 : w.cell? ⟨gN, k * 5 + 1, none⟩ = some (.slice d.kA d.n.kids.length d.kc) := cc 1 (by omega)
 have c2 : w.cell? ⟨gN, k * 5 + 2, none⟩ = some (.int .i64 (d.n.mn : Nat)) := cc 2 (by omega)
 have c3 : w.cell? ⟨gN, k * 5 + 3, none⟩ = some (.int .i64 d.n.mx) := cc 3 (by omega)
 have c4 : w.cell? ⟨gN, k * 5 + 4, none⟩ = some (.slice d.sA d.n.set.length d.sc) := cc 4 (by omega)
 have hset := hok.set
 rw [hd] at c0 c1 c2 c3 c4 hset
 have hg := hp.lt
 have f0 : w.cell? ⟨g, 0, none⟩ = some (.slice (some ⟨gN, 0, none⟩) ns.length c) := by
  obtain ⟨O, m, h1, -⟩ := hp.ex
  exact h1.cell 0
 obtain ⟨sA, hsA⟩ : ∃ sA, d.sA = sA := ⟨_, rfl⟩
 obtain ⟨sc, hsc⟩ : ∃ sc, d.sc = sc := ⟨_, rfl⟩
 obtain ⟨kA, hkA⟩ : ∃ kA, d.kA = kA := ⟨_, rfl⟩
 obtain ⟨kc, hkc⟩ : ∃ kc, d.kc = kc := ⟨_, rfl⟩
 rw [hsA] at c4 hset
 rw [hsc] at c4
 rw [hkA, hkc] at c1
 have e1 : (Re.set l).code N = [⟨0, N + 1, 0, l⟩] := rfl
 obtain ⟨sl, hsl⟩ : ∃ sl, l.length = sl := ⟨_, rfl⟩
 have hset' : RowT W0 21 sA sl (l.map rv) := by rw [← hsl]; exact hset
 have c4' : w.cell? ⟨gN, k * 5 + 4, none⟩ = some (.slice sA sl sc) := by rw [← hsl]; exact c4
 have hbX : Below w.heap.size w (w.alloc (.cells #[.int .i64 2, .slice kA 0 kc, .int .i64 0, .int .i64 0, .slice sA sl sc] 182)) := (Below.refl _ _).alloc (Nat.le_refl _) _
 obtain ⟨X, hX⟩ : ∃ X, X = w.alloc (.cells #[.int .i64 2, .slice kA 0 kc, .int .i64 0, .int .i64 0, .slice sA sl sc] 182) := ⟨_, rfl⟩
 have bX : Blk X w.heap.size 182 [.int .i64 2, .slice kA 0 kc, .int .i64 0, .int .i64 0, .slice sA sl sc] := by rw [hX]; exact Blk.new w _ _
 rw [← hX] at hbX
 have pX := hp.below hbX
 have bD : Below X.heap.size X X.drew := (Below.refl _ _).drew
 have pD := pX.below bD
 have hsz0 := hb.size
 have hss := hbX.size
 have he : Calls Tryz.prog 94 #[.pointer (some ⟨g, 0, none⟩), .agg #[.int .i64 0, .int .i64 ((N + 1 : Nat) : Int), .int .i64 0, .slice sA sl sc]] X.drew fun e w' => e = .returned (.int .i64 (N : Nat)) ∧ ProgIs W0 W0.heap.size (.slice (some ⟨gN, 0, none⟩) ns.length c) w' g (ins ++ [⟨0, N + 1, 0, l⟩]) ∧ QK W0.heap.size X.drew w' := by
  have := vEmit (W0 := W0) (B := W0.heap.size) ⟨⟨0, N + 1, 0, l⟩, sA, sc⟩ X.drew g ins pD (by have := bD.size; omega) hBg (by show RowT W0 _ sA l.length _; rw [hsl]; exact hset') (by omega)
  rw [hNs] at this
  dsimp only at this
  rw [hsl] at this
  exact this
 have z1 : (k : Int) < (ns.length : Int) := by omega
 have wN : IntKind.i64.wrap ((N : Int) + 1) = ((N + 1 : Nat) : Int) := by rw [IntKind.wrap_i64]; omega
 have qX := (QK.of_below hbX hsz0).trans (QK.of_below bD (by omega))
 have PX := pD
 have He := Lh he; have QX := Lh qX
 rw [hNs, e1]
 clear hcell cc hok hp pX hb hbX hat hn hN he qX hset c4 e1 hset' bD
 go_enter Tryz.func93, Tryz.ntmps93
 go_upto_region 3 with fail
 rw [← hX]
 clear hX
 have sS : ProgIs W0 W0.heap.size (.slice (some ⟨gN, 0, none⟩) ns.length c) X.drew g ins ∧ Blk X.drew w.heap.size 182 [.int .i64 2, .slice kA 0 kc, .int .i64 0, .int .i64 0, .slice sA sl sc] := ⟨PX, bX⟩
 clear PX
 refine rgN (fun w' => ProgIs W0 W0.heap.size (.slice (some ⟨gN, 0, none⟩) ns.length c) w' g ins ∧ Blk w' w.heap.size 182 [.int .i64 2, .slice kA 0 kc, .int .i64 0, .int .i64 0, .slice sA sl sc]) 7 (by kernel_rfl) ?_
 apply tkT 0 (by kernel_rfl) rfl (fun _ _ _ h => h) (by kernel_rfl) sS
 ·intro w' hS'; go_simp; exact ⟨rfl, rfl⟩
 apply tkT 1 (by kernel_rfl) rfl (fun _ _ _ h => h) (by kernel_rfl) sS
 ·intro w' hS'; go_simp; exact ⟨rfl, rfl⟩
 apply tkT 2 (v := (.int .i64 (N : Nat))) (by kernel_rfl) rfl (fun _ _ _ h => h) (by kernel_rfl) sS
 ·intro w' hS'
  (have hst := vHere w' g ins hS'.1; rw [hNs] at hst; go_simp; exact ⟨rfl, hst⟩)
 apply tkT 3 (v := (.int .i64 ((N + 1 : Nat) : Int))) (by kernel_rfl) rfl (fun _ _ _ h => h) (by kernel_rfl) sS
 ·intro w' hS'
  (go_simp; exact ⟨rfl, rfl⟩)
 apply tkT 4 (by kernel_rfl) rfl (fun _ _ _ h => h) (by kernel_rfl) sS
 ·intro w' hS'; go_simp; exact ⟨rfl, rfl⟩
 apply tkT 5 (v := (.slice sA sl sc)) (by kernel_rfl) rfl (fun _ _ _ h => h) (by kernel_rfl) sS
 ·intro w' hS'; have k4 : w'.cell? ⟨w.heap.size, 4, none⟩ = some (.slice sA sl sc) := hS'.2.cell 4; go_simp; exact ⟨rfl, rfl⟩
 apply tkT 6 (v := (.agg #[.int .i64 0, .int .i64 ((N + 1 : Nat) : Int), .int .i64 0, .slice sA sl sc])) (by kernel_rfl) rfl (fun _ _ _ h => h) (by kernel_rfl) sS
 ·intro w' hS'
  (go_simp; exact ⟨rfl, rfl⟩)
 (try simp only [Act.put]); (try simp only [List.setIfInBounds_toArray]); (try simp only [List.set])
 refine rnL 7 (by kernel_rfl) rfl (by kernel_rfl) (fun K hK => ?_)
 go_simp
 refine He.out.mono ?_
 rintro e w2 ⟨rfl, p2, q2⟩
 have P2 := Lh p2; have Q2 := Lh q2
 clear p2 q2
 refine hK _ _ (fun h => absurd rfl h) ?_
 clear hK K
 (try simp only [Act.put])
 refine dnL (by kernel_rfl) ?_ _
 go_wp2
 go_end0
 exact ⟨rfl, P2.out, QX.out.trans Q2.out⟩
theorem lens_app : ∀ a m : List Re, lens (a ++ m) = lens a + lens m
 | [], m => by simp [lens]
 | t :: a, m => by rw [List.cons_append, lens, lens, lens_app a m]; omega
theorem codes_app : ∀ (a m : List Re) (p : Nat), codes (a ++ m) p = codes a p ++ codes m (p + lens a)
 | [], m, p => by simp [codes, lens]
 | t :: a, m, p => by
  show t.code p ++ codes (a ++ m) (p + t.len) = (t.code p ++ codes a (p + t.len)) ++ codes m (p + (t.len + lens a))
  rw [codes_app a m, List.append_assoc, Nat.add_assoc]
theorem codes_one (t : Re) (p : Nat) : codes [t] p = t.code p := by simp [codes]
theorem QK.from {B : Nat} {W0 w w' : World} (h : Below B W0 w) (q : QK B w w') : Below B W0 w' := h.trans q.low
set_option maxRecDepth 100000 in
set_option maxHeartbeats 16000000 in
theorem nodeSeq {F : Nat → Prop} {W0 : World} {B0 : Nat} {A : Option Addr} {c : Nat} {ns : List NodeP} (hN : NodesIs F W0 B0 (.slice A ns.length c) ns) (l : List Re) (hl : l.length ≤ 10000) (ih : ∀ t ∈ l, CodeC W0 A c ns t) : CodeC W0 A c ns (.seq l) := by
 intro b w g ins hat hBg hp hb hsz
 have hn := last_at (t := .seq l) (l := flats b l) rfl (by rw [flats_len]; rfl) hat
 have hat2 : AtN ns b (flats b l) := AtN.left (m := [_]) hat
 have hkl := (List.getElem?_eq_some_iff.1 hn).1
 obtain ⟨gN, d, rfl, hd, hok, hgN, hcell⟩ := hN.node hn
 obtain ⟨k, hk⟩ : ∃ k, b + Re.cnt (.seq l) - 1 = k := ⟨_, rfl⟩
 rw [hk] at hn hkl hcell ⊢
 obtain ⟨N, hNs⟩ : ∃ N, ins.length = N := ⟨_, rfl⟩
 have cc : ∀ j, j < 5 → w.cell? ⟨gN, k * 5 + j, none⟩ = d.cells[j]? := fun j hj => by
  rw [hb.cell (p := ⟨gN, k * 5 + j, none⟩) hgN, hcell j hj]
 have c0 : w.cell? ⟨gN, k * 5, none⟩ = some (.int .i64 (d.n.kind : Nat)) := cc 0 (by omega)
 have c1 : w.cell? ⟨gN, k * 5 + 1, none⟩ = some (.slice d.kA d.n.kids.length d.kc) := cc 1 (by omega)
 have c2 : w.cell? ⟨gN, k * 5 + 2, none⟩ = some (.int .i64 (d.n.mn : Nat)) := cc 2 (by omega)
 have c3 : w.cell? ⟨gN, k * 5 + 3, none⟩ = some (.int .i64 d.n.mx) := cc 3 (by omega)
 have c4 : w.cell? ⟨gN, k * 5 + 4, none⟩ = some (.slice d.sA d.n.set.length d.sc) := cc 4 (by omega)
 have hkids := hok.kids
 rw [hd] at c0 c1 c2 c3 c4 hkids
 have hg := hp.lt
 have f0 : w.cell? ⟨g, 0, none⟩ = some (.slice (some ⟨gN, 0, none⟩) ns.length c) := by
  obtain ⟨O, m, h1, -⟩ := hp.ex
  exact h1.cell 0
 obtain ⟨sA, hsA⟩ : ∃ sA, d.sA = sA := ⟨_, rfl⟩
 obtain ⟨sc, hsc⟩ : ∃ sc, d.sc = sc := ⟨_, rfl⟩
 obtain ⟨kA, hkA⟩ : ∃ kA, d.kA = kA := ⟨_, rfl⟩
 obtain ⟨kc, hkc⟩ : ∃ kc, d.kc = kc := ⟨_, rfl⟩
 rw [hsA, hsc] at c4
 rw [hkA, hkc] at c1
 rw [hkA] at hkids
 obtain ⟨kl, hkl2⟩ : ∃ kl, l.length = kl := ⟨_, rfl⟩
 dsimp only at c1 hkids
 rw [roots_length, hkl2] at c1 hkids
 rw [hkl2] at hl
 have hbX : Below w.heap.size w (w.alloc (.cells #[.int .i64 3, .slice kA kl kc, .int .i64 0, .int .i64 0, .slice sA 0 sc] 182)) := (Below.refl _ _).alloc (Nat.le_refl _) _
 have pX := hp.below hbX
 have hsz0 := hb.size
 have qX := QK.of_below hbX hsz0
 have z1 : (k : Int) < (ns.length : Int) := by omega
 have PX := Lh pX; have QX := Lh qX; have HB := Lh hb; have Hk := Lh hkids; have Hat := Lh hat2; have Hih := Lh ih; have Hkl2 := Lh hkl2; have Hsz := Lh hsz; have HNs := Lh hNs
 have e1 : ins ++ (Re.seq l).code ins.length = ins ++ codes l N := by rw [hNs]; rfl
 rw [e1]
 clear hcell cc hok hp pX hb hbX hat hat2 hn hN qX hkids ih hkl2 e1 hsz hNs
 go_enter Tryz.func93, Tryz.ntmps93
 go_wp2
 go_loopw [47] (fun i wr => ∃ j : Nat, j ≤ kl ∧ i = .int .i64 j ∧ Hid (ProgIs W0 W0.heap.size (.slice (some ⟨gN, 0, none⟩) ns.length c) wr g (ins ++ codes (l.take j) N)) ∧ Hid (QK W0.heap.size w wr)) (fun i _ => kl - (intOf i).toNat)
 case atStart => exact ⟨0, Nat.zero_le _, rfl, Lh (by simpa [codes] using PX.out), QX⟩
 case round =>
  obtain ⟨j, hj, rfl, hps, hq⟩ := hrel
  obtain ⟨wo, rfl⟩ : ∃ wo : World, wo = wr := ⟨_, rfl⟩
  have wk1 : IntKind.i64.wrap ((j : Int) + 1) = ((j + 1 : Nat) : Int) := by rw [IntKind.wrap_i64]; omega
  by_cases hlt : j < kl
  ·obtain ⟨t, ht⟩ : ∃ t, l[j]? = some t := ⟨_, List.getElem?_eq_getElem (by rw [Hkl2.out]; exact hlt)⟩
   have hroot := kid_root ht b
   have hW : Below W0.heap.size W0 wo := QK.from HB.out hq.out
   have hrow := Hk.out.below hW
   obtain ⟨bk, ok, rfl, ck0⟩ := hrow.at_ (k := j) (u := iv _) (by rw [List.getElem?_map, hroot]; rfl)
   have hlens : lens (l.take j) + t.len ≤ lens l := by
    obtain ⟨a, m, e, -, h3, -⟩ := split_at ht
    rw [h3, e, lens_app, lens]; omega
   have hlc : (ins ++ codes (l.take j) N).length = N + lens (l.take j) := by rw [List.length_append, codes_len, HNs.out]
   have hszz := Hsz.out
   rw [HNs.out] at hszz
   have hc := Hih.out t (List.mem_of_getElem? ht) (b + cnts (l.take j)) wo g _ (kid_nodes ht Hat.out) hBg hps.out hW (by rw [hlc]; show _ ≤ _; have : (Re.seq l).len = lens l := rfl; omega)
   obtain ⟨r, hr⟩ : ∃ r, b + cnts (l.take j) + t.cnt - 1 = r := ⟨_, rfl⟩
   rw [hr] at hc ck0
   have ckid : wo.cell? ⟨bk, ok + j, none⟩ = some (.int .i64 (r : Nat)) := ck0
   have e2 : (ins ++ codes (l.take j) N) ++ t.code (ins ++ codes (l.take j) N).length = ins ++ codes (l.take (j + 1)) N := by
    obtain ⟨a, m, e, -, h3, h4⟩ := split_at ht
    rw [hlc, h3, h4, codes_app, codes_one, List.append_assoc]
   rw [e2] at hc
   have HC := Lh hc
   have z2 : (j : Int) < (kl : Int) := by omega
   clear hc e2 hr ck0 hlc hlens hrow hW hroot ht hps hszz
   go_wp2_with fail
   refine HC.out.mono ?_
   rintro e w2 ⟨rfl, p2, q2⟩
   have P2 := Lh p2; have Q2 := Lh q2
   clear p2 q2
   go_wp2
   go_roundw
   case rel => exact ⟨j + 1, by omega, rfl, P2, Lh (hq.out.trans Q2.out)⟩
   case measure => simp [intOf]; omega
  ·have z2 : ¬ (j : Int) < (kl : Int) := by omega
   obtain rfl : j = kl := by omega
   have hfin := hps.out
   rw [List.take_of_length_le (by rw [Hkl2.out]; exact Nat.le_refl _)] at hfin
   have HF := Lh hfin
   clear hfin hps
   go_wp2_with fail
   go_end0
   exact ⟨rfl, HF.out, hq.out⟩
theorem inst_at : ∀ {ds : List InstD} {k : Nat} {d : InstD}, ds[k]? = some d → ∀ j, j < 4 → (ds.flatMap InstD.cells)[k * 4 + j]? = d.cells[j]?
 | [], k, d, h, j, hj => by simp at h
 | x :: ds, 0, d, h, j, hj => by
  simp at h; subst h
  rw [List.flatMap_cons, List.getElem?_append_left (by show 0 * 4 + j < 4; omega), Nat.zero_mul, Nat.zero_add]
 | x :: ds, k + 1, d, h, j, hj => by
  have ih := inst_at (ds := ds) (k := k) (d := d) (by simpa using h) j hj
  have hl : x.cells.length = 4 := rfl
  rw [List.flatMap_cons, List.getElem?_append_right (by omega), hl, show (k + 1) * 4 + j - 4 = k * 4 + j by omega]
  exact ih
theorem inst_set : ∀ {ds : List InstD} {k : Nat} {d : InstD}, ds[k]? = some d → ∀ (j : Nat) (u : Value) (d' : InstD), j < 4 → d'.cells = d.cells.set j u → (ds.flatMap InstD.cells).set (k * 4 + j) u = (ds.set k d').flatMap InstD.cells
 | [], k, d, h, j, u, d', hj, e => by simp at h
 | x :: ds, 0, d, h, j, u, d', hj, e => by
  simp at h; subst h
  rw [List.flatMap_cons, List.set_append, if_pos (by show 0 * 4 + j < 4; omega), Nat.zero_mul, Nat.zero_add, List.set_cons_zero, List.flatMap_cons, e]
 | x :: ds, k + 1, d, h, j, u, d', hj, e => by
  have ih := inst_set (ds := ds) (k := k) (d := d) (by simpa using h) j u d' hj e
  have hl : x.cells.length = 4 := rfl
  rw [List.flatMap_cons, List.set_append, if_neg (by omega), hl, show (k + 1) * 4 + j - 4 = k * 4 + j by omega, ih, List.set_cons_succ, List.flatMap_cons]
theorem ProgIs.patch {W0 : World} {B : Nat} {L : Value} {w : World} {g : Nat} {ins : List InstP} (h : ProgIs W0 B L w g ins) {f : Nat} {p : InstP} (hf : ins[f]? = some p) :
  ∃ gI m, w.cell? ⟨g, 1, none⟩ = some (.slice (some ⟨gI, 0, none⟩) ins.length m) ∧ (w.cell? ⟨gI, f * 4 + 1, none⟩ = some (.int .i64 p.x) ∧ w.frozen? ⟨gI, f * 4 + 1, none⟩ = false) ∧ (w.cell? ⟨gI, f * 4 + 2, none⟩ = some (.int .i64 p.y) ∧ w.frozen? ⟨gI, f * 4 + 2, none⟩ = false) ∧
   (∀ x : Nat, ProgIs W0 B L (w.setCell ⟨gI, f * 4 + 1, none⟩ (.int .i64 x)) g (ins.set f ⟨p.kind, x, p.y, p.runes⟩) ∧ QK B w (w.setCell ⟨gI, f * 4 + 1, none⟩ (.int .i64 x)) ∧ (w.setCell ⟨gI, f * 4 + 1, none⟩ (.int .i64 x)).cell? ⟨g, 1, none⟩ = some (.slice (some ⟨gI, 0, none⟩) ins.length m) ∧ (w.setCell ⟨gI, f * 4 + 1, none⟩ (.int .i64 x)).cell? ⟨gI, f * 4 + 2, none⟩ = some (.int .i64 p.y) ∧ (w.setCell ⟨gI, f * 4 + 1, none⟩ (.int .i64 x)).frozen? ⟨gI, f * 4 + 2, none⟩ = false) ∧
   (∀ y : Nat, ProgIs W0 B L (w.setCell ⟨gI, f * 4 + 2, none⟩ (.int .i64 y)) g (ins.set f ⟨p.kind, p.x, y, p.runes⟩) ∧ QK B w (w.setCell ⟨gI, f * 4 + 2, none⟩ (.int .i64 y)) ∧ (w.setCell ⟨gI, f * 4 + 2, none⟩ (.int .i64 y)).cell? ⟨g, 1, none⟩ = some (.slice (some ⟨gI, 0, none⟩) ins.length m) ∧ (w.setCell ⟨gI, f * 4 + 2, none⟩ (.int .i64 y)).cell? ⟨gI, f * 4 + 1, none⟩ = some (.int .i64 p.x) ∧ (w.setCell ⟨gI, f * 4 + 2, none⟩ (.int .i64 y)).frozen? ⟨gI, f * 4 + 1, none⟩ = false) := by
 have hnb := h.nb
 obtain ⟨O, m, hb, ds, hds, hown, hall⟩ := h.ex
 obtain ⟨hlt, -⟩ := List.getElem?_eq_some_iff.1 hf
 obtain ⟨gI, rfl, hBI, hgI, -, -, hc⟩ := own_at hown (by omega)
 have hf' := hf
 rw [← hds, List.getElem?_map] at hf'
 cases hd : ds[f]? with
 | none => rw [hd] at hf'; cases hf'
 | some d =>
 rw [hd] at hf'
 injection hf' with ep
 have hdm := hall d (List.mem_of_getElem? hd)
 have hne : g ≠ gI := fun e => by
  subst e
  obtain ⟨cs, t, z, h1, h2⟩ := own_typed hown g rfl
  unfold Blk at hb
  rw [hb] at h1
  cases h1
  exact absurd h2 (by decide)
 have key : ∀ (j : Nat) (v : Nat) (q : InstP), j < 4 → q.runes = p.runes → (⟨q, d.sA, d.sc⟩ : InstD).cells = d.cells.set j (.int .i64 v) →
   ProgIs W0 B L (w.setCell ⟨gI, f * 4 + j, none⟩ (.int .i64 v)) g (ins.set f q) ∧ QK B w (w.setCell ⟨gI, f * 4 + j, none⟩ (.int .i64 v)) := fun j v q hj hr hcs => by
  obtain ⟨o2, -⟩ := hown.stored (f * 4 + j) (.int .i64 v)
  rw [inst_set hd j _ ⟨q, d.sA, d.sc⟩ hj hcs] at o2
  obtain ⟨cs, t, z, h1, h2⟩ := own_typed hown gI rfl
  refine ⟨⟨⟨some ⟨gI, 0, none⟩, m, ?_, ds.set f ⟨q, d.sA, d.sc⟩, ?_, ?_, ?_⟩, by rw [List.length_set]; exact hnb⟩, ⟨(KeepT.refl _ w).setCell (p := ⟨gI, f * 4 + j, none⟩) h1 (by rw [h2]; simp) _, (Below.refl _ _).setCell (p := ⟨gI, f * 4 + j, none⟩) hBI _⟩⟩
  ·rw [List.length_set]
   unfold Blk at hb ⊢
   rw [← hb]
   exact Below.heap_setCell _ _ _ _ hne
  ·rw [List.map_set, hds]
  ·rw [List.length_set]; exact o2
  ·intro x hx
   rcases List.mem_or_eq_of_mem_set hx with hx | rfl
   ·exact hall x hx
   ·show RowT W0 _ d.sA q.runes.length (q.runes.map rv)
    rw [hr, ← ep]; exact hdm
 have hcellG : ∀ (j : Nat) (v : Value), (w.setCell ⟨gI, f * 4 + j, none⟩ v).cell? ⟨g, 1, none⟩ = some (.slice (some ⟨gI, 0, none⟩) ins.length m) := fun j v => by
  rw [World.cell?_setCell_other _ _ _ _ (fun e => hne (congrArg Addr.block e).symm)]
  exact hb.cell 1
 have hx : w.cell? ⟨gI, f * 4 + 1, none⟩ = some (.int .i64 p.x) := by rw [hc _ (by omega), inst_at hd 1 (by omega), ← ep]; rfl
 have hy : w.cell? ⟨gI, f * 4 + 2, none⟩ = some (.int .i64 p.y) := by rw [hc _ (by omega), inst_at hd 2 (by omega), ← ep]; rfl
 refine ⟨gI, m, hb.cell 1, ⟨hx, hown.frozenAt _⟩, ⟨hy, hown.frozenAt _⟩, fun x => ?_, fun y => ?_⟩
 ·obtain ⟨k1, k2⟩ := key 1 x ⟨p.kind, x, p.y, p.runes⟩ (by omega) rfl (by rw [← ep]; rfl)
  exact ⟨k1, k2, hcellG 1 _, by rw [World.cell?_setCell_other _ _ _ _ (fun e => (by injection e with _ e _; omega))]; exact hy, (hown.stored (f * 4 + 1) (.int .i64 x)).1.frozenAt _⟩
 ·obtain ⟨k1, k2⟩ := key 2 y ⟨p.kind, p.x, y, p.runes⟩ (by omega) rfl (by rw [← ep]; rfl)
  exact ⟨k1, k2, hcellG 2 _, by rw [World.cell?_setCell_other _ _ _ _ (fun e => (by injection e with _ e _; omega))]; exact hx, (hown.stored (f * 4 + 2) (.int .i64 y)).1.frozenAt _⟩
theorem repC_snoc (c : Nat → List InstP) (len : Nat) : ∀ (n p : Nat), repC c len (n + 1) p = repC c len n p ++ c (p + n * len)
 | 0, p => by simp [repC]
 | n + 1, p => by
  rw [repC, repC_snoc c len n (p + len), repC, List.append_assoc, show p + len + n * len = p + (n + 1) * len by rw [Nat.add_mul]; omega]
theorem set_mid {α : Type} (a : List α) (x y : α) (m : List α) {n : Nat} (h : a.length = n) : (a ++ x :: m).set n y = a ++ y :: m := by
 subst h
 rw [List.set_append, if_neg (Nat.lt_irrefl _), Nat.sub_self]; rfl
set_option maxRecDepth 100000 in
set_option maxHeartbeats 16000000 in
theorem vRepN {W0 : World} {A : Option Addr} {c : Nat} {ns : List NodeP} {k : Re} (hk : CodeC W0 A c ns k) (mn b : Nat) (hat : AtN ns b (k.flat b)) (hmn : mn ≤ 8) (kA : Option Addr) (kc : Nat) (sA : Option Addr) (sc : Nat) (w : World) (g : Nat) (ins : List InstP)
  (hkid : RowT W0 3 kA 1 [iv (b + k.cnt - 1)]) (hBg : W0.heap.size ≤ g) (hp : ProgIs W0 W0.heap.size (.slice A ns.length c) w g ins) (hb : Below W0.heap.size W0 w) (hsz : ins.length + (Re.rep k mn none).len ≤ 90000) :
  Calls Tryz.prog 129 #[.pointer (some ⟨g, 0, none⟩), .agg #[.int .i64 5, .slice kA 1 kc, .int .i64 (mn : Nat), .int .i64 (-1), .slice sA 0 sc]] w fun e w' => e = .returned (.tuple #[]) ∧ ProgIs W0 W0.heap.size (.slice A ns.length c) w' g (ins ++ (Re.rep k mn none).code ins.length) ∧ QK W0.heap.size w w' := by
 obtain ⟨N, hNs⟩ : ∃ N, ins.length = N := ⟨_, rfl⟩
 obtain ⟨len, hlen⟩ : ∃ len, k.len = len := ⟨_, rfl⟩
 obtain ⟨M, hM⟩ : ∃ M, N + mn * len = M := ⟨_, rfl⟩
 have hl1 : (Re.rep k mn none).len = mn * len + (len + 2) := by rw [← hlen]; rfl
 have hcode : ins ++ (Re.rep k mn none).code N = (ins ++ repC k.code len mn N) ++ (⟨1, M + 1, M + (len + 2), []⟩ :: (k.code (M + 1) ++ [⟨1, M, M, []⟩])) := by
  rw [← hM, ← hlen, List.append_assoc]; rfl
 have hr0 : ∀ j, (ins ++ repC k.code len j N).length = N + j * len := fun j => by
  rw [List.length_append, hNs, repC_len fun p => by rw [code_len, hlen]]
 obtain ⟨bk, ok, rfl, -⟩ := hkid.at_ (k := 0) (u := iv _) rfl
 rw [hl1, hNs] at hsz
 rw [hNs, hcode]
 obtain ⟨r, hr⟩ : ∃ r, b + k.cnt - 1 = r := ⟨_, rfl⟩
 have hck : ∀ wo : World, Below W0.heap.size W0 wo → wo.cell? ⟨bk, ok, none⟩ = some (.int .i64 (r : Nat)) := fun wo hW => by
  obtain ⟨b', o', e, h⟩ := (hkid.below hW).at_ (k := 0) (u := iv _) rfl
  cases e
  rw [hr] at h
  exact h
 have hcall : ∀ (wo : World) (X : List InstP), ProgIs W0 W0.heap.size (.slice A ns.length c) wo g X → Below W0.heap.size W0 wo → X.length + len ≤ 90000 → Calls Tryz.prog 93 #[.pointer (some ⟨g, 0, none⟩), .int .i64 (r : Nat)] wo fun e w' => e = .returned (.tuple #[]) ∧ ProgIs W0 W0.heap.size (.slice A ns.length c) w' g (X ++ k.code X.length) ∧ QK W0.heap.size wo w' := fun wo X h1 h2 h3 => by
  have := hk b wo g X hat hBg h1 h2 (by rw [hlen]; exact h3)
  rw [hr] at this
  exact this
 have hbX : Below w.heap.size w (w.alloc (.cells #[.int .i64 5, .slice (some ⟨bk, ok, none⟩) 1 kc, .int .i64 (mn : Nat), .int .i64 (-1), .slice sA 0 sc] 182)) := (Below.refl _ _).alloc (Nat.le_refl _) _
 obtain ⟨X, hX⟩ : ∃ X, X = w.alloc (.cells #[.int .i64 5, .slice (some ⟨bk, ok, none⟩) 1 kc, .int .i64 (mn : Nat), .int .i64 (-1), .slice sA 0 sc] 182) := ⟨_, rfl⟩
 have bX : Blk X w.heap.size 182 [.int .i64 5, .slice (some ⟨bk, ok, none⟩) 1 kc, .int .i64 (mn : Nat), .int .i64 (-1), .slice sA 0 sc] := by rw [hX]; exact Blk.new w _ _
 rw [← hX] at hbX
 have pX := hp.below hbX
 have qX := QK.of_below hbX hb.size
 have hWX : Below W0.heap.size W0 X := QK.from hb qX
 have x2 : X.cell? ⟨w.heap.size, 2, none⟩ = some (.int .i64 (mn : Nat)) := bX.cell 2
 have P0 := Lh pX; have QX := Lh qX; have HB := Lh hb; have Hr0 := Lh hr0; have Hck := Lh hck; have Hcall := Lh hcall; have BX := Lh bX; have HM := Lh hM; have Hsz := Lh hsz; have HNs := Lh hNs; have Hcl := Lh (fun p : Nat => (show (k.code p).length = len by rw [code_len, hlen]))
 clear hl1 hcode hr0 hkid hck hcall hp pX hbX qX hb hWX bX hk hat hM hsz hNs hr hlen
 go_enter Tryz.func129, Tryz.ntmps129
 clear x2
 go_wp2
 rw [← hX]
 clear hX
 go_loopw [10] (fun i wr => ∃ j : Nat, j ≤ mn ∧ i = .int .i64 j ∧ Hid (ProgIs W0 W0.heap.size (.slice A ns.length c) wr g (ins ++ repC k.code len j N)) ∧ Hid (QK W0.heap.size X wr)) (fun i _ => mn - (intOf i).toNat)
 case atStart => exact ⟨0, Nat.zero_le _, rfl, Lh (by simpa [repC] using P0.out), Lh (.refl _ _)⟩
 case round =>
  obtain ⟨j, hj, rfl, hps, hq⟩ := hrel
  obtain ⟨wo, rfl⟩ : ∃ wo : World, wo = wr := ⟨_, rfl⟩
  have wk1 : IntKind.i64.wrap ((j : Int) + 1) = ((j + 1 : Nat) : Int) := by rw [IntKind.wrap_i64]; omega
  have hW : Below W0.heap.size W0 wo := QK.from (QK.from HB.out QX.out) hq.out
  have bo := hq.out.keep.blk BX.out (by decide)
  have y1 : wo.cell? ⟨w.heap.size, 1, none⟩ = some (.slice (some ⟨bk, ok, none⟩) 1 kc) := bo.cell 1
  have y3 : wo.cell? ⟨w.heap.size, 3, none⟩ = some (.int .i64 (-1)) := bo.cell 3
  have ckid := Hck.out wo hW
  by_cases hlt : j < mn
  ·have hjl : j * len + len ≤ mn * len := by
    have := Nat.mul_le_mul_right len (show j + 1 ≤ mn by omega)
    rw [Nat.add_mul] at this; omega
   have hszz := Hsz.out
   have hl0 := Hr0.out j
   have hc := Hcall.out wo _ hps.out hW (by rw [hl0]; omega)
   rw [hl0, List.append_assoc, ← repC_snoc] at hc
   have HC := Lh hc
   have z2 : (j : Int) < (mn : Int) := by omega
   clear hc hl0 hszz hjl hW bo
   go_wp2_with fail
   refine HC.out.mono ?_
   rintro e w2 ⟨rfl, p2, q2⟩
   have P2 := Lh p2; have Q2 := Lh q2
   clear p2 q2
   go_wp2
   go_roundw
   case rel => exact ⟨j + 1, by omega, rfl, P2, Lh (hq.out.trans Q2.out)⟩
   case measure => simp [intOf]; omega
  ·have z2 : ¬ (j : Int) < (mn : Int) := by omega
   obtain rfl : j = mn := by omega
   have hszz := Hsz.out
   have hl0 := Hr0.out j
   rw [HM.out] at hl0
   have hMM := HM.out
   obtain ⟨I1, hI1⟩ : ∃ I1, ins ++ repC k.code len j N = I1 := ⟨_, rfl⟩
   rw [hI1] at hps hl0
   have HI1 := Lh hI1
   have hh := vHere _ g I1 hps.out
   have hsW := hW.size
   have he := vEmit ⟨⟨1, M + 1, 0, []⟩, none, 0⟩ wo g I1 hps.out hsW hBg (by exact RowT.nil) (by omega)
   rw [hl0] at hh he
   have wM : IntKind.i64.wrap ((M : Int) + 1) = ((M + 1 : Nat) : Int) := by rw [IntKind.wrap_i64]; omega
   have He := Lh he; have HW := Lh hW; have Hl0 := Lh hl0; have Bo := Lh bo
   clear he hW hI1 hl0 bo hszz hMM ckid
   go_wp2_with fail
   refine hh.mono ?_
   rintro e w1 ⟨rfl, rfl⟩
   go_wp2_with fail
   refine He.out.mono ?_
   rintro e w2 ⟨rfl, p2, q2⟩
   have hW2 := QK.from HW.out q2
   have b2 := q2.keep.blk Bo.out (by decide)
   have y12 : w2.cell? ⟨w.heap.size, 1, none⟩ = some (.slice (some ⟨bk, ok, none⟩) 1 kc) := b2.cell 1
   have ck2 := Hck.out w2 hW2
   have hl2 : (I1 ++ [(⟨1, M + 1, 0, []⟩ : InstP)]).length = M + 1 := by rw [List.length_append, Hl0.out]; rfl
   have hszz := Hsz.out
   have hMM := HM.out
   have hc := Hcall.out w2 _ p2 hW2 (by rw [hl2]; omega)
   rw [hl2] at hc
   have HC := Lh hc; have Q2 := Lh q2; have HW2 := Lh hW2
   clear p2 q2 hc hl2 hW2 b2 hszz hMM
   go_wp2_with fail
   refine HC.out.mono ?_
   rintro e w3 ⟨rfl, p3, q3⟩
   have hW3 := QK.from HW2.out q3
   have hl3 : (I1 ++ [(⟨1, M + 1, 0, []⟩ : InstP)] ++ k.code (M + 1)).length = M + 1 + len := by rw [List.length_append, List.length_append, Hl0.out, Hcl.out]; rfl
   have e4 : I1 ++ [(⟨1, M + 1, 0, []⟩ : InstP)] ++ k.code (M + 1) ++ [⟨1, M, M, []⟩] = I1 ++ ((⟨1, M + 1, 0, []⟩ : InstP) :: (k.code (M + 1) ++ [⟨1, M, M, []⟩])) := by simp
   have hszz := Hsz.out
   have hMM := HM.out
   have hs3 := hW3.size
   have he := vEmit ⟨⟨1, M, M, []⟩, none, 0⟩ w3 g _ p3 hs3 hBg (by exact RowT.nil) (by rw [hl3]; omega)
   have f4 : (I1 ++ ((⟨1, M + 1, 0, []⟩ : InstP) :: (k.code (M + 1) ++ [⟨1, M, M, []⟩])))[M]? = some ⟨1, M + 1, 0, []⟩ := by
    rw [List.getElem?_append_right (by rw [Hl0.out]; exact Nat.le_refl _), Hl0.out, Nat.sub_self]; rfl
   have l4 : (I1 ++ ((⟨1, M + 1, 0, []⟩ : InstP) :: (k.code (M + 1) ++ [⟨1, M, M, []⟩]))).length = M + (len + 2) := by rw [← e4, List.length_append, hl3]; simp; omega
   rw [e4] at he
   have e5 := set_mid I1 (⟨1, M + 1, 0, []⟩ : InstP) ⟨1, M + 1, M + (len + 2), []⟩ (k.code (M + 1) ++ [⟨1, M, M, []⟩]) Hl0.out
   rw [← HI1.out] at e5
   obtain ⟨I4, hI4⟩ : ∃ I4, I1 ++ ((⟨1, M + 1, 0, []⟩ : InstP) :: (k.code (M + 1) ++ [⟨1, M, M, []⟩])) = I4 := ⟨_, rfl⟩
   rw [HI1.out] at e5
   rw [hI4] at he f4 l4 e5
   obtain ⟨N4, hN4⟩ : ∃ N4, M + (len + 2) = N4 := ⟨_, rfl⟩
   rw [hN4] at l4 e5
   rw [← HI1.out] at e5
   have He := Lh he; have HW3 := Lh hW3; have Q3 := Lh q3; have E5 := Lh e5; have F4 := Lh f4; have L4 := Lh l4; have HN4 := Lh hN4
   clear he hW3 q3 p3 hl3 e4 e5 f4 l4 hI4 hN4 hszz hMM hs3
   go_wp2_with fail
   refine He.out.mono ?_
   rintro e w4 ⟨rfl, p4, q4⟩
   have Q4 := Lh q4
   clear q4
   go_upto_region 9 with fail
   have pD : ProgIs W0 W0.heap.size (.slice A ns.length c) w4.drew g I4 := p4.below (Below.refl _ _).drew
   obtain ⟨gI, m, d1, -, d3, -, d5⟩ := pD.patch F4.out
   rw [L4.out] at d1 d5
   have z4 : (M : Int) < (N4 : Int) := by have := HN4.out; omega
   have sS : ProgIs W0 W0.heap.size (.slice A ns.length c) w4.drew g I4 ∧ w4.drew.cell? ⟨g, 1, none⟩ = some (.slice (some ⟨gI, 0, none⟩) N4 m) ∧ w4.drew.cell? ⟨gI, M * 4 + 2, none⟩ = some (.int .i64 (0 : Nat)) ∧ w4.drew.frozen? ⟨gI, M * 4 + 2, none⟩ = false := ⟨pD, d1, d3.1, d3.2⟩
   obtain ⟨p5, q5, -, -, -⟩ := d5 N4
   have P5 := Lh p5; have Q5 := Lh q5
   clear p5 q5 d5 p4 pD
   refine rgN (fun w' => ProgIs W0 W0.heap.size (.slice A ns.length c) w' g I4 ∧ w'.cell? ⟨g, 1, none⟩ = some (.slice (some ⟨gI, 0, none⟩) N4 m) ∧ w'.cell? ⟨gI, M * 4 + 2, none⟩ = some (.int .i64 (0 : Nat)) ∧ w'.frozen? ⟨gI, M * 4 + 2, none⟩ = false) 9 (by kernel_rfl) ?_
   apply tkT 0 (by kernel_rfl) rfl (fun _ _ _ h => h) (by kernel_rfl) sS
   ·intro w' hS'; go_simp; exact ⟨rfl, rfl⟩
   apply tkT 1 (by kernel_rfl) rfl (fun _ _ _ h => h) (by kernel_rfl) sS
   ·intro w' hS'; go_simp; exact ⟨rfl, rfl⟩
   apply tkT 2 (by kernel_rfl) rfl (fun _ _ _ h => h) (by kernel_rfl) sS
   ·intro w' hS'; go_simp; exact ⟨rfl, rfl⟩
   apply tkT 3 (v := (.slice (some ⟨gI, 0, none⟩) N4 m)) (by kernel_rfl) rfl (fun _ _ _ h => h) (by kernel_rfl) sS
   ·intro w' hS'; have hk := hS'.2.1; go_simp; exact ⟨rfl, rfl⟩
   apply tkT 4 (by kernel_rfl) rfl (fun _ _ _ h => h) (by kernel_rfl) sS
   ·intro w' hS'; go_simp; exact ⟨rfl, rfl⟩
   apply tkT 5 (by kernel_rfl) rfl (fun _ _ _ h => h) (by kernel_rfl) sS
   ·intro w' hS'; go_simp; exact ⟨rfl, rfl⟩
   apply tkT 6 (v := (.int .i64 (N4 : Nat))) (by kernel_rfl) rfl (fun _ _ _ h => h) (by kernel_rfl) sS
   ·intro w' hS'
    (have hst := vHere w' g I4 hS'.1; rw [L4.out] at hst; go_simp; exact ⟨rfl, hst⟩)
   apply tkT 7 (v := (.pointer (some ⟨gI, M * 4, none⟩))) (by kernel_rfl) rfl (fun _ _ _ h => h) (by kernel_rfl) sS
   ·intro w' hS'
    (go_simp; exact ⟨rfl, rfl⟩)
   apply tkT 8 (v := (.pointer (some ⟨gI, M * 4 + 2, none⟩))) (by kernel_rfl) rfl (fun _ _ _ h => h) (by kernel_rfl) sS
   ·intro w' hS'
    (go_simp; exact ⟨rfl, rfl⟩)
   (try simp only [Act.put]); (try simp only [List.setIfInBounds_toArray]); (try simp only [List.set])
   have cs := sS.2.2.1
   have fs := sS.2.2.2
   refine rnL 9 (by kernel_rfl) rfl (by kernel_rfl) (fun K hK => ?_)
   go_simp
   refine hK _ _ (fun h => absurd rfl h) ?_
   clear hK K cs fs sS
   (try simp only [Act.put])
   refine dnL (by kernel_rfl) ?_ _
   have hfin := P5.out
   have hy : (⟨1, M + 1, N4, []⟩ : InstP) = ⟨1, M + 1, M + (len + 2), []⟩ := by rw [HN4.out]
   rw [E5.out, hy, List.append_assoc] at hfin
   have hq5 := ((((QX.out.trans hq.out).trans Q2.out).trans Q3.out).trans Q4.out).trans ((QK.of_below (Below.refl _ _).drew (QK.from HW3.out Q4.out).size).trans Q5.out)
   have HF := Lh hfin; have HQ := Lh hq5
   clear hfin hq5
   go_wp2
   refine bodyPost_ret (results_none rfl _ _ _) rfl ?_
   exact ⟨rfl, HF.out, HQ.out⟩
end Go.Proofs.YtecejnilajbdpaaGreatDoor
namespace Garner
open Go
def badR (n6 n7 : Nat) (m0 m1 t0 t1 : Int) : Bool := decide (n6 ≠ 2) || decide (n7 ≠ 2) || decide (m0 ≠ m1) || decide (t0 ≠ t1) || decide (m0 > t0)
theorem rng_bad {m t : List Nat} {m0 m1 t0 t1 : Nat} (h0 : m[0]? = some m0) (h1 : m[1]? = some m1) (h2 : t[0]? = some t0) (h3 : t[1]? = some t1) : rngR m t = if badR m.length t.length m0 m1 t0 t1 = true then none else some [m0, t0] := by
 by_cases hm : m.length = 2
 ·by_cases ht : t.length = 2
  ·match m, hm with
   | [a, b], _ =>
    match t, ht with
    | [c, d], _ =>
     simp at h0 h1 h2 h3
     subst h0; subst h1; subst h2; subst h3
     show (if a = b ∧ c = d ∧ a ≤ c then some [a, c] else none) = _
     unfold badR
     by_cases e1 : a = b
     ·by_cases e2 : c = d
      ·by_cases e3 : a ≤ c
       ·rw [if_pos ⟨e1, e2, e3⟩, if_neg]
        simp; omega
       ·rw [if_neg (fun h => e3 h.2.2), if_pos]
        simp; omega
      ·rw [if_neg (fun h => e2 h.2.1), if_pos]
       simp; omega
     ·rw [if_neg (fun h => e1 h.1), if_pos]
      simp; omega
  ·rw [rng_none (.inr ht), if_pos]
   unfold badR; simp [ht]
 ·rw [rng_none (.inl hm), if_pos]
  unfold badR; simp [hm]
end Garner
namespace Go.Proofs.YtecejnilajbdpaaGreatDoor
open Go.RowKit Garner
def qLen (N g : Nat) (w : World) : Nat := match w.cell? ⟨g, 5, none⟩, w.cell? ⟨g, 1, none⟩ with
 | some (.bool false), some (.int _ p) => N + 1 - p.toNat
 | _, _ => 0
section
variable {F : Nat → Prop} {w w' : World} {g N n : Nat} {rs : List Nat} {ns : List NodeP} {deep most : Nat}
theorem QS.qLen (h : QS F w g N rs ns deep most) : qLen N g w = rs.length + 1 := by
 obtain ⟨A, c, O, m, rs0, p, h1, h2, h3, h4, h5, h6, h7, h8⟩ := h.ex
 have c1 : w.cell? ⟨g, 1, none⟩ = some (.int .i64 (p : Nat)) := h1.cell 1
 have c5 : w.cell? ⟨g, 5, none⟩ = some (.bool false) := h1.cell 5
 unfold Go.Proofs.YtecejnilajbdpaaGreatDoor.qLen
 rw [c1, c5, h5, List.length_drop]
 simp only [Int.toNat_natCast]
 omega
theorem QX.qLen (h : QX w g n) : qLen N g w = 0 := by
 obtain ⟨s, a, de, mo, O, m, xs, h1, -⟩ := h
 have c5 : w.cell? ⟨g, 5, none⟩ = some (.bool true) := h1.cell 5
 unfold Go.Proofs.YtecejnilajbdpaaGreatDoor.qLen
 rw [c5]
def OutQ (K : Nat) (F : Nat → Prop) (o : Option (Re × List Nat)) (w0 : World) (g N : Nat) (ns : List NodeP) (deep most : Nat) (e : Ending) (w' : World) : Prop := match o with
 | some (t, r) => e = .returned (.int .i64 ((ns.length + t.cnt - 1 : Nat) : Int)) ∧ QS (Ext F w0 w') w' g N r (ns ++ t.flat ns.length) deep most
 | none => ∃ (x : Int) (n : Nat), e = .returned (.int .i64 x) ∧ QX w' g n ∧ n ≤ ns.length + K
theorem qSetNode (K : Nat) (set : List Nat) (A : Option Addr) (c n : Nat) (g N : Nat) (w w1 : World) (r : List Nat) (ns : List NodeP) (deep most : Nat) (hn : n = set.length) (h : QS F w1 g N r ns deep most) (h0 : ∀ k, F k → k < w.heap.size) (k1 : QP g w w1) (hr : RowT w1 21 A n (set.map rv))
  (hA : ∀ a, A = some a → w.heap.size ≤ a.block ∧ a.block < w1.heap.size) (hns : ns.length < 100000) :
  Calls Tryz.prog 113 #[.pointer (some ⟨g, 0, none⟩), .agg #[.int .i64 2, .slice none 0 0, .int .i64 0, .int .i64 0, .slice A n c]] w1 fun e w' => QP g w w' ∧ OutQ K F (some (.set set, r)) w g N ns deep most e w' := by
 subst hn
 have hx := h.ext h0 k1.keep.size
 have hd : NodeOk (Ext F w w1) w1 ⟨⟨2, [], 0, 0, set⟩, none, 0, A, c⟩ := ⟨RowT.nil, hr, fun a e => (by cases e), fun a e => .inr (hA a e)⟩
 refine (qNode ⟨⟨2, [], 0, 0, set⟩, none, 0, A, c⟩ g N w1 r ns deep most hx hd hns).mono ?_
 rintro e w2 ⟨rfl, h2, k2⟩
 have s1 := k1.keep.size
 have s2 := k2.keep.size
 refine ⟨k1.trans k2, rfl, h2.mono (fun k hk => ?_) (Ext.lt h0 (Nat.le_trans s1 s2))⟩
 rcases hk with hk | hk
 ·exact .inl hk
 ·exact .inr ⟨hk.1, by omega⟩
structure ClsQ (F : Nat → Prop) (ANS : Option (List Nat × List Nat)) (w : World) (g N : Nat) (ns : List NodeP) (deep most T : Nat) (v sm : Value) (wr : World) (P : List (Nat × Nat)) (s : List Nat) (f : Nat) (b : Bool) : Prop where
 sm : sm = .bool (!b)
 own : wr.ownsRow w.heap.size 21 1 v (flatR P).length ((flatR P).map rv)
 ps : QS F wr g N s ns deep most
 pk : QP g w wr
 ans : clsR f b s (flatR P) = ANS
 some_ : b = true → P ≠ []
 fuel : s.length + 1 ≤ f
 bd : ∀ p ∈ P, p.1 ≤ p.2 ∧ p.2 ≤ 1114111
 len : P.length + 4 * s.length ≤ 4 * T
def ClsR (F : Nat → Prop) (ANS : Option (List Nat × List Nat)) (w : World) (g N : Nat) (ns : List NodeP) (deep most T : Nat) (v sm : Value) (wr : World) : Prop := (∃ P s f b, ClsQ F ANS w g N ns deep most T v sm wr P s f b) ∨ (QX wr g ns.length ∧ QP g w wr ∧ sm = .bool false ∧ ANS = none)
structure ClsE (F : Nat → Prop) (ANS : Option (List Nat × List Nat)) (w : World) (g N : Nat) (ns : List NodeP) (deep most T f M : Nat) (P : List (Nat × Nat)) (n : Nat) (v : Value) (xs : List Value) (wx : World) : Prop where
 pk : QP g w wx
 own : wx.ownsRow w.heap.size 21 1 v n ((flatR P).map rv)
 lt : g < wx.heap.size
 st : (QX wx g ns.length ∧ ANS = none) ∨ ∃ Q s2, xs = (flatR Q).map rv ∧ Q ≠ [] ∧ (∀ p ∈ Q, p.1 ≤ p.2 ∧ p.2 ≤ 1114111) ∧ QS F wx g N s2 ns deep most ∧ clsR f true s2 (flatR P ++ flatR Q) = ANS ∧ s2.length + 1 ≤ f ∧ s2.length < M ∧ P.length + Q.length + 4 * s2.length ≤ 4 * T
theorem ClsE.below {ANS : Option (List Nat × List Nat)} {wx wy : World} {T f M : Nat} {P : List (Nat × Nat)} {v : Value} {xs : List Value} (h : ClsE F ANS w g N ns deep most T f M P n v xs wx) (hb : Below wx.heap.size wx wy) : ClsE F ANS w g N ns deep most T f M P n v xs wy := by
 refine ⟨h.pk.trans (.of_below hb (Nat.le_of_lt h.lt)), own_below h.own hb, Nat.lt_of_lt_of_le h.lt hb.size, ?_⟩
 rcases h.st with ⟨h1, h2⟩ | ⟨Q, s2, h1, h2, h3, h4, h5⟩
 ·exact .inl ⟨h1.below hb, h2⟩
 ·exact .inr ⟨Q, s2, h1, h2, h3, h4.below hb, h5⟩
theorem not_F8 {w0 : World} {e : TypeId} {sz n : Nat} {v : Value} {xs : List Value} (h0 : ∀ k, F k → k < w0.heap.size) (ho : w.ownsRow w0.heap.size e sz v n xs) : ∀ k, v.ownBlock = some k → ¬ F k := fun k hk hF => by
 have := (ho.lt k hk).1
 have := h0 k hF
 omega
theorem ClsE.end_ {ANS : Option (List Nat × List Nat)} {wx w8 : World} {T f M nm : Nat} {P : List (Nat × Nat)} {v v8 : Value} {xs : List Value} (h : ClsE F ANS w g N ns deep most T f M P n v xs wx) (h0 : ∀ k, F k → k < w.heap.size) (hgw : g < w.heap.size) (hn : (flatR P).length = n) (hnm : xs.length = nm)
  (own8 : w8.ownsRow w.heap.size 21 1 v8 (n + nm) ((flatR P).map rv ++ xs)) (hg : wx.grownBy w8 v.ownBlock) (bP : ∀ p ∈ P, p.1 ≤ p.2 ∧ p.2 ≤ 1114111) :
  ClsR F ANS w g N ns deep most T v8 (.bool false) w8 ∧ qLen N g w8 ≤ M := by
 have pk8 := h.pk.grown h.own hg (Nat.le_refl _) (Nat.le_of_lt hgw) (Nat.le_of_lt h.lt)
 rcases h.st with ⟨h1, h2⟩ | ⟨Q, s2, h1, h2, h3, h4, h5, h6, h7, h8'⟩
 ·have h8 := h1.grown h.own hg (by decide) (by decide)
  exact ⟨.inr ⟨h8, pk8, rfl, h2⟩, by rw [h8.qLen]; omega⟩
 ·have h8 := h4.grown h.own hg (not_F8 h0 h.own) (by decide) (by decide)
  refine ⟨.inl ⟨P ++ Q, s2, f, true, ⟨rfl, ?_, h8, pk8, by rw [flat_app]; exact h5, fun _ => by simp [h2], h6, fun p hp => ?_, by rw [List.length_append]; omega⟩⟩, by rw [h8.qLen]; omega⟩
  ·subst h1
   rw [flat_app, List.map_append, List.length_append, hn, show (flatR Q).length = nm by rw [← hnm, List.length_map]]
   exact own8
  ·rcases List.mem_append.1 hp with hp | hp
   ·exact bP p hp
   ·exact h3 p hp
end
end Go.Proofs.YtecejnilajbdpaaGreatDoor
