import Derived.Test.YtkojmgnbmnjmmaaDoorNc33
/-! autom: a tree's nodes; node of a leaf -/
namespace Go.Proofs.YtkojmgnbmnjmmaaDoor
open Go.RowKit Garner
theorem NodesIs.node {F : Nat → Prop} {w : World} {B c k : Nat} {A : Option Addr} {ns : List NodeP} {n : NodeP} (h : NodesIs F w B (.slice A ns.length c) ns) (hk : ns[k]? = some n) : ∃ g d, A = some ⟨g, 0, none⟩ ∧ NodeD.n d = n ∧ NodeOk F w d ∧ g < w.heap.size ∧ ∀ j, j < 5 → w.cell? ⟨g, k * 5 + j, none⟩ = (NodeD.cells d)[j]? := by
  obtain ⟨ds, hds, hown, hok⟩ := h
  obtain ⟨hlt, -⟩ := List.getElem?_eq_some_iff.1 hk
  obtain ⟨g, rfl, -, hg, -, -, hc⟩ := own_at hown (by omega)
  have hk' := hk
  rw [← hds, List.getElem?_map] at hk'
  cases hd : ds[k]? with
  | none => rw [hd] at hk'; cases hk'
  | some d =>
    rw [hd] at hk'
    injection hk' with e
    exact ⟨g, d, rfl, e, hok d (List.mem_of_getElem? hd), hg, fun j hj => by rw [hc (k * 5 + j) (by omega), cells_at hd j hj]⟩
/-- nodes that lie at b -/
def AtN (ns : List NodeP) (b : Nat) (l : List NodeP) : Prop := ∀ k n, l[k]? = some n → ns[b + k]? = some n
theorem AtN.left {ns l m : List NodeP} {b : Nat} (h : AtN ns b (l ++ m)) : AtN ns b l := fun k n hk => h k n (by
  rw [List.getElem?_append_left (List.getElem?_eq_some_iff.1 hk).1]; exact hk)
theorem AtN.right {ns l m : List NodeP} {b n : Nat} (h : AtN ns b (l ++ m)) (hn : l.length = n) : AtN ns (b + n) m := fun k x hk => by
  have := h (n + k) x (by rw [List.getElem?_append_right (by omega), hn, Nat.add_sub_cancel_left]; exact hk)
  rwa [← Nat.add_assoc] at this
/-- node lays a tree's instructions -/
def CodeC (W0 : World) (A : Option Addr) (c : Nat) (ns : List NodeP) (t : Re) : Prop :=
  ∀ (b : Nat) (w : World) (g : Nat) (ins : List InstP), AtN ns b (t.flat b) → W0.heap.size ≤ g → ProgIs W0 W0.heap.size (.slice A ns.length c) w g ins → Below W0.heap.size W0 w → ins.length + t.len ≤ 90000 →
    Calls Tryd.prog 43 #[.pointer (some ⟨g, 0, none⟩), .int .i64 (b + t.cnt - 1 : Nat)] w fun e w' => e = .returned (.tuple #[]) ∧ ProgIs W0 W0.heap.size (.slice A ns.length c) w' g (ins ++ t.code ins.length) ∧ QK W0.heap.size w w'
theorem last_at {ns : List NodeP} {b : Nat} {l : List NodeP} {x : NodeP} {t : Re} (hf : t.flat b = l ++ [x]) (hl : t.cnt = l.length + 1) (h : AtN ns b (t.flat b)) : ns[b + t.cnt - 1]? = some x := by
  have := h l.length x (by rw [hf, List.getElem?_append_right (Nat.le_refl _), Nat.sub_self]; rfl)
  rw [show b + t.cnt - 1 = b + l.length by omega]; exact this
set_option maxRecDepth 100000 in
set_option maxHeartbeats 16000000 in
/-- a leaf: bgn or fin -/
theorem nodeEdge {F : Nat → Prop} {W0 : World} {B0 : Nat} {A : Option Addr} {c : Nat} {ns : List NodeP} (hN : NodesIs F W0 B0 (.slice A ns.length c) ns) (t : Re) (ht : t = .bgn ∨ t = .fin) : CodeC W0 A c ns t := by
  intro b w g ins hat hBg hp hb hsz
  obtain ⟨K, KK, hf, hl, hcd, hK⟩ : ∃ K KK : Nat, t.flat b = [⟨K, [], 0, 0, []⟩] ∧ t.cnt = 1 ∧ t.code ins.length = [⟨KK, ins.length + 1, 0, []⟩] ∧ ((K = 6 ∧ KK = 2) ∨ (K = 7 ∧ KK = 3)) := by
    rcases ht with rfl | rfl
    · exact ⟨6, 2, rfl, rfl, rfl, .inl ⟨rfl, rfl⟩⟩
    · exact ⟨7, 3, rfl, rfl, rfl, .inr ⟨rfl, rfl⟩⟩
  have hn := last_at (l := []) hf hl hat
  have hkl := (List.getElem?_eq_some_iff.1 hn).1
  obtain ⟨gN, d, rfl, hd, hok, hgN, hcell⟩ := hN.node hn
  obtain ⟨k, hk⟩ : ∃ k, b + t.cnt - 1 = k := ⟨_, rfl⟩
  rw [hk] at hn hkl hcell ⊢
  rw [hcd]
  obtain ⟨N, hNs⟩ : ∃ N, ins.length = N := ⟨_, rfl⟩
  have hlt1 : N < 100000 := by omega
  have cc : ∀ j, j < 5 → w.cell? ⟨gN, k * 5 + j, none⟩ = d.cells[j]? := fun j hj => by
    rw [hb.cell (p := ⟨gN, k * 5 + j, none⟩) hgN, hcell j hj]
  have c0 : w.cell? ⟨gN, k * 5, none⟩ = some (.int .i64 (d.n.kind : Nat)) := cc 0 (by omega)
  have c1 : w.cell? ⟨gN, k * 5 + 1, none⟩ = some (.slice d.kA d.n.kids.length d.kc) := cc 1 (by omega)
  have c2 : w.cell? ⟨gN, k * 5 + 2, none⟩ = some (.int .i64 (d.n.mn : Nat)) := cc 2 (by omega)
  have c3 : w.cell? ⟨gN, k * 5 + 3, none⟩ = some (.int .i64 d.n.mx) := cc 3 (by omega)
  have c4 : w.cell? ⟨gN, k * 5 + 4, none⟩ = some (.slice d.sA d.n.set.length d.sc) := cc 4 (by omega)
  rw [hd] at c0 c1 c2 c3 c4
  have hg := hp.lt
  have f0 : w.cell? ⟨g, 0, none⟩ = some (.slice (some ⟨gN, 0, none⟩) ns.length c) := by
    obtain ⟨O, m, h1, -⟩ := hp.ex
    exact h1.cell 0
  have hbX : Below w.heap.size w (w.alloc (.cells #[.int .i64 (K : Nat), .slice d.kA 0 d.kc, .int .i64 0, .int .i64 0, .slice d.sA 0 d.sc] 77)) := (Below.refl _ _).alloc (Nat.le_refl _) _
  have pX := hp.below hbX
  have hsz0 := hb.size
  have hh := vHere _ g ins pX
  have he := vEmit ⟨⟨KK, N + 1, 0, []⟩, none, 0⟩ _ g ins pX (by have := hbX.size; omega) hBg (by exact RowT.nil) (by omega)
  rw [hNs] at hh he ⊢
  have z1 : (k : Int) < (ns.length : Int) := by omega
  have wN : IntKind.i64.wrap ((N : Int) + 1) = ((N + 1 : Nat) : Int) := by rw [IntKind.wrap_i64]; omega
  have qX := QK.of_below hbX hsz0
  have He := Lib.hid he; have QX := Lib.hid qX
  clear hcell cc hok hp pX hb hbX hat hn hN he qX hf
  go_enter Tryd.func43, Tryd.ntmps43
  rcases hK with ⟨rfl, rfl⟩ | ⟨rfl, rfl⟩
  all_goals
    go_wp2_with fail
    refine hh.mono ?_
    rintro e w1 ⟨rfl, rfl⟩
    go_wp2_with fail
    refine He.out.mono ?_
    rintro e w2 ⟨rfl, p2, q2⟩
    have P2 := Lib.hid p2; have Q2 := Lib.hid q2
    clear p2 q2
    go_wp2
    go_end0
    exact ⟨rfl, P2.out, QX.out.trans Q2.out⟩
set_option maxRecDepth 100000 in
set_option maxHeartbeats 16000000 in
/-- a leaf: nothing -/
theorem nodeEmp {F : Nat → Prop} {W0 : World} {B0 : Nat} {A : Option Addr} {c : Nat} {ns : List NodeP} (hN : NodesIs F W0 B0 (.slice A ns.length c) ns) : CodeC W0 A c ns .emp := by
  intro b w g ins hat hBg hp hb hsz
  have hn := last_at (t := .emp) (l := []) rfl rfl hat
  have hkl := (List.getElem?_eq_some_iff.1 hn).1
  obtain ⟨gN, d, rfl, hd, hok, hgN, hcell⟩ := hN.node hn
  obtain ⟨k, hk⟩ : ∃ k, b + Re.cnt .emp - 1 = k := ⟨_, rfl⟩
  rw [hk] at hn hkl hcell ⊢
  have cc : ∀ j, j < 5 → w.cell? ⟨gN, k * 5 + j, none⟩ = d.cells[j]? := fun j hj => by
    rw [hb.cell (p := ⟨gN, k * 5 + j, none⟩) hgN, hcell j hj]
  have c0 : w.cell? ⟨gN, k * 5, none⟩ = some (.int .i64 (d.n.kind : Nat)) := cc 0 (by omega)
  have c1 : w.cell? ⟨gN, k * 5 + 1, none⟩ = some (.slice d.kA d.n.kids.length d.kc) := cc 1 (by omega)
  have c2 : w.cell? ⟨gN, k * 5 + 2, none⟩ = some (.int .i64 (d.n.mn : Nat)) := cc 2 (by omega)
  have c3 : w.cell? ⟨gN, k * 5 + 3, none⟩ = some (.int .i64 d.n.mx) := cc 3 (by omega)
  have c4 : w.cell? ⟨gN, k * 5 + 4, none⟩ = some (.slice d.sA d.n.set.length d.sc) := cc 4 (by omega)
  rw [hd] at c0 c1 c2 c3 c4
  have hg := hp.lt
  have f0 : w.cell? ⟨g, 0, none⟩ = some (.slice (some ⟨gN, 0, none⟩) ns.length c) := by
    obtain ⟨O, m, h1, -⟩ := hp.ex
    exact h1.cell 0
  have hbX : Below w.heap.size w (w.alloc (.cells #[.int .i64 1, .slice d.kA 0 d.kc, .int .i64 0, .int .i64 0, .slice d.sA 0 d.sc] 77)) := (Below.refl _ _).alloc (Nat.le_refl _) _
  have pX := hp.below hbX
  have z1 : (k : Int) < (ns.length : Int) := by omega
  have qX := QK.of_below hbX hb.size
  have PX := Lib.hid pX; have QX := Lib.hid qX
  clear hcell cc hok hp pX hb hbX hat hn hN qX
  go_enter Tryd.func43, Tryd.ntmps43
  go_wp2_with fail
  go_end0
  exact ⟨rfl, by simpa [Re.code] using PX.out, QX.out⟩
set_option maxRecDepth 100000 in
set_option maxHeartbeats 16000000 in
/-- a leaf: a set -/
theorem nodeSet {F : Nat → Prop} {W0 : World} {B0 : Nat} {A : Option Addr} {c : Nat} {ns : List NodeP} (hN : NodesIs F W0 B0 (.slice A ns.length c) ns) (l : List Nat) : CodeC W0 A c ns (.set l) := by
  intro b w g ins hat hBg hp hb hsz
  have hn := last_at (t := .set l) (l := []) rfl rfl hat
  have hkl := (List.getElem?_eq_some_iff.1 hn).1
  obtain ⟨gN, d, rfl, hd, hok, hgN, hcell⟩ := hN.node hn
  obtain ⟨k, hk⟩ : ∃ k, b + Re.cnt (.set l) - 1 = k := ⟨_, rfl⟩
  rw [hk] at hn hkl hcell ⊢
  obtain ⟨N, hNs⟩ : ∃ N, ins.length = N := ⟨_, rfl⟩
  have hlt1 : N < 100000 := by omega
  have cc : ∀ j, j < 5 → w.cell? ⟨gN, k * 5 + j, none⟩ = d.cells[j]? := fun j hj => by
    rw [hb.cell (p := ⟨gN, k * 5 + j, none⟩) hgN, hcell j hj]
  have c0 : w.cell? ⟨gN, k * 5, none⟩ = some (.int .i64 (d.n.kind : Nat)) := cc 0 (by omega)
  have c1 : w.cell? ⟨gN, k * 5 + 1, none⟩ = some (.slice d.kA d.n.kids.length d.kc) := cc 1 (by omega)
  have c2 : w.cell? ⟨gN, k * 5 + 2, none⟩ = some (.int .i64 (d.n.mn : Nat)) := cc 2 (by omega)
  have c3 : w.cell? ⟨gN, k * 5 + 3, none⟩ = some (.int .i64 d.n.mx) := cc 3 (by omega)
  have c4 : w.cell? ⟨gN, k * 5 + 4, none⟩ = some (.slice d.sA d.n.set.length d.sc) := cc 4 (by omega)
  have hset := hok.set
  rw [hd] at c0 c1 c2 c3 c4 hset
  have hg := hp.lt
  have f0 : w.cell? ⟨g, 0, none⟩ = some (.slice (some ⟨gN, 0, none⟩) ns.length c) := by
    obtain ⟨O, m, h1, -⟩ := hp.ex
    exact h1.cell 0
  obtain ⟨sA, hsA⟩ : ∃ sA, d.sA = sA := ⟨_, rfl⟩
  obtain ⟨sc, hsc⟩ : ∃ sc, d.sc = sc := ⟨_, rfl⟩
  obtain ⟨kA, hkA⟩ : ∃ kA, d.kA = kA := ⟨_, rfl⟩
  obtain ⟨kc, hkc⟩ : ∃ kc, d.kc = kc := ⟨_, rfl⟩
  rw [hsA] at c4 hset
  rw [hsc] at c4
  rw [hkA, hkc] at c1
  have e1 : (Re.set l).code N = [⟨0, N + 1, 0, l⟩] := rfl
  obtain ⟨sl, hsl⟩ : ∃ sl, l.length = sl := ⟨_, rfl⟩
  have hset' : RowT W0 21 sA sl (l.map rv) := by rw [← hsl]; exact hset
  have c4' : w.cell? ⟨gN, k * 5 + 4, none⟩ = some (.slice sA sl sc) := by rw [← hsl]; exact c4
  have hbX : Below w.heap.size w (w.alloc (.cells #[.int .i64 2, .slice kA 0 kc, .int .i64 0, .int .i64 0, .slice sA sl sc] 77)) := (Below.refl _ _).alloc (Nat.le_refl _) _
  obtain ⟨X, hX⟩ : ∃ X, X = w.alloc (.cells #[.int .i64 2, .slice kA 0 kc, .int .i64 0, .int .i64 0, .slice sA sl sc] 77) := ⟨_, rfl⟩
  have bX : Blk X w.heap.size 77 [.int .i64 2, .slice kA 0 kc, .int .i64 0, .int .i64 0, .slice sA sl sc] := by rw [hX]; exact Blk.new w _ _
  rw [← hX] at hbX
  have pX := hp.below hbX
  have bD : Below X.heap.size X X.drew := (Below.refl _ _).drew
  have pD := pX.below bD
  have hsz0 := hb.size
  have hss := hbX.size
  have he : Calls Tryd.prog 44 #[.pointer (some ⟨g, 0, none⟩), .agg #[.int .i64 0, .int .i64 ((N + 1 : Nat) : Int), .int .i64 0, .slice sA sl sc]] X.drew fun e w' => e = .returned (.int .i64 (N : Nat)) ∧ ProgIs W0 W0.heap.size (.slice (some ⟨gN, 0, none⟩) ns.length c) w' g (ins ++ [⟨0, N + 1, 0, l⟩]) ∧ QK W0.heap.size X.drew w' := by
    have := vEmit (W0 := W0) (B := W0.heap.size) ⟨⟨0, N + 1, 0, l⟩, sA, sc⟩ X.drew g ins pD (by have := bD.size; omega) hBg (by show RowT W0 _ sA l.length _; rw [hsl]; exact hset') (by omega)
    rw [hNs] at this
    dsimp only at this
    rw [hsl] at this
    exact this
  have z1 : (k : Int) < (ns.length : Int) := by omega
  have wN : IntKind.i64.wrap ((N : Int) + 1) = ((N + 1 : Nat) : Int) := by rw [IntKind.wrap_i64]; omega
  have qX := (QK.of_below hbX hsz0).trans (QK.of_below bD (by omega))
  have PX := pD
  have He := Lib.hid he; have QX := Lib.hid qX
  rw [hNs, e1]
  clear hcell cc hok hp pX hb hbX hat hn hN he qX hset c4 e1 hset' bD
  go_enter Tryd.func43, Tryd.ntmps43
  go_upto_region 3 with fail
  rw [← hX]
  clear hX
  have sS : ProgIs W0 W0.heap.size (.slice (some ⟨gN, 0, none⟩) ns.length c) X.drew g ins ∧ Blk X.drew w.heap.size 77 [.int .i64 2, .slice kA 0 kc, .int .i64 0, .int .i64 0, .slice sA sl sc] := ⟨PX, bX⟩
  clear PX
  refine wp_region_N (fun w' => ProgIs W0 W0.heap.size (.slice (some ⟨gN, 0, none⟩) ns.length c) w' g ins ∧ Blk w' w.heap.size 77 [.int .i64 2, .slice kA 0 kc, .int .i64 0, .int .i64 0, .slice sA sl sc]) 7 (by kernel_rfl) ?_
  apply wpAnyN_takeT 0 (by kernel_rfl) rfl (fun _ _ _ h => h) (by kernel_rfl) sS
  · intro w' hS'
    go_simp; exact ⟨rfl, rfl⟩
  (try simp only [Act.put]); (try simp only [List.setIfInBounds_toArray]); (try simp only [List.set])
  apply wpAnyN_takeT 1 (by kernel_rfl) rfl (fun _ _ _ h => h) (by kernel_rfl) sS
  · intro w' hS'
    go_simp; exact ⟨rfl, rfl⟩
  (try simp only [Act.put]); (try simp only [List.setIfInBounds_toArray]); (try simp only [List.set])
  apply wpAnyN_takeT 2 (v := (.int .i64 (N : Nat))) (by kernel_rfl) rfl (fun _ _ _ h => h) (by kernel_rfl) sS
  · intro w' hS'
    (have hst := vHere w' g ins hS'.1; rw [hNs] at hst; go_simp; exact ⟨rfl, hst⟩)
  (try simp only [Act.put]); (try simp only [List.setIfInBounds_toArray]); (try simp only [List.set])
  apply wpAnyN_takeT 3 (v := (.int .i64 ((N + 1 : Nat) : Int))) (by kernel_rfl) rfl (fun _ _ _ h => h) (by kernel_rfl) sS
  · intro w' hS'
    (go_simp; exact ⟨rfl, rfl⟩)
  (try simp only [Act.put]); (try simp only [List.setIfInBounds_toArray]); (try simp only [List.set])
  apply wpAnyN_takeT 4 (by kernel_rfl) rfl (fun _ _ _ h => h) (by kernel_rfl) sS
  · intro w' hS'
    go_simp; exact ⟨rfl, rfl⟩
  (try simp only [Act.put]); (try simp only [List.setIfInBounds_toArray]); (try simp only [List.set])
  apply wpAnyN_takeT 5 (v := (.slice sA sl sc)) (by kernel_rfl) rfl (fun _ _ _ h => h) (by kernel_rfl) sS
  · intro w' hS'
    (have k4 : w'.cell? ⟨w.heap.size, 4, none⟩ = some (.slice sA sl sc) := hS'.2.cell 4; go_simp; exact ⟨rfl, rfl⟩)
  (try simp only [Act.put]); (try simp only [List.setIfInBounds_toArray]); (try simp only [List.set])
  apply wpAnyN_takeT 6 (v := (.agg #[.int .i64 0, .int .i64 ((N + 1 : Nat) : Int), .int .i64 0, .slice sA sl sc])) (by kernel_rfl) rfl (fun _ _ _ h => h) (by kernel_rfl) sS
  · intro w' hS'
    (go_simp; exact ⟨rfl, rfl⟩)
  (try simp only [Act.put]); (try simp only [List.setIfInBounds_toArray]); (try simp only [List.set])
  refine wpAnyN_runL 7 (by kernel_rfl) rfl (by kernel_rfl) (fun K hK => ?_)
  go_simp
  refine He.out.mono ?_
  rintro e w2 ⟨rfl, p2, q2⟩
  have P2 := Lib.hid p2; have Q2 := Lib.hid q2
  clear p2 q2
  refine hK _ _ (fun h => absurd rfl h) ?_
  clear hK K
  (try simp only [Act.put])
  refine wpAnyN_done (by kernel_rfl) ?_ _
  go_wp2
  go_end0
  exact ⟨rfl, P2.out, QX.out.trans Q2.out⟩
end Go.Proofs.YtkojmgnbmnjmmaaDoor
