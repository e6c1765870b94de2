import Derived.Test.YtecejnilajbdpaaGreatDoorTz24
set_option maxRecDepth 100000
set_option maxHeartbeats 16000000
namespace Go.Proofs.YtecejnilajbdpaaGreatDoor
open Go.RowKit Garner
def CodeC (W0 : World) (A : Option Addr) (c : Nat) (ns : List NodeP) (t : Re) : Prop :=
 ∀ (b : Nat) (w : World) (g : Nat) (ins : List InstP), AtN ns b (t.flat b) → W0.heap.size ≤ g → ProgIs W0 W0.heap.size (.slice A ns.length c) w g ins → Below W0.heap.size W0 w → ins.length + t.len ≤ 90000 →
  Calls Tryz.prog 93 #[.pointer (some ⟨g, 0, none⟩), .int .i64 (b + t.cnt - 1 : Nat)] w fun e w' => e = .returned (.tuple #[]) ∧ ProgIs W0 W0.heap.size (.slice A ns.length c) w' g (ins ++ t.code ins.length) ∧ QK W0.heap.size w w'
theorem nodeEdge {F : Nat → Prop} {W0 : World} {B0 : Nat} {A : Option Addr} {c : Nat} {ns : List NodeP} (hN : NodesIs F W0 B0 (.slice A ns.length c) ns) (t : Re) (ht : t = .bgn ∨ t = .fin) : CodeC W0 A c ns t := by
 intro b w g ins hat hBg hp hb hsz
 obtain ⟨K, KK, hf, hl, hcd, hK⟩ : ∃ K KK : Nat, t.flat b = [⟨K, [], 0, 0, []⟩] ∧ t.cnt = 1 ∧ t.code ins.length = [⟨KK, ins.length + 1, 0, []⟩] ∧ ((K = 6 ∧ KK = 2) ∨ (K = 7 ∧ KK = 3)) := by
  rcases ht with rfl | rfl
  ·exact ⟨6, 2, rfl, rfl, rfl, .inl ⟨rfl, rfl⟩⟩
  exact ⟨7, 3, rfl, rfl, rfl, .inr ⟨rfl, rfl⟩⟩
 have hn := last_at (l := []) hf hl hat
 have hkl := (List.getElem?_eq_some_iff.1 hn).1
 obtain ⟨gN, d, rfl, hd, hok, hgN, hcell⟩ := hN.node hn
 obtain ⟨k, hk⟩ : ∃ k, b + t.cnt - 1 = k := ⟨_, rfl⟩
 rw [hk] at hn hkl hcell ⊢
 rw [hcd]
 obtain ⟨N, hNs⟩ : ∃ N, ins.length = N := ⟨_, rfl⟩
 have hlt1 : N < 100000 := by omega
 have cc : ∀ j, j < 5 → w.cell? ⟨gN, k * 5 + j, none⟩ = d.cells[j]? := fun j hj => by
  rw [hb.cell (p := ⟨gN, k * 5 + j, none⟩) hgN, hcell j hj]
 have c0 : w.cell? ⟨gN, k * 5, none⟩ = some (.int .i64 (d.n.kind : Nat)) := cc 0 (by omega)
 have c1 : w.cell? ⟨gN, k * 5 + 1, none⟩ = some (.slice d.kA d.n.kids.length d.kc) := cc 1 (by omega)
 have c2 : w.cell? ⟨gN, k * 5 + 2, none⟩ = some (.int .i64 (d.n.mn : Nat)) := cc 2 (by omega)
 have c3 : w.cell? ⟨gN, k * 5 + 3, none⟩ = some (.int .i64 d.n.mx) := cc 3 (by omega)
 have c4 : w.cell? ⟨gN, k * 5 + 4, none⟩ = some (.slice d.sA d.n.set.length d.sc) := cc 4 (by omega)
 rw [hd] at c0 c1 c2 c3 c4
 have hg := hp.lt
 have f0 : w.cell? ⟨g, 0, none⟩ = some (.slice (some ⟨gN, 0, none⟩) ns.length c) := by
  obtain ⟨O, m, h1, -⟩ := hp.ex
  exact h1.cell 0
 have hbX : Below w.heap.size w (w.alloc (.cells #[.int .i64 (K : Nat), .slice d.kA 0 d.kc, .int .i64 0, .int .i64 0, .slice d.sA 0 d.sc] 182)) := (Below.refl _ _).alloc (Nat.le_refl _) _
 have pX := hp.below hbX
 have hsz0 := hb.size
 have hh := vHere _ g ins pX
 have he := vEmit ⟨⟨KK, N + 1, 0, []⟩, none, 0⟩ _ g ins pX (by have := hbX.size; omega) hBg (by exact RowT.nil) (by omega)
 rw [hNs] at hh he ⊢
 have z1 : (k : Int) < (ns.length : Int) := by omega
 have wN := wS N (by omega)
 have qX := QK.of_below hbX hsz0
 have He := Lh he; have QX := Lh qX
 clear hcell cc hok hp pX hb hbX hat hn hN he qX hf
 go_enter Tryz.func93, Tryz.ntmps93
 rcases hK with ⟨rfl, rfl⟩ | ⟨rfl, rfl⟩
 all_goals
  go_wp2_with fail
  refine hh.mono ?_
  rintro e w1 ⟨rfl, rfl⟩
  go_wp2_with fail
  refine He.out.mono ?_
  rintro e w2 ⟨rfl, p2, q2⟩
  have P2 := Lh p2; have Q2 := Lh q2
  clear p2 q2
  go_wp2
  go_end0
  exact ⟨rfl, P2.out, QX.out.trans Q2.out⟩
theorem nodeEmp {F : Nat → Prop} {W0 : World} {B0 : Nat} {A : Option Addr} {c : Nat} {ns : List NodeP} (hN : NodesIs F W0 B0 (.slice A ns.length c) ns) : CodeC W0 A c ns .emp := by
 intro b w g ins hat hBg hp hb hsz
 have hn := last_at (t := .emp) (l := []) rfl rfl hat
 have hkl := (List.getElem?_eq_some_iff.1 hn).1
 obtain ⟨gN, d, rfl, hd, hok, hgN, hcell⟩ := hN.node hn
 obtain ⟨k, hk⟩ : ∃ k, b + Re.cnt .emp - 1 = k := ⟨_, rfl⟩
 rw [hk] at hn hkl hcell ⊢
 have cc : ∀ j, j < 5 → w.cell? ⟨gN, k * 5 + j, none⟩ = d.cells[j]? := fun j hj => by
  rw [hb.cell (p := ⟨gN, k * 5 + j, none⟩) hgN, hcell j hj]
 have c0 : w.cell? ⟨gN, k * 5, none⟩ = some (.int .i64 (d.n.kind : Nat)) := cc 0 (by omega)
 have c1 : w.cell? ⟨gN, k * 5 + 1, none⟩ = some (.slice d.kA d.n.kids.length d.kc) := cc 1 (by omega)
 have c2 : w.cell? ⟨gN, k * 5 + 2, none⟩ = some (.int .i64 (d.n.mn : Nat)) := cc 2 (by omega)
 have c3 : w.cell? ⟨gN, k * 5 + 3, none⟩ = some (.int .i64 d.n.mx) := cc 3 (by omega)
 have c4 : w.cell? ⟨gN, k * 5 + 4, none⟩ = some (.slice d.sA d.n.set.length d.sc) := cc 4 (by omega)
 rw [hd] at c0 c1 c2 c3 c4
 have hg := hp.lt
 have f0 : w.cell? ⟨g, 0, none⟩ = some (.slice (some ⟨gN, 0, none⟩) ns.length c) := by
  obtain ⟨O, m, h1, -⟩ := hp.ex
  exact h1.cell 0
 have hbX : Below w.heap.size w (w.alloc (.cells #[.int .i64 1, .slice d.kA 0 d.kc, .int .i64 0, .int .i64 0, .slice d.sA 0 d.sc] 182)) := (Below.refl _ _).alloc (Nat.le_refl _) _
 have pX := hp.below hbX
 have z1 : (k : Int) < (ns.length : Int) := by omega
 have qX := QK.of_below hbX hb.size
 have PX := Lh pX; have QX := Lh qX
 clear hcell cc hok hp pX hb hbX hat hn hN qX
 go_enter Tryz.func93, Tryz.ntmps93
 go_wp2_with fail
 go_end0
 exact ⟨rfl, by simpa [Re.code] using PX.out, QX.out⟩
theorem nodeSet {F : Nat → Prop} {W0 : World} {B0 : Nat} {A : Option Addr} {c : Nat} {ns : List NodeP} (hN : NodesIs F W0 B0 (.slice A ns.length c) ns) (l : List Nat) : CodeC W0 A c ns (.set l) := by
 intro b w g ins hat hBg hp hb hsz
 have hn := last_at (t := .set l) (l := []) rfl rfl hat
 have hkl := (List.getElem?_eq_some_iff.1 hn).1
 obtain ⟨gN, d, rfl, hd, hok, hgN, hcell⟩ := hN.node hn
 obtain ⟨k, hk⟩ : ∃ k, b + Re.cnt (.set l) - 1 = k := ⟨_, rfl⟩
 rw [hk] at hn hkl hcell ⊢
 obtain ⟨N, hNs⟩ : ∃ N, ins.length = N := ⟨_, rfl⟩
 have hlt1 : N < 100000 := by omega
 have cc : ∀ j, j < 5 → w.cell? ⟨gN, k * 5 + j, none⟩ = d.cells[j]? := fun j hj => by
  rw [hb.cell (p := ⟨gN, k * 5 + j, none⟩) hgN, hcell j hj]
 have c0 : w.cell? ⟨gN, k * 5, none⟩ = some (.int .i64 (d.n.kind : Nat)) := cc 0 (by omega)
 have c1 : w.cell? ⟨gN, k * 5 + 1, none⟩ = some (.slice d.kA d.n.kids.length d.kc) := cc 1 (by omega)
 have c2 : w.cell? ⟨gN, k * 5 + 2, none⟩ = some (.int .i64 (d.n.mn : Nat)) := cc 2 (by omega)
 have c3 : w.cell? ⟨gN, k * 5 + 3, none⟩ = some (.int .i64 d.n.mx) := cc 3 (by omega)
 have c4 : w.cell? ⟨gN, k * 5 + 4, none⟩ = some (.slice d.sA d.n.set.length d.sc) := cc 4 (by omega)
 have hset := hok.set
 rw [hd] at c0 c1 c2 c3 c4 hset
 have hg := hp.lt
 have f0 : w.cell? ⟨g, 0, none⟩ = some (.slice (some ⟨gN, 0, none⟩) ns.length c) := by
  obtain ⟨O, m, h1, -⟩ := hp.ex
  exact h1.cell 0
 obtain ⟨sA, hsA⟩ : ∃ sA, d.sA = sA := ⟨_, rfl⟩
 obtain ⟨sc, hsc⟩ : ∃ sc, d.sc = sc := ⟨_, rfl⟩
 obtain ⟨kA, hkA⟩ : ∃ kA, d.kA = kA := ⟨_, rfl⟩
 obtain ⟨kc, hkc⟩ : ∃ kc, d.kc = kc := ⟨_, rfl⟩
 rw [hsA] at c4 hset
 rw [hsc] at c4
 rw [hkA, hkc] at c1
 have e1 : (Re.set l).code N = [⟨0, N + 1, 0, l⟩] := rfl
 obtain ⟨sl, hsl⟩ : ∃ sl, l.length = sl := ⟨_, rfl⟩
 have hset' : RowT W0 21 sA sl (l.map rv) := by rw [← hsl]; exact hset
 have c4' : w.cell? ⟨gN, k * 5 + 4, none⟩ = some (.slice sA sl sc) := by rw [← hsl]; exact c4
 have hbX : Below w.heap.size w (w.alloc (.cells #[.int .i64 2, .slice kA 0 kc, .int .i64 0, .int .i64 0, .slice sA sl sc] 182)) := (Below.refl _ _).alloc (Nat.le_refl _) _
 obtain ⟨X, hX⟩ : ∃ X, X = w.alloc (.cells #[.int .i64 2, .slice kA 0 kc, .int .i64 0, .int .i64 0, .slice sA sl sc] 182) := ⟨_, rfl⟩
 have bX : Blk X w.heap.size 182 [.int .i64 2, .slice kA 0 kc, .int .i64 0, .int .i64 0, .slice sA sl sc] := by rw [hX]; exact Blk.new w _ _
 rw [← hX] at hbX
 have pX := hp.below hbX
 have bD : Below X.heap.size X X.drew := (Below.refl _ _).drew
 have pD := pX.below bD
 have hsz0 := hb.size
 have hss := hbX.size
 have he : Calls Tryz.prog 94 #[.pointer (some ⟨g, 0, none⟩), .agg #[.int .i64 0, .int .i64 ((N + 1 : Nat) : Int), .int .i64 0, .slice sA sl sc]] X.drew fun e w' => e = .returned (.int .i64 (N : Nat)) ∧ ProgIs W0 W0.heap.size (.slice (some ⟨gN, 0, none⟩) ns.length c) w' g (ins ++ [⟨0, N + 1, 0, l⟩]) ∧ QK W0.heap.size X.drew w' := by
  have := vEmit (W0 := W0) (B := W0.heap.size) ⟨⟨0, N + 1, 0, l⟩, sA, sc⟩ X.drew g ins pD (by have := bD.size; omega) hBg (by show RowT W0 _ sA l.length _; rw [hsl]; exact hset') (by omega)
  rw [hNs] at this
  dsimp only at this
  rw [hsl] at this
  exact this
 have z1 : (k : Int) < (ns.length : Int) := by omega
 have wN := wS N (by omega)
 have qX := (QK.of_below hbX hsz0).trans (QK.of_below bD (by omega))
 have PX := pD
 have He := Lh he; have QX := Lh qX
 rw [hNs, e1]
 clear hcell cc hok hp pX hb hbX hat hn hN he qX hset c4 e1 hset' bD
 go_enter Tryz.func93, Tryz.ntmps93
 go_upto_region 3 with fail
 rw [← hX]
 clear hX
 have sS : ProgIs W0 W0.heap.size (.slice (some ⟨gN, 0, none⟩) ns.length c) X.drew g ins ∧ Blk X.drew w.heap.size 182 [.int .i64 2, .slice kA 0 kc, .int .i64 0, .int .i64 0, .slice sA sl sc] := ⟨PX, bX⟩
 clear PX
 refine rgQ (fun w' => ProgIs W0 W0.heap.size (.slice (some ⟨gN, 0, none⟩) ns.length c) w' g ins ∧ Blk w' w.heap.size 182 [.int .i64 2, .slice kA 0 kc, .int .i64 0, .int .i64 0, .slice sA sl sc]) 7 (by kernel_rfl) (fun _ _ d _ _ h => by cases d <;> exact h) fun qP => ?_
 apply tkT 0 (by kernel_rfl) rfl (fun _ _ _ h => h) (by kernel_rfl) sS
 ·intro w' hS'; go_simp; exact ⟨rfl, rfl⟩
 apply tkT 1 (by kernel_rfl) rfl (fun _ _ _ h => h) (by kernel_rfl) sS
 ·intro w' hS'; go_simp; exact ⟨rfl, rfl⟩
 apply tkT 2 (v := (.int .i64 (N : Nat))) (by kernel_rfl) rfl (fun _ _ _ h => h) (by kernel_rfl) sS
 ·intro w' hS'
  (have hst := vHere w' g ins hS'.1; rw [hNs] at hst; go_simp; exact ⟨rfl, hst⟩)
 apply tkT 3 (v := (.int .i64 ((N + 1 : Nat) : Int))) (by kernel_rfl) rfl (fun _ _ _ h => h) (by kernel_rfl) sS
 ·intro w' hS'
  (go_simp; exact ⟨rfl, rfl⟩)
 apply tkT 4 (by kernel_rfl) rfl (fun _ _ _ h => h) (by kernel_rfl) sS
 ·intro w' hS'; go_simp; exact ⟨rfl, rfl⟩
 apply tkT 5 (v := (.slice sA sl sc)) (by kernel_rfl) rfl (fun _ _ _ h => h) (by kernel_rfl) sS
 ·intro w' hS'; have k4 : w'.cell? ⟨w.heap.size, 4, none⟩ = some (.slice sA sl sc) := hS'.2.cell 4; go_simp; exact ⟨rfl, rfl⟩
 apply tkT 6 (v := (.agg #[.int .i64 0, .int .i64 ((N + 1 : Nat) : Int), .int .i64 0, .slice sA sl sc])) (by kernel_rfl) rfl (fun _ _ _ h => h) (by kernel_rfl) sS
 ·intro w' hS'
  (go_simp; exact ⟨rfl, rfl⟩)
 (try simp only [Act.put]); (try simp only [List.setIfInBounds_toArray]); (try simp only [List.set])
 refine rnL 7 (by kernel_rfl) rfl (by kernel_rfl) (fun K hK => ?_)
 go_simp
 refine He.out.mono ?_
 rintro e w2 ⟨rfl, p2, q2⟩
 have P2 := Lh p2; have Q2 := Lh q2
 clear p2 q2
 refine hK _ _ (fun h => absurd rfl h) ?_
 clear hK K
 (try simp only [Act.put])
 refine dnL (by kernel_rfl) ?_ _
 go_wp2
 go_end0
 exact ⟨rfl, P2.out, QX.out.trans Q2.out⟩
end Go.Proofs.YtecejnilajbdpaaGreatDoor
namespace Garner
open Go
def badR (n6 n7 : Nat) (m0 m1 t0 t1 : Int) : Bool := decide (n6 ≠ 2) || decide (n7 ≠ 2) || decide (m0 ≠ m1) || decide (t0 ≠ t1) || decide (m0 > t0)
theorem rng_bad {m t : List Nat} {m0 m1 t0 t1 : Nat} (h0 : m[0]? = some m0) (h1 : m[1]? = some m1) (h2 : t[0]? = some t0) (h3 : t[1]? = some t1) : rngR m t = if badR m.length t.length m0 m1 t0 t1 = true then none else some [m0, t0] := by
 by_cases hm : m.length = 2
 ·by_cases ht : t.length = 2
  ·match m, hm with
   | [a, b], _ =>
    match t, ht with
    | [c, d], _ =>
     simp at h0 h1 h2 h3
     subst h0; subst h1; subst h2; subst h3
     show (if a = b ∧ c = d ∧ a ≤ c then some [a, c] else none) = _
     unfold badR
     by_cases e1 : a = b
     ·by_cases e2 : c = d
      ·by_cases e3 : a ≤ c
       ·rw [if_pos ⟨e1, e2, e3⟩, if_neg]
        simp; omega
       rw [if_neg (fun h => e3 h.2.2), if_pos]
       simp; omega
      rw [if_neg (fun h => e2 h.2.1), if_pos]
      simp; omega
     rw [if_neg (fun h => e1 h.1), if_pos]
     simp; omega
  rw [rng_none (.inr ht), if_pos]
  unfold badR; simp [ht]
 rw [rng_none (.inl hm), if_pos]
 unfold badR; simp [hm]
end Garner
namespace Go.Proofs.YtecejnilajbdpaaGreatDoor
open Go.RowKit Garner
def qLen (N g : Nat) (w : World) : Nat := match w.cell? ⟨g, 5, none⟩, w.cell? ⟨g, 1, none⟩ with
 | some (.bool false), some (.int _ p) => N + 1 - p.toNat
 | _, _ => 0
section
variable {F : Nat → Prop} {w w' : World} {g N n : Nat} {rs : List Nat} {ns : List NodeP} {deep most : Nat}
theorem QS.qLen (h : QS F w g N rs ns deep most) : qLen N g w = rs.length + 1 := by
 obtain ⟨A, c, O, m, rs0, p, h1, h2, h3, h4, h5, h6, h7, h8⟩ := h.ex
 have c1 : w.cell? ⟨g, 1, none⟩ = some (.int .i64 (p : Nat)) := h1.cell 1
 have c5 : w.cell? ⟨g, 5, none⟩ = some (.bool false) := h1.cell 5
 unfold Go.Proofs.YtecejnilajbdpaaGreatDoor.qLen
 rw [c1, c5, h5, List.length_drop]
 simp only [Int.toNat_natCast]
 omega
theorem QX.qLen (h : QX w g n) : qLen N g w = 0 := by
 obtain ⟨s, a, de, mo, O, m, xs, h1, -⟩ := h
 have c5 : w.cell? ⟨g, 5, none⟩ = some (.bool true) := h1.cell 5
 unfold Go.Proofs.YtecejnilajbdpaaGreatDoor.qLen
 rw [c5]
def OutQ (K : Nat) (F : Nat → Prop) (o : Option (Re × List Nat)) (w0 : World) (g N : Nat) (ns : List NodeP) (deep most : Nat) (e : Ending) (w' : World) : Prop := match o with
 | some (t, r) => e = .returned (.int .i64 ((ns.length + t.cnt - 1 : Nat) : Int)) ∧ QS (Ext F w0 w') w' g N r (ns ++ t.flat ns.length) deep most
 | none => ∃ (x : Int) (n : Nat), e = .returned (.int .i64 x) ∧ QX w' g n ∧ n ≤ ns.length + K
theorem qSetNode (K : Nat) (set : List Nat) (A : Option Addr) (c n : Nat) (g N : Nat) (w w1 : World) (r : List Nat) (ns : List NodeP) (deep most : Nat) (hn : n = set.length) (h : QS F w1 g N r ns deep most) (h0 : ∀ k, F k → k < w.heap.size) (k1 : QP g w w1) (hr : RowT w1 21 A n (set.map rv))
  (hA : ∀ a, A = some a → w.heap.size ≤ a.block ∧ a.block < w1.heap.size) (hns : ns.length < 100000) :
  Calls Tryz.prog 113 #[.pointer (some ⟨g, 0, none⟩), .agg #[.int .i64 2, .slice none 0 0, .int .i64 0, .int .i64 0, .slice A n c]] w1 fun e w' => QP g w w' ∧ OutQ K F (some (.set set, r)) w g N ns deep most e w' := by
 subst hn
 have hx := h.ext h0 k1.keep.size
 have hd : NodeOk (Ext F w w1) w1 ⟨⟨2, [], 0, 0, set⟩, none, 0, A, c⟩ := ⟨RowT.nil, hr, fun a e => (by cases e), fun a e => .inr (hA a e)⟩
 refine (qNode ⟨⟨2, [], 0, 0, set⟩, none, 0, A, c⟩ g N w1 r ns deep most hx hd hns).mono ?_
 rintro e w2 ⟨rfl, h2, k2⟩
 have s1 := k1.keep.size
 have s2 := k2.keep.size
 refine ⟨k1.trans k2, rfl, h2.mono (fun k hk => ?_) (Ext.lt h0 (Nat.le_trans s1 s2))⟩
 rcases hk with hk | hk
 ·exact .inl hk
 exact .inr ⟨hk.1, by omega⟩
structure ClsQ (F : Nat → Prop) (ANS : Option (List Nat × List Nat)) (w : World) (g N : Nat) (ns : List NodeP) (deep most T : Nat) (v sm : Value) (wr : World) (P : List (Nat × Nat)) (s : List Nat) (f : Nat) (b : Bool) : Prop where
 sm : sm = .bool (!b)
 own : wr.ownsRow w.heap.size 21 1 v (flatR P).length ((flatR P).map rv)
 ps : QS F wr g N s ns deep most
 pk : QP g w wr
 ans : clsR f b s (flatR P) = ANS
 some_ : b = true → P ≠ []
 fuel : s.length + 1 ≤ f
 bd : ∀ p ∈ P, p.1 ≤ p.2 ∧ p.2 ≤ 1114111
 len : P.length + 4 * s.length ≤ 4 * T
def ClsR (F : Nat → Prop) (ANS : Option (List Nat × List Nat)) (w : World) (g N : Nat) (ns : List NodeP) (deep most T : Nat) (v sm : Value) (wr : World) : Prop := (∃ P s f b, ClsQ F ANS w g N ns deep most T v sm wr P s f b) ∨ (QX wr g ns.length ∧ QP g w wr ∧ sm = .bool false ∧ ANS = none)
structure ClsE (F : Nat → Prop) (ANS : Option (List Nat × List Nat)) (w : World) (g N : Nat) (ns : List NodeP) (deep most T f M : Nat) (P : List (Nat × Nat)) (n : Nat) (v : Value) (xs : List Value) (wx : World) : Prop where
 pk : QP g w wx
 own : wx.ownsRow w.heap.size 21 1 v n ((flatR P).map rv)
 lt : g < wx.heap.size
 st : (QX wx g ns.length ∧ ANS = none) ∨ ∃ Q s2, xs = (flatR Q).map rv ∧ Q ≠ [] ∧ (∀ p ∈ Q, p.1 ≤ p.2 ∧ p.2 ≤ 1114111) ∧ QS F wx g N s2 ns deep most ∧ clsR f true s2 (flatR P ++ flatR Q) = ANS ∧ s2.length + 1 ≤ f ∧ s2.length < M ∧ P.length + Q.length + 4 * s2.length ≤ 4 * T
theorem ClsE.below {ANS : Option (List Nat × List Nat)} {wx wy : World} {T f M : Nat} {P : List (Nat × Nat)} {v : Value} {xs : List Value} (h : ClsE F ANS w g N ns deep most T f M P n v xs wx) (hb : Below wx.heap.size wx wy) : ClsE F ANS w g N ns deep most T f M P n v xs wy := by
 refine ⟨h.pk.trans (.of_below hb (Nat.le_of_lt h.lt)), own_below h.own hb, Nat.lt_of_lt_of_le h.lt hb.size, ?_⟩
 rcases h.st with ⟨h1, h2⟩ | ⟨Q, s2, h1, h2, h3, h4, h5⟩
 ·exact .inl ⟨h1.below hb, h2⟩
 exact .inr ⟨Q, s2, h1, h2, h3, h4.below hb, h5⟩
theorem not_F8 {w0 : World} {e : TypeId} {sz n : Nat} {v : Value} {xs : List Value} (h0 : ∀ k, F k → k < w0.heap.size) (ho : w.ownsRow w0.heap.size e sz v n xs) : ∀ k, v.ownBlock = some k → ¬ F k := fun k hk hF => by
 have := (ho.lt k hk).1
 have := h0 k hF
 omega
theorem ClsE.end_ {ANS : Option (List Nat × List Nat)} {wx w8 : World} {T f M nm : Nat} {P : List (Nat × Nat)} {v v8 : Value} {xs : List Value} (h : ClsE F ANS w g N ns deep most T f M P n v xs wx) (h0 : ∀ k, F k → k < w.heap.size) (hgw : g < w.heap.size) (hn : (flatR P).length = n) (hnm : xs.length = nm)
  (own8 : w8.ownsRow w.heap.size 21 1 v8 (n + nm) ((flatR P).map rv ++ xs)) (hg : wx.grownBy w8 v.ownBlock) (bP : ∀ p ∈ P, p.1 ≤ p.2 ∧ p.2 ≤ 1114111) :
  ClsR F ANS w g N ns deep most T v8 (.bool false) w8 ∧ qLen N g w8 ≤ M := by
 have pk8 := h.pk.grown h.own hg (Nat.le_refl _) (Nat.le_of_lt hgw) (Nat.le_of_lt h.lt)
 rcases h.st with ⟨h1, h2⟩ | ⟨Q, s2, h1, h2, h3, h4, h5, h6, h7, h8'⟩
 ·have h8 := h1.grown h.own hg (by decide) (by decide)
  exact ⟨.inr ⟨h8, pk8, rfl, h2⟩, by rw [h8.qLen]; omega⟩
 have h8 := h4.grown h.own hg (not_F8 h0 h.own) (by decide) (by decide)
 refine ⟨.inl ⟨P ++ Q, s2, f, true, ⟨rfl, ?_, h8, pk8, by rw [flat_app]; exact h5, fun _ => by simp [h2], h6, fun p hp => ?_, by rw [List.length_append]; omega⟩⟩, by rw [h8.qLen]; omega⟩
 ·subst h1
  rw [flat_app, List.map_append, List.length_append, hn, show (flatR Q).length = nm by rw [← hnm, List.length_map]]
  exact own8
 rcases List.mem_append.1 hp with hp | hp
 ·exact bP p hp
 exact h3 p hp
end
end Go.Proofs.YtecejnilajbdpaaGreatDoor
namespace Garner
open Go
theorem sixN_succ (c : Nat) (b : Nat → Nat) (k : Nat) : sixN c b (k + 1) = sixN c b k * 64 + b (k + 1) % 64 := rfl
theorem pow64 {m : Nat} (h : m ≤ 3) : 64 ^ m ≤ 262144 := by
 have : m = 0 ∨ m = 1 ∨ m = 2 ∨ m = 3 := by omega
 rcases this with rfl | rfl | rfl | rfl <;> decide
end Garner
namespace Go.Proofs.YtecejnilajbdpaaGreatDoor
open Go.RowKit Garner
theorem vOne (S : ByteArray) (l : Bs) (hS : S = ⟨l.toArray⟩) (p : Nat) (w : World) (hp : p < l.length) (hl : l.length ≤ 4611686018427387904) :
  Calls Tryz.prog 79 #[.string S, .int .i64 (p : Nat)] w fun e w' => e = .returned (.tuple #[.int .i32 ((Utf8.decode ⟨l.toArray⟩ p).1 : Nat), .int .i64 ((Utf8.decode ⟨l.toArray⟩ p).2 : Nat)]) ∧ w' = w := by
 have hd := decode_byteN l p
 obtain ⟨b, hb⟩ : ∃ b : Nat → Nat, b = fun k => byteN l (p + k) := ⟨_, rfl⟩
 have hb0 : b 0 = byteN l p := by rw [hb]; rfl
 have hlt : ∀ k, b k < 256 := fun k => by rw [hb]; exact byteN_lt _ _
 have e0 : Lib.decodeN (l.length - p) (byteN l p) (byteN l (p + 1)) (byteN l (p + 2)) (byteN l (p + 3)) = Lib.decodeN (l.length - p) (b 0) (b 1) (b 2) (b 3) := by rw [hb]; rfl
 rw [e0, lead_dec _ _ (hlt 0)] at hd
 have hidx : ∀ k, p + k < l.length → ∀ z : Int, z = ((p + k : Nat) : Int) → (Instr.index 9 (.string S) (.int .i64 z)).run Tryz.prog w = .ok (.int .u8 (b k : Nat)) w := fun k hk z hz => by
  have := idx_byte (P := Tryz.prog) 9 Tryz.underlying9 S l hS z (p + k) hz hk w
  rw [this, hb]
 have zS : S.size = l.length := by rw [hS]; exact str_size l
 obtain ⟨N, hN⟩ : ∃ N, l.length = N := ⟨_, rfl⟩
 rw [hN] at hd hidx zS hp hl
 have i0 := hidx 0 (by omega) (p : Int) (by omega)
 have l0 := hlt 0
 have HI := Lh hidx; have HLt := Lh hlt
 clear hb hb0 e0 hidx hlt hS hN
 obtain ⟨D, hD⟩ : ∃ D, Utf8.decode ⟨l.toArray⟩ p = D := ⟨_, rfl⟩
 rw [hD] at hd ⊢
 clear hD
 obtain ⟨c0, hc0⟩ : ∃ c0, b 0 = c0 := ⟨_, rfl⟩
 rw [hc0] at hd i0 l0
 have HD := Lh hd
 clear hd hc0
 go_enter Tryz.func79, Tryz.ntmps79
 by_cases h1 : c0 < 128
 ·have z1 : (c0 : Int) < 128 := by omega
  have w1 : IntKind.i32.wrap (c0 : Int) = (c0 : Int) := by rw [IntKind.wrap_i32]; omega
  have hd := HD.out
  rw [if_pos h1] at hd
  subst hd
  go_wp2
  go_ret2
  exact ⟨rfl, rfl⟩
 have z1 : ¬ (c0 : Int) < 128 := by omega
 by_cases h2 : 192 ≤ c0 ∧ c0 < 224
 ·have y1 : (192 : Int) ≤ (c0 : Int) := by omega
  have y2 : (c0 : Int) < 224 := by omega
  have hd := HD.out
  rw [if_neg h1, if_pos h2] at hd
  obtain ⟨q0, hq0⟩ : ∃ q0 : Nat, c0 - 192 = q0 := ⟨_, rfl⟩
  have hq64 : q0 < 64 := by omega
  have hsub : (c0 : Int) - 192 = (q0 : Int) := by omega
  have wsub : IntKind.i64.wrap ((c0 : Int) - 192) = (q0 : Int) := by rw [IntKind.wrap_i64]; omega
  rw [hq0] at hd
  have HDd := Lh hd
  clear hd HD hq0
  go_wp2_with fail
  go_loopw [6, 9] (fun c k wr => ∃ m : Nat, 1 ≤ m ∧ m ≤ 2 ∧ k = .int .i64 m ∧ c = .int .i64 (sixN q0 b (m - 1) : Nat) ∧ sixN q0 b (m - 1) < 64 ^ m ∧ Hid (∀ j, 1 ≤ j → j < m → j < N - p ∧ b j / 64 = 2) ∧ wr = w) (fun _ k _ => 3 - (intOf k).toNat)
  case atStart => exact ⟨1, Nat.le_refl _, by omega, rfl, rfl, by simpa [sixN] using hq64, Lh (fun j h1 h2 => by omega), rfl⟩
  obtain ⟨m, hm1, hm2, rfl, rfl, hpw, hall, hwr⟩ := hrel
  obtain rfl : w = wr := hwr.symm
  obtain ⟨q, hq⟩ : ∃ q, m = q + 1 := ⟨m - 1, by omega⟩
  have hqm : m - 1 = q := by omega
  rw [hqm] at hpw ⊢
  have Hq := Lh hq
  clear hq hqm
  by_cases hgo : m ≤ 1
  ·have x1 : (m : Int) ≤ 1 := by omega
   have hpz := pow64 (m := m) (by omega)
   have wa : IntKind.i64.wrap ((p : Int) + (m : Int)) = (p : Int) + (m : Int) := by rw [IntKind.wrap_i64]; omega
   by_cases hin : p + m < N
   ·have x2 : ¬ (N : Int) ≤ (p : Int) + (m : Int) := by omega
    have i1 := HI.out m hin ((p : Int) + (m : Int)) (by omega)
    have lb := HLt.out m
    have hs := sixN_succ q0 b q
    obtain ⟨bb, hbb⟩ : ∃ bb, b m = bb := ⟨_, rfl⟩
    rw [← Hq.out, hbb] at hs
    rw [hbb] at i1 lb
    by_cases hsix : bb / 64 = 2
    ·have x3 : ((bb : Nat) : Int) / 64 = 2 := by omega
     obtain ⟨c1, hc1⟩ : ∃ c1, sixN q0 b q = c1 := ⟨_, rfl⟩
     rw [hc1] at hs hpw ⊢
     have w2 : IntKind.i64.wrap ((c1 : Int) * 64) = (c1 : Int) * 64 := by rw [IntKind.wrap_i64]; omega
     have w3 : IntKind.i64.wrap ((c1 : Int) * 64 + (bb : Int) % 64) = (c1 : Int) * 64 + (bb : Int) % 64 := by rw [IntKind.wrap_i64]; omega
     have w4 := wS m (by omega)
     have hpn : c1 * 64 + bb % 64 < 64 ^ (m + 1) := by rw [Nat.pow_succ]; omega
     have hall2 : ∀ j, 1 ≤ j → j < m + 1 → j < N - p ∧ b j / 64 = 2 := fun j h1 h2 => by
      rcases Nat.lt_or_ge j m with h3 | h3
      ·exact hall.out j h1 h3
      obtain rfl : j = m := by omega
      exact ⟨by omega, by rw [hbb]; exact hsix⟩
     have HAll := Lh hall2; have HPn := Lh hpn; have HSx := Lh hs
     clear hall2 hpn hs hsix hall hbb hc1 hpz hpw
     go_wp2_with fail
     go_roundw
     case rel => exact ⟨m + 1, by omega, by omega, by first | rfl | go_num, congrArg (Value.int .i64) (by rw [Nat.add_sub_cancel, HSx.out]; omega), by rw [Nat.add_sub_cancel, HSx.out]; exact HPn.out, HAll, by first | rfl | trivial⟩
     case measure => simp [intOf]; omega
    have x3 : ¬ ((bb : Nat) : Int) / 64 = 2 := by omega
    have hd := HDd.out
    rw [leadN, if_neg (fun h => hsix (by rw [← hbb]; exact (h m hm1 hgo).2))] at hd
    subst hd
    clear hall hs hsix hbb hpz hpw
    go_wp2_with fail
    go_ret2
    exact ⟨rfl, rfl⟩
   have x2 : (N : Int) ≤ (p : Int) + (m : Int) := by omega
   have hd := HDd.out
   rw [leadN, if_neg (fun h => hin (by have := (h m hm1 hgo).1; omega))] at hd
   subst hd
   clear hall hpz hpw
   go_wp2_with fail
   go_ret2
   exact ⟨rfl, rfl⟩
  have x1 : ¬ (m : Int) ≤ 1 := by omega
  obtain rfl : m = 1 + 1 := by omega
  obtain rfl : q = 1 := by have := Hq.out; omega
  have x1 : ¬ ((1 : Int) + 1) ≤ 1 := by omega
  have hd := HDd.out
  rw [leadN, if_pos (fun j h1 h2 => hall.out j h1 (by omega))] at hd
  obtain ⟨c1, hc1⟩ : ∃ c1, sixN q0 b 1 = c1 := ⟨_, rfl⟩
  rw [hc1] at hd hpw ⊢
  have hc9 : c1 < 16777216 := Nat.lt_of_lt_of_le hpw (by decide)
  have w2 : IntKind.i32.wrap (c1 : Int) = (c1 : Int) := by rw [IntKind.wrap_i32]; omega
  have hcase : c1 < 128 ∨ (¬ c1 < 128 ∧ 1114111 < c1) ∨ (¬ c1 < 128 ∧ ¬ 1114111 < c1 ∧ 55296 ≤ c1 ∧ c1 ≤ 57343) ∨ (¬ c1 < 128 ∧ ¬ 1114111 < c1 ∧ 55296 ≤ c1 ∧ ¬ c1 ≤ 57343) ∨ (¬ c1 < 128 ∧ ¬ 1114111 < c1 ∧ ¬ 55296 ≤ c1) := by omega
  clear hall hc1 hpw
  rcases hcase with u1 | ⟨u1, u2⟩ | ⟨u1, u2, u3, u4⟩ | ⟨u1, u2, u3, u4⟩ | ⟨u1, u2, u3⟩
  ·rw [if_pos (by omega)] at hd
   subst hd
   have v1 : (c1 : Int) < 128 := by omega
   go_wp2_with fail
   go_ret2
   exact ⟨rfl, rfl⟩
  ·rw [if_pos (by omega)] at hd
   subst hd
   have v1 : ¬ (c1 : Int) < 128 := by omega
   have v2 : (c1 : Int) > 1114111 := by omega
   go_wp2_with fail
   go_ret2
   exact ⟨rfl, rfl⟩
  ·rw [if_pos (by omega)] at hd
   subst hd
   have v1 : ¬ (c1 : Int) < 128 := by omega
   have v2 : ¬ (c1 : Int) > 1114111 := by omega
   have v3 : (55296 : Int) ≤ (c1 : Int) := by omega
   have v4 : (c1 : Int) ≤ 57343 := by omega
   go_wp2_with fail
   go_ret2
   exact ⟨rfl, rfl⟩
  ·rw [if_neg (by omega)] at hd
   subst hd
   have v1 : ¬ (c1 : Int) < 128 := by omega
   have v2 : ¬ (c1 : Int) > 1114111 := by omega
   have v3 : (55296 : Int) ≤ (c1 : Int) := by omega
   have v4 : ¬ (c1 : Int) ≤ 57343 := by omega
   go_wp2_with fail
   go_ret2
   exact ⟨rfl, rfl⟩
  rw [if_neg (by omega)] at hd
  subst hd
  have v1 : ¬ (c1 : Int) < 128 := by omega
  have v2 : ¬ (c1 : Int) > 1114111 := by omega
  have v3 : ¬ (55296 : Int) ≤ (c1 : Int) := by omega
  go_wp2_with fail
  go_ret2
  exact ⟨rfl, rfl⟩
 by_cases h3 : 224 ≤ c0 ∧ c0 < 240
 ·have y1 : (224 : Int) ≤ (c0 : Int) := by omega
  have y2 : (c0 : Int) < 240 := by omega
  have g0a : (192 : Int) ≤ (c0 : Int) := by omega
  have g0b : ¬ (c0 : Int) < 224 := by omega
  have hd := HD.out
  rw [if_neg h1, if_neg h2, if_pos h3] at hd
  obtain ⟨q0, hq0⟩ : ∃ q0 : Nat, c0 - 224 = q0 := ⟨_, rfl⟩
  have hq64 : q0 < 64 := by omega
  have hsub : (c0 : Int) - 224 = (q0 : Int) := by omega
  have wsub : IntKind.i64.wrap ((c0 : Int) - 224) = (q0 : Int) := by rw [IntKind.wrap_i64]; omega
  rw [hq0] at hd
  have HDd := Lh hd
  clear hd HD hq0
  go_wp2_with fail
  go_loopw [6, 9] (fun c k wr => ∃ m : Nat, 1 ≤ m ∧ m ≤ 3 ∧ k = .int .i64 m ∧ c = .int .i64 (sixN q0 b (m - 1) : Nat) ∧ sixN q0 b (m - 1) < 64 ^ m ∧ Hid (∀ j, 1 ≤ j → j < m → j < N - p ∧ b j / 64 = 2) ∧ wr = w) (fun _ k _ => 4 - (intOf k).toNat)
  case atStart => exact ⟨1, Nat.le_refl _, by omega, rfl, rfl, by simpa [sixN] using hq64, Lh (fun j h1 h2 => by omega), rfl⟩
  obtain ⟨m, hm1, hm2, rfl, rfl, hpw, hall, hwr⟩ := hrel
  obtain rfl : w = wr := hwr.symm
  obtain ⟨q, hq⟩ : ∃ q, m = q + 1 := ⟨m - 1, by omega⟩
  have hqm : m - 1 = q := by omega
  rw [hqm] at hpw ⊢
  have Hq := Lh hq
  clear hq hqm
  by_cases hgo : m ≤ 2
  ·have x1 : (m : Int) ≤ 2 := by omega
   have hpz := pow64 (m := m) (by omega)
   have wa : IntKind.i64.wrap ((p : Int) + (m : Int)) = (p : Int) + (m : Int) := by rw [IntKind.wrap_i64]; omega
   by_cases hin : p + m < N
   ·have x2 : ¬ (N : Int) ≤ (p : Int) + (m : Int) := by omega
    have i1 := HI.out m hin ((p : Int) + (m : Int)) (by omega)
    have lb := HLt.out m
    have hs := sixN_succ q0 b q
    obtain ⟨bb, hbb⟩ : ∃ bb, b m = bb := ⟨_, rfl⟩
    rw [← Hq.out, hbb] at hs
    rw [hbb] at i1 lb
    by_cases hsix : bb / 64 = 2
    ·have x3 : ((bb : Nat) : Int) / 64 = 2 := by omega
     obtain ⟨c1, hc1⟩ : ∃ c1, sixN q0 b q = c1 := ⟨_, rfl⟩
     rw [hc1] at hs hpw ⊢
     have w2 : IntKind.i64.wrap ((c1 : Int) * 64) = (c1 : Int) * 64 := by rw [IntKind.wrap_i64]; omega
     have w3 : IntKind.i64.wrap ((c1 : Int) * 64 + (bb : Int) % 64) = (c1 : Int) * 64 + (bb : Int) % 64 := by rw [IntKind.wrap_i64]; omega
     have w4 := wS m (by omega)
     have hpn : c1 * 64 + bb % 64 < 64 ^ (m + 1) := by rw [Nat.pow_succ]; omega
     have hall2 : ∀ j, 1 ≤ j → j < m + 1 → j < N - p ∧ b j / 64 = 2 := fun j h1 h2 => by
      rcases Nat.lt_or_ge j m with h3 | h3
      ·exact hall.out j h1 h3
      obtain rfl : j = m := by omega
      exact ⟨by omega, by rw [hbb]; exact hsix⟩
     have HAll := Lh hall2; have HPn := Lh hpn; have HSx := Lh hs
     clear hall2 hpn hs hsix hall hbb hc1 hpz hpw
     go_wp2_with fail
     go_roundw
     case rel => exact ⟨m + 1, by omega, by omega, by first | rfl | go_num, congrArg (Value.int .i64) (by rw [Nat.add_sub_cancel, HSx.out]; omega), by rw [Nat.add_sub_cancel, HSx.out]; exact HPn.out, HAll, by first | rfl | trivial⟩
     case measure => simp [intOf]; omega
    have x3 : ¬ ((bb : Nat) : Int) / 64 = 2 := by omega
    have hd := HDd.out
    rw [leadN, if_neg (fun h => hsix (by rw [← hbb]; exact (h m hm1 hgo).2))] at hd
    subst hd
    clear hall hs hsix hbb hpz hpw
    go_wp2_with fail
    go_ret2
    exact ⟨rfl, rfl⟩
   have x2 : (N : Int) ≤ (p : Int) + (m : Int) := by omega
   have hd := HDd.out
   rw [leadN, if_neg (fun h => hin (by have := (h m hm1 hgo).1; omega))] at hd
   subst hd
   clear hall hpz hpw
   go_wp2_with fail
   go_ret2
   exact ⟨rfl, rfl⟩
  have x1 : ¬ (m : Int) ≤ 2 := by omega
  obtain rfl : m = 2 + 1 := by omega
  obtain rfl : q = 2 := by have := Hq.out; omega
  have x1 : ¬ ((2 : Int) + 1) ≤ 2 := by omega
  have hd := HDd.out
  rw [leadN, if_pos (fun j h1 h2 => hall.out j h1 (by omega))] at hd
  obtain ⟨c1, hc1⟩ : ∃ c1, sixN q0 b 2 = c1 := ⟨_, rfl⟩
  rw [hc1] at hd hpw ⊢
  have hc9 : c1 < 16777216 := Nat.lt_of_lt_of_le hpw (by decide)
  have w2 : IntKind.i32.wrap (c1 : Int) = (c1 : Int) := by rw [IntKind.wrap_i32]; omega
  have hcase : c1 < 2048 ∨ (¬ c1 < 2048 ∧ 1114111 < c1) ∨ (¬ c1 < 2048 ∧ ¬ 1114111 < c1 ∧ 55296 ≤ c1 ∧ c1 ≤ 57343) ∨ (¬ c1 < 2048 ∧ ¬ 1114111 < c1 ∧ 55296 ≤ c1 ∧ ¬ c1 ≤ 57343) ∨ (¬ c1 < 2048 ∧ ¬ 1114111 < c1 ∧ ¬ 55296 ≤ c1) := by omega
  clear hall hc1 hpw
  rcases hcase with u1 | ⟨u1, u2⟩ | ⟨u1, u2, u3, u4⟩ | ⟨u1, u2, u3, u4⟩ | ⟨u1, u2, u3⟩
  ·rw [if_pos (by omega)] at hd
   subst hd
   have v1 : (c1 : Int) < 2048 := by omega
   go_wp2_with fail
   go_ret2
   exact ⟨rfl, rfl⟩
  ·rw [if_pos (by omega)] at hd
   subst hd
   have v1 : ¬ (c1 : Int) < 2048 := by omega
   have v2 : (c1 : Int) > 1114111 := by omega
   go_wp2_with fail
   go_ret2
   exact ⟨rfl, rfl⟩
  ·rw [if_pos (by omega)] at hd
   subst hd
   have v1 : ¬ (c1 : Int) < 2048 := by omega
   have v2 : ¬ (c1 : Int) > 1114111 := by omega
   have v3 : (55296 : Int) ≤ (c1 : Int) := by omega
   have v4 : (c1 : Int) ≤ 57343 := by omega
   go_wp2_with fail
   go_ret2
   exact ⟨rfl, rfl⟩
  ·rw [if_neg (by omega)] at hd
   subst hd
   have v1 : ¬ (c1 : Int) < 2048 := by omega
   have v2 : ¬ (c1 : Int) > 1114111 := by omega
   have v3 : (55296 : Int) ≤ (c1 : Int) := by omega
   have v4 : ¬ (c1 : Int) ≤ 57343 := by omega
   go_wp2_with fail
   go_ret2
   exact ⟨rfl, rfl⟩
  rw [if_neg (by omega)] at hd
  subst hd
  have v1 : ¬ (c1 : Int) < 2048 := by omega
  have v2 : ¬ (c1 : Int) > 1114111 := by omega
  have v3 : ¬ (55296 : Int) ≤ (c1 : Int) := by omega
  go_wp2_with fail
  go_ret2
  exact ⟨rfl, rfl⟩
 by_cases h4 : 240 ≤ c0 ∧ c0 < 248
 ·have y1 : (240 : Int) ≤ (c0 : Int) := by omega
  have y2 : (c0 : Int) < 248 := by omega
  have g0a : (192 : Int) ≤ (c0 : Int) := by omega
  have g0b : ¬ (c0 : Int) < 224 := by omega
  have g1a : (224 : Int) ≤ (c0 : Int) := by omega
  have g1b : ¬ (c0 : Int) < 240 := by omega
  have hd := HD.out
  rw [if_neg h1, if_neg h2, if_neg h3, if_pos h4] at hd
  obtain ⟨q0, hq0⟩ : ∃ q0 : Nat, c0 - 240 = q0 := ⟨_, rfl⟩
  have hq64 : q0 < 64 := by omega
  have hsub : (c0 : Int) - 240 = (q0 : Int) := by omega
  have wsub : IntKind.i64.wrap ((c0 : Int) - 240) = (q0 : Int) := by rw [IntKind.wrap_i64]; omega
  rw [hq0] at hd
  have HDd := Lh hd
  clear hd HD hq0
  go_wp2_with fail
  go_loopw [6, 9] (fun c k wr => ∃ m : Nat, 1 ≤ m ∧ m ≤ 4 ∧ k = .int .i64 m ∧ c = .int .i64 (sixN q0 b (m - 1) : Nat) ∧ sixN q0 b (m - 1) < 64 ^ m ∧ Hid (∀ j, 1 ≤ j → j < m → j < N - p ∧ b j / 64 = 2) ∧ wr = w) (fun _ k _ => 5 - (intOf k).toNat)
  case atStart => exact ⟨1, Nat.le_refl _, by omega, rfl, rfl, by simpa [sixN] using hq64, Lh (fun j h1 h2 => by omega), rfl⟩
  obtain ⟨m, hm1, hm2, rfl, rfl, hpw, hall, hwr⟩ := hrel
  obtain rfl : w = wr := hwr.symm
  obtain ⟨q, hq⟩ : ∃ q, m = q + 1 := ⟨m - 1, by omega⟩
  have hqm : m - 1 = q := by omega
  rw [hqm] at hpw ⊢
  have Hq := Lh hq
  clear hq hqm
  by_cases hgo : m ≤ 3
  ·have x1 : (m : Int) ≤ 3 := by omega
   have hpz := pow64 (m := m) (by omega)
   have wa : IntKind.i64.wrap ((p : Int) + (m : Int)) = (p : Int) + (m : Int) := by rw [IntKind.wrap_i64]; omega
   by_cases hin : p + m < N
   ·have x2 : ¬ (N : Int) ≤ (p : Int) + (m : Int) := by omega
    have i1 := HI.out m hin ((p : Int) + (m : Int)) (by omega)
    have lb := HLt.out m
    have hs := sixN_succ q0 b q
    obtain ⟨bb, hbb⟩ : ∃ bb, b m = bb := ⟨_, rfl⟩
    rw [← Hq.out, hbb] at hs
    rw [hbb] at i1 lb
    by_cases hsix : bb / 64 = 2
    ·have x3 : ((bb : Nat) : Int) / 64 = 2 := by omega
     obtain ⟨c1, hc1⟩ : ∃ c1, sixN q0 b q = c1 := ⟨_, rfl⟩
     rw [hc1] at hs hpw ⊢
     have w2 : IntKind.i64.wrap ((c1 : Int) * 64) = (c1 : Int) * 64 := by rw [IntKind.wrap_i64]; omega
     have w3 : IntKind.i64.wrap ((c1 : Int) * 64 + (bb : Int) % 64) = (c1 : Int) * 64 + (bb : Int) % 64 := by rw [IntKind.wrap_i64]; omega
     have w4 := wS m (by omega)
     have hpn : c1 * 64 + bb % 64 < 64 ^ (m + 1) := by rw [Nat.pow_succ]; omega
     have hall2 : ∀ j, 1 ≤ j → j < m + 1 → j < N - p ∧ b j / 64 = 2 := fun j h1 h2 => by
      rcases Nat.lt_or_ge j m with h3 | h3
      ·exact hall.out j h1 h3
      obtain rfl : j = m := by omega
      exact ⟨by omega, by rw [hbb]; exact hsix⟩
     have HAll := Lh hall2; have HPn := Lh hpn; have HSx := Lh hs
     clear hall2 hpn hs hsix hall hbb hc1 hpz hpw
     go_wp2_with fail
     go_roundw
     case rel => exact ⟨m + 1, by omega, by omega, by first | rfl | go_num, congrArg (Value.int .i64) (by rw [Nat.add_sub_cancel, HSx.out]; omega), by rw [Nat.add_sub_cancel, HSx.out]; exact HPn.out, HAll, by first | rfl | trivial⟩
     case measure => simp [intOf]; omega
    have x3 : ¬ ((bb : Nat) : Int) / 64 = 2 := by omega
    have hd := HDd.out
    rw [leadN, if_neg (fun h => hsix (by rw [← hbb]; exact (h m hm1 hgo).2))] at hd
    subst hd
    clear hall hs hsix hbb hpz hpw
    go_wp2_with fail
    go_ret2
    exact ⟨rfl, rfl⟩
   have x2 : (N : Int) ≤ (p : Int) + (m : Int) := by omega
   have hd := HDd.out
   rw [leadN, if_neg (fun h => hin (by have := (h m hm1 hgo).1; omega))] at hd
   subst hd
   clear hall hpz hpw
   go_wp2_with fail
   go_ret2
   exact ⟨rfl, rfl⟩
  have x1 : ¬ (m : Int) ≤ 3 := by omega
  obtain rfl : m = 3 + 1 := by omega
  obtain rfl : q = 3 := by have := Hq.out; omega
  have x1 : ¬ ((3 : Int) + 1) ≤ 3 := by omega
  have hd := HDd.out
  rw [leadN, if_pos (fun j h1 h2 => hall.out j h1 (by omega))] at hd
  obtain ⟨c1, hc1⟩ : ∃ c1, sixN q0 b 3 = c1 := ⟨_, rfl⟩
  rw [hc1] at hd hpw ⊢
  have hc9 : c1 < 16777216 := Nat.lt_of_lt_of_le hpw (by decide)
  have w2 : IntKind.i32.wrap (c1 : Int) = (c1 : Int) := by rw [IntKind.wrap_i32]; omega
  have hcase : c1 < 65536 ∨ (¬ c1 < 65536 ∧ 1114111 < c1) ∨ (¬ c1 < 65536 ∧ ¬ 1114111 < c1 ∧ 55296 ≤ c1 ∧ c1 ≤ 57343) ∨ (¬ c1 < 65536 ∧ ¬ 1114111 < c1 ∧ 55296 ≤ c1 ∧ ¬ c1 ≤ 57343) ∨ (¬ c1 < 65536 ∧ ¬ 1114111 < c1 ∧ ¬ 55296 ≤ c1) := by omega
  clear hall hc1 hpw
  rcases hcase with u1 | ⟨u1, u2⟩ | ⟨u1, u2, u3, u4⟩ | ⟨u1, u2, u3, u4⟩ | ⟨u1, u2, u3⟩
  ·rw [if_pos (by omega)] at hd
   subst hd
   have v1 : (c1 : Int) < 65536 := by omega
   go_wp2_with fail
   go_ret2
   exact ⟨rfl, rfl⟩
  ·rw [if_pos (by omega)] at hd
   subst hd
   have v1 : ¬ (c1 : Int) < 65536 := by omega
   have v2 : (c1 : Int) > 1114111 := by omega
   go_wp2_with fail
   go_ret2
   exact ⟨rfl, rfl⟩
  ·rw [if_pos (by omega)] at hd
   subst hd
   have v1 : ¬ (c1 : Int) < 65536 := by omega
   have v2 : ¬ (c1 : Int) > 1114111 := by omega
   have v3 : (55296 : Int) ≤ (c1 : Int) := by omega
   have v4 : (c1 : Int) ≤ 57343 := by omega
   go_wp2_with fail
   go_ret2
   exact ⟨rfl, rfl⟩
  ·rw [if_neg (by omega)] at hd
   subst hd
   have v1 : ¬ (c1 : Int) < 65536 := by omega
   have v2 : ¬ (c1 : Int) > 1114111 := by omega
   have v3 : (55296 : Int) ≤ (c1 : Int) := by omega
   have v4 : ¬ (c1 : Int) ≤ 57343 := by omega
   go_wp2_with fail
   go_ret2
   exact ⟨rfl, rfl⟩
  rw [if_neg (by omega)] at hd
  subst hd
  have v1 : ¬ (c1 : Int) < 65536 := by omega
  have v2 : ¬ (c1 : Int) > 1114111 := by omega
  have v3 : ¬ (55296 : Int) ≤ (c1 : Int) := by omega
  go_wp2_with fail
  go_ret2
  exact ⟨rfl, rfl⟩
 have hd := HD.out
 rw [if_neg h1, if_neg h2, if_neg h3, if_neg h4] at hd
 subst hd
 have hcase : c0 < 192 ∨ 248 ≤ c0 := by omega
 rcases hcase with u | u
 ·have g0 : ¬ (192 : Int) ≤ (c0 : Int) := by omega
  have g1 : ¬ (224 : Int) ≤ (c0 : Int) := by omega
  have g2 : ¬ (240 : Int) ≤ (c0 : Int) := by omega
  go_wp2_with fail
  go_ret2
  exact ⟨rfl, rfl⟩
 have g0 : (192 : Int) ≤ (c0 : Int) := by omega
 have g0b : ¬ (c0 : Int) < 224 := by omega
 have g1 : (224 : Int) ≤ (c0 : Int) := by omega
 have g1b : ¬ (c0 : Int) < 240 := by omega
 have g2 : (240 : Int) ≤ (c0 : Int) := by omega
 have g2b : ¬ (c0 : Int) < 248 := by omega
 go_wp2_with fail
 go_ret2
 exact ⟨rfl, rfl⟩
end Go.Proofs.YtecejnilajbdpaaGreatDoor
