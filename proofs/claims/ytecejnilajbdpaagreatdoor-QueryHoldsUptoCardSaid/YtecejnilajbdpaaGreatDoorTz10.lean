import Derived.Deep.CutBlock
import Derived.Test.YtecejnilajbdpaaGreatDoorTz09
theorem wS (k : Nat) (h : k < 9223372036854775807) : Go.IntKind.i64.wrap ((k : Int) + 1) = ((k + 1 : Nat) : Int) := by rw [Go.IntKind.wrap_i64]; omega
set_option maxRecDepth 100000
set_option maxHeartbeats 4000000
namespace Go.Proofs.YtecejnilajbdpaaGreatDoor
open Go.RowKit Garner
def faultV : Value := .agg #[.int .i64 40]
abbrev faulted : Ending := .panicked [{ v := .iface 149 faultV, recovered := false }]
theorem vMust_t (p : Value) {b : Bool} (hb : b = true) (w : World) : Calls Tryz.prog 90 #[p, .bool b] w fun e w' => e = .returned (.tuple #[]) ∧ w' = w := by
 subst hb
 go_enter Tryz.func90, Tryz.ntmps90
 go_wp2
 go_end0
 exact ⟨rfl, rfl⟩
theorem vMust_f (p : Value) {b : Bool} (hb : b = false) (w : World) : Calls Tryz.prog 90 #[p, .bool b] w fun e w' => e = faulted ∧ w' = w := by
 subst hb
 go_enter Tryz.func90, Tryz.ntmps90
 go_wp2
 exact ⟨rfl, rfl, rfl⟩
theorem vNext_no {F : Nat → Prop} (c : Nat) (g : Nat) (w : World) (rs : List Nat) (ns : List NodeP) (deep most : Nat) (h : PS F w g rs ns deep most) (hc : rs.head? ≠ some c) :
  Calls Tryz.prog 122 #[.pointer (some ⟨g, 0, none⟩), .int .i32 c] w fun e w' => e = .returned (.bool false) ∧ w' = w := by
 obtain ⟨A, cc, O, m, hb, hr, hle, -, -⟩ := h.ex
 have c0 : w.cell? ⟨g, 0, none⟩ = some (.slice A rs.length cc) := hb.cell 0
 go_enter Tryz.func122, Tryz.ntmps122
 cases rs with
 | nil =>
  go_wp2
  go_ret
  exact ⟨rfl, rfl⟩
 | cons a r =>
  obtain ⟨b, off, rfl, hcell⟩ := hr.at_ (k := 0) (u := rv a) rfl
  have hcell : w.cell? ⟨b, off, none⟩ = some (.int .i32 (a : Nat)) := hcell
  have hac : a ≠ c := fun e => hc (by rw [e]; rfl)
  have z0 : ¬ (a : Int) = (c : Int) := by omega
  have z0' : ((a : Int) != (c : Int)) = true := by simpa using z0
  obtain ⟨n, hn⟩ : ∃ n, (a :: r).length = n := ⟨_, rfl⟩
  have hn1 : 1 ≤ n := by rw [← hn]; simp
  rw [hn] at c0
  have z1 : ¬ (n : Int) = 0 := by omega
  have z2 : (0 : Int) < (n : Int) := by omega
  clear hn hr hb hle
  go_wp2
  go_ret
  exact ⟨rfl, rfl⟩
theorem PS.step {F : Nat → Prop} {w : World} {g : Nat} {a : Nat} {r : List Nat} {ns : List NodeP} {deep most : Nat} (h : PS F w g (a :: r) ns deep most) {A : Option Addr} {c : Nat} {O : Option Addr} {m : Nat}
  (hb : Blk w g 147 [.slice A (a :: r).length c, .slice O ns.length m, .int .i64 deep, .int .i64 most]) (hn : NodesIs F w (g + 1) (.slice O ns.length m) ns) {A' : Option Addr} {c' n' : Nat} (hn' : n' = r.length)
  (hr : RowT w 21 A' r.length (r.map rv)) (hc : r.length ≤ c') (hA : (A' = none → c' = 0) ∧ ∀ a, A' = some a → F a.block) : PS F (w.setCell ⟨g, 0, none⟩ (.slice A' n' c')) g r ns deep most ∧ PK g w (w.setCell ⟨g, 0, none⟩ (.slice A' n' c')) := by
 subst hn'
 have hk : KeepT [147] w (w.setCell ⟨g, 0, none⟩ (.slice A' r.length c')) := (KeepT.refl _ w).setCell (p := ⟨g, 0, none⟩) hb (by simp) _
 refine ⟨⟨⟨A', c', O, m, hb.set_ 0 _, hr.keep hk (by decide), hc, hA, hn.keep hk (by decide) (by decide) (by decide)⟩, fun k hk => (by have := h.hF k hk; simpa [World.setCell] using this), h.dm, h.mb, fun x hx => h.rb x (by simp [hx]), h.nb, by have := h.lb; simp at this; omega⟩, ⟨(KeepT.refl _ w).setCell (p := ⟨g, 0, none⟩) hb (by simp) _, (Below.refl _ _).setCell (p := ⟨g, 0, none⟩) (Nat.le_refl _) _⟩⟩
theorem vNext_yes {F : Nat → Prop} (c : Nat) (g : Nat) (w : World) (r : List Nat) (ns : List NodeP) (deep most : Nat) (h : PS F w g (c :: r) ns deep most) :
  Calls Tryz.prog 122 #[.pointer (some ⟨g, 0, none⟩), .int .i32 c] w fun e w' => e = .returned (.bool true) ∧ PS F w' g r ns deep most ∧ PK g w w' := by
 obtain ⟨A, cc, O, m, hb, hr, hle, hA, hn⟩ := h.ex
 have c0 : w.cell? ⟨g, 0, none⟩ = some (.slice A (c :: r).length cc) := hb.cell 0
 have f0 : w.frozen? ⟨g, 0, none⟩ = false := hb.frozen 0
 obtain ⟨b, off, rfl, hcell⟩ := hr.at_ (k := 0) (u := rv c) rfl
 have hcell : w.cell? ⟨b, off, none⟩ = some (.int .i32 (c : Nat)) := hcell
 obtain ⟨l, hl⟩ : ∃ l, r.length = l := ⟨_, rfl⟩
 have e1 : (c :: r).length = l + 1 := by rw [List.length_cons, hl]
 have hrt := RowT.tail (x := rv c) (xs := r.map rv) (n := r.length) hr
 rw [e1] at c0 hle
 have z1 : ¬ ((l + 1 : Nat) : Int) = 0 := by omega
 have z2 : (0 : Int) < ((l + 1 : Nat) : Int) := by omega
 have z3 : (1 : Int) ≤ ((l + 1 : Nat) : Int) := by omega
 have z4 : l + 1 - 1 = l := by omega
 have z5 : ((l + 1 : Nat) : Int) ≤ (cc : Int) := by omega
 obtain ⟨n, hn1⟩ : ∃ n, l + 1 = n := ⟨_, rfl⟩
 rw [hn1] at c0 z1 z2 z3 z4 z5
 have Hl := Lh hl; have HA := Lh hA; clear hA
 clear hl hn1 e1
 go_enter Tryz.func122, Tryz.ntmps122
 by_cases hc1 : cc = 1
 ·have hl0 : l = 0 := by omega
  have hr0 : r = [] := List.eq_nil_of_length_eq_zero (by rw [Hl.out, hl0])
  subst hc1
  go_wp2
  go_ret
  subst hr0
  exact ⟨rfl, h.step hb hn rfl RowT.nil (Nat.le_refl _) ⟨fun _ => rfl, HA.out.2⟩⟩
 go_wp2
 go_ret
 exact ⟨rfl, h.step hb hn Hl.out.symm hrt (by rw [Hl.out]; omega) ⟨fun e => (by cases e), fun a e => (by cases e; exact HA.out.2 ⟨b, off, none⟩ rfl)⟩⟩
theorem vTake_nil {F : Nat → Prop} (g : Nat) (w : World) (ns : List NodeP) (deep most : Nat) (h : PS F w g [] ns deep most) :
  Calls Tryz.prog 195 #[.pointer (some ⟨g, 0, none⟩)] w fun e w' => e = faulted ∧ w' = w := by
 obtain ⟨A, cc, O, m, hb, hr, hle, -, hn⟩ := h.ex
 have c0 : w.cell? ⟨g, 0, none⟩ = some (.slice A 0 cc) := hb.cell 0
 go_enter Tryz.func195, Tryz.ntmps195
 go_wp2_with fail
 refine (vMust_f _ rfl _).mono ?_
 rintro e w' ⟨rfl, rfl⟩
 exact ⟨rfl, rfl, rfl⟩
theorem vTake {F : Nat → Prop} (c : Nat) (g : Nat) (w : World) (r : List Nat) (ns : List NodeP) (deep most : Nat) (h : PS F w g (c :: r) ns deep most) :
  Calls Tryz.prog 195 #[.pointer (some ⟨g, 0, none⟩)] w fun e w' => e = .returned (.int .i32 c) ∧ PS F w' g r ns deep most ∧ PK g w w' := by
 obtain ⟨A, cc, O, m, hb, hr, hle, hA, hn⟩ := h.ex
 have c0 : w.cell? ⟨g, 0, none⟩ = some (.slice A (c :: r).length cc) := hb.cell 0
 have f0 : w.frozen? ⟨g, 0, none⟩ = false := hb.frozen 0
 obtain ⟨b, off, rfl, hcell⟩ := hr.at_ (k := 0) (u := rv c) rfl
 have hcell : w.cell? ⟨b, off, none⟩ = some (.int .i32 (c : Nat)) := hcell
 obtain ⟨l, hl⟩ : ∃ l, r.length = l := ⟨_, rfl⟩
 have e1 : (c :: r).length = l + 1 := by rw [List.length_cons, hl]
 have hrt := RowT.tail (x := rv c) (xs := r.map rv) (n := r.length) hr
 rw [e1] at c0 hle
 have z2 : (0 : Int) < ((l + 1 : Nat) : Int) := by omega
 have z3 : (1 : Int) ≤ ((l + 1 : Nat) : Int) := by omega
 have z4 : l + 1 - 1 = l := by omega
 have z5 : ((l + 1 : Nat) : Int) ≤ (cc : Int) := by omega
 obtain ⟨n, hn1⟩ : ∃ n, l + 1 = n := ⟨_, rfl⟩
 rw [hn1] at c0 z2 z3 z4 z5
 have z7 : 0 < n := by omega
 have Hl := Lh hl; have HA := Lh hA; clear hA
 clear hl hn1 e1
 go_enter Tryz.func195, Tryz.ntmps195
 by_cases hc1 : cc = 1
 ·have hl0 : l = 0 := by omega
  have hr0 : r = [] := List.eq_nil_of_length_eq_zero (by rw [Hl.out, hl0])
  subst hc1
  go_wp2_with fail
  refine (vMust_t _ rfl _).mono ?_
  intro e w' hew
  obtain ⟨he, hw⟩ := hew
  subst he
  obtain rfl : w = w' := hw.symm
  go_wp2
  go_ret
  subst hr0
  exact ⟨rfl, h.step hb hn rfl RowT.nil (Nat.le_refl _) ⟨fun _ => rfl, HA.out.2⟩⟩
 go_wp2_with fail
 refine (vMust_t _ rfl _).mono ?_
 intro e w' hew
 obtain ⟨he, hw⟩ := hew
 subst he
 obtain rfl : w = w' := hw.symm
 go_wp2
 go_ret
 exact ⟨rfl, h.step hb hn Hl.out.symm hrt (by rw [Hl.out]; omega) ⟨fun e => (by cases e), fun a e => (by cases e; exact HA.out.2 ⟨b, off, none⟩ rfl)⟩⟩
theorem vNode {F : Nat → Prop} (d : NodeD) (g : Nat) (w : World) (rs : List Nat) (ns : List NodeP) (deep most : Nat) (h : PS F w g rs ns deep most) (hd : NodeOk F w d) (hn : ns.length < 100000) :
  Calls Tryz.prog 148 #[.pointer (some ⟨g, 0, none⟩), d.v] w fun e w' => e = .returned (.int .i64 ns.length) ∧ PS F w' g rs (ns ++ [d.n]) deep most ∧ PK g w w' := by
 obtain ⟨A, cc, O, m, hb, hr, hle, hA, ds, hds, hown, hall⟩ := h.ex
 have HA := Lh hA; clear hA
 obtain ⟨kk, hkk⟩ : ∃ kk : Value, kk = .int .i64 d.n.kind := ⟨_, rfl⟩
 obtain ⟨N, hN⟩ : ∃ N, ns.length = N := ⟨_, rfl⟩
 have hg := hb.lt
 obtain ⟨X, hX⟩ : ∃ X, X = w.alloc (.cells d.cells.toArray 182) := ⟨_, rfl⟩
 have hwX : Below w.heap.size w X := by rw [hX]; exact (Below.refl _ _).alloc (Nat.le_refl _) _
 have bX : Blk X w.heap.size 182 d.cells := by rw [hX]; exact Blk.new w _ _
 have bP := hb.below hwX hb.lt
 have oX := own_below hown hwX
 rw [hN] at bP oX
 have hX' : X = w.alloc (.cells #[.int .i64 d.n.kind, .slice d.kA d.n.kids.length d.kc, .int .i64 d.n.mn, .int .i64 d.n.mx, .slice d.sA d.n.set.length d.sc] 182) := hX
 show Calls _ _ #[_, .agg #[.int .i64 d.n.kind, .slice d.kA d.n.kids.length d.kc, .int .i64 d.n.mn, .int .i64 d.n.mx, .slice d.sA d.n.set.length d.sc]] _ _
 go_enter Tryz.func148, Tryz.ntmps148
 go_upto_region 1 with fail
 rw [← hX']
 clear hX hX'
 have sS : Blk X.drew g 147 [.slice A rs.length cc, .slice O N m, .int .i64 deep, .int .i64 most] ∧ Blk X.drew w.heap.size 182 [.int .i64 d.n.kind, .slice d.kA d.n.kids.length d.kc, .int .i64 d.n.mn, .int .i64 d.n.mx, .slice d.sA d.n.set.length d.sc] := ⟨bP, bX⟩
 refine rgQ (fun w' => Blk w' g 147 [.slice A rs.length cc, .slice O N m, .int .i64 deep, .int .i64 most] ∧ Blk w' w.heap.size 182 [.int .i64 d.n.kind, .slice d.kA d.n.kids.length d.kc, .int .i64 d.n.mn, .int .i64 d.n.mx, .slice d.sA d.n.set.length d.sc]) 10 (by kernel_rfl) (fun _ _ d _ _ h => by cases d <;> exact h) fun qP => ?_
 apply tkq 0 (by kernel_rfl) rfl qP sS
 ·intro w' hS'; go_simp; exact ⟨rfl, rfl⟩
 apply tkq 1 (by kernel_rfl) rfl qP sS
 ·intro w' hS'; go_simp; exact ⟨rfl, rfl⟩
 apply tkq 2 (by kernel_rfl) rfl qP sS
 ·intro w' hS'; go_simp; exact ⟨rfl, rfl⟩
 apply tkq 3 (by kernel_rfl) rfl qP sS
 ·intro w' hS'; go_simp; exact ⟨rfl, rfl⟩
 apply tkq 4 (v := (.slice O N m)) (by kernel_rfl) rfl qP sS
 ·intro w' hS'; have hk : w'.cell? ⟨g, 1, none⟩ = some (.slice O N m) := hS'.1.cell 1; go_simp; exact ⟨rfl, rfl⟩
 apply tkq 5 (v := (.agg #[.int .i64 d.n.kind, .slice d.kA d.n.kids.length d.kc, .int .i64 d.n.mn, .int .i64 d.n.mx, .slice d.sA d.n.set.length d.sc])) (by kernel_rfl) rfl qP sS
 ·intro w' hS'; have k0 := hS'.2.cell 0; have k1 := hS'.2.cell 1; have k2 := hS'.2.cell 2; have k3 := hS'.2.cell 3; have k4 := hS'.2.cell 4; go_simp; exact ⟨rfl, rfl⟩
 (try simp only [Act.put]); (try simp only [List.setIfInBounds_toArray]); (try simp only [List.set])
 refine rnL 6 (by kernel_rfl) rfl (by kernel_rfl) (fun K hK => ?_)
 go_simp
 obtain ⟨Y, hY⟩ : ∃ Y, Y = (X.alloc (.cells #[.int .i64 d.n.kind, .slice d.kA d.n.kids.length d.kc, .int .i64 d.n.mn, .int .i64 d.n.mx, .slice d.sA d.n.set.length d.sc] 182)).drew := ⟨_, rfl⟩
 rw [← hY]
 have hXY : Below X.heap.size X Y := by rw [hY]; exact ((Below.refl _ _).alloc (Nat.le_refl _) _).drew
 have y1 : Blk Y g 147 [.slice A rs.length cc, .slice O N m, .int .i64 deep, .int .i64 most] := bP.below hXY bP.lt
 have y2 : Blk Y w.heap.size 182 [.int .i64 d.n.kind, .slice d.kA d.n.kids.length d.kc, .int .i64 d.n.mn, .int .i64 d.n.mx, .slice d.sA d.n.set.length d.sc] := Blk.below bX hXY bX.lt
 have y3 := own_below oX hXY
 have xrow : Row Y (X.heap.size + 1) 5 (some ⟨X.heap.size, 0, none⟩) 1 d.cells := by
  rw [hY]; exact (row_newN X 182 5 1 d.cells rfl).drew
 have hwY : Below w.heap.size w Y := hwX.trans (hXY.mono hwX.size)
 have sY := hwY.size
 clear hY oX bP bX
 have sT : Blk Y g 147 [.slice A rs.length cc, .slice O N m, .int .i64 deep, .int .i64 most] ∧ Blk Y w.heap.size 182 [.int .i64 d.n.kind, .slice d.kA d.n.kids.length d.kc, .int .i64 d.n.mn, .int .i64 d.n.mx, .slice d.sA d.n.set.length d.sc] := ⟨y1, y2⟩
 refine hK _ _ (fun _ => sT) ?_
 clear hK K
 (try simp only [Act.put]); (try simp only [List.setIfInBounds_toArray]); (try simp only [List.set])
 refine rnL 7 (by kernel_rfl) rfl (by kernel_rfl) (fun K hK => ?_)
 refine wp_app Y nodeE rfl rfl y3 rfl xrow (by have := nodes_one [d]; simpa using this) (by omega) (by omega) ?_
 intro v W q hg6 hb6 hv6
 have hty := own_typed y3
 have nB : ∀ k cs t, Blk Y k t cs → t ≠ 182 → some k ≠ (Value.slice O N m).ownBlock := fun k cs t hk ht e => by
  obtain ⟨cs', t', z, h1, h2⟩ := hty k e.symm
  unfold Blk at hk
  rw [hk] at h1
  cases h1
  exact ht h2
 have z1 := y1.grown hg6 (nB _ _ _ y1 (by decide))
 have nZ : some w.heap.size ≠ (Value.slice O N m).ownBlock := fun e => by
  have h1 := (own_ge hown w.heap.size (by rw [hN, ← e]; simp)).2
  omega
 have z2 := y2.grown hg6 nZ
 have kW : KeepT PT w W := (KeepT.of_below hwY).trans (.grown hg6 fun k hk => by
  obtain ⟨cs, t, z, h1, h2⟩ := hty k hk
  exact ⟨cs, t, z, h1, by rw [h2]; simp⟩)
 have lW : Below g w W := (hwY.mono (by omega)).trans (hb6.mono (by omega))
 obtain ⟨O2, m2, rfl, -⟩ := own_form q
 have sU : Blk W g 147 [.slice A rs.length cc, .slice O N m, .int .i64 deep, .int .i64 most] ∧ Blk W w.heap.size 182 [.int .i64 d.n.kind, .slice d.kA d.n.kids.length d.kc, .int .i64 d.n.mn, .int .i64 d.n.mx, .slice d.sA d.n.set.length d.sc] := ⟨z1, z2⟩
 have cb : W.cell? ⟨g, 1, none⟩ = some (.slice O N m) := z1.cell 1
 have fb := z1.frozen 1
 refine hK _ _ (fun _ => sU) ?_
 clear hK K
 (try simp only [Act.put]); (try simp only [List.setIfInBounds_toArray]); (try simp only [List.set])
 refine rnL 8 (by kernel_rfl) rfl (by kernel_rfl) (fun K hK => ?_)
 go_simp
 refine hK _ _ (fun _ => sU) ?_
 clear hK K
 (try simp only [Act.put]); (try simp only [List.setIfInBounds_toArray]); (try simp only [List.set])
 refine rnL 9 (by kernel_rfl) rfl (by kernel_rfl) (fun K hK => ?_)
 go_simp
 refine hK _ _ (fun _ => sU) ?_
 clear hK K
 (try simp only [Act.put]); (try simp only [List.setIfInBounds_toArray]); (try simp only [List.set])
 refine rnL 10 (by kernel_rfl) rfl (by kernel_rfl) (fun K hK => ?_)
 go_simp
 refine hK _ _ (fun h => absurd rfl h) ?_
 clear hK K
 (try simp only [Act.put])
 refine dnL (by kernel_rfl) ?_ _
 have e1 : IntKind.i64.wrap ((N : Int) + 1 - 1) = (N : Int) := by rw [IntKind.wrap_i64]; omega
 have b3 := z1.set_ 1 (.slice O2 (N + 1) m2)
 have k3 : KeepT PT w (W.setCell ⟨g, 1, none⟩ (.slice O2 (N + 1) m2)) := kW.setCell (p := ⟨g, 1, none⟩) z1 (by simp) _
 have l3 : Below g w (W.setCell ⟨g, 1, none⟩ (.slice O2 (N + 1) m2)) := lW.setCell (p := ⟨g, 1, none⟩) (Nat.le_refl _) _
 have o3 := own_but q ((But.refl [g] W).setCell (p := ⟨g, 1, none⟩) (by simp) (.slice O2 (N + 1) m2)) (fun k hk hm => by
  simp only [List.mem_singleton] at hm
  subst hm
  exact own_blk q z1 (by decide) (by rw [hk]; simp))
 have eN : (ns ++ [d.n]).length = N + 1 := by rw [List.length_append, hN]; rfl
 have hps : PS F (W.setCell ⟨g, 1, none⟩ (.slice O2 (N + 1) m2)) g rs (ns ++ [d.n]) deep most := by
  refine ⟨⟨A, cc, O2, m2, ?_, hr.keep k3 (by decide), hle, HA.out, ds ++ [d], by rw [List.map_append, hds]; rfl, ?_, ?_⟩, fun k hk => Nat.lt_of_lt_of_le (h.hF k hk) k3.size, h.dm, h.mb, h.rb, by omega, h.lb⟩
  ·rw [eN]; exact b3
  ·rw [eN, List.flatMap_append]; simpa using o3
  intro x hx
  rcases List.mem_append.1 hx with hx | hx
  ·exact (hall x hx).keep k3 (by decide) (by decide)
  rw [List.mem_singleton.1 hx]; exact hd.keep k3 (by decide) (by decide)
 have Hps := Lh hps; have K3 := Lh k3; have L3 := Lh l3
 clear hps k3 l3 o3 b3 kW lW z1 z2 sU q hty nB nZ
 go_wp2
 go_ret
 exact ⟨by rw [hN]; rfl, Hps.out, K3.out, L3.out⟩
def kidsN (kind : Nat) (ks : List Nat) (ns : List NodeP) : List NodeP × Nat := match ks with
 | [k] => (ns, k)
 | _ => (ns ++ [⟨kind, ks, 0, 0, []⟩], ns.length)
theorem vMany {F : Nat → Prop} (kind : Nat) (ks : List Nat) (A : Option Addr) (c : Nat) (g : Nat) (w : World) (rs : List Nat) (ns : List NodeP) (deep most : Nat) (h : PS F w g rs ns deep most) (hk : RowT w 3 A ks.length (ks.map iv)) (hkF : ∀ a, A = some a → F a.block) (hn : ns.length < 100000) :
  Calls Tryz.prog 123 #[.pointer (some ⟨g, 0, none⟩), .int .i64 kind, .slice A ks.length c] w fun e w' => e = .returned (.int .i64 (kidsN kind ks ns).2) ∧ PS F w' g rs (kidsN kind ks ns).1 deep most ∧ PK g w w' := by
 go_enter Tryz.func123, Tryz.ntmps123
 by_cases h1 : ks.length = 1
 ·obtain ⟨k, rfl⟩ : ∃ k, ks = [k] := by
   match ks, h1 with
   | [k], _ => exact ⟨k, rfl⟩
  obtain ⟨b, off, rfl, hcell⟩ := hk.at_ (k := 0) (u := iv k) rfl
  have hcell : w.cell? ⟨b, off, none⟩ = some (.int .i64 (k : Nat)) := hcell
  go_wp2
  go_ret
  exact ⟨rfl, h, .refl _ _⟩
 have e : kidsN kind ks ns = (ns ++ [⟨kind, ks, 0, 0, []⟩], ns.length) := by
  match ks, h1 with
  | [], _ => rfl
  | _ :: _ :: _, _ => rfl
 rw [e]
 have hv := vNode ⟨⟨kind, ks, 0, 0, []⟩, A, c, none, 0⟩ g w rs ns deep most h ⟨hk, RowT.nil, hkF, fun a e => (by cases e)⟩ hn
 obtain ⟨n, hn2⟩ : ∃ n, ks.length = n := ⟨_, rfl⟩
 have hv2 : Calls Tryz.prog 148 #[.pointer (some ⟨g, 0, none⟩), .agg #[.int .i64 kind, .slice A n c, .int .i64 0, .int .i64 0, .slice none 0 0]] w fun e w' => e = .returned (.int .i64 ns.length) ∧ PS F w' g rs (ns ++ [⟨kind, ks, 0, 0, []⟩]) deep most ∧ PK g w w' := by
  rw [← hn2]; exact hv
 rw [hn2] at h1 ⊢
 have z1 : ¬ (n : Int) = 1 := by omega
 clear hv hn2 hk e
 go_wp2_with fail
 refine hv2.mono ?_
 rintro e w' ⟨rfl, h2, h3⟩
 go_wp2
 go_ret
 exact ⟨rfl, h2, h3⟩
def OutR {α : Type} (F : Nat → Prop) (o : Option (α × List Nat)) (val : α → Value) (g : Nat) (ns : List NodeP) (deep most : Nat) (e : Ending) (w' : World) : Prop := match o with
 | some (d, r) => e = .returned (val d) ∧ PS F w' g r ns deep most
 | none => e = faulted
theorem vDigit {F : Nat → Prop} (g : Nat) (w : World) (rs : List Nat) (ns : List NodeP) (deep most : Nat) (h : PS F w g rs ns deep most) :
  Calls Tryz.prog 173 #[.pointer (some ⟨g, 0, none⟩)] w fun e w' => PK g w w' ∧ OutR F (digR rs) (fun d => .int .i64 (d : Nat)) g ns deep most e w' := by
 go_enter Tryz.func173, Tryz.ntmps173
 cases rs with
 | nil =>
  go_wp2_with fail
  refine (vTake_nil g w ns deep most h).mono ?_
  rintro e w' ⟨rfl, rfl⟩
  exact ⟨rfl, .refl _ _, rfl⟩
 | cons a r =>
  have hb := h.rb a (by simp)
  go_wp2_with fail
  refine (vTake a g w r ns deep most h).mono ?_
  rintro e w1 ⟨rfl, h1, k1⟩
  by_cases c1 : 48 ≤ a
  ·have z1 : (48 : Int) ≤ (a : Int) := by omega
   by_cases c2 : a ≤ 56
   ·have z2 : (a : Int) ≤ 56 := by omega
    have e : digR (a :: r) = some (a - 48, r) := if_pos ⟨c1, c2⟩
    have E := Lh e; clear e
    have z3 : IntKind.i32.wrap ((a : Int) - 48) = ((a - 48 : Nat) : Int) := by simp [IntKind.wrap, IntKind.bits, IntKind.signed]; omega
    have z4 : IntKind.i64.wrap ((a - 48 : Nat) : Int) = ((a - 48 : Nat) : Int) := by rw [IntKind.wrap_i64]; omega
    go_wp2_with fail
    refine (vMust_t _ ?_ _).mono ?_; first | rfl | exact decide_eq_true (by omega) | (simp; omega)
    rintro e w' ⟨rfl, hw⟩
    obtain rfl : w1 = w' := hw.symm
    go_wp2
    go_ret
    exact ⟨k1, by rw [E.out]; exact ⟨rfl, h1⟩⟩
   have z2 : ¬ (a : Int) ≤ 56 := by omega
   have e : digR (a :: r) = none := if_neg fun h => c2 h.2
   have E := Lh e; clear e
   go_wp2_with fail
   refine (vMust_f _ ?_ _).mono ?_; first | rfl | exact decide_eq_false (by omega) | (simp; omega)
   rintro e w' ⟨rfl, rfl⟩
   exact ⟨rfl, k1, by rw [E.out]; exact rfl⟩
  have z1 : ¬ (48 : Int) ≤ (a : Int) := by omega
  have e : digR (a :: r) = none := if_neg fun h => c1 h.1
  have E := Lh e; clear e
  go_wp2_with fail
  refine (vMust_f _ ?_ _).mono ?_; first | rfl | exact decide_eq_false (by omega) | (simp; omega)
  rintro e w' ⟨rfl, rfl⟩
  exact ⟨rfl, k1, by rw [E.out]; exact rfl⟩
end Go.Proofs.YtecejnilajbdpaaGreatDoor
