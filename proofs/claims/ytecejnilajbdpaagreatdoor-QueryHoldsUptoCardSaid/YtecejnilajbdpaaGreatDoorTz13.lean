import Derived.Test.YtecejnilajbdpaaGreatDoorTz12
set_option maxRecDepth 100000
set_option maxHeartbeats 8000000
namespace Go.Proofs.YtecejnilajbdpaaGreatDoor
open Go.RowKit Garner
theorem pairE : Elem Tryz.prog 244 245 (.agg #[.int .i32 0, .int .i32 0]) 2 8 := ⟨Tryz.underlying244, by kernel_rfl, rfl, by omega, by omega⟩
theorem take_flat {P : List (Nat × Nat)} {k : Nat} {p : Nat × Nat} (h : P[k]? = some p) : flatR (P.take (k + 1)) = flatR (P.take k) ++ [p.1, p.2] := by
 obtain ⟨hk, e⟩ := List.getElem?_eq_some_iff.1 h
 rw [List.take_succ_eq_append_getElem hk, flat_app, e]
 simp [flatR]
theorem stepI_snoc (o : List (Nat × Nat)) (p q a b : Nat) : stepI (o ++ [(p, q)]) (a, b) = if a ≤ q + 1 then o ++ [(p, max q b)] else o ++ [(p, q)] ++ [(a, b)] := by
 unfold stepI
 rw [List.getLast?_concat]
 simp
theorem flat_set {o : List (Nat × Nat)} {p q m i : Nat} (h : i = 2 * o.length + 1) : ((flatR (o ++ [(p, q)])).map rv).set i (rv m) = (flatR (o ++ [(p, m)])).map rv := by
 have hl := flat_length o
 rw [flat_app, flat_app, List.map_append, List.map_append, List.set_append, if_neg (by rw [List.length_map]; omega), List.length_map, hl, h, show 2 * o.length + 1 - 2 * o.length = 1 by omega]
 rfl
theorem below_grown {w w' : World} {B : Nat} {e : TypeId} {sz n : Nat} {v : Value} {xs : List Value} (h : w.ownsRow B e sz v n xs) (hg : w.grownBy w' v.ownBlock) (hB : B ≤ w.heap.size) : Below B w w' :=
 ⟨hg.os, hg.tape, hg.output, hg.size, fun k hk => hg.block k (by omega) fun e => by have := (h.lt k e.symm).1; omega⟩
theorem take_step {P : List (Nat × Nat)} {k : Nat} {p : Nat × Nat} (h : P[k]? = some p) : (P.take (k + 1)).foldl stepI [] = stepI ((P.take k).foldl stepI []) p := by
 obtain ⟨hk, e⟩ := List.getElem?_eq_some_iff.1 h
 rw [List.take_succ_eq_append_getElem hk, List.foldl_append, e]
 rfl
theorem vMerged (P : List (Nat × Nat)) (A : Option Addr) (c n : Nat) (w : World) (hn : n = 2 * P.length) (hr : RowT w 21 A n ((flatR P).map rv)) (hP : ∀ p ∈ P, p.1 ≤ 1114111 ∧ p.2 ≤ 1114111) (hle : ∀ p ∈ P, p.1 ≤ p.2) (hne : P ≠ []) (hl : P.length ≤ 1000) :
  Calls Tryz.prog 206 #[.slice A n c] w fun e w' => ∃ v, e = .returned v ∧ w'.ownsRow w.heap.size 21 1 v (flatR (mergeI (sortR P))).length ((flatR (mergeI (sortR P))).map rv) ∧ Below w.heap.size w w' := by
 have Hn := Lh hn; clear hn
 have hpos := List.length_pos_iff.2 hne
 go_enter Tryz.func206, Tryz.ntmps206
 go_wp2
 go_loopw [3, 4] (fun v i wr => ∃ (k j : Nat), Hid (j = 2 * k) ∧ k ≤ P.length ∧ i = .int .i64 j ∧ wr.ownsRow w.heap.size 245 2 v k ((flatR (P.take k)).map rv) ∧ Below w.heap.size w wr) (fun _ i _ => 2 * P.length - (intOf i).toNat)
 case atStart => exact ⟨0, 0, Lh rfl, Nat.zero_le _, rfl, World.ownsRow_nil _ _ _ _, Below.refl _ _⟩
 obtain ⟨k, j, hj, hk, rfl, hown, hbel⟩ := hrel
 obtain ⟨A3, c3, rfl, -⟩ := own_form hown
 obtain ⟨wo, rfl⟩ : ∃ wo : World, wo = wr := ⟨_, rfl⟩
 have hs0 := hbel.size
 by_cases hlt : k < P.length
 ·have hjn := hj.out
  have hnn := Hn.out
  obtain ⟨p, hp⟩ : ∃ p, P[k]? = some p := ⟨_, List.getElem?_eq_getElem hlt⟩
  have htf := take_flat hp
  obtain ⟨a, b⟩ := p
  obtain ⟨f1, f2⟩ := flat_at hp
  obtain ⟨bb, off, cs, z, rfl, hbk, hc⟩ := hr.2 (by omega)
  have hbw : bb < w.heap.size := (Array.getElem?_eq_some_iff.1 hbk).1
  have cf : ∀ W, Below w.heap.size w W → W.cell? ⟨bb, off + j, none⟩ = some (.int .i32 (a : Nat)) ∧ W.cell? ⟨bb, off + (j + 1), none⟩ = some (.int .i32 (b : Nat)) := fun W hW => by
   have e : W.heap[bb]? = w.heap[bb]? := hW.block bb hbw
   constructor
   ·simp only [World.cell?, e, hbk]
    rw [hjn]
    exact hc _ _ (by rw [List.getElem?_map, f1]; rfl)
   simp only [World.cell?, e, hbk]
   rw [hjn]
   exact hc _ _ (by rw [List.getElem?_map, f2]; rfl)
  have Hcf := Lh cf; clear cf
  have z1 : (j : Int) < (n : Int) := by omega
  have z2 : ((j + 1 : Nat) : Int) < (n : Int) := by omega
  have z3 : (j : Int) + 1 < (n : Int) := by omega
  have w1 := wS j (by omega)
  have w2 : IntKind.i64.wrap ((j : Int) + 2) = ((j + 2 : Nat) : Int) := by rw [IntKind.wrap_i64]; omega
  have hmes : j < n := by omega
  have Htf := Lh htf; have Hjn := Lh hjn; have Hnn := Lh hnn
  clear htf hjn hnn f1 f2 hc hbk hp
  go_upto_region 5 with fail
  have sS : Below w.heap.size w wo.drew := hbel.drew
  refine rgQ (fun w' => Below w.heap.size w w') 100 (by kernel_rfl) (fun _ _ d _ _ h => by cases d <;> exact h) fun qP => ?_
  apply tkq 0 (by kernel_rfl) rfl qP sS
  ·intro w' hS'; go_simp; exact ⟨rfl, rfl⟩
  apply tkq 1 (by kernel_rfl) rfl qP sS
  ·intro w' hS'; go_simp; exact ⟨rfl, rfl⟩
  apply tkq 2 (by kernel_rfl) rfl qP sS
  ·intro w' hS'; go_simp; exact ⟨rfl, rfl⟩
  apply tkq 3 (v := (.pointer (some ⟨bb, off + j, none⟩))) (by kernel_rfl) rfl qP sS
  ·intro w' hS'
   (go_simp; exact ⟨rfl, rfl⟩)
  apply tkq 4 (v := (.int .i32 (a : Nat))) (by kernel_rfl) rfl qP sS
  ·intro w' hS'; have hk1 := (Hcf.out w' hS').1; go_simp; exact ⟨rfl, rfl⟩
  apply tkq 5 (by kernel_rfl) rfl qP sS
  ·intro w' hS'; go_simp; exact ⟨rfl, rfl⟩
  apply tkq 6 (by kernel_rfl) rfl qP sS
  ·intro w' hS'; go_simp; exact ⟨rfl, rfl⟩
  apply tkq 7 (v := (.int .i64 ((j + 1 : Nat) : Int))) (by kernel_rfl) rfl qP sS
  ·intro w' hS'
   (go_simp; exact ⟨rfl, rfl⟩)
  apply tkq 8 (v := (.pointer (some ⟨bb, off + (j + 1), none⟩))) (by kernel_rfl) rfl qP sS
  ·intro w' hS'
   (go_simp; exact ⟨rfl, rfl⟩)
  apply tkq 9 (v := (.int .i32 (b : Nat))) (by kernel_rfl) rfl qP sS
  ·intro w' hS'; have hk1 := (Hcf.out w' hS').2; go_simp; exact ⟨rfl, rfl⟩
  apply tkq 10 (by kernel_rfl) rfl qP sS
  ·intro w' hS'; go_simp; exact ⟨rfl, rfl⟩
  (try simp only [Act.put]); (try simp only [List.setIfInBounds_toArray]); (try simp only [List.set])
  refine rnL 11 (by kernel_rfl) rfl (by kernel_rfl) (fun K hK => ?_)
  go_simp
  obtain ⟨Y, hY⟩ : ∃ Y, Y = (wo.alloc (.cells #[.int .i32 (a : Nat), .int .i32 (b : Nat)] 245)).drew := ⟨_, rfl⟩
  rw [← hY]
  have bY : Below w.heap.size w Y := by rw [hY]; exact (hbel.alloc hs0 _).drew
  have oY : Y.ownsRow w.heap.size 245 2 (.slice A3 k c3) k ((flatR (P.take k)).map rv) := by rw [hY]; exact (hown.alloc _)
  have rowY : Row Y (wo.heap.size + 1) 2 (some ⟨wo.heap.size, 0, none⟩) 1 [.int .i32 (a : Nat), .int .i32 (b : Nat)] := by
   rw [hY]; exact (row_newN wo 245 2 1 [.int .i32 (a : Nat), .int .i32 (b : Nat)] rfl).drew
  clear hY
  refine hK _ _ (fun _ => bY) ?_
  clear hK K
  (try simp only [Act.put]); (try simp only [List.setIfInBounds_toArray]); (try simp only [List.set])
  refine rnL 12 (by kernel_rfl) rfl (by kernel_rfl) (fun K hK => ?_)
  refine wp_app Y pairE rfl rfl oY rfl rowY (by simp [Value.oneCell']) (by omega) bY.size ?_
  intro v W q hg6 hb6 hv6
  have bW : Below w.heap.size w W := bY.trans hb6
  refine hK _ _ (fun _ => bW) ?_
  clear hK K
  (try simp only [Act.put]); (try simp only [List.setIfInBounds_toArray]); (try simp only [List.set])
  refine rnL 13 (by kernel_rfl) rfl (by kernel_rfl) (fun K hK => ?_)
  go_simp
  refine hK _ _ (fun _ => bW) ?_
  clear hK K
  (try simp only [Act.put]); (try simp only [List.setIfInBounds_toArray]); (try simp only [List.set])
  refine dnL (by kernel_rfl) ?_ _
  have qf : W.ownsRow w.heap.size 245 2 v (k + 1) ((flatR (P.take (k + 1))).map rv) := by
   rw [Htf.out, List.map_append]
   exact q
  go_wp2
  go_roundw
  case rel => exact ⟨k + 1, j + 2, Lh (by have := Hjn.out; omega), by omega, rfl, qf, bW⟩
  case measure => simp [intOf]; have := Hnn.out; omega
 have hjn := hj.out
 have hnn := Hn.out
 have z1 : ¬ (j : Int) < (n : Int) := by omega
 obtain rfl : k = P.length := by omega
 rw [List.take_length] at hown
 clear hjn hj
 go_wp2_with (go_at_call 209; refine (vSortP P _ _ _ hown hne hP hl).mono ?_; rintro e w1 ⟨rfl, P', hperm, hsrt, own1, hg1⟩)
 have hb1 : Below w.heap.size w w1 := hbel.trans (below_grown hown hg1 hs0)
 have hN : P'.length = P.length := hperm.length_eq
 have hP' : ∀ p ∈ P', p.1 ≤ 1114111 ∧ p.2 ≤ 1114111 := fun p hp => hP p (hperm.mem_iff.1 hp)
 have hfin : mergeI P' = mergeI (sortR P) := merge_eq hsrt (fun p hp => hle p (hperm.mem_iff.1 hp)) (sorted_sort P) fun p => by rw [mem_sort]; exact hperm.mem_iff
 have HF := Lh hfin
 obtain ⟨g3, rfl, hg3a, hg3b, -, -, hcp⟩ := own_at own1 hpos
 obtain ⟨N, hNN⟩ : ∃ N, P.length = N := ⟨_, rfl⟩
 rw [hNN] at hN hcp hl hpos ⊢
 have HN := Lh hN; have HP := Lh hP'; have Hcp := Lh hcp
 clear hfin hN hP' hcp own1 hg1 hown hNN hnn Hn
 go_loopw [5, 32] (fun v i wr => ∃ (k : Nat) (out : List (Nat × Nat)), k ≤ N ∧ i = .int .i64 k ∧ wr.ownsRow w1.heap.size 21 1 v (flatR out).length ((flatR out).map rv) ∧ out.length ≤ k ∧ Hid ((P'.take k).foldl stepI [] = out) ∧ Hid (∀ p ∈ out, p.1 ≤ 1114111 ∧ p.2 ≤ 1114111) ∧ Below w1.heap.size w1 wr) (fun _ i _ => N - (intOf i).toNat)
 case atStart => exact ⟨0, [], Nat.zero_le _, rfl, World.ownsRow_nil _ _ _ _, Nat.le_refl _, Lh rfl, Lh (by simp), Below.refl _ _⟩
 obtain ⟨k, out, hk, rfl, hown, hol, hfold, hbnd, hbel2⟩ := hrel
 obtain ⟨A5, c5, rfl, hc5⟩ := own_form hown
 obtain ⟨wp, rfl⟩ : ∃ wp : World, wp = wr := ⟨_, rfl⟩
 have hs1 := hbel2.size
 have hs2 := hb1.size
 by_cases hlt : k < N
 ·obtain ⟨p, hp⟩ : ∃ p, P'[k]? = some p := ⟨_, List.getElem?_eq_getElem (by have := HN.out; omega)⟩
  have hab := HP.out p (List.mem_of_getElem? hp)
  have hst := take_step hp
  rw [hfold.out] at hst
  obtain ⟨a, b⟩ := p
  simp only at hab
  obtain ⟨ha, hb⟩ := hab
  obtain ⟨f1, f2⟩ := flat_at hp
  have c1 : wp.cell? ⟨g3, k * 2, none⟩ = some (.int .i32 (a : Nat)) := by
   rw [hbel2.cell (p := ⟨g3, k * 2, none⟩) hg3b, Hcp.out (k * 2) (by omega), List.getElem?_map, Nat.mul_comm, f1]; rfl
  have c2 : wp.cell? ⟨g3, k * 2 + 1, none⟩ = some (.int .i32 (b : Nat)) := by
   rw [hbel2.cell (p := ⟨g3, k * 2 + 1, none⟩) hg3b, Hcp.out (k * 2 + 1) (by omega), List.getElem?_map, Nat.mul_comm, f2]; rfl
  have Hst := Lh hst
  clear hst f1 f2 hp
  have z1 : (k : Int) < (N : Int) := by omega
  have w1' : IntKind.i64.wrap ((k : Int) + 1) = ((k + 1 : Nat) : Int) := by rw [IntKind.wrap_i64]; omega
  have hfl := flat_length out
  obtain ⟨L, hL⟩ : ∃ L, (flatR out).length = L := ⟨_, rfl⟩
  rw [hL] at hfl hown hc5 ⊢
  have Hfl := Lh hfl; have HL := Lh hL
  clear hfl hL
  have bX : Below w1.heap.size w1 (wp.alloc (.cells #[.int .i32 (a : Nat), .int .i32 (b : Nat)] 245)) := hbel2.alloc hs1 _
  have oX := hown.alloc (.cells #[.int .i32 (a : Nat), .int .i32 (b : Nat)] 245)
  have xX : Blk (wp.alloc (.cells #[.int .i32 (a : Nat), .int .i32 (b : Nat)] 245)) wp.heap.size 245 [.int .i32 (a : Nat), .int .i32 (b : Nat)] := Blk.new wp _ _
  by_cases hout : out = []
  ·subst hout
   obtain rfl : L = 0 := by have := Hfl.out; simpa using this
   go_upto_region 12 with fail
   obtain ⟨X, hX⟩ : ∃ X, X = wp.alloc (.cells #[.int .i32 (a : Nat), .int .i32 (b : Nat)] 245) := ⟨_, rfl⟩
   rw [← hX] at bX oX xX ⊢
   clear hX
   have sX : Below w1.heap.size w1 X.drew := bX.drew
   refine rgQ (fun w' => Below w1.heap.size w1 w') 100 (by kernel_rfl) (fun _ _ d _ _ h => by cases d <;> exact h) fun qP => ?_
   apply tkq 0 (by kernel_rfl) rfl qP sX
   ·intro w' hS'; go_simp; exact ⟨rfl, rfl⟩
   apply tkq 1 (v := (.bool false)) (by kernel_rfl) rfl qP sX
   ·intro w' hS'
    (go_simp; exact ⟨rfl, rfl⟩)
   apply tkq 2 (by kernel_rfl) rfl qP sX
   ·intro w' hS'; go_simp; exact ⟨rfl, rfl⟩
   refine skq 3 (by kernel_rfl) rfl qP sX ?_
   refine skq 4 (by kernel_rfl) rfl qP sX ?_
   refine skq 5 (by kernel_rfl) rfl qP sX ?_
   refine skq 6 (by kernel_rfl) rfl qP sX ?_
   refine skq 7 (by kernel_rfl) rfl qP sX ?_
   refine skq 8 (by kernel_rfl) rfl qP sX ?_
   refine skq 9 (by kernel_rfl) rfl qP sX ?_
   refine skq 10 (by kernel_rfl) rfl qP sX ?_
   refine skq 11 (by kernel_rfl) rfl qP sX ?_
   apply tkq 12 (v := (.bool false)) (by kernel_rfl) rfl qP sX
   ·intro w' hS'
    (go_simp; exact ⟨rfl, rfl⟩)
   (try simp only [Act.put]); (try simp only [List.setIfInBounds_toArray]); (try simp only [List.set])
   refine dnL (by kernel_rfl) ?_ _
   have d1 : X.drew.cell? ⟨wp.heap.size, 0, none⟩ = some (.int .i32 (a : Nat)) := xX.cell 0
   have d2 : X.drew.cell? ⟨wp.heap.size, 1, none⟩ = some (.int .i32 (b : Nat)) := xX.cell 1
   have oD : X.drew.ownsRow w1.heap.size 21 1 (.slice A5 0 c5) 0 ((flatR []).map rv) := oX
   obtain ⟨Y, hY⟩ : ∃ Y, Y = X.drew := ⟨_, rfl⟩
   rw [← hY] at d1 d2 oD sX ⊢
   have sD := sX.size
   clear hY oX xX bX
   go_wp2_with (at_builtin; refine wpList_app _ rfl runeE rfl rfl (oD.alloc _) rfl (row_new Y _ [_, _]) (by simp [Value.oneCell']) (by first | omega | (simp; omega) | (simp; done)) (by simp; omega) ?_; intro v4 w4 hown4 hg4 hb4 _)
   have b4 : Below w1.heap.size w1 w4 := (sX.alloc sD _).trans hb4
   go_roundw
   case rel => exact ⟨k + 1, [(a, b)], by omega, rfl, hown4, by simp, Lh (by rw [Hst.out]; rfl), Lh (by intro p hp; simp at hp; subst hp; exact ⟨ha, hb⟩), b4⟩
   case measure => simp [intOf]; omega
  obtain ⟨o, ⟨p, q⟩, rfl⟩ : ∃ o x, out = o ++ [x] := by
   rcases List.eq_nil_or_concat out with h | ⟨o, x, h⟩
   ·exact absurd h hout
   exact ⟨o, x, by simpa using h⟩
  have hL2 : L = 2 * o.length + 2 := by have := Hfl.out; simp at this; omega
  have hq := (hbnd.out (p, q) (by simp)).2
  have hp1 := (hbnd.out (p, q) (by simp)).1
  simp only at hq hp1
  obtain ⟨g5, rfl, hg5a, hg5b, -, -, hcq⟩ := own_at hown (by omega)
  have cq := hcq (L - 1) (by omega)
  have eq1 : ((flatR (o ++ [(p, q)])).map rv)[L - 1]? = some (.int .i32 (q : Nat)) := by
   have := (flat_at (l := o ++ [(p, q)]) (k := o.length) (p := (p, q)) (by simp)).2
   rw [List.getElem?_map, show L - 1 = 2 * o.length + 1 by omega, this]; rfl
  rw [eq1] at cq
  have hol2 : o.length + 1 ≤ k := by simpa using hol
  have zL : (0 : Int) < (L : Int) := by omega
  have zL0 : 0 < L := by omega
  have zLb : L ≤ 3000 := by omega
  have wL : IntKind.i64.wrap ((L : Int) - 1) = ((L - 1 : Nat) : Int) := by rw [IntKind.wrap_i64]; omega
  have wq : IntKind.i32.wrap ((q : Int) + 1) = ((q + 1 : Nat) : Int) := by simp [IntKind.wrap, IntKind.bits, IntKind.signed]; omega
  have zL2 : ((L - 1 : Nat) : Int) < (L : Int) := by omega
  have cqX := cq
  rw [← World.cell?_alloc_lt wp (.cells #[.int .i32 (a : Nat), .int .i32 (b : Nat)] 245) ⟨g5, L - 1, none⟩ hg5b] at cqX
  have frX := oX.frozenAt (L - 1)
  have HL2 := Lh hL2
  clear hcq eq1 hL2 hout cq
  go_upto_region 12 with fail
  obtain ⟨X, hX⟩ : ∃ X, X = wp.alloc (.cells #[.int .i32 (a : Nat), .int .i32 (b : Nat)] 245) := ⟨_, rfl⟩
  rw [← hX] at bX oX xX cqX frX ⊢
  clear hX
  have x1 : X.cell? ⟨wp.heap.size, 0, none⟩ = some (.int .i32 (a : Nat)) := xX.cell 0
  have x2 : X.cell? ⟨wp.heap.size, 1, none⟩ = some (.int .i32 (b : Nat)) := xX.cell 1
  have sX : (X.drew.cell? ⟨g5, L - 1, none⟩ = some (.int .i32 (q : Nat)) ∧ X.drew.frozen? ⟨g5, L - 1, none⟩ = false) ∧ X.drew.cell? ⟨wp.heap.size, 0, none⟩ = some (.int .i32 (a : Nat)) ∧ X.drew.cell? ⟨wp.heap.size, 1, none⟩ = some (.int .i32 (b : Nat)) := ⟨⟨cqX, frX⟩, x1, x2⟩
  have bD := bX.drew
  obtain ⟨res, hres⟩ : ∃ r : Bool, r = decide ((a : Int) ≤ ((q + 1 : Nat) : Int)) := ⟨_, rfl⟩
  refine rgQ (fun w' => (w'.cell? ⟨g5, L - 1, none⟩ = some (.int .i32 (q : Nat)) ∧ w'.frozen? ⟨g5, L - 1, none⟩ = false) ∧ w'.cell? ⟨wp.heap.size, 0, none⟩ = some (.int .i32 (a : Nat)) ∧ w'.cell? ⟨wp.heap.size, 1, none⟩ = some (.int .i32 (b : Nat))) 100 (by kernel_rfl) (fun _ _ d _ _ h => by cases d <;> exact h) fun qP => ?_
  apply tkq 0 (by kernel_rfl) rfl qP sX
  ·intro w' hS'; go_simp; exact ⟨rfl, rfl⟩
  apply tkq 1 (v := (.bool true)) (by kernel_rfl) rfl qP sX
  ·intro w' hS'
   (go_simp; exact ⟨rfl, rfl⟩)
  apply tkq 2 (by kernel_rfl) rfl qP sX
  ·intro w' hS'; go_simp; exact ⟨rfl, rfl⟩
  apply tkq 3 (by kernel_rfl) rfl qP sX
  ·intro w' hS'; go_simp; exact ⟨rfl, rfl⟩
  apply tkq 4 (v := (.int .i32 (a : Nat))) (by kernel_rfl) rfl qP sX
  ·intro w' hS'; have k1 := hS'.2.1; go_simp; exact ⟨rfl, rfl⟩
  apply tkq 5 (by kernel_rfl) rfl qP sX
  ·intro w' hS'; go_simp; exact ⟨rfl, rfl⟩
  apply tkq 6 (by kernel_rfl) rfl qP sX
  ·intro w' hS'; go_simp; exact ⟨rfl, rfl⟩
  apply tkq 7 (v := (.int .i64 ((L - 1 : Nat) : Int))) (by kernel_rfl) rfl qP sX
  ·intro w' hS'
   (go_simp; exact ⟨rfl, rfl⟩)
  apply tkq 8 (v := (.pointer (some ⟨g5, L - 1, none⟩))) (by kernel_rfl) rfl qP sX
  ·intro w' hS'
   (go_simp; exact ⟨rfl, rfl⟩)
  apply tkq 9 (v := (.int .i32 (q : Nat))) (by kernel_rfl) rfl qP sX
  ·intro w' hS'; have k1 := hS'.1.1; go_simp; exact ⟨rfl, rfl⟩
  apply tkq 10 (v := (.int .i32 ((q + 1 : Nat) : Int))) (by kernel_rfl) rfl qP sX
  ·intro w' hS'
   (go_simp; exact ⟨rfl, rfl⟩)
  apply tkq 11 (v := (.bool res)) (by kernel_rfl) rfl qP sX
  ·intro w' hS'; rw [hres]; go_simp; exact ⟨rfl, rfl⟩
  apply tkq 12 (v := (.bool res)) (by kernel_rfl) rfl qP sX
  ·intro w' hS'
   (go_simp; exact ⟨rfl, rfl⟩)
  (try simp only [Act.put]); (try simp only [List.setIfInBounds_toArray]); (try simp only [List.set])
  refine dnL (by kernel_rfl) ?_ _
  obtain ⟨Y, hY⟩ : ∃ Y, Y = X.drew := ⟨_, rfl⟩
  have oY : Y.ownsRow w1.heap.size 21 1 (.slice (some ⟨g5, 0, none⟩) L c5) L ((flatR (o ++ [(p, q)])).map rv) := by rw [hY]; exact oX
  rw [← hY] at sX bD ⊢
  clear hY oX xX bX x1 x2 cqX frX
  have sD := bD.size
  by_cases hm : a ≤ q + 1
  ·have hres2 : res = true := by rw [hres]; exact decide_eq_true (by omega)
   subst hres2
   clear hres
   go_upto_region 13 with fail
   have sY : (Y.drew.cell? ⟨g5, L - 1, none⟩ = some (.int .i32 (q : Nat)) ∧ Y.drew.frozen? ⟨g5, L - 1, none⟩ = false) ∧ Y.drew.cell? ⟨wp.heap.size, 0, none⟩ = some (.int .i32 (a : Nat)) ∧ Y.drew.cell? ⟨wp.heap.size, 1, none⟩ = some (.int .i32 (b : Nat)) := sX
   refine rgQ (fun w' => (w'.cell? ⟨g5, L - 1, none⟩ = some (.int .i32 (q : Nat)) ∧ w'.frozen? ⟨g5, L - 1, none⟩ = false) ∧ w'.cell? ⟨wp.heap.size, 0, none⟩ = some (.int .i32 (a : Nat)) ∧ w'.cell? ⟨wp.heap.size, 1, none⟩ = some (.int .i32 (b : Nat))) 12 (by kernel_rfl) (fun _ _ d _ _ h => by cases d <;> exact h) fun qP => ?_
   apply tkq 0 (by kernel_rfl) rfl qP sY
   ·intro w' hS'; go_simp; exact ⟨rfl, rfl⟩
   apply tkq 1 (by kernel_rfl) rfl qP sY
   ·intro w' hS'; go_simp; exact ⟨rfl, rfl⟩
   apply tkq 2 (v := (.int .i64 ((L - 1 : Nat) : Int))) (by kernel_rfl) rfl qP sY
   ·intro w' hS'
    (go_simp; exact ⟨rfl, rfl⟩)
   apply tkq 3 (by kernel_rfl) rfl qP sY
   ·intro w' hS'; go_simp; exact ⟨rfl, rfl⟩
   apply tkq 4 (by kernel_rfl) rfl qP sY
   ·intro w' hS'; go_simp; exact ⟨rfl, rfl⟩
   apply tkq 5 (v := (.int .i64 ((L - 1 : Nat) : Int))) (by kernel_rfl) rfl qP sY
   ·intro w' hS'
    (go_simp; exact ⟨rfl, rfl⟩)
   apply tkq 6 (v := (.pointer (some ⟨g5, L - 1, none⟩))) (by kernel_rfl) rfl qP sY
   ·intro w' hS'
    (go_simp; exact ⟨rfl, rfl⟩)
   apply tkq 7 (v := (.int .i32 (q : Nat))) (by kernel_rfl) rfl qP sY
   ·intro w' hS'; have k1 := hS'.1.1; go_simp; exact ⟨rfl, rfl⟩
   apply tkq 8 (by kernel_rfl) rfl qP sY
   ·intro w' hS'; go_simp; exact ⟨rfl, rfl⟩
   apply tkq 9 (v := (.int .i32 (b : Nat))) (by kernel_rfl) rfl qP sY
   ·intro w' hS'; have k1 := hS'.2.2; go_simp; exact ⟨rfl, rfl⟩
   apply tkq 10 (v := (.int .i32 ((max q b : Nat) : Int))) (by kernel_rfl) rfl qP sY
   ·intro w' hS'
    (go_simp; exact ⟨congrArg (Value.int .i32) (by omega), rfl⟩)
   apply tkq 11 (v := (.pointer (some ⟨g5, L - 1, none⟩))) (by kernel_rfl) rfl qP sY
   ·intro w' hS'
    (go_simp; exact ⟨rfl, rfl⟩)
   (try simp only [Act.put]); (try simp only [List.setIfInBounds_toArray]); (try simp only [List.set])
   have cs := sY.1.1
   have fs := sY.1.2
   refine rnL 12 (by kernel_rfl) rfl (by kernel_rfl) (fun K hK => ?_)
   go_simp
   refine hK _ _ (fun h => absurd rfl h) ?_
   clear hK K cs fs sY sX
   (try simp only [Act.put])
   refine dnL (by kernel_rfl) ?_ _
   have hst2 := Hst.out
   rw [stepI_snoc, if_pos hm] at hst2
   have own2 := (oY.stored (L - 1) (.int .i32 ((max q b : Nat) : Int))).1
   have eset : ((flatR (o ++ [(p, q)])).map rv).set (L - 1) (.int .i32 ((max q b : Nat) : Int)) = (flatR (o ++ [(p, max q b)])).map rv := by
    have e1 := HL2.out
    exact flat_set (by omega)
   rw [eset] at own2
   have eL : (flatR (o ++ [(p, max q b)])).length = L := by rw [flat_length]; have := HL2.out; simp; omega
   have own3 : ((Y.setCell ⟨g5, L - 1, none⟩ (.int .i32 ((max q b : Nat) : Int))).drew).ownsRow w1.heap.size 21 1 (.slice (some ⟨g5, 0, none⟩) L c5) (flatR (o ++ [(p, max q b)])).length ((flatR (o ++ [(p, max q b)])).map rv) := by rw [eL]; exact own2
   have b3 : Below w1.heap.size w1 (Y.setCell ⟨g5, L - 1, none⟩ (.int .i32 ((max q b : Nat) : Int))).drew := (bD.setCell (p := ⟨g5, L - 1, none⟩) hg5a _).drew
   have HS2 := Lh hst2; have HO3 := Lh own3; have HB3 := Lh b3
   have hbn : ∀ x ∈ o ++ [(p, max q b)], x.1 ≤ 1114111 ∧ x.2 ≤ 1114111 := fun x hx => by
    rcases List.mem_append.1 hx with hx | hx
    ·exact hbnd.out x (by simp [hx])
    rw [List.mem_singleton.1 hx]; exact ⟨hp1, by simp only; omega⟩
   have HBN := Lh hbn
   clear hst2 own2 own3 eset eL b3 hbn oY bD
   go_wp2
   go_roundw
   case rel => exact ⟨k + 1, o ++ [(p, max q b)], by omega, rfl, HO3.out, by simp; omega, HS2, HBN, HB3.out⟩
   case measure => simp [intOf]; omega
  have hres2 : res = false := by rw [hres]; exact decide_eq_false (by omega)
  subst hres2
  clear hres
  have y1 := sX.2.1
  have y2 := sX.2.2
  have hst2 := Hst.out
  rw [stepI_snoc, if_neg hm] at hst2
  have HS2 := Lh hst2
  clear hst2 sX
  go_wp2_with (at_builtin; refine wpList_app _ rfl runeE rfl rfl (oY.alloc _) rfl (row_new Y _ [_, _]) (by simp [Value.oneCell']) (by first | omega | (simp; omega) | (simp; done)) (by simp; omega) ?_; intro v4 w4 hown4 hg4 hb4 _)
  have b4 : Below w1.heap.size w1 w4 := (bD.alloc sD _).trans hb4
  have own4 : w4.ownsRow w1.heap.size 21 1 v4 (flatR (o ++ [(p, q)] ++ [(a, b)])).length ((flatR (o ++ [(p, q)] ++ [(a, b)])).map rv) := by
   rw [flat_app (o ++ [(p, q)]), List.length_append, List.map_append, HL.out]
   exact hown4
  have hbn : ∀ x ∈ o ++ [(p, q)] ++ [(a, b)], x.1 ≤ 1114111 ∧ x.2 ≤ 1114111 := fun x hx => by
   rcases List.mem_append.1 hx with hx | hx
   ·exact hbnd.out x hx
   rw [List.mem_singleton.1 hx]; exact ⟨ha, hb⟩
  have HBN := Lh hbn
  clear hbn hown4
  go_roundw
  case rel => exact ⟨k + 1, o ++ [(p, q)] ++ [(a, b)], by omega, rfl, own4, by simp; omega, HS2, HBN, b4⟩
  case measure => simp [intOf]; omega
 have z1 : ¬ (k : Int) < (N : Int) := by omega
 have hN := HN.out
 have hfo := hfold.out
 rw [List.take_of_length_le (by omega)] at hfo
 have hout : out = mergeI (sortR P) := by rw [← hfo]; exact HF.out
 have hw : Below w.heap.size w wp := hb1.trans (hbel2.mono hs2)
 have own2 := own_mono hown hs2
 rw [hout] at own2
 have HO := Lh own2
 have HE := Lh hout
 clear own2 hout hfo hN hfold hown
 go_wp2
 go_ret
 refine ⟨.slice A5 (flatR out).length c5, rfl, ?_, hw⟩
 rw [HE.out]
 exact HO.out
end Go.Proofs.YtecejnilajbdpaaGreatDoor
