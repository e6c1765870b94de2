import Derived.Test.YtecejnilajbdpaaGreatDoorTz23
set_option maxRecDepth 100000
set_option maxHeartbeats 16000000
namespace Garner
open Go
theorem stepC_no {P : List (Nat × Nat)} {nt : Bool} {out : List (Nat × Nat)} {a b : Nat} (h : a = b ∨ hasB P a = nt) : stepC P nt out a b = out := if_pos h
theorem stepC_nil {P : List (Nat × Nat)} {nt : Bool} {a b : Nat} (h : ¬ (a = b ∨ hasB P a = nt)) : stepC P nt [] a b = [(a, b - 1)] := by
 unfold stepC
 rw [if_neg h]; rfl
theorem stepC_snoc {P : List (Nat × Nat)} {nt : Bool} {o : List (Nat × Nat)} {p q a b : Nat} (h : ¬ (a = b ∨ hasB P a = nt)) : stepC P nt (o ++ [(p, q)]) a b = if q + 1 = a then o ++ [(p, b - 1)] else o ++ [(p, q)] ++ [(a, b - 1)] := by
 unfold stepC
 rw [if_neg h, List.getLast?_concat]
 simp
end Garner
namespace Go.Proofs.YtecejnilajbdpaaGreatDoor
open Go.RowKit Garner
theorem own_setQ {w : World} {B : Nat} {e : TypeId} {sz n c q j : Nat} {xs : List Value} {u : Value} (h : w.ownsRow B e sz (.slice (some ⟨q, 0, none⟩) n c) n xs) : (w.setCell ⟨q, j, none⟩ u).ownsRow B e sz (.slice (some ⟨q, 0, none⟩) n c) n (xs.set j u) := by
 obtain ⟨h1, h2⟩ := h
 refine ⟨by rw [List.length_set]; exact h1, ?_⟩
 rcases h2 with ⟨e1, _⟩ | ⟨g, cap, cur, e1, hB, hh, hc, hm, hs, hp⟩
 ·cases e1
 injection e1 with e2 e3 e4
 simp only [Option.some.injEq, Addr.mk.injEq, and_true] at e2
 subst e2; subst e4
 refine Or.inr ⟨q, c, cur.set! j u, rfl, hB, ?_, hc, hm, by simpa using hs, ?_⟩
 ·simp [World.setCell, Array.getElem?_modify, hh]
 simp only [Array.set!_eq_setIfInBounds, Array.toList_setIfInBounds, List.take_set, hp]
theorem belowN {B : Nat} {a w : World} (h : Below B a w) (n : Nat) : Below B a (w.drewN n) := ⟨h.os, h.tape, h.output, h.size, h.block⟩
theorem own_lit2 (w : World) (B : Nat) (e : TypeId) (x y : Value) (hB : B ≤ w.heap.size) : (w.alloc (.cells #[x, y] e)).ownsRow B e 1 (.slice (some ⟨w.heap.size, 0, none⟩) 2 2) 2 [x, y] :=
 ⟨rfl, .inr ⟨w.heap.size, 2, #[x, y], rfl, hB, heap_alloc_new w _, Nat.le_refl _, by unfold maxLen; omega, rfl, rfl⟩⟩
theorem qClean (P : List (Nat × Nat)) (nt : Bool) (A : Option Addr) (c n : Nat) (w : World) (hn : n = 2 * P.length) (hr : RowT w 21 A n ((flatR P).map rv)) (hP : ∀ p ∈ P, p.1 ≤ p.2 ∧ p.2 ≤ 1114111) (hl : P.length ≤ 1000) (RES : List (Nat × Nat)) (hRES : (if nt = true then othersGo 0 (mergeI (sortR P)) else mergeI (sortR P)) = RES) :
  Calls Tryz.prog 203 #[.slice A n c, .bool nt] w fun e w' => ∃ v, e = .returned v ∧ w'.ownsRow w.heap.size 21 1 v (flatR RES).length ((flatR RES).map rv) ∧ Below w.heap.size w w' := by
 have HR := Lh hRES; clear hRES
 have Hn := Lh hn; clear hn
 go_enter Tryz.func203, Tryz.ntmps203
 go_wp2
 go_loopw [5, 6] (fun v i wr => ∃ (k j : Nat), Hid (j = 2 * k) ∧ k ≤ P.length ∧ i = .int .i64 j ∧ wr.ownsRow w.heap.size 21 1 v (2 + j) ((cutsP (P.take k)).map rv) ∧ Below w.heap.size w wr) (fun _ i _ => 2 * P.length - (intOf i).toNat)
 case atStart => exact ⟨0, 0, Lh rfl, Nat.zero_le _, rfl, own_lit2 w _ _ _ _ (Nat.le_refl _), (Below.refl _ _).alloc (Nat.le_refl _) _⟩
 obtain ⟨k, j, hj, hk, rfl, hown, hbel⟩ := hrel
 obtain ⟨A3, c3, rfl, hc3⟩ := own_form hown
 obtain ⟨wo, rfl⟩ : ∃ wo : World, wo = wr := ⟨_, rfl⟩
 have hs0 := hbel.size
 have hjn := hj.out
 have hnn := Hn.out
 by_cases hlt : k < P.length
 ·obtain ⟨⟨a, b⟩, hp⟩ : ∃ p, P[k]? = some p := ⟨_, List.getElem?_eq_getElem hlt⟩
  have hab := hP _ (List.mem_of_getElem? hp)
  simp only at hab
  obtain ⟨hab1, hab2⟩ := hab
  obtain ⟨f1, f2⟩ := flat_at hp
  have htf := cutsP_take hp
  obtain ⟨bb, off, cs, z, rfl, hbk, hc⟩ := hr.2 (by omega)
  have hbw : bb < w.heap.size := (Array.getElem?_eq_some_iff.1 hbk).1
  have cf : ∀ W, Below w.heap.size w W → W.cell? ⟨bb, off + j, none⟩ = some (.int .i32 (a : Nat)) ∧ W.cell? ⟨bb, off + (j + 1), none⟩ = some (.int .i32 (b : Nat)) := fun W hW => by
   have e : W.heap[bb]? = w.heap[bb]? := hW.block bb hbw
   constructor
   ·simp only [World.cell?, e, hbk]
    rw [hjn]
    exact hc _ _ (by rw [List.getElem?_map, f1]; rfl)
   simp only [World.cell?, e, hbk]
   rw [hjn]
   exact hc _ _ (by rw [List.getElem?_map, f2]; rfl)
  have Hcf := Lh cf; clear cf
  have z1 : (j : Int) < (n : Int) := by omega
  have z2 : ((j + 1 : Nat) : Int) < (n : Int) := by omega
  have z3 : (j : Int) + 1 < (n : Int) := by omega
  have w1 := wS j (by omega)
  have w2 : IntKind.i64.wrap ((j : Int) + 2) = ((j + 2 : Nat) : Int) := by rw [IntKind.wrap_i64]; omega
  have w3 : IntKind.i32.wrap ((b : Int) + 1) = (b : Int) + 1 := by rw [IntKind.wrap_i32]; omega
  have hmes : j < n := by omega
  have hj2 : j ≤ 2000 := by omega
  have Htf := Lh htf; have Hjn := Lh hjn; have Hnn := Lh hnn
  clear htf hjn hnn f1 f2 hc hbk hp
  go_upto_region 5 with fail
  have sS : Below w.heap.size w wo.drew := hbel.drew
  refine rgQ (fun w' => Below w.heap.size w w') 100 (by kernel_rfl) (fun _ _ d _ _ h => by cases d <;> exact h) fun qP => ?_
  apply tkq 0 (by kernel_rfl) rfl qP sS
  ·intro w' hS'; go_simp; exact ⟨rfl, rfl⟩
  apply tkq 1 (by kernel_rfl) rfl qP sS
  ·intro w' hS'; go_simp; exact ⟨rfl, rfl⟩
  apply tkq 2 (by kernel_rfl) rfl qP sS
  ·intro w' hS'; go_simp; exact ⟨rfl, rfl⟩
  apply tkq 3 (v := (.pointer (some ⟨bb, off + j, none⟩))) (by kernel_rfl) rfl qP sS
  ·intro w' hS'
   (go_simp; exact ⟨rfl, rfl⟩)
  apply tkq 4 (v := (.int .i32 (a : Nat))) (by kernel_rfl) rfl qP sS
  ·intro w' hS'; have hk1 := (Hcf.out w' hS').1; go_simp; exact ⟨rfl, rfl⟩
  apply tkq 5 (by kernel_rfl) rfl qP sS
  ·intro w' hS'; go_simp; exact ⟨rfl, rfl⟩
  apply tkq 6 (by kernel_rfl) rfl qP sS
  ·intro w' hS'; go_simp; exact ⟨rfl, rfl⟩
  apply tkq 7 (v := (.int .i64 ((j + 1 : Nat) : Int))) (by kernel_rfl) rfl qP sS
  ·intro w' hS'
   (go_simp; exact ⟨rfl, rfl⟩)
  apply tkq 8 (v := (.pointer (some ⟨bb, off + (j + 1), none⟩))) (by kernel_rfl) rfl qP sS
  ·intro w' hS'
   (go_simp; exact ⟨rfl, rfl⟩)
  apply tkq 9 (v := (.int .i32 (b : Nat))) (by kernel_rfl) rfl qP sS
  ·intro w' hS'; have hk1 := (Hcf.out w' hS').2; go_simp; exact ⟨rfl, rfl⟩
  apply tkq 10 (v := (.int .i32 ((b : Int) + 1))) (by kernel_rfl) rfl qP sS
  ·intro w' hS'
   (go_simp; exact ⟨rfl, rfl⟩)
  (try simp only [Act.put]); (try simp only [List.setIfInBounds_toArray]); (try simp only [List.set])
  refine rnL 11 (by kernel_rfl) rfl (by kernel_rfl) (fun K hK => ?_)
  go_simp
  obtain ⟨Y, hY⟩ : ∃ Y, Y = (wo.alloc (.cells #[.int .i32 (a : Nat), .int .i32 ((b : Int) + 1)] 21)).drew := ⟨_, rfl⟩
  rw [← hY]
  have bY : Below w.heap.size w Y := by rw [hY]; exact (hbel.alloc hs0 _).drew
  have oY : Y.ownsRow w.heap.size 21 1 (.slice A3 (2 + j) c3) (2 + j) ((cutsP (P.take k)).map rv) := by rw [hY]; exact (hown.alloc _)
  have rowY : Row Y (wo.heap.size + 1) 1 (some ⟨wo.heap.size, 0, none⟩) 2 [.int .i32 (a : Nat), .int .i32 ((b : Int) + 1)] := by
   rw [hY]; exact (row_new wo 21 [.int .i32 (a : Nat), .int .i32 ((b : Int) + 1)]).drew
  clear hY
  refine hK _ _ (fun _ => bY) ?_
  clear hK K
  (try simp only [Act.put]); (try simp only [List.setIfInBounds_toArray]); (try simp only [List.set])
  refine rnL 12 (by kernel_rfl) rfl (by kernel_rfl) (fun K hK => ?_)
  refine wp_app Y runeE rfl rfl oY rfl rowY (by simp [Value.oneCell']) (by omega) bY.size ?_
  intro v W q hg6 hb6 hv6
  have bW : Below w.heap.size w W := bY.trans hb6
  refine hK _ _ (fun _ => bW) ?_
  clear hK K
  (try simp only [Act.put]); (try simp only [List.setIfInBounds_toArray]); (try simp only [List.set])
  refine rnL 13 (by kernel_rfl) rfl (by kernel_rfl) (fun K hK => ?_)
  go_simp
  refine hK _ _ (fun _ => bW) ?_
  clear hK K
  (try simp only [Act.put]); (try simp only [List.setIfInBounds_toArray]); (try simp only [List.set])
  refine dnL (by kernel_rfl) ?_ _
  have qf : W.ownsRow w.heap.size 21 1 v (2 + (j + 2)) ((cutsP (P.take (k + 1))).map rv) := by
   rw [Htf.out, List.map_append]
   exact q
  go_wp2
  go_roundw
  case rel => exact ⟨k + 1, j + 2, Lh (by have := Hjn.out; omega), by omega, rfl, qf, bW⟩
  case measure => simp [intOf]; have := Hnn.out; omega
 have z3 : ¬ (j : Int) + 1 < (n : Int) := by omega
 have w1 : IntKind.i64.wrap ((j : Int) + 1) = (j : Int) + 1 := by rw [IntKind.wrap_i64]; omega
 obtain rfl : k = P.length := by omega
 rw [List.take_length] at hown
 obtain ⟨L0, hL0⟩ : ∃ L0, cutsP P = L0 := ⟨_, rfl⟩
 obtain ⟨N, hN⟩ : ∃ N, 2 + j = N := ⟨_, rfl⟩
 rw [hL0, hN] at hown
 rw [hN] at hc3
 have hLN : L0.length = N := by rw [← hL0, cutsP_len]; omega
 have hN2 : 2 ≤ N ∧ N ≤ 2002 := by omega
 obtain ⟨g, rfl, hg1, hg2, hg3, hg4, -⟩ := own_at hown (by omega)
 have HL := Lh hLN; have HL0 := Lh hL0; have HN := Lh hN
 obtain ⟨hN2, hN3⟩ := hN2
 clear hLN hL0 hjn hnn hj
 have zN : ¬ ((j : Int) + 1 < (n : Int)) := z3
 rw [hN]
 go_wp2
 go_loopw [7] (fun i wr => ∃ k : Nat, k + 1 ≤ N ∧ i = .int .i64 ((k : Int) + 1) ∧ wr.ownsRow w.heap.size 21 1 (.slice (some ⟨g, 0, none⟩) N c3) N ((sortC k L0).map rv) ∧ Below w.heap.size w wr) (fun i _ => N - (intOf i).toNat)
 case atStart => exact ⟨0, by omega, rfl, hown, hbel⟩
 obtain ⟨k, hk, rfl, hown, hbel⟩ := hrel
 obtain ⟨wo, rfl⟩ : ∃ wo : World, wo = wr := ⟨_, rfl⟩
 by_cases hlt : k + 1 < N
 ·have lt1 : (k : Int) + 1 < (N : Int) := by omega
  have w1 : IntKind.i64.wrap ((k : Int) + 1 + 1) = (k : Int) + 1 + 1 := by rw [IntKind.wrap_i64]; omega
  go_wp2
  go_loopw [8] (fun i wr => ∃ (j : Nat) (ys : List Nat), j ≤ k + 1 ∧ i = .int .i64 j ∧ ys.length = N ∧ Hid (downC j ys = sortC (k + 1) L0) ∧ wr.ownsRow w.heap.size 21 1 (.slice (some ⟨g, 0, none⟩) N c3) N (ys.map rv) ∧ Below w.heap.size w wr) (fun i _ => (intOf i).toNat)
  case atStart => exact ⟨k + 1, sortC k L0, Nat.le_refl _, by simp, by rw [sortC_len, HL.out], Lh rfl, hown, hbel⟩
  obtain ⟨j, ys, hj, rfl, hyl, hid, hown2, hbel2⟩ := hrel
  obtain ⟨wp, rfl⟩ : ∃ wp : World, wp = wr := ⟨_, rfl⟩
  have hfz := hown2.frozenAt
  obtain ⟨g', hg', -, hg2', -, -, hcell⟩ := own_at hown2 (by omega)
  cases hg'
  cases j with
  | zero =>
   have hd : decide ((0 : Int) > 0) = false := rfl
   go_upto_region 10 with fail
   go_quiet (fail)
   go_wp2
   refine ⟨⟨k + 1, by omega, by simp, ?_, belowN hbel2 _⟩, by simp [intOf]; omega⟩
   rw [← hid.out]; exact hown2
  | succ j =>
   obtain ⟨x1, hx1⟩ : ∃ x1, x1 = ys[j + 1]?.getD 0 := ⟨_, rfl⟩
   obtain ⟨x0, hx0⟩ : ∃ x0, x0 = ys[j]?.getD 0 := ⟨_, rfl⟩
   have c1 : wp.cell? ⟨g, j + 1, none⟩ = some (.int .i32 (x1 : Int)) := by
    rw [hcell _ (by omega), List.getElem?_map, List.getElem?_eq_getElem (by omega), hx1, List.getElem?_eq_getElem (by omega)]; rfl
   have c0 : wp.cell? ⟨g, j, none⟩ = some (.int .i32 (x0 : Int)) := by
    rw [hcell _ (by omega), List.getElem?_map, List.getElem?_eq_getElem (by omega), hx0, List.getElem?_eq_getElem (by omega)]; rfl
   clear hcell
   have w2 : IntKind.i64.wrap ((j : Int) + 1 - 1) = (j : Int) := by rw [IntKind.wrap_i64]; omega
   have l1 : (j : Int) + 1 < (N : Int) := by omega
   have l0 : (j : Int) < (N : Int) := by omega
   have p1 : (0 : Int) < (j : Int) + 1 := by omega
   have f1 := hfz (j + 1)
   have f0 := hfz j
   clear hfz
   have Hx1 := Lh hx1; clear hx1
   have Hx0 := Lh hx0; clear hx0
   by_cases hlt2 : x1 < x0
   ·have hd : decide ((x0 : Int) > (x1 : Int)) = true := decide_eq_true (by omega)
    go_upto_region 10 with fail
    go_quiet (fail)
    go_wp2
    refine ⟨⟨j, swapC ys j, by omega, rfl, by rw [swapC_len, hyl], Lh ?_, ?_, ?_⟩, by simp [intOf]⟩
    ·rw [← hid.out, downC, if_pos (by rw [← Hx1.out, ← Hx0.out]; exact hlt2)]
    ·have e1 : (swapC ys j).map rv = ((ys.map rv).set (j + 1) (.int .i32 (x0 : Int))).set j (.int .i32 (x1 : Int)) := by
      unfold swapC; rw [List.map_set, List.map_set, ← Hx1.out, ← Hx0.out]; rfl
     rw [e1]
     exact own_setQ (own_setQ hown2)
    exact (((belowN hbel2 _).setCell (p := ⟨g, j + 1, none⟩) hg1 _).setCell (p := ⟨g, j, none⟩) hg1 _)
   have hd : decide ((x0 : Int) > (x1 : Int)) = false := decide_eq_false (by omega)
   go_upto_region 10 with fail
   go_quiet (fail)
   go_wp2
   refine ⟨⟨k + 1, by omega, by simp, ?_, belowN hbel2 _⟩, by simp [intOf]; omega⟩
   rw [← hid.out, downC, if_neg (by rw [← Hx1.out, ← Hx0.out]; exact hlt2)]; exact hown2
 obtain rfl : N = k + 1 := by omega
 have lt1 : ¬ (k : Int) + 1 < ((k + 1 : Nat) : Int) := by omega
 have hu := sortC_up k L0 (by rw [HL.out]; omega)
 have hsl := sortC_len k L0
 have hmm : ∀ c, c ∈ sortC k L0 ↔ c ∈ cutsP P := fun c => by rw [HL0.out]; exact mem_sortC k L0 (by rw [HL.out]; omega) c
 have hlaw := clean_law hP nt (sortC k L0) k (by rw [hsl, HL.out]) hu hmm
 rw [HR.out] at hlaw
 have hall : ∀ i, i < k + 1 → (sortC k L0)[i]?.getD 0 ≤ 1114112 := fun i hi => cutsP_le hP _ ((hmm _).1 (mem_getD.2 ⟨i, by rw [hsl, HL.out]; exact hi, rfl⟩))
 obtain ⟨L, hL⟩ : ∃ L, sortC k L0 = L := ⟨_, rfl⟩
 rw [hL] at hlaw hall hu hsl hown
 rw [HL.out] at hsl
 obtain ⟨g', hg', -, hgw, -, -, hcell⟩ := own_at hown (by omega)
 cases hg'
 have hcp : ∀ i, i < k + 1 → wo.cell? ⟨g, i, none⟩ = some (.int .i32 ((L[i]?.getD 0 : Nat) : Int)) := fun i hi => by
  rw [hcell _ (by omega), List.getElem?_map, List.getElem?_eq_getElem (by rw [hsl]; exact hi)]; rfl
 have hr3 := hr.below hbel
 have Hcp := Lh hcp; have Hall := Lh hall; have Hu := Lh hu; have Hlaw := Lh hlaw; have Hr3 := Lh hr3
 have hs1 := hbel.size
 clear hcp hall hu hlaw hr3 hcell hsl hL hmm hown
 go_wp2
 go_loopw [10, 11] (fun v i wr => ∃ (m : Nat) (out : List (Nat × Nat)), m ≤ k ∧ i = .int .i64 m ∧ wr.ownsRow wo.heap.size 21 1 v (flatR out).length ((flatR out).map rv) ∧ out.length ≤ m ∧ Hid (cleanN P nt L m = out) ∧ Hid (∀ p ∈ out, p.1 ≤ 1114111 ∧ p.2 ≤ 1114111) ∧ Below wo.heap.size wo wr) (fun _ i _ => k - (intOf i).toNat)
 case atStart => exact ⟨0, [], Nat.zero_le _, rfl, World.ownsRow_nil _ _ _ _, Nat.le_refl _, Lh rfl, Lh (by simp), Below.refl _ _⟩
 obtain ⟨m, out, hm, rfl, hown5, hol, hfold, hbnd, hbel5⟩ := hrel
 obtain ⟨A5, c5, rfl, hc5⟩ := own_form hown5
 obtain ⟨wp, rfl⟩ : ∃ wp : World, wp = wr := ⟨_, rfl⟩
 have hs5 := hbel5.size
 have w1 : IntKind.i64.wrap ((m : Int) + 1) = (m : Int) + 1 := by rw [IntKind.wrap_i64]; omega
 by_cases hlt : m < k
 ·obtain ⟨a, ha⟩ : ∃ a, L[m]?.getD 0 = a := ⟨_, rfl⟩
  obtain ⟨b, hb⟩ : ∃ b, L[m + 1]?.getD 0 = b := ⟨_, rfl⟩
  have hst : cleanN P nt L (m + 1) = stepC P nt out a b := by rw [cleanN, hfold.out, ha, hb]
  have hab : a ≤ b := by have := Hu.out m (m + 1) (by omega) (by omega); omega
  have hbB : b ≤ 1114112 := by have := Hall.out (m + 1) (by omega); omega
  have cf : ∀ W, Below wo.heap.size wo W → W.cell? ⟨g, m, none⟩ = some (.int .i32 (a : Nat)) ∧ W.cell? ⟨g, m + 1, none⟩ = some (.int .i32 (b : Nat)) := fun W hW => by
   have h1 := Hcp.out m (by omega)
   have h2 := Hcp.out (m + 1) (by omega)
   rw [ha] at h1
   rw [hb] at h2
   exact ⟨(hW.cell (p := ⟨g, m, none⟩) hgw).trans h1, (hW.cell (p := ⟨g, m + 1, none⟩) hgw).trans h2⟩
  have Hcf := Lh cf; have Hst := Lh hst
  clear cf hst ha hb
  have z1 : (m : Int) + 1 < (k : Int) + 1 := by omega
  have z0 : (m : Int) < (k : Int) + 1 := by omega
  go_upto_region 19 with fail
  have sS : Below wo.heap.size wo wp.drew := hbel5.drew
  by_cases he : a = b
  ·subst he
   refine rgQ (fun w' => Below wo.heap.size wo w') 100 (by kernel_rfl) (fun _ _ d _ _ h => by cases d <;> exact h) fun qP => ?_
   apply tkq 0 (by kernel_rfl) rfl qP sS
   ·intro w' hS'; go_simp; exact ⟨rfl, rfl⟩
   apply tkq 1 (by kernel_rfl) rfl qP sS
   ·intro w' hS'; go_simp; exact ⟨rfl, rfl⟩
   apply tkq 2 (v := (.pointer (some ⟨g, m, none⟩))) (by kernel_rfl) rfl qP sS
   ·intro w' hS'
    (go_simp; exact ⟨rfl, rfl⟩)
   apply tkq 3 (v := (.int .i32 (a : Nat))) (by kernel_rfl) rfl qP sS
   ·intro w' hS'; have k1 := (Hcf.out w' hS').1; go_simp; exact ⟨rfl, rfl⟩
   apply tkq 4 (by kernel_rfl) rfl qP sS
   ·intro w' hS'; go_simp; exact ⟨rfl, rfl⟩
   apply tkq 5 (by kernel_rfl) rfl qP sS
   ·intro w' hS'; go_simp; exact ⟨rfl, rfl⟩
   apply tkq 6 (v := (.int .i64 ((m : Int) + 1))) (by kernel_rfl) rfl qP sS
   ·intro w' hS'
    (go_simp; exact ⟨rfl, rfl⟩)
   apply tkq 7 (v := (.pointer (some ⟨g, m + 1, none⟩))) (by kernel_rfl) rfl qP sS
   ·intro w' hS'
    (go_simp; exact ⟨rfl, rfl⟩)
   apply tkq 8 (v := (.int .i32 (a : Nat))) (by kernel_rfl) rfl qP sS
   ·intro w' hS'; have k1 := (Hcf.out w' hS').2; go_simp; exact ⟨rfl, rfl⟩
   apply tkq 9 (v := (.bool true)) (by kernel_rfl) rfl qP sS
   ·intro w' hS'
    (go_simp; exact ⟨rfl, rfl⟩)
   apply tkq 10 (by kernel_rfl) rfl qP sS
   ·intro w' hS'; go_simp; exact ⟨rfl, rfl⟩
   refine skq 11 (by kernel_rfl) rfl qP sS ?_
   refine skq 12 (by kernel_rfl) rfl qP sS ?_
   refine skq 13 (by kernel_rfl) rfl qP sS ?_
   refine skq 14 (by kernel_rfl) rfl qP sS ?_
   refine skq 15 (by kernel_rfl) rfl qP sS ?_
   refine skq 16 (by kernel_rfl) rfl qP sS ?_
   refine skq 17 (by kernel_rfl) rfl qP sS ?_
   refine skq 18 (by kernel_rfl) rfl qP sS ?_
   apply tkq 19 (v := (.bool true)) (by kernel_rfl) rfl qP sS
   ·intro w' hS'
    (go_simp; exact ⟨rfl, rfl⟩)
   (try simp only [Act.put]); (try simp only [List.setIfInBounds_toArray]); (try simp only [List.set])
   refine dnL (by kernel_rfl) ?_ _
   go_wp2
   go_roundw
   case rel => exact ⟨m + 1, out, by omega, rfl, hown5, by omega, Lh (by rw [Hst.out]; exact stepC_no (.inl rfl)), hbnd, hbel5.drew⟩
   case measure => simp [intOf]; omega
  have he' : ¬ (a : Int) = (b : Int) := by omega
  obtain ⟨hx, hhx⟩ : ∃ hx, hasB P a = hx := ⟨_, rfl⟩
  obtain ⟨res, hres⟩ : ∃ res : Bool, decide (hx = nt) = res := ⟨_, rfl⟩
  have hq : ∀ W, Below wo.heap.size wo W → Calls Tryz.prog 124 #[.slice A n c, .int .i32 (a : Nat)] W fun e w' => e = .returned (.bool hx) ∧ w' = W := fun W hW => by
   rw [← hhx]
   exact qHas P A c n a W Hn.out (Hr3.out.below hW) hl
  have Hq := Lh hq; clear hq
  refine rgQ (fun w' => Below wo.heap.size wo w') 100 (by kernel_rfl) (fun _ _ d _ _ h => by cases d <;> exact h) fun qP => ?_
  apply tkq 0 (by kernel_rfl) rfl qP sS
  ·intro w' hS'; go_simp; exact ⟨rfl, rfl⟩
  apply tkq 1 (by kernel_rfl) rfl qP sS
  ·intro w' hS'; go_simp; exact ⟨rfl, rfl⟩
  apply tkq 2 (v := (.pointer (some ⟨g, m, none⟩))) (by kernel_rfl) rfl qP sS
  ·intro w' hS'
   (go_simp; exact ⟨rfl, rfl⟩)
  apply tkq 3 (v := (.int .i32 (a : Nat))) (by kernel_rfl) rfl qP sS
  ·intro w' hS'; have k1 := (Hcf.out w' hS').1; go_simp; exact ⟨rfl, rfl⟩
  apply tkq 4 (by kernel_rfl) rfl qP sS
  ·intro w' hS'; go_simp; exact ⟨rfl, rfl⟩
  apply tkq 5 (by kernel_rfl) rfl qP sS
  ·intro w' hS'; go_simp; exact ⟨rfl, rfl⟩
  apply tkq 6 (v := (.int .i64 ((m : Int) + 1))) (by kernel_rfl) rfl qP sS
  ·intro w' hS'
   (go_simp; exact ⟨rfl, rfl⟩)
  apply tkq 7 (v := (.pointer (some ⟨g, m + 1, none⟩))) (by kernel_rfl) rfl qP sS
  ·intro w' hS'
   (go_simp; exact ⟨rfl, rfl⟩)
  apply tkq 8 (v := (.int .i32 (b : Nat))) (by kernel_rfl) rfl qP sS
  ·intro w' hS'; have k1 := (Hcf.out w' hS').2; go_simp; exact ⟨rfl, rfl⟩
  apply tkq 9 (v := (.bool false)) (by kernel_rfl) rfl qP sS
  ·intro w' hS'
   (go_simp; first | exact ⟨rfl, rfl⟩ | exact ⟨congrArg Value.bool (beq_eq_false_iff_ne.2 he'), rfl⟩)
  apply tkq 10 (by kernel_rfl) rfl qP sS
  ·intro w' hS'; go_simp; exact ⟨rfl, rfl⟩
  apply tkq 11 (by kernel_rfl) rfl qP sS
  ·intro w' hS'; go_simp; exact ⟨rfl, rfl⟩
  apply tkq 12 (by kernel_rfl) rfl qP sS
  ·intro w' hS'; go_simp; exact ⟨rfl, rfl⟩
  apply tkq 13 (by kernel_rfl) rfl qP sS
  ·intro w' hS'; go_simp; exact ⟨rfl, rfl⟩
  apply tkq 14 (v := (.pointer (some ⟨g, m, none⟩))) (by kernel_rfl) rfl qP sS
  ·intro w' hS'
   (go_simp; exact ⟨rfl, rfl⟩)
  apply tkq 15 (v := (.int .i32 (a : Nat))) (by kernel_rfl) rfl qP sS
  ·intro w' hS'; have k1 := (Hcf.out w' hS').1; go_simp; exact ⟨rfl, rfl⟩
  apply tkq 16 (v := (.bool hx)) (by kernel_rfl) rfl qP sS
  ·intro w' hS'
   (go_simp; exact ⟨rfl, Hq.out w' hS'⟩)
  apply tkq 17 (by kernel_rfl) rfl qP sS
  ·intro w' hS'; go_simp; exact ⟨rfl, rfl⟩
  apply tkq 18 (v := (.bool res)) (by kernel_rfl) rfl qP sS
  ·intro w' hS'
   (rw [← hres]; cases hx <;> cases nt <;> (go_simp; exact ⟨rfl, rfl⟩))
  apply tkq 19 (v := (.bool res)) (by kernel_rfl) rfl qP sS
  ·intro w' hS'
   (go_simp; exact ⟨rfl, rfl⟩)
  (try simp only [Act.put]); (try simp only [List.setIfInBounds_toArray]); (try simp only [List.set])
  refine dnL (by kernel_rfl) ?_ _
  by_cases hh : hx = nt
  ·obtain rfl : res = true := by rw [← hres]; exact decide_eq_true hh
   go_wp2
   go_roundw
   case rel => exact ⟨m + 1, out, by omega, rfl, hown5, by omega, Lh (by rw [Hst.out]; exact stepC_no (.inr (hhx.trans hh))), hbnd, hbel5.drew⟩
   case measure => simp [intOf]; omega
  obtain rfl : res = false := by rw [← hres]; exact decide_eq_false hh
  have hno : ¬ (a = b ∨ hasB P a = nt) := fun h => by
   rcases h with h | h
   ·exact he h
   exact hh (hhx.symm.trans h)
  have Hno := Lh hno
  clear hno hh hres Hq hhx
  have hfl := flat_length out
  obtain ⟨LL, hLL⟩ : ∃ LL, (flatR out).length = LL := ⟨_, rfl⟩
  rw [hLL] at hfl hown5 hc5 ⊢
  have HLL := Lh hLL; have Hfl := Lh hfl
  have hLb : LL ≤ 4100 := by omega
  have wb : IntKind.i32.wrap ((b : Int) - 1) = ((b - 1 : Nat) : Int) := by rw [IntKind.wrap_i32]; omega
  have wa : IntKind.i32.wrap ((a : Int) - 1) = (a : Int) - 1 := by rw [IntKind.wrap_i32]; omega
  clear hLL hfl
  by_cases hout : out = []
  ·subst hout
   obtain rfl : LL = 0 := by have := Hfl.out; simpa using this
   go_upto_region 20 with fail
   have sS2 : Below wo.heap.size wo wp.drew.drew := hbel5.drew.drew
   refine rgQ (fun w' => Below wo.heap.size wo w') 100 (by kernel_rfl) (fun _ _ d _ _ h => by cases d <;> exact h) fun qP => ?_
   apply tkq 0 (by kernel_rfl) rfl qP sS2
   ·intro w' hS'; go_simp; exact ⟨rfl, rfl⟩
   apply tkq 1 (v := (.int .i64 0)) (by kernel_rfl) rfl qP sS2
   ·intro w' hS'
    (go_simp; exact ⟨rfl, rfl⟩)
   apply tkq 2 (v := (.bool false)) (by kernel_rfl) rfl qP sS2
   ·intro w' hS'
    (go_simp; exact ⟨rfl, rfl⟩)
   apply tkq 3 (by kernel_rfl) rfl qP sS2
   ·intro w' hS'; go_simp; exact ⟨rfl, rfl⟩
   refine skq 4 (by kernel_rfl) rfl qP sS2 ?_
   refine skq 5 (by kernel_rfl) rfl qP sS2 ?_
   refine skq 6 (by kernel_rfl) rfl qP sS2 ?_
   refine skq 7 (by kernel_rfl) rfl qP sS2 ?_
   refine skq 8 (by kernel_rfl) rfl qP sS2 ?_
   refine skq 9 (by kernel_rfl) rfl qP sS2 ?_
   refine skq 10 (by kernel_rfl) rfl qP sS2 ?_
   refine skq 11 (by kernel_rfl) rfl qP sS2 ?_
   refine skq 12 (by kernel_rfl) rfl qP sS2 ?_
   refine skq 13 (by kernel_rfl) rfl qP sS2 ?_
   refine skq 14 (by kernel_rfl) rfl qP sS2 ?_
   refine skq 15 (by kernel_rfl) rfl qP sS2 ?_
   apply tkq 16 (v := (.bool false)) (by kernel_rfl) rfl qP sS2
   ·intro w' hS'
    (go_simp; exact ⟨rfl, rfl⟩)
   (try simp only [Act.put]); (try simp only [List.setIfInBounds_toArray]); (try simp only [List.set])
   refine dnL (by kernel_rfl) ?_ _
   obtain ⟨Y, hY⟩ : ∃ Y, Y = wp.drew.drew := ⟨_, rfl⟩
   have bY : Below wo.heap.size wo Y := by rw [hY]; exact hbel5.drew.drew
   have oY : Y.ownsRow wo.heap.size 21 1 (.slice A5 0 c5) 0 ((flatR []).map rv) := by rw [hY]; exact hown5
   rw [← hY]
   clear hY
   have sY := bY.size
   go_upto_region 22 with fail
   have sZ : Below wo.heap.size wo Y.drew := bY.drew
   refine rgQ (fun w' => Below wo.heap.size wo w') 100 (by kernel_rfl) (fun _ _ d _ _ h => by cases d <;> exact h) fun qP => ?_
   apply tkq 0 (by kernel_rfl) rfl qP sZ
   ·intro w' hS'; go_simp; exact ⟨rfl, rfl⟩
   apply tkq 1 (by kernel_rfl) rfl qP sZ
   ·intro w' hS'; go_simp; exact ⟨rfl, rfl⟩
   apply tkq 2 (by kernel_rfl) rfl qP sZ
   ·intro w' hS'; go_simp; exact ⟨rfl, rfl⟩
   apply tkq 3 (v := (.pointer (some ⟨g, m, none⟩))) (by kernel_rfl) rfl qP sZ
   ·intro w' hS'
    (go_simp; exact ⟨rfl, rfl⟩)
   apply tkq 4 (v := (.int .i32 (a : Nat))) (by kernel_rfl) rfl qP sZ
   ·intro w' hS'; have k1 := (Hcf.out w' hS').1; go_simp; exact ⟨rfl, rfl⟩
   apply tkq 5 (by kernel_rfl) rfl qP sZ
   ·intro w' hS'; go_simp; exact ⟨rfl, rfl⟩
   apply tkq 6 (by kernel_rfl) rfl qP sZ
   ·intro w' hS'; go_simp; exact ⟨rfl, rfl⟩
   apply tkq 7 (v := (.int .i64 ((m : Int) + 1))) (by kernel_rfl) rfl qP sZ
   ·intro w' hS'
    (go_simp; exact ⟨rfl, rfl⟩)
   apply tkq 8 (v := (.pointer (some ⟨g, m + 1, none⟩))) (by kernel_rfl) rfl qP sZ
   ·intro w' hS'
    (go_simp; exact ⟨rfl, rfl⟩)
   apply tkq 9 (v := (.int .i32 (b : Nat))) (by kernel_rfl) rfl qP sZ
   ·intro w' hS'; have k1 := (Hcf.out w' hS').2; go_simp; exact ⟨rfl, rfl⟩
   apply tkq 10 (v := (.int .i32 ((b - 1 : Nat) : Int))) (by kernel_rfl) rfl qP sZ
   ·intro w' hS'
    (go_simp; exact ⟨rfl, rfl⟩)
   (try simp only [Act.put]); (try simp only [List.setIfInBounds_toArray]); (try simp only [List.set])
   refine rnL 11 (by kernel_rfl) rfl (by kernel_rfl) (fun K hK => ?_)
   go_simp
   obtain ⟨Z, hZ⟩ : ∃ Z, Z = (Y.alloc (.cells #[.int .i32 (a : Nat), .int .i32 ((b - 1 : Nat) : Int)] 21)).drew := ⟨_, rfl⟩
   rw [← hZ]
   have bZ : Below wo.heap.size wo Z := by rw [hZ]; exact (bY.alloc sY _).drew
   have oZ : Z.ownsRow wo.heap.size 21 1 (.slice A5 0 c5) 0 ((flatR []).map rv) := by rw [hZ]; exact (oY.alloc _)
   have rowZ : Row Z (Y.heap.size + 1) 1 (some ⟨Y.heap.size, 0, none⟩) 2 [.int .i32 (a : Nat), .int .i32 ((b - 1 : Nat) : Int)] := by
    rw [hZ]; exact (row_new Y 21 [.int .i32 (a : Nat), .int .i32 ((b - 1 : Nat) : Int)]).drew
   clear hZ
   refine hK _ _ (fun _ => bZ) ?_
   clear hK K
   (try simp only [Act.put]); (try simp only [List.setIfInBounds_toArray]); (try simp only [List.set])
   refine rnL 12 (by kernel_rfl) rfl (by kernel_rfl) (fun K hK => ?_)
   refine wp_app Z runeE rfl rfl oZ rfl rowZ (by simp [Value.oneCell']) (by omega) bZ.size ?_
   intro v W q' hg6 hb6 hv6
   have bW : Below wo.heap.size wo W := bZ.trans hb6
   refine hK _ _ (fun _ => bW) ?_
   clear hK K
   (try simp only [Act.put]); (try simp only [List.setIfInBounds_toArray]); (try simp only [List.set])
   refine rnL 13 (by kernel_rfl) rfl (by kernel_rfl) (fun K hK => ?_)
   go_simp
   refine hK _ _ (fun _ => bW) ?_
   clear hK K
   (try simp only [Act.put]); (try simp only [List.setIfInBounds_toArray]); (try simp only [List.set])
   refine dnL (by kernel_rfl) ?_ _
   have qf : W.ownsRow wo.heap.size 21 1 v (flatR (([] : List (Nat × Nat)) ++ [(a, b - 1)])).length ((flatR (([] : List (Nat × Nat)) ++ [(a, b - 1)])).map rv) := by
    rw [flat_app, List.map_append, List.length_append, HLL.out]
    exact q'
   have hbn : ∀ x ∈ ([] : List (Nat × Nat)) ++ [(a, b - 1)], x.1 ≤ 1114111 ∧ x.2 ≤ 1114111 := fun x hx => by
    rcases List.mem_append.1 hx with hx | hx
    ·exact hbnd.out x hx
    rw [List.mem_singleton.1 hx]; exact ⟨by simp only; omega, by simp only; omega⟩
   have HBN := Lh hbn
   clear hbn
   go_wp2
   go_roundw
   case rel => exact ⟨m + 1, ([] : List (Nat × Nat)) ++ [(a, b - 1)], by omega, rfl, qf, by simp, Lh (by rw [Hst.out]; exact (stepC_nil Hno.out).trans rfl), HBN, bW⟩
   case measure => simp [intOf]; omega
  obtain ⟨o, ⟨p, q⟩, rfl⟩ : ∃ o x, out = o ++ [x] := by
   rcases List.eq_nil_or_concat out with h | ⟨o, x, h⟩
   ·exact absurd h hout
   exact ⟨o, x, by simpa using h⟩
  have hL2 : LL = 2 * o.length + 2 := by have := Hfl.out; simp at this; omega
  have hq := (hbnd.out (p, q) (by simp)).2
  have hp1 := (hbnd.out (p, q) (by simp)).1
  simp only at hq hp1
  obtain ⟨g5, rfl, hg5a, hg5b, -, -, hcq⟩ := own_at hown5 (by omega)
  have cq := hcq (LL - 1) (by omega)
  have eq1 : ((flatR (o ++ [(p, q)])).map rv)[LL - 1]? = some (.int .i32 (q : Nat)) := by
   have := (flat_at (l := o ++ [(p, q)]) (k := o.length) (p := (p, q)) (by simp)).2
   rw [List.getElem?_map, show LL - 1 = 2 * o.length + 1 by omega, this]; rfl
  rw [eq1] at cq
  have fq := hown5.frozenAt (LL - 1)
  have hol2 : o.length + 1 ≤ m := by simpa using hol
  have zL : (0 : Int) < (LL : Int) := by omega
  have wL : IntKind.i64.wrap ((LL : Int) - 1) = ((LL - 1 : Nat) : Int) := by rw [IntKind.wrap_i64]; omega
  have zL2 : ((LL - 1 : Nat) : Int) < (LL : Int) := by omega
  have HL2 := Lh hL2
  have Hcq := Lh cq; have Hfq := Lh fq
  clear hcq eq1 hL2 hout cq fq
  go_upto_region 20 with fail
  obtain ⟨res2, hres2⟩ : ∃ r : Bool, ((q : Int) == (a : Int) - 1) = r := ⟨_, rfl⟩
  have sS2 : Below wp.heap.size wp wp.drew.drew := (Below.refl _ _).drew.drew
  have mS : ∀ W, Below wp.heap.size wp W → Below wo.heap.size wo W := fun W hW => hbel5.trans (hW.mono hs5)
  refine rgQ (fun w' => Below wp.heap.size wp w') 100 (by kernel_rfl) (fun _ _ d _ _ h => by cases d <;> exact h) fun qP => ?_
  apply tkq 0 (by kernel_rfl) rfl qP sS2
  ·intro w' hS'; go_simp; exact ⟨rfl, rfl⟩
  apply tkq 1 (v := (.int .i64 (LL : Nat))) (by kernel_rfl) rfl qP sS2
  ·intro w' hS'
   (go_simp; exact ⟨rfl, rfl⟩)
  apply tkq 2 (v := (.bool true)) (by kernel_rfl) rfl qP sS2
  ·intro w' hS'
   (go_simp; exact ⟨congrArg Value.bool (decide_eq_true (by omega)), rfl⟩)
  apply tkq 3 (by kernel_rfl) rfl qP sS2
  ·intro w' hS'; go_simp; exact ⟨rfl, rfl⟩
  apply tkq 4 (by kernel_rfl) rfl qP sS2
  ·intro w' hS'; go_simp; exact ⟨rfl, rfl⟩
  apply tkq 5 (by kernel_rfl) rfl qP sS2
  ·intro w' hS'; go_simp; exact ⟨rfl, rfl⟩
  apply tkq 6 (by kernel_rfl) rfl qP sS2
  ·intro w' hS'; go_simp; exact ⟨rfl, rfl⟩
  apply tkq 7 (v := (.int .i64 ((LL - 1 : Nat) : Int))) (by kernel_rfl) rfl qP sS2
  ·intro w' hS'
   (go_simp; exact ⟨rfl, rfl⟩)
  apply tkq 8 (v := (.pointer (some ⟨g5, LL - 1, none⟩))) (by kernel_rfl) rfl qP sS2
  ·intro w' hS'
   (go_simp; exact ⟨rfl, rfl⟩)
  apply tkq 9 (v := (.int .i32 (q : Nat))) (by kernel_rfl) rfl qP sS2
  ·intro w' hS'; have k1 : w'.cell? ⟨g5, LL - 1, none⟩ = _ := (hS'.cell (p := ⟨g5, LL - 1, none⟩) hg5b).trans Hcq.out; go_simp; exact ⟨rfl, rfl⟩
  apply tkq 10 (by kernel_rfl) rfl qP sS2
  ·intro w' hS'; go_simp; exact ⟨rfl, rfl⟩
  apply tkq 11 (by kernel_rfl) rfl qP sS2
  ·intro w' hS'; go_simp; exact ⟨rfl, rfl⟩
  apply tkq 12 (v := (.pointer (some ⟨g, m, none⟩))) (by kernel_rfl) rfl qP sS2
  ·intro w' hS'
   (go_simp; exact ⟨rfl, rfl⟩)
  apply tkq 13 (v := (.int .i32 (a : Nat))) (by kernel_rfl) rfl qP sS2
  ·intro w' hS'; have k1 := (Hcf.out w' (mS _ hS')).1; go_simp; exact ⟨rfl, rfl⟩
  apply tkq 14 (v := (.int .i32 ((a : Int) - 1))) (by kernel_rfl) rfl qP sS2
  ·intro w' hS'
   (go_simp; exact ⟨rfl, rfl⟩)
  apply tkq 15 (v := (.bool res2)) (by kernel_rfl) rfl qP sS2
  ·intro w' hS'
   (go_simp; first | exact ⟨rfl, rfl⟩ | exact ⟨congrArg Value.bool hres2, rfl⟩)
  apply tkq 16 (v := (.bool res2)) (by kernel_rfl) rfl qP sS2
  ·intro w' hS'
   (go_simp; exact ⟨rfl, rfl⟩)
  (try simp only [Act.put]); (try simp only [List.setIfInBounds_toArray]); (try simp only [List.set])
  refine dnL (by kernel_rfl) ?_ _
  clear mS
  by_cases hj2 : q + 1 = a
  ·obtain rfl : res2 = true := by rw [← hres2]; exact beq_iff_eq.2 (by omega)
   obtain ⟨Y, hY⟩ : ∃ Y, Y = wp.drew.drew := ⟨_, rfl⟩
   have bY : Below wo.heap.size wo Y := by rw [hY]; exact hbel5.drew.drew
   have oY : Y.ownsRow wo.heap.size 21 1 (.slice (some ⟨g5, 0, none⟩) LL c5) LL ((flatR (o ++ [(p, q)])).map rv) := by rw [hY]; exact hown5
   have cq : Y.cell? ⟨g5, LL - 1, none⟩ = some (.int .i32 (q : Nat)) := by rw [hY]; exact Hcq.out
   have fq : Y.frozen? ⟨g5, LL - 1, none⟩ = false := by rw [hY]; exact Hfq.out
   rw [← hY]
   clear hY hres2
   obtain ⟨ca, cb⟩ := Hcf.out Y bY
   have hst2 := Hst.out
   rw [stepC_snoc Hno.out, if_pos hj2] at hst2
   have own2 := own_setQ (j := LL - 1) (u := .int .i32 ((b - 1 : Nat) : Int)) oY
   have eset : ((flatR (o ++ [(p, q)])).map rv).set (LL - 1) (.int .i32 ((b - 1 : Nat) : Int)) = (flatR (o ++ [(p, b - 1)])).map rv := by
    have e1 := HL2.out
    exact flat_set (by omega)
   rw [eset] at own2
   have eL : (flatR (o ++ [(p, b - 1)])).length = LL := by rw [flat_length]; have := HL2.out; simp; omega
   have own3 : (Y.setCell ⟨g5, LL - 1, none⟩ (.int .i32 ((b - 1 : Nat) : Int))).ownsRow wo.heap.size 21 1 (.slice (some ⟨g5, 0, none⟩) LL c5) (flatR (o ++ [(p, b - 1)])).length ((flatR (o ++ [(p, b - 1)])).map rv) := by rw [eL]; exact own2
   have b3 : Below wo.heap.size wo (Y.setCell ⟨g5, LL - 1, none⟩ (.int .i32 ((b - 1 : Nat) : Int))) := bY.setCell (p := ⟨g5, LL - 1, none⟩) hg5a _
   have HS2 := Lh hst2; have HO3 := Lh own3; have HB3 := Lh b3
   have hbn : ∀ x ∈ o ++ [(p, b - 1)], x.1 ≤ 1114111 ∧ x.2 ≤ 1114111 := fun x hx => by
    rcases List.mem_append.1 hx with hx | hx
    ·exact hbnd.out x (by simp [hx])
    rw [List.mem_singleton.1 hx]; exact ⟨hp1, by simp only; omega⟩
   have HBN := Lh hbn
   clear hst2 own2 own3 eset eL b3 hbn oY
   go_wp2
   go_roundw
   case rel => exact ⟨m + 1, o ++ [(p, b - 1)], by omega, rfl, HO3.out, by simp; omega, HS2, HBN, HB3.out⟩
   case measure => simp [intOf]; omega
  obtain rfl : res2 = false := by rw [← hres2]; exact beq_eq_false_iff_ne.2 (by omega)
  clear hres2
  obtain ⟨Y, hY⟩ : ∃ Y, Y = wp.drew.drew := ⟨_, rfl⟩
  have bY : Below wo.heap.size wo Y := by rw [hY]; exact hbel5.drew.drew
  have oY : Y.ownsRow wo.heap.size 21 1 (.slice (some ⟨g5, 0, none⟩) LL c5) LL ((flatR (o ++ [(p, q)])).map rv) := by rw [hY]; exact hown5
  rw [← hY]
  clear hY
  have sY := bY.size
  go_upto_region 22 with fail
  have sZ : Below wo.heap.size wo Y.drew := bY.drew
  refine rgQ (fun w' => Below wo.heap.size wo w') 100 (by kernel_rfl) (fun _ _ d _ _ h => by cases d <;> exact h) fun qP => ?_
  apply tkq 0 (by kernel_rfl) rfl qP sZ
  ·intro w' hS'; go_simp; exact ⟨rfl, rfl⟩
  apply tkq 1 (by kernel_rfl) rfl qP sZ
  ·intro w' hS'; go_simp; exact ⟨rfl, rfl⟩
  apply tkq 2 (by kernel_rfl) rfl qP sZ
  ·intro w' hS'; go_simp; exact ⟨rfl, rfl⟩
  apply tkq 3 (v := (.pointer (some ⟨g, m, none⟩))) (by kernel_rfl) rfl qP sZ
  ·intro w' hS'
   (go_simp; exact ⟨rfl, rfl⟩)
  apply tkq 4 (v := (.int .i32 (a : Nat))) (by kernel_rfl) rfl qP sZ
  ·intro w' hS'; have k1 := (Hcf.out w' hS').1; go_simp; exact ⟨rfl, rfl⟩
  apply tkq 5 (by kernel_rfl) rfl qP sZ
  ·intro w' hS'; go_simp; exact ⟨rfl, rfl⟩
  apply tkq 6 (by kernel_rfl) rfl qP sZ
  ·intro w' hS'; go_simp; exact ⟨rfl, rfl⟩
  apply tkq 7 (v := (.int .i64 ((m : Int) + 1))) (by kernel_rfl) rfl qP sZ
  ·intro w' hS'
   (go_simp; exact ⟨rfl, rfl⟩)
  apply tkq 8 (v := (.pointer (some ⟨g, m + 1, none⟩))) (by kernel_rfl) rfl qP sZ
  ·intro w' hS'
   (go_simp; exact ⟨rfl, rfl⟩)
  apply tkq 9 (v := (.int .i32 (b : Nat))) (by kernel_rfl) rfl qP sZ
  ·intro w' hS'; have k1 := (Hcf.out w' hS').2; go_simp; exact ⟨rfl, rfl⟩
  apply tkq 10 (v := (.int .i32 ((b - 1 : Nat) : Int))) (by kernel_rfl) rfl qP sZ
  ·intro w' hS'
   (go_simp; exact ⟨rfl, rfl⟩)
  (try simp only [Act.put]); (try simp only [List.setIfInBounds_toArray]); (try simp only [List.set])
  refine rnL 11 (by kernel_rfl) rfl (by kernel_rfl) (fun K hK => ?_)
  go_simp
  obtain ⟨Z, hZ⟩ : ∃ Z, Z = (Y.alloc (.cells #[.int .i32 (a : Nat), .int .i32 ((b - 1 : Nat) : Int)] 21)).drew := ⟨_, rfl⟩
  rw [← hZ]
  have bZ : Below wo.heap.size wo Z := by rw [hZ]; exact (bY.alloc sY _).drew
  have oZ : Z.ownsRow wo.heap.size 21 1 (.slice (some ⟨g5, 0, none⟩) LL c5) LL ((flatR (o ++ [(p, q)])).map rv) := by rw [hZ]; exact (oY.alloc _)
  have rowZ : Row Z (Y.heap.size + 1) 1 (some ⟨Y.heap.size, 0, none⟩) 2 [.int .i32 (a : Nat), .int .i32 ((b - 1 : Nat) : Int)] := by
   rw [hZ]; exact (row_new Y 21 [.int .i32 (a : Nat), .int .i32 ((b - 1 : Nat) : Int)]).drew
  clear hZ
  refine hK _ _ (fun _ => bZ) ?_
  clear hK K
  (try simp only [Act.put]); (try simp only [List.setIfInBounds_toArray]); (try simp only [List.set])
  refine rnL 12 (by kernel_rfl) rfl (by kernel_rfl) (fun K hK => ?_)
  refine wp_app Z runeE rfl rfl oZ rfl rowZ (by simp [Value.oneCell']) (by omega) bZ.size ?_
  intro v W q' hg6 hb6 hv6
  have bW : Below wo.heap.size wo W := bZ.trans hb6
  refine hK _ _ (fun _ => bW) ?_
  clear hK K
  (try simp only [Act.put]); (try simp only [List.setIfInBounds_toArray]); (try simp only [List.set])
  refine rnL 13 (by kernel_rfl) rfl (by kernel_rfl) (fun K hK => ?_)
  go_simp
  refine hK _ _ (fun _ => bW) ?_
  clear hK K
  (try simp only [Act.put]); (try simp only [List.setIfInBounds_toArray]); (try simp only [List.set])
  refine dnL (by kernel_rfl) ?_ _
  have qf : W.ownsRow wo.heap.size 21 1 v (flatR (o ++ [(p, q)] ++ [(a, b - 1)])).length ((flatR (o ++ [(p, q)] ++ [(a, b - 1)])).map rv) := by
   rw [flat_app, List.map_append, List.length_append, HLL.out]
   exact q'
  have hbn : ∀ x ∈ o ++ [(p, q)] ++ [(a, b - 1)], x.1 ≤ 1114111 ∧ x.2 ≤ 1114111 := fun x hx => by
   rcases List.mem_append.1 hx with hx | hx
   ·exact hbnd.out x hx
   rw [List.mem_singleton.1 hx]; exact ⟨by simp only; omega, by simp only; omega⟩
  have HBN := Lh hbn
  clear hbn
  go_wp2
  go_roundw
  case rel => exact ⟨m + 1, o ++ [(p, q)] ++ [(a, b - 1)], by omega, rfl, qf, by simp; omega, Lh (by rw [Hst.out]; exact (stepC_snoc Hno.out).trans (if_neg hj2)), HBN, bW⟩
  case measure => simp [intOf]; omega
 obtain rfl : m = k := by omega
 have z1 : ¬ (m : Int) + 1 < (m : Int) + 1 := by omega
 go_wp2
 go_ret
 refine ⟨_, rfl, ?_, hbel.trans (hbel5.mono hs1)⟩
 rw [← Hlaw.out, hfold.out]
 exact own_mono hown5 hs1
end Go.Proofs.YtecejnilajbdpaaGreatDoor
