import Derived.Test.YtecejnilajbdpaaGreatDoorTz22
set_option maxRecDepth 100000
set_option maxHeartbeats 16000000
namespace Go.Proofs.YtecejnilajbdpaaGreatDoor
open Go.RowKit Garner
theorem NodesIs.node {F : Nat → Prop} {w : World} {B c k : Nat} {A : Option Addr} {ns : List NodeP} {n : NodeP} (h : NodesIs F w B (.slice A ns.length c) ns) (hk : ns[k]? = some n) : ∃ g d, A = some ⟨g, 0, none⟩ ∧ NodeD.n d = n ∧ NodeOk F w d ∧ g < w.heap.size ∧ ∀ j, j < 5 → w.cell? ⟨g, k * 5 + j, none⟩ = (NodeD.cells d)[j]? := by
 obtain ⟨ds, hds, hown, hok⟩ := h
 obtain ⟨hlt, -⟩ := List.getElem?_eq_some_iff.1 hk
 obtain ⟨g, rfl, -, hg, -, -, hc⟩ := own_at hown (by omega)
 have hk' := hk
 rw [← hds, List.getElem?_map] at hk'
 cases hd : ds[k]? with
 | none => rw [hd] at hk'; cases hk'
 | some d =>
  rw [hd] at hk'
  injection hk' with e
  exact ⟨g, d, rfl, e, hok d (List.mem_of_getElem? hd), hg, fun j hj => by rw [hc (k * 5 + j) (by omega), cells_at hd j hj]⟩
def AtN (ns : List NodeP) (b : Nat) (l : List NodeP) : Prop := ∀ k n, l[k]? = some n → ns[b + k]? = some n
theorem AtN.left {ns l m : List NodeP} {b : Nat} (h : AtN ns b (l ++ m)) : AtN ns b l := fun k n hk => h k n (by
 rw [List.getElem?_append_left (List.getElem?_eq_some_iff.1 hk).1]; exact hk)
theorem AtN.right {ns l m : List NodeP} {b n : Nat} (h : AtN ns b (l ++ m)) (hn : l.length = n) : AtN ns (b + n) m := fun k x hk => by
 have := h (n + k) x (by rw [List.getElem?_append_right (by omega), hn, Nat.add_sub_cancel_left]; exact hk)
 rwa [← Nat.add_assoc] at this
theorem last_at {ns : List NodeP} {b : Nat} {l : List NodeP} {x : NodeP} {t : Re} (hf : t.flat b = l ++ [x]) (hl : t.cnt = l.length + 1) (h : AtN ns b (t.flat b)) : ns[b + t.cnt - 1]? = some x := by
 have := h l.length x (by rw [hf, List.getElem?_append_right (Nat.le_refl _), Nat.sub_self]; rfl)
 rw [show b + t.cnt - 1 = b + l.length by omega]; exact this
theorem split_at {l : List Re} {j : Nat} {t : Re} (h : l[j]? = some t) : ∃ a m, l = a ++ t :: m ∧ a.length = j ∧ l.take j = a ∧ l.take (j + 1) = a ++ [t] := by
 obtain ⟨hj, e⟩ := List.getElem?_eq_some_iff.1 h
 refine ⟨l.take j, l.drop (j + 1), ?_, by rw [List.length_take]; omega, rfl, ?_⟩
 ·rw [← e, ← List.drop_eq_getElem_cons hj, List.take_append_drop]
 rw [List.take_succ_eq_append_getElem hj, e]
theorem kid_root {l : List Re} {j : Nat} {t : Re} (h : l[j]? = some t) (b : Nat) : (roots b l)[j]? = some (b + cnts (l.take j) + t.cnt - 1) := by
 obtain ⟨a, m, e, hj, ht, -⟩ := split_at h
 rw [ht, e, roots_app, List.getElem?_append_right (by rw [roots_length]; omega), roots_length, hj, Nat.sub_self]
 rfl
theorem kid_nodes {ns : List NodeP} {l : List Re} {j : Nat} {t : Re} (h : l[j]? = some t) {b : Nat} (hat : AtN ns b (flats b l)) : AtN ns (b + cnts (l.take j)) (t.flat (b + cnts (l.take j))) := by
 obtain ⟨a, m, e, hj, ht, -⟩ := split_at h
 rw [ht]
 rw [e, flats_app] at hat
 have h1 := hat.right (flats_len a b)
 rw [flats] at h1
 exact h1.left
theorem own_cutA {w : World} {B : Nat} {e : TypeId} {n m c : Nat} {A : Option Addr} {xs : List Value} (h : w.ownsRow B e 1 (.slice A n c) n xs) (hm : m ≤ n) : w.ownsRow B e 1 (.slice A m c) m (xs.take m) := by
 obtain ⟨h1, h2⟩ := h
 rcases h2 with ⟨e1, h0⟩ | ⟨g', cap, cur, e1, hB, hh, hc, hm2, hs, hp⟩
 ·injection e1 with e2 e3 e4
  obtain rfl : m = 0 := by omega
  subst e2; subst e4
  exact ⟨by simp, .inl ⟨rfl, rfl⟩⟩
 injection e1 with e2 e3 e4
 subst e2; subst e4
 refine ⟨by rw [List.length_take]; omega, .inr ⟨g', c, cur, rfl, hB, hh, by omega, hm2, hs, ?_⟩⟩
 rw [← hp, List.take_take]; congr 1; omega
theorem own_iterAt {w : World} {B : Nat} {e : TypeId} {sz n : Nat} {v : Value} {xs : List Value} {k : Nat} {s : ByteArray} {pos pos' : Nat} (h : w.ownsRow B e sz v n xs) (hk : w.heap[k]? = some (.stringIter s pos)) : (w.iterAt k s pos').ownsRow B e sz v n xs := by
 obtain ⟨h1, h2⟩ := h
 refine ⟨h1, ?_⟩
 rcases h2 with h2 | ⟨g, cap, cur, hv, hg, hh, r⟩
 ·exact Or.inl h2
 refine Or.inr ⟨g, cap, cur, hv, hg, ?_, r⟩
 rw [Lib.iterAt_other]
 ·exact hh
 rintro rfl; rw [hk] at hh; cases hh
theorem Blk.iterAt {w : World} {g : Nat} {t : TypeId} {cs : List Value} {k : Nat} {s : ByteArray} {pos pos' : Nat} (h : Blk w g t cs) (hk : w.heap[k]? = some (.stringIter s pos)) : Blk (w.iterAt k s pos') g t cs := by
 unfold Blk at h ⊢
 rw [Lib.iterAt_other]
 ·exact h
 rintro rfl; rw [hk] at h; cases h
end Go.Proofs.YtecejnilajbdpaaGreatDoor
namespace Garner
open Go
theorem any_mem (S : List UInt8) (r : Nat) : (S.any fun c => decide ((c.toNat : Int) = (r : Int))) = decide (r ∈ S.map UInt8.toNat) := by
 rw [Bool.eq_iff_iff, List.any_eq_true, decide_eq_true_iff, List.mem_map]
 constructor
 ·rintro ⟨c, hc, h⟩
  exact ⟨c, hc, by have := of_decide_eq_true h; omega⟩
 rintro ⟨c, hc, rfl⟩
 exact ⟨c, hc, decide_eq_true rfl⟩
def escL : Bs := [92, 40, 41, 91, 93, 123, 125, 42, 43, 63, 124, 46, 94, 36, 45]
def memL : Bs := [91, 93, 94, 45]
def litL : Bs := [41, 93, 123, 125, 42, 43, 63, 124]
end Garner
namespace Go.Proofs.YtecejnilajbdpaaGreatDoor
open Go.RowKit Garner
section
variable {F : Nat → Prop}
theorem QS.bad2 {w : World} {g N : Nat} {rs : List Nat} {ns : List NodeP} {deep most : Nat} (h : QS F w g N rs ns deep most) : ∃ p : Nat, w.cell? ⟨g, 1, none⟩ = some (.int .i64 (p : Nat)) ∧ w.frozen? ⟨g, 1, none⟩ = false ∧ p ≤ 200 ∧ ∀ wx, Below (w.setCell ⟨g, 1, none⟩ (.int .i64 ((p : Int) + 1))).heap.size (w.setCell ⟨g, 1, none⟩ (.int .i64 ((p : Int) + 1))) wx → (wx.cell? ⟨g, 5, none⟩ = some (.bool false) ∧ wx.frozen? ⟨g, 5, none⟩ = false ∧ QX (wx.setCell ⟨g, 5, none⟩ (.bool true)) g ns.length ∧ QP g w (wx.setCell ⟨g, 5, none⟩ (.bool true)) ∧ QP g w wx) := by
 obtain ⟨A, c, O, m, rs0, p, h1, h2, h3, ⟨ds, hds, hown, hd⟩, h5, h6, h7⟩ := h.ex
 have hlb := h.lb
 refine ⟨p, h1.cell 1, h1.frozen 1, by omega, fun wx hx => ?_⟩
 have hk : KeepT [132] w (w.setCell ⟨g, 1, none⟩ (.int .i64 ((p : Int) + 1))) := (KeepT.refl _ w).setCell (p := ⟨g, 1, none⟩) h1 (by simp) _
 have hk8 : QP g w (w.setCell ⟨g, 1, none⟩ (.int .i64 ((p : Int) + 1))) := ⟨(KeepT.refl _ w).setCell (p := ⟨g, 1, none⟩) h1 (by simp) _, (Below.refl _ _).setCell (p := ⟨g, 1, none⟩) (Nat.le_refl _) _⟩
 have b1 := h1.set_ 1 (.int .i64 ((p : Int) + 1))
 have bx := b1.below hx b1.lt
 have hkx : QP g w wx := hk8.trans (.of_below hx (Nat.le_of_lt b1.lt))
 have ox := own_below (hk.own hown (by decide)) hx
 have hk5 : KeepT [132] wx (wx.setCell ⟨g, 5, none⟩ (.bool true)) := (KeepT.refl _ wx).setCell (p := ⟨g, 5, none⟩) bx (by simp) _
 exact ⟨bx.cell 5, bx.frozen 5, ⟨_, _, _, _, O, m, _, bx.set_ 5 _, hk5.own ox (by decide), nodes_one ds⟩, hkx.trans ⟨(KeepT.refl _ wx).setCell (p := ⟨g, 5, none⟩) bx (by simp) _, (Below.refl _ _).setCell (p := ⟨g, 5, none⟩) (Nat.le_refl _) _⟩, hkx⟩
def OutS8 (F : Nat → Prop) (o : Option (List Nat × List Nat)) (w0 : World) (g N : Nat) (ns : List NodeP) (deep most : Nat) (e : Ending) (w' : World) : Prop := match o with
 | some (m, r) => ∃ A c, e = .returned (.slice A m.length c) ∧ RowT w' 21 A m.length (m.map rv) ∧ QS F w' g N r ns deep most ∧ ∀ a, A = some a → w0.heap.size ≤ a.block ∧ a.block < w'.heap.size
 | none => ∃ (b c : Nat) (x : Int), e = .returned (.slice (some ⟨b, 0, none⟩) 2 c) ∧ RowT w' 21 (some ⟨b, 0, none⟩) 2 [.int .i32 x, .int .i32 x] ∧ QX w' g ns.length ∧ w0.heap.size ≤ b ∧ b < w'.heap.size
theorem outS8_lit (m : List Nat) {g N : Nat} {w w1 : World} {r : List Nat} {ns : List NodeP} {deep most : Nat} (h1 : QS F w1 g N r ns deep most) (k1 : QP g w w1) {o : Option (List Nat × List Nat)} (e : o = some (m, r)) :
  QP g w (w1.alloc (.cells (m.map rv).toArray 21)) ∧ OutS8 F o w g N ns deep most (.returned (.slice (some ⟨w1.heap.size, 0, none⟩) m.length m.length)) (w1.alloc (.cells (m.map rv).toArray 21)) := by
 subst e
 have hb : Below w1.heap.size w1 (w1.alloc (.cells (m.map rv).toArray 21)) := (Below.refl _ _).alloc (Nat.le_refl _) _
 have hr := RowT.new w1 21 (m.map rv)
 rw [List.length_map] at hr
 exact ⟨k1.trans (.of_below hb (Nat.le_of_lt h1.lt)), _, _, rfl, hr, h1.below hb, fun a e => (by cases e; exact ⟨k1.keep.size, by simp⟩)⟩
theorem outS8_bad (x : Int) {g N b : Nat} {w w1 : World} {ns : List NodeP} {deep most : Nat} (h1 : QX w1 g ns.length) (k1 : QP g w w1) {o : Option (List Nat × List Nat)} (e : o = none) (hbz : b = w1.heap.size) :
  QP g w (w1.alloc (.cells #[.int .i32 x, .int .i32 x] 21)) ∧ OutS8 F o w g N ns deep most (.returned (.slice (some ⟨b, 0, none⟩) 2 2)) (w1.alloc (.cells #[.int .i32 x, .int .i32 x] 21)) := by
 subst e
 subst hbz
 have hb : Below w1.heap.size w1 (w1.alloc (.cells #[.int .i32 x, .int .i32 x] 21)) := (Below.refl _ _).alloc (Nat.le_refl _) _
 have hr := RowT.new w1 21 [.int .i32 x, .int .i32 x]
 exact ⟨k1.trans (.of_below hb (Nat.le_of_lt h1.lt)), w1.heap.size, 2, x, rfl, hr, h1.below hb, k1.keep.size, by simp⟩
theorem qEsc (g N : Nat) (w : World) (rs : List Nat) (ns : List NodeP) (deep most : Nat) (h : QS F w g N rs ns deep most) :
  Calls Tryz.prog 188 #[.pointer (some ⟨g, 0, none⟩)] w fun e w' => QP g w w' ∧ OutS8 F (escR rs) w g N ns deep most e w' := by
 have hp := qPeek g N w rs ns deep most h
 have hg := Nat.le_of_lt h.lt
 have HP := Lh hp; have H := Lh h
 go_enter Tryz.func188, Tryz.ntmps188
 cases rs with
 | nil =>
  have hp : Calls _ _ _ _ fun e w' => e = .returned (.int .i32 (-1)) ∧ Below w.heap.size w w' := hp
  have HP2 := Lh hp
  clear hp HP h
  go_wp2_with fail
  refine HP2.out.mono ?_
  rintro e w1 ⟨rfl, hb⟩
  obtain ⟨p, c1, f1, hp2, hx⟩ := (H.out.below hb).bad2
  obtain ⟨c5, f5, hq, hk, -⟩ := hx _ (Below.refl _ _)
  have w1' : IntKind.i64.wrap ((p : Int) + 1) = (p : Int) + 1 := by rw [IntKind.wrap_i64]; omega
  have HQ := Lh hq; have HK := Lh ((QP.of_below hb hg).trans hk)
  clear hq hk hx
  go_wp2
  go_ret
  exact outS8_bad (-1) HQ.out HK.out rfl (by simp [World.setCell])
 | cons a r =>
  have hp : Calls _ _ _ _ fun e w' => e = .returned (.int .i32 (a : Nat)) ∧ Below w.heap.size w w' := hp
  have HP2 := Lh hp
  have hb := h.rb a (by simp)
  clear hp HP h
  go_wp2_with fail
  refine HP2.out.mono ?_
  rintro e w1 ⟨rfl, hb1⟩
  have hs1 := H.out.below hb1
  obtain ⟨p, c1, f1, hp2, hq, hk⟩ := hs1.step
  obtain ⟨p', c1', -, -, hx⟩ := hs1.bad2
  obtain rfl : p' = p := by rw [c1] at c1'; injection c1' with e; injection e with _ e; omega
  have w1' : IntKind.i64.wrap ((p' : Int) + 1) = (p' : Int) + 1 := by rw [IntKind.wrap_i64]; omega
  obtain ⟨X, hX⟩ : ∃ X, X = w1.setCell ⟨g, 1, none⟩ (.int .i64 ((p' : Int) + 1)) := ⟨_, rfl⟩
  rw [← hX] at hq hk hx
  have HQ := Lh hq; have HK := Lh ((QP.of_below hb1 hg).trans hk); have HX := Lh hX; have HXx := Lh hx
  have HB1 := Lh (QP.of_below hb1 hg)
  clear hq hk hx c1' hs1 hX
  go_upto_region 3 with fail
  rw [← HX.out]
  clear HX c1 f1
  by_cases c1 : a = 110
  ·subst c1
   go_wp2
   go_ret
   exact outS8_lit [10, 10] HQ.out HK.out rfl
  by_cases c2 : a = 116
  ·subst c2
   go_wp2
   go_ret
   exact outS8_lit [9, 9] HQ.out HK.out rfl
  by_cases c3 : a = 100
  ·subst c3
   go_wp2
   go_ret
   exact outS8_lit [48, 57] HQ.out HK.out rfl
  by_cases c4 : a = 119
  ·subst c4
   go_wp2
   go_ret
   exact outS8_lit [48, 57, 65, 90, 95, 95, 97, 122] HQ.out HK.out rfl
  by_cases c5 : a = 115
  ·subst c5
   go_wp2
   go_ret
   exact outS8_lit [9, 10, 13, 13, 32, 32] HQ.out HK.out rfl
  have z1 : ¬ (a : Int) = 110 := by omega
  have z2 : ¬ (a : Int) = 116 := by omega
  have z3 : ¬ (a : Int) = 100 := by omega
  have z4 : ¬ (a : Int) = 119 := by omega
  have z5 : ¬ (a : Int) = 115 := by omega
  have z6 : ¬ (a : Int) < 0 := by omega
  have cv := qIn (a : Int) ⟨escL.toArray⟩ escL rfl X (by decide)
  rw [any_mem] at cv
  have em : a ∈ escL.map UInt8.toNat ↔ a ∈ specR ∨ a = 45 := by
   show a ∈ specR ++ [45] ↔ _
   rw [List.mem_append, List.mem_singleton]
  by_cases hm : a ∈ specR ∨ a = 45
  ·have e : escR (a :: r) = some ([a, a], r) := by rw [escR, if_neg c1, if_neg c2, if_neg c3, if_neg c4, if_neg c5, if_pos hm]
   rw [decide_eq_true (em.2 hm)] at cv
   have E := Lh e; have CV := Lh cv
   clear e em hm c1 c2 c3 c4 c5 cv
   go_wp2_with fail
   refine CV.out.mono ?_
   rintro e w2 ⟨rfl, hz⟩
   obtain rfl : X = w2 := hz.symm
   go_wp2
   go_ret
   exact outS8_lit [a, a] HQ.out HK.out E.out
  have e : escR (a :: r) = none := by rw [escR, if_neg c1, if_neg c2, if_neg c3, if_neg c4, if_neg c5, if_neg hm]
  rw [decide_eq_false (fun h => hm (em.1 h))] at cv
  obtain ⟨g5, g5f, hq5, hk5, -⟩ := HXx.out X (Below.refl _ _)
  have E := Lh e; have CV := Lh cv; have HQ5 := Lh hq5; have HK5 := Lh (HB1.out.trans hk5)
  clear e em hm c1 c2 c3 c4 c5 cv hq5 hk5
  go_wp2_with fail
  refine CV.out.mono ?_
  rintro e w2 ⟨rfl, hz⟩
  obtain rfl : X = w2 := hz.symm
  go_wp2
  go_ret
  exact outS8_bad (a : Int) HQ5.out HK5.out E.out (by simp [World.setCell])
theorem qMember (g N : Nat) (w : World) (rs : List Nat) (ns : List NodeP) (deep most : Nat) (h : QS F w g N rs ns deep most) :
  Calls Tryz.prog 202 #[.pointer (some ⟨g, 0, none⟩)] w fun e w' => QP g w w' ∧ OutS8 F (memR rs) w g N ns deep most e w' := by
 have hp := qPeek g N w rs ns deep most h
 have hg := Nat.le_of_lt h.lt
 have HP := Lh hp; have H := Lh h
 go_enter Tryz.func202, Tryz.ntmps202
 cases rs with
 | nil =>
  have hp : Calls _ _ _ _ fun e w' => e = .returned (.int .i32 (-1)) ∧ Below w.heap.size w w' := hp
  have HP2 := Lh hp
  clear hp HP h
  go_wp2_with fail
  refine HP2.out.mono ?_
  rintro e w1 ⟨rfl, hb⟩
  obtain ⟨p, c1, f1, hp2, hx⟩ := (H.out.below hb).bad2
  obtain ⟨c5, f5, hq, hk, -⟩ := hx _ (Below.refl _ _)
  have w1' : IntKind.i64.wrap ((p : Int) + 1) = (p : Int) + 1 := by rw [IntKind.wrap_i64]; omega
  have HQ := Lh hq; have HK := Lh ((QP.of_below hb hg).trans hk)
  clear hq hk hx
  go_wp2
  go_ret
  exact outS8_bad (-1) HQ.out HK.out rfl (by simp [World.setCell])
 | cons a r =>
  have hp : Calls _ _ _ _ fun e w' => e = .returned (.int .i32 (a : Nat)) ∧ Below w.heap.size w w' := hp
  have HP2 := Lh hp
  have hb := h.rb a (by simp)
  clear hp HP h
  go_wp2_with fail
  refine HP2.out.mono ?_
  rintro e w1 ⟨rfl, hb1⟩
  have hs1 := H.out.below hb1
  obtain ⟨p, c1, f1, hp2, hq, hk⟩ := hs1.step
  obtain ⟨p', c1', -, -, hx⟩ := hs1.bad2
  obtain rfl : p' = p := by rw [c1] at c1'; injection c1' with e; injection e with _ e; omega
  have w1' : IntKind.i64.wrap ((p' : Int) + 1) = (p' : Int) + 1 := by rw [IntKind.wrap_i64]; omega
  obtain ⟨X, hX⟩ : ∃ X, X = w1.setCell ⟨g, 1, none⟩ (.int .i64 ((p' : Int) + 1)) := ⟨_, rfl⟩
  rw [← hX] at hq hk hx
  have HQ := Lh hq; have HK := Lh ((QP.of_below hb1 hg).trans hk); have HX := Lh hX; have HXx := Lh hx
  have HB1 := Lh (QP.of_below hb1 hg)
  clear hq hk hx c1' hs1 hX
  go_upto_region 3 with fail
  rw [← HX.out]
  clear HX c1 f1
  by_cases c1 : a = 92
  ·subst c1
   have e : memR (92 :: r) = escR r := by rw [memR, if_pos rfl]
   have hes := qEsc g N X r ns deep most HQ.out
   rw [← e] at hes
   have HEs := Lh hes
   clear e hes
   go_wp2_with fail
   refine HEs.out.mono ?_
   rintro e w2 ⟨k2, o2⟩
   have hs2 := HK.out.keep.size
   cases ho : memR (92 :: r) with
   | none =>
    rw [ho] at o2
    obtain ⟨b, cc, x, rfl, hr2, hq2, hb2, hb3⟩ := o2
    have HR2 := Lh hr2; have HQ2 := Lh hq2; have Ho := Lh ho
    clear hr2 hq2 ho
    go_wp2
    go_ret
    exact ⟨HK.out.trans k2, by rw [Ho.out]; exact ⟨b, cc, x, rfl, HR2.out, HQ2.out, by omega, hb3⟩⟩
   | some q =>
    obtain ⟨m, r2⟩ := q
    rw [ho] at o2
    obtain ⟨A, cc, rfl, hr2, h2, hA2⟩ := o2
    have HR2 := Lh hr2; have H2 := Lh h2; have HA2 := Lh hA2; have Ho := Lh ho
    clear hr2 h2 hA2 ho
    go_wp2
    go_ret
    exact ⟨HK.out.trans k2, by rw [Ho.out]; exact ⟨A, cc, rfl, HR2.out, H2.out, fun a e => ⟨by have := (HA2.out a e).1; omega, (HA2.out a e).2⟩⟩⟩
  have z1 : ¬ (a : Int) = 92 := by omega
  have z6 : ¬ (a : Int) < 0 := by omega
  have cv := qIn (a : Int) ⟨memL.toArray⟩ memL rfl X (by decide)
  rw [any_mem] at cv
  have em : a ∈ memL.map UInt8.toNat ↔ a = 91 ∨ a = 93 ∨ a = 94 ∨ a = 45 := by
   show a ∈ [91, 93, 94, 45] ↔ _
   simp
  by_cases hm : a = 91 ∨ a = 93 ∨ a = 94 ∨ a = 45
  ·have e : memR (a :: r) = none := by rw [memR, if_neg c1, if_pos hm]
   rw [decide_eq_true (em.2 hm)] at cv
   obtain ⟨g5, g5f, hq5, hk5, -⟩ := HXx.out X (Below.refl _ _)
   have E := Lh e; have CV := Lh cv; have HQ5 := Lh hq5; have HK5 := Lh (HB1.out.trans hk5)
   clear e em hm c1 cv hq5 hk5
   go_wp2_with fail
   refine CV.out.mono ?_
   rintro e w2 ⟨rfl, hz⟩
   obtain rfl : X = w2 := hz.symm
   go_wp2
   go_ret
   exact outS8_bad (a : Int) HQ5.out HK5.out E.out (by simp [World.setCell])
  have e : memR (a :: r) = some ([a, a], r) := by rw [memR, if_neg c1, if_neg hm]
  rw [decide_eq_false (fun h => hm (em.1 h))] at cv
  have E := Lh e; have CV := Lh cv
  clear e em hm c1 cv
  go_wp2_with fail
  refine CV.out.mono ?_
  rintro e w2 ⟨rfl, hz⟩
  obtain rfl : X = w2 := hz.symm
  go_wp2
  go_ret
  exact outS8_lit [a, a] HQ.out HK.out E.out
end
end Go.Proofs.YtecejnilajbdpaaGreatDoor
namespace Garner
open Go
theorem hasB_take {P : List (Nat × Nat)} {k : Nat} {p : Nat × Nat} (h : P[k]? = some p) (x : Nat) : hasB (P.take (k + 1)) x = (hasB (P.take k) x || (decide (p.1 ≤ x) && decide (x ≤ p.2))) := by
 obtain ⟨hk, e⟩ := List.getElem?_eq_some_iff.1 h
 rw [List.take_succ_eq_append_getElem hk, e]
 simp [hasB]
theorem cutsP_take {P : List (Nat × Nat)} {k : Nat} {p : Nat × Nat} (h : P[k]? = some p) : cutsP (P.take (k + 1)) = cutsP (P.take k) ++ [p.1, p.2 + 1] := by
 obtain ⟨hk, e⟩ := List.getElem?_eq_some_iff.1 h
 rw [List.take_succ_eq_append_getElem hk, e]
 simp [cutsP, List.flatMap_append]
theorem cutsP_len : ∀ P : List (Nat × Nat), (cutsP P).length = 2 * P.length + 2
 | [] => rfl
 | p :: P => by
  have := cutsP_len P
  simp [cutsP] at this ⊢
  omega
theorem cutsP_le {P : List (Nat × Nat)} (hP : ∀ p ∈ P, p.1 ≤ p.2 ∧ p.2 ≤ 1114111) : ∀ c ∈ cutsP P, c ≤ 1114112 := fun c hc => by
 unfold cutsP at hc
 rcases List.mem_cons.1 hc with rfl | hc
 ·omega
 rcases List.mem_cons.1 hc with rfl | hc
 ·omega
 obtain ⟨p, hp, h⟩ := List.mem_flatMap.1 hc
 have := hP p hp
 simp at h
 omega
end Garner
namespace Go.Proofs.YtecejnilajbdpaaGreatDoor
open Go.RowKit Garner
theorem qHas (P : List (Nat × Nat)) (A : Option Addr) (c n x : Nat) (w : World) (hn : n = 2 * P.length) (hr : RowT w 21 A n ((flatR P).map rv)) (hl : P.length ≤ 1000) :
  Calls Tryz.prog 124 #[.slice A n c, .int .i32 (x : Nat)] w fun e w' => e = .returned (.bool (hasB P x)) ∧ w' = w := by
 obtain ⟨ANS, hANS⟩ : ∃ ANS, hasB P x = ANS := ⟨_, rfl⟩
 rw [hANS]
 have HA := Lh hANS; clear hANS
 have Hn := Lh hn; clear hn
 go_enter Tryz.func124, Tryz.ntmps124
 go_wp2
 go_loopw [5] (fun i wr => ∃ (k j : Nat), Hid (j = 2 * k) ∧ k ≤ P.length ∧ i = .int .i64 j ∧ Hid (hasB (P.take k) x = false) ∧ wr = w) (fun i _ => 2 * P.length - (intOf i).toNat)
 case atStart => exact ⟨0, 0, Lh rfl, Nat.zero_le _, rfl, Lh rfl, rfl⟩
 obtain ⟨k, j, hj, hk, rfl, hno, hwr⟩ := hrel
 obtain rfl : w = wr := hwr.symm
 have hjn := hj.out
 have hnn := Hn.out
 by_cases hlt : k < P.length
 ·obtain ⟨⟨a, b⟩, hp⟩ : ∃ p, P[k]? = some p := ⟨_, List.getElem?_eq_getElem hlt⟩
  obtain ⟨f1, f2⟩ := flat_at hp
  have htk := hasB_take hp x
  rw [hno.out, Bool.false_or] at htk
  have hin : ∀ q, hasB (P.take (k + 1)) x = q → q = true → ANS = true := fun q h1 h2 => by
   rw [h2] at h1
   obtain ⟨p, hp, h⟩ := hasB_iff.1 h1
   rw [← HA.out]
   exact hasB_iff.2 ⟨p, List.mem_of_mem_take hp, h⟩
  obtain ⟨bb, off, rfl, c1⟩ := hr.at_ (k := j) (u := rv a) (by rw [List.getElem?_map, hjn, f1]; rfl)
  obtain ⟨bb', off', e', c2⟩ := hr.at_ (k := j + 1) (u := rv b) (by rw [List.getElem?_map, hjn, f2]; rfl)
  cases e'
  replace c1 : w.cell? ⟨bb, off + j, none⟩ = some (.int .i32 (a : Nat)) := c1
  replace c2 : w.cell? ⟨bb, off + (j + 1), none⟩ = some (.int .i32 (b : Nat)) := c2
  have z1 : (j : Int) + 1 < (n : Int) := by omega
  have z0 : (j : Int) < (n : Int) := by omega
  have w1 := wS j (by omega)
  have w2 : IntKind.i64.wrap ((j : Int) + 2) = ((j + 2 : Nat) : Int) := by rw [IntKind.wrap_i64]; omega
  have z2 : ((j + 1 : Nat) : Int) < (n : Int) := by omega
  have hmes : j < n := by omega
  have Hjn := Lh hjn; have Hnn := Lh hnn; have Htk := Lh htk; have Hin := Lh hin
  clear f1 f2 hp htk hjn hnn hin
  by_cases h1 : a ≤ x
  ·have h1' : (a : Int) ≤ (x : Int) := by omega
   by_cases h2 : x ≤ b
   ·have h2' : (x : Int) ≤ (b : Int) := by omega
    go_wp2
    go_ret
    refine ⟨?_, rfl⟩
    rw [Hin.out _ Htk.out (by rw [decide_eq_true h1, decide_eq_true h2]; rfl)]; rfl
   have h2' : ¬ (x : Int) ≤ (b : Int) := by omega
   go_wp2
   go_roundw
   case rel => exact ⟨k + 1, j + 2, Lh (by have := Hjn.out; omega), by omega, rfl, Lh (by rw [Htk.out, decide_eq_false h2, Bool.and_false]), by first | rfl | trivial⟩
   case measure => simp [intOf]; have := Hnn.out; omega
  have h1' : ¬ (a : Int) ≤ (x : Int) := by omega
  go_wp2
  go_roundw
  case rel => exact ⟨k + 1, j + 2, Lh (by have := Hjn.out; omega), by omega, rfl, Lh (by rw [Htk.out, decide_eq_false h1, Bool.false_and]), by first | rfl | trivial⟩
  case measure => simp [intOf]; have := Hnn.out; omega
 have z1 : ¬ (j : Int) + 1 < (n : Int) := by omega
 have w1 : IntKind.i64.wrap ((j : Int) + 1) = (j : Int) + 1 := by rw [IntKind.wrap_i64]; omega
 have hans : ANS = false := by
  rw [← HA.out, ← hno.out, List.take_of_length_le (by omega)]
 have HAn := Lh hans
 clear hans hjn hnn
 go_wp2
 go_ret
 exact ⟨by rw [HAn.out]; rfl, rfl⟩
end Go.Proofs.YtecejnilajbdpaaGreatDoor
