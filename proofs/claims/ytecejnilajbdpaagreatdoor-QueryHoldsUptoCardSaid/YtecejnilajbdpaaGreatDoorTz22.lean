import Derived.Test.YtecejnilajbdpaaGreatDoorTz21
set_option maxRecDepth 100000
set_option maxHeartbeats 8000000
namespace Go.Proofs.YtecejnilajbdpaaGreatDoor
open Go.RowKit Garner
abbrev PT8 : List TypeId := [132, 182]
structure QS (F : Nat → Prop) (w : World) (g N : Nat) (rs : List Nat) (ns : List NodeP) (deep most : Nat) : Prop where
 ex : ∃ (A : Option Addr) (c : Nat) (O : Option Addr) (m : Nat) (rs0 : List Nat) (p : Nat), Blk w g 132 [.slice A N c, .int .i64 (p : Nat), .slice O ns.length m, .int .i64 (deep : Nat), .int .i64 (most : Nat), .bool false] ∧ RowT w 21 A N (rs0.map rv) ∧ (∀ a, A = some a → F a.block) ∧ NodesIs F w (g + 1) (.slice O ns.length m) ns ∧ rs = rs0.drop p ∧ p ≤ N ∧ rs0.length = N ∧ ∀ r ∈ rs0, r ≤ 1114111
 hF : ∀ k, F k → k < w.heap.size
 dm : deep ≤ most
 mb : most ≤ 100000
 nb : ns.length ≤ 100000
 lb : N ≤ 200
def QX (w : World) (g n : Nat) : Prop := ∃ s a de mo O m xs, Blk w g 132 [s, .int .i64 a, .slice O n m, .int .i64 de, .int .i64 mo, .bool true] ∧ w.ownsRow (g + 1) 182 5 (.slice O n m) n xs ∧ (∀ u ∈ xs, u.oneCell' = true)
structure QP (g : Nat) (w w' : World) : Prop where
 keep : KeepT PT8 w w'
 low : Below g w w'
section
variable {F : Nat → Prop} {w w' : World} {g N n : Nat} {rs : List Nat} {ns : List NodeP} {deep most : Nat}
theorem QP.refl (g : Nat) (w : World) : QP g w w := ⟨.refl _ _, .refl _ _⟩
theorem QP.trans {a b c : World} (h : QP g a b) (k : QP g b c) : QP g a c := ⟨h.keep.trans k.keep, h.low.trans k.low⟩
theorem QP.of_below (h : Below w.heap.size w w') (hg : g ≤ w.heap.size) : QP g w w' := ⟨.of_below h, h.mono hg⟩
theorem QP.drew {a : World} (h : QP g a w) : QP g a w.drew := ⟨h.keep.drew, h.low.drew⟩
theorem QS.lt (h : QS F w g N rs ns deep most) : g < w.heap.size := by
 obtain ⟨A, c, O, m, rs0, p, h1, -⟩ := h.ex
 exact h1.lt
theorem QX.lt (h : QX w g n) : g < w.heap.size := by
 obtain ⟨s, a, de, mo, O, m, xs, h1, -⟩ := h
 exact h1.lt
theorem QS.below (h : QS F w g N rs ns deep most) (hb : Below w.heap.size w w') : QS F w' g N rs ns deep most := by
 obtain ⟨A, c, O, m, rs0, p, h1, h2, h3, h4, h5⟩ := h.ex
 exact ⟨⟨A, c, O, m, rs0, p, h1.below hb h1.lt, h2.below hb, h3, h4.keep (T := []) (.of_below hb) (by simp) (by simp) (by simp), h5⟩, fun k hk => Nat.lt_of_lt_of_le (h.hF k hk) hb.size, h.dm, h.mb, h.nb, h.lb⟩
theorem QX.below (h : QX w g n) (hb : Below w.heap.size w w') : QX w' g n := by
 obtain ⟨s, a, de, mo, O, m, xs, h1, h2, h3⟩ := h
 exact ⟨s, a, de, mo, O, m, xs, h1.below hb h1.lt, own_below h2 hb, h3⟩
theorem QS.mono {F' : Nat → Prop} (h : QS F w g N rs ns deep most) (hF : ∀ k, F k → F' k) (hs : ∀ k, F' k → k < w.heap.size) : QS F' w g N rs ns deep most := by
 obtain ⟨A, c, O, m, rs0, p, h1, h2, h3, ⟨ds, e, ho, hd⟩, h5⟩ := h.ex
 exact ⟨⟨A, c, O, m, rs0, p, h1, h2, fun a ha => hF _ (h3 a ha), ⟨ds, e, ho, fun d hm => ⟨(hd d hm).kids, (hd d hm).set, fun a ha => hF _ ((hd d hm).kF a ha), fun a ha => hF _ ((hd d hm).sF a ha)⟩⟩, h5⟩, hs, h.dm, h.mb, h.nb, h.lb⟩
theorem QS.ext {w0 : World} (h : QS F w g N rs ns deep most) (h0 : ∀ k, F k → k < w0.heap.size) (hs : w0.heap.size ≤ w.heap.size) : QS (Ext F w0 w) w g N rs ns deep most := h.mono (fun _ hk => .inl hk) (Ext.lt h0 hs)
theorem QS.len (h : QS F w g N rs ns deep most) : rs.length ≤ N := by
 obtain ⟨A, c, O, m, rs0, p, h1, h2, h3, h4, h5, h6, h7, h8⟩ := h.ex
 rw [h5, List.length_drop]; omega
theorem QS.rb (h : QS F w g N rs ns deep most) : ∀ r ∈ rs, r ≤ 1114111 := fun r hr => by
 obtain ⟨A, c, O, m, rs0, p, h1, h2, h3, h4, h5, h6, h7, h8⟩ := h.ex
 rw [h5] at hr
 exact h8 r (List.mem_of_mem_drop hr)
theorem QS.grown (h : QS F w g N rs ns deep most) {B : Nat} {e : TypeId} {sz n' : Nat} {v : Value} {xs : List Value} (ho : w.ownsRow B e sz v n' xs) (hg : w.grownBy w' v.ownBlock) (hv : ∀ k, v.ownBlock = some k → ¬ F k) (he1 : e ≠ 132) (he2 : e ≠ 182) : QS F w' g N rs ns deep most := by
 obtain ⟨A, c, O, m, rs0, p, h1, h2, h3, ⟨ds, hds, hown, hd⟩, h5⟩ := h.ex
 have hrow : ∀ {t : TypeId} {A : Option Addr} {n : Nat} {xs : List Value}, RowT w t A n xs → (∀ a, A = some a → F a.block) → RowT w' t A n xs := fun hr hf => hr.grown hg fun a ha e1 => hv _ e1.symm (hf a ha)
 refine ⟨⟨A, c, O, m, rs0, p, h1.grown hg fun e1 => ?_, hrow h2 h3, h3, ⟨ds, hds, own_grown hown hg ?_, fun d hm => ⟨hrow (hd d hm).kids (hd d hm).kF, hrow (hd d hm).set (hd d hm).sF, (hd d hm).kF, (hd d hm).sF⟩⟩, h5⟩, fun k hk => Nat.lt_of_lt_of_le (h.hF k hk) hg.size, h.dm, h.mb, h.nb, h.lb⟩
 ·have := own_blk ho h1 he1
  rw [← e1] at this
  simp at this
 rcases hb : (Value.slice O ns.length m).ownBlock with _ | k
 ·exact .inl rfl
 refine .inr fun e1 => ?_
 have := own_own ho hown he2 k hb
 rw [← e1] at this
 simp at this
theorem QX.grown (h : QX w g n) {B : Nat} {e : TypeId} {sz n' : Nat} {v : Value} {xs : List Value} (ho : w.ownsRow B e sz v n' xs) (hg : w.grownBy w' v.ownBlock) (he1 : e ≠ 132) (he2 : e ≠ 182) : QX w' g n := by
 obtain ⟨s, a, de, mo, O, m, ys, h1, hown, h3⟩ := h
 refine ⟨s, a, de, mo, O, m, ys, h1.grown hg fun e1 => ?_, own_grown hown hg ?_, h3⟩
 ·have := own_blk ho h1 he1
  rw [← e1] at this
  simp at this
 rcases hb : (Value.slice O n m).ownBlock with _ | k
 ·exact .inl rfl
 refine .inr fun e1 => ?_
 have := own_own ho hown he2 k hb
 rw [← e1] at this
 simp at this
theorem QP.grown {w0 : World} (h : QP g w0 w) {B : Nat} {e : TypeId} {sz n : Nat} {v : Value} {xs : List Value} (ho : w.ownsRow B e sz v n xs) (hg : w.grownBy w' v.ownBlock) (hB : w0.heap.size ≤ B) (hgB : g ≤ B) (hgw : g ≤ w.heap.size) : QP g w0 w' := by
 have hlt := h.keep.size
 refine ⟨⟨hg.os.trans h.keep.os, hg.tape.trans h.keep.tape, hg.output.trans h.keep.output, Nat.le_trans hlt hg.size, fun k hk hn => ?_⟩, ⟨hg.os.trans h.low.os, hg.tape.trans h.low.tape, hg.output.trans h.low.output, Nat.le_trans h.low.size hg.size, fun k hk => ?_⟩⟩
 ·rw [hg.block k (by omega) fun e1 => by have := (ho.lt k e1.symm).1; omega]
  exact h.keep.block k hk hn
 rw [hg.block k (by omega) fun e1 => by have := (ho.lt k e1.symm).1; omega]
 exact h.low.block k hk
theorem QS.bad (h : QS F w g N rs ns deep most) : QX (w.setCell ⟨g, 5, none⟩ (.bool true)) g ns.length ∧ QP g w (w.setCell ⟨g, 5, none⟩ (.bool true)) := by
 obtain ⟨A, c, O, m, rs0, p, h1, h2, h3, ⟨ds, hds, hown, hd⟩, h5⟩ := h.ex
 have hk : KeepT [132] w (w.setCell ⟨g, 5, none⟩ (.bool true)) := (KeepT.refl _ w).setCell (p := ⟨g, 5, none⟩) h1 (by simp) _
 exact ⟨⟨_, _, _, _, O, m, _, h1.set_ 5 _, hk.own hown (by decide), nodes_one ds⟩, ⟨(KeepT.refl _ w).setCell (p := ⟨g, 5, none⟩) h1 (by simp) _, (Below.refl _ _).setCell (p := ⟨g, 5, none⟩) (Nat.le_refl _) _⟩⟩
theorem QX.bad (h : QX w g n) : QX (w.setCell ⟨g, 5, none⟩ (.bool true)) g n ∧ QP g w (w.setCell ⟨g, 5, none⟩ (.bool true)) := by
 obtain ⟨s, a, de, mo, O, m, xs, h1, h2, h3⟩ := h
 have hk : KeepT [132] w (w.setCell ⟨g, 5, none⟩ (.bool true)) := (KeepT.refl _ w).setCell (p := ⟨g, 5, none⟩) h1 (by simp) _
 exact ⟨⟨s, a, de, mo, O, m, xs, h1.set_ 5 _, hk.own h2 (by decide), h3⟩, ⟨(KeepT.refl _ w).setCell (p := ⟨g, 5, none⟩) h1 (by simp) _, (Below.refl _ _).setCell (p := ⟨g, 5, none⟩) (Nat.le_refl _) _⟩⟩
theorem QX.more (h : QX w g n) : n ≤ 9223372036854775807 := by
 obtain ⟨s, a, de, mo, O, m, xs, h1, h2, h3⟩ := h
 by_cases h0 : 0 < n
 ·obtain ⟨gS, -, -, -, hq1, hq2, -⟩ := own_at h2 h0
  simp only [maxLen] at hq2
  omega
 omega
theorem QS.step {a : Nat} {r : List Nat} (h : QS F w g N (a :: r) ns deep most) : ∃ p : Nat, w.cell? ⟨g, 1, none⟩ = some (.int .i64 (p : Nat)) ∧ w.frozen? ⟨g, 1, none⟩ = false ∧ p ≤ 200 ∧ QS F (w.setCell ⟨g, 1, none⟩ (.int .i64 ((p : Int) + 1))) g N r ns deep most ∧ QP g w (w.setCell ⟨g, 1, none⟩ (.int .i64 ((p : Int) + 1))) := by
 obtain ⟨A, c, O, m, rs0, p, h1, h2, h3, h4, h5, h6, h7, h8⟩ := h.ex
 have hlt : p < N := by
  have := congrArg List.length h5
  rw [List.length_drop, List.length_cons] at this
  omega
 have hr : r = rs0.drop (p + 1) := by
  have := congrArg List.tail h5
  rw [List.tail_cons, List.tail_drop] at this
  exact this
 have hlb := h.lb
 have hk : KeepT [132] w (w.setCell ⟨g, 1, none⟩ (.int .i64 ((p : Int) + 1))) := (KeepT.refl _ w).setCell (p := ⟨g, 1, none⟩) h1 (by simp) _
 refine ⟨p, h1.cell 1, h1.frozen 1, by omega, ⟨⟨A, c, O, m, rs0, p + 1, h1.set_ 1 _, h2.keep hk (by decide), h3, h4.keep hk (by decide) (by decide) (by decide), hr, hlt, h7, h8⟩, fun k hk => (by have := h.hF k hk; simpa [World.setCell] using this), h.dm, h.mb, h.nb, h.lb⟩, ⟨(KeepT.refl _ w).setCell (p := ⟨g, 1, none⟩) h1 (by simp) _, (Below.refl _ _).setCell (p := ⟨g, 1, none⟩) (Nat.le_refl _) _⟩⟩
end
def peekV : List Nat → Int
 | [] => -1
 | a :: _ => (a : Nat)
section
variable {F : Nat → Prop}
theorem qPeek (g N : Nat) (w : World) (rs : List Nat) (ns : List NodeP) (deep most : Nat) (h : QS F w g N rs ns deep most) :
  Calls Tryz.prog 139 #[.pointer (some ⟨g, 0, none⟩)] w fun e w' => e = .returned (.int .i32 (peekV rs)) ∧ Below w.heap.size w w' := by
 obtain ⟨A, c, O, m, rs0, p, h1, h2, h3, h4, h5, h6, h7, h8⟩ := h.ex
 have c0 : w.cell? ⟨g, 0, none⟩ = some (.slice A N c) := h1.cell 0
 have c1 : w.cell? ⟨g, 1, none⟩ = some (.int .i64 (p : Nat)) := h1.cell 1
 have c5 : w.cell? ⟨g, 5, none⟩ = some (.bool false) := h1.cell 5
 have hlb := h.lb
 have hlen := congrArg List.length h5
 rw [List.length_drop] at hlen
 cases rs with
 | nil =>
  have hd : (N : Int) ≤ (p : Int) := by simp at hlen; omega
  have hdec : decide ((N : Int) ≤ (p : Int)) = true := decide_eq_true hd
  clear h1 h2 h3 h4 h5 h8 hlen h
  show Calls _ _ _ _ fun e w' => e = .returned (.int .i32 (-1)) ∧ _
  go_enter Tryz.func139, Tryz.ntmps139
  go_wp2_with fail
  go_quiet (fail)
  go_wp2
  go_ret
  exact ⟨rfl, ⟨rfl, rfl, rfl, Nat.le_refl _, fun _ _ => rfl⟩⟩
 | cons a r =>
  have hp : p < N := by simp at hlen; omega
  have hd : ¬ (N : Int) ≤ (p : Int) := by omega
  have hdec : decide ((N : Int) ≤ (p : Int)) = false := decide_eq_false hd
  have hpz : (p : Int) < (N : Int) := by omega
  have ha : rs0[p]? = some a := by
   have : (rs0.drop p)[0]? = some a := by rw [← h5]; rfl
   rwa [List.getElem?_drop, Nat.add_zero] at this
  obtain ⟨b, off, rfl, hc⟩ := h2.at_ (k := p) (u := rv a) (by rw [List.getElem?_map, ha]; rfl)
  have hc : w.cell? ⟨b, off + p, none⟩ = some (.int .i32 (a : Nat)) := hc
  clear h1 h2 h3 h4 h5 h8 hlen h ha
  show Calls _ _ _ _ fun e w' => e = .returned (.int .i32 (a : Nat)) ∧ _
  go_enter Tryz.func139, Tryz.ntmps139
  go_wp2_with fail
  go_quiet (fail)
  go_wp2_with fail
  go_quiet (fail)
  go_wp2
  go_ret
  exact ⟨rfl, ⟨rfl, rfl, rfl, Nat.le_refl _, fun _ _ => rfl⟩⟩
theorem xPeek (g n : Nat) (w : World) (h : QX w g n) :
  Calls Tryz.prog 139 #[.pointer (some ⟨g, 0, none⟩)] w fun e w' => e = .returned (.int .i32 (-1)) ∧ Below w.heap.size w w' := by
 obtain ⟨s, a, de, mo, O, m, xs, h1, h2, h3⟩ := h
 have c5 : w.cell? ⟨g, 5, none⟩ = some (.bool true) := h1.cell 5
 clear h1 h2 h3
 go_enter Tryz.func139, Tryz.ntmps139
 go_wp2_with fail
 go_quiet (fail)
 go_wp2
 go_ret
 exact ⟨rfl, ⟨rfl, rfl, rfl, Nat.le_refl _, fun _ _ => rfl⟩⟩
theorem qIs_no (ch : Nat) (g N : Nat) (w : World) (rs : List Nat) (ns : List NodeP) (deep most : Nat) (h : QS F w g N rs ns deep most) (hc : rs.head? ≠ some ch) :
  Calls Tryz.prog 111 #[.pointer (some ⟨g, 0, none⟩), .int .i32 (ch : Nat)] w fun e w' => e = .returned (.bool false) ∧ Below w.heap.size w w' := by
 have hp := qPeek g N w rs ns deep most h
 have hz : ¬ peekV rs = (ch : Int) := by
  cases rs with
  | nil => show ¬ (-1 : Int) = _; omega
  | cons a r =>
   show ¬ ((a : Nat) : Int) = _
   intro e
   exact hc (by rw [List.head?_cons]; exact congrArg some (by omega))
 have HP := Lh hp
 clear hp hc h
 go_enter Tryz.func111, Tryz.ntmps111
 go_wp2_with fail
 refine HP.out.mono ?_
 rintro e w1 ⟨rfl, hb⟩
 go_wp2
 go_ret
 exact ⟨rfl, hb⟩
theorem xIs (ch : Nat) (g n : Nat) (w : World) (h : QX w g n) :
  Calls Tryz.prog 111 #[.pointer (some ⟨g, 0, none⟩), .int .i32 (ch : Nat)] w fun e w' => e = .returned (.bool false) ∧ Below w.heap.size w w' := by
 have hp := xPeek g n w h
 have hz : ¬ (-1 : Int) = (ch : Int) := by omega
 have HP := Lh hp
 clear hp h
 go_enter Tryz.func111, Tryz.ntmps111
 go_wp2_with fail
 refine HP.out.mono ?_
 rintro e w1 ⟨rfl, hb⟩
 go_wp2
 go_ret
 exact ⟨rfl, hb⟩
theorem qIs_yes (ch : Nat) (g N : Nat) (w : World) (r : List Nat) (ns : List NodeP) (deep most : Nat) (h : QS F w g N (ch :: r) ns deep most) :
  Calls Tryz.prog 111 #[.pointer (some ⟨g, 0, none⟩), .int .i32 (ch : Nat)] w fun e w' => e = .returned (.bool true) ∧ QS F w' g N r ns deep most ∧ QP g w w' := by
 have hp := qPeek g N w _ ns deep most h
 have e0 : peekV (ch :: r) = (ch : Int) := rfl
 rw [e0] at hp
 have HP := Lh hp; have H := Lh h
 clear hp h e0
 go_enter Tryz.func111, Tryz.ntmps111
 go_wp2_with fail
 refine HP.out.mono ?_
 rintro e w1 ⟨rfl, hb⟩
 obtain ⟨p, c1, f1, hp2, hq, hk⟩ := (H.out.below hb).step
 have w1' : IntKind.i64.wrap ((p : Int) + 1) = (p : Int) + 1 := by rw [IntKind.wrap_i64]; omega
 have HQ := Lh hq; have HK := Lh ((QP.of_below hb (Nat.le_of_lt H.out.lt)).trans hk)
 clear hq hk
 go_wp2
 go_ret
 exact ⟨rfl, HQ.out, HK.out⟩
theorem qIs_any (ch : Nat) (g N : Nat) (w : World) (rs : List Nat) (ns : List NodeP) (deep most : Nat) (h : QS F w g N rs ns deep most) :
  Calls Tryz.prog 111 #[.pointer (some ⟨g, 0, none⟩), .int .i32 (ch : Nat)] w fun e w' => e = .returned (.bool (decide (rs.head? = some ch))) ∧ QS F w' g N (if rs.head? = some ch then rs.tail else rs) ns deep most ∧ QP g w w' := by
 by_cases hc : rs.head? = some ch
 ·obtain ⟨r, rfl⟩ : ∃ r, rs = ch :: r := by
   cases rs with
   | nil => cases hc
   | cons a r => injection hc with hc; exact ⟨r, by rw [hc]⟩
  rw [if_pos hc, decide_eq_true hc]
  exact qIs_yes ch g N w r ns deep most h
 rw [if_neg hc, decide_eq_false hc]
 exact (qIs_no ch g N w rs ns deep most h hc).mono fun e w' ⟨h1, h2⟩ => ⟨h1, h.below h2, .of_below h2 (Nat.le_of_lt h.lt)⟩
end
open Go.RowKit Garner
section
variable {F : Nat → Prop}
theorem nodeW (g N0 : Nat) (s : Value) (a de mo : Int) (bd : Bool) (O : Option Addr) (n m : Nat) (xs : List Value) (kk mn mx : Int) (kA : Option Addr) (kn kc : Nat) (sA : Option Addr) (sn sc : Nat) (w : World) (hN : N0 = n)
  (hb : Blk w g 132 [s, .int .i64 a, .slice O n m, .int .i64 de, .int .i64 mo, .bool bd]) (ho : w.ownsRow (g + 1) 182 5 (.slice O n m) n xs) (hn : n < 1000000000) :
  Calls Tryz.prog 113 #[.pointer (some ⟨g, 0, none⟩), .agg #[.int .i64 kk, .slice kA kn kc, .int .i64 mn, .int .i64 mx, .slice sA sn sc]] w fun e w' => e = .returned (.int .i64 (n : Nat)) ∧ QP g w w' ∧ ∃ O2 m2, Blk w' g 132 [s, .int .i64 a, .slice O2 (n + 1) m2, .int .i64 de, .int .i64 mo, .bool bd] ∧ w'.ownsRow (g + 1) 182 5 (.slice O2 (n + 1) m2) (n + 1) (xs ++ [.int .i64 kk, .slice kA kn kc, .int .i64 mn, .int .i64 mx, .slice sA sn sc]) := by
 have hg := hb.lt
 obtain ⟨CS, hCS⟩ : ∃ CS : List Value, CS = [.int .i64 kk, .slice kA kn kc, .int .i64 mn, .int .i64 mx, .slice sA sn sc] := ⟨_, rfl⟩
 obtain ⟨X, hX⟩ : ∃ X, X = w.alloc (.cells CS.toArray 182) := ⟨_, rfl⟩
 have hwX : Below w.heap.size w X := by rw [hX]; exact (Below.refl _ _).alloc (Nat.le_refl _) _
 have bX : Blk X w.heap.size 182 CS := by rw [hX]; exact Blk.new w _ _
 have bP := hb.below hwX hb.lt
 have oX := own_below ho hwX
 have hone : ∀ u ∈ CS, u.oneCell' = true := by rw [hCS]; simp [Value.oneCell']
 have hX' : X = w.alloc (.cells #[.int .i64 kk, .slice kA kn kc, .int .i64 mn, .int .i64 mx, .slice sA sn sc] 182) := by rw [hX, hCS]
 rw [hCS] at bX
 go_enter Tryz.func113, Tryz.ntmps113
 go_upto_region 1 with fail
 rw [← hX']
 clear hX' hX
 have sS : Blk X.drew g 132 [s, .int .i64 a, .slice O n m, .int .i64 de, .int .i64 mo, .bool bd] ∧ Blk X.drew w.heap.size 182 [.int .i64 kk, .slice kA kn kc, .int .i64 mn, .int .i64 mx, .slice sA sn sc] := ⟨bP, bX⟩
 refine rgQ (fun w' => Blk w' g 132 [s, .int .i64 a, .slice O n m, .int .i64 de, .int .i64 mo, .bool bd] ∧ Blk w' w.heap.size 182 [.int .i64 kk, .slice kA kn kc, .int .i64 mn, .int .i64 mx, .slice sA sn sc]) 10 (by kernel_rfl) (fun _ _ d _ _ h => by cases d <;> exact h) fun qP => ?_
 apply tkq 0 (by kernel_rfl) rfl qP sS
 ·intro w' hS'; go_simp; exact ⟨rfl, rfl⟩
 apply tkq 1 (by kernel_rfl) rfl qP sS
 ·intro w' hS'; go_simp; exact ⟨rfl, rfl⟩
 apply tkq 2 (by kernel_rfl) rfl qP sS
 ·intro w' hS'; go_simp; exact ⟨rfl, rfl⟩
 apply tkq 3 (by kernel_rfl) rfl qP sS
 ·intro w' hS'; go_simp; exact ⟨rfl, rfl⟩
 apply tkq 4 (v := (.slice O n m)) (by kernel_rfl) rfl qP sS
 ·intro w' hS'; have hk : w'.cell? ⟨g, 2, none⟩ = some (.slice O n m) := hS'.1.cell 2; go_simp; exact ⟨rfl, rfl⟩
 apply tkq 5 (v := (.agg #[.int .i64 kk, .slice kA kn kc, .int .i64 mn, .int .i64 mx, .slice sA sn sc])) (by kernel_rfl) rfl qP sS
 ·intro w' hS'; have k0 := hS'.2.cell 0; have k1 := hS'.2.cell 1; have k2 := hS'.2.cell 2; have k3 := hS'.2.cell 3; have k4 := hS'.2.cell 4; go_simp; exact ⟨rfl, rfl⟩
 (try simp only [Act.put]); (try simp only [List.setIfInBounds_toArray]); (try simp only [List.set])
 refine rnL 6 (by kernel_rfl) rfl (by kernel_rfl) (fun K hK => ?_)
 go_simp
 obtain ⟨Y, hY⟩ : ∃ Y, Y = (X.alloc (.cells #[.int .i64 kk, .slice kA kn kc, .int .i64 mn, .int .i64 mx, .slice sA sn sc] 182)).drew := ⟨_, rfl⟩
 rw [← hY]
 have hXY : Below X.heap.size X Y := by rw [hY]; exact ((Below.refl _ _).alloc (Nat.le_refl _) _).drew
 have y1 := bP.below hXY bP.lt
 have y2 := Blk.below bX hXY bX.lt
 have y3 := own_below oX hXY
 have xrow : Row Y (X.heap.size + 1) 5 (some ⟨X.heap.size, 0, none⟩) 1 CS := by
  rw [hY, hCS]; exact (row_newN X 182 5 1 [.int .i64 kk, .slice kA kn kc, .int .i64 mn, .int .i64 mx, .slice sA sn sc] rfl).drew
 have hwY : Below w.heap.size w Y := hwX.trans (hXY.mono hwX.size)
 have sY := hwY.size
 clear hY oX bP bX
 have sT : Blk Y g 132 [s, .int .i64 a, .slice O n m, .int .i64 de, .int .i64 mo, .bool bd] ∧ Blk Y w.heap.size 182 [.int .i64 kk, .slice kA kn kc, .int .i64 mn, .int .i64 mx, .slice sA sn sc] := ⟨y1, y2⟩
 refine hK _ _ (fun _ => sT) ?_
 clear hK K
 (try simp only [Act.put]); (try simp only [List.setIfInBounds_toArray]); (try simp only [List.set])
 refine rnL 7 (by kernel_rfl) rfl (by kernel_rfl) (fun K hK => ?_)
 refine wp_app Y nodeE rfl rfl y3 rfl xrow hone (by omega) (by omega) ?_
 intro v W q hg6 hb6 hv6
 have hty := own_typed y3
 have nB : ∀ k cs t, Blk Y k t cs → t ≠ 182 → some k ≠ (Value.slice O n m).ownBlock := fun k cs t hk ht e => by
  obtain ⟨cs', t', z, h1, h2⟩ := hty k e.symm
  unfold Blk at hk
  rw [hk] at h1
  cases h1
  exact ht h2
 have z1 := y1.grown hg6 (nB _ _ _ y1 (by decide))
 have nZ : some w.heap.size ≠ (Value.slice O n m).ownBlock := fun e => by
  have h1 := (own_ge ho w.heap.size (by rw [← e]; simp)).2
  omega
 have z2 := y2.grown hg6 nZ
 have kW : KeepT PT8 w W := (KeepT.of_below hwY).trans (.grown hg6 fun k hk => by
  obtain ⟨cs, t, z, h1, h2⟩ := hty k hk
  exact ⟨cs, t, z, h1, by rw [h2]; simp⟩)
 have lW : Below g w W := (hwY.mono (by omega)).trans (hb6.mono (by omega))
 obtain ⟨O2, m2, rfl, -⟩ := own_form q
 have sU : Blk W g 132 [s, .int .i64 a, .slice O n m, .int .i64 de, .int .i64 mo, .bool bd] ∧ Blk W w.heap.size 182 [.int .i64 kk, .slice kA kn kc, .int .i64 mn, .int .i64 mx, .slice sA sn sc] := ⟨z1, z2⟩
 have cb : W.cell? ⟨g, 2, none⟩ = some (.slice O n m) := z1.cell 2
 have fb := z1.frozen 2
 refine hK _ _ (fun _ => sU) ?_
 clear hK K
 (try simp only [Act.put]); (try simp only [List.setIfInBounds_toArray]); (try simp only [List.set])
 refine rnL 8 (by kernel_rfl) rfl (by kernel_rfl) (fun K hK => ?_)
 go_simp
 refine hK _ _ (fun _ => sU) ?_
 clear hK K
 (try simp only [Act.put]); (try simp only [List.setIfInBounds_toArray]); (try simp only [List.set])
 refine rnL 9 (by kernel_rfl) rfl (by kernel_rfl) (fun K hK => ?_)
 go_simp
 refine hK _ _ (fun _ => sU) ?_
 clear hK K
 (try simp only [Act.put]); (try simp only [List.setIfInBounds_toArray]); (try simp only [List.set])
 refine rnL 10 (by kernel_rfl) rfl (by kernel_rfl) (fun K hK => ?_)
 go_simp
 refine hK _ _ (fun h => absurd rfl h) ?_
 clear hK K
 (try simp only [Act.put])
 refine dnL (by kernel_rfl) ?_ _
 have e1 : IntKind.i64.wrap ((n : Int) + 1 - 1) = (n : Int) := by rw [IntKind.wrap_i64]; omega
 have b3 := z1.set_ 2 (.slice O2 (n + 1) m2)
 have k3 : KeepT PT8 w (W.setCell ⟨g, 2, none⟩ (.slice O2 (n + 1) m2)) := kW.setCell (p := ⟨g, 2, none⟩) z1 (by simp) _
 have l3 : Below g w (W.setCell ⟨g, 2, none⟩ (.slice O2 (n + 1) m2)) := lW.setCell (p := ⟨g, 2, none⟩) (Nat.le_refl _) _
 have o3 := own_but q ((But.refl [g] W).setCell (p := ⟨g, 2, none⟩) (by simp) (.slice O2 (n + 1) m2)) (fun k hk hm => by
  simp only [List.mem_singleton] at hm
  subst hm
  exact own_blk q z1 (by decide) (by rw [hk]; simp))
 rw [hCS] at o3
 have B3 := Lh b3; have K3 := Lh k3; have L3 := Lh l3; have O3 := Lh o3
 have kc := b3.cell 2
 clear b3 k3 l3 o3 kW lW z1 z2 sU q hty nB nZ
 go_wp2
 go_ret
 exact ⟨rfl, ⟨K3.out, L3.out⟩, O2, m2, B3.out, O3.out⟩
theorem qNode (d : NodeD) (g N : Nat) (w : World) (rs : List Nat) (ns : List NodeP) (deep most : Nat) (h : QS F w g N rs ns deep most) (hd : NodeOk F w d) (hn : ns.length < 100000) :
  Calls Tryz.prog 113 #[.pointer (some ⟨g, 0, none⟩), d.v] w fun e w' => e = .returned (.int .i64 (ns.length : Nat)) ∧ QS F w' g N rs (ns ++ [d.n]) deep most ∧ QP g w w' := by
 obtain ⟨A, c, O, m, rs0, p, h1, h2, h3, ⟨ds, hds, hown, hall⟩, h5⟩ := h.ex
 refine (nodeW g ns.length _ _ _ _ false O ns.length m _ _ _ _ _ _ _ _ _ _ w rfl h1 hown (by omega)).mono ?_
 rintro e w' ⟨rfl, hk, O2, m2, b2, o2⟩
 refine ⟨rfl, ⟨⟨A, c, O2, m2, rs0, p, ?_, h2.keep hk.keep (by decide), h3, ⟨ds ++ [d], by rw [List.map_append, hds]; rfl, ?_, ?_⟩, h5⟩, fun k hk' => Nat.lt_of_lt_of_le (h.hF k hk') hk.keep.size, h.dm, h.mb, by rw [List.length_append]; show ns.length + 1 ≤ _; omega, h.lb⟩, hk⟩
 ·rw [List.length_append]; exact b2
 ·rw [List.length_append, List.flatMap_append]
  have e : ([d] : List NodeD).flatMap NodeD.cells = d.cells := by simp
  rw [e]
  exact o2
 intro x hx
 rcases List.mem_append.1 hx with hx | hx
 ·exact (hall x hx).keep hk.keep (by decide) (by decide)
 rw [List.mem_singleton.1 hx]; exact hd.keep hk.keep (by decide) (by decide)
theorem xNode (kk mn mx : Int) (kA : Option Addr) (kn kc : Nat) (sA : Option Addr) (sn sc : Nat) (g n : Nat) (w : World) (h : QX w g n) (hn : n < 1000000000) :
  Calls Tryz.prog 113 #[.pointer (some ⟨g, 0, none⟩), .agg #[.int .i64 kk, .slice kA kn kc, .int .i64 mn, .int .i64 mx, .slice sA sn sc]] w fun e w' => e = .returned (.int .i64 (n : Nat)) ∧ QX w' g (n + 1) ∧ QP g w w' := by
 obtain ⟨s, a, de, mo, O, m, xs, h1, h2, h3⟩ := h
 refine (nodeW g n s a de mo true O n m xs kk mn mx kA kn kc sA sn sc w rfl h1 h2 hn).mono ?_
 rintro e w' ⟨rfl, hk, O2, m2, b2, o2⟩
 exact ⟨rfl, ⟨s, a, de, mo, O2, m2, _, b2, o2, fun u hu => by
  rcases List.mem_append.1 hu with hu | hu
  ·exact h3 u hu
  simp at hu
  rcases hu with rfl | rfl | rfl | rfl | rfl <;> rfl⟩, hk⟩
theorem qIn (r : Int) (S : ByteArray) (l : Bs) (hS : S = ⟨l.toArray⟩) (w : World) (hl : l.length ≤ 100) :
  Calls Tryz.prog 189 #[.int .i32 r, .string S] w fun e w' => e = .returned (.bool (l.any fun c => decide ((c.toNat : Int) = r))) ∧ w' = w := by
 have hidx : ∀ k, k < l.length → ∀ z : Int, z = (k : Int) → (Instr.index 9 (.string S) (.int .i64 z)).run Tryz.prog w = .ok (.int .u8 (byteN l k : Nat)) w := fun k hk z hz => idx_byte (P := Tryz.prog) 9 Tryz.underlying9 S l hS z k hz hk w
 have zS : S.size = l.length := by rw [hS]; exact str_size l
 obtain ⟨ANS, hANS⟩ : ∃ ANS, (l.any fun c => decide ((c.toNat : Int) = r)) = ANS := ⟨_, rfl⟩
 obtain ⟨N, hN⟩ : ∃ N, l.length = N := ⟨_, rfl⟩
 rw [hN] at hl zS hidx
 rw [hANS]
 have HI := Lh hidx; have HA := Lh hANS; have HN := Lh hN
 clear hidx hANS hN hS
 go_enter Tryz.func189, Tryz.ntmps189
 go_wp2
 go_loopw [5] (fun i wr => ∃ k : Nat, k ≤ N ∧ i = .int .i64 k ∧ Hid ((l.take k).any (fun c => decide ((c.toNat : Int) = r)) = false) ∧ wr = w) (fun i _ => N - (intOf i).toNat)
 case atStart => exact ⟨0, Nat.zero_le _, rfl, Lh rfl, rfl⟩
 obtain ⟨k, hk, rfl, hno, hwr⟩ := hrel
 obtain rfl : w = wr := hwr.symm
 have wk1 := wS k (by omega)
 by_cases hlt : k < N
 ·have z1 : (k : Int) < (N : Int) := by omega
  obtain ⟨c, hc⟩ : ∃ c, l[k]? = some c := ⟨_, List.getElem?_eq_getElem (by rw [HN.out]; exact hlt)⟩
  have i1 := HI.out k hlt (k : Int) rfl
  have eb : byteN l k = c.toNat := by unfold byteN; rw [List.getD, hc]; rfl
  rw [eb] at i1
  have hcl := UInt8.toNat_lt c
  have w1 : IntKind.i32.wrap (c.toNat : Int) = (c.toNat : Int) := by rw [IntKind.wrap_i32]; omega
  have htk : (l.take (k + 1)).any (fun c => decide ((c.toNat : Int) = r)) = decide ((c.toNat : Int) = r) := by
   rw [List.take_add_one, hc, Option.toList_some, List.any_append, hno.out]; simp
  obtain ⟨q, hq⟩ : ∃ q, c.toNat = q := ⟨_, rfl⟩
  rw [hq] at i1 w1 htk hcl
  by_cases he : (q : Int) = r
  ·have hans : ANS = true := by
    rw [← HA.out, List.any_eq_true]
    exact ⟨c, List.mem_of_getElem? hc, by rw [hq]; exact decide_eq_true he⟩
   have HAn := Lh hans
   clear htk hc eb hq hno hans
   go_wp2
   go_ret
   exact ⟨by rw [HAn.out]; rfl, rfl⟩
  rw [decide_eq_false he] at htk
  have HT := Lh htk
  clear htk hc eb hq hno
  go_wp2
  go_roundw
  case rel => exact ⟨k + 1, by omega, by go_num, HT, by first | rfl | trivial⟩
  case measure => simp [intOf]; omega
 obtain rfl : k = N := by omega
 have z1 : ¬ (k : Int) < (k : Int) := by omega
 have hans : ANS = false := by
  rw [← HA.out, ← hno.out, List.take_of_length_le (by rw [HN.out]; exact Nat.le_refl _)]
 have HAn := Lh hans
 clear hno hans
 go_wp2
 go_ret
 exact ⟨by rw [HAn.out]; rfl, rfl⟩
end
end Go.Proofs.YtecejnilajbdpaaGreatDoor
