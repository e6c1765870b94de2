import Derived.Test.YtecejnilajbdpaaGreatDoorTz17
import Derived.Test.YtecejnilajbdpaaGreatDoorTz26
set_option maxRecDepth 100000
set_option maxHeartbeats 32000000
namespace Garner
open Go
theorem dec_byte (l : Bs) (pos : Nat) (b : UInt8) (hb : l[pos]? = some b) : (b.toNat < 128 ∧ Utf8.decode ⟨l.toArray⟩ pos = (b.toNat, 1)) ∨ (128 ≤ b.toNat ∧ 128 ≤ (Utf8.decode ⟨l.toArray⟩ pos).1) := by
 have e : (⟨l.toArray⟩ : ByteArray).data.toList = l := by simp
 rw [Lib.decode_N, e]
 have h0 : l.getD pos 0 = b := by rw [List.getD_eq_getElem?_getD, hb]; rfl
 rw [h0]
 generalize (l.getD (pos + 1) 0).toNat = b1
 generalize (l.getD (pos + 2) 0).toNat = b2
 generalize (l.getD (pos + 3) 0).toNat = b3
 generalize l.length - pos = N
 by_cases h : b.toNat < 128
 ·exact .inl ⟨h, by unfold Lib.decodeN; rw [if_pos h]⟩
 refine .inr ⟨by omega, ?_⟩
 unfold Lib.decodeN
 rw [if_neg h]
 repeat' split
 all_goals (try simp only)
 all_goals omega
theorem nameAll_at {f : Bool} {s : Bs} {k : Nat} {b : UInt8} (h : s[k]? = some b) : nameAll f (s.drop k) = (nameC f b && nameAll false (s.drop (k + 1))) := by
 obtain ⟨h1, h2⟩ := List.getElem?_eq_some_iff.1 h
 rw [List.drop_eq_getElem_cons h1, h2, nameAll]
end Garner
namespace Go.Proofs.YtecejnilajbdpaaGreatDoor
open Go.RowKit Garner
structure NameS (w wr : World) (s : Bs) (pos : Nat) : Prop where
 it : wr.heap[w.heap.size]? = some (.stringIter ⟨s.toArray⟩ pos)
 low : Below w.heap.size w wr
 eq : nameAll true s = nameAll (decide (pos = 0)) (s.drop pos)
theorem vLName (S : ByteArray) (s : Bs) (hS : S = ⟨s.toArray⟩) (w : World) (hl : s.length ≤ 9223372036854775807) :
  Calls Tryz.prog 117 #[.string S] w fun e w' => e = .returned (.bool (nameP s)) ∧ Below w.heap.size w w' := by
 have hsz := str_size s
 obtain ⟨ANS, hA⟩ : ∃ ANS, nameP s = ANS := ⟨_, rfl⟩
 rw [hA]
 have HS := Lh hS; have Hsz := Lh hsz; have HA := Lh hA
 clear hS hsz hA
 go_enter Tryz.func117, Tryz.ntmps117
 go_wp2
 go_loopw [] (fun wr => ∃ pos : Nat, Hid (NameS w wr s pos)) (fun wr => s.length - wr.iterPos w.heap.size)
 case atStart =>
  refine ⟨0, Lh ⟨?_, (Below.refl _ w).alloc (Nat.le_refl _) _, rfl⟩⟩
  rw [← HS.out]; exact World.iter_heap w S 0
 obtain ⟨pos, hst⟩ := hrel
 have hit := hst.out.it
 have hsz := Hsz.out
 rw [← HS.out] at hit hsz
 by_cases hpos : pos < s.length
 ·obtain ⟨b, hb⟩ : ∃ b, s[pos]? = some b := ⟨_, List.getElem?_eq_getElem hpos⟩
  have hdb := dec_byte s pos b hb
  obtain ⟨r, hr⟩ : ∃ r, (Utf8.decode ⟨s.toArray⟩ pos).1 = r := ⟨_, rfl⟩
  obtain ⟨q', hq⟩ : ∃ q', (Utf8.decode ⟨s.toArray⟩ pos).2 = q' := ⟨_, rfl⟩
  have hde : Utf8.decode ⟨s.toArray⟩ pos = (r, q') := Prod.ext hr hq
  rw [hde] at hdb
  have hnx : ∀ ty, (Instr.next (.pointer (some ⟨w.heap.size, 0, none⟩)) true ty).run Tryz.prog wr = _ := fun ty => Lib.run_next_any_at wr w.heap.size S pos ty hit (by omega)
  rw [HS.out, hde] at hnx
  obtain ⟨Y, hY⟩ : ∃ Y, Y = wr.iterAt w.heap.size ⟨s.toArray⟩ (pos + q') := ⟨_, rfl⟩
  rw [← hY] at hnx
  have hitY : Y.heap[w.heap.size]? = some (.stringIter ⟨s.toArray⟩ (pos + q')) := by rw [hY]; exact Lib.iterAt_heap _ _ _ _ _ hst.out.it
  have hlow : Below w.heap.size w Y := by rw [hY]; exact Lib.below_iterAt hst.out.low (Nat.le_refl _) _ _
  have heq := hst.out.eq
  rw [nameAll_at hb] at heq
  have hit1 : wr.iterPos w.heap.size = pos := by simp only [World.iterPos, hst.out.it]
  have hbad : nameC (decide (pos = 0)) b = false → ANS = false := fun h => by rw [← HA.out, nameP, heq, h]; simp
  have HIt := Lh hitY; have HLow := Lh hlow; have HEq := Lh heq; have HIt1 := Lh hit1; have HBad := Lh hbad
  have hlow9 : Below w.heap.size w Y := hlow
  have hpn : (pos = 0 ∧ (pos : Int) = 0) ∨ (0 < pos) := by omega
  have hcase : ((r < 48 ∨ (57 < r ∧ r < 95) ∨ r = 96 ∨ 122 < r) ∧ nameC (decide (pos = 0)) b = false) ∨ (((48 ≤ r ∧ r ≤ 57) ∧ pos = 0) ∧ nameC (decide (pos = 0)) b = false) ∨ ((((48 ≤ r ∧ r ≤ 57) ∧ 0 < pos) ∨ r = 95 ∨ (97 ≤ r ∧ r ≤ 122)) ∧ nameC (decide (pos = 0)) b = true ∧ q' = 1) := by
   rcases hdb with ⟨h1, h2⟩ | ⟨h1, h2⟩
   ·injection h2 with h3 h4
    have hn : nameC (decide (pos = 0)) b = (decide (r = 95) || (decide (97 ≤ r) && decide (r ≤ 122)) || (!decide (pos = 0) && (decide (48 ≤ r) && decide (r ≤ 57)))) := by unfold nameC; rw [h3]
    rw [hn, h4]
    have hcc : (r < 48 ∨ (57 < r ∧ r < 95) ∨ r = 96 ∨ 122 < r) ∨ ((48 ≤ r ∧ r ≤ 57) ∧ pos = 0) ∨ (((48 ≤ r ∧ r ≤ 57) ∧ 0 < pos) ∨ r = 95 ∨ (97 ≤ r ∧ r ≤ 122)) := by omega
    rcases hcc with h | h | h
    ·refine .inl ⟨h, ?_⟩
     simp; omega
    ·refine .inr (.inl ⟨h, ?_⟩)
     simp; omega
    refine .inr (.inr ⟨h, ?_, rfl⟩)
    simp; omega
   have h2 : 128 ≤ r := h2
   refine .inl ⟨by omega, ?_⟩
   unfold nameC
   simp; omega
  clear hitY hlow heq hit1 hbad hb hdb hde hr hq hst hit hsz hY
  rcases hcase with ⟨hr2, hno⟩ | ⟨⟨hr2, hp0⟩, hno⟩ | ⟨hr2, hyes, rfl⟩
  ·have hans := HBad.out hno
   have HAn := Lh hans
   clear hans hno
   have hr3 : ((r : Int) == 95) = false := by simp; omega
   have hr4 : ((r : Int) != 95) = true := by simp; omega
   rcases hpn with ⟨h0, -⟩ | h0
   ·subst h0
    rcases hr2 with h | h | h | h
    all_goals
     go_wp2
     go_ret
     exact ⟨by rw [HAn.out]; rfl, HLow.out⟩
   have hp3 : ((pos : Int) == 0) = false := by simp; omega
   have hp4 : ¬ (pos : Int) = 0 := by omega
   rcases hr2 with h | h | h | h
   all_goals
    go_wp2
    go_ret
    exact ⟨by rw [HAn.out]; rfl, HLow.out⟩
  ·have hans := HBad.out hno
   have HAn := Lh hans
   clear hans hno hpn
   subst hp0
   have hr3 : ((r : Int) == 95) = false := by simp; omega
   have hr4 : ((r : Int) != 95) = true := by simp; omega
   go_wp2
   go_ret
   exact ⟨by rw [HAn.out]; rfl, HLow.out⟩
  have he2 := HEq.out
  rw [hyes, Bool.true_and] at he2
  have HN : Hid (NameS w Y s (pos + 1)) := Lh ⟨HIt.out, HLow.out, he2⟩
  clear he2 hyes
  have hmea : s.length - World.iterPos Y w.heap.size < s.length - World.iterPos wr w.heap.size := by
   rw [HIt1.out]
   simp only [World.iterPos, HIt.out]
   omega
  have HMea := Lh hmea
  clear hmea
  rcases hr2 with ⟨h, h0⟩ | h | h
  ·have hp3 : ((pos : Int) == 0) = false := by simp; omega
   have hp4 : ¬ (pos : Int) = 0 := by omega
   have hr3 : ((r : Int) == 95) = false := by simp; omega
   have hr4 : ((r : Int) != 95) = true := by simp; omega
   go_wp2
   exact ⟨⟨pos + 1, HN⟩, HMea.out⟩
  ·subst h
   go_wp2
   exact ⟨⟨pos + 1, HN⟩, HMea.out⟩
  have hr3 : ((r : Int) == 95) = false := by simp; omega
  have hr4 : ((r : Int) != 95) = true := by simp; omega
  go_wp2
  exact ⟨⟨pos + 1, HN⟩, HMea.out⟩
 have hnx : ∀ ty, (Instr.next (.pointer (some ⟨w.heap.size, 0, none⟩)) true ty).run Tryz.prog wr = _ := fun ty => Lib.run_next_end_at wr w.heap.size S pos ty hit (by omega)
 have heq := hst.out.eq
 rw [List.drop_eq_nil_of_le (by omega), nameAll] at heq
 have hans : ANS = (decide (1 ≤ s.length) && decide (s.length ≤ 32)) := by rw [← HA.out, nameP, heq, Bool.and_true]
 obtain ⟨n, hn⟩ : ∃ n, s.length = n := ⟨_, rfl⟩
 rw [hn] at hsz hans
 have HAn := Lh hans; have HL := Lh hst.out.low
 have hcase : n = 0 ∨ (1 ≤ n ∧ n ≤ 32) ∨ 32 < n := by omega
 clear hans hst heq hn hpos
 have hsz2 : S.size = n := hsz
 have hz := Lh hsz2
 clear hsz
 rcases hcase with rfl | ⟨h1, h2⟩ | h1
 ·have z1 : ¬ (0 : Int) < (S.size : Int) := by omega
  clear hsz2
  go_wp2
  go_ret
  exact ⟨by rw [HAn.out]; rfl, HL.out⟩
 ·have z1 : (0 : Int) < (S.size : Int) := by omega
  have z2 : (S.size : Int) ≤ 32 := by omega
  clear hsz2
  have hb : ANS = true := by rw [HAn.out, decide_eq_true h1, decide_eq_true h2]; rfl
  have HB := Lh hb
  clear hb HAn
  go_wp2
  go_ret
  exact ⟨by rw [HB.out]; rfl, HL.out⟩
 have z1 : (0 : Int) < (S.size : Int) := by omega
 have z2 : ¬ (S.size : Int) ≤ 32 := by omega
 clear hsz2
 have hb : ANS = false := by rw [HAn.out, decide_eq_false (show ¬ n ≤ 32 by omega), Bool.and_false]
 have HB := Lh hb
 clear hb HAn
 go_wp2
 go_ret
 exact ⟨by rw [HB.out]; rfl, HL.out⟩
def OutC (K : Nat) (F : Nat → Prop) (o : Option (Re × List Nat × Nat)) (w0 : World) (g N : Nat) (ns : List NodeP) (deep most : Nat) (e : Ending) (w' : World) : Prop := match o with
 | some (t, r, d) => e = .returned (.int .i64 ((ns.length + t.cnt - 1 : Nat) : Int)) ∧ QS (Ext F w0 w') w' g N r (ns ++ t.flat ns.length) deep (max most (deep + d))
 | none => ∃ (x : Int) (n : Nat), e = .returned (.int .i64 x) ∧ QX w' g n ∧ n ≤ ns.length + K
def QAltC (L : Nat) : Prop := ∀ (F : Nat → Prop) (g N : Nat) (w : World) (rs : List Nat) (ns : List NodeP) (deep most : Nat), rs.length ≤ L → QS F w g N rs ns deep most → ns.length + 4 * rs.length ≤ 5000 → deep + rs.length ≤ 500 →
 Calls Tryz.prog 81 #[.pointer (some ⟨g, 0, none⟩)] w fun e w' => QP g w w' ∧ OutC (4 * rs.length + 4) F ((altF rs).map fun p => (manyR .alt p.1, p.2.1, p.2.2)) w g N ns deep most e w'
def QRowC (L : Nat) : Prop := ∀ (F : Nat → Prop) (g N : Nat) (w : World) (rs : List Nat) (ns : List NodeP) (deep most : Nat), rs.length ≤ L → QS F w g N rs ns deep most → ns.length + 4 * rs.length ≤ 5000 → deep + rs.length ≤ 500 →
 Calls Tryz.prog 112 #[.pointer (some ⟨g, 0, none⟩)] w fun e w' => QP g w w' ∧ OutC (4 * rs.length + 3) F ((rowF rs).map fun p => (rowOf p.1, p.2.1, p.2.2)) w g N ns deep most e w'
def QItemC (L : Nat) : Prop := ∀ (F : Nat → Prop) (g N : Nat) (w : World) (rs : List Nat) (ns : List NodeP) (deep most : Nat), rs.length ≤ L → QS F w g N rs ns deep most → ns.length + 4 * rs.length ≤ 5000 → deep + rs.length ≤ 500 →
 Calls Tryz.prog 140 #[.pointer (some ⟨g, 0, none⟩)] w fun e w' => QP g w w' ∧ OutC (4 * rs.length + 2) F (itemF rs) w g N ns deep most e w'
def QAtomC (L : Nat) : Prop := ∀ (F : Nat → Prop) (g N : Nat) (w : World) (rs : List Nat) (ns : List NodeP) (deep most : Nat), rs.length ≤ L → QS F w g N rs ns deep most → ns.length + 4 * rs.length ≤ 5000 → deep + rs.length ≤ 500 →
 Calls Tryz.prog 158 #[.pointer (some ⟨g, 0, none⟩)] w fun e w' => QP g w w' ∧ OutC (4 * rs.length + 1) F (atomF rs) w g N ns deep most e w'
section
variable {F : Nat → Prop}
theorem outC_of_Q {K : Nat} {o : Option (Re × List Nat)} {w0 w1 : World} {g N : Nat} {ns : List NodeP} {deep most : Nat} {e : Ending} {w' : World} (h : OutQ K F o w1 g N ns deep most e w') (hd : deep ≤ most) (hs : w0.heap.size ≤ w1.heap.size) (h0 : ∀ k, F k → k < w0.heap.size) (hs' : w0.heap.size ≤ w'.heap.size) {K' : Nat} (hK : K ≤ K') : OutC K' F (o.map fun p => (p.1, p.2, 0)) w0 g N ns deep most e w' := by
 cases o with
 | none =>
  obtain ⟨x, n, h1, h2, h3⟩ := h
  exact ⟨x, n, h1, h2, by omega⟩
 | some p =>
  obtain ⟨rfl, h2⟩ := h
  refine ⟨rfl, ?_⟩
  rw [show max most (deep + 0) = most by omega]
  refine h2.mono (fun k hk => ?_) (Ext.lt h0 hs')
  rcases hk with hk | hk
  ·exact .inl hk
  exact .inr ⟨by omega, hk.2⟩
theorem qBareNode (K kind : Nat) (t : Re) (ht : ∀ b, t.flat b = [⟨kind, [], 0, 0, []⟩]) (hc : t.cnt = 1) (g N : Nat) (w w1 : World) (r : List Nat) (ns : List NodeP) (deep most : Nat) (h : QS F w1 g N r ns deep most) (h0 : ∀ k, F k → k < w.heap.size) (k1 : QP g w w1) (hns : ns.length < 100000) :
  Calls Tryz.prog 113 #[.pointer (some ⟨g, 0, none⟩), .agg #[.int .i64 kind, .slice none 0 0, .int .i64 0, .int .i64 0, .slice none 0 0]] w1 fun e w' => QP g w w' ∧ OutQ K F (some (t, r)) w g N ns deep most e w' := by
 have hx := h.ext h0 k1.keep.size
 have hd : NodeOk (Ext F w w1) w1 ⟨⟨kind, [], 0, 0, []⟩, none, 0, none, 0⟩ := ⟨RowT.nil, RowT.nil, fun a e => (by cases e), fun a e => (by cases e)⟩
 refine (qNode ⟨⟨kind, [], 0, 0, []⟩, none, 0, none, 0⟩ g N w1 r ns deep most hx hd hns).mono ?_
 rintro e w2 ⟨rfl, h2, k2⟩
 have s1 := k1.keep.size
 have s2 := k2.keep.size
 refine ⟨k1.trans k2, by rw [hc]; rfl, ?_⟩
 rw [ht]
 refine h2.mono (fun k hk => ?_) (Ext.lt h0 (Nat.le_trans s1 s2))
 rcases hk with hk | hk
 ·exact .inl hk
 exact .inr ⟨hk.1, by omega⟩
theorem QS.setDeep {w : World} {g N : Nat} {rs : List Nat} {ns : List NodeP} {deep most : Nat} (h : QS F w g N rs ns deep most) (d : Nat) (hd : d ≤ most) : QS F (w.setCell ⟨g, 3, none⟩ (.int .i64 (d : Nat))) g N rs ns d most ∧ QP g w (w.setCell ⟨g, 3, none⟩ (.int .i64 (d : Nat))) := by
 obtain ⟨A, c, O, m, rs0, p, hb, hr, h3, hn, h5⟩ := h.ex
 have hk : KeepT [132] w (w.setCell ⟨g, 3, none⟩ (.int .i64 (d : Nat))) := (KeepT.refl _ w).setCell (p := ⟨g, 3, none⟩) hb (by simp) _
 exact ⟨⟨⟨A, c, O, m, rs0, p, hb.set_ 3 _, hr.keep hk (by decide), h3, hn.keep hk (by decide) (by decide) (by decide), h5⟩, fun k hk => (by have := h.hF k hk; simpa [World.setCell] using this), hd, h.mb, h.nb, h.lb⟩, ⟨(KeepT.refl _ w).setCell (p := ⟨g, 3, none⟩) hb (by simp) _, (Below.refl _ _).setCell (p := ⟨g, 3, none⟩) (Nat.le_refl _) _⟩⟩
theorem QS.setMost {w : World} {g N : Nat} {rs : List Nat} {ns : List NodeP} {deep most : Nat} (h : QS F w g N rs ns deep most) (d m' : Nat) (hd : d ≤ m') (hm : m' ≤ 100000) : QS F ((w.setCell ⟨g, 3, none⟩ (.int .i64 (d : Nat))).setCell ⟨g, 4, none⟩ (.int .i64 (m' : Nat))) g N rs ns d m' ∧ QP g w ((w.setCell ⟨g, 3, none⟩ (.int .i64 (d : Nat))).setCell ⟨g, 4, none⟩ (.int .i64 (m' : Nat))) := by
 obtain ⟨A, c, O, m, rs0, p, hb, hr, h3, hn, h5⟩ := h.ex
 have hb2 := hb.set_ 3 (.int .i64 (d : Nat))
 have hk : KeepT [132] w ((w.setCell ⟨g, 3, none⟩ (.int .i64 (d : Nat))).setCell ⟨g, 4, none⟩ (.int .i64 (m' : Nat))) := ((KeepT.refl _ w).setCell (p := ⟨g, 3, none⟩) hb (by simp) _).setCell (p := ⟨g, 4, none⟩) hb2 (by simp) _
 exact ⟨⟨⟨A, c, O, m, rs0, p, hb2.set_ 4 _, hr.keep hk (by decide), h3, hn.keep hk (by decide) (by decide) (by decide), h5⟩, fun k hk => (by have := h.hF k hk; simpa [World.setCell] using this), hd, hm, h.nb, h.lb⟩, ⟨((KeepT.refl _ w).setCell (p := ⟨g, 3, none⟩) hb (by simp) _).setCell (p := ⟨g, 4, none⟩) hb2 (by simp) _, ((Below.refl _ _).setCell (p := ⟨g, 3, none⟩) (Nat.le_refl _) _).setCell (p := ⟨g, 4, none⟩) (Nat.le_refl _) _⟩⟩
theorem QX.setDeep {w : World} {g n : Nat} (h : QX w g n) : ∃ de : Int, w.cell? ⟨g, 3, none⟩ = some (.int .i64 de) ∧ w.frozen? ⟨g, 3, none⟩ = false ∧ ∀ x : Int, QX (w.setCell ⟨g, 3, none⟩ (.int .i64 x)) g n ∧ QP g w (w.setCell ⟨g, 3, none⟩ (.int .i64 x)) := by
 obtain ⟨s, a, de, mo, O, m, xs, h1, h2, h3⟩ := h
 refine ⟨de, h1.cell 3, h1.frozen 3, fun x => ?_⟩
 have hk : KeepT [132] w (w.setCell ⟨g, 3, none⟩ (.int .i64 x)) := (KeepT.refl _ w).setCell (p := ⟨g, 3, none⟩) h1 (by simp) _
 exact ⟨⟨s, a, x, mo, O, m, xs, h1.set_ 3 _, hk.own h2 (by decide), h3⟩, ⟨(KeepT.refl _ w).setCell (p := ⟨g, 3, none⟩) h1 (by simp) _, (Below.refl _ _).setCell (p := ⟨g, 3, none⟩) (Nat.le_refl _) _⟩⟩
theorem QS.cells {w : World} {g N : Nat} {rs : List Nat} {ns : List NodeP} {deep most : Nat} (h : QS F w g N rs ns deep most) : w.cell? ⟨g, 3, none⟩ = some (.int .i64 (deep : Nat)) ∧ w.cell? ⟨g, 4, none⟩ = some (.int .i64 (most : Nat)) ∧ w.frozen? ⟨g, 3, none⟩ = false ∧ w.frozen? ⟨g, 4, none⟩ = false := by
 obtain ⟨A, c, O, m, rs0, p, hb, -⟩ := h.ex
 exact ⟨hb.cell 3, hb.cell 4, hb.frozen 3, hb.frozen 4⟩
theorem QS.drew {w : World} {g N : Nat} {rs : List Nat} {ns : List NodeP} {deep most : Nat} (h : QS F w g N rs ns deep most) : QS F w.drew g N rs ns deep most := h.below (Below.refl _ _).drew
end
open Go.RowKit Garner
theorem qBadRune {F : Nat → Prop} (K : Nat) (g N n : Nat) (w w1 : World) (ns : List NodeP) (deep most : Nat) (hn : n = ns.length) (hK : 1 ≤ K) (h : QX w1 g n) (k1 : QP g w w1) (hns : ns.length < 100000) (A : Option Addr) (c : Nat) :
  Calls Tryz.prog 113 #[.pointer (some ⟨g, 0, none⟩), .agg #[.int .i64 2, .slice none 0 0, .int .i64 0, .int .i64 0, .slice A 2 c]] w1 fun e w' => ∃ y : Int, e = .returned (.int .i64 y) ∧ QP g w w' ∧ OutC K F none w g N ns deep most (.returned (.int .i64 y)) w' := by
 subst hn
 refine (xNode 2 0 0 none 0 0 A 2 c g ns.length w1 h (by omega)).mono ?_
 rintro e w' ⟨rfl, h2, k2⟩
 exact ⟨_, rfl, k1.trans k2, _, _, rfl, h2, by omega⟩
theorem qAtom (L : Nat) (hA : ∀ K, K < L → QAltC K) : QAtomC L := by
 intro F g N w rs ns deep most hL h hns hdp
 have hgw := h.lt
 have HF := Lh h.hF
 have hdm := h.dm
 have hmb := h.mb
 have hp := qPeek g N w rs ns deep most h
 have hn9 : ns.length < 100000 := by omega
 have HP := Lh hp; have H := Lh h
 clear hp h
 go_enter Tryz.func158, Tryz.ntmps158
 cases rs with
 | nil =>
  have hp : Calls _ _ _ _ fun e w' => e = .returned (.int .i32 (-1)) ∧ Below w.heap.size w w' := HP.out
  have HP2 := Lh hp
  clear hp HP
  go_wp2_with fail
  refine HP2.out.mono ?_
  rintro e w1 ⟨rfl, hb⟩
  obtain ⟨p, c1, f1, hp2, hx⟩ := (H.out.below hb).bad2
  obtain ⟨c5, f5, hq, hk, -⟩ := hx _ (Below.refl _ _)
  have w1' : IntKind.i64.wrap ((p : Int) + 1) = (p : Int) + 1 := by rw [IntKind.wrap_i64]; omega
  obtain ⟨X, hX⟩ : ∃ X, X = (w1.setCell ⟨g, 1, none⟩ (.int .i64 ((p : Int) + 1))).setCell ⟨g, 5, none⟩ (.bool true) := ⟨_, rfl⟩
  rw [← hX] at hq hk
  have hbn : Below X.heap.size X (X.alloc (.cells #[.int .i32 (-1), .int .i32 (-1)] 21)) := (Below.refl _ _).alloc (Nat.le_refl _) _
  have hv := qBadRune (F := F) 1 g N ns.length w _ ns deep most rfl (Nat.le_refl _) (hq.below hbn) (((QP.of_below hb (Nat.le_of_lt hgw)).trans hk).trans (.of_below hbn (Nat.le_of_lt hq.lt))) hn9 (some ⟨X.heap.size, 0, none⟩) 2
  have HV := Lh hv; have HX := Lh hX
  clear hq hk hx hv hbn hX
  go_upto_region 25 with fail
  rw [← HX.out]
  clear HX
  go_wp2_with fail
  refine HV.out.mono ?_
  rintro e w3 ⟨y, rfl, k3, o3⟩
  have O3 := Lh o3
  clear o3
  go_wp2
  go_ret
  exact ⟨k3, O3.out⟩
 | cons a r =>
  have hb := H.out.rb a (by simp)
  have hl : r.length + 1 ≤ L := by simpa using hL
  have hns2 : ns.length + 4 * r.length ≤ 4996 := by simp at hns; omega
  have hdp2 : deep + 1 + r.length ≤ 500 := by simp at hdp; omega
  have heq := atomF_eq a r
  obtain ⟨OUT, hOUT⟩ : ∃ OUT, atomF (a :: r) = OUT := ⟨_, rfl⟩
  rw [hOUT] at heq ⊢
  obtain ⟨KK, hKK⟩ : ∃ KK, 4 * (a :: r).length + 1 = KK := ⟨_, rfl⟩
  rw [hKK]
  have hKr : KK = 4 * r.length + 5 := by rw [← hKK, List.length_cons]; omega
  have hK1 : 4 * r.length + 5 ≤ KK := by omega
  have HE := Lh heq
  clear heq hOUT hKK hKr
  have hp : Calls _ _ _ _ fun e w' => e = .returned (.int .i32 (a : Nat)) ∧ Below w.heap.size w w' := HP.out
  have HP2 := Lh hp
  clear hp HP
  go_wp2_with fail
  refine HP2.out.mono ?_
  rintro e w0 ⟨rfl, hb1⟩
  have hs1 := H.out.below hb1
  obtain ⟨p, c1, f1, hp2, hq, hk⟩ := hs1.step
  have w1' : IntKind.i64.wrap ((p : Int) + 1) = (p : Int) + 1 := by rw [IntKind.wrap_i64]; omega
  obtain ⟨w1, hX⟩ : ∃ w1, w1 = w0.setCell ⟨g, 1, none⟩ (.int .i64 ((p : Int) + 1)) := ⟨_, rfl⟩
  rw [← hX] at hq hk
  have h1 := Lh hq; have k1 := Lh ((QP.of_below hb1 (Nat.le_of_lt hgw)).trans hk); have HX := Lh hX
  have s1 := k1.out.keep.size
  clear hq hk hs1 hX
  go_upto_region 3 with fail
  rw [← HX.out]
  clear HX c1 f1 w1' H HP2
  by_cases c1 : a = 40
  ·subst c1
   rw [show ((40 : Nat) : Int) = 40 from rfl]
   have he := HE.out
   rw [if_pos rfl] at he
   have HE2 := Lh he
   clear he
   obtain ⟨f3, f4, z3, z4⟩ := h1.out.cells
   have wd : IntKind.i64.wrap ((deep : Int) + 1) = (deep : Int) + 1 := by rw [IntKind.wrap_i64]; omega
   have hhB := fun m' hd hm => h1.out.setMost (deep + 1) m' hd hm
   have hdd := fun hd => h1.out.setDeep (deep + 1) hd
   obtain ⟨A, c, O, m, rs0, p', hbk, -⟩ := h1.out.ex
   have hb2 := hbk.set_ 3 (.int .i64 ((deep + 1 : Nat) : Int))
   obtain ⟨X, hX⟩ : ∃ X, X = w1.setCell ⟨g, 3, none⟩ (.int .i64 ((deep : Int) + 1)) := ⟨_, rfl⟩
   have hX2 : X = w1.setCell ⟨g, 3, none⟩ (.int .i64 ((deep + 1 : Nat) : Int)) := hX
   rw [← hX2] at hb2 hdd
   have hhB2 : ∀ m', deep + 1 ≤ m' → m' ≤ 100000 → QS F (X.setCell ⟨g, 4, none⟩ (.int .i64 (m' : Nat))) g N r ns (deep + 1) m' ∧ QP g w1 (X.setCell ⟨g, 4, none⟩ (.int .i64 (m' : Nat))) := fun m' hd hm => by rw [hX2]; exact hhB m' hd hm
   have HX := Lh hX; have HB := Lh hhB2; have HD := Lh hdd
   clear hhB hX hX2 hhB2 hdd hbk
   go_upto_region 6 with fail
   rw [← HX.out]
   have x3 : X.cell? ⟨g, 3, none⟩ = some (.int .i64 ((deep : Int) + 1)) := hb2.cell 3
   have x4 : X.cell? ⟨g, 4, none⟩ = some (.int .i64 (most : Nat)) := hb2.cell 4
   have xf : X.frozen? ⟨g, 4, none⟩ = false := hb2.frozen 4
   clear f3 f4 z3 z4 HX hb2
   go_quiet (fail)
   go_upto_if 32 with fail
   go_cut [] from 24 to 39 (fun wx => QS F wx g N r ns (deep + 1) (max most (deep + 1)) ∧ QP g w1 wx)
   case first =>
    by_cases hgt : most < deep + 1
    ·have hd : decide ((deep : Int) + 1 > (most : Int)) = true := decide_eq_true (by omega)
     have hd2 : (most : Int) < (deep : Int) + 1 := by omega
     obtain ⟨q1, q2⟩ := HB.out (deep + 1) (Nat.le_refl _) (by omega)
     have Q1 := Lh q1; have Q2 := Lh q2
     clear q1 q2
     go_wp2
     go_meet
     rw [show max most (deep + 1) = deep + 1 by omega]
     exact ⟨Q1.out.below (belowN (Below.refl _ _) _), Q2.out.trans (.of_below (belowN (Below.refl _ _) _) (Nat.le_of_lt Q1.out.lt))⟩
    have hd : decide ((deep : Int) + 1 > (most : Int)) = false := decide_eq_false (by omega)
    have hd2 : ¬ (most : Int) < (deep : Int) + 1 := by omega
    obtain ⟨q1, q2⟩ := HD.out (by omega)
    have Q1 := Lh q1; have Q2 := Lh q2
    clear q1 q2
    go_wp2
    go_meet
    rw [show max most (deep + 1) = most by omega]
    exact ⟨Q1.out.below (belowN (Below.refl _ _) _), Q2.out.trans (.of_below (belowN (Below.refl _ _) _) (Nat.le_of_lt Q1.out.lt))⟩
   obtain ⟨hps, hpk0⟩ := hcut
   obtain ⟨Y, rfl⟩ : ∃ Y : World, Y = wc := ⟨_, rfl⟩
   have hpk := k1.out.trans hpk0
   have ha := hA r.length (by omega) F g N Y r ns (deep + 1) (max most (deep + 1)) (Nat.le_refl _) hps (by omega) hdp2
   have sY := hpk.keep.size
   have HK := Lh hpk; have Ha := Lh ha
   clear hps hpk hpk0 ha x3 x4 xf HB HD
   go_wp2_with fail
   refine Ha.out.mono ?_
   rintro e w2 ⟨k2, o2⟩
   have s2 := k2.keep.size
   cases ho : altF r with
   | none =>
    rw [ho] at o2
    obtain ⟨x, n, rfl, hx2, hxn⟩ := o2
    have he := HE2.out
    rw [ho] at he
    have HE3 : Hid (OUT = none) := Lh he
    have HX2 := Lh hx2; have HK2 := Lh (HK.out.trans k2)
    clear he hx2 ho k2
    go_wp2_with fail
    refine (xIs 41 g n w2 HX2.out).mono ?_
    rintro e w3 ⟨rfl, hb3⟩
    have hx3 := HX2.out.below hb3
    obtain ⟨c5, f5⟩ := hx3.cell5
    obtain ⟨hx4, k4⟩ := hx3.bad
    obtain ⟨Z, hZ⟩ : ∃ Z, Z = w3.setCell ⟨g, 5, none⟩ (.bool true) := ⟨_, rfl⟩
    rw [← hZ] at hx4 k4
    obtain ⟨de, d1, d2, d3⟩ := hx4.setDeep
    have D3 := Lh d3; have K6 := Lh ((HK2.out.trans (.of_below hb3 (Nat.le_of_lt HX2.out.lt))).trans k4); have HZ := Lh hZ
    clear d3 hx3 hx4 k4 hZ
    go_upto_region 11 with fail
    rw [← HZ.out]
    clear HZ
    go_wp2
    go_ret
    refine ⟨K6.out.trans (D3.out _).2, ?_⟩
    rw [HE3.out]
    exact ⟨x, n, rfl, (D3.out _).1, by omega⟩
   | some q =>
    obtain ⟨ts, r2, d⟩ := q
    rw [ho] at o2
    obtain ⟨rfl, h2⟩ := o2
    have he := HE2.out
    rw [ho] at he
    dsimp only at he
    dsimp only at h2
    have hcn := (altF_cnt ho).1
    have hmc := many_cnt Re.alt (fun _ => rfl) ts
    have hv := qIs_any 41 g N w2 r2 _ _ _ h2
    have HE3 := Lh he; have HK2 := Lh (HK.out.trans k2)
    clear he h2 ho Ha HE2 HE
    obtain ⟨kv, hkv⟩ : ∃ kv, ns.length + (manyR Re.alt ts).cnt - 1 = kv := ⟨_, rfl⟩
    rw [hkv]
    have Hkv := Lh hkv
    clear hkv
    by_cases hd : r2.head? = some 41
    ·rw [if_pos hd, decide_eq_true hd] at hv
     have Hd := Lh hd; clear hd
     have HV := Lh hv; clear hv
     go_wp2_with fail
     refine HV.out.mono ?_
     rintro e w3 ⟨rfl, h3, k3⟩
     obtain ⟨f2, -, z2, -⟩ := h3.cells
     have w3' : IntKind.i64.wrap (((deep + 1 : Nat) : Int) - 1) = (deep : Int) := by rw [IntKind.wrap_i64]; omega
     have w3'' : IntKind.i64.wrap ((deep : Int) + 1 - 1) = (deep : Int) := by rw [IntKind.wrap_i64]; omega
     obtain ⟨h5, k5⟩ := h3.setDeep deep (by omega)
     have s3 := k3.keep.size
     have s5 := k5.keep.size
     have H5 := Lh h5; have K5 := Lh (HK2.out.trans (k3.trans k5))
     clear h5 k5 h3
     go_wp2
     go_ret
     refine ⟨K5.out, ?_⟩
     have he := HE3.out
     rw [if_pos Hd.out] at he
     rw [he]
     refine ⟨congrArg (fun x : Nat => Ending.returned (.int .i64 (x : Int))) Hkv.out.symm, ?_⟩
     have h6 := H5.out
     rw [show max (max most (deep + 1)) (deep + 1 + d) = max most (deep + (d + 1)) by omega] at h6
     refine h6.mono (fun k hk => ?_) (Ext.lt HF.out (by omega))
     rcases hk with hk | hk
     ·exact .inl hk
     exact .inr ⟨by omega, by omega⟩
    rw [if_neg hd, decide_eq_false hd] at hv
    have Hd := Lh hd; clear hd
    have HV := Lh hv; clear hv
    go_wp2_with fail
    refine HV.out.mono ?_
    rintro e w3 ⟨rfl, h3, k3⟩
    obtain ⟨c5, f5⟩ := h3.cell5
    obtain ⟨hx4, k4⟩ := h3.bad
    obtain ⟨Z, hZ⟩ : ∃ Z, Z = w3.setCell ⟨g, 5, none⟩ (.bool true) := ⟨_, rfl⟩
    rw [← hZ] at hx4 k4
    obtain ⟨de, d1, d2, d3⟩ := hx4.setDeep
    have D3 := Lh d3; have K6 := Lh ((HK2.out.trans k3).trans k4); have HZ := Lh hZ
    clear d3 h3 hx4 k4 hZ k3
    go_upto_region 11 with fail
    rw [← HZ.out]
    clear HZ
    go_wp2
    go_ret
    refine ⟨K6.out.trans (D3.out _).2, ?_⟩
    have he := HE3.out
    rw [if_neg Hd.out] at he
    rw [he]
    exact ⟨_, (ns ++ (manyR Re.alt ts).flat ns.length).length, rfl, (D3.out _).1, by rw [List.length_append, flat_len]; omega⟩
  by_cases c2 : a = 91
  ·subst c2
   have he := HE.out
   rw [if_neg (by decide), if_pos rfl] at he
   have HE2 := Lh he
   clear he
   go_wp2_with fail
   refine (qClass g N w1 r ns deep most h1.out hn9).mono ?_
   rintro e w3 ⟨k3, o3⟩
   have hA2 := outC_of_Q (K' := KK) (w0 := w) o3 hdm s1 HF.out (Nat.le_trans s1 k3.keep.size) (Nat.zero_le _)
   have K3 := Lh (k1.out.trans k3)
   have hOU : OUT = ((classR r).map fun p => (Re.set p.1, p.2)).map fun p => (p.1, p.2, 0) := by
    rw [HE2.out]; cases classR r <;> rfl
   rw [← hOU] at hA2
   have hret : ∃ x : Int, e = .returned (.int .i64 x) := by
    cases hc : classR r with
    | none =>
     rw [hc] at o3
     obtain ⟨x, n, rfl, -⟩ := o3
     exact ⟨x, rfl⟩
    | some q =>
     rw [hc] at o3
     exact ⟨_, o3.1⟩
   obtain ⟨x, rfl⟩ := hret
   have HA2 := Lh hA2
   clear hA2 hOU o3 k3
   go_wp2
   go_ret
   exact ⟨K3.out, HA2.out⟩
  by_cases c3 : a = 46
  ·subst c3
   have he := HE.out
   rw [if_neg (by decide), if_neg (by decide), if_pos rfl] at he
   have HE2 := Lh he
   have hb1 : Below w1.heap.size w1 (w1.alloc (.cells ([0, 9, 11, 1114111].map rv).toArray 21)) := (Below.refl _ _).alloc (Nat.le_refl _) _
   have hv := qSetNode (F := F) 0 [0, 9, 11, 1114111] (some ⟨w1.heap.size, 0, none⟩) 4 4 g N w (w1.alloc (.cells ([0, 9, 11, 1114111].map rv).toArray 21)) r ns deep most rfl (h1.out.below hb1) HF.out (k1.out.trans (.of_below hb1 (Nat.le_of_lt h1.out.lt))) (RowT.new w1 21 ([0, 9, 11, 1114111].map rv)) (fun a e => (by cases e; exact ⟨s1, by simp⟩)) hn9
   have HV := Lh hv
   clear he hv hb1
   go_wp2_with fail
   refine HV.out.mono ?_
   rintro e w3 ⟨k3, o3⟩
   have hA2 := outC_of_Q (K' := KK) o3 hdm (Nat.le_refl _) HF.out k3.keep.size (Nat.zero_le _)
   obtain ⟨rfl, h3⟩ := o3
   have HA2 := Lh hA2; have K3 := Lh k3
   clear hA2 h3 k3
   go_wp2
   go_ret
   exact ⟨K3.out, by rw [HE2.out]; exact HA2.out⟩
  by_cases c4 : a = 94
  ·subst c4
   have he := HE.out
   rw [if_neg (by decide), if_neg (by decide), if_neg (by decide), if_pos rfl] at he
   have HE2 := Lh he
   have hv := qBareNode (F := F) 0 6 .bgn (fun _ => rfl) rfl g N w w1 r ns deep most h1.out HF.out k1.out hn9
   have HV := Lh hv
   clear he hv
   go_wp2_with fail
   refine HV.out.mono ?_
   rintro e w3 ⟨k3, o3⟩
   have hA2 := outC_of_Q (K' := KK) o3 hdm (Nat.le_refl _) HF.out k3.keep.size (Nat.zero_le _)
   obtain ⟨rfl, h3⟩ := o3
   have HA2 := Lh hA2; have K3 := Lh k3
   clear hA2 h3 k3
   go_wp2
   go_ret
   exact ⟨K3.out, by rw [HE2.out]; exact HA2.out⟩
  by_cases c5 : a = 36
  ·subst c5
   have he := HE.out
   rw [if_neg (by decide), if_neg (by decide), if_neg (by decide), if_neg (by decide), if_pos rfl] at he
   have HE2 := Lh he
   have hv := qBareNode (F := F) 0 7 .fin (fun _ => rfl) rfl g N w w1 r ns deep most h1.out HF.out k1.out hn9
   have HV := Lh hv
   clear he hv
   go_wp2_with fail
   refine HV.out.mono ?_
   rintro e w3 ⟨k3, o3⟩
   have hA2 := outC_of_Q (K' := KK) o3 hdm (Nat.le_refl _) HF.out k3.keep.size (Nat.zero_le _)
   obtain ⟨rfl, h3⟩ := o3
   have HA2 := Lh hA2; have K3 := Lh k3
   clear hA2 h3 k3
   go_wp2
   go_ret
   exact ⟨K3.out, by rw [HE2.out]; exact HA2.out⟩
  by_cases c6 : a = 92
  ·subst c6
   have he := HE.out
   rw [if_neg (by decide), if_neg (by decide), if_neg (by decide), if_neg (by decide), if_neg (by decide), if_pos rfl] at he
   have HE0 := Lh he
   clear he
   go_wp2_with fail
   refine (qEsc g N w1 r ns deep most h1.out).mono ?_
   rintro e w2 ⟨k2, o2⟩
   have s2 := k2.keep.size
   cases hc : escR r with
   | none =>
    rw [hc] at o2
    obtain ⟨b, c, x, rfl, hr2, hx2, -, -⟩ := o2
    have hv := qBadRune (F := F) KK g N ns.length w w2 ns deep most rfl (by omega) hx2 (k1.out.trans k2) hn9 (some ⟨b, 0, none⟩) c
    have he := HE0.out
    rw [hc] at he
    have HE2 : Hid (OUT = none) := Lh he
    have HV := Lh hv
    clear he hv hc hr2 hx2
    go_wp2_with fail
    refine HV.out.mono ?_
    rintro e w3 ⟨y, rfl, k3, o3⟩
    have O3 := Lh o3
    clear o3
    go_wp2
    go_ret
    exact ⟨k3, by rw [HE2.out]; exact O3.out⟩
   | some q =>
    obtain ⟨m, r2⟩ := q
    rw [hc] at o2
    obtain ⟨A, c, rfl, hr, h2, hAA⟩ := o2
    have hv := qSetNode (F := F) 0 m A c m.length g N w w2 r2 ns deep most rfl h2 HF.out (k1.out.trans k2) hr (fun a e => ⟨Nat.le_trans s1 (hAA a e).1, (hAA a e).2⟩) hn9
    have he := HE0.out
    rw [hc] at he
    have HE2 : Hid (OUT = some (.set m, r2, 0)) := Lh he
    have HV := Lh hv
    obtain ⟨nm, hnm⟩ : ∃ nm, m.length = nm := ⟨_, rfl⟩
    rw [hnm] at HV ⊢
    clear he hv hc hAA hr h2 hnm
    go_wp2_with fail
    refine HV.out.mono ?_
    rintro e w3 ⟨k3, o3⟩
    have hA2 := outC_of_Q (K' := KK) o3 hdm (Nat.le_refl _) HF.out k3.keep.size (Nat.zero_le _)
    obtain ⟨rfl, h3⟩ := o3
    have HA2 := Lh hA2; have K3 := Lh k3
    clear hA2 h3 k3
    go_wp2
    go_ret
    exact ⟨K3.out, by rw [HE2.out]; exact HA2.out⟩
  have z1 : ¬ (a : Int) = 40 := by omega
  have z2 : ¬ (a : Int) = 91 := by omega
  have z3 : ¬ (a : Int) = 46 := by omega
  have z4 : ¬ (a : Int) = 94 := by omega
  have z5 : ¬ (a : Int) = 36 := by omega
  have z6 : ¬ (a : Int) = 92 := by omega
  have z0 : ¬ (a : Int) < 0 := by omega
  have cv := qIn (a : Int) ⟨litL.toArray⟩ litL rfl w1 (by decide)
  rw [any_mem] at cv
  have em : a ∈ litL.map UInt8.toNat ↔ a ∈ specR := by
   show a ∈ [41, 93, 123, 125, 42, 43, 63, 124] ↔ a ∈ [92, 40, 41, 91, 93, 123, 125, 42, 43, 63, 124, 46, 94, 36]
   simp
   omega
  have he := HE.out
  rw [if_neg c1, if_neg c2, if_neg c3, if_neg c4, if_neg c5, if_neg c6] at he
  by_cases hm : a ∈ specR
  ·rw [decide_eq_true (em.2 hm)] at cv
   rw [if_pos hm] at he
   have HE2 := Lh he; have CV := Lh cv
   obtain ⟨g5, f5⟩ := h1.out.cell5
   obtain ⟨hx5, k5⟩ := h1.out.bad
   obtain ⟨X, hX⟩ : ∃ X, X = w1.setCell ⟨g, 5, none⟩ (.bool true) := ⟨_, rfl⟩
   rw [← hX] at hx5 k5
   have hbn : Below X.heap.size X (X.alloc (.cells #[.int .i32 (a : Nat), .int .i32 (a : Nat)] 21)) := (Below.refl _ _).alloc (Nat.le_refl _) _
   have hv := qBadRune (F := F) KK g N ns.length w _ ns deep most rfl (by omega) (hx5.below hbn) ((k1.out.trans k5).trans (.of_below hbn (Nat.le_of_lt hx5.lt))) hn9 (some ⟨X.heap.size, 0, none⟩) 2
   have HV := Lh hv; have HX := Lh hX
   clear em hm c1 c2 c3 c4 c5 c6 he cv hv hbn hx5 k5 hX
   go_wp2_with fail
   refine CV.out.mono ?_
   rintro e w2 ⟨rfl, hz⟩
   obtain rfl : w1 = w2 := hz.symm
   go_upto_region 25 with fail
   rw [← HX.out]
   clear HX
   go_wp2_with fail
   refine HV.out.mono ?_
   rintro e w3 ⟨y, rfl, k3, o3⟩
   have O3 := Lh o3
   clear o3
   go_wp2
   go_ret
   exact ⟨k3, by rw [HE2.out]; exact O3.out⟩
  rw [decide_eq_false (fun h => hm (em.1 h))] at cv
  rw [if_neg hm] at he
  have HE2 := Lh he; have CV := Lh cv
  have hb1 : Below w1.heap.size w1 (w1.alloc (.cells ([a, a].map rv).toArray 21)) := (Below.refl _ _).alloc (Nat.le_refl _) _
  have hv := qSetNode (F := F) 0 [a, a] (some ⟨w1.heap.size, 0, none⟩) 2 2 g N w (w1.alloc (.cells ([a, a].map rv).toArray 21)) r ns deep most rfl (h1.out.below hb1) HF.out (k1.out.trans (.of_below hb1 (Nat.le_of_lt h1.out.lt))) (RowT.new w1 21 ([a, a].map rv)) (fun x e => (by cases e; exact ⟨s1, by simp⟩)) hn9
  have HV := Lh hv
  clear em hm c1 c2 c3 c4 c5 c6 he cv hv hb1
  go_wp2_with fail
  refine CV.out.mono ?_
  rintro e w2 ⟨rfl, hz⟩
  obtain rfl : w1 = w2 := hz.symm
  go_wp2_with fail
  refine HV.out.mono ?_
  rintro e w3 ⟨k3, o3⟩
  have hA2 := outC_of_Q (K' := KK) o3 hdm (Nat.le_refl _) HF.out k3.keep.size (Nat.zero_le _)
  obtain ⟨rfl, h3⟩ := o3
  have HA2 := Lh hA2; have K3 := Lh k3
  clear hA2 h3 k3
  go_wp2
  go_ret
  exact ⟨K3.out, by rw [HE2.out]; exact HA2.out⟩
end Go.Proofs.YtecejnilajbdpaaGreatDoor
