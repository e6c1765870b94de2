import Derived.Test.YtecejnilajbdpaaGreatDoorTy31
import Derived.Test.YtecejnilajbdpaaGreatDoorTy20
namespace Go.Proofs.YtecejnilajbdpaaGreatDoor
open Go.RowKit Garner
structure KidsQ (F : Nat → Prop) (w : World) (g N : Nat) (ns : List NodeP) (deep most B : Nat) (v : Value) (wr : World) (ts : List Re) (s : List Nat) (d : Nat) (G : Nat → Prop) : Prop where
 own : wr.ownsRow w.heap.size 3 1 v ts.length ((roots ns.length ts).map iv)
 ps : QS G wr g N s (ns ++ flats ns.length ts) deep (max most (deep + d))
 gF : ∀ k, G k → Ext F w wr k
 gv : ∀ k, v.ownBlock = some k → ¬ G k
 pk : QP g w wr
 cnt : ns.length + cnts ts + 4 * s.length ≤ B
 dl : ts.length + s.length ≤ 300
structure KidsX (w : World) (g n : Nat) (v : Value) (wr : World) (xs : List Int) : Prop where
 own : wr.ownsRow w.heap.size 3 1 v xs.length (xs.map (Value.int .i64))
 qx : QX wr g n
 pk : QP g w wr
 ne : xs ≠ []
theorem kidsQ_below {F : Nat → Prop} {w wr w3 : World} {g N : Nat} {ns : List NodeP} {deep most B : Nat} {v : Value} {ts : List Re} {s : List Nat} {d : Nat} {G : Nat → Prop} (hI : KidsQ F w g N ns deep most B v wr ts s d G) (hb : Below wr.heap.size wr w3) : KidsQ F w g N ns deep most B v w3 ts s d G := by
 have := hb.size
 refine ⟨own_below hI.own hb, hI.ps.below hb, fun k hk => ?_, hI.gv, hI.pk.trans (.of_below hb (Nat.le_of_lt hI.ps.lt)), hI.cnt, hI.dl⟩
 rcases hI.gF k hk with h | h
 ·exact .inl h
 ·exact .inr ⟨h.1, by omega⟩
theorem kidsQ_keep {F : Nat → Prop} {w wr w3 : World} {g N : Nat} {ns : List NodeP} {deep most B : Nat} {v : Value} {ts : List Re} {s s' : List Nat} {d : Nat} {G : Nat → Prop} (hI : KidsQ F w g N ns deep most B v wr ts s d G) (h3 : QS G w3 g N s' (ns ++ flats ns.length ts) deep (max most (deep + d))) (k3 : QP g wr w3) (hs : s'.length ≤ s.length) : KidsQ F w g N ns deep most B v w3 ts s' d G := by
 have := k3.keep.size
 refine ⟨k3.keep.own hI.own (by decide), h3, fun k hk => ?_, hI.gv, hI.pk.trans k3, by have := hI.cnt; omega, by have := hI.dl; omega⟩
 rcases hI.gF k hk with h | h
 ·exact .inl h
 ·exact .inr ⟨h.1, by omega⟩
theorem kidsQ_next {F : Nat → Prop} {w wr w2 w8 : World} {g N : Nat} {ns : List NodeP} {deep most B : Nat} {v v8 : Value} {ts : List Re} {s s1 : List Nat} {d d1 kid : Nat} {G : Nat → Prop} {t : Re} (hI : KidsQ F w g N ns deep most B v wr ts s d G) (hgw : g < w.heap.size)
  (h2 : QS (Ext G wr w2) w2 g N s1 ((ns ++ flats ns.length ts) ++ t.flat (ns ++ flats ns.length ts).length) deep (max (max most (deep + d)) (deep + d1))) (k2 : QP g wr w2) (hkid : kid = (ns ++ flats ns.length ts).length + t.cnt - 1)
  (own8 : w8.ownsRow w.heap.size 3 1 v8 (ts.length + 1) ((roots ns.length ts).map iv ++ [iv kid])) (hg8 : (w2.alloc (.cells #[iv kid] 3)).grownBy w8 v.ownBlock)
  (hx : v8.ownBlock = v.ownBlock ∨ v8.ownBlock = some (w2.alloc (.cells #[iv kid] 3)).heap.size) (hcnt : ns.length + (cnts ts + t.cnt) + 4 * s1.length ≤ B) (hdl : ts.length + 1 + s1.length ≤ 300) :
  KidsQ F w g N ns deep most B v8 w8 (ts ++ [t]) s1 (max d d1) (Ext G wr w2) ∧ qLen N g w8 = s1.length + 1 := by
 have hb : Below w2.heap.size w2 (w2.alloc (.cells #[iv kid] 3)) := (Below.refl _ _).alloc (Nat.le_refl _) _
 have hs0 := hI.pk.keep.size
 have hs2 := k2.keep.size
 have hs3 := hb.size
 have hgs := hg8.size
 have own2 : w2.ownsRow w.heap.size 3 1 v ts.length ((roots ns.length ts).map iv) := k2.keep.own hI.own (by decide)
 have own3 := own_below own2 hb
 have hnew : (w2.alloc (.cells #[iv kid] 3)).heap.size = w2.heap.size + 1 := by simp
 have hvE : ∀ k, v.ownBlock = some k → ¬ Ext G wr w2 k := fun k hk hE => by
  rcases hE with hE | hE
  ·exact hI.gv k hk hE
  ·have := (hI.own.lt k hk).2
   omega
 have h3 := h2.below hb
 have h8 : QS (Ext G wr w2) w8 g N s1 ((ns ++ flats ns.length ts) ++ t.flat (ns ++ flats ns.length ts).length) deep (max (max most (deep + d)) (deep + d1)) := h3.grown own3 hg8 hvE (by decide) (by decide)
 have hps : QS (Ext G wr w2) w8 g N s1 (ns ++ flats ns.length (ts ++ [t])) deep (max most (deep + max d d1)) := by
  rw [flats_app, flats_one, ← List.append_assoc]
  rw [List.length_append, flats_len] at h8
  rwa [show max (max most (deep + d)) (deep + d1) = max most (deep + max d d1) by omega] at h8
 refine ⟨⟨?_, hps, fun k hk => ?_, fun k hk => ?_, ?_, ?_, by rw [List.length_append]; exact hdl⟩, hps.qLen⟩
 ·rw [roots_app, roots_one, List.length_append, List.map_append]
  rw [List.length_append, flats_len] at hkid
  rw [← hkid]
  exact own8
 ·rcases hk with hk | hk
  ·rcases hI.gF k hk with h | h
   ·exact .inl h
   ·exact .inr ⟨h.1, by omega⟩
  ·exact .inr ⟨by omega, by omega⟩
 ·rcases hx with hx | hx
  ·exact hvE k (by rw [← hx]; exact hk)
  ·rw [hx] at hk
   injection hk with hk
   intro hE
   have := Ext.lt hI.ps.hF hs2 k hE
   omega
 ·exact (hI.pk.trans (k2.trans (.of_below hb (Nat.le_of_lt h2.lt)))).grown own3 hg8 (Nat.le_refl _) (Nat.le_of_lt hgw) (by omega)
 ·rw [cnts_app]; simp only [cnts]; omega
theorem kidsQ_bad {F : Nat → Prop} {w wr w2 w8 : World} {g N n : Nat} {ns : List NodeP} {deep most B : Nat} {v v8 : Value} {ts : List Re} {s : List Nat} {d : Nat} {G : Nat → Prop} (x : Int) (hI : KidsQ F w g N ns deep most B v wr ts s d G) (hgw : g < w.heap.size)
  (h2 : QX w2 g n) (k2 : QP g wr w2)
  (own8 : w8.ownsRow w.heap.size 3 1 v8 (ts.length + 1) ((roots ns.length ts).map iv ++ [.int .i64 x])) (hg8 : (w2.alloc (.cells #[.int .i64 x] 3)).grownBy w8 v.ownBlock) :
  KidsX w g n v8 w8 ((roots ns.length ts).map (fun k : Nat => (k : Int)) ++ [x]) ∧ qLen N g w8 = 0 := by
 have hb : Below w2.heap.size w2 (w2.alloc (.cells #[.int .i64 x] 3)) := (Below.refl _ _).alloc (Nat.le_refl _) _
 have hs0 := hI.pk.keep.size
 have hs2 := k2.keep.size
 have hs3 := hb.size
 have own2 : w2.ownsRow w.heap.size 3 1 v ts.length ((roots ns.length ts).map iv) := k2.keep.own hI.own (by decide)
 have own3 := own_below own2 hb
 have h8 := (h2.below hb).grown own3 hg8 (by decide) (by decide)
 refine ⟨⟨?_, h8, (hI.pk.trans (k2.trans (.of_below hb (Nat.le_of_lt h2.lt)))).grown own3 hg8 (Nat.le_refl _) (Nat.le_of_lt hgw) (by omega), by simp⟩, h8.qLen⟩
 rw [List.length_append, List.length_map, roots_length, List.map_append, List.map_map]
 exact own8
theorem qKidsNode {F : Nat → Prop} {w wr : World} {g N : Nat} {ns : List NodeP} {deep most B : Nat} {ts : List Re} {s : List Nat} {d c m : Nat} {A : Option Addr} {G : Nat → Prop} (K kind : Nat) (mk : List Re → Re) (hk : ∀ l b, (mk l).flat b = flats b l ++ [⟨kind, roots b l, 0, 0, []⟩]) (hc : ∀ l, (mk l).cnt = cnts l + 1) (hm : m = ts.length)
  (hI : KidsQ F w g N ns deep most B (.slice A m c) wr ts s d G) (h0 : ∀ k, F k → k < w.heap.size) (hB : B ≤ 6000) :
  Calls Tryz.prog 113 #[.pointer (some ⟨g, 0, none⟩), .agg #[.int .i64 kind, .slice A m c, .int .i64 0, .int .i64 0, .slice none 0 0]] wr fun e w' => ∃ x : Int, e = .returned (.int .i64 x) ∧ QP g w w' ∧ OutC K F (some (mk ts, s, d)) w g N ns deep most (.returned (.int .i64 x)) w' := by
 subst hm
 have hs0 := hI.pk.keep.size
 have hl := roots_length ts ns.length
 have hp : QS (fun k => G k ∨ (Value.slice A ts.length c).ownBlock = some k) wr g N s (ns ++ flats ns.length ts) deep (max most (deep + d)) := hI.ps.mono (fun k hk => .inl hk) fun k hk => by
  rcases hk with hk | hk
  ·exact hI.ps.hF k hk
  ·exact (hI.own.lt k hk).2
 have hr := RowT.of_own hI.own
 have hn : (ns ++ flats ns.length ts).length < 100000 := by rw [List.length_append, flats_len]; have := hI.cnt; omega
 have hd : NodeOk (fun k => G k ∨ (Value.slice A ts.length c).ownBlock = some k) wr ⟨⟨kind, roots ns.length ts, 0, 0, []⟩, A, c, none, 0⟩ :=
  ⟨by show RowT wr _ A (roots ns.length ts).length _; rw [hl]; exact hr, RowT.nil, fun a e => .inr (by have e' : A = some a := e; rw [e']; rfl), fun a e => (by cases e)⟩
 have hv := qNode ⟨⟨kind, roots ns.length ts, 0, 0, []⟩, A, c, none, 0⟩ g N wr s (ns ++ flats ns.length ts) deep (max most (deep + d)) hp hd hn
 have ev : NodeD.v ⟨⟨kind, roots ns.length ts, 0, 0, []⟩, A, c, none, 0⟩ = .agg #[.int .i64 kind, .slice A ts.length c, .int .i64 0, .int .i64 0, .slice none 0 0] := by
  show Value.agg #[_, .slice A (roots ns.length ts).length c, _, _, _] = _
  rw [hl]; rfl
 rw [ev] at hv
 refine hv.mono ?_
 rintro e w2 ⟨rfl, h2, k2⟩
 have s2 := k2.keep.size
 refine ⟨_, rfl, hI.pk.trans k2, ?_, ?_⟩
 ·rw [List.length_append, flats_len, hc]; rfl
 ·rw [hk, ← List.append_assoc]
  refine h2.mono (fun k hk => ?_) (Ext.lt h0 (by omega))
  rcases hk with hk | hk
  ·rcases hI.gF k hk with h | h
   ·exact .inl h
   ·exact .inr ⟨h.1, by omega⟩
  ·have := hI.own.lt k hk
   exact .inr ⟨this.1, by omega⟩
theorem qKidsOne {F : Nat → Prop} {w wr : World} {g N : Nat} {ns : List NodeP} {deep most B : Nat} {v : Value} {t : Re} {s : List Nat} {d : Nat} {G : Nat → Prop} (K : Nat) (hI : KidsQ F w g N ns deep most B v wr [t] s d G) (h0 : ∀ k, F k → k < w.heap.size) :
  QP g w wr ∧ OutC K F (some (t, s, d)) w g N ns deep most (.returned (.int .i64 ((ns.length + t.cnt - 1 : Nat) : Int))) wr := by
 have hp := hI.ps.mono hI.gF (Ext.lt h0 hI.pk.keep.size)
 rw [flats_one] at hp
 exact ⟨hI.pk, rfl, hp⟩
def contB : List Nat → Bool
 | [] => false
 | a :: _ => !(a == 124) && !(a == 41)
theorem contB_end {s : List Nat} (h : contB s = false) : s = [] ∨ s.head? = some 124 ∨ s.head? = some 41 := by
 cases s with
 | nil => exact .inl rfl
 | cons a r =>
  simp [contB] at h
  by_cases h1 : a = 124
  ·exact .inr (.inl (by rw [h1]; rfl))
  ·exact .inr (.inr (by rw [h h1]; rfl))
theorem contB_go {s : List Nat} (h : contB s = true) : ∃ a r, s = a :: r ∧ ¬ (s = [] ∨ s.head? = some 124 ∨ s.head? = some 41) := by
 cases s with
 | nil => cases h
 | cons a r =>
  simp [contB] at h
  exact ⟨a, r, rfl, by simp; exact h⟩
theorem qEmptyT {F : Nat → Prop} {w wr : World} {g N : Nat} {ns : List NodeP} {deep most B : Nat} {v : Value} {s : List Nat} {d : Nat} {G : Nat → Prop} (K : Nat) (hI : KidsQ F w g N ns deep most B v wr [] s d G) (h0 : ∀ k, F k → k < w.heap.size) (hB : B ≤ 6000) :
  Calls Tryz.prog 113 #[.pointer (some ⟨g, 0, none⟩), .agg #[.int .i64 1, .slice none 0 0, .int .i64 0, .int .i64 0, .slice none 0 0]] wr fun e w' => ∃ x : Int, e = .returned (.int .i64 x) ∧ QP g w w' ∧ OutC K F (some (.emp, s, d)) w g N ns deep most (.returned (.int .i64 x)) w' := by
 have hs0 := hI.pk.keep.size
 have hcnt := hI.cnt
 have hp := hI.ps.mono hI.gF (Ext.lt h0 hs0)
 rw [show flats ns.length [] = [] from rfl, List.append_nil] at hp
 refine (qBareNode (F := Ext F w wr) 0 1 .emp (fun _ => rfl) rfl g N wr wr s ns deep (max most (deep + d)) hp (Ext.lt h0 hs0) (.refl _ _) (by omega)).mono ?_
 rintro e w2 ⟨k2, rfl, h2⟩
 have s2 := k2.keep.size
 exact ⟨_, rfl, hI.pk.trans k2, rfl, h2.mono (Ext.trans hs0 s2) (Ext.lt h0 (by omega))⟩
set_option maxRecDepth 100000 in
set_option maxHeartbeats 16000000 in
theorem qRow (L : Nat) (hT : QItemC L) : QRowC L := by
 intro F g N w rs ns deep most hL h hns hdp
 have hgw := h.lt
 have HF := Lh h.hF
 have hlb := h.lb
 have hlen := h.len
 have hdm := h.dm
 obtain ⟨ANS, hANS⟩ : ∃ ANS, rowF rs = ANS := ⟨_, rfl⟩
 rw [hANS]
 obtain ⟨M, hN⟩ : ∃ M, rs.length = M := ⟨_, rfl⟩
 rw [hN] at hL hns hdp hlen ⊢
 obtain ⟨KK, hKK⟩ : ∃ KK, 4 * M + 3 = KK := ⟨_, rfl⟩
 have hK1 : 4 * M + 3 ≤ KK := by omega
 rw [hKK]
 obtain ⟨OUT, hOUT⟩ : ∃ OUT, ANS.map (fun p => (rowOf p.1, p.2.1, p.2.2)) = OUT := ⟨_, rfl⟩
 rw [hOUT]
 have HN := Lh hN; have HA := Lh hANS; have HO := Lh hOUT; have H := Lh h
 clear hN hANS hKK hOUT h
 go_enter Tryz.func112, Tryz.ntmps112
 go_wp2
 go_loopw [3] (fun v wr => (∃ (ts : List Re) (s : List Nat) (d : Nat) (G : Nat → Prop), KidsQ F w g N ns deep most (ns.length + 4 * M) v wr ts s d G ∧ Hid ((rowF s).map (fun p => (ts ++ p.1, p.2.1, max d p.2.2)) = ANS) ∧ s.length ≤ M) ∨ ∃ (n : Nat) (xs : List Int), KidsX w g n v wr xs ∧ n ≤ ns.length + 4 * M + 2 ∧ Hid (ANS = none)) (fun _ wr => qLen N g wr)
 case atStart =>
  refine .inl ⟨[], rs, 0, F, ⟨World.ownsRow_nil _ _ _ _, ?_, fun k hk => .inl hk, fun k hk => (by cases hk), .refl _ _, by rw [HN.out]; simp [cnts], by rw [HN.out]; simp; omega⟩, Lh ?_, by rw [HN.out]; exact Nat.le_refl _⟩
  ·rw [show max most (deep + 0) = most by omega]
   simpa [flats] using H.out
  ·rw [HA.out]
   cases ANS with
   | none => rfl
   | some p => simp
 case round =>
  obtain ⟨wo, rfl⟩ : ∃ wo : World, wo = wr := ⟨_, rfl⟩
  rcases hrel with ⟨ts, s, d, G, hI, hans, hsN⟩ | ⟨n, xs, hX, hn, hno⟩
  ·obtain ⟨A3, c3, rfl, hc3⟩ := own_form hI.own
   have hlS := hI.ps.qLen
   have hrow := hans.out
   rw [rowF_eq] at hrow
   have HlS := Lh hlS; have HI := Lh hI; have Hrow := Lh hrow
   have hcnt := hI.cnt
   have hdl := hI.dl
   obtain ⟨CB, hCB⟩ : ∃ CB, contB s = CB := ⟨_, rfl⟩
   have HCB := Lh hCB
   clear hI hans hlS hrow hCB
   go_upto_region 2 with fail
   go_cut [16] from 4 to 16 (fun c wx => c = .bool CB ∧ Below wo.heap.size wo wx)
   case first =>
    cases s with
    | nil =>
     have hcb : CB = false := HCB.out.symm
     subst hcb
     go_wp2_with fail
     refine (qPeek g N wo [] _ _ _ HI.out.ps).mono ?_
     rintro e w2 ⟨rfl, hb2⟩
     have e0 : peekV [] = (-1 : Int) := rfl
     rw [e0]
     clear e0
     go_wp2
     go_meet
     exact ⟨rfl, hb2⟩
    | cons a r =>
     have hp : ∀ W, Below wo.heap.size wo W → Calls Tryz.prog 139 #[.pointer (some ⟨g, 0, none⟩)] W fun e w' => e = .returned (.int .i32 (a : Nat)) ∧ Below W.heap.size W w' := fun W hW => qPeek g N W (a :: r) _ _ _ (HI.out.ps.below hW)
     have HP := Lh hp
     have z1 : ((a : Int) != -1) = true := by simp
     clear hp
     by_cases ha1 : a = 124
     ·subst ha1
      have hcb : CB = false := by rw [← HCB.out]; rfl
      subst hcb
      go_wp2_with fail
      refine (HP.out wo (Below.refl _ _)).mono ?_
      rintro e w2 ⟨rfl, hb2⟩
      go_wp2_with fail
      refine (HP.out w2 hb2).mono ?_
      rintro e w3 ⟨rfl, hb3⟩
      go_wp2
      go_meet
      exact ⟨rfl, hb2.trans (hb3.mono hb2.size)⟩
     ·have z2 : ((a : Int) != 124) = true := by simp; omega
      by_cases ha2 : a = 41
      ·subst ha2
       have hcb : CB = false := by rw [← HCB.out]; rfl
       subst hcb
       go_wp2_with fail
       refine (HP.out wo (Below.refl _ _)).mono ?_
       rintro e w2 ⟨rfl, hb2⟩
       go_wp2_with fail
       refine (HP.out w2 hb2).mono ?_
       rintro e w3 ⟨rfl, hb3⟩
       have hb3' := hb2.trans (hb3.mono hb2.size)
       go_wp2_with fail
       refine (HP.out w3 hb3').mono ?_
       rintro e w4 ⟨rfl, hb4⟩
       go_wp2
       go_meet
       exact ⟨rfl, hb3'.trans (hb4.mono hb3'.size)⟩
      ·have z3 : ((a : Int) != 41) = true := by simp; omega
       have hcb : CB = true := by rw [← HCB.out]; simp [contB, ha1, ha2]
       subst hcb
       go_wp2_with fail
       refine (HP.out wo (Below.refl _ _)).mono ?_
       rintro e w2 ⟨rfl, hb2⟩
       go_wp2_with fail
       refine (HP.out w2 hb2).mono ?_
       rintro e w3 ⟨rfl, hb3⟩
       have hb3' := hb2.trans (hb3.mono hb2.size)
       go_wp2_with fail
       refine (HP.out w3 hb3').mono ?_
       rintro e w4 ⟨rfl, hb4⟩
       go_wp2
       go_meet
       exact ⟨rfl, hb3'.trans (hb4.mono hb3'.size)⟩
   case rest =>
    obtain ⟨rfl, hb1⟩ := hcut
    obtain ⟨w2, rfl⟩ : ∃ w2 : World, w2 = wc := ⟨_, rfl⟩
    have hI2 := kidsQ_below HI.out hb1
    cases CB with
    | false =>
     have hend := contB_end HCB.out
     have hrow := Hrow.out
     rw [if_pos hend] at hrow
     have hans : ANS = some (ts, s, d) := by rw [← hrow]; simp
     have hout : OUT = some (rowOf ts, s, d) := by rw [← HO.out, hans]; rfl
     clear hrow hans hend hb1
     match ts, hI2, hout with
     | [], hI2, hout =>
      have hv := qEmptyT KK hI2 HF.out (by omega)
      have ho2 : OUT = some (.emp, s, d) := hout
      rw [← ho2] at hv
      have HV := Lh hv
      clear hv ho2 hout hI2 HI
      go_wp2_with fail
      refine HV.out.mono ?_
      rintro e w9 ⟨x9, rfl, k9, o9⟩
      have O9 := Lh o9
      clear o9
      go_wp2
      go_ret
      exact ⟨k9, O9.out⟩
     | [t], hI2, hout =>
      have hv := qKidsOne KK hI2 HF.out
      have ho2 : OUT = some (t, s, d) := hout
      rw [← ho2] at hv
      obtain ⟨g3, rfl, hg3a, hg3b, -, -, hc0⟩ := own_at hI2.own (by simp)
      have c0 : w2.cell? ⟨g3, 0, none⟩ = some (.int .i64 ((ns.length + t.cnt - 1 : Nat) : Int)) := by
       rw [hc0 0 (by simp), roots_one]; rfl
      obtain ⟨kv, hkv⟩ : ∃ kv, ns.length + t.cnt - 1 = kv := ⟨_, rfl⟩
      rw [hkv] at hv c0
      have HV := Lh hv
      clear hv ho2 hout hI2 HI hc0 hkv
      go_wp2
      go_ret
      exact ⟨HV.out.1, HV.out.2⟩
     | t :: u :: r, hI2, hout =>
      obtain ⟨m, hm⟩ : ∃ m, (t :: u :: r).length = m := ⟨_, rfl⟩
      have hm2 : 2 ≤ m := by rw [← hm]; simp
      have z6 : ((m : Int) == 0) = false := by simp; omega
      have z7 : ((m : Int) == 1) = false := by simp; omega
      rw [hm] at hI2 ⊢
      have hv := qKidsNode KK 3 .seq (fun _ _ => rfl) (fun _ => rfl) hm.symm hI2 HF.out (by omega)
      have ho2 : OUT = some (.seq (t :: u :: r), s, d) := hout
      rw [← ho2] at hv
      have HV := Lh hv
      clear hv ho2 hout hI2 HI hm
      go_wp2_with fail
      refine HV.out.mono ?_
      rintro e w9 ⟨x9, rfl, k9, o9⟩
      have O9 := Lh o9
      clear o9
      go_wp2
      go_ret
      exact ⟨k9, O9.out⟩
    | true =>
     obtain ⟨a, r, rfl, hend⟩ := contB_go HCB.out
     have hrow := Hrow.out
     rw [if_neg hend] at hrow
     have hi := hT G g N w2 (a :: r) (ns ++ flats ns.length ts) deep (max most (deep + d)) (by omega) hI2.ps (by rw [List.length_append, flats_len]; omega) (by omega)
     have HR := Lh hrow; have Hi := Lh hi; have HI2 := Lh hI2
     have hown := hI2.own
     have hsz := hI2.pk.keep.size
     clear hrow hi hend HI Hrow hI2 hb1
     go_wp2_with fail
     refine Hi.out.mono ?_
     rintro e w4 ⟨k4, o4⟩
     have s4 := k4.keep.size
     have own4 : w4.ownsRow w.heap.size 3 1 (.slice A3 ts.length c3) ts.length ((roots ns.length ts).map iv) := k4.keep.own hown (by decide)
     have hrow := HR.out
     cases hit : itemF (a :: r) with
     | none =>
      rw [hit] at o4 hrow
      obtain ⟨x, n, rfl, hx4, hxn⟩ := o4
      have hno : ANS = none := hrow.symm
      rw [List.length_append, flats_len] at hxn
      have HX4 := Lh hx4; have K4 := Lh k4; have HNO := Lh hno
      clear hrow hit hx4 k4 hno hown
      go_wp2_with (at_builtin; refine wpList_app _ rfl intE rfl rfl (own4.alloc _) rfl (row_new w4 _ [_]) (by simp [Value.oneCell']) (by first | omega | (simp; omega)) (by simp; omega) ?_; intro v8 w8 own8 hg8 hb8 hx8)
      obtain ⟨e1, e2⟩ := kidsQ_bad x HI2.out hgw HX4.out K4.out own8 hg8
      go_roundw
      case rel => exact .inr ⟨n, _, e1, by omega, HNO⟩
      case measure => rw [e2, HlS.out]; omega
     | some q =>
      obtain ⟨t, s1, d1⟩ := q
      rw [hit] at o4 hrow
      obtain ⟨rfl, h4⟩ := o4
      dsimp only at hrow
      have hcn := (itemF_cnt hit).1
      have hll := itemF_len hit
      obtain ⟨kid, hkid⟩ : ∃ kid, (ns ++ flats ns.length ts).length + t.cnt - 1 = kid := ⟨_, rfl⟩
      rw [hkid]
      have Hk := Lh hkid
      have Hrow := Lh hrow; have H4 := Lh h4; have K4 := Lh k4
      clear hrow h4 k4 hit hown hkid
      go_wp2_with (at_builtin; refine wpList_app _ rfl intE rfl rfl (own4.alloc _) rfl (row_new w4 _ [_]) (by simp [Value.oneCell']) (by first | omega | (simp; omega)) (by simp; omega) ?_; intro v8 w8 own8 hg8 hb8 hx8)
      obtain ⟨e1, e2⟩ := kidsQ_next (t := t) (kid := kid) HI2.out hgw H4.out K4.out Hk.out.symm own8 hg8 hx8 (by simp at hcn hcnt ⊢; omega) (by simp at hdl hll ⊢; omega)
      have hfin : Hid ((rowF s1).map (fun p => ((ts ++ [t]) ++ p.1, p.2.1, max (max d d1) p.2.2)) = ANS) := Lh (by
       rw [← Hrow.out]
       cases rowF s1 with
       | none => rfl
       | some p => simp [Nat.max_assoc])
      go_roundw
      case rel => exact .inl ⟨ts ++ [t], s1, _, _, e1, hfin, by simp at hll hsN; omega⟩
      case measure => rw [e2, HlS.out]; omega
  ·have hout : OUT = none := by rw [← HO.out, hno.out]; rfl
   have HOU := Lh hout
   obtain ⟨A3, c3, rfl, -⟩ := own_form hX.own
   have HX := Lh hX
   have hne := hX.ne
   obtain ⟨g3, hg3, -, -, -, -, -⟩ := own_at hX.own (List.length_pos_iff.2 hne)
   subst hg3
   clear hX hout
   go_wp2_with fail
   refine (xPeek g n wo HX.out.qx).mono ?_
   rintro e w2 ⟨rfl, hb2⟩
   have hq2 := HX.out.qx.below hb2
   have own2 := own_below HX.out.own hb2
   have kq2 := HX.out.pk.trans (.of_below hb2 (Nat.le_of_lt HX.out.qx.lt))
   match xs, hne, own2 with
   | [x], _, own2 =>
    obtain ⟨g4, hg4, -, -, -, -, hc0⟩ := own_at own2 (by simp)
    cases hg4
    have c0 : w2.cell? ⟨g3, 0, none⟩ = some (.int .i64 x) := by rw [hc0 0 (by simp)]; rfl
    have HQ2 := Lh hq2; have KQ2 := Lh kq2
    clear hq2 kq2 own2 hc0 HX
    go_wp2
    go_ret
    exact ⟨KQ2.out, by rw [HOU.out]; exact ⟨x, n, rfl, HQ2.out, by omega⟩⟩
   | x :: y :: r, _, own2 =>
    obtain ⟨m, hm⟩ : ∃ m, (x :: y :: r).length = m := ⟨_, rfl⟩
    have hm2 : 2 ≤ m := by rw [← hm]; simp
    have z6 : ((m : Int) == 0) = false := by simp; omega
    have z7 : ((m : Int) == 1) = false := by simp; omega
    have hv := xNode 3 0 0 (some ⟨g3, 0, none⟩) m c3 none 0 0 g n w2 hq2 (by omega)
    have HV := Lh hv; have KQ2 := Lh kq2
    rw [hm]
    clear hv hq2 kq2 own2 HX hm
    go_wp2_with fail
    refine HV.out.mono ?_
    rintro e w3 ⟨rfl, h3, k3⟩
    have H3 := Lh h3; have K3 := Lh k3
    clear h3 k3
    go_wp2
    go_ret
    exact ⟨KQ2.out.trans K3.out, by rw [HOU.out]; exact ⟨n, n + 1, rfl, H3.out, by omega⟩⟩
end Go.Proofs.YtecejnilajbdpaaGreatDoor
