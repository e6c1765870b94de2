import Derived.Test.YtcjapjnhejenaaaDoorHtK
/-! http: target -/
namespace Garner
open Go
theorem cut_len (s sep : Bs) : (Lib.cut s sep).1.length ≤ s.length ∧ (Lib.cut s sep).2.1.length ≤ s.length := by
  unfold Lib.cut
  split
  · simp only [List.length_take, List.length_drop]; omega
  · simp
end Garner
namespace Go.Proofs.YtcjapjnhejenaaaDoor
open Go.RowKit Go.Shelf Garner

attribute [local go_sem] Oper.semAt_some

def pairCells (l : List (Bs × Bs)) : List Value := l.flatMap fun p => [str p.1, str p.2]
theorem pairCells_len (l : List (Bs × Bs)) : (pairCells l).length = l.length * 2 := by
  unfold pairCells
  induction l with
  | nil => rfl
  | cons p l ih => rw [List.flatMap_cons, List.length_append, ih, List.length_cons]; simp; omega
theorem pairCells_app (l m : List (Bs × Bs)) : pairCells (l ++ m) = pairCells l ++ pairCells m := by unfold pairCells; rw [List.flatMap_append]
theorem pairCells_one (l : List (Bs × Bs)) : ∀ u ∈ pairCells l, u.oneCell' = true := by
  intro u hu
  unfold pairCells at hu
  obtain ⟨p, -, hp⟩ := List.mem_flatMap.1 hu
  simp at hp
  rcases hp with rfl | rfl <;> rfl
abbrev OwnP (w : World) (B : Nat) (v : Value) (l : List (Bs × Bs)) : Prop := w.ownsRow B 42 2 v l.length (pairCells l)
theorem pairE : Elem Tryd.prog 24 42 (.agg #[.string { data := #[] }, .string { data := #[] }]) 2 32 := ⟨Tryd.underlying24, by kernel_rfl, rfl, by omega, by omega⟩
def reqC (m p : Bs) (q b : Value) : List Value := [str m, str p, q, b]
def badT (c : UInt8) : Bool := decide (c.toNat < 33 ∨ 126 < c.toNat)

theorem grown_set (W : World) (b i : Nat) (v : Value) : W.grownBy (W.setCell ⟨b, i, none⟩ v) (some b) :=
  ⟨rfl, rfl, rfl, by simp [World.setCell], fun k _ hk => Below.heap_setCell _ _ _ k (fun e => hk (by rw [e]))⟩
/-- what stands between two rounds of target's loop -/
def TgI (w : World) (G T : Nat) (qu : Bs) (d : Bs × Bool) (k : Nat) (W : World) : Prop :=
  ∃ (qs : List (Bs × Bs)) (okb : Bool) (A : Option Addr) (c : Nat) (sT : Value), qs.length ≤ k ∧ Hid (((splitC 38 qu).take k).foldl pairP ([], d.2) = (qs, okb)) ∧
    Blk W G 26 [.string { data := #[] }, str d.1, .slice A qs.length c, .slice none 0 0] ∧ OwnP W w.heap.size (.slice A qs.length c) qs ∧ Blk W (G + 1) 4 [.bool okb] ∧
    Blk W w.heap.size 26 [.string { data := #[] }, .string { data := #[] }, .slice none 0 0, .slice none 0 0] ∧ Blk W T 9 [sT] ∧ Below w.heap.size w W ∧ Blk W (T + 1) 9 [str [38]] ∧ Blk W (T + 2) 3 [.int .i64 0]
theorem own_keptD {W W' : World} {B : Nat} {e : TypeId} {sz n : Nat} {v : Value} {xs : List Value} {row : Option Nat} (h : W.ownsRow B e sz v n xs) (hg : W.grownBy W' row) (hr : ∀ r, row = some r → ∃ o : Obj, W.heap[r]? = some o ∧ o.isCells = false) : W'.ownsRow B e sz v n xs := by
  refine h.kept hg ?_
  rcases h.2 with ⟨rfl, _⟩ | ⟨g, cap, cur, rfl, _, hh, _⟩
  · exact .inl rfl
  · refine .inr fun e => ?_
    obtain ⟨o, ho, hc⟩ := hr g e.symm
    rw [hh] at ho
    cases ho
    cases hc
theorem TgI.own {w : World} {G T B : Nat} {qu : Bs} {d : Bs × Bool} (hB : w.heap.size ≤ B) : OwnFrom B (TgI w G T qu d) := by
  intro k W W' row h hg hr
  obtain ⟨qs, okb, A, c, sT, h0, h1, h2, h3, h4, h5, h6, h7, h8, h9⟩ := h
  have hr2 : ∀ r, row = some r → ∃ o : Obj, W.heap[r]? = some o ∧ o.isCells = false := fun r e => (hr r e).2
  exact ⟨qs, okb, A, c, sT, h0, h1, (grownBy_keeps_cells hg hr2 h2 rfl).trans h2, own_keptD h3 hg hr2, (grownBy_keeps_cells hg hr2 h4 rfl).trans h4, (grownBy_keeps_cells hg hr2 h5 rfl).trans h5, (grownBy_keeps_cells hg hr2 h6 rfl).trans h6,
    h7.grown hg h7.size (fun k e => Nat.le_trans hB (hr k e).1), (grownBy_keeps_cells hg hr2 h8 rfl).trans h8, (grownBy_keeps_cells hg hr2 h9 rfl).trans h9⟩
theorem TgI.set_ {w : World} {G T k : Nat} {qu : Bs} {d : Bs × Bool} {W : World} (h : TgI w G T qu d k W) (hT : G + 2 ≤ T) (hG : w.heap.size < G) (u : Value) : TgI w G T qu d k (W.setCell ⟨T, 0, none⟩ u) := by
  obtain ⟨qs, okb, A, c, sT, h0, h1, h2, h3, h4, h5, h6, h7, h8, h9⟩ := h
  refine ⟨qs, okb, A, c, u, h0, h1, h2.far (p := ⟨T, 0, none⟩) (by show G ≠ T; omega) _, ?_, h4.far (p := ⟨T, 0, none⟩) (by show G + 1 ≠ T; omega) _, h5.far (p := ⟨T, 0, none⟩) (by show w.heap.size ≠ T; omega) _, h6.set_ 0 _, h7.setCell (p := ⟨T, 0, none⟩) (by show w.heap.size ≤ T; omega) _, h8.far (p := ⟨T, 0, none⟩) (by show T + 1 ≠ T; omega) _, h9.far (p := ⟨T, 0, none⟩) (by show T + 2 ≠ T; omega) _⟩
  refine own_grown h3 (grownBy_setCell' _ _ _) (.inr fun e => ?_)
  exact own_blk h3 h6 (by decide) (by rw [e]; simp)
theorem splitC_len (c : UInt8) : ∀ (l : Bs), (splitC c l).length ≤ l.length + 1 ∧ ∀ x ∈ splitC c l, x.length ≤ l.length
  | [] => by simp [splitC]
  | x :: r => by
    obtain ⟨i1, i2⟩ := splitC_len c r
    unfold splitC
    split
    · refine ⟨by simp; omega, fun y hy => ?_⟩
      rcases List.mem_cons.1 hy with rfl | hy
      · simp
      · have := i2 y hy; simp; omega
    · split
      · simp
      · rename_i h t e
        rw [e] at i1 i2
        refine ⟨by simp at i1 ⊢; omega, fun y hy => ?_⟩
        rcases List.mem_cons.1 hy with rfl | hy
        · have := i2 h (by simp); simp; omega
        · have := i2 y (by simp [hy]); simp; omega
/-- what a step of a round leaves as it is -/
structure RdK (n₀ : Nat) (S : List Nat) (W W' : World) : Prop where
  oth : KeepsOthers W W'
  kp : KpB n₀ S W W'
theorem RdK.trans {n₀ : Nat} {S : List Nat} {X Y Z : World} (h : RdK n₀ S X Y) (k : RdK n₀ S Y Z) : RdK n₀ S X Z := ⟨h.oth.trans k.oth, h.kp.trans k.kp⟩
theorem RdK.of_below {n₀ : Nat} {S : List Nat} {W W' : World} (h : Below W.heap.size W W') (hn : n₀ ≤ W.heap.size) : RdK n₀ S W W' := by
  have key : ∀ (k : Nat) (o : Obj), W.heap[k]? = some o → W'.heap[k]? = some o := fun k o ho => (h.block k (Array.getElem?_eq_some_iff.1 ho).1).trans ho
  exact ⟨⟨h.size, fun k o ho _ => key k o ho⟩, ⟨h.mono hn, fun k _ o ho => key k o ho⟩⟩
theorem RdK.of_but {n₀ g : Nat} {S : List Nat} {W W' : World} (h : But [g] W W') {t : TypeId} {cs : List Value} (hc : Blk W g t cs) (hn : n₀ ≤ g) (hS : g ∉ S) : RdK n₀ S W W' := by
  have key : ∀ (k : Nat) (o : Obj), k ≠ g → W.heap[k]? = some o → W'.heap[k]? = some o := fun k o hk ho => (h.block k (Array.getElem?_eq_some_iff.1 ho).1 (by simpa using hk)).trans ho
  refine ⟨⟨h.size, fun k o ho hoc => key k o (fun e => ?_) ho⟩, ⟨h.below (by have := hc.lt; omega) (by simpa using hn), fun k hk o ho => key k o (fun e => hS (e ▸ hk)) ho⟩⟩
  subst e
  rw [show W.heap[k]? = _ from hc] at ho
  cases ho
  cases hoc
theorem RdK.grown {n₀ : Nat} {S : List Nat} {W W' : World} {e : TypeId} {sz n : Nat} {v : Value} {xs : List Value} (h : W.ownsRow n₀ e sz v n xs) (hg : W.grownBy W' v.ownBlock) (hn : n₀ ≤ W.heap.size) (hS : ∀ k ∈ S, ∃ t cs, Blk W k t cs ∧ e ≠ t) : RdK n₀ S W W' := by
  have key : ∀ g, v.ownBlock = some g → n₀ ≤ g ∧ ∃ cs, W.heap[g]? = some (.cells cs e (0, 0)) := by
    intro g hgv
    rcases h.2 with ⟨rfl, _⟩ | ⟨g', cap, cur, rfl, _, hh, _⟩
    · simp [Value.ownBlock] at hgv
    · simp [Value.ownBlock] at hgv
      subst hgv
      exact ⟨h.lt g' (by simp [Value.ownBlock]) |>.1, _, hh⟩
  refine ⟨KeepsOthers.of_grownBy hg (fun j o hj ho => ?_), ⟨(Below.refl _ _).grown hg hn (fun k hk => (key k hk).1), fun k hk o ho => (hg.block k (Array.getElem?_eq_some_iff.1 ho).1 (fun e2 => ?_)).trans ho⟩⟩
  · obtain ⟨_, cs, hc⟩ := key j hj
    rw [hc] at ho; cases ho; rfl
  · obtain ⟨t, cs, hb, hne⟩ := hS k hk
    exact own_blk h hb hne (by rw [← e2]; simp)
theorem RdK.set_ {n₀ g i : Nat} {S : List Nat} {W : World} {u : Value} (hg : n₀ ≤ g) (hS : g ∉ S) : RdK n₀ S W (W.setCell ⟨g, i, none⟩ u) := by
  refine ⟨KeepsOthers.setCell _ _ _, ⟨(Below.refl _ _).setCell hg u, fun k hk o ho => ?_⟩⟩
  rw [← ho]
  exact Below.heap_setCell _ _ _ _ (fun e => hS (by rw [show g = k from e.symm]; exact hk))
theorem res_target {w : World} {g : Nat} {m p q b : Value} (h : Blk w g 26 [m, p, q, b]) (tmps : Array Value) {ok : Value} (h2 : tmps.getD 2 undef = .pointer (some ⟨g, 0, none⟩)) (h3 : tmps.getD 3 undef = ok) :
    (results Tryd.f28 tmps).run Tryd.prog w = .ok (.tuple #[.agg #[m, p, q, b], ok]) w := by
  have c0 := h.cell 0; have c1 := h.cell 1; have c2 := h.cell 2; have c3 := h.cell 3
  rw [results_cell_tmp rfl, h2, h3]
  simp [go_sem, *]
set_option maxRecDepth 100000 in
set_option maxHeartbeats 4000000 in
theorem vTarget (s : Bs) (w : World) (hL : Lt w) (hs : s.length ≤ 10000) :
    Calls Tryd.prog 28 #[str s] w fun e w' => ∃ A c, e = .returned (.tuple #[.agg #[str [], str (targetP s).1, .slice A (targetP s).2.1.length c, .slice none 0 0], .bool (targetP s).2.2]) ∧ OwnP w' w.heap.size (.slice A (targetP s).2.1.length c) (targetP s).2.1 ∧ Below w.heap.size w w' := by
  obtain ⟨c0, w1, hconv0, hb1, hsz1, -, hrow0⟩ := conv_bytes ⟨s.toArray⟩ (w.alloc (.cells #[.string { data := #[] }, .string { data := #[] }, .slice none 0 0, .slice none 0 0] 26))
  rw [str_list] at hrow0
  rw [str_size] at hconv0 hrow0
  simp only [World.size_alloc] at hconv0 hrow0 hsz1
  obtain ⟨P, hP⟩ : ∃ P, P = (targetP s).1 := ⟨_, rfl⟩
  obtain ⟨Q, hQ⟩ : ∃ Q, Q = (targetP s).2.1 := ⟨_, rfl⟩
  obtain ⟨R, hR⟩ : ∃ R, R = (targetP s).2.2 := ⟨_, rfl⟩
  rw [← hP, ← hQ, ← hR]
  obtain ⟨n, hn⟩ : ∃ n, s.length = n := ⟨_, rfl⟩
  rw [hn] at hconv0 hrow0 hs
  have hb0 : Below w.heap.size w w1 := ((Below.refl _ w).alloc (Nat.le_refl _) _).trans (hb1.mono (by simp))
  have bR : Blk w1 w.heap.size 26 [.string { data := #[] }, .string { data := #[] }, .slice none 0 0, .slice none 0 0] := (Blk.new w 26 _).below hb1 (by simp)
  have HP := Lib.hid hP; clear hP
  have HQ := Lib.hid hQ; clear hQ
  have HR := Lib.hid hR; clear hR
  have Hn := Lib.hid hn; clear hn
  clear hb1
  refine (callsIn_wide (n := 5)).1 ?_
  refine callsIn_of_wp_marks Tryd.func28 rfl trivial ?_ rfl
  simp only [Tryd.ntmps28, List.size_toArray, List.length_cons, List.length_nil, Nat.reduceAdd, Nat.reduceSub, Array.replicate_succ, Array.replicate_zero, List.push_toArray, List.append_toArray, List.nil_append, List.cons_append]
  gi_wp2_with fail
  gi_loopw [18] (fun i wr => ∃ k : Nat, k ≤ n ∧ i = .int .i64 k ∧ wr = w1 ∧ Hid ((s.take k).any badT = false)) (fun i _ => n - (intOf i).toNat)
  case atStart => exact ⟨0, Nat.zero_le _, rfl, rfl, Lib.hid rfl⟩
  case round =>
    obtain ⟨k, hk, rfl, rfl, hall⟩ := hrel
    obtain ⟨w1, rfl⟩ : ∃ w1 : World, w1 = wr := ⟨_, rfl⟩
    have w2 : IntKind.i64.wrap ((k : Int) + 1) = (k : Int) + 1 := by rw [IntKind.wrap_i64]; omega
    by_cases hlt : k < n
    · have z1 : (k : Int) < (n : Int) := by omega
      obtain ⟨x, hx⟩ : ∃ x : UInt8, s[k]? = some x := ⟨_, List.getElem?_eq_getElem (by have := Hn.out; omega)⟩
      have hcell : w1.cell? ⟨w.heap.size + 1, k, none⟩ = some (.int .u8 (x.toNat : Int)) := by
        obtain ⟨b, off, e, -, hc⟩ := hrow0.2 (by omega)
        simp only [Option.some.injEq, Addr.mk.injEq, and_true] at e
        obtain ⟨rfl, rfl⟩ := e
        have := hc k (bv x) (by rw [List.getElem?_map, hx]; rfl)
        simpa [bv] using this
      have good : badT x = false → Hid ((s.take (k + 1)).any badT = false) := fun h => Lib.hid (by rw [List.take_add_one, hx, List.any_append, hall.out]; simp [h])
      have bad : badT x = true → P = [] ∧ Q = [] ∧ R = false := fun h => by
        have h2 : s.any (fun c => decide (c.toNat < 33 ∨ 126 < c.toNat)) = true := List.any_eq_true.2 ⟨x, List.mem_of_getElem? hx, h⟩
        have e : targetP s = ([], [], false) := by unfold targetP; rw [if_pos h2]
        rw [HP.out, HQ.out, HR.out, e]
        exact ⟨rfl, rfl, rfl⟩
      have hgood := Lib.hid good; clear good
      have hbad := Lib.hid bad; clear bad
      have Hx := Lib.hid hx; clear hx
      have hfz := fun i => bR.frozen i
      have r0 := bR.cell 0; have r1 := bR.cell 1; have r2 := bR.cell 2; have r3 := bR.cell 3
      by_cases a1 : x.toNat < 33
      · have b1 : (x.toNat : Int) < 33 := by omega
        gi_wp2
        have e := hbad.out (by unfold badT; simp; omega)
        obtain ⟨rfl, rfl, rfl⟩ := e
        obtain ⟨W4, hW4⟩ : ∃ W4, W4 = (((w1.setCell ⟨w.heap.size, 0, none⟩ (.string { data := #[] })).setCell ⟨w.heap.size, 1, none⟩ (.string { data := #[] })).setCell ⟨w.heap.size, 2, none⟩ (.slice none 0 0)).setCell ⟨w.heap.size, 3, none⟩ (.slice none 0 0) := ⟨_, rfl⟩
        rw [← hW4]
        have bR4 : Blk W4 w.heap.size 26 [.string { data := #[] }, .string { data := #[] }, .slice none 0 0, .slice none 0 0] := by rw [hW4]; exact (((bR.set_ 0 _).set_ 1 _).set_ 2 _).set_ 3 _
        have hb4 : Below w.heap.size w W4 := by rw [hW4]; exact (((hb0.setCell (p := ⟨w.heap.size, 0, none⟩) (Nat.le_refl _) _).setCell (p := ⟨w.heap.size, 1, none⟩) (Nat.le_refl _) _).setCell (p := ⟨w.heap.size, 2, none⟩) (Nat.le_refl _) _).setCell (p := ⟨w.heap.size, 3, none⟩) (Nat.le_refl _) _
        clear hW4
        exact ⟨_, res_target bR4 _ rfl rfl, none, 0, rfl, World.ownsRow_nil _ _ _ _, hb4⟩
      · have b1 : ¬ (x.toNat : Int) < 33 := by omega
        by_cases a2 : 126 < x.toNat
        · have b2 : (126 : Int) < x.toNat := by omega
          gi_wp2
          have e := hbad.out (by unfold badT; simp; omega)
          obtain ⟨rfl, rfl, rfl⟩ := e
          obtain ⟨W4, hW4⟩ : ∃ W4, W4 = (((w1.setCell ⟨w.heap.size, 0, none⟩ (.string { data := #[] })).setCell ⟨w.heap.size, 1, none⟩ (.string { data := #[] })).setCell ⟨w.heap.size, 2, none⟩ (.slice none 0 0)).setCell ⟨w.heap.size, 3, none⟩ (.slice none 0 0) := ⟨_, rfl⟩
          rw [← hW4]
          have bR4 : Blk W4 w.heap.size 26 [.string { data := #[] }, .string { data := #[] }, .slice none 0 0, .slice none 0 0] := by rw [hW4]; exact (((bR.set_ 0 _).set_ 1 _).set_ 2 _).set_ 3 _
          have hb4 : Below w.heap.size w W4 := by rw [hW4]; exact (((hb0.setCell (p := ⟨w.heap.size, 0, none⟩) (Nat.le_refl _) _).setCell (p := ⟨w.heap.size, 1, none⟩) (Nat.le_refl _) _).setCell (p := ⟨w.heap.size, 2, none⟩) (Nat.le_refl _) _).setCell (p := ⟨w.heap.size, 3, none⟩) (Nat.le_refl _) _
          clear hW4
          exact ⟨_, res_target bR4 _ rfl rfl, none, 0, rfl, World.ownsRow_nil _ _ _ _, hb4⟩
        · have b2 : ¬ (126 : Int) < x.toNat := by omega
          gi_wp2
          exact ⟨⟨k + 1, by omega, by simp, by simp, hgood.out (by unfold badT; simp; omega)⟩, by simp [intOf]; omega⟩
    · have z1 : ¬ (k : Int) < (n : Int) := by omega
      obtain rfl : k = n := by omega
      have hL1 := hL.below hb0
      have hgoodT : targetP s = ((decV (Lib.cut s [63]).1 (Lib.hasPrefix (Lib.cut s [63]).1 [47])).1, ((splitC 38 (Lib.cut s [63]).2.1).foldl pairP ([], (decV (Lib.cut s [63]).1 (Lib.hasPrefix (Lib.cut s [63]).1 [47])).2)).1, ((splitC 38 (Lib.cut s [63]).2.1).foldl pairP ([], (decV (Lib.cut s [63]).1 (Lib.hasPrefix (Lib.cut s [63]).1 [47])).2)).2) := by
        have h2 := hall.out
        rw [List.take_of_length_le (by have := Hn.out; omega)] at h2
        unfold targetP
        rw [if_neg (by rw [show (fun c : UInt8 => decide (c.toNat < 33 ∨ 126 < c.toNat)) = badT from rfl, h2]; decide)]
      have hcl := cut_len s [63]
      have hcut := cCut s [63] w1 hL1 (by have := Hn.out; omega)
      obtain ⟨pa, hpa⟩ : ∃ pa, (Lib.cut s [63]).1 = pa := ⟨_, rfl⟩
      obtain ⟨qu, hqu⟩ : ∃ qu, (Lib.cut s [63]).2.1 = qu := ⟨_, rfl⟩
      rw [hpa, hqu] at hgoodT hcut hcl
      obtain ⟨d1, hd1⟩ : ∃ d1, decV pa (Lib.hasPrefix pa [47]) = d1 := ⟨_, rfl⟩
      rw [hd1] at hgoodT
      have eP := HP.out; have eQ := HQ.out; have eR := HR.out
      rw [hgoodT] at eP eQ eR
      have HGP := Lib.hid eP; clear eP
      have HGQ := Lib.hid eQ; clear eQ
      have HGR := Lib.hid eR; clear eR
      have Hd1 := Lib.hid hd1; clear hd1
      have Hcl := Lib.hid hcl; clear hcl
      clear hgoodT hpa hqu
      have s0 := hb0.size
      gi_wp2_with fail
      refine ⟨trivial, callsIn_wide.2 (hcut.mono ?_)⟩
      rintro e w2 ⟨rfl, hb2⟩
      have hb2' := hb0.trans (hb2.mono s0)
      have s2 := hb2'.size
      gi_wp2_with fail
      refine ⟨trivial, callsIn_wide.2 ((cPrefix pa [47] _).mono ?_)⟩
      rintro e w3 ⟨rfl, rfl⟩
      obtain ⟨G, hG⟩ : ∃ G, G = w2.heap.size := ⟨_, rfl⟩
      obtain ⟨hp, hhp⟩ : ∃ hp, Lib.hasPrefix pa [47] = hp := ⟨_, rfl⟩
      have hd1' := Hd1.out
      rw [hhp] at hd1' ⊢
      clear hhp
      obtain ⟨X3, hX3⟩ : ∃ X, X = (w2.alloc (.cells #[.string { data := #[] }, .string { data := #[] }, .slice none 0 0, .slice none 0 0] 26)).alloc (.cells #[.bool hp] 4) := ⟨_, rfl⟩
      have bG3 : Blk X3 G 26 [.string { data := #[] }, .string { data := #[] }, .slice none 0 0, .slice none 0 0] := by
        rw [hX3, hG]; exact (Blk.new w2 _ _).alloc _
      have bO3 : Blk X3 (G + 1) 4 [.bool hp] := by
        have := Blk.new (w2.alloc (.cells #[.string { data := #[] }, .string { data := #[] }, .slice none 0 0, .slice none 0 0] 26)) 4 [.bool hp]
        rw [World.size_alloc, ← hG] at this
        rw [hX3]; exact this
      have hb3 : Below w.heap.size w X3 := by rw [hX3]; exact (hb2'.alloc s2 _).alloc (by simp; omega) _
      have bR3 : Blk X3 w.heap.size 26 [.string { data := #[] }, .string { data := #[] }, .slice none 0 0, .slice none 0 0] := by
        rw [hX3]; exact ((bR.below hb2 bR.lt).alloc _).alloc _
      have s3 : X3.heap.size = G + 2 := by rw [hX3, hG]; simp
      have hGw : w.heap.size < G := by
        have := bR.lt
        have := hb2.size
        omega
      gi_wp2_with fail
      simp only [← hG]
      rw [← hX3]
      have HG := Lib.hid hG; clear hG
      have hdec := vDecode pa (G + 1) hp X3 (hL.below hb3) (by have := Hcl.out; have := Hn.out; omega) bO3
      rw [hd1'] at hdec
      refine ⟨trivial, callsIn_wide.2 (hdec.mono ?_)⟩
      rintro e X4 ⟨rfl, bO4, but4⟩
      have hb4 : Below w.heap.size w X4 := hb3.trans (but4.below hb3.size (by simp; omega))
      have bG4 := bG3.but but4 (by simp)
      have bR4 := bR3.but but4 (by simp; omega)
      have g1 : X4.cell? ⟨G, 1, none⟩ = some (.string { data := #[] }) := bG4.cell 1
      have gf := bG4.frozen 1
      have s4 := but4.size
      clear hX3 hdec bG3 bO3 bR3
      gi_wp2_with fail
      refine ⟨trivial, (seq_in _ 38 qu _).mono ?_⟩
      rintro e X5 ⟨rfl, hX5⟩
      obtain ⟨T, hT⟩ : ∃ T, T = X4.heap.size := ⟨_, rfl⟩
      have hT1 : (X4.setCell ⟨G, 1, none⟩ (str d1.1)).heap.size = T := by rw [hT]; simp [World.setCell]
      rw [hT1]
      obtain ⟨Y, hY⟩ : ∃ Y, Y = X4.setCell ⟨G, 1, none⟩ (str d1.1) := ⟨_, rfl⟩
      rw [← hY] at hX5 hT1
      have bGY : Blk Y G 26 [.string { data := #[] }, str d1.1, .slice none 0 0, .slice none 0 0] := by rw [hY]; exact bG4.set_ 1 _
      have bOY : Blk Y (G + 1) 4 [.bool d1.2] := by rw [hY]; exact bO4.far (p := ⟨G, 1, none⟩) (by simp) _
      have bRY : Blk Y w.heap.size 26 [.string { data := #[] }, .string { data := #[] }, .slice none 0 0, .slice none 0 0] := by rw [hY]; exact bR4.far (p := ⟨G, 1, none⟩) (by simp; omega) _
      have hbY : Below w.heap.size w Y := by rw [hY]; exact hb4.setCell (p := ⟨G, 1, none⟩) (by show w.heap.size ≤ G; omega) _
      have bG5 := ((bGY.alloc (.cells #[str qu] 9)).alloc (.cells #[str [38]] 9)).alloc (.cells #[.int .i64 0] 3)
      have bO5 := ((bOY.alloc (.cells #[str qu] 9)).alloc (.cells #[str [38]] 9)).alloc (.cells #[.int .i64 0] 3)
      have bR5 := ((bRY.alloc (.cells #[str qu] 9)).alloc (.cells #[str [38]] 9)).alloc (.cells #[.int .i64 0] 3)
      have bT5 : Blk X5 T 9 [str qu] := by rw [hX5, ← hT1]; exact ((Blk.new Y _ _).alloc _).alloc _
      have bS5 : Blk X5 (T + 1) 9 [str [38]] := by
        have := Blk.new (Y.alloc (.cells #[str qu] 9)) 9 [str [38]]
        rw [World.size_alloc, hT1] at this
        rw [hX5]; exact this.alloc _
      have bV5 : Blk X5 (T + 2) 3 [.int .i64 0] := by
        have := Blk.new ((Y.alloc (.cells #[str qu] 9)).alloc (.cells #[str [38]] 9)) 3 [.int .i64 0]
        rw [World.size_alloc, World.size_alloc, hT1] at this
        rw [hX5]; exact this
      have hb5 : Below w.heap.size w X5 := by
        have hs := hbY.size
        rw [hX5]; exact ((hbY.alloc hs _).alloc (by simp; omega) _).alloc (by simp; omega) _
      rw [← hX5] at bG5 bO5 bR5
      have hGT : G + 2 ≤ T := by omega
      have s5 : X5.heap.size = T + 3 := by rw [hX5]; simp [hT1]
      have hL5 := hL.below hb5
      clear hY bGY bOY bRY hbY hX5 bG4 bO4 bR4 hb4 but4 g1 gf hT
      gi_wp2_with fail
      have hslen := splitC_len 38 qu
      have Hslen := Lib.hid hslen; clear hslen
      have hK : ∀ x, x ∈ [T, T + 1, T + 2] → x < X5.heap.size := by intro x hx; simp at hx; omega
      refine wpIn_rangeT (gf := 80) (lb := #[.pointer (some ⟨T + 1, 0, none⟩), .pointer (some ⟨T, 0, none⟩), .pointer (some ⟨T + 2, 0, none⟩)]) (j := 11) (by omega) rfl (enters_of Tryd.func80 (by kernel_rfl) rfl)
        (seqT 4 (by omega) 38 qu (by have := Hcl.out; have := Hn.out; omega) T (T + 1) (T + 2) w.heap.size hL.lo (by omega) (by omega) (by omega) X5 hL5 bT5 bS5 bV5) KpB.trans (kpB_obj hb5.size hK)
        (TgI w G T qu d1) (TgI.own hb5.size) (fun k A u h => h.set_ hGT hGw u) ?start ?assign ?body ?done
      case start => exact ⟨[], d1.2, none, 0, _, by simp, Lib.hid rfl, bG5, World.ownsRow_nil _ _ _ _, bO5, bR5, bT5, hb5, bS5, bV5⟩
      case assign =>
        intro l x W K hK
        simp only [List.setIfInBounds_toArray, List.set] at hK ⊢
        gi_wp2
        exact hK
      case body =>
        intro lr k x W hI hx
        simp only [List.setIfInBounds_toArray, List.set]
        obtain ⟨qs, okb, A, c, sT, h0, h1, h2, h3, h4, h5, h6, h7, h8, h9⟩ := hI
        have hxl : x.length ≤ 10000 := by
          have := Hslen.out.2 x (List.mem_of_getElem? hx)
          have := Hcl.out; have := Hn.out
          omega
        have hkl : k ≤ 10001 := by
          have := (List.getElem?_eq_some_iff.1 hx).1
          have := Hslen.out.1
          have := Hcl.out; have := Hn.out
          omega
        have hfold : Hid (((splitC 38 qu).take (k + 1)).foldl pairP ([], d1.2) = pairP (qs, okb) x) := by
          refine Lib.hid ?_
          rw [List.take_add_one, hx, Option.toList_some, List.foldl_append, h1.out]
          rfl
        have Hx := Lib.hid hx; clear hx
        have sW := h7.size
        have hLW := hL.below h7
        by_cases hx0 : x = []
        · have hp0 : pairP (qs, okb) x = (qs, okb) := by unfold pairP; rw [if_pos hx0]
          rw [hp0] at hfold
          have hsx : (str x) = .string { data := #[] } := by rw [hx0]
          rw [hsx]
          clear hx0 hsx hp0
          gi_wp2
          exact ⟨KeepsFrom.refl _ _, ⟨Below.refl _ _, fun _ _ _ h => h⟩, ⟨qs, okb, A, c, sT, by omega, hfold, h2, h3, h4, h5, h6, h7, h8, h9⟩⟩
        · obtain ⟨sv, hsv⟩ : ∃ sv : ByteArray, sv = ⟨x.toArray⟩ := ⟨_, rfl⟩
          have hne : ¬ sv = { data := #[] } := fun e => hx0 (by
            have h2 := congrArg (fun b : ByteArray => b.data.toList) (hsv.symm.trans e)
            simpa using h2)
          have hne2 : sv.toList.isEmpty = false := by
            rw [Lib.toList_data, hsv]
            cases x with
            | nil => exact absurd rfl hx0
            | cons _ _ => rfl
          clear hne
          unfold str
          rw [← hsv]
          have Hsv := Lib.hid hsv; clear hsv
          gi_wp2_with fail
          have hrep := cReplace x W hLW (by omega)
          unfold str at hrep
          rw [← Hsv.out] at hrep
          refine ⟨trivial, CallsIn.inRound lr (callsIn_wide.2 (hrep.mono ?_))⟩
          rintro e W1 ⟨rfl, hb1⟩
          have hpl : (plusP x).length = x.length := by unfold plusP; rw [List.length_map]
          have hcl2 := cut_len (plusP x) [61]
          have hcut2 := cCut (plusP x) [61] W1 (hLW.below hb1) (by omega)
          obtain ⟨na, hna⟩ : ∃ na, (Lib.cut (plusP x) [61]).1 = na := ⟨_, rfl⟩
          obtain ⟨va, hva⟩ : ∃ va, (Lib.cut (plusP x) [61]).2.1 = va := ⟨_, rfl⟩
          have hpp : pairP (qs, okb) x = (qs ++ [((decV na okb).1, (decV va (decV na okb).2).1)], (decV va (decV na okb).2).2) := by
            unfold pairP
            rw [if_neg hx0]
            simp only [hna, hva]
          rw [hna, hva] at hcut2 hcl2
          rw [hpp] at hfold
          obtain ⟨da, hda⟩ : ∃ da, decV na okb = da := ⟨_, rfl⟩
          obtain ⟨db, hdb⟩ : ∃ db, decV va da.2 = db := ⟨_, rfl⟩
          rw [hda] at hfold
          rw [hdb] at hfold
          have Hda := Lib.hid hda; clear hda
          have Hdb := Lib.hid hdb; clear hdb
          have Hcl2 := Lib.hid hcl2; clear hcl2
          have Hpl := Lib.hid hpl; clear hpl
          clear hna hva hpp hx0 hrep
          gi_wp2_with fail
          refine ⟨trivial, CallsIn.inRound lr (callsIn_wide.2 (hcut2.mono ?_))⟩
          rintro e W2 ⟨rfl, hb2⟩
          have hbx := hb1.trans (hb2.mono hb1.size)
          have sx := hbx.size
          have u2 := h2.below hbx h2.lt
          have u3' := own_below h3 hbx
          have u4 := h4.below hbx h4.lt
          have u5' := h5.below hbx h5.lt
          have u6 := h6.below hbx h6.lt
          have u7 := h7.trans (hbx.mono sW)
          have u8' := h8.below hbx h8.lt
          have u9' := h9.below hbx h9.lt
          have K2 : RdK w.heap.size [T, T + 1, T + 2] W W2 := .of_below hbx sW
          have hnaL : na.length ≤ 100000 := by have := Hcl2.out; have := Hpl.out; omega
          have hvaL : va.length ≤ 100000 := by have := Hcl2.out; have := Hpl.out; omega
          clear h2 h3 h4 h5 h6 h8 h9 hb1 hb2 hcut2
          gi_wp2_with fail
          have hS0 : Blk W2.drew G 26 [.string { data := #[] }, str d1.1, .slice A qs.length c, .slice none 0 0] := u2
          have y0 : ∀ w' : World, Blk w' G 26 [.string { data := #[] }, str d1.1, .slice A qs.length c, .slice none 0 0] → w'.cell? ⟨G, 2, none⟩ = some (.slice A qs.length c) := fun w' h => h.cell 2
          refine wpIn_region_round (fun w' => Blk w' G 26 [.string { data := #[] }, str d1.1, .slice A qs.length c, .slice none 0 0]) 10 (by kernel_rfl) (by kernel_rfl) (fun ⟨_, _, h⟩ => h) ?_
          apply wpAnyN_takeL 0 (by kernel_rfl) rfl (fun _ _ _ h => h) (by kernel_rfl) hS0
          · intro w' hS'
            go_simp; exact ⟨rfl, rfl⟩
          (try simp only [Act.put]); (try simp only [List.setIfInBounds_toArray]); (try simp only [List.set])
          apply wpAnyN_takeL 1 (by kernel_rfl) rfl (fun _ _ _ h => h) (by kernel_rfl) hS0
          · intro w' hS'
            go_simp; exact ⟨rfl, rfl⟩
          (try simp only [Act.put]); (try simp only [List.setIfInBounds_toArray]); (try simp only [List.set])
          apply wpAnyN_takeL 2 (by kernel_rfl) rfl (fun _ _ _ h => h) (by kernel_rfl) hS0
          · intro w' hS'
            go_simp; exact ⟨rfl, rfl⟩
          (try simp only [Act.put]); (try simp only [List.setIfInBounds_toArray]); (try simp only [List.set])
          apply wpAnyN_takeL 4 (by kernel_rfl) rfl (fun _ _ _ h => h) (by kernel_rfl) hS0
          · intro w' hS'
            go_simp; exact ⟨rfl, rfl⟩
          (try simp only [Act.put]); (try simp only [List.setIfInBounds_toArray]); (try simp only [List.set])
          refine wpAnyN_runL 3 (by kernel_rfl) rfl (by kernel_rfl) (fun K hK => ?_)
          go_simp
          refine (vDecode na (G + 1) okb W2.drew (hL.below (u7.drew)) hnaL u4).mono ?_
          rw [Hda.out]
          rintro e W3 ⟨rfl, o3, but3⟩
          have t2 := hS0.but but3 (by simp)
          refine hK _ _ (fun _ => t2) ?_
          clear hK K
          (try simp only [Act.put]); (try simp only [List.setIfInBounds_toArray]); (try simp only [List.set])
          refine wpAnyN_runL 5 (by kernel_rfl) rfl (by kernel_rfl) (fun K hK => ?_)
          go_simp
          refine (vDecode va (G + 1) da.2 W3 (hL.below (u7.drew.trans (but3.below (by simp; omega) (by simp; omega)))) hvaL o3).mono ?_
          rw [Hdb.out]
          rintro e W4 ⟨rfl, o4, but4'⟩
          have bb : But [G + 1] W2 W4 := (show But [G + 1] W2 W2.drew from (But.refl _ _).drew).trans (but3.trans but4')
          have v2 := u2.but bb (by simp)
          have hownB : ∀ g, (Value.slice A qs.length c).ownBlock = some g → g ∉ [G + 1] := fun g hg hm => by
            simp only [List.mem_singleton] at hm
            subst hm
            exact own_blk u3' u4 (by decide) (by rw [hg]; simp)
          have v3 := own_but u3' bb hownB
          have v5 := u5'.but bb (by simp; omega)
          have v6 := u6.but bb (by simp; omega)
          have v8 := u8'.but bb (by simp; omega)
          have v9 := u9'.but bb (by simp; omega)
          have v7 : Below w.heap.size w W4 := u7.trans (bb.below (by omega) (by simp; omega))
          have K4 : RdK w.heap.size [T, T + 1, T + 2] W W4 := K2.trans (.of_but bb u4 (by omega) (by simp; omega))
          refine hK _ _ (fun _ => v2) ?_
          clear hK K
          (try simp only [Act.put]); (try simp only [List.setIfInBounds_toArray]); (try simp only [List.set])
          apply wpAnyN_takeL 6 (v := (.agg #[str da.1, str db.1])) (by kernel_rfl) rfl (fun _ _ _ h => h) (by kernel_rfl) v2
          · intro w' hS'
            (go_simp; exact ⟨rfl, rfl⟩)
          (try simp only [Act.put]); (try simp only [List.setIfInBounds_toArray]); (try simp only [List.set])
          refine wpAnyN_runL 7 (by kernel_rfl) rfl (by kernel_rfl) (fun K hK => ?_)
          go_simp
          have sW4 := v7.size
          obtain ⟨W5, hW5⟩ : ∃ W5, W5 = W4.alloc (.cells #[str da.1, str db.1] 42) := ⟨_, rfl⟩
          rw [← hW5]
          have x2 : Blk W5 G 26 [.string { data := #[] }, str d1.1, .slice A qs.length c, .slice none 0 0] := by rw [hW5]; exact v2.alloc _
          have x3 : OwnP W5 w.heap.size (.slice A qs.length c) qs := by rw [hW5]; exact v3.alloc _
          have x4 : Blk W5 (G + 1) 4 [.bool db.2] := by rw [hW5]; exact o4.alloc _
          have x5 := v5.alloc (.cells #[str da.1, str db.1] 42)
          have x6 := v6.alloc (.cells #[str da.1, str db.1] 42)
          have x8 := v8.alloc (.cells #[str da.1, str db.1] 42)
          have x9 := v9.alloc (.cells #[str da.1, str db.1] 42)
          rw [← hW5] at x5 x6 x8 x9
          have x7 : Below w.heap.size w W5 := by rw [hW5]; exact v7.alloc sW4 _
          have xrow : Row W5 (W4.heap.size + 1) 2 (some ⟨W4.heap.size, 0, none⟩) 1 (pairCells [(da.1, db.1)]) := by rw [hW5]; exact row_newN W4 42 2 1 [str da.1, str db.1] rfl
          have K5 : RdK w.heap.size [T, T + 1, T + 2] W W5 := K4.trans (by rw [hW5]; exact .of_below ((Below.refl _ _).alloc (Nat.le_refl _) _) sW4)
          have sW5 := x7.size
          clear hW5 v2 v3 v5 v6 v8 v9 o4
          refine hK _ _ (fun _ => x2) ?_
          clear hK K
          (try simp only [Act.put]); (try simp only [List.setIfInBounds_toArray]); (try simp only [List.set])
          refine wpAnyN_runL 8 (by kernel_rfl) rfl (by kernel_rfl) (fun K hK => ?_)
          refine wp_app W5 pairE rfl rfl x3 rfl xrow (pairCells_one _) (by omega) sW5 ?_
          intro vq W6 q6 hg6 hb6 hv6
          have nB : ∀ {g : Nat} {t : TypeId} {cs : List Value}, 42 ≠ t → Blk W5 g t cs → some g ≠ (Value.slice A qs.length c).ownBlock := fun hne hb e => own_blk x3 hb hne (by rw [← e]; simp)
          have y2 := x2.grown hg6 (nB (by decide) x2)
          have y4 := x4.grown hg6 (nB (by decide) x4)
          have y5 := x5.grown hg6 (nB (by decide) x5)
          have y6 := x6.grown hg6 (nB (by decide) x6)
          have y8 := x8.grown hg6 (nB (by decide) x8)
          have y9 := x9.grown hg6 (nB (by decide) x9)
          have y7 : Below w.heap.size w W6 := x7.trans hb6
          have K6 : RdK w.heap.size [T, T + 1, T + 2] W W6 := K5.trans (.grown x3 hg6 sW5 (fun k hk => by
            simp only [List.mem_cons, List.not_mem_nil, or_false] at hk
            rcases hk with rfl | rfl | rfl
            · exact ⟨_, _, x6, by decide⟩
            · exact ⟨_, _, x8, by decide⟩
            · exact ⟨_, _, x9, by decide⟩))
          clear x2 x4 x5 x6 x8 x9 nB
          obtain ⟨m6, hm6⟩ : ∃ m6, m6 = (qs ++ [(da.1, db.1)]).length := ⟨_, rfl⟩
          have q6' : W6.ownsRow w.heap.size 42 2 vq m6 (pairCells (qs ++ [(da.1, db.1)])) := by
            rw [hm6, List.length_append, pairCells_app]; exact q6
          have Hm6 := Lib.hid hm6; clear hm6 q6
          obtain ⟨A6, c6, rfl, -⟩ := own_form q6'
          have cb : W6.cell? ⟨G, 2, none⟩ = some (.slice A qs.length c) := y2.cell 2
          have fb := y2.frozen 2
          refine hK _ _ (fun _ => y2) ?_
          clear hK K
          (try simp only [Act.put]); (try simp only [List.setIfInBounds_toArray]); (try simp only [List.set])
          apply wpAnyN_takeL 9 (by kernel_rfl) rfl (fun _ _ _ h => h) (by kernel_rfl) y2
          · intro w' hS'
            go_simp; exact ⟨rfl, rfl⟩
          (try simp only [Act.put]); (try simp only [List.setIfInBounds_toArray]); (try simp only [List.set])
          refine wpAnyN_runL 10 (by kernel_rfl) rfl (by kernel_rfl) (fun K hK => ?_)
          go_simp
          refine hK _ _ (fun h => absurd rfl h) ?_
          clear hK K
          (try simp only [Act.put])
          refine wpAnyN_done (by kernel_rfl) ?_ _
          refine ⟨?_, ?_, ?_⟩
          · exact ((K6.trans (.set_ (by omega) (by simp; omega))).oth).from _
          · exact (K6.trans (.set_ (by omega) (by simp; omega))).kp
          · refine ⟨qs ++ [(da.1, db.1)], db.2, A6, c6, sT, by simp; omega, hfold, ?_, ?_, y4.far (p := ⟨G, 2, none⟩) (by show G + 1 ≠ G; omega) _, y5.far (p := ⟨G, 2, none⟩) (by show w.heap.size ≠ G; omega) _, y6.far (p := ⟨G, 2, none⟩) (by show T ≠ G; omega) _, y7.setCell (p := ⟨G, 2, none⟩) (by show w.heap.size ≤ G; omega) _, y8.far (p := ⟨G, 2, none⟩) (by show T + 1 ≠ G; omega) _, y9.far (p := ⟨G, 2, none⟩) (by show T + 2 ≠ G; omega) _⟩
            · have := y2.set_ 2 (.slice A6 m6 c6)
              rw [Hm6.out] at this ⊢
              exact this
            · have h4 : (W6.setCell ⟨G, 2, none⟩ (.slice A6 m6 c6)).ownsRow w.heap.size 42 2 (.slice A6 m6 c6) m6 (pairCells (qs ++ [(da.1, db.1)])) := own_grown q6' (grown_set _ _ _ _) (.inr fun e => own_blk q6' y2 (by decide) (by rw [e]; simp))
              obtain rfl := Hm6.out
              exact h4
      case done =>
        intro D W hD hI hDD
        obtain ⟨qs, okb, A, c, sT, -, h1, h2, h3, h4, h5, h6, h7, -, -⟩ := hI
        have hfin := h1.out
        rw [List.take_length] at hfin
        have fP : P = d1.1 := HGP.out
        have fQ : Q = qs := by rw [HGQ.out, hfin]
        have fR : R = okb := by rw [HGR.out, hfin]
        subst fP fQ fR
        clear hfin
        have p0 : W.cell? ⟨G, 0, none⟩ = some (.string { data := #[] }) := h2.cell 0
        have p1 : W.cell? ⟨G, 1, none⟩ = some (str d1.1) := h2.cell 1
        have p2 : W.cell? ⟨G, 2, none⟩ = some (.slice A Q.length c) := h2.cell 2
        have p3 : W.cell? ⟨G, 3, none⟩ = some (.slice none 0 0) := h2.cell 3
        have po : W.cell? ⟨G + 1, 0, none⟩ = some (.bool R) := h4.cell 0
        gi_wp2_with fail
        refine wpIn_wide.2 ?_
        have f0 := fun i => h5.frozen i
        have r0 : W.cell? ⟨w.heap.size, 0, none⟩ = some (.string { data := #[] }) := h5.cell 0
        have r1 : W.cell? ⟨w.heap.size, 1, none⟩ = some (.string { data := #[] }) := h5.cell 1
        have r2 : W.cell? ⟨w.heap.size, 2, none⟩ = some (.slice none 0 0) := h5.cell 2
        have r3 : W.cell? ⟨w.heap.size, 3, none⟩ = some (.slice none 0 0) := h5.cell 3
        go_region
        obtain ⟨W8, hW8⟩ : ∃ W8, W8 = ((((W.setCell ⟨w.heap.size, 0, none⟩ (.string { data := #[] })).setCell ⟨w.heap.size, 1, none⟩ (str d1.1)).setCell ⟨w.heap.size, 2, none⟩ (.slice A Q.length c)).setCell ⟨w.heap.size, 3, none⟩ (.slice none 0 0)).drew := ⟨_, rfl⟩
        rw [← hW8]
        have z5 : Blk W8 w.heap.size 26 [.string { data := #[] }, str d1.1, .slice A Q.length c, .slice none 0 0] := by rw [hW8]; exact (((h5.set_ 0 _).set_ 1 _).set_ 2 _).set_ 3 _
        have zK : RdK w.heap.size [G] W W8 := by
          rw [hW8]
          have s1 : ∀ (i : Nat) (X : World) (u : Value), RdK w.heap.size [G] X (X.setCell ⟨w.heap.size, i, none⟩ u) := fun i X u => .set_ (Nat.le_refl _) (by simp; omega)
          exact ((((s1 0 _ _).trans (s1 1 _ _)).trans (s1 2 _ _)).trans (s1 3 _ _)).trans ⟨⟨Nat.le_refl _, fun _ _ h _ => h⟩, ⟨(Below.refl _ _).drew, fun _ _ _ h => h⟩⟩
        have zB : But [w.heap.size] W W8 := by
          rw [hW8]
          exact (((((But.refl _ W).setCell (p := ⟨w.heap.size, 0, none⟩) (by simp) _).setCell (p := ⟨w.heap.size, 1, none⟩) (by simp) _).setCell (p := ⟨w.heap.size, 2, none⟩) (by simp) _).setCell (p := ⟨w.heap.size, 3, none⟩) (by simp) _).drew
        have z3 := own_but h3 zB (fun g hg hm => by
          simp only [List.mem_singleton] at hm
          subst hm
          exact own_blk h3 h5 (by decide) (by rw [hg]; simp))
        have zD := zK.oth.same D _ hDD rfl
        have z7 := h7.trans zK.kp.bel
        clear hW8
        gi_wp2
        refine ⟨by simp, .inl ⟨_, _, rfl, run_takeDeferred zD, ?_⟩⟩
        have kb : Below w.heap.size W8 (W8.putObj D (.deferred none)) := belowK_b (w := w) (Nat.le_refl _) W8 D _ _ (by omega) zD rfl rfl
        have z5' : Blk (W8.putObj D (.deferred none)) w.heap.size 26 [.string { data := #[] }, str d1.1, .slice A Q.length c, .slice none 0 0] := (World.putObj_heap_other (by omega)).trans z5
        exact ⟨_, res_target z5' _ rfl rfl, A, c, rfl, own_keptD z3 (grownBy_putObj' W8 D _) (fun r e => by cases e; exact ⟨_, zD, rfl⟩), z7.trans kb⟩
end Go.Proofs.YtcjapjnhejenaaaDoor
