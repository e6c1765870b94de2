import Derived.Test.YtmcacicopgckmaaGreatDoorDg40
import Derived.Test.YtmcacicopgckmaaGreatDoorDg35
import Derived.Test.YtmcacicopgckmaaGreatDoorDg39
import Derived.Test.YtmcacicopgckmaaGreatDoorDg18
import Derived.Test.YtmcacicopgckmaaGreatDoorDg24
/-! autom: Start -/
namespace Go.Proofs.YtmcacicopgckmaaGreatDoor
open Go.RowKit Garner
set_option maxRecDepth 100000 in
set_option maxHeartbeats 8000000 in
theorem vStart {W0 : World} {B0 : Nat} {L : Value} {ins : List InstP} (hg : GoodR ins) (g : Nat) (w : World) (hp : ProgIs W0 B0 L w g ins) :
    Calls Tryz.prog 43 #[.pointer (some ⟨g, 0, none⟩)] w fun e w' => ∃ v, e = .returned (.agg #[v, .bool true]) ∧ w'.ownsRow w.heap.size 3 1 v (startR ins).length ((startR ins).map iv) ∧ Below w.heap.size w w' := by
  obtain ⟨X, hX⟩ : ∃ X, X = (w.alloc (.cells #[.slice none 0 0, .bool false] 70)).alloc (.cells #[.int .i64 0] 3) := ⟨_, rfl⟩
  have hbX : Below w.heap.size w X := by rw [hX]; exact ((Below.refl _ _).alloc (Nat.le_refl _) _).alloc (by simp) _
  have xS : Blk X w.heap.size 70 [.slice none 0 0, .bool false] := by rw [hX]; exact (Blk.new w _ [.slice none 0 0, .bool false]).alloc _
  have hr : RowT X 3 (some ⟨w.heap.size + 1, 0, none⟩) 1 (([0] : List Nat).map iv) := by
    have h := RowT.new (w.alloc (.cells #[.slice none 0 0, .bool false] 70)) 3 (([0] : List Nat).map iv)
    rw [hX]
    simp at h
    exact h
  have hsX : X.heap.size = w.heap.size + 2 := by rw [hX]; simp
  have hc := vClosure hg.tgt [0] (by simp; exact hg.pos) true false (some ⟨w.heap.size + 1, 0, none⟩) 1 1 g X rfl (by omega) (.inr ⟨_, _, rfl⟩) hr (hp.below hbX)
  have e0 : closP ins true false [0] = startR ins := rfl
  rw [e0] at hc
  have HC := Lib.hid hc; have HB := Lib.hid hbX; have XS := Lib.hid xS; have HS := Lib.hid hsX
  clear hc hbX xS hr e0 hp hg hsX
  go_enter Tryz.func43, Tryz.ntmps43
  go_wp2_with fail
  rw [← hX]
  refine HC.out.mono ?_
  rintro e w2 ⟨v, rfl, own2, hb2⟩
  have s2 := XS.out.below hb2 XS.out.lt
  have c0 : w2.cell? ⟨w.heap.size, 0, none⟩ = some (.slice none 0 0) := s2.cell 0
  have c1 : w2.cell? ⟨w.heap.size, 1, none⟩ = some (.bool false) := s2.cell 1
  have f0 := s2.frozen 0
  have f1 := s2.frozen 1
  obtain ⟨A2, k2, rfl, -⟩ := own_form own2
  obtain ⟨n2, hn2⟩ : ∃ n2, (startR ins).length = n2 := ⟨_, rfl⟩
  rw [hn2] at own2 ⊢
  have Hn2 := Lib.hid hn2
  have Own2 := Lib.hid own2; have HB2 := Lib.hid hb2; have S2 := Lib.hid s2
  clear own2 hb2 s2 hX hn2
  go_wp2
  have r2 := ((S2.out.set_ 0 (.slice A2 n2 k2)).set_ 1 (.bool true))
  have b2 : But [w.heap.size] w2 ((w2.setCell ⟨w.heap.size, 0, none⟩ (.slice A2 n2 k2)).setCell ⟨w.heap.size, 1, none⟩ (.bool true)) := ((But.refl _ _).setCell (by simp) _).setCell (by simp) _
  have l2 : Below w.heap.size w ((w2.setCell ⟨w.heap.size, 0, none⟩ (.slice A2 n2 k2)).setCell ⟨w.heap.size, 1, none⟩ (.bool true)) := by
    have hs := HS.out
    exact ((HB.out.trans (HB2.out.mono (by omega))).setCell (p := ⟨w.heap.size, 0, none⟩) (Nat.le_refl _) _).setCell (p := ⟨w.heap.size, 1, none⟩) (Nat.le_refl _) _
  have o2 := own_but (own_mono Own2.out (show w.heap.size ≤ X.heap.size by have hs := HS.out; omega)) b2 fun k hk hm => (by
    have h1 := (Own2.out.lt k hk).1
    have hs := HS.out
    simp at hm
    omega)
  generalize (w2.setCell ⟨w.heap.size, 0, none⟩ (.slice A2 n2 k2)).setCell ⟨w.heap.size, 1, none⟩ (.bool true) = W at r2 b2 l2 o2 ⊢
  have q0 : W.cell? ⟨w.heap.size, 0, none⟩ = some (.slice A2 n2 k2) := r2.cell 0
  have q1 : W.cell? ⟨w.heap.size, 1, none⟩ = some (.bool true) := r2.cell 1
  refine bodyPost_ret (v := .agg #[.slice A2 n2 k2, .bool true]) (by simp [results, Tryz.results43, go_sem, *]) rfl ?_
  exact ⟨_, rfl, by rw [Hn2.out]; exact o2, l2⟩
end Go.Proofs.YtmcacicopgckmaaGreatDoor

/-! autom: Step -/
namespace Go.Proofs.YtmcacicopgckmaaGreatDoor
open Go.RowKit Garner
theorem next_snoc (ins : List InstP) (l : List Nat) (pc r : Nat) {c : InstP} (hc : ins[pc]? = some c) : nextR ins (l ++ [pc]) r = nextR ins l r ++ if c.kind = 0 ∧ hasR c.runes r = true then [c.x] else [] := by
  unfold nextR
  rw [List.filterMap_append]
  congr 1
  simp only [List.filterMap_cons, hc, List.filterMap_nil]
  split <;> rename_i h <;> split at h <;> simp_all
theorem next_lt {ins : List InstP} (ht : TgtR ins) (l : List Nat) (r : Nat) : ∀ q ∈ nextR ins l r, q < ins.length := fun q hq => by
  obtain ⟨pc, -, c, hc, hk, -, rfl⟩ := mem_next.1 hq
  exact (ht pc c hc).1 (by omega)
set_option maxRecDepth 100000 in
set_option maxHeartbeats 32000000 in
theorem vStep {W0 : World} {B0 : Nat} {L : Value} {ins : List InstP} (hg : GoodR ins) (st : List Nat) (hst : ∀ x ∈ st, x < ins.length) (A : Option Addr) (n c : Nat) (hn : st.length = n) (hnl : n ≤ 200000) (f : Bool) (r : Nat) (find : Bool) (g : Nat) (w : World)
    (hr : RowT w 3 A n (st.map iv)) (hb0 : Below W0.heap.size W0 w) (hp : ProgIs W0 B0 L w g ins) :
    Calls Tryz.prog 44 #[.pointer (some ⟨g, 0, none⟩), .agg #[.slice A n c, .bool f], .int .i32 r, .bool find] w fun e w' => ∃ v, e = .returned (.agg #[v, .bool false]) ∧ w'.ownsRow w.heap.size 3 1 v (stepR ins find st r).length ((stepR ins find st r).map iv) ∧ Below w.heap.size w w' := by
  obtain ⟨X, hX⟩ : ∃ X, X = (w.alloc (.cells #[.slice A n c, .bool f] 70)).alloc (.cells #[.slice none 0 0, .bool false] 70) := ⟨_, rfl⟩
  have hbX : Below w.heap.size w X := by rw [hX]; exact ((Below.refl _ _).alloc (Nat.le_refl _) _).alloc (by simp) _
  have xS : Blk X w.heap.size 70 [.slice A n c, .bool f] := by rw [hX]; exact (Blk.new w _ [.slice A n c, .bool f]).alloc _
  have xR : Blk X (w.heap.size + 1) 70 [.slice none 0 0, .bool false] := by
    rw [hX]
    have h := Blk.new (w.alloc (.cells #[.slice A n c, .bool f] 70)) 70 [.slice none 0 0, .bool false]
    simpa using h
  have hsX : X.heap.size = w.heap.size + 2 := by rw [hX]; simp
  have cS : X.cell? ⟨w.heap.size, 0, none⟩ = some (.slice A n c) := xS.cell 0
  have hrX := hr.below hbX
  have hpX := hp.below hbX
  have hb0X := hb0.trans (hbX.mono hb0.size)
  have HG := Lib.hid hg; have Hst := Lib.hid hst; have Hn := Lib.hid hn; have HR := Lib.hid hrX; have HP := Lib.hid hpX; have HB0 := Lib.hid hb0X; have HB := Lib.hid hbX; have XS := Lib.hid xS; have XR := Lib.hid xR; have HS := Lib.hid hsX
  clear hg hst hn hrX hpX hb0X hbX xS xR hsX hr hp hb0
  go_enter Tryz.func44, Tryz.ntmps44
  go_upto_region 1 with fail
  rw [← hX]
  clear hX
  go_wp2
  go_loopw [9, 16] (fun v i wr => ∃ (j : Nat) (nx : List Nat), j ≤ n ∧ i = .int .i64 j ∧ Hid (nx = nextR ins (st.take j) r) ∧ nx.length ≤ j ∧ wr.ownsRow X.heap.size 3 1 v nx.length (nx.map iv) ∧ Hid (Below X.heap.size X wr)) (fun _ i _ => n - (intOf i).toNat)
  case atStart => exact ⟨0, [], Nat.zero_le _, rfl, Lib.hid rfl, Nat.le_refl _, World.ownsRow_nil _ _ _ _, Lib.hid (Below.refl _ _)⟩
  case round =>
    obtain ⟨j, nx, hj, rfl, hnx, hnl2, hown, hbw⟩ := hrel
    obtain ⟨wo, rfl⟩ : ∃ wo : World, wo = wr := ⟨_, rfl⟩
    obtain ⟨A3, c3, rfl, hc3⟩ := own_form hown
    obtain ⟨n3, hn3⟩ : ∃ n3, nx.length = n3 := ⟨_, rfl⟩
    have Hn3 := Lib.hid hn3
    rw [hn3] at hown hnl2 hc3 ⊢
    have hso := hbw.out.size
    have wj1 : IntKind.i64.wrap ((j : Int) + 1) = ((j + 1 : Nat) : Int) := by rw [IntKind.wrap_i64]; omega
    by_cases hlt : j < n
    · have z1 : (j : Int) < (n : Int) := by omega
      obtain ⟨pc, hpc⟩ : ∃ pc, st[j]? = some pc := ⟨_, List.getElem?_eq_getElem (by rw [Hn.out]; exact hlt)⟩
      have hpl := Hst.out pc (List.mem_of_getElem? hpc)
      obtain ⟨ci, hci⟩ : ∃ ci, ins[pc]? = some ci := ⟨_, List.getElem?_eq_getElem hpl⟩
      have htk : st.take (j + 1) = st.take j ++ [pc] := by
        obtain ⟨h1, e⟩ := List.getElem?_eq_some_iff.1 hpc
        rw [List.take_succ_eq_append_getElem h1, e]
      have hns := next_snoc ins (st.take j) pc r hci
      rw [← htk, ← hnx.out] at hns
      obtain ⟨bk, ok, rfl, ck⟩ := (HR.out.below hbw.out).at_ (k := j) (u := iv pc) (by rw [List.getElem?_map, hpc]; rfl)
      have ck1 : wo.cell? ⟨bk, ok + j, none⟩ = some (.int .i64 (pc : Nat)) := ck
      have hpo := HP.out.below hbw.out
      obtain ⟨gI, mI, sA, sc, d1, d2, d3, d4, d5, d6⟩ := hpo.look hci
      obtain ⟨N, hN⟩ : ∃ N, ins.length = N := ⟨_, rfl⟩
      rw [hN] at hpl d1
      have z2 : (pc : Int) < (N : Int) := by omega
      have hev := HG.out.ev ci (List.mem_of_getElem? hci)
      obtain ⟨kk, hkk⟩ := hev.2
      obtain ⟨rl, hrl⟩ : ∃ rl, ci.runes.length = rl := ⟨_, rfl⟩
      rw [hrl] at d5 d6 hkk
      have hrl2 : rl ≤ 2000 := by rw [← hrl]; exact hev.1
      obtain ⟨Y, hY⟩ : ∃ Y, Y = wo.alloc (.cells #[.int .i64 ci.kind, .int .i64 ci.x, .int .i64 ci.y, .slice sA rl sc] 113) := ⟨_, rfl⟩
      have hoY : Below wo.heap.size wo Y := by rw [hY]; exact (Below.refl _ _).alloc (Nat.le_refl _) _
      have bY : Blk Y wo.heap.size 113 [.int .i64 ci.kind, .int .i64 ci.x, .int .i64 ci.y, .slice sA rl sc] := by rw [hY]; exact Blk.new wo _ _
      have hW : Below W0.heap.size W0 Y := (HB0.out.trans (hbw.out.mono HB0.out.size)).trans (hoY.mono (Nat.le_trans HB0.out.size hso))
      have hhas := vHasI ci.runes kk rl hrl hkk (by omega) sA sc r Y (d6.below hW)
      have oY := own_below hown hoY
      have sY := hoY.size
      have y0 : Y.cell? ⟨wo.heap.size, 0, none⟩ = some (.int .i64 ci.kind) := bY.cell 0
      have y1 : Y.cell? ⟨wo.heap.size, 1, none⟩ = some (.int .i64 ci.x) := bY.cell 1
      have y3 : Y.cell? ⟨wo.heap.size, 3, none⟩ = some (.slice sA rl sc) := bY.cell 3
      have hbY : Below X.heap.size X Y := hbw.out.trans (hoY.mono hso)
      have HN := Lib.hid hN; have Hns := Lib.hid hns; have Hhas := Lib.hid hhas; have HBY := Lib.hid hbY
      clear hN hns hhas hbY hW hoY hown htk hpc hci ck hpo d6 hkk hrl hev bY hn3 hnx
      go_upto_region 6 with fail
      rw [← hY]
      clear hY d1 d2 d3 d4 d5 ck1
      have hskip : ¬ (ci.kind = 0 ∧ hasR ci.runes r = true) → nextR ins (st.take (j + 1)) r = nx := fun h => by rw [Hns.out, if_neg h, List.append_nil]
      by_cases hk : ci.kind = 0
      · have hk' : (ci.kind : Int) = 0 := by omega
        cases hh : hasR ci.runes r with
        | true =>
          have hst := Hhas.out
          rw [hh] at hst
          have hadd : nextR ins (st.take (j + 1)) r = nx ++ [ci.x] := by rw [Hns.out, if_pos ⟨hk, hh⟩]
          have Hadd := Lib.hid hadd; have Hst2 := Lib.hid hst
          clear hadd hst hk hh hskip
          go_wp2_with (first | (refine Hst2.out.mono ?_; rintro e wz ⟨rfl, hz⟩; obtain rfl : Y = wz := hz.symm) | (at_builtin; refine wpList_app _ rfl intE rfl rfl (oY.alloc _) rfl (row_new Y _ [_]) (by simp [Value.oneCell']) (by first | omega | (simp; done) | (simp; omega)) (by simp; omega) ?_; intro v8 w8 own8 hg8 hb8 hx8))
          have hb9 : Below X.heap.size X w8 := (HBY.out.alloc (by omega) _).trans hb8
          have Own8 := Lib.hid own8; have HB9 := Lib.hid hb9
          clear own8 hb9 hg8 hb8 hx8 oY
          go_wp2
          go_roundw
          case rel => exact ⟨j + 1, nx ++ [ci.x], by omega, by first | rfl | go_num, Lib.hid Hadd.out.symm, by rw [List.length_append, Hn3.out]; show n3 + 1 ≤ _; omega, by rw [List.length_append, Hn3.out, List.map_append]; exact Own8.out, HB9⟩
          case measure => simp [intOf]; omega
        | false =>
          have hst := Hhas.out
          rw [hh] at hst
          have hno := hskip (fun h => by rw [hh] at h; cases h.2)
          have Hno := Lib.hid hno; have Hst2 := Lib.hid hst
          clear hno hst hk hh hskip
          go_wp2_with (refine Hst2.out.mono ?_; rintro e wz ⟨rfl, hz⟩; obtain rfl : Y = wz := hz.symm)
          go_roundw
          case rel => exact ⟨j + 1, nx, by omega, by first | rfl | go_num, Lib.hid Hno.out.symm, by rw [Hn3.out]; omega, by rw [Hn3.out]; exact oY, HBY⟩
          case measure => simp [intOf]; omega
      · have hk' : ¬ (ci.kind : Int) = 0 := by omega
        have hno := hskip (fun h => hk h.1)
        have Hno := Lib.hid hno
        clear hno hk hskip
        go_wp2_with fail
        go_roundw
        case rel => exact ⟨j + 1, nx, by omega, by first | rfl | go_num, Lib.hid Hno.out.symm, by rw [Hn3.out]; omega, by rw [Hn3.out]; exact oY, HBY⟩
        case measure => simp [intOf]; omega
    · obtain rfl : j = n := by omega
      have z1 : ¬ (j : Int) < (j : Int) := by omega
      have hnx2 : nx = nextR ins st r := by rw [hnx.out, List.take_of_length_le (by rw [Hn.out]; exact Nat.le_refl _)]
      have hnlt : ∀ x ∈ nx, x < ins.length := by rw [hnx2]; exact next_lt HG.out.tgt _ _
      have HNX := Lib.hid hnx2; have HNL := Lib.hid hnlt; have Hown := Lib.hid hown
      clear hnx hnx2 hnlt hn3 hown
      cases find with
      | true =>
        have z3 : X.heap.size ≤ wo.heap.size := hso
        go_upto_region 11 with (at_builtin; refine wpList_app _ rfl intE rfl rfl (Hown.out.alloc _) rfl (row_new wo _ [_]) (by simp [Value.oneCell']) (by first | omega | (simp; done) | (simp; omega)) (by simp; omega) ?_; intro v8 w8 own8 hg8 hb8 hx8)
        have hb9 : Below X.heap.size X w8 := (hbw.out.alloc hso _).trans hb8
        have own8' : w8.ownsRow X.heap.size 3 1 v8 (n3 + 1) ((nx ++ [0]).map iv) := by rw [List.map_append]; exact own8
        obtain ⟨A8, c8, rfl, -⟩ := own_form own8'
        have hrow8 : RowT w8 3 A8 (n3 + 1) ((nx ++ [0]).map iv) := RowT.of_own own8'
        have hc := vClosure HG.out.tgt (nx ++ [0]) (fun x hx => (List.mem_append.1 hx).elim (HNL.out x) (fun h => by rw [List.mem_singleton.1 h]; exact HG.out.pos)) false false A8 (n3 + 1) c8 g w8 (by rw [List.length_append, Hn3.out]; rfl) (by omega) (PlainA.of_own own8') hrow8 (HP.out.below hb9)
        have ec : closP ins false false (nx ++ [0]) = stepR ins true st r := by rw [HNX.out]; rfl
        rw [ec] at hc
        have HC := Lib.hid hc; have HB9 := Lib.hid hb9
        clear hc hb9 own8 own8' hg8 hb8 hx8 hrow8 ec
        go_wp2_with fail
        refine HC.out.mono ?_
        rintro e w2 ⟨v, rfl, own2, hb2⟩
        have hbX2 : Below X.heap.size X w2 := HB9.out.trans (hb2.mono HB9.out.size)
        have s2 := XR.out.below hbX2 XR.out.lt
        have own2' := own_mono own2 HB9.out.size
        obtain ⟨SR, hSR⟩ : ∃ SR, stepR ins true st r = SR := ⟨_, rfl⟩
        rw [hSR] at own2'
        have HSR := Lib.hid hSR
        clear own2 hb2 hSR
        obtain ⟨A2, k2, rfl, -⟩ := own_form own2'
        obtain ⟨n2, hn2⟩ : ∃ n2, SR.length = n2 := ⟨_, rfl⟩
        rw [hn2] at own2' ⊢
        have Hn2 := Lib.hid hn2
        have c0 : w2.cell? ⟨w.heap.size + 1, 0, none⟩ = some (.slice none 0 0) := s2.cell 0
        have c1 : w2.cell? ⟨w.heap.size + 1, 1, none⟩ = some (.bool false) := s2.cell 1
        have f0 := s2.frozen 0
        have f1 := s2.frozen 1
        have Own2 := Lib.hid own2'; have HBX2 := Lib.hid hbX2; have S2 := Lib.hid s2
        clear own2' hbX2 s2 hn2
        go_wp2
        have r2 := ((S2.out.set_ 0 (.slice A2 n2 k2)).set_ 1 (.bool false))
        have b2 : But [w.heap.size + 1] w2 ((w2.setCell ⟨w.heap.size + 1, 0, none⟩ (.slice A2 n2 k2)).setCell ⟨w.heap.size + 1, 1, none⟩ (.bool false)) := ((But.refl _ _).setCell (by simp) _).setCell (by simp) _
        have hs := HS.out
        have l2 : Below w.heap.size w ((w2.setCell ⟨w.heap.size + 1, 0, none⟩ (.slice A2 n2 k2)).setCell ⟨w.heap.size + 1, 1, none⟩ (.bool false)) :=
          ((HB.out.trans (HBX2.out.mono (by omega))).setCell (p := ⟨w.heap.size + 1, 0, none⟩) (Nat.le_succ _) _).setCell (p := ⟨w.heap.size + 1, 1, none⟩) (Nat.le_succ _) _
        have o2 := own_but (own_mono Own2.out (show w.heap.size ≤ X.heap.size by omega)) b2 fun k hk hm => (by
          have h1 := (Own2.out.lt k hk).1
          simp at hm
          omega)
        generalize (w2.setCell ⟨w.heap.size + 1, 0, none⟩ (.slice A2 n2 k2)).setCell ⟨w.heap.size + 1, 1, none⟩ (.bool false) = W at r2 b2 l2 o2 ⊢
        have q0 : W.cell? ⟨w.heap.size + 1, 0, none⟩ = some (.slice A2 n2 k2) := r2.cell 0
        have q1 : W.cell? ⟨w.heap.size + 1, 1, none⟩ = some (.bool false) := r2.cell 1
        clear hs
        refine bodyPost_ret (v := .agg #[.slice A2 n2 k2, .bool false]) (by simp [results, Tryz.results44, go_sem, *]) rfl ?_
        exact ⟨_, rfl, by rw [HSR.out, Hn2.out]; exact o2, l2⟩
      | false =>
        have hb9 := hbw.out
        have hc := vClosure HG.out.tgt nx HNL.out false false A3 n3 c3 g wo Hn3.out (by omega) (PlainA.of_own Hown.out) (RowT.of_own Hown.out) (HP.out.below hb9)
        have ec : closP ins false false nx = stepR ins false st r := by
          rw [HNX.out]
          show _ = closP ins false false (nextR ins st r ++ [])
          rw [List.append_nil]
        rw [ec] at hc
        have HC := Lib.hid hc; have HB9 := Lib.hid hb9
        clear hc hb9 ec
        go_wp2_with fail
        refine HC.out.mono ?_
        rintro e w2 ⟨v, rfl, own2, hb2⟩
        have hbX2 : Below X.heap.size X w2 := HB9.out.trans (hb2.mono HB9.out.size)
        have s2 := XR.out.below hbX2 XR.out.lt
        have own2' := own_mono own2 HB9.out.size
        obtain ⟨SR, hSR⟩ : ∃ SR, stepR ins false st r = SR := ⟨_, rfl⟩
        rw [hSR] at own2'
        have HSR := Lib.hid hSR
        clear own2 hb2 hSR
        obtain ⟨A2, k2, rfl, -⟩ := own_form own2'
        obtain ⟨n2, hn2⟩ : ∃ n2, SR.length = n2 := ⟨_, rfl⟩
        rw [hn2] at own2' ⊢
        have Hn2 := Lib.hid hn2
        have c0 : w2.cell? ⟨w.heap.size + 1, 0, none⟩ = some (.slice none 0 0) := s2.cell 0
        have c1 : w2.cell? ⟨w.heap.size + 1, 1, none⟩ = some (.bool false) := s2.cell 1
        have f0 := s2.frozen 0
        have f1 := s2.frozen 1
        have Own2 := Lib.hid own2'; have HBX2 := Lib.hid hbX2; have S2 := Lib.hid s2
        clear own2' hbX2 s2 hn2
        go_wp2
        have r2 := ((S2.out.set_ 0 (.slice A2 n2 k2)).set_ 1 (.bool false))
        have b2 : But [w.heap.size + 1] w2 ((w2.setCell ⟨w.heap.size + 1, 0, none⟩ (.slice A2 n2 k2)).setCell ⟨w.heap.size + 1, 1, none⟩ (.bool false)) := ((But.refl _ _).setCell (by simp) _).setCell (by simp) _
        have hs := HS.out
        have l2 : Below w.heap.size w ((w2.setCell ⟨w.heap.size + 1, 0, none⟩ (.slice A2 n2 k2)).setCell ⟨w.heap.size + 1, 1, none⟩ (.bool false)) :=
          ((HB.out.trans (HBX2.out.mono (by omega))).setCell (p := ⟨w.heap.size + 1, 0, none⟩) (Nat.le_succ _) _).setCell (p := ⟨w.heap.size + 1, 1, none⟩) (Nat.le_succ _) _
        have o2 := own_but (own_mono Own2.out (show w.heap.size ≤ X.heap.size by omega)) b2 fun k hk hm => (by
          have h1 := (Own2.out.lt k hk).1
          simp at hm
          omega)
        generalize (w2.setCell ⟨w.heap.size + 1, 0, none⟩ (.slice A2 n2 k2)).setCell ⟨w.heap.size + 1, 1, none⟩ (.bool false) = W at r2 b2 l2 o2 ⊢
        have q0 : W.cell? ⟨w.heap.size + 1, 0, none⟩ = some (.slice A2 n2 k2) := r2.cell 0
        have q1 : W.cell? ⟨w.heap.size + 1, 1, none⟩ = some (.bool false) := r2.cell 1
        clear hs
        refine bodyPost_ret (v := .agg #[.slice A2 n2 k2, .bool false]) (by simp [results, Tryz.results44, go_sem, *]) rfl ?_
        exact ⟨_, rfl, by rw [HSR.out, Hn2.out]; exact o2, l2⟩
end Go.Proofs.YtmcacicopgckmaaGreatDoor

/-! autom: Matches -/
namespace Go.Proofs.YtmcacicopgckmaaGreatDoor
open Go.RowKit Garner
noncomputable def matB (ins : List InstP) (st : List Nat) (first last : Bool) : Bool := @decide (MatR ins (if last = true then closP ins first true st else st)) (Classical.propDecidable _)
theorem matB_iff {ins : List InstP} {st : List Nat} {first last : Bool} : matB ins st first last = true ↔ MatR ins (if last = true then closP ins first true st else st) := @decide_eq_true_iff _ (Classical.propDecidable _)
set_option maxRecDepth 100000 in
set_option maxHeartbeats 4000000 in
theorem vMat1 {W0 : World} {B0 : Nat} {L : Value} {ins : List InstP} (pc : Nat) (ci : InstP) (hci : ins[pc]? = some ci) (bp g : Nat) (w : World) (hbp : Blk w bp 57 [.pointer (some ⟨g, 0, none⟩)]) (hp : ProgIs W0 B0 L w g ins) :
    Calls Tryz.prog 73 #[.int .i64 pc, .pointer (some ⟨bp, 0, none⟩)] w fun e w' => e = .returned (.bool (decide (ci.kind = 4))) ∧ w' = w := by
  obtain ⟨gI, mI, sA, sc, d1, d2, d3, d4, d5, d6⟩ := hp.look hci
  obtain ⟨hpl, -⟩ := List.getElem?_eq_some_iff.1 hci
  obtain ⟨N, hN⟩ : ∃ N, ins.length = N := ⟨_, rfl⟩
  rw [hN] at hpl d1
  have z2 : (pc : Int) < (N : Int) := by omega
  have cp : w.cell? ⟨bp, 0, none⟩ = some (.pointer (some ⟨g, 0, none⟩)) := hbp.cell 0
  clear hN d3 d4 d5 d6 hbp hci hp
  have hd : decide (ci.kind = 4) = decide ((ci.kind : Int) = 4) := by rw [decide_eq_decide]; omega
  rw [hd]
  clear hd
  go_enter Tryz.func73, Tryz.ntmps73
  go_wp2
  go_ret
  exact ⟨rfl, rfl⟩
set_option maxRecDepth 100000 in
set_option maxHeartbeats 8000000 in
theorem vIndexI {W0 : World} {B0 : Nat} {L : Value} {ins : List InstP} (st : List Nat) (hst : ∀ x ∈ st, x < ins.length) (A : Option Addr) (n c : Nat) (hn : st.length = n) (hnl : n ≤ 1000000) (bp g : Nat) (w : World) (hr : RowT w 3 A n (st.map iv)) (hbp : Blk w bp 57 [.pointer (some ⟨g, 0, none⟩)]) (hp : ProgIs W0 B0 L w g ins) :
    Calls Tryz.prog 104 #[.slice A n c, .func (.func 73) #[] #[.pointer (some ⟨bp, 0, none⟩)]] w fun e w' => ∃ k : Int, e = .returned (.int .i64 k) ∧ (0 ≤ k ↔ MatR ins st) ∧ w' = w := by
  have Hst := Lib.hid hst; have Hn := Lib.hid hn; have HR := Lib.hid hr; have Hbp := Lib.hid hbp; have HP := Lib.hid hp
  clear hst hn hr hbp hp
  go_enter Tryz.func104, Tryz.ntmps104
  go_wp2
  go_loopw [8] (fun i wr => ∃ j : Nat, j ≤ n ∧ i = .int .i64 j ∧ Hid (∀ pc ∈ st.take j, ∀ ci, ins[pc]? = some ci → ci.kind ≠ 4) ∧ wr = w) (fun i _ => n - (intOf i).toNat)
  case atStart => exact ⟨0, Nat.zero_le _, rfl, Lib.hid (by simp), rfl⟩
  case round =>
    obtain ⟨j, hj, rfl, hno, hwr⟩ := hrel
    obtain rfl : w = wr := hwr.symm
    have wj1 : IntKind.i64.wrap ((j : Int) + 1) = ((j + 1 : Nat) : Int) := by rw [IntKind.wrap_i64]; omega
    by_cases hlt : j < n
    · have z1 : (j : Int) < (n : Int) := by omega
      obtain ⟨pc, hpc⟩ : ∃ pc, st[j]? = some pc := ⟨_, List.getElem?_eq_getElem (by rw [Hn.out]; exact hlt)⟩
      have hpl := Hst.out pc (List.mem_of_getElem? hpc)
      obtain ⟨ci, hci⟩ : ∃ ci, ins[pc]? = some ci := ⟨_, List.getElem?_eq_getElem hpl⟩
      have htk : st.take (j + 1) = st.take j ++ [pc] := by
        obtain ⟨h1, e⟩ := List.getElem?_eq_some_iff.1 hpc
        rw [List.take_succ_eq_append_getElem h1, e]
      obtain ⟨bk, ok, rfl, ck⟩ := HR.out.at_ (k := j) (u := iv pc) (by rw [List.getElem?_map, hpc]; rfl)
      have ck1 : w.cell? ⟨bk, ok + j, none⟩ = some (.int .i64 (pc : Nat)) := ck
      have hm := vMat1 pc ci hci bp g w Hbp.out HP.out
      have hmem := List.mem_of_getElem? hpc
      by_cases h4 : ci.kind = 4
      · have hd : decide (ci.kind = 4) = true := by simp [h4]
        rw [hd] at hm
        have hy : MatR ins st := ⟨pc, hmem, ci, hci, h4⟩
        have HM := Lib.hid hm; have HY := Lib.hid hy
        clear hm hy hd hci hpc htk ck hmem hpl h4
        go_wp2_with fail
        refine HM.out.mono ?_
        rintro e w1 ⟨rfl, rfl⟩
        go_wp2_with fail
        go_ret
        exact ⟨_, rfl, ⟨fun _ => HY.out, fun _ => by omega⟩, rfl⟩
      · have hd : decide (ci.kind = 4) = false := by simp [h4]
        rw [hd] at hm
        have hy : ∀ pc ∈ st.take (j + 1), ∀ ci, ins[pc]? = some ci → ci.kind ≠ 4 := by
          intro p hp2 c2 hc2
          rw [htk] at hp2
          rcases List.mem_append.1 hp2 with h | h
          · exact hno.out p h c2 hc2
          · rw [List.mem_singleton.1 h, hci] at hc2
            cases hc2
            exact h4
        have HM := Lib.hid hm; have HY := Lib.hid hy
        clear hm hy hd hci hpc htk ck hmem hpl h4
        go_wp2_with fail
        refine HM.out.mono ?_
        rintro e w1 ⟨rfl, rfl⟩
        go_wp2_with fail
        go_roundw
        case rel => exact ⟨j + 1, by omega, rfl, HY, by first | rfl | trivial⟩
        case measure => simp [intOf]; omega
    · have z1 : ¬ (j : Int) < (n : Int) := by omega
      have hno2 : ¬ MatR ins st := by
        rintro ⟨pc, hm, c2, hc2, h4⟩
        refine hno.out pc ?_ c2 hc2 h4
        rw [List.take_of_length_le (by rw [Hn.out]; omega)]; exact hm
      have HN := Lib.hid hno2
      clear hno2 hno
      go_wp2_with fail
      go_ret
      exact ⟨_, rfl, ⟨fun h => absurd h (by omega), fun h => absurd h HN.out⟩, rfl⟩
set_option maxRecDepth 100000 in
set_option maxHeartbeats 4000000 in
theorem vContI {W0 : World} {B0 : Nat} {L : Value} {ins : List InstP} (st : List Nat) (hst : ∀ x ∈ st, x < ins.length) (A : Option Addr) (n c : Nat) (hn : st.length = n) (hnl : n ≤ 1000000) (bp g : Nat) (w : World) (hr : RowT w 3 A n (st.map iv)) (hbp : Blk w bp 57 [.pointer (some ⟨g, 0, none⟩)]) (hp : ProgIs W0 B0 L w g ins) (ANS : Bool) (hA : ANS = true ↔ MatR ins st) :
    Calls Tryz.prog 72 #[.slice A n c, .func (.func 73) #[] #[.pointer (some ⟨bp, 0, none⟩)]] w fun e w' => e = .returned (.bool ANS) ∧ w' = w := by
  have hi := vIndexI (c := c) st hst A n hn hnl bp g w hr hbp hp
  have HI := Lib.hid hi; have HA := Lib.hid hA
  clear hi hA hst hn hr hbp hp
  go_enter Tryz.func72, Tryz.ntmps72
  go_wp2_with fail
  refine HI.out.mono ?_
  rintro e w1 ⟨k, rfl, hk, rfl⟩
  have e : ANS = decide (0 ≤ k) := by
    rw [Bool.eq_iff_iff, HA.out, decide_eq_true_iff]; exact hk.symm
  have He := Lib.hid e
  clear hk e
  go_wp2
  go_ret
  exact ⟨congrArg (fun b => Ending.returned (.bool b)) He.out.symm, rfl⟩
set_option maxRecDepth 100000 in
set_option maxHeartbeats 8000000 in
theorem vMatches {W0 : World} {B0 : Nat} {L : Value} {ins : List InstP} (hg : GoodR ins) (st : List Nat) (hst : ∀ x ∈ st, x < ins.length) (A : Option Addr) (n c : Nat) (hn : st.length = n) (hnl : n ≤ 200000) (hA : PlainA A c) (f last : Bool) (g : Nat) (w : World)
    (hr : RowT w 3 A n (st.map iv)) (hp : ProgIs W0 B0 L w g ins) :
    Calls Tryz.prog 45 #[.pointer (some ⟨g, 0, none⟩), .agg #[.slice A n c, .bool f], .bool last] w fun e w' => e = .returned (.bool (matB ins st f last)) ∧ Below w.heap.size w w' := by
  have hmf : ∀ (fn : Fn) (first cap : Array Value) (w : World), (Instr.makeFunc fn first cap).run Tryz.prog w = .ok (.func fn first cap) w := fun _ _ _ _ => rfl
  obtain ⟨X, hX⟩ : ∃ X, X = (w.alloc (.cells #[.pointer (some ⟨g, 0, none⟩)] 57)).alloc (.cells #[.slice A n c, .bool f] 70) := ⟨_, rfl⟩
  have hbX : Below w.heap.size w X := by rw [hX]; exact ((Below.refl _ _).alloc (Nat.le_refl _) _).alloc (by simp) _
  have xP : Blk X w.heap.size 57 [.pointer (some ⟨g, 0, none⟩)] := by rw [hX]; exact (Blk.new w _ [.pointer (some ⟨g, 0, none⟩)]).alloc _
  have xS : Blk X (w.heap.size + 1) 70 [.slice A n c, .bool f] := by
    rw [hX]
    have h := Blk.new (w.alloc (.cells #[.pointer (some ⟨g, 0, none⟩)] 57)) 70 [.slice A n c, .bool f]
    simpa using h
  have hpX := hp.below hbX
  have hrX := hr.below hbX
  have cP : X.cell? ⟨w.heap.size, 0, none⟩ = some (.pointer (some ⟨g, 0, none⟩)) := xP.cell 0
  have cS : X.cell? ⟨w.heap.size + 1, 0, none⟩ = some (.slice A n c) := xS.cell 0
  have cF : X.cell? ⟨w.heap.size + 1, 1, none⟩ = some (.bool f) := xS.cell 1
  have hsX := hbX.size
  cases last with
  | true =>
    have hc := vClosure hg.tgt st hst f true A n c g X hn (by omega) hA hrX hpX
    obtain ⟨cl, hcl⟩ : ∃ cl, closP ins f true st = cl := ⟨_, rfl⟩
    have hclt : ∀ x ∈ cl, x < ins.length := by rw [← hcl]; exact clos_lt
    have hcll : cl.length ≤ 100000 := by rw [← hcl]; exact Nat.le_trans clos_len hg.small
    have hm : matB ins st f true = true ↔ MatR ins cl := by rw [matB_iff, if_pos rfl, hcl]
    rw [hcl] at hc
    have HC := Lib.hid hc; have HB := Lib.hid hbX; have HP := Lib.hid hpX; have XP := Lib.hid xP; have HM := Lib.hid hm; have Hlt := Lib.hid hclt
    clear hc hbX hpX xP xS hm hclt hr hp hst hn hrX hg hA hcl
    go_enter Tryz.func45, Tryz.ntmps45
    go_upto_region 1 with fail
    rw [← hX]
    clear hX
    go_wp2_with fail
    refine HC.out.mono ?_
    rintro e w2 ⟨v, rfl, own2, hb2⟩
    obtain ⟨A2, c2, rfl, -⟩ := own_form own2
    have hcon := vContI (c := c2) cl Hlt.out A2 cl.length rfl (by omega) w.heap.size g w2 (RowT.of_own own2) (XP.out.below hb2 XP.out.lt) (HP.out.below hb2) _ HM.out
    obtain ⟨n2, hn2⟩ : ∃ n2, cl.length = n2 := ⟨_, rfl⟩
    rw [hn2] at hcon ⊢
    have HCon := Lib.hid hcon; have HB2 := Lib.hid hb2
    clear hcon own2 hb2 hn2
    go_wp2_with fail
    refine HCon.out.mono ?_
    rintro e w3 ⟨rfl, rfl⟩
    go_wp2
    go_ret
    exact ⟨rfl, HB.out.trans (HB2.out.mono hsX)⟩
  | false =>
    have hm : matB ins st f false = true ↔ MatR ins st := by rw [matB_iff, if_neg (by simp)]
    have hcon := vContI (c := c) st hst A n hn (by omega) w.heap.size g X hrX xP hpX _ hm
    have HCon := Lib.hid hcon; have HB := Lib.hid hbX
    clear hcon hbX hpX xP xS hm hr hp hst hn hrX hg hA
    go_enter Tryz.func45, Tryz.ntmps45
    go_upto_region 1 with fail
    rw [← hX]
    clear hX
    go_wp2_with fail
    refine HCon.out.mono ?_
    rintro e w3 ⟨rfl, rfl⟩
    go_wp2
    go_ret
    exact ⟨rfl, HB.out⟩
end Go.Proofs.YtmcacicopgckmaaGreatDoor

/-! nfa: New, Whole, Part -/
namespace Garner
open Go
end Garner
namespace Go.Proofs.YtmcacicopgckmaaGreatDoor
open Go.RowKit Garner
/-- a matcher of a tree's -/
def MatIs (w : World) (b : Nat) (t : Re) : Prop := ∃ W0 B L g, Blk w b 60 [.pointer (some ⟨g, 0, none⟩)] ∧ ProgIs W0 B L w g (progR t) ∧ Below W0.heap.size W0 w ∧ GoodT t
theorem MatIs.below {w w' : World} {b : Nat} {t : Re} (h : MatIs w b t) (hb : Below w.heap.size w w') : MatIs w' b t := by
  obtain ⟨W0, B, L, g, h1, h2, h3, h4⟩ := h
  exact ⟨W0, B, L, g, h1.below hb h1.lt, h2.below hb, h3.trans (hb.mono h3.size), h4⟩
theorem MatIs.good {w : World} {b : Nat} {t : Re} (h : MatIs w b t) : GoodT t := by
  obtain ⟨W0, B, L, g, h1, h2, h3, h4⟩ := h
  exact h4
end Go.Proofs.YtmcacicopgckmaaGreatDoor

/-! nfa: Whole, Part -/
namespace Go.Proofs.YtmcacicopgckmaaGreatDoor
open Go.RowKit Garner
theorem run_lt {ins : List InstP} {find : Bool} {s : List Nat} (k : Nat) : ∀ pc ∈ runR ins find s k, pc < ins.length := fun pc hp => by
  obtain ⟨c, hc, -⟩ := kept_run k pc hp
  exact (List.getElem?_eq_some_iff.1 hc).1
theorem run_len {ins : List InstP} {find : Bool} {s : List Nat} : ∀ k, (runR ins find s k).length ≤ ins.length
  | 0 => clos_len
  | k + 1 => by
    unfold runR
    split
    · exact clos_len
    · simp
/-- where the loop over a text's runes stands -/
structure LoopS (w0 wr : World) (q K : Nat) (l : Bs) (rs : List Nat) (ins : List InstP) (find : Bool) (pos k : Nat) (A : Option Addr) (n c : Nat) (fb : Bool) (st : List Nat) : Prop where
  it : wr.heap[K]? = some (.stringIter ⟨l.toArray⟩ pos)
  blk : Blk wr q 70 [.slice A n c, .bool fb]
  own : wr.ownsRow w0.heap.size 3 1 (.slice A n c) n (st.map iv)
  eq : st = runR ins find rs k
  len : st.length = n
  feq : fb = decide (k = 0)
  at_ : RunAt l rs pos k
  low : Below w0.heap.size w0 wr
  kB : w0.heap.size ≤ K
theorem LoopS.nle {w0 wr : World} {q K : Nat} {l : Bs} {rs : List Nat} {ins : List InstP} {find : Bool} {pos k : Nat} {A : Option Addr} {n c : Nat} {fb : Bool} {st : List Nat} (h : LoopS w0 wr q K l rs ins find pos k A n c fb st) (hg : GoodR ins) : n ≤ 100000 := by
  rw [← h.len, h.eq]; exact Nat.le_trans (run_len k) hg.small
theorem LoopS.lt {w0 wr : World} {q K : Nat} {l : Bs} {rs : List Nat} {ins : List InstP} {find : Bool} {pos k : Nat} {A : Option Addr} {n c : Nat} {fb : Bool} {st : List Nat} (h : LoopS w0 wr q K l rs ins find pos k A n c fb st) : ∀ x ∈ st, x < ins.length := by
  rw [h.eq]; exact run_lt k
theorem LoopS.start {w0 w1 : World} {l : Bs} {ins : List InstP} {find : Bool} {A : Option Addr} {n c : Nat} (ho : w1.ownsRow w0.heap.size 3 1 (.slice A n c) n ((startR ins).map iv)) (hn : (startR ins).length = n) (hb : Below w0.heap.size w0 w1) :
    LoopS w0 ((w1.alloc (.cells #[.slice A n c, .bool true] 70)).iter ⟨l.toArray⟩ 0) w1.heap.size (w1.heap.size + 1) l (runesP l) ins find 0 0 A n c true (startR ins) := by
  have h1 := World.iter_heap (w1.alloc (.cells #[.slice A n c, .bool true] 70)) ⟨l.toArray⟩ 0
  rw [World.size_alloc] at h1
  exact ⟨h1, (Blk.new w1 _ [.slice A n c, .bool true]).alloc _, (ho.alloc _).alloc _, rfl, hn, rfl, .start l, (hb.alloc hb.size _).alloc (by simp; have := hb.size; omega) _, by have := hb.size; omega⟩
/-- a rune further, and the state behind it laid in the box -/
theorem LoopS.step {w0 wr w2 : World} {q K : Nat} {l : Bs} {rs : List Nat} {ins : List InstP} {find : Bool} {pos k r q' : Nat} {A A' : Option Addr} {n c n' c' : Nat} {fb : Bool} {st : List Nat} (h : LoopS w0 wr q K l rs ins find pos k A n c fb st) (hq : w0.heap.size ≤ q)
    (hr : runesP (l.drop pos) = r :: runesP (l.drop (pos + q'))) (hb : Below wr.heap.size (wr.iterAt K ⟨l.toArray⟩ (pos + q')) w2) (ho : w2.ownsRow wr.heap.size 3 1 (.slice A' n' c') n' ((stepR ins find st r).map iv)) (hn : (stepR ins find st r).length = n') :
    LoopS w0 ((w2.setCell ⟨q, 0, none⟩ (.slice A' n' c')).setCell ⟨q, 1, none⟩ (.bool false)) q K l rs ins find (pos + q') (k + 1) A' n' c' false (stepR ins find st r) := by
  obtain ⟨hk, hat⟩ := h.at_.next hr
  have hKl : K < wr.heap.size := (Array.getElem?_eq_some_iff.1 h.it).1
  have hql := h.blk.lt
  have hqK : q ≠ K := fun e => by
    subst e
    have h1 := h.blk
    unfold Blk at h1
    rw [h.it] at h1
    cases h1
  have hsz : (wr.iterAt K ⟨l.toArray⟩ (pos + q')).heap.size = wr.heap.size := Lib.iterAt_size _ _ _ _
  have b1 := (h.blk.iterAt (pos' := pos + q') h.it).below hb hql
  have b2 := (b1.set_ 0 (.slice A' n' c')).set_ 1 (.bool false)
  have i1 : w2.heap[K]? = some (.stringIter ⟨l.toArray⟩ (pos + q')) := by rw [hb.block K hKl]; exact Lib.iterAt_heap _ _ _ _ _ h.it
  have bu : But [q] w2 ((w2.setCell ⟨q, 0, none⟩ (.slice A' n' c')).setCell ⟨q, 1, none⟩ (.bool false)) := ((But.refl _ _).setCell (by simp) _).setCell (by simp) _
  refine ⟨by rw [bu.block K (Array.getElem?_eq_some_iff.1 i1).1 (by simp; exact fun e => hqK e.symm)]; exact i1, b2, ?_, ?_, hn, rfl, hat, ?_, h.kB⟩
  · refine own_but (own_mono ho h.low.size) bu fun g hg hm => ?_
    have := (ho.lt g hg).1
    simp at hm
    omega
  · rw [h.eq]
    show _ = runR ins find rs (k + 1)
    simp only [runR, hk]
  · exact (((Lib.below_iterAt h.low h.kB _ _).trans (hb.mono h.low.size)).setCell (p := ⟨q, 0, none⟩) hq _).setCell (p := ⟨q, 1, none⟩) hq _
theorem LoopS.whole {w0 wr : World} {q K : Nat} {l : Bs} {rs : List Nat} {t : Re} {pos k : Nat} {A : Option Addr} {n c : Nat} {fb : Bool} {st : List Nat} (h : LoopS w0 wr q K l rs (progR t) false pos k A n c fb st) (ht : t.ok) (hp : ¬ pos < l.length) : matB (progR t) st fb true = wholeB t rs := by
  rw [Bool.eq_iff_iff, matB_iff, if_pos rfl, whole_iff, ← whole_R ht rs]
  have hk := h.at_.done hp
  unfold WholeR EndR
  rw [h.eq, h.feq, hk]
theorem LoopS.part {w0 wr : World} {q K : Nat} {l : Bs} {rs : List Nat} {t : Re} {pos k : Nat} {A : Option Addr} {n c : Nat} {fb : Bool} {st : List Nat} (h : LoopS w0 wr q K l rs (progR t) true pos k A n c fb st) (ht : t.ok) (hp : ¬ pos < l.length) (hno : ∀ m, m < k → ¬ MatR (progR t) (runR (progR t) true rs m)) : matB (progR t) st fb true = partB t rs := by
  rw [Bool.eq_iff_iff, matB_iff, if_pos rfl, part_iff, ← part_R ht rs]
  have hk := h.at_.done hp
  unfold PartR EndR
  rw [h.eq, h.feq, hk]
  constructor
  · exact .inr
  · rintro (⟨m, hm, hx⟩ | hx)
    · exact absurd hx (hno m (by omega))
    · exact hx
theorem LoopS.found {w0 wr : World} {q K : Nat} {l : Bs} {rs : List Nat} {t : Re} {pos k : Nat} {A : Option Addr} {n c : Nat} {fb : Bool} {st : List Nat} (h : LoopS w0 wr q K l rs (progR t) true pos k A n c fb st) (ht : t.ok) {r : Nat} (hr : rs[k]? = some r) (hm : matB (progR t) st fb false = true) : partB t rs = true := by
  rw [matB_iff, if_neg (by simp), h.eq] at hm
  rw [part_iff, ← part_R ht rs]
  exact .inl ⟨k, (List.getElem?_eq_some_iff.1 hr).1, hm⟩
end Go.Proofs.YtmcacicopgckmaaGreatDoor

