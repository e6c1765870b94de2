import Derived.Test.YtecejnilajbdpaaGreatDoorTu35
import Derived.Test.YtecejnilajbdpaaGreatDoorTu20
/-! autom: Start -/
namespace Go.Proofs.YtecejnilajbdpaaGreatDoor
open Go.RowKit Garner
set_option maxRecDepth 100000 in
set_option maxHeartbeats 8000000 in
theorem vStart {W0 : World} {B0 : Nat} {L : Value} {ins : List InstP} (hg : GoodR ins) (g : Nat) (w : World) (hp : ProgIs W0 B0 L w g ins) :
    Calls Tryz.prog 67 #[.pointer (some ⟨g, 0, none⟩)] w fun e w' => ∃ v, e = .returned (.agg #[v, .bool true]) ∧ w'.ownsRow w.heap.size 3 1 v (startR ins).length ((startR ins).map iv) ∧ Below w.heap.size w w' := by
  obtain ⟨X, hX⟩ : ∃ X, X = (w.alloc (.cells #[.slice none 0 0, .bool false] 118)).alloc (.cells #[.int .i64 0] 3) := ⟨_, rfl⟩
  have hbX : Below w.heap.size w X := by rw [hX]; exact ((Below.refl _ _).alloc (Nat.le_refl _) _).alloc (by simp) _
  have xS : Blk X w.heap.size 118 [.slice none 0 0, .bool false] := by rw [hX]; exact (Blk.new w _ [.slice none 0 0, .bool false]).alloc _
  have hr : RowT X 3 (some ⟨w.heap.size + 1, 0, none⟩) 1 (([0] : List Nat).map iv) := by
    have h := RowT.new (w.alloc (.cells #[.slice none 0 0, .bool false] 118)) 3 (([0] : List Nat).map iv)
    rw [hX]
    simp at h
    exact h
  have hsX : X.heap.size = w.heap.size + 2 := by rw [hX]; simp
  have hc := vClosure hg.tgt [0] (by simp; exact hg.pos) true false (some ⟨w.heap.size + 1, 0, none⟩) 1 1 g X rfl (by omega) (.inr ⟨_, _, rfl⟩) hr (hp.below hbX)
  have e0 : closP ins true false [0] = startR ins := rfl
  rw [e0] at hc
  have HC := Lib.hid hc; have HB := Lib.hid hbX; have XS := Lib.hid xS; have HS := Lib.hid hsX
  clear hc hbX xS hr e0 hp hg hsX
  go_enter Tryz.func67, Tryz.ntmps67
  go_wp2_with fail
  rw [← hX]
  refine HC.out.mono ?_
  rintro e w2 ⟨v, rfl, own2, hb2⟩
  have s2 := XS.out.below hb2 XS.out.lt
  have c0 : w2.cell? ⟨w.heap.size, 0, none⟩ = some (.slice none 0 0) := s2.cell 0
  have c1 : w2.cell? ⟨w.heap.size, 1, none⟩ = some (.bool false) := s2.cell 1
  have f0 := s2.frozen 0
  have f1 := s2.frozen 1
  obtain ⟨A2, k2, rfl, -⟩ := own_form own2
  obtain ⟨n2, hn2⟩ : ∃ n2, (startR ins).length = n2 := ⟨_, rfl⟩
  rw [hn2] at own2 ⊢
  have Hn2 := Lib.hid hn2
  have Own2 := Lib.hid own2; have HB2 := Lib.hid hb2; have S2 := Lib.hid s2
  clear own2 hb2 s2 hX hn2
  go_wp2
  have r2 := ((S2.out.set_ 0 (.slice A2 n2 k2)).set_ 1 (.bool true))
  have b2 : But [w.heap.size] w2 ((w2.setCell ⟨w.heap.size, 0, none⟩ (.slice A2 n2 k2)).setCell ⟨w.heap.size, 1, none⟩ (.bool true)) := ((But.refl _ _).setCell (by simp) _).setCell (by simp) _
  have l2 : Below w.heap.size w ((w2.setCell ⟨w.heap.size, 0, none⟩ (.slice A2 n2 k2)).setCell ⟨w.heap.size, 1, none⟩ (.bool true)) := by
    have hs := HS.out
    exact ((HB.out.trans (HB2.out.mono (by omega))).setCell (p := ⟨w.heap.size, 0, none⟩) (Nat.le_refl _) _).setCell (p := ⟨w.heap.size, 1, none⟩) (Nat.le_refl _) _
  have o2 := own_but (own_mono Own2.out (show w.heap.size ≤ X.heap.size by have hs := HS.out; omega)) b2 fun k hk hm => (by
    have h1 := (Own2.out.lt k hk).1
    have hs := HS.out
    simp at hm
    omega)
  generalize (w2.setCell ⟨w.heap.size, 0, none⟩ (.slice A2 n2 k2)).setCell ⟨w.heap.size, 1, none⟩ (.bool true) = W at r2 b2 l2 o2 ⊢
  have q0 : W.cell? ⟨w.heap.size, 0, none⟩ = some (.slice A2 n2 k2) := r2.cell 0
  have q1 : W.cell? ⟨w.heap.size, 1, none⟩ = some (.bool true) := r2.cell 1
  refine bodyPost_ret (v := .agg #[.slice A2 n2 k2, .bool true]) (by simp [results, Tryz.results67, go_sem, *]) rfl ?_
  exact ⟨_, rfl, by rw [Hn2.out]; exact o2, l2⟩
end Go.Proofs.YtecejnilajbdpaaGreatDoor

/-! autom: Step -/
namespace Go.Proofs.YtecejnilajbdpaaGreatDoor
open Go.RowKit Garner
theorem next_snoc (ins : List InstP) (l : List Nat) (pc r : Nat) {c : InstP} (hc : ins[pc]? = some c) : nextR ins (l ++ [pc]) r = nextR ins l r ++ if c.kind = 0 ∧ hasR c.runes r = true then [c.x] else [] := by
  unfold nextR
  rw [List.filterMap_append]
  congr 1
  simp only [List.filterMap_cons, hc, List.filterMap_nil]
  split <;> rename_i h <;> split at h <;> simp_all
theorem next_lt {ins : List InstP} (ht : TgtR ins) (l : List Nat) (r : Nat) : ∀ q ∈ nextR ins l r, q < ins.length := fun q hq => by
  obtain ⟨pc, -, c, hc, hk, -, rfl⟩ := mem_next.1 hq
  exact (ht pc c hc).1 (by omega)
set_option maxRecDepth 100000 in
set_option maxHeartbeats 32000000 in
theorem vStep {W0 : World} {B0 : Nat} {L : Value} {ins : List InstP} (hg : GoodR ins) (st : List Nat) (hst : ∀ x ∈ st, x < ins.length) (A : Option Addr) (n c : Nat) (hn : st.length = n) (hnl : n ≤ 200000) (f : Bool) (r : Nat) (find : Bool) (g : Nat) (w : World)
    (hr : RowT w 3 A n (st.map iv)) (hb0 : Below W0.heap.size W0 w) (hp : ProgIs W0 B0 L w g ins) :
    Calls Tryz.prog 68 #[.pointer (some ⟨g, 0, none⟩), .agg #[.slice A n c, .bool f], .int .i32 r, .bool find] w fun e w' => ∃ v, e = .returned (.agg #[v, .bool false]) ∧ w'.ownsRow w.heap.size 3 1 v (stepR ins find st r).length ((stepR ins find st r).map iv) ∧ Below w.heap.size w w' := by
  obtain ⟨X, hX⟩ : ∃ X, X = (w.alloc (.cells #[.slice A n c, .bool f] 118)).alloc (.cells #[.slice none 0 0, .bool false] 118) := ⟨_, rfl⟩
  have hbX : Below w.heap.size w X := by rw [hX]; exact ((Below.refl _ _).alloc (Nat.le_refl _) _).alloc (by simp) _
  have xS : Blk X w.heap.size 118 [.slice A n c, .bool f] := by rw [hX]; exact (Blk.new w _ [.slice A n c, .bool f]).alloc _
  have xR : Blk X (w.heap.size + 1) 118 [.slice none 0 0, .bool false] := by
    rw [hX]
    have h := Blk.new (w.alloc (.cells #[.slice A n c, .bool f] 118)) 118 [.slice none 0 0, .bool false]
    simpa using h
  have hsX : X.heap.size = w.heap.size + 2 := by rw [hX]; simp
  have cS : X.cell? ⟨w.heap.size, 0, none⟩ = some (.slice A n c) := xS.cell 0
  have hrX := hr.below hbX
  have hpX := hp.below hbX
  have hb0X := hb0.trans (hbX.mono hb0.size)
  have HG := Lib.hid hg; have Hst := Lib.hid hst; have Hn := Lib.hid hn; have HR := Lib.hid hrX; have HP := Lib.hid hpX; have HB0 := Lib.hid hb0X; have HB := Lib.hid hbX; have XS := Lib.hid xS; have XR := Lib.hid xR; have HS := Lib.hid hsX
  clear hg hst hn hrX hpX hb0X hbX xS xR hsX hr hp hb0
  go_enter Tryz.func68, Tryz.ntmps68
  go_upto_region 1 with fail
  rw [← hX]
  clear hX
  go_wp2
  go_loopw [9, 16] (fun v i wr => ∃ (j : Nat) (nx : List Nat), j ≤ n ∧ i = .int .i64 j ∧ Hid (nx = nextR ins (st.take j) r) ∧ nx.length ≤ j ∧ wr.ownsRow X.heap.size 3 1 v nx.length (nx.map iv) ∧ Hid (Below X.heap.size X wr)) (fun _ i _ => n - (intOf i).toNat)
  case atStart => exact ⟨0, [], Nat.zero_le _, rfl, Lib.hid rfl, Nat.le_refl _, World.ownsRow_nil _ _ _ _, Lib.hid (Below.refl _ _)⟩
  case round =>
    obtain ⟨j, nx, hj, rfl, hnx, hnl2, hown, hbw⟩ := hrel
    obtain ⟨wo, rfl⟩ : ∃ wo : World, wo = wr := ⟨_, rfl⟩
    obtain ⟨A3, c3, rfl, hc3⟩ := own_form hown
    obtain ⟨n3, hn3⟩ : ∃ n3, nx.length = n3 := ⟨_, rfl⟩
    have Hn3 := Lib.hid hn3
    rw [hn3] at hown hnl2 hc3 ⊢
    have hso := hbw.out.size
    have wj1 : IntKind.i64.wrap ((j : Int) + 1) = ((j + 1 : Nat) : Int) := by rw [IntKind.wrap_i64]; omega
    by_cases hlt : j < n
    · have z1 : (j : Int) < (n : Int) := by omega
      obtain ⟨pc, hpc⟩ : ∃ pc, st[j]? = some pc := ⟨_, List.getElem?_eq_getElem (by rw [Hn.out]; exact hlt)⟩
      have hpl := Hst.out pc (List.mem_of_getElem? hpc)
      obtain ⟨ci, hci⟩ : ∃ ci, ins[pc]? = some ci := ⟨_, List.getElem?_eq_getElem hpl⟩
      have htk : st.take (j + 1) = st.take j ++ [pc] := by
        obtain ⟨h1, e⟩ := List.getElem?_eq_some_iff.1 hpc
        rw [List.take_succ_eq_append_getElem h1, e]
      have hns := next_snoc ins (st.take j) pc r hci
      rw [← htk, ← hnx.out] at hns
      obtain ⟨bk, ok, rfl, ck⟩ := (HR.out.below hbw.out).at_ (k := j) (u := iv pc) (by rw [List.getElem?_map, hpc]; rfl)
      have ck1 : wo.cell? ⟨bk, ok + j, none⟩ = some (.int .i64 (pc : Nat)) := ck
      have hpo := HP.out.below hbw.out
      obtain ⟨gI, mI, sA, sc, d1, d2, d3, d4, d5, d6⟩ := hpo.look hci
      obtain ⟨N, hN⟩ : ∃ N, ins.length = N := ⟨_, rfl⟩
      rw [hN] at hpl d1
      have z2 : (pc : Int) < (N : Int) := by omega
      have hev := HG.out.ev ci (List.mem_of_getElem? hci)
      obtain ⟨kk, hkk⟩ := hev.2
      obtain ⟨rl, hrl⟩ : ∃ rl, ci.runes.length = rl := ⟨_, rfl⟩
      rw [hrl] at d5 d6 hkk
      have hrl2 : rl ≤ 2000 := by rw [← hrl]; exact hev.1
      obtain ⟨Y, hY⟩ : ∃ Y, Y = wo.alloc (.cells #[.int .i64 ci.kind, .int .i64 ci.x, .int .i64 ci.y, .slice sA rl sc] 160) := ⟨_, rfl⟩
      have hoY : Below wo.heap.size wo Y := by rw [hY]; exact (Below.refl _ _).alloc (Nat.le_refl _) _
      have bY : Blk Y wo.heap.size 160 [.int .i64 ci.kind, .int .i64 ci.x, .int .i64 ci.y, .slice sA rl sc] := by rw [hY]; exact Blk.new wo _ _
      have hW : Below W0.heap.size W0 Y := (HB0.out.trans (hbw.out.mono HB0.out.size)).trans (hoY.mono (Nat.le_trans HB0.out.size hso))
      have hhas := vHasI ci.runes kk rl hrl hkk (by omega) sA sc r Y (d6.below hW)
      have oY := own_below hown hoY
      have sY := hoY.size
      have y0 : Y.cell? ⟨wo.heap.size, 0, none⟩ = some (.int .i64 ci.kind) := bY.cell 0
      have y1 : Y.cell? ⟨wo.heap.size, 1, none⟩ = some (.int .i64 ci.x) := bY.cell 1
      have y3 : Y.cell? ⟨wo.heap.size, 3, none⟩ = some (.slice sA rl sc) := bY.cell 3
      have hbY : Below X.heap.size X Y := hbw.out.trans (hoY.mono hso)
      have HN := Lib.hid hN; have Hns := Lib.hid hns; have Hhas := Lib.hid hhas; have HBY := Lib.hid hbY
      clear hN hns hhas hbY hW hoY hown htk hpc hci ck hpo d6 hkk hrl hev bY hn3 hnx
      go_upto_region 6 with fail
      rw [← hY]
      clear hY d1 d2 d3 d4 d5 ck1
      have hskip : ¬ (ci.kind = 0 ∧ hasR ci.runes r = true) → nextR ins (st.take (j + 1)) r = nx := fun h => by rw [Hns.out, if_neg h, List.append_nil]
      by_cases hk : ci.kind = 0
      · have hk' : (ci.kind : Int) = 0 := by omega
        cases hh : hasR ci.runes r with
        | true =>
          have hst := Hhas.out
          rw [hh] at hst
          have hadd : nextR ins (st.take (j + 1)) r = nx ++ [ci.x] := by rw [Hns.out, if_pos ⟨hk, hh⟩]
          have Hadd := Lib.hid hadd; have Hst2 := Lib.hid hst
          clear hadd hst hk hh hskip
          go_wp2_with (first | (refine Hst2.out.mono ?_; rintro e wz ⟨rfl, hz⟩; obtain rfl : Y = wz := hz.symm) | (at_builtin; refine wpList_app _ rfl intE rfl rfl (oY.alloc _) rfl (row_new Y _ [_]) (by simp [Value.oneCell']) (by first | omega | (simp; done) | (simp; omega)) (by simp; omega) ?_; intro v8 w8 own8 hg8 hb8 hx8))
          have hb9 : Below X.heap.size X w8 := (HBY.out.alloc (by omega) _).trans hb8
          have Own8 := Lib.hid own8; have HB9 := Lib.hid hb9
          clear own8 hb9 hg8 hb8 hx8 oY
          go_wp2
          go_roundw
          case rel => exact ⟨j + 1, nx ++ [ci.x], by omega, by first | rfl | go_num, Lib.hid Hadd.out.symm, by rw [List.length_append, Hn3.out]; show n3 + 1 ≤ _; omega, by rw [List.length_append, Hn3.out, List.map_append]; exact Own8.out, HB9⟩
          case measure => simp [intOf]; omega
        | false =>
          have hst := Hhas.out
          rw [hh] at hst
          have hno := hskip (fun h => by rw [hh] at h; cases h.2)
          have Hno := Lib.hid hno; have Hst2 := Lib.hid hst
          clear hno hst hk hh hskip
          go_wp2_with (refine Hst2.out.mono ?_; rintro e wz ⟨rfl, hz⟩; obtain rfl : Y = wz := hz.symm)
          go_roundw
          case rel => exact ⟨j + 1, nx, by omega, by first | rfl | go_num, Lib.hid Hno.out.symm, by rw [Hn3.out]; omega, by rw [Hn3.out]; exact oY, HBY⟩
          case measure => simp [intOf]; omega
      · have hk' : ¬ (ci.kind : Int) = 0 := by omega
        have hno := hskip (fun h => hk h.1)
        have Hno := Lib.hid hno
        clear hno hk hskip
        go_wp2_with fail
        go_roundw
        case rel => exact ⟨j + 1, nx, by omega, by first | rfl | go_num, Lib.hid Hno.out.symm, by rw [Hn3.out]; omega, by rw [Hn3.out]; exact oY, HBY⟩
        case measure => simp [intOf]; omega
    · obtain rfl : j = n := by omega
      have z1 : ¬ (j : Int) < (j : Int) := by omega
      have hnx2 : nx = nextR ins st r := by rw [hnx.out, List.take_of_length_le (by rw [Hn.out]; exact Nat.le_refl _)]
      have hnlt : ∀ x ∈ nx, x < ins.length := by rw [hnx2]; exact next_lt HG.out.tgt _ _
      have HNX := Lib.hid hnx2; have HNL := Lib.hid hnlt; have Hown := Lib.hid hown
      clear hnx hnx2 hnlt hn3 hown
      cases find with
      | true =>
        have z3 : X.heap.size ≤ wo.heap.size := hso
        go_upto_region 11 with (at_builtin; refine wpList_app _ rfl intE rfl rfl (Hown.out.alloc _) rfl (row_new wo _ [_]) (by simp [Value.oneCell']) (by first | omega | (simp; done) | (simp; omega)) (by simp; omega) ?_; intro v8 w8 own8 hg8 hb8 hx8)
        have hb9 : Below X.heap.size X w8 := (hbw.out.alloc hso _).trans hb8
        have own8' : w8.ownsRow X.heap.size 3 1 v8 (n3 + 1) ((nx ++ [0]).map iv) := by rw [List.map_append]; exact own8
        obtain ⟨A8, c8, rfl, -⟩ := own_form own8'
        have hrow8 : RowT w8 3 A8 (n3 + 1) ((nx ++ [0]).map iv) := RowT.of_own own8'
        have hc := vClosure HG.out.tgt (nx ++ [0]) (fun x hx => (List.mem_append.1 hx).elim (HNL.out x) (fun h => by rw [List.mem_singleton.1 h]; exact HG.out.pos)) false false A8 (n3 + 1) c8 g w8 (by rw [List.length_append, Hn3.out]; rfl) (by omega) (PlainA.of_own own8') hrow8 (HP.out.below hb9)
        have ec : closP ins false false (nx ++ [0]) = stepR ins true st r := by rw [HNX.out]; rfl
        rw [ec] at hc
        have HC := Lib.hid hc; have HB9 := Lib.hid hb9
        clear hc hb9 own8 own8' hg8 hb8 hx8 hrow8 ec
        go_wp2_with fail
        refine HC.out.mono ?_
        rintro e w2 ⟨v, rfl, own2, hb2⟩
        have hbX2 : Below X.heap.size X w2 := HB9.out.trans (hb2.mono HB9.out.size)
        have s2 := XR.out.below hbX2 XR.out.lt
        have own2' := own_mono own2 HB9.out.size
        obtain ⟨SR, hSR⟩ : ∃ SR, stepR ins true st r = SR := ⟨_, rfl⟩
        rw [hSR] at own2'
        have HSR := Lib.hid hSR
        clear own2 hb2 hSR
        obtain ⟨A2, k2, rfl, -⟩ := own_form own2'
        obtain ⟨n2, hn2⟩ : ∃ n2, SR.length = n2 := ⟨_, rfl⟩
        rw [hn2] at own2' ⊢
        have Hn2 := Lib.hid hn2
        have c0 : w2.cell? ⟨w.heap.size + 1, 0, none⟩ = some (.slice none 0 0) := s2.cell 0
        have c1 : w2.cell? ⟨w.heap.size + 1, 1, none⟩ = some (.bool false) := s2.cell 1
        have f0 := s2.frozen 0
        have f1 := s2.frozen 1
        have Own2 := Lib.hid own2'; have HBX2 := Lib.hid hbX2; have S2 := Lib.hid s2
        clear own2' hbX2 s2 hn2
        go_wp2
        have r2 := ((S2.out.set_ 0 (.slice A2 n2 k2)).set_ 1 (.bool false))
        have b2 : But [w.heap.size + 1] w2 ((w2.setCell ⟨w.heap.size + 1, 0, none⟩ (.slice A2 n2 k2)).setCell ⟨w.heap.size + 1, 1, none⟩ (.bool false)) := ((But.refl _ _).setCell (by simp) _).setCell (by simp) _
        have hs := HS.out
        have l2 : Below w.heap.size w ((w2.setCell ⟨w.heap.size + 1, 0, none⟩ (.slice A2 n2 k2)).setCell ⟨w.heap.size + 1, 1, none⟩ (.bool false)) :=
          ((HB.out.trans (HBX2.out.mono (by omega))).setCell (p := ⟨w.heap.size + 1, 0, none⟩) (Nat.le_succ _) _).setCell (p := ⟨w.heap.size + 1, 1, none⟩) (Nat.le_succ _) _
        have o2 := own_but (own_mono Own2.out (show w.heap.size ≤ X.heap.size by omega)) b2 fun k hk hm => (by
          have h1 := (Own2.out.lt k hk).1
          simp at hm
          omega)
        generalize (w2.setCell ⟨w.heap.size + 1, 0, none⟩ (.slice A2 n2 k2)).setCell ⟨w.heap.size + 1, 1, none⟩ (.bool false) = W at r2 b2 l2 o2 ⊢
        have q0 : W.cell? ⟨w.heap.size + 1, 0, none⟩ = some (.slice A2 n2 k2) := r2.cell 0
        have q1 : W.cell? ⟨w.heap.size + 1, 1, none⟩ = some (.bool false) := r2.cell 1
        clear hs
        refine bodyPost_ret (v := .agg #[.slice A2 n2 k2, .bool false]) (by simp [results, Tryz.results68, go_sem, *]) rfl ?_
        exact ⟨_, rfl, by rw [HSR.out, Hn2.out]; exact o2, l2⟩
      | false =>
        have hb9 := hbw.out
        have hc := vClosure HG.out.tgt nx HNL.out false false A3 n3 c3 g wo Hn3.out (by omega) (PlainA.of_own Hown.out) (RowT.of_own Hown.out) (HP.out.below hb9)
        have ec : closP ins false false nx = stepR ins false st r := by
          rw [HNX.out]
          show _ = closP ins false false (nextR ins st r ++ [])
          rw [List.append_nil]
        rw [ec] at hc
        have HC := Lib.hid hc; have HB9 := Lib.hid hb9
        clear hc hb9 ec
        go_wp2_with fail
        refine HC.out.mono ?_
        rintro e w2 ⟨v, rfl, own2, hb2⟩
        have hbX2 : Below X.heap.size X w2 := HB9.out.trans (hb2.mono HB9.out.size)
        have s2 := XR.out.below hbX2 XR.out.lt
        have own2' := own_mono own2 HB9.out.size
        obtain ⟨SR, hSR⟩ : ∃ SR, stepR ins false st r = SR := ⟨_, rfl⟩
        rw [hSR] at own2'
        have HSR := Lib.hid hSR
        clear own2 hb2 hSR
        obtain ⟨A2, k2, rfl, -⟩ := own_form own2'
        obtain ⟨n2, hn2⟩ : ∃ n2, SR.length = n2 := ⟨_, rfl⟩
        rw [hn2] at own2' ⊢
        have Hn2 := Lib.hid hn2
        have c0 : w2.cell? ⟨w.heap.size + 1, 0, none⟩ = some (.slice none 0 0) := s2.cell 0
        have c1 : w2.cell? ⟨w.heap.size + 1, 1, none⟩ = some (.bool false) := s2.cell 1
        have f0 := s2.frozen 0
        have f1 := s2.frozen 1
        have Own2 := Lib.hid own2'; have HBX2 := Lib.hid hbX2; have S2 := Lib.hid s2
        clear own2' hbX2 s2 hn2
        go_wp2
        have r2 := ((S2.out.set_ 0 (.slice A2 n2 k2)).set_ 1 (.bool false))
        have b2 : But [w.heap.size + 1] w2 ((w2.setCell ⟨w.heap.size + 1, 0, none⟩ (.slice A2 n2 k2)).setCell ⟨w.heap.size + 1, 1, none⟩ (.bool false)) := ((But.refl _ _).setCell (by simp) _).setCell (by simp) _
        have hs := HS.out
        have l2 : Below w.heap.size w ((w2.setCell ⟨w.heap.size + 1, 0, none⟩ (.slice A2 n2 k2)).setCell ⟨w.heap.size + 1, 1, none⟩ (.bool false)) :=
          ((HB.out.trans (HBX2.out.mono (by omega))).setCell (p := ⟨w.heap.size + 1, 0, none⟩) (Nat.le_succ _) _).setCell (p := ⟨w.heap.size + 1, 1, none⟩) (Nat.le_succ _) _
        have o2 := own_but (own_mono Own2.out (show w.heap.size ≤ X.heap.size by omega)) b2 fun k hk hm => (by
          have h1 := (Own2.out.lt k hk).1
          simp at hm
          omega)
        generalize (w2.setCell ⟨w.heap.size + 1, 0, none⟩ (.slice A2 n2 k2)).setCell ⟨w.heap.size + 1, 1, none⟩ (.bool false) = W at r2 b2 l2 o2 ⊢
        have q0 : W.cell? ⟨w.heap.size + 1, 0, none⟩ = some (.slice A2 n2 k2) := r2.cell 0
        have q1 : W.cell? ⟨w.heap.size + 1, 1, none⟩ = some (.bool false) := r2.cell 1
        clear hs
        refine bodyPost_ret (v := .agg #[.slice A2 n2 k2, .bool false]) (by simp [results, Tryz.results68, go_sem, *]) rfl ?_
        exact ⟨_, rfl, by rw [HSR.out, Hn2.out]; exact o2, l2⟩
end Go.Proofs.YtecejnilajbdpaaGreatDoor

