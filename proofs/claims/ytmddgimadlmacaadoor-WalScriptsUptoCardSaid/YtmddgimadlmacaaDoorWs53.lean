import Derived.Test.YtmddgimadlmacaaDoorWs51
import Derived.Test.YtmddgimadlmacaaDoorWs52
import Derived.Deep.DeepCutAuto
import Derived.Deep.CutRange
import Derived.Deep.CutBlock
import Derived.Outline
/-! WalScripts (printed by gen_ws.py) -/
namespace Go.Proofs.YtmddgimadlmacaaDoor
open Go.RowKit Garner

structure WOp where
  kind : Int
  n : Int
  first : Int
  A : Option Addr
  c : Nat
  data : Bs
  Ak : Option Addr
  ck : Nat
  keep : List Int
def WOp.cells (o : WOp) : List Value := [.int .i64 o.kind, .int .i64 o.n, .int .i64 o.first, .slice o.A o.data.length o.c, .slice o.Ak o.keep.length o.ck]
structure WOpOk (w : World) (B : Nat) (o : WOp) : Prop where
  data : Bytes w B o.A o.data.length o.data
  keep : Row w B 1 o.Ak o.keep.length (o.keep.map (Value.int .i64))
  dl : o.data.length ≤ 1048576
  kl : o.keep.length ≤ 1048576
  ks : ∀ k ∈ o.keep, in64 k
  ni : in64 o.n
structure WScript (w : World) (B : Nat) (A : Option Addr) (ps : List WOp) : Prop where
  row : Row w B 5 A ps.length (ps.flatMap WOp.cells)
  all : ∀ o ∈ ps, WOpOk w B o
theorem WScript.below {w w' : World} {B : Nat} {A : Option Addr} {ps : List WOp} (h : WScript w B A ps) (hb : Below B w w') : WScript w' B A ps := ⟨h.row.below hb, fun o ho => ⟨(h.all o ho).data.below hb, (h.all o ho).keep.below hb, (h.all o ho).dl, (h.all o ho).kl, (h.all o ho).ks, (h.all o ho).ni⟩⟩
theorem woCells_at (xs : List WOp) {k j : Nat} (hk : k < xs.length) (hj : j < 5) : (xs.flatMap WOp.cells)[k * 5 + j]? = (xs[k].cells)[j]? := by
  induction xs generalizing k with
  | nil => simp at hk
  | cons o xs ih =>
    rw [List.flatMap_cons]
    cases k with
    | zero => rw [List.getElem?_append_left (by show 0 * 5 + j < 5; omega)]; simp
    | succ k =>
      rw [List.getElem?_append_right (by show 5 ≤ _; omega), show (k + 1) * 5 + j - (o.cells).length = k * 5 + j by show (k + 1) * 5 + j - 5 = _; omega, ih (by simpa using hk)]
      simp
theorem WScript.at_ {w : World} {B : Nat} {A : Option Addr} {xs : List WOp} (h : WScript w B A xs) {k : Nat} (hk : k < xs.length) : ∃ b off, A = some ⟨b, off, none⟩ ∧ b < B ∧ ∀ j, j < 5 → w.cell? ⟨b, off + k * 5 + j, none⟩ = (xs[k].cells)[j]? := by
  obtain ⟨b, off, e, hb, hc⟩ := h.row.2 (by omega)
  refine ⟨b, off, e, hb, fun j hj => ?_⟩
  have h1 := woCells_at xs hk hj
  have h2 : j < (xs[k].cells).length := hj
  rw [List.getElem?_eq_getElem h2] at h1 ⊢
  rw [Nat.add_assoc]
  exact hc _ _ h1
theorem kinds10 (k : Int) : k = 1 ∨ k = 2 ∨ k = 3 ∨ k = 4 ∨ k = 5 ∨ k = 6 ∨ k = 7 ∨ k = 8 ∨ k = 9 ∨ (k < 1 ∨ 9 < k) := by omega
theorem GoodW.dn {w0 w : World} {g mp gr N : Nat} {lv rv : Value} (h : GoodW N w0 w g mp gr lv rv) : ∃ z : Bool, (∀ w', Below w.heap.size w w' → Calls Tryd.prog 37 #[.pointer (some ⟨g, 0, none⟩)] w' fun e w'' => e = .returned (.bool z) ∧ Below w'.heap.size w' w'') ∧ ∀ w', Below w.heap.size w w' → w'.cell? ⟨gr, 2, none⟩ = some (.bool z) := by
  obtain ⟨d, b, u, _, s, _⟩ := h.to
  refine ⟨b.dn, fun w' hb => ?_, fun w' hb => u_off (u.below hb)⟩
  have := u_down (u.below hb)
  rw [s.dn] at this
  exact this
set_option maxRecDepth 100000 in
set_option maxHeartbeats 32000000 in
theorem lawWS (first : Int) (ps : List WOp) (A0 : Option Addr) (c0 : Nat) (w : World) (he : Env w) (h0 : WScript w w.heap.size A0 ps) (hl : ps.length ≤ 1048575) :
    Calls Tryd.prog 6 #[.int .i64 first, .slice A0 ps.length c0] w fun e w' => e = .returned (.bool true) ∧ Below w.heap.size w w' := by
  have HE := Lib.hid he
  clear he
  go_enter Tryd.func6, Tryd.ntmps6
  go_wp2_with fail
  refine (vAwake10 w).mono ?_
  rintro e w1 ⟨rfl, hb1⟩
  go_wp2_with fail
  refine (pName first w1 (HE.out.tab.below hb1 HE.out.idx)).mono ?_
  rintro e w2 ⟨rfl, hb2⟩
  have hb02 := hb1.trans (hb2.mono hb1.size)
  go_wp2_with fail
  refine (qName first w2).mono ?_
  rintro e w3 ⟨rfl, hb3⟩
  have hb03 := hb02.trans (hb3.mono hb02.size)
  clear hb1 hb2 hb3 hb02
  go_wp2_with fail
  refine (aNew_calls w.heap.size w3 hb03.size).mono ?_
  rintro e w4 ⟨g, mp, rfl, hd1, hb4, hgl1, hml1⟩
  go_wp2_with fail
  refine (rfNew _).mono ?_
  rintro e w5 ⟨gr, rfl, hr2, hrl2, hb5⟩
  have hG0 : GoodW 0 w w5 g mp gr (.pointer none) (.pointer none) := .nil (UU.start hd1 (hb03.trans (hb4.mono hb03.size)) hr2 hrl2 hb5) Sim.new (BdT.nil 0)
  clear hb03 hd1 hb4 hgl1 hml1 hr2 hrl2 hb5
  go_wp2_with fail
  refine (pair_open first HE.out hG0 (by omega)).mono ?_
  rintro e w6 ⟨lv, A1, c1, qs1, a1, rfl, hrd1, hln1, hb6, hn6⟩
  have HN6 := Lib.hid hn6
  clear hn6 hG0
  go_wp2_with fail
  refine (HN6.out w6 (Below.refl _ _)).mono ?_
  rintro e w7 ⟨rv, A2, c2, qs2, rfl, hrd2, heq, hb7, hG, hnil⟩
  have hrd3 := hrd1.below hb7
  clear HN6 hrd1 hb6 hb7
  go_upto_region 7 with fail
  go_cut [57] (fun s wx => s = .bool false ∧ GoodW 0 w wx g mp gr lv rv)
  case first =>
    rcases hnil with ⟨rfl, rfl⟩ | ⟨x, y, rfl, rfl⟩
    all_goals
      go_wp2_with fail
      refine (vSame10 qs1 qs2 A1 A2 c1 c2 w7 hrd3 hrd2 hln1).mono ?_
      rintro e w8 ⟨rfl, hb8⟩
      rw [heq]
      have hG8 := hG.below hb8
      clear hG hrd3 hrd2 heq
      go_wp2
      go_meet
      exact ⟨rfl, hG8⟩
  case rest =>
    clear hnil hrd3 hrd2 heq hG hln1
    obtain ⟨rfl, hG⟩ := hcut
    go_wp2_with fail
    go_loopw [7, 10, 13] (fun lv rv v wr => ∃ (k : Nat), k ≤ ps.length ∧ v = .int .i64 k ∧ GoodW k w wr g mp gr lv rv) (fun _ _ v _ => ps.length - (intOf v).toNat)
    case atStart => exact ⟨0, by omega, rfl, hG⟩
    case round =>
      clear hG
      obtain ⟨k, hk, rfl, hG⟩ := hrel
      obtain ⟨wo, rfl⟩ : ∃ wo : World, wo = wr := ⟨_, rfl⟩
      by_cases hlt : (k : Int) < ps.length
      · have hbo := hG.bw
        obtain ⟨bb, ob, rfl, hbb, hcb⟩ := (h0.below hbo).at_ (k := k) (by omega)
        obtain ⟨o, ho⟩ : ∃ o, o = ps[k]'(by omega) := ⟨_, rfl⟩
        have hok := h0.all _ (List.getElem_mem (show k < ps.length by omega))
        rw [← ho] at hcb hok
        clear ho
        have x0 := hcb 0 (by omega); have x1 := hcb 1 (by omega); have x2 := hcb 2 (by omega); have x3 := hcb 3 (by omega); have x4 := hcb 4 (by omega)
        obtain ⟨kind, n, first2, A, c, data, Ak, ck, keep⟩ := o
        simp only [WOp.cells, List.getElem?_cons_zero, List.getElem?_cons_succ, Nat.add_zero] at x0 x1 x2 x3 x4
        have hdat := hok.data; have hkp := hok.keep; have hdl := hok.dl; have hkl := hok.kl; have hks := hok.ks; have hni := hok.ni
        simp only at hdat hkp hdl hkl hks hni
        have HKS := Lib.hid hks
        clear hcb hok hks
        go_upto_block 2 with fail
        obtain ⟨X, hX⟩ : ∃ X, X = wo.alloc (.cells #[.int .i64 kind, .int .i64 n, .int .i64 first2, .slice A data.length c, .slice Ak keep.length ck] 58) := ⟨_, rfl⟩
        rw [← hX]
        have hbX : Below wo.heap.size wo X := by rw [hX]; exact (Below.refl _ _).alloc (Nat.le_refl _) _
        have kX : Blk X wo.heap.size 58 [.int .i64 kind, .int .i64 n, .int .i64 first2, .slice A data.length c, .slice Ak keep.length ck] := by rw [hX]; exact Blk.new wo _ _
        have hGX := hG.below hbX
        clear hX hG hbX hbo x0 x1 x2 x3 x4
        have y1 : X.cell? ⟨wo.heap.size, 1, none⟩ = some (.int .i64 n) := kX.cell 1
        have y2 : X.cell? ⟨wo.heap.size, 2, none⟩ = some (.int .i64 first2) := kX.cell 2
        have y3 : X.cell? ⟨wo.heap.size, 3, none⟩ = some (.slice A data.length c) := kX.cell 3
        have y4 : X.cell? ⟨wo.heap.size, 4, none⟩ = some (.slice Ak keep.length ck) := kX.cell 4
        go_cut [7, 10, 15, 16] (fun lv rv a b wx => ∃ r : Nat, a = .int .i64 r ∧ b = .int .i64 r ∧ GoodW (k + 1) w wx g mp gr lv rv)
        case first =>
          have hG := hGX
          clear hGX
          rcases kinds10 kind with hkk | hkk | hkk | hkk | hkk | hkk | hkk | hkk | hkk | hkk
          · as_aux_lemma =>
            subst hkk
            go_wp2_with fail
            refine (pair_app data A c HE.out hG (by omega) hdat hdl kX).mono ?_
            rintro e v1 ⟨r, rfl, hx1, hb1, hn1⟩
            have HN := Lib.hid hn1
            have z : v1.cell? ⟨wo.heap.size, 3, none⟩ = some (.slice A data.length c) := hx1.cell 3
            clear hG y1 y2 y3 y4 kX hn1
            go_wp2_with fail
            refine (HN.out v1 (Below.refl _ _)).mono ?_
            rintro e v2 ⟨rfl, hG2⟩
            go_wp2
            go_meet
            exact ⟨r, rfl, rfl, hG2⟩
          · as_aux_lemma =>
            subst hkk
            go_wp2_with fail
            refine (pair_sync HE.out hG (by omega) kX).mono ?_
            rintro e v1 ⟨r, rfl, hx1, hb1, hn1⟩
            have HN := Lib.hid hn1
            clear hG y1 y2 y3 y4 kX hn1
            go_wp2_with fail
            refine (HN.out v1 (Below.refl _ _)).mono ?_
            rintro e v2 ⟨rfl, hG2⟩
            go_wp2
            go_meet
            exact ⟨r, rfl, rfl, hG2⟩
          · as_aux_lemma =>
            subst hkk
            go_wp2_with fail
            refine (pair_rot hG kX).mono ?_
            rintro e v1 ⟨r, rfl, hx1, hb1, hn1⟩
            have HN := Lib.hid hn1
            clear hG y1 y2 y3 y4 kX hn1
            go_wp2_with fail
            refine (HN.out v1 (Below.refl _ _)).mono ?_
            rintro e v2 ⟨rfl, hG2⟩
            go_wp2
            go_meet
            exact ⟨r, rfl, rfl, hG2⟩
          · as_aux_lemma =>
            subst hkk
            go_wp2_with fail
            refine (pair_drop n HE.out hG (by omega) kX).mono ?_
            rintro e v1 ⟨r, rfl, hx1, hb1, hn1⟩
            have HN := Lib.hid hn1
            have z : v1.cell? ⟨wo.heap.size, 1, none⟩ = some (.int .i64 n) := hx1.cell 1
            clear hG y1 y2 y3 y4 kX hn1
            go_wp2_with fail
            refine (HN.out v1 (Below.refl _ _)).mono ?_
            rintro e v2 ⟨rfl, hG2⟩
            go_wp2
            go_meet
            exact ⟨r, rfl, rfl, hG2⟩
          · as_aux_lemma =>
            subst hkk
            go_wp2_with fail
            refine (pair_fill _ hG kX).mono ?_
            rintro e v1 ⟨rfl, hx1, hb1, hn1⟩
            have HN := Lib.hid hn1
            have z : v1.cell? ⟨wo.heap.size, 1, none⟩ = some (.int .i64 n) := hx1.cell 1
            clear hG y1 y2 y3 y4 kX hn1
            go_wp2_with fail
            refine (HN.out v1 (Below.refl _ _)).mono ?_
            rintro e v2 ⟨rfl, hG2⟩
            go_wp2
            go_meet
            exact ⟨0, rfl, rfl, hG2⟩
          · as_aux_lemma =>
            subst hkk
            go_wp2_with fail
            refine (pair_arm n hni hG kX).mono ?_
            rintro e v1 ⟨rfl, hx1, hb1, hn1⟩
            have HN := Lib.hid hn1
            have z : v1.cell? ⟨wo.heap.size, 1, none⟩ = some (.int .i64 n) := hx1.cell 1
            clear hG y1 y2 y3 y4 kX hn1
            go_wp2_with fail
            refine (HN.out v1 (Below.refl _ _)).mono ?_
            rintro e v2 ⟨rfl, hG2⟩
            go_wp2
            go_meet
            exact ⟨0, rfl, rfl, hG2⟩
          · as_aux_lemma =>
            subst hkk
            have hA : ∀ q off, Ak = some ⟨q, off, none⟩ → 0 < keep.length → q < w.heap.size := fun q off e h => by
              obtain ⟨b', off', e', hb', _⟩ := hkp.2 h
              rw [e'] at e
              simp only [Option.some.injEq, Addr.mk.injEq, and_true] at e
              omega
            go_wp2_with fail
            refine (pair_rst keep Ak ck hG (by omega) (by omega) HKS.out (Below.refl _ _) ((hkp.below hG.bw).more hG.bw.size) (fun h0 q off e => Or.inl (hA q off e h0)) wo.heap.size [.int .i64 7, .int .i64 n, .int .i64 first2, .slice A data.length c, .slice Ak keep.length ck]).mono ?_
            rintro e v1 ⟨rfl, hb1, hbx1, hn1⟩
            have hx1 := hbx1 kX
            have HN := Lib.hid hn1
            have z4 : v1.cell? ⟨wo.heap.size, 4, none⟩ = some (.slice Ak keep.length ck) := hx1.cell 4
            clear hG y1 y2 y3 y4 kX hn1 hbx1
            go_wp2_with fail
            refine (HN.out v1 Ak ck (Below.refl _ _) ((hkp.below hb1).more hb1.size) (fun h0 q off e => Or.inl (hA q off e h0))).mono ?_
            rintro e v2 ⟨rfl, hG2, hbx2⟩
            have hx2 := hbx2 hx1
            have z2 : v2.cell? ⟨wo.heap.size, 2, none⟩ = some (.int .i64 first2) := hx2.cell 2
            clear z4 hx1 hbx2 HN
            go_wp2_with fail
            refine (pair_open first2 HE.out hG2 (by omega)).mono ?_
            rintro e v3 ⟨lv, A3, c3, qs3, a3, rfl, hrd3, hln3, hb3, hn3⟩
            have hx3 := hx2.below hb3 hx2.lt
            have z3 : v3.cell? ⟨wo.heap.size, 2, none⟩ = some (.int .i64 first2) := hx3.cell 2
            have HN3 := Lib.hid hn3
            clear z2 hx2 hn3 hG2
            go_wp2_with fail
            refine (HN3.out v3 (Below.refl _ _)).mono ?_
            rintro e v4 ⟨rv, A4, c4, qs4, rfl, hrd4, heq, hb4, hG4, hnil⟩
            have hrd5 := hrd3.below hb4
            clear z3 hx3 HN3 hrd3 hb3 hb4
            rcases hnil with ⟨rfl, rfl⟩ | ⟨x, y, rfl, rfl⟩
            all_goals
              go_wp2_with fail
              refine (vSame10 qs3 qs4 A3 A4 c3 c4 v4 hrd5 hrd4 hln3).mono ?_
              rintro e v5 ⟨rfl, hb5⟩
              rw [heq]
              have hG5 := (hG4.below hb5).more
              clear hG4 hrd5 hrd4 heq
              go_wp2
              go_meet
              exact ⟨a3, rfl, rfl, hG5⟩
          · as_aux_lemma =>
            subst hkk
            have hGd := hG.below (Below.refl X.heap.size X).drew
            clear y1 y2 y3 y4 hG
            have y1 : ∀ w', Blk w' wo.heap.size 58 [.int .i64 8, .int .i64 n, .int .i64 first2, .slice A data.length c, .slice Ak keep.length ck] → w'.cell? ⟨wo.heap.size, 1, none⟩ = some (.int .i64 n) := fun w' h => h.cell 1
            have y3 : ∀ w', Blk w' wo.heap.size 58 [.int .i64 8, .int .i64 n, .int .i64 first2, .slice A data.length c, .slice Ak keep.length ck] → w'.cell? ⟨wo.heap.size, 3, none⟩ = some (.slice A data.length c) := fun w' h => h.cell 3
            have hS0 : Blk X.drew wo.heap.size 58 [.int .i64 8, .int .i64 n, .int .i64 first2, .slice A data.length c, .slice Ak keep.length ck] := kX.drew
            go_upto_region 42 with fail
            refine wp_region_N (fun w' => Blk w' wo.heap.size 58 [.int .i64 8, .int .i64 n, .int .i64 first2, .slice A data.length c, .slice Ak keep.length ck]) 100 (by kernel_rfl) ?_
            apply wpAnyN_takeL 0 (by kernel_rfl) rfl (fun _ _ _ h => h) (by kernel_rfl) hS0
            · intro w' hS'
              go_simp; exact ⟨rfl, rfl⟩
            (try simp only [Act.put]); (try simp only [List.setIfInBounds_toArray]); (try simp only [List.set])
            apply wpAnyN_takeL 1 (by kernel_rfl) rfl (fun _ _ _ h => h) (by kernel_rfl) hS0
            · intro w' hS'
              go_simp; exact ⟨rfl, rfl⟩
            (try simp only [Act.put]); (try simp only [List.setIfInBounds_toArray]); (try simp only [List.set])
            apply wpAnyN_takeL 2 (by kernel_rfl) rfl (fun _ _ _ h => h) (by kernel_rfl) hS0
            · intro w' hS'
              go_simp; exact ⟨rfl, rfl⟩
            (try simp only [Act.put]); (try simp only [List.setIfInBounds_toArray]); (try simp only [List.set])
            apply wpAnyN_takeL 4 (by kernel_rfl) rfl (fun _ _ _ h => h) (by kernel_rfl) hS0
            · intro w' hS'
              go_simp; exact ⟨rfl, rfl⟩
            (try simp only [Act.put]); (try simp only [List.setIfInBounds_toArray]); (try simp only [List.set])
            apply wpAnyN_takeL 5 (by kernel_rfl) rfl (fun _ _ _ h => h) (by kernel_rfl) hS0
            · intro w' hS'
              go_simp; exact ⟨rfl, rfl⟩
            (try simp only [Act.put]); (try simp only [List.setIfInBounds_toArray]); (try simp only [List.set])
            refine wpAnyN_runL 3 (by kernel_rfl) rfl (by kernel_rfl) (fun K hK => ?_)
            go_simp
            refine (pName n X.drew (HE.out.tab.below hGd.bw HE.out.idx)).mono ?_
            rintro e v0 ⟨rfl, hb0⟩
            have hS1 := hS0.below hb0 hS0.lt
            have hG0 := hGd.below hb0
            refine hK _ _ (fun _ => hS1) ?_
            clear hK K
            (try simp only [Act.put]); (try simp only [List.setIfInBounds_toArray]); (try simp only [List.set])
            refine wpAnyN_runL 6 (by kernel_rfl) rfl (by kernel_rfl) (fun K hK => ?_)
            go_simp
            refine (pair_raw (nmAt n) data A c (nmAt_size n) hG0 (by omega) hdat hdl hS1).mono ?_
            rintro e v1 ⟨r, rfl, hx1, hb1, hn1⟩
            have HN := Lib.hid hn1
            refine hK _ _ (fun _ => hx1) ?_
            clear hK K
            (try simp only [Act.put]); (try simp only [List.setIfInBounds_toArray]); (try simp only [List.set])
            apply wpAnyN_takeL 7 (by kernel_rfl) rfl (fun _ _ _ h => h) (by kernel_rfl) hx1
            · intro w' hS'
              go_simp; exact ⟨rfl, rfl⟩
            (try simp only [Act.put]); (try simp only [List.setIfInBounds_toArray]); (try simp only [List.set])
            refine wpAnyN_done (by kernel_rfl) ?_ _
            clear hn1 hGd hG0 hS0 hS1 kX hb0
            have hT0 : Blk v1.drew wo.heap.size 58 [.int .i64 8, .int .i64 n, .int .i64 first2, .slice A data.length c, .slice Ak keep.length ck] := hx1.drew
            go_upto_region 43 with fail
            refine wp_region_N (fun w' => Blk w' wo.heap.size 58 [.int .i64 8, .int .i64 n, .int .i64 first2, .slice A data.length c, .slice Ak keep.length ck]) 100 (by kernel_rfl) ?_
            apply wpAnyN_takeL 0 (by kernel_rfl) rfl (fun _ _ _ h => h) (by kernel_rfl) hT0
            · intro w' hS'
              go_simp; exact ⟨rfl, rfl⟩
            (try simp only [Act.put]); (try simp only [List.setIfInBounds_toArray]); (try simp only [List.set])
            apply wpAnyN_takeL 1 (by kernel_rfl) rfl (fun _ _ _ h => h) (by kernel_rfl) hT0
            · intro w' hS'
              go_simp; exact ⟨rfl, rfl⟩
            (try simp only [Act.put]); (try simp only [List.setIfInBounds_toArray]); (try simp only [List.set])
            apply wpAnyN_takeL 2 (by kernel_rfl) rfl (fun _ _ _ h => h) (by kernel_rfl) hT0
            · intro w' hS'
              go_simp; exact ⟨rfl, rfl⟩
            (try simp only [Act.put]); (try simp only [List.setIfInBounds_toArray]); (try simp only [List.set])
            apply wpAnyN_takeL 4 (by kernel_rfl) rfl (fun _ _ _ h => h) (by kernel_rfl) hT0
            · intro w' hS'
              go_simp; exact ⟨rfl, rfl⟩
            (try simp only [Act.put]); (try simp only [List.setIfInBounds_toArray]); (try simp only [List.set])
            apply wpAnyN_takeL 5 (by kernel_rfl) rfl (fun _ _ _ h => h) (by kernel_rfl) hT0
            · intro w' hS'
              go_simp; exact ⟨rfl, rfl⟩
            (try simp only [Act.put]); (try simp only [List.setIfInBounds_toArray]); (try simp only [List.set])
            refine wpAnyN_runL 3 (by kernel_rfl) rfl (by kernel_rfl) (fun K hK => ?_)
            go_simp
            refine (qName n v1.drew).mono ?_
            rintro e v2 ⟨rfl, hb2⟩
            have hT1 := hT0.below hb2 hT0.lt
            simp only [World.size_drew] at hb2
            have hb12 : Below v1.heap.size v1 v2 := (Below.refl _ _).drew.trans hb2
            refine hK _ _ (fun _ => hT1) ?_
            clear hK K
            (try simp only [Act.put]); (try simp only [List.setIfInBounds_toArray]); (try simp only [List.set])
            refine wpAnyN_runL 6 (by kernel_rfl) rfl (by kernel_rfl) (fun K hK => ?_)
            go_simp
            refine (HN.out v2 hb12 hT1).mono ?_
            rintro e v3 ⟨⟨rfl, hG3⟩, hx3⟩
            refine hK _ _ (fun _ => hx3) ?_
            clear hK K
            (try simp only [Act.put]); (try simp only [List.setIfInBounds_toArray]); (try simp only [List.set])
            apply wpAnyN_takeL 7 (by kernel_rfl) rfl (fun _ _ _ h => h) (by kernel_rfl) hx3
            · intro w' hS'
              go_simp; exact ⟨rfl, rfl⟩
            (try simp only [Act.put]); (try simp only [List.setIfInBounds_toArray]); (try simp only [List.set])
            refine wpAnyN_done (by kernel_rfl) ?_ _
            clear y1 y3 HN hT0 hT1 hx1 hx3
            go_wp2
            go_meet
            exact ⟨r, rfl, rfl, hG3⟩
          · as_aux_lemma =>
            subst hkk
            go_wp2_with fail
            refine (pName n X (HE.out.tab.below hG.bw HE.out.idx)).mono ?_
            rintro e v0 ⟨rfl, hb0⟩
            have hG0 := hG.below hb0
            have kX0 := kX.below hb0 kX.lt
            clear hG y1 y2 y3 y4 kX
            go_wp2_with fail
            refine (pair_del (nmAt n) (nmAt_size n) hG0 (by omega) kX0).mono ?_
            rintro e v1 ⟨r, rfl, hx1, hb1, hn1⟩
            have HN := Lib.hid hn1
            have z : v1.cell? ⟨wo.heap.size, 1, none⟩ = some (.int .i64 n) := hx1.cell 1
            clear hG0 kX0 hn1
            go_wp2_with fail
            refine (qName n v1).mono ?_
            rintro e v2 ⟨rfl, hb2⟩
            go_wp2_with fail
            refine (HN.out v2 hb2).mono ?_
            rintro e v3 ⟨rfl, hG3⟩
            go_wp2
            go_meet
            exact ⟨r, rfl, rfl, hG3⟩
          · have hG2 := hG.more
            have q1 : (kind == 1) = false := by rw [beq_eq_false_iff_ne]; omega
            have q2 : (kind == 2) = false := by rw [beq_eq_false_iff_ne]; omega
            have q3 : (kind == 3) = false := by rw [beq_eq_false_iff_ne]; omega
            have q4 : (kind == 4) = false := by rw [beq_eq_false_iff_ne]; omega
            have q5 : (kind == 5) = false := by rw [beq_eq_false_iff_ne]; omega
            have q6 : (kind == 6) = false := by rw [beq_eq_false_iff_ne]; omega
            have q7 : (kind == 7) = false := by rw [beq_eq_false_iff_ne]; omega
            have q8 : (kind == 8) = false := by rw [beq_eq_false_iff_ne]; omega
            have q9 : (kind == 9) = false := by rw [beq_eq_false_iff_ne]; omega
            clear hkk hG
            go_wp2
            go_meet
            exact ⟨0, rfl, rfl, hG2⟩
        case rest =>
          clear hGX y1 y2 y3 y4 kX hkp hdat HKS
          obtain ⟨r, rfl, rfl, hG⟩ := hcut
          have HG := Lib.hid (show ∀ w', Below wc.heap.size wc w' → GoodW (k + 1) w w' g mp gr _ _ from fun w' h => hG.below h)
          obtain ⟨z, hdn, hof⟩ := hG.dn
          have HD := Lib.hid hdn
          have HOF := Lib.hid hof
          clear hdn hof
          have hS0 : Below wc.heap.size wc wc.drew := (Below.refl _ _).drew
          cases hG with
          | nil u s t =>
            as_aux_lemma =>
            clear u s t
            go_upto_region 47 with fail
            refine wp_region_N (fun w' => Below wc.heap.size wc w') 100 (by kernel_rfl) ?_
            apply wpAnyN_takeL 0 (by kernel_rfl) rfl (fun _ _ _ h => h) (by kernel_rfl) hS0
            · intro w' hS'
              go_simp; exact ⟨rfl, rfl⟩
            (try simp only [Act.put]); (try simp only [List.setIfInBounds_toArray]); (try simp only [List.set])
            apply wpAnyN_takeL 1 (by kernel_rfl) rfl (fun _ _ _ h => h) (by kernel_rfl) hS0
            · intro w' hS'
              go_simp; exact ⟨rfl, rfl⟩
            (try simp only [Act.put]); (try simp only [List.setIfInBounds_toArray]); (try simp only [List.set])
            apply wpAnyN_takeL 2 (by kernel_rfl) rfl (fun _ _ _ h => h) (by kernel_rfl) hS0
            · intro w' hS'
              go_simp; exact ⟨rfl, rfl⟩
            (try simp only [Act.put]); (try simp only [List.setIfInBounds_toArray]); (try simp only [List.set])
            apply wpAnyN_takeL 3 (by kernel_rfl) rfl (fun _ _ _ h => h) (by kernel_rfl) hS0
            · intro w' hS'
              go_simp; exact ⟨rfl, rfl⟩
            (try simp only [Act.put]); (try simp only [List.setIfInBounds_toArray]); (try simp only [List.set])
            apply wpAnyN_takeL 4 (by kernel_rfl) rfl (fun _ _ _ h => h) (by kernel_rfl) hS0
            · intro w' hS'
              go_simp; exact ⟨rfl, rfl⟩
            (try simp only [Act.put]); (try simp only [List.setIfInBounds_toArray]); (try simp only [List.set])
            apply wpAnyN_takeL 5 (by kernel_rfl) rfl (fun _ _ _ h => h) (by kernel_rfl) hS0
            · intro w' hS'
              go_simp; exact ⟨rfl, rfl⟩
            (try simp only [Act.put]); (try simp only [List.setIfInBounds_toArray]); (try simp only [List.set])
            apply wpAnyN_takeL 6 (by kernel_rfl) rfl (fun _ _ _ h => h) (by kernel_rfl) hS0
            · intro w' hS'
              go_simp; exact ⟨rfl, rfl⟩
            (try simp only [Act.put]); (try simp only [List.setIfInBounds_toArray]); (try simp only [List.set])
            refine wpAnyN_skipL 7 (by kernel_rfl) rfl (fun _ _ _ h => h) (by kernel_rfl) hS0 ?_
            (try simp only [Act.put]); (try simp only [List.setIfInBounds_toArray]); (try simp only [List.set])
            refine wpAnyN_skipL 8 (by kernel_rfl) rfl (fun _ _ _ h => h) (by kernel_rfl) hS0 ?_
            (try simp only [Act.put]); (try simp only [List.setIfInBounds_toArray]); (try simp only [List.set])
            refine wpAnyN_skipL 9 (by kernel_rfl) rfl (fun _ _ _ h => h) (by kernel_rfl) hS0 ?_
            (try simp only [Act.put]); (try simp only [List.setIfInBounds_toArray]); (try simp only [List.set])
            refine wpAnyN_skipL 10 (by kernel_rfl) rfl (fun _ _ _ h => h) (by kernel_rfl) hS0 ?_
            (try simp only [Act.put]); (try simp only [List.setIfInBounds_toArray]); (try simp only [List.set])
            refine wpAnyN_skipL 11 (by kernel_rfl) rfl (fun _ _ _ h => h) (by kernel_rfl) hS0 ?_
            (try simp only [Act.put]); (try simp only [List.setIfInBounds_toArray]); (try simp only [List.set])
            refine wpAnyN_skipL 12 (by kernel_rfl) rfl (fun _ _ _ h => h) (by kernel_rfl) hS0 ?_
            (try simp only [Act.put]); (try simp only [List.setIfInBounds_toArray]); (try simp only [List.set])
            refine wpAnyN_skipL 13 (by kernel_rfl) rfl (fun _ _ _ h => h) (by kernel_rfl) hS0 ?_
            (try simp only [Act.put]); (try simp only [List.setIfInBounds_toArray]); (try simp only [List.set])
            apply wpAnyN_takeL 14 (by kernel_rfl) rfl (fun _ _ _ h => h) (by kernel_rfl) hS0
            · intro w' hS'
              go_simp; exact ⟨rfl, rfl⟩
            (try simp only [Act.put]); (try simp only [List.setIfInBounds_toArray]); (try simp only [List.set])
            apply wpAnyN_takeL 15 (by kernel_rfl) rfl (fun _ _ _ h => h) (by kernel_rfl) hS0
            · intro w' hS'
              go_simp; exact ⟨rfl, rfl⟩
            (try simp only [Act.put]); (try simp only [List.setIfInBounds_toArray]); (try simp only [List.set])
            apply wpAnyN_takeL 16 (by kernel_rfl) rfl (fun _ _ _ h => h) (by kernel_rfl) hS0
            · intro w' hS'
              go_simp; exact ⟨rfl, rfl⟩
            (try simp only [Act.put]); (try simp only [List.setIfInBounds_toArray]); (try simp only [List.set])
            apply wpAnyN_takeL 17 (by kernel_rfl) rfl (fun _ _ _ h => h) (by kernel_rfl) hS0
            · intro w' hS'
              go_simp; exact ⟨rfl, rfl⟩
            (try simp only [Act.put]); (try simp only [List.setIfInBounds_toArray]); (try simp only [List.set])
            apply wpAnyN_takeL 18 (by kernel_rfl) rfl (fun _ _ _ h => h) (by kernel_rfl) hS0
            · intro w' hS'
              go_simp; exact ⟨rfl, rfl⟩
            (try simp only [Act.put]); (try simp only [List.setIfInBounds_toArray]); (try simp only [List.set])
            apply wpAnyN_takeL 19 (by kernel_rfl) rfl (fun _ _ _ h => h) (by kernel_rfl) hS0
            · intro w' hS'
              go_simp; exact ⟨rfl, rfl⟩
            (try simp only [Act.put]); (try simp only [List.setIfInBounds_toArray]); (try simp only [List.set])
            apply wpAnyN_takeL 20 (by kernel_rfl) rfl (fun _ _ _ h => h) (by kernel_rfl) hS0
            · intro w' hS'
              go_simp; exact ⟨rfl, rfl⟩
            (try simp only [Act.put]); (try simp only [List.setIfInBounds_toArray]); (try simp only [List.set])
            apply wpAnyN_takeL 21 (v := (.int .i64 0)) (by kernel_rfl) rfl (fun _ _ _ h => h) (by kernel_rfl) hS0
            · intro w' hS'
              (go_simp; exact ⟨rfl, pLogNumberNil _⟩)
            (try simp only [Act.put]); (try simp only [List.setIfInBounds_toArray]); (try simp only [List.set])
            apply wpAnyN_takeL 22 (by kernel_rfl) rfl (fun _ _ _ h => h) (by kernel_rfl) hS0
            · intro w' hS'
              go_simp; exact ⟨rfl, rfl⟩
            (try simp only [Act.put]); (try simp only [List.setIfInBounds_toArray]); (try simp only [List.set])
            apply wpAnyN_takeL 23 (by kernel_rfl) rfl (fun _ _ _ h => h) (by kernel_rfl) hS0
            · intro w' hS'
              go_simp; exact ⟨rfl, rfl⟩
            (try simp only [Act.put]); (try simp only [List.setIfInBounds_toArray]); (try simp only [List.set])
            apply wpAnyN_takeL 24 (by kernel_rfl) rfl (fun _ _ _ h => h) (by kernel_rfl) hS0
            · intro w' hS'
              go_simp; exact ⟨rfl, rfl⟩
            (try simp only [Act.put]); (try simp only [List.setIfInBounds_toArray]); (try simp only [List.set])
            apply wpAnyN_takeL 25 (by kernel_rfl) rfl (fun _ _ _ h => h) (by kernel_rfl) hS0
            · intro w' hS'
              go_simp; exact ⟨rfl, rfl⟩
            (try simp only [Act.put]); (try simp only [List.setIfInBounds_toArray]); (try simp only [List.set])
            apply wpAnyN_takeL 26 (by kernel_rfl) rfl (fun _ _ _ h => h) (by kernel_rfl) hS0
            · intro w' hS'
              go_simp; exact ⟨rfl, rfl⟩
            (try simp only [Act.put]); (try simp only [List.setIfInBounds_toArray]); (try simp only [List.set])
            apply wpAnyN_takeL 28 (by kernel_rfl) rfl (fun _ _ _ h => h) (by kernel_rfl) hS0
            · intro w' hS'
              go_simp; exact ⟨rfl, rfl⟩
            (try simp only [Act.put]); (try simp only [List.setIfInBounds_toArray]); (try simp only [List.set])
            apply wpAnyN_takeL 29 (by kernel_rfl) rfl (fun _ _ _ h => h) (by kernel_rfl) hS0
            · intro w' hS'
              go_simp; exact ⟨rfl, rfl⟩
            (try simp only [Act.put]); (try simp only [List.setIfInBounds_toArray]); (try simp only [List.set])
            apply wpAnyN_takeL 30 (by kernel_rfl) rfl (fun _ _ _ h => h) (by kernel_rfl) hS0
            · intro w' hS'
              go_simp; exact ⟨rfl, rfl⟩
            (try simp only [Act.put]); (try simp only [List.setIfInBounds_toArray]); (try simp only [List.set])
            refine wpAnyN_two 27 31 (by kernel_rfl) rfl (by kernel_rfl) rfl (by kernel_rfl) (fun K hK => ?_) (fun K hK => ?_)
            · go_simp
              refine (HD.out _ hS0).mono ?_
              rintro e v1 ⟨rfl, hb1⟩
              simp only [World.size_drew] at hb1
              have hS1 : Below wc.heap.size wc v1 := hS0.trans hb1
              have o1 := HOF.out v1 hS1
              refine hK _ _ (fun _ => hS1) ?_
              clear hK K
              (try simp only [Act.put]); (try simp only [List.setIfInBounds_toArray]); (try simp only [List.set])
              refine wpAnyN_runL 31 (by kernel_rfl) rfl (by kernel_rfl) (fun K hK => ?_)
              go_simp
              refine hK _ _ (fun _ => hS1) ?_
              clear hK K
              (try simp only [Act.put]); (try simp only [List.setIfInBounds_toArray]); (try simp only [List.set])
              apply wpAnyN_takeL 32 (by kernel_rfl) rfl (fun _ _ _ h => h) (by kernel_rfl) hS1
              · intro w' hS'
                go_simp; exact ⟨rfl, rfl⟩
              (try simp only [Act.put]); (try simp only [List.setIfInBounds_toArray]); (try simp only [List.set])
              apply wpAnyN_takeL 33 (by kernel_rfl) rfl (fun _ _ _ h => h) (by kernel_rfl) hS1
              · intro w' hS'
                go_simp; exact ⟨rfl, rfl⟩
              (try simp only [Act.put]); (try simp only [List.setIfInBounds_toArray]); (try simp only [List.set])
              refine wpAnyN_done (by kernel_rfl) ?_ _
              clear HD HOF
              have hG9 := HG.out _ hS1
              go_wp2
              go_roundw
              case rel =>
                first
                  | exact ⟨k + 1, by omega, by go_num, hG9⟩
                  | ((repeat apply Exists.intro); exact ⟨⟨k + 1, by omega, by go_num, hG9⟩, rfl⟩)
              case measure => first | (simp [intOf]; done) | (simp [intOf]; omega)
            · have o1 := HOF.out _ hS0
              go_simp
              refine hK _ _ (fun _ => hS0) ?_
              clear hK K
              (try simp only [Act.put]); (try simp only [List.setIfInBounds_toArray]); (try simp only [List.set])
              refine wpAnyN_runL 27 (by kernel_rfl) rfl (by kernel_rfl) (fun K hK => ?_)
              go_simp
              refine (HD.out _ hS0).mono ?_
              rintro e v1 ⟨rfl, hb1⟩
              simp only [World.size_drew] at hb1
              have hS1 : Below wc.heap.size wc v1 := hS0.trans hb1
              refine hK _ _ (fun _ => hS1) ?_
              clear hK K
              (try simp only [Act.put]); (try simp only [List.setIfInBounds_toArray]); (try simp only [List.set])
              apply wpAnyN_takeL 32 (by kernel_rfl) rfl (fun _ _ _ h => h) (by kernel_rfl) hS1
              · intro w' hS'
                go_simp; exact ⟨rfl, rfl⟩
              (try simp only [Act.put]); (try simp only [List.setIfInBounds_toArray]); (try simp only [List.set])
              apply wpAnyN_takeL 33 (by kernel_rfl) rfl (fun _ _ _ h => h) (by kernel_rfl) hS1
              · intro w' hS'
                go_simp; exact ⟨rfl, rfl⟩
              (try simp only [Act.put]); (try simp only [List.setIfInBounds_toArray]); (try simp only [List.set])
              refine wpAnyN_done (by kernel_rfl) ?_ _
              clear HD HOF
              have hG9 := HG.out _ hS1
              go_wp2
              go_roundw
              case rel =>
                first
                  | exact ⟨k + 1, by omega, by go_num, hG9⟩
                  | ((repeat apply Exists.intro); exact ⟨⟨k + 1, by omega, by go_num, hG9⟩, rfl⟩)
              case measure => first | (simp [intOf]; done) | (simp [intOf]; omega)
          | @both gl rl L d b h1 h2 h3 h4 u s t =>
            as_aux_lemma =>
            have HL := Lib.hid (show ∀ w', Below wc.heap.size wc w' → LogAt w' g gl L from fun w' h => Blk.below h1 h h1.lt)
            have yn : ∀ w', Below wc.heap.size wc w' → w'.cell? ⟨rl, 2, none⟩ = some (.int .i64 L.n) := fun w' h => (h2.below h h2.lt).cell 2
            clear u s t h1 h2
            go_upto_region 47 with fail
            refine wp_region_N (fun w' => Below wc.heap.size wc w') 100 (by kernel_rfl) ?_
            apply wpAnyN_takeL 0 (by kernel_rfl) rfl (fun _ _ _ h => h) (by kernel_rfl) hS0
            · intro w' hS'
              go_simp; exact ⟨rfl, rfl⟩
            (try simp only [Act.put]); (try simp only [List.setIfInBounds_toArray]); (try simp only [List.set])
            apply wpAnyN_takeL 1 (by kernel_rfl) rfl (fun _ _ _ h => h) (by kernel_rfl) hS0
            · intro w' hS'
              go_simp; exact ⟨rfl, rfl⟩
            (try simp only [Act.put]); (try simp only [List.setIfInBounds_toArray]); (try simp only [List.set])
            apply wpAnyN_takeL 2 (by kernel_rfl) rfl (fun _ _ _ h => h) (by kernel_rfl) hS0
            · intro w' hS'
              go_simp; exact ⟨rfl, rfl⟩
            (try simp only [Act.put]); (try simp only [List.setIfInBounds_toArray]); (try simp only [List.set])
            apply wpAnyN_takeL 3 (by kernel_rfl) rfl (fun _ _ _ h => h) (by kernel_rfl) hS0
            · intro w' hS'
              go_simp; exact ⟨rfl, rfl⟩
            (try simp only [Act.put]); (try simp only [List.setIfInBounds_toArray]); (try simp only [List.set])
            apply wpAnyN_takeL 4 (by kernel_rfl) rfl (fun _ _ _ h => h) (by kernel_rfl) hS0
            · intro w' hS'
              go_simp; exact ⟨rfl, rfl⟩
            (try simp only [Act.put]); (try simp only [List.setIfInBounds_toArray]); (try simp only [List.set])
            apply wpAnyN_takeL 5 (by kernel_rfl) rfl (fun _ _ _ h => h) (by kernel_rfl) hS0
            · intro w' hS'
              go_simp; exact ⟨rfl, rfl⟩
            (try simp only [Act.put]); (try simp only [List.setIfInBounds_toArray]); (try simp only [List.set])
            apply wpAnyN_takeL 6 (by kernel_rfl) rfl (fun _ _ _ h => h) (by kernel_rfl) hS0
            · intro w' hS'
              go_simp; exact ⟨rfl, rfl⟩
            (try simp only [Act.put]); (try simp only [List.setIfInBounds_toArray]); (try simp only [List.set])
            apply wpAnyN_takeL 7 (by kernel_rfl) rfl (fun _ _ _ h => h) (by kernel_rfl) hS0
            · intro w' hS'
              go_simp; exact ⟨rfl, rfl⟩
            (try simp only [Act.put]); (try simp only [List.setIfInBounds_toArray]); (try simp only [List.set])
            apply wpAnyN_takeL 9 (by kernel_rfl) rfl (fun _ _ _ h => h) (by kernel_rfl) hS0
            · intro w' hS'
              go_simp; exact ⟨rfl, rfl⟩
            (try simp only [Act.put]); (try simp only [List.setIfInBounds_toArray]); (try simp only [List.set])
            apply wpAnyN_takeL 10 (by kernel_rfl) rfl (fun _ _ _ h => h) (by kernel_rfl) hS0
            · intro w' hS'
              go_simp; exact ⟨rfl, rfl⟩
            (try simp only [Act.put]); (try simp only [List.setIfInBounds_toArray]); (try simp only [List.set])
            apply wpAnyN_takeL 11 (by kernel_rfl) rfl (fun _ _ _ h => h) (by kernel_rfl) hS0
            · intro w' hS'
              go_simp; exact ⟨rfl, rfl⟩
            (try simp only [Act.put]); (try simp only [List.setIfInBounds_toArray]); (try simp only [List.set])
            apply wpAnyN_takeL 12 (by kernel_rfl) rfl (fun _ _ _ h => h) (by kernel_rfl) hS0
            · intro w' hS'
              go_simp; exact ⟨rfl, rfl⟩
            (try simp only [Act.put]); (try simp only [List.setIfInBounds_toArray]); (try simp only [List.set])
            apply wpAnyN_takeL 8 (v := (.int .i64 L.n)) (by kernel_rfl) rfl (fun _ _ _ h => h) (by kernel_rfl) hS0
            · intro w' hS'
              (go_simp; exact ⟨rfl, vLogNum g gl L _ (HL.out _ hS')⟩)
            (try simp only [Act.put]); (try simp only [List.setIfInBounds_toArray]); (try simp only [List.set])
            apply wpAnyN_takeL 13 (by kernel_rfl) rfl (fun _ _ _ h => h) (by kernel_rfl) hS0
            · intro w' hS'
              go_simp; exact ⟨rfl, rfl⟩
            (try simp only [Act.put]); (try simp only [List.setIfInBounds_toArray]); (try simp only [List.set])
            apply wpAnyN_takeL 14 (by kernel_rfl) rfl (fun _ _ _ h => h) (by kernel_rfl) hS0
            · intro w' hS'
              go_simp; exact ⟨rfl, rfl⟩
            (try simp only [Act.put]); (try simp only [List.setIfInBounds_toArray]); (try simp only [List.set])
            apply wpAnyN_takeL 15 (by kernel_rfl) rfl (fun _ _ _ h => h) (by kernel_rfl) hS0
            · intro w' hS'
              go_simp; exact ⟨rfl, rfl⟩
            (try simp only [Act.put]); (try simp only [List.setIfInBounds_toArray]); (try simp only [List.set])
            apply wpAnyN_takeL 16 (by kernel_rfl) rfl (fun _ _ _ h => h) (by kernel_rfl) hS0
            · intro w' hS'
              go_simp; exact ⟨rfl, rfl⟩
            (try simp only [Act.put]); (try simp only [List.setIfInBounds_toArray]); (try simp only [List.set])
            apply wpAnyN_takeL 17 (by kernel_rfl) rfl (fun _ _ _ h => h) (by kernel_rfl) hS0
            · intro w' hS'
              go_simp; exact ⟨rfl, rfl⟩
            (try simp only [Act.put]); (try simp only [List.setIfInBounds_toArray]); (try simp only [List.set])
            apply wpAnyN_takeL 18 (by kernel_rfl) rfl (fun _ _ _ h => h) (by kernel_rfl) hS0
            · intro w' hS'
              go_simp; exact ⟨rfl, rfl⟩
            (try simp only [Act.put]); (try simp only [List.setIfInBounds_toArray]); (try simp only [List.set])
            apply wpAnyN_takeL 19 (by kernel_rfl) rfl (fun _ _ _ h => h) (by kernel_rfl) hS0
            · intro w' hS'
              go_simp; exact ⟨rfl, rfl⟩
            (try simp only [Act.put]); (try simp only [List.setIfInBounds_toArray]); (try simp only [List.set])
            refine wpAnyN_skipL 20 (by kernel_rfl) rfl (fun _ _ _ h => h) (by kernel_rfl) hS0 ?_
            (try simp only [Act.put]); (try simp only [List.setIfInBounds_toArray]); (try simp only [List.set])
            refine wpAnyN_skipL 21 (by kernel_rfl) rfl (fun _ _ _ h => h) (by kernel_rfl) hS0 ?_
            (try simp only [Act.put]); (try simp only [List.setIfInBounds_toArray]); (try simp only [List.set])
            refine wpAnyN_skipL 22 (by kernel_rfl) rfl (fun _ _ _ h => h) (by kernel_rfl) hS0 ?_
            (try simp only [Act.put]); (try simp only [List.setIfInBounds_toArray]); (try simp only [List.set])
            apply wpAnyN_takeL 23 (by kernel_rfl) rfl (fun _ _ _ h => h) (by kernel_rfl) hS0
            · intro w' hS'
              go_simp; exact ⟨rfl, rfl⟩
            (try simp only [Act.put]); (try simp only [List.setIfInBounds_toArray]); (try simp only [List.set])
            apply wpAnyN_takeL 24 (by kernel_rfl) rfl (fun _ _ _ h => h) (by kernel_rfl) hS0
            · intro w' hS'
              go_simp; exact ⟨rfl, rfl⟩
            (try simp only [Act.put]); (try simp only [List.setIfInBounds_toArray]); (try simp only [List.set])
            apply wpAnyN_takeL 25 (by kernel_rfl) rfl (fun _ _ _ h => h) (by kernel_rfl) hS0
            · intro w' hS'
              go_simp; exact ⟨rfl, rfl⟩
            (try simp only [Act.put]); (try simp only [List.setIfInBounds_toArray]); (try simp only [List.set])
            apply wpAnyN_takeL 26 (by kernel_rfl) rfl (fun _ _ _ h => h) (by kernel_rfl) hS0
            · intro w' hS'
              go_simp; exact ⟨rfl, rfl⟩
            (try simp only [Act.put]); (try simp only [List.setIfInBounds_toArray]); (try simp only [List.set])
            apply wpAnyN_takeL 28 (by kernel_rfl) rfl (fun _ _ _ h => h) (by kernel_rfl) hS0
            · intro w' hS'
              go_simp; exact ⟨rfl, rfl⟩
            (try simp only [Act.put]); (try simp only [List.setIfInBounds_toArray]); (try simp only [List.set])
            apply wpAnyN_takeL 29 (by kernel_rfl) rfl (fun _ _ _ h => h) (by kernel_rfl) hS0
            · intro w' hS'
              go_simp; exact ⟨rfl, rfl⟩
            (try simp only [Act.put]); (try simp only [List.setIfInBounds_toArray]); (try simp only [List.set])
            apply wpAnyN_takeL 30 (by kernel_rfl) rfl (fun _ _ _ h => h) (by kernel_rfl) hS0
            · intro w' hS'
              go_simp; exact ⟨rfl, rfl⟩
            (try simp only [Act.put]); (try simp only [List.setIfInBounds_toArray]); (try simp only [List.set])
            clear yn
            refine wpAnyN_two 27 31 (by kernel_rfl) rfl (by kernel_rfl) rfl (by kernel_rfl) (fun K hK => ?_) (fun K hK => ?_)
            · go_simp
              refine (HD.out _ hS0).mono ?_
              rintro e v1 ⟨rfl, hb1⟩
              simp only [World.size_drew] at hb1
              have hS1 : Below wc.heap.size wc v1 := hS0.trans hb1
              have o1 := HOF.out v1 hS1
              refine hK _ _ (fun _ => hS1) ?_
              clear hK K
              (try simp only [Act.put]); (try simp only [List.setIfInBounds_toArray]); (try simp only [List.set])
              refine wpAnyN_runL 31 (by kernel_rfl) rfl (by kernel_rfl) (fun K hK => ?_)
              go_simp
              refine hK _ _ (fun _ => hS1) ?_
              clear hK K
              (try simp only [Act.put]); (try simp only [List.setIfInBounds_toArray]); (try simp only [List.set])
              apply wpAnyN_takeL 32 (by kernel_rfl) rfl (fun _ _ _ h => h) (by kernel_rfl) hS1
              · intro w' hS'
                go_simp; exact ⟨rfl, rfl⟩
              (try simp only [Act.put]); (try simp only [List.setIfInBounds_toArray]); (try simp only [List.set])
              apply wpAnyN_takeL 33 (by kernel_rfl) rfl (fun _ _ _ h => h) (by kernel_rfl) hS1
              · intro w' hS'
                go_simp; exact ⟨rfl, rfl⟩
              (try simp only [Act.put]); (try simp only [List.setIfInBounds_toArray]); (try simp only [List.set])
              refine wpAnyN_done (by kernel_rfl) ?_ _
              clear HD HOF
              have hG9 := HG.out _ hS1
              go_wp2
              go_roundw
              case rel =>
                first
                  | exact ⟨k + 1, by omega, by go_num, hG9⟩
                  | ((repeat apply Exists.intro); exact ⟨⟨k + 1, by omega, by go_num, hG9⟩, rfl⟩)
              case measure => first | (simp [intOf]; done) | (simp [intOf]; omega)
            · have o1 := HOF.out _ hS0
              go_simp
              refine hK _ _ (fun _ => hS0) ?_
              clear hK K
              (try simp only [Act.put]); (try simp only [List.setIfInBounds_toArray]); (try simp only [List.set])
              refine wpAnyN_runL 27 (by kernel_rfl) rfl (by kernel_rfl) (fun K hK => ?_)
              go_simp
              refine (HD.out _ hS0).mono ?_
              rintro e v1 ⟨rfl, hb1⟩
              simp only [World.size_drew] at hb1
              have hS1 : Below wc.heap.size wc v1 := hS0.trans hb1
              refine hK _ _ (fun _ => hS1) ?_
              clear hK K
              (try simp only [Act.put]); (try simp only [List.setIfInBounds_toArray]); (try simp only [List.set])
              apply wpAnyN_takeL 32 (by kernel_rfl) rfl (fun _ _ _ h => h) (by kernel_rfl) hS1
              · intro w' hS'
                go_simp; exact ⟨rfl, rfl⟩
              (try simp only [Act.put]); (try simp only [List.setIfInBounds_toArray]); (try simp only [List.set])
              apply wpAnyN_takeL 33 (by kernel_rfl) rfl (fun _ _ _ h => h) (by kernel_rfl) hS1
              · intro w' hS'
                go_simp; exact ⟨rfl, rfl⟩
              (try simp only [Act.put]); (try simp only [List.setIfInBounds_toArray]); (try simp only [List.set])
              refine wpAnyN_done (by kernel_rfl) ?_ _
              clear HD HOF
              have hG9 := HG.out _ hS1
              go_wp2
              go_roundw
              case rel =>
                first
                  | exact ⟨k + 1, by omega, by go_num, hG9⟩
                  | ((repeat apply Exists.intro); exact ⟨⟨k + 1, by omega, by go_num, hG9⟩, rfl⟩)
              case measure => first | (simp [intOf]; done) | (simp [intOf]; omega)
      · as_aux_lemma =>
        obtain rfl : k = ps.length := by omega
        have hbZ : Below wo.heap.size wo (wo.alloc (.cells #[.int .i64 3, .int .i64 3, .int .i64 3] 3)) := (Below.refl _ _).alloc (Nat.le_refl _) _
        have h33 : ∀ k ∈ [(3 : Int), 3, 3], in64 k := by
          simp only [List.mem_cons, List.not_mem_nil, or_false]
          rintro k (rfl | rfl | rfl) <;> (unfold in64; omega)
        have H33 := Lib.hid h33
        clear h33
        go_wp2_with fail
        refine (pair_rst [3, 3, 3] (some ⟨wo.heap.size, 0, none⟩) 3 hG (by omega) (by simp) H33.out hbZ ((row_new wo 3 [.int .i64 3, .int .i64 3, .int .i64 3]).more (by simp)) (fun _ q off e => by simp only [Option.some.injEq, Addr.mk.injEq, and_true] at e; omega) 0 []).mono ?_
        rintro e v1 ⟨rfl, hb1, _, hn1⟩
        have hbY : Below v1.heap.size v1 (v1.alloc (.cells #[.int .i64 3, .int .i64 3, .int .i64 3] 3)) := (Below.refl _ _).alloc (Nat.le_refl _) _
        have HN := Lib.hid hn1
        clear hn1 hG hbZ
        go_wp2_with fail
        refine (HN.out _ (some ⟨v1.heap.size, 0, none⟩) 3 hbY ((row_new v1 3 [.int .i64 3, .int .i64 3, .int .i64 3]).more (by simp)) (fun _ q off e => by simp only [Option.some.injEq, Addr.mk.injEq, and_true] at e; omega)).mono ?_
        rintro e v2 ⟨rfl, hG2, _⟩
        clear HN hbY
        go_wp2_with fail
        refine (pair_open first HE.out hG2 (by omega)).mono ?_
        rintro e v3 ⟨lv, A3, c3, qs3, a3, rfl, hrd3, hln3, hb3, hn3⟩
        have HN3 := Lib.hid hn3
        clear hn3 hG2
        go_wp2_with fail
        refine (HN3.out v3 (Below.refl _ _)).mono ?_
        rintro e v4 ⟨rv, A4, c4, qs4, rfl, hrd4, heq, hb4, hG4, hnil⟩
        have hrd5 := hrd3.below hb4
        have hbw := hG4.bw
        clear HN3 hrd3 hb3 hb4 hG4 hnil
        go_wp2_with fail
        refine (vSame10 qs3 qs4 A3 A4 c3 c4 v4 hrd5 hrd4 hln3).mono ?_
        rintro e v5 ⟨rfl, hb5⟩
        rw [heq]
        go_wp2
        go_ret
        exact ⟨rfl, hbw.trans (hb5.mono hbw.size)⟩
end Go.Proofs.YtmddgimadlmacaaDoor
