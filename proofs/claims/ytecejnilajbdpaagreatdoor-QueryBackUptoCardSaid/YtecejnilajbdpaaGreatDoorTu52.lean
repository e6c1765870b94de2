import Derived.Test.YtecejnilajbdpaaGreatDoorTu50
import Derived.Test.YtecejnilajbdpaaGreatDoorTu48
import Derived.Test.YtecejnilajbdpaaGreatDoorTu28
/-! QueryBack: the law walked (its region 3 printed by gen_lawqb.py) -/
namespace Garner
open Go
section
variable {P : Program} {ops : Array Oper} {Q : Exit → Act → World → Prop} {md : Region.Mode} {S : World → Prop}
/-- one of three may come up -/
theorem wpAnyN_three (i j l : Nat) {n : Nat} {o o' o2 : Oper} {fuel : Nat} {listed : Array Bool} {a : Act} {w : World} (hr : Region.ready md ops listed = [i, j, l]) (hi : ops.toList[i]? = some o) (hw : Region.wanted o (yielded ops a.tmps) = true) (hj : ops.toList[j]? = some o') (hw' : Region.wanted o' (yielded ops a.tmps) = true) (hl : ops.toList[l]? = some o2) (hw2 : Region.wanted o2 (yielded ops a.tmps) = true)
    (h : ∀ K : Act → World → Prop, (∀ a' w', (i ≠ n → S w') → wpAnyN P md ops Q S n fuel (listed.setIfInBounds i true) a' w' → K a' w') → o.wp P a w K Q)
    (h' : ∀ K : Act → World → Prop, (∀ a' w', (j ≠ n → S w') → wpAnyN P md ops Q S n fuel (listed.setIfInBounds j true) a' w' → K a' w') → o'.wp P a w K Q)
    (h2 : ∀ K : Act → World → Prop, (∀ a' w', (l ≠ n → S w') → wpAnyN P md ops Q S n fuel (listed.setIfInBounds l true) a' w' → K a' w') → o2.wp P a w K Q) : wpAnyN P md ops Q S n (fuel + 1) listed a w := by
  refine ⟨fun h0 => (by rw [hr] at h0; cases h0), fun k hk => ?_⟩
  rw [hr] at hk
  simp only [List.mem_cons, List.not_mem_nil, or_false] at hk
  rcases hk with rfl | rfl | rfl
  · unfold Go.wpOp
    simp only [of_toList hi]
    rw [if_pos hw]
    exact .inl (h _ fun _ _ h1 h2 => ⟨h1, h2⟩)
  · unfold Go.wpOp
    simp only [of_toList hj]
    rw [if_pos hw']
    exact .inl (h' _ fun _ _ h1 h2 => ⟨h1, h2⟩)
  · unfold Go.wpOp
    simp only [of_toList hl]
    rw [if_pos hw2]
    exact .inl (h2 _ fun _ _ h1 h2 => ⟨h1, h2⟩)
end
end Garner
namespace Go.Proofs.YtecejnilajbdpaaGreatDoor
open Go.RowKit Go.Shelf Garner
/-- the copy of a query: its box, its rows -/
def MineS (w1 wx : World) (mb nm nf : Nat) (q : QueryP) (XA YA : Option Addr) (xc yc : Nat) : Prop := Below w1.heap.size w1 wx ∧ w1.heap.size ≤ mb ∧ Blk wx mb 25 [.slice XA nm xc, .slice YA nf yc] ∧ wx.ownsRow w1.heap.size 69 3 (.slice XA nm xc) nm (q.ms.flatMap MatP.cells) ∧ wx.ownsRow w1.heap.size 71 2 (.slice YA nf yc) nf (q.fs.flatMap FilP.cells)
theorem mine_fin {w1 W : World} {mb nm nf xc yc : Nat} {q : QueryP} {XA YA : Option Addr} (hS : Below w1.heap.size w1 W) (k : Blk W mb 25 [.slice none 0 0, .slice none 0 0]) (hm : w1.heap.size ≤ mb) (oA : W.ownsRow w1.heap.size 69 3 (.slice XA nm xc) nm (q.ms.flatMap MatP.cells)) (oB : W.ownsRow w1.heap.size 71 2 (.slice YA nf yc) nf (q.fs.flatMap FilP.cells)) :
    MineS w1 ((W.setCell ⟨mb, 0, none⟩ (.slice XA nm xc)).setCell ⟨mb, 1, none⟩ (.slice YA nf yc)) mb nm nf q XA YA xc yc := by
  have kq : KeepM [25] W ((W.setCell ⟨mb, 0, none⟩ (.slice XA nm xc)).setCell ⟨mb, 1, none⟩ (.slice YA nf yc)) := KeepM.setCell (KeepM.setCell (.refl _ W) (p := ⟨mb, 0, none⟩) (show W.heap[mb]? = _ from k) (by simp) _) (p := ⟨mb, 1, none⟩) (show (W.setCell ⟨mb, 0, none⟩ (.slice XA nm xc)).heap[mb]? = _ from k.set_ 0 _) (by simp) _
  exact ⟨(hS.setCell hm _).setCell hm _, hm, (k.set_ 0 _).set_ 1 _, kq.own oA (by decide), kq.own oB (by decide)⟩
/-- behind the filter's making: the filter, the boxes, the copied rows (whatever stands in them) -/
structure BkS (w w1 wr : World) (B g mb nm nf : Nat) (q : QueryP) (QV1 QV2 : Value) (RV : List Value) (XA YA : Option Addr) (xc yc : Nat) (xs ys : List Value) : Prop where
  be : Below w.heap.size w wr
  fa : FilAt B wr g q
  kq : Blk wr w.heap.size 25 [QV1, QV2]
  kr : Blk wr (w.heap.size + 1) 38 RV
  km : Blk wr mb 25 [.slice XA nm xc, .slice YA nf yc]
  om : wr.ownsRow w1.heap.size 69 3 (.slice XA nm xc) nm xs
  of_ : wr.ownsRow w1.heap.size 71 2 (.slice YA nf yc) nf ys
theorem own_heapB {w : World} {B sz n c g : Nat} {e : TypeId} {xs : List Value} (h : w.ownsRow B e sz (.slice (some ⟨g, 0, none⟩) n c) n xs) : ∃ cs z, w.heap[g]? = some (.cells cs e z) := by
  rcases h.2 with ⟨h0, -⟩ | ⟨g', cap, cur, hv, -, hh, -⟩
  · cases h0
  · injection hv with e1
    injection e1 with e1
    injection e1 with e1
    subst e1
    exact ⟨_, _, hh⟩
section
variable {w w1 wr w' : World} {B g mb nm nf xb xc yc a b c : Nat} {q : QueryP} {QV1 QV2 u1 u2 u3 : Value} {RV xs ys : List Value} {XA YA : Option Addr}
theorem BkS.below (h : BkS w w1 wr B g mb nm nf q QV1 QV2 RV XA YA xc yc xs ys) (hb : Below wr.heap.size wr w') : BkS w w1 w' B g mb nm nf q QV1 QV2 RV XA YA xc yc xs ys :=
  ⟨h.be.trans (hb.mono h.be.size), h.fa.below hb, h.kq.below hb h.kq.lt, h.kr.below hb h.kr.lt, h.km.below hb h.km.lt, own_below h.om hb, own_below h.of_ hb⟩
theorem BkS.spoilM (h : BkS w w1 wr B g mb nm nf q QV1 QV2 RV (some ⟨xb, 0, none⟩) YA xc yc xs ys) (hB : xb < B) (h0 : w.heap.size ≤ xb) : BkS w w1 (((wr.setCell ⟨xb, a, none⟩ u1).setCell ⟨xb, b, none⟩ u2).setCell ⟨xb, c, none⟩ u3) B g mb nm nf q QV1 QV2 RV (some ⟨xb, 0, none⟩) YA xc yc (((xs.set a u1).set b u2).set c u3) ys := by
  have o1 := own_setQ (j := a) (u := u1) h.om
  have o2 := own_setQ (j := b) (u := u2) o1
  have o3 := own_setQ (j := c) (u := u3) o2
  obtain ⟨_, _, e1⟩ := own_heapB h.om
  obtain ⟨_, _, e2⟩ := own_heapB o1
  obtain ⟨_, _, e3⟩ := own_heapB o2
  have k : KeepM [69] wr (((wr.setCell ⟨xb, a, none⟩ u1).setCell ⟨xb, b, none⟩ u2).setCell ⟨xb, c, none⟩ u3) := KeepM.setCell (KeepM.setCell (KeepM.setCell (.refl _ wr) (p := ⟨xb, a, none⟩) e1 (by simp) _) (p := ⟨xb, b, none⟩) e2 (by simp) _) (p := ⟨xb, c, none⟩) e3 (by simp) _
  have bu : But [xb] wr (((wr.setCell ⟨xb, a, none⟩ u1).setCell ⟨xb, b, none⟩ u2).setCell ⟨xb, c, none⟩ u3) := (((But.refl _ _).setCell (by simp) _).setCell (by simp) _).setCell (by simp) _
  exact ⟨h.be.trans (bu.below h.be.size fun x hx => by rw [List.mem_singleton] at hx; rw [hx]; exact h0), h.fa.wroteM k bu hB, k.blk h.kq (by decide), k.blk h.kr (by decide), k.blk h.km (by decide), o3, k.own h.of_ (by decide)⟩
theorem BkS.spoilF (h : BkS w w1 wr B g mb nm nf q QV1 QV2 RV XA (some ⟨xb, 0, none⟩) xc yc xs ys) (hB : xb < B) (h0 : w.heap.size ≤ xb) : BkS w w1 ((wr.setCell ⟨xb, a, none⟩ u1).setCell ⟨xb, b, none⟩ u2) B g mb nm nf q QV1 QV2 RV XA (some ⟨xb, 0, none⟩) xc yc xs ((ys.set a u1).set b u2) := by
  have o1 := own_setQ (j := a) (u := u1) h.of_
  have o2 := own_setQ (j := b) (u := u2) o1
  obtain ⟨_, _, e1⟩ := own_heapB h.of_
  obtain ⟨_, _, e2⟩ := own_heapB o1
  have k : KeepM [71] wr ((wr.setCell ⟨xb, a, none⟩ u1).setCell ⟨xb, b, none⟩ u2) := KeepM.setCell (KeepM.setCell (.refl _ wr) (p := ⟨xb, a, none⟩) e1 (by simp) _) (p := ⟨xb, b, none⟩) e2 (by simp) _
  have bu : But [xb] wr ((wr.setCell ⟨xb, a, none⟩ u1).setCell ⟨xb, b, none⟩ u2) := ((But.refl _ _).setCell (by simp) _).setCell (by simp) _
  exact ⟨h.be.trans (bu.below h.be.size fun x hx => by rw [List.mem_singleton] at hx; rw [hx]; exact h0), h.fa.wroteF k bu hB, k.blk h.kq (by decide), k.blk h.kr (by decide), k.blk h.km (by decide), k.own h.om (by decide), o2⟩
end
set_option maxRecDepth 100000 in
set_option maxHeartbeats 64000000 in
theorem wQueryBack (q : QueryP) (r : RecP) (sp : Nat) (MA FA LA : Option Addr) (nm nf cm cf ln lc : Nat) (tv sv : Int) (w : World) (hL : Lt w) (hq : QueryAt w MA nm FA nf q) (hnm : nm ≤ 1048576) (hnf : nf ≤ 1048576) (hsm : ∀ m ∈ q.ms, m.name.length ≤ 10000000 ∧ m.val.length ≤ 10000000) (hsf : ∀ f ∈ q.fs, f.text.length ≤ 10000000) (hr : Row w w.heap.size 2 LA ln (r.labels.flatMap labCells)) (hln : r.labels.length = ln) (hl2 : ln ≤ 140737488355328) (hline : r.line.length < 4294967281) (hsp : sp < 256) :
    Calls Tryz.prog 8 #[.agg #[.slice MA nm cm, .slice FA nf cf], .agg #[.int .i64 tv, .int .u64 sv, .slice LA ln lc, strB r.line], .int .u8 sp] w fun e w' => e = .returned (.bool true) ∧ Below w.heap.size w w' := by
  obtain ⟨R, eR, hR⟩ := str_form r.line
  rw [eR]
  obtain ⟨X0, hX0⟩ : ∃ X0, X0 = w.alloc (.cells #[.slice MA nm cm, .slice FA nf cf] 25) := ⟨_, rfl⟩
  have b0 : Below w.heap.size w X0 := by rw [hX0]; exact (Below.refl _ _).alloc (Nat.le_refl _) _
  have k0 : Blk X0 w.heap.size 25 [.slice MA nm cm, .slice FA nf cf] := by rw [hX0]; exact Blk.new w _ _
  have z0 : X0.heap.size = w.heap.size + 1 := by rw [hX0]; simp
  obtain ⟨X, hX⟩ : ∃ X, X = X0.alloc (.cells #[.int .i64 tv, .int .u64 sv, .slice LA ln lc, .string R] 38) := ⟨_, rfl⟩
  have b1 : Below X0.heap.size X0 X := by rw [hX]; exact (Below.refl _ _).alloc (Nat.le_refl _) _
  have k1 : Blk X (w.heap.size + 1) 38 [.int .i64 tv, .int .u64 sv, .slice LA ln lc, .string R] := by rw [hX, ← z0]; exact Blk.new X0 _ _
  have hwX := b0.trans (b1.mono b0.size)
  have kq := k0.below b1 k0.lt
  have haw := awake24 X (hL.below hwX)
  have HAw := Lib.hid haw; have HwX := Lib.hid hwX; have KQ := Lib.hid kq; have KR := Lib.hid k1; have HL := Lib.hid hL; have HQ := Lib.hid hq; have HRr := Lib.hid hr; have Hln := Lib.hid hln; have HeR := Lib.hid eR
  have Hnm := Lib.hid hq.nm_; have Hnf := Lib.hid hq.nf_; have Hline := Lib.hid hline; have HSm := Lib.hid hsm; have HSf := Lib.hid hsf
  clear b0 b1 k0 k1 hwX kq haw hL hq hr hln eR hR z0 hline hsm hsf
  go_enter Tryz.func8, Tryz.ntmps8
  go_upto_region 1 with fail
  rw [← hX0, ← hX]
  clear hX0 hX
  go_wp2_with fail
  refine HAw.out.mono ?_
  rintro e w1 ⟨rfl, hb1⟩
  have hw1 := HwX.out.trans (hb1.mono HwX.out.size)
  have kq1 := KQ.out.below hb1 KQ.out.lt
  have kr1 := KR.out.below hb1 KR.out.lt
  have hql : w.heap.size < w1.heap.size := kq1.lt
  have hrm : ∀ W, Below w1.heap.size w1 W → Row W w.heap.size 3 MA nm (q.ms.flatMap MatP.cells) := fun W h => HQ.out.ms.below (hw1.trans (h.mono hw1.size))
  have hrf : ∀ W, Below w1.heap.size w1 W → Row W w.heap.size 2 FA nf (q.fs.flatMap FilP.cells) := fun W h => HQ.out.fs.below (hw1.trans (h.mono hw1.size))
  have hqc : ∀ W, Below w1.heap.size w1 W → W.cell? ⟨w.heap.size, 0, none⟩ = some (.slice MA nm cm) ∧ W.cell? ⟨w.heap.size, 1, none⟩ = some (.slice FA nf cf) := fun W h => ⟨(kq1.below h kq1.lt).cell 0, (kq1.below h kq1.lt).cell 1⟩
  have HRm := Lib.hid hrm; have HRf := Lib.hid hrf; have HOm := Lib.hid (mat_one q.ms); have HOf := Lib.hid (fil_one q.fs); have HQc := Lib.hid hqc; have HW1 := Lib.hid hw1; have KQ1 := Lib.hid kq1; have KR1 := Lib.hid kr1; have Hql := Lib.hid hql
  clear hrm hrf hqc hw1 kq1 kr1 hql hb1 HAw HwX KQ KR
  go_upto_region 3 with fail
  go_cut [7] (fun v wx => ∃ (mb : Nat) (XA YA : Option Addr) (xc yc : Nat), v = .pointer (some ⟨mb, 0, none⟩) ∧ Hid (MineS w1 wx mb nm nf q XA YA xc yc))
  case first =>
    obtain ⟨w1d, hw1d⟩ : ∃ w1d, w1d = w1.drew := ⟨_, rfl⟩
    have S0 : Below w1.heap.size w1 w1d := by rw [hw1d]; exact (Below.refl _ _).drew
    refine wp_region_N (fun w' => Below w1.heap.size w1 w') 100 (by kernel_rfl) ?_
    rw [← hw1d]
    clear hw1d
    apply wpAnyN_takeL 1 (by kernel_rfl) rfl (fun _ _ _ h => h) (by kernel_rfl) S0
    · intro w' hS'
      go_simp; exact ⟨rfl, rfl⟩
    (try simp only [Act.put]); (try simp only [List.setIfInBounds_toArray]); (try simp only [List.set])
    apply wpAnyN_takeL 2 (v := (.slice MA nm cm)) (by kernel_rfl) rfl (fun _ _ _ h => h) (by kernel_rfl) S0
    · intro w' hS'
      (obtain ⟨k0, k1⟩ := HQc.out w' hS'; go_simp; exact ⟨rfl, rfl⟩)
    (try simp only [Act.put]); (try simp only [List.setIfInBounds_toArray]); (try simp only [List.set])
    apply wpAnyN_takeL 5 (by kernel_rfl) rfl (fun _ _ _ h => h) (by kernel_rfl) S0
    · intro w' hS'
      go_simp; exact ⟨rfl, rfl⟩
    (try simp only [Act.put]); (try simp only [List.setIfInBounds_toArray]); (try simp only [List.set])
    apply wpAnyN_takeL 6 (v := (.slice FA nf cf)) (by kernel_rfl) rfl (fun _ _ _ h => h) (by kernel_rfl) S0
    · intro w' hS'
      (obtain ⟨k0, k1⟩ := HQc.out w' hS'; go_simp; exact ⟨rfl, rfl⟩)
    (try simp only [Act.put]); (try simp only [List.setIfInBounds_toArray]); (try simp only [List.set])
    refine wpAnyN_three 0 4 9 (by kernel_rfl) rfl (by kernel_rfl) rfl (by kernel_rfl) rfl (by kernel_rfl) (fun K hK => ?_) (fun K hK => ?_) (fun K hK => ?_)
    · go_simp
      obtain ⟨Y1, hY1⟩ : ∃ Y1, Y1 = w1d.alloc (.cells #[] 69) := ⟨_, rfl⟩
      rw [← hY1]
      have b1 : Below w1d.heap.size w1d Y1 := by rw [hY1]; exact (Below.refl _ _).alloc (Nat.le_refl _) _
      have S_1 : Below w1.heap.size w1 Y1 := S0.trans (b1.mono S0.size)
      have o0_1 : Y1.ownsRow w1.heap.size 69 3 (.slice (some ⟨w1d.heap.size, 0, none⟩) 0 0) 0 [] := by rw [hY1]; exact own_empty (heap_alloc_new _ _) S0.size
      clear hY1 b1
      refine hK _ _ (fun _ => S_1) ?_
      clear hK K
      (try simp only [Act.put]); (try simp only [List.setIfInBounds_toArray]); (try simp only [List.set])
      refine wpAnyN_three 3 4 9 (by kernel_rfl) rfl (by kernel_rfl) rfl (by kernel_rfl) rfl (by kernel_rfl) (fun K hK => ?_) (fun K hK => ?_) (fun K hK => ?_)
      · refine wp_app Y1 matE rfl rfl o0_1 rfl (HRm.out Y1 S_1) HOm.out (by omega) S_1.size ?_
        intro v2 Y2 own2 hg2 hb2 hx2
        rw [Nat.zero_add, List.nil_append] at own2
        obtain ⟨XA, xc, rfl, -⟩ := own_form own2
        have S_2 : Below w1.heap.size w1 Y2 := S_1.trans hb2
        clear hg2 hb2 hx2
        refine hK _ _ (fun _ => S_2) ?_
        clear hK K
        (try simp only [Act.put]); (try simp only [List.setIfInBounds_toArray]); (try simp only [List.set])
        refine wpAnyN_two 4 9 (by kernel_rfl) rfl (by kernel_rfl) rfl (by kernel_rfl) (fun K hK => ?_) (fun K hK => ?_)
        · go_simp
          obtain ⟨Y3, hY3⟩ : ∃ Y3, Y3 = Y2.alloc (.cells #[] 71) := ⟨_, rfl⟩
          rw [← hY3]
          have b3 : Below Y2.heap.size Y2 Y3 := by rw [hY3]; exact (Below.refl _ _).alloc (Nat.le_refl _) _
          have S_3 : Below w1.heap.size w1 Y3 := S_2.trans (b3.mono S_2.size)
          have oA_3 := own_below own2 b3
          have o4_3 : Y3.ownsRow w1.heap.size 71 2 (.slice (some ⟨Y2.heap.size, 0, none⟩) 0 0) 0 [] := by rw [hY3]; exact own_empty (heap_alloc_new _ _) S_2.size
          clear hY3 b3
          refine hK _ _ (fun _ => S_3) ?_
          clear hK K
          (try simp only [Act.put]); (try simp only [List.setIfInBounds_toArray]); (try simp only [List.set])
          refine wpAnyN_two 7 9 (by kernel_rfl) rfl (by kernel_rfl) rfl (by kernel_rfl) (fun K hK => ?_) (fun K hK => ?_)
          · refine wp_app Y3 filE rfl rfl o4_3 rfl (HRf.out Y3 S_3) HOf.out (by omega) S_3.size ?_
            intro v4 Y4 own4 hg4 hb4 hx4
            rw [Nat.zero_add, List.nil_append] at own4
            obtain ⟨YA, yc, rfl, -⟩ := own_form own4
            have S_4 : Below w1.heap.size w1 Y4 := S_3.trans hb4
            have oA_4 := own_grownD oA_3 o4_3 (by decide) hg4
            clear hg4 hb4 hx4
            refine hK _ _ (fun _ => S_4) ?_
            clear hK K
            (try simp only [Act.put]); (try simp only [List.setIfInBounds_toArray]); (try simp only [List.set])
            apply wpAnyN_takeL 8 (by kernel_rfl) rfl (fun _ _ _ h => h) (by kernel_rfl) S_4
            · intro w' hS'
              go_simp; exact ⟨rfl, rfl⟩
            (try simp only [Act.put]); (try simp only [List.setIfInBounds_toArray]); (try simp only [List.set])
            refine wpAnyN_runL 9 (by kernel_rfl) rfl (by kernel_rfl) (fun K hK => ?_)
            go_simp
            obtain ⟨Y5, hY5⟩ : ∃ Y5, Y5 = Y4.alloc (.cells #[.slice none 0 0, .slice none 0 0] 25) := ⟨_, rfl⟩
            rw [← hY5]
            have b5 : Below Y4.heap.size Y4 Y5 := by rw [hY5]; exact (Below.refl _ _).alloc (Nat.le_refl _) _
            have S_5 : Below w1.heap.size w1 Y5 := S_4.trans (b5.mono S_4.size)
            have oA_5 := own_below oA_4 b5
            have oB_5 := own_below own4 b5
            have k9_5 : Blk Y5 Y4.heap.size 25 [.slice none 0 0, .slice none 0 0] := by rw [hY5]; exact Blk.new Y4 _ _
            have m9 : w1.heap.size ≤ Y4.heap.size := S_4.size
            clear hY5 b5
            refine hK _ _ (fun _ => S_5) ?_
            clear hK K
            (try simp only [Act.put]); (try simp only [List.setIfInBounds_toArray]); (try simp only [List.set])
            have c0 : Y5.cell? ⟨Y4.heap.size, 0, none⟩ = some (.slice none 0 0) := k9_5.cell 0
            have c1 : Y5.cell? ⟨Y4.heap.size, 1, none⟩ = some (.slice none 0 0) := k9_5.cell 1
            have cf0 := k9_5.frozen 0
            have cf1 := k9_5.frozen 1
            refine wpAnyN_runL 10 (by kernel_rfl) rfl (by kernel_rfl) (fun K hK => ?_)
            go_simp
            have hfin := mine_fin S_5 k9_5 m9 oA_5 oB_5
            refine hK _ _ (fun _ => hfin.1) ?_
            clear hK K
            (try simp only [Act.put]); (try simp only [List.setIfInBounds_toArray]); (try simp only [List.set])
            refine wpAnyN_done (by kernel_rfl) ?_ _
            clear c0 c1 cf0 cf1
            (try go_wp2)
            go_meet
            case rel => exact ⟨_, XA, YA, xc, yc, rfl, Lib.hid hfin⟩
          · go_simp
            obtain ⟨Y6, hY6⟩ : ∃ Y6, Y6 = Y3.alloc (.cells #[.slice none 0 0, .slice none 0 0] 25) := ⟨_, rfl⟩
            rw [← hY6]
            have b6 : Below Y3.heap.size Y3 Y6 := by rw [hY6]; exact (Below.refl _ _).alloc (Nat.le_refl _) _
            have S_6 : Below w1.heap.size w1 Y6 := S_3.trans (b6.mono S_3.size)
            have oA_6 := own_below oA_3 b6
            have o4_6 := own_below o4_3 b6
            have k9_6 : Blk Y6 Y3.heap.size 25 [.slice none 0 0, .slice none 0 0] := by rw [hY6]; exact Blk.new Y3 _ _
            have m9 : w1.heap.size ≤ Y3.heap.size := S_3.size
            clear hY6 b6
            refine hK _ _ (fun _ => S_6) ?_
            clear hK K
            (try simp only [Act.put]); (try simp only [List.setIfInBounds_toArray]); (try simp only [List.set])
            refine wpAnyN_runL 7 (by kernel_rfl) rfl (by kernel_rfl) (fun K hK => ?_)
            refine wp_app Y6 filE rfl rfl o4_6 rfl (HRf.out Y6 S_6) HOf.out (by omega) S_6.size ?_
            intro v7 Y7 own7 hg7 hb7 hx7
            rw [Nat.zero_add, List.nil_append] at own7
            obtain ⟨YA, yc, rfl, -⟩ := own_form own7
            have S_7 : Below w1.heap.size w1 Y7 := S_6.trans hb7
            have oA_7 := own_grownD oA_6 o4_6 (by decide) hg7
            have k9_7 := k9_6.appq o4_6 (by decide) hg7
            clear hg7 hb7 hx7
            refine hK _ _ (fun _ => S_7) ?_
            clear hK K
            (try simp only [Act.put]); (try simp only [List.setIfInBounds_toArray]); (try simp only [List.set])
            apply wpAnyN_takeL 8 (by kernel_rfl) rfl (fun _ _ _ h => h) (by kernel_rfl) S_7
            · intro w' hS'
              go_simp; exact ⟨rfl, rfl⟩
            (try simp only [Act.put]); (try simp only [List.setIfInBounds_toArray]); (try simp only [List.set])
            have c0 : Y7.cell? ⟨Y3.heap.size, 0, none⟩ = some (.slice none 0 0) := k9_7.cell 0
            have c1 : Y7.cell? ⟨Y3.heap.size, 1, none⟩ = some (.slice none 0 0) := k9_7.cell 1
            have cf0 := k9_7.frozen 0
            have cf1 := k9_7.frozen 1
            refine wpAnyN_runL 10 (by kernel_rfl) rfl (by kernel_rfl) (fun K hK => ?_)
            go_simp
            have hfin := mine_fin S_7 k9_7 m9 oA_7 own7
            refine hK _ _ (fun _ => hfin.1) ?_
            clear hK K
            (try simp only [Act.put]); (try simp only [List.setIfInBounds_toArray]); (try simp only [List.set])
            refine wpAnyN_done (by kernel_rfl) ?_ _
            clear c0 c1 cf0 cf1
            (try go_wp2)
            go_meet
            case rel => exact ⟨_, XA, YA, xc, yc, rfl, Lib.hid hfin⟩
        · go_simp
          obtain ⟨Y8, hY8⟩ : ∃ Y8, Y8 = Y2.alloc (.cells #[.slice none 0 0, .slice none 0 0] 25) := ⟨_, rfl⟩
          rw [← hY8]
          have b8 : Below Y2.heap.size Y2 Y8 := by rw [hY8]; exact (Below.refl _ _).alloc (Nat.le_refl _) _
          have S_8 : Below w1.heap.size w1 Y8 := S_2.trans (b8.mono S_2.size)
          have oA_8 := own_below own2 b8
          have k9_8 : Blk Y8 Y2.heap.size 25 [.slice none 0 0, .slice none 0 0] := by rw [hY8]; exact Blk.new Y2 _ _
          have m9 : w1.heap.size ≤ Y2.heap.size := S_2.size
          clear hY8 b8
          refine hK _ _ (fun _ => S_8) ?_
          clear hK K
          (try simp only [Act.put]); (try simp only [List.setIfInBounds_toArray]); (try simp only [List.set])
          refine wpAnyN_runL 4 (by kernel_rfl) rfl (by kernel_rfl) (fun K hK => ?_)
          go_simp
          obtain ⟨Y9, hY9⟩ : ∃ Y9, Y9 = Y8.alloc (.cells #[] 71) := ⟨_, rfl⟩
          rw [← hY9]
          have b9 : Below Y8.heap.size Y8 Y9 := by rw [hY9]; exact (Below.refl _ _).alloc (Nat.le_refl _) _
          have S_9 : Below w1.heap.size w1 Y9 := S_8.trans (b9.mono S_8.size)
          have oA_9 := own_below oA_8 b9
          have k9_9 := k9_8.below b9 k9_8.lt
          have o4_9 : Y9.ownsRow w1.heap.size 71 2 (.slice (some ⟨Y8.heap.size, 0, none⟩) 0 0) 0 [] := by rw [hY9]; exact own_empty (heap_alloc_new _ _) S_8.size
          clear hY9 b9
          refine hK _ _ (fun _ => S_9) ?_
          clear hK K
          (try simp only [Act.put]); (try simp only [List.setIfInBounds_toArray]); (try simp only [List.set])
          refine wpAnyN_runL 7 (by kernel_rfl) rfl (by kernel_rfl) (fun K hK => ?_)
          refine wp_app Y9 filE rfl rfl o4_9 rfl (HRf.out Y9 S_9) HOf.out (by omega) S_9.size ?_
          intro v10 Y10 own10 hg10 hb10 hx10
          rw [Nat.zero_add, List.nil_append] at own10
          obtain ⟨YA, yc, rfl, -⟩ := own_form own10
          have S_10 : Below w1.heap.size w1 Y10 := S_9.trans hb10
          have oA_10 := own_grownD oA_9 o4_9 (by decide) hg10
          have k9_10 := k9_9.appq o4_9 (by decide) hg10
          clear hg10 hb10 hx10
          refine hK _ _ (fun _ => S_10) ?_
          clear hK K
          (try simp only [Act.put]); (try simp only [List.setIfInBounds_toArray]); (try simp only [List.set])
          apply wpAnyN_takeL 8 (by kernel_rfl) rfl (fun _ _ _ h => h) (by kernel_rfl) S_10
          · intro w' hS'
            go_simp; exact ⟨rfl, rfl⟩
          (try simp only [Act.put]); (try simp only [List.setIfInBounds_toArray]); (try simp only [List.set])
          have c0 : Y10.cell? ⟨Y2.heap.size, 0, none⟩ = some (.slice none 0 0) := k9_10.cell 0
          have c1 : Y10.cell? ⟨Y2.heap.size, 1, none⟩ = some (.slice none 0 0) := k9_10.cell 1
          have cf0 := k9_10.frozen 0
          have cf1 := k9_10.frozen 1
          refine wpAnyN_runL 10 (by kernel_rfl) rfl (by kernel_rfl) (fun K hK => ?_)
          go_simp
          have hfin := mine_fin S_10 k9_10 m9 oA_10 own10
          refine hK _ _ (fun _ => hfin.1) ?_
          clear hK K
          (try simp only [Act.put]); (try simp only [List.setIfInBounds_toArray]); (try simp only [List.set])
          refine wpAnyN_done (by kernel_rfl) ?_ _
          clear c0 c1 cf0 cf1
          (try go_wp2)
          go_meet
          case rel => exact ⟨_, XA, YA, xc, yc, rfl, Lib.hid hfin⟩
      · go_simp
        obtain ⟨Y11, hY11⟩ : ∃ Y11, Y11 = Y1.alloc (.cells #[] 71) := ⟨_, rfl⟩
        rw [← hY11]
        have b11 : Below Y1.heap.size Y1 Y11 := by rw [hY11]; exact (Below.refl _ _).alloc (Nat.le_refl _) _
        have S_11 : Below w1.heap.size w1 Y11 := S_1.trans (b11.mono S_1.size)
        have o0_11 := own_below o0_1 b11
        have o4_11 : Y11.ownsRow w1.heap.size 71 2 (.slice (some ⟨Y1.heap.size, 0, none⟩) 0 0) 0 [] := by rw [hY11]; exact own_empty (heap_alloc_new _ _) S_1.size
        clear hY11 b11
        refine hK _ _ (fun _ => S_11) ?_
        clear hK K
        (try simp only [Act.put]); (try simp only [List.setIfInBounds_toArray]); (try simp only [List.set])
        refine wpAnyN_two 3 9 (by kernel_rfl) rfl (by kernel_rfl) rfl (by kernel_rfl) (fun K hK => ?_) (fun K hK => ?_)
        · refine wp_app Y11 matE rfl rfl o0_11 rfl (HRm.out Y11 S_11) HOm.out (by omega) S_11.size ?_
          intro v12 Y12 own12 hg12 hb12 hx12
          rw [Nat.zero_add, List.nil_append] at own12
          obtain ⟨XA, xc, rfl, -⟩ := own_form own12
          have S_12 : Below w1.heap.size w1 Y12 := S_11.trans hb12
          have o4_12 := own_grownD o4_11 o0_11 (by decide) hg12
          clear hg12 hb12 hx12
          refine hK _ _ (fun _ => S_12) ?_
          clear hK K
          (try simp only [Act.put]); (try simp only [List.setIfInBounds_toArray]); (try simp only [List.set])
          refine wpAnyN_two 7 9 (by kernel_rfl) rfl (by kernel_rfl) rfl (by kernel_rfl) (fun K hK => ?_) (fun K hK => ?_)
          · refine wp_app Y12 filE rfl rfl o4_12 rfl (HRf.out Y12 S_12) HOf.out (by omega) S_12.size ?_
            intro v13 Y13 own13 hg13 hb13 hx13
            rw [Nat.zero_add, List.nil_append] at own13
            obtain ⟨YA, yc, rfl, -⟩ := own_form own13
            have S_13 : Below w1.heap.size w1 Y13 := S_12.trans hb13
            have oA_13 := own_grownD own12 o4_12 (by decide) hg13
            clear hg13 hb13 hx13
            refine hK _ _ (fun _ => S_13) ?_
            clear hK K
            (try simp only [Act.put]); (try simp only [List.setIfInBounds_toArray]); (try simp only [List.set])
            apply wpAnyN_takeL 8 (by kernel_rfl) rfl (fun _ _ _ h => h) (by kernel_rfl) S_13
            · intro w' hS'
              go_simp; exact ⟨rfl, rfl⟩
            (try simp only [Act.put]); (try simp only [List.setIfInBounds_toArray]); (try simp only [List.set])
            refine wpAnyN_runL 9 (by kernel_rfl) rfl (by kernel_rfl) (fun K hK => ?_)
            go_simp
            obtain ⟨Y14, hY14⟩ : ∃ Y14, Y14 = Y13.alloc (.cells #[.slice none 0 0, .slice none 0 0] 25) := ⟨_, rfl⟩
            rw [← hY14]
            have b14 : Below Y13.heap.size Y13 Y14 := by rw [hY14]; exact (Below.refl _ _).alloc (Nat.le_refl _) _
            have S_14 : Below w1.heap.size w1 Y14 := S_13.trans (b14.mono S_13.size)
            have oA_14 := own_below oA_13 b14
            have oB_14 := own_below own13 b14
            have k9_14 : Blk Y14 Y13.heap.size 25 [.slice none 0 0, .slice none 0 0] := by rw [hY14]; exact Blk.new Y13 _ _
            have m9 : w1.heap.size ≤ Y13.heap.size := S_13.size
            clear hY14 b14
            refine hK _ _ (fun _ => S_14) ?_
            clear hK K
            (try simp only [Act.put]); (try simp only [List.setIfInBounds_toArray]); (try simp only [List.set])
            have c0 : Y14.cell? ⟨Y13.heap.size, 0, none⟩ = some (.slice none 0 0) := k9_14.cell 0
            have c1 : Y14.cell? ⟨Y13.heap.size, 1, none⟩ = some (.slice none 0 0) := k9_14.cell 1
            have cf0 := k9_14.frozen 0
            have cf1 := k9_14.frozen 1
            refine wpAnyN_runL 10 (by kernel_rfl) rfl (by kernel_rfl) (fun K hK => ?_)
            go_simp
            have hfin := mine_fin S_14 k9_14 m9 oA_14 oB_14
            refine hK _ _ (fun _ => hfin.1) ?_
            clear hK K
            (try simp only [Act.put]); (try simp only [List.setIfInBounds_toArray]); (try simp only [List.set])
            refine wpAnyN_done (by kernel_rfl) ?_ _
            clear c0 c1 cf0 cf1
            (try go_wp2)
            go_meet
            case rel => exact ⟨_, XA, YA, xc, yc, rfl, Lib.hid hfin⟩
          · go_simp
            obtain ⟨Y15, hY15⟩ : ∃ Y15, Y15 = Y12.alloc (.cells #[.slice none 0 0, .slice none 0 0] 25) := ⟨_, rfl⟩
            rw [← hY15]
            have b15 : Below Y12.heap.size Y12 Y15 := by rw [hY15]; exact (Below.refl _ _).alloc (Nat.le_refl _) _
            have S_15 : Below w1.heap.size w1 Y15 := S_12.trans (b15.mono S_12.size)
            have oA_15 := own_below own12 b15
            have o4_15 := own_below o4_12 b15
            have k9_15 : Blk Y15 Y12.heap.size 25 [.slice none 0 0, .slice none 0 0] := by rw [hY15]; exact Blk.new Y12 _ _
            have m9 : w1.heap.size ≤ Y12.heap.size := S_12.size
            clear hY15 b15
            refine hK _ _ (fun _ => S_15) ?_
            clear hK K
            (try simp only [Act.put]); (try simp only [List.setIfInBounds_toArray]); (try simp only [List.set])
            refine wpAnyN_runL 7 (by kernel_rfl) rfl (by kernel_rfl) (fun K hK => ?_)
            refine wp_app Y15 filE rfl rfl o4_15 rfl (HRf.out Y15 S_15) HOf.out (by omega) S_15.size ?_
            intro v16 Y16 own16 hg16 hb16 hx16
            rw [Nat.zero_add, List.nil_append] at own16
            obtain ⟨YA, yc, rfl, -⟩ := own_form own16
            have S_16 : Below w1.heap.size w1 Y16 := S_15.trans hb16
            have oA_16 := own_grownD oA_15 o4_15 (by decide) hg16
            have k9_16 := k9_15.appq o4_15 (by decide) hg16
            clear hg16 hb16 hx16
            refine hK _ _ (fun _ => S_16) ?_
            clear hK K
            (try simp only [Act.put]); (try simp only [List.setIfInBounds_toArray]); (try simp only [List.set])
            apply wpAnyN_takeL 8 (by kernel_rfl) rfl (fun _ _ _ h => h) (by kernel_rfl) S_16
            · intro w' hS'
              go_simp; exact ⟨rfl, rfl⟩
            (try simp only [Act.put]); (try simp only [List.setIfInBounds_toArray]); (try simp only [List.set])
            have c0 : Y16.cell? ⟨Y12.heap.size, 0, none⟩ = some (.slice none 0 0) := k9_16.cell 0
            have c1 : Y16.cell? ⟨Y12.heap.size, 1, none⟩ = some (.slice none 0 0) := k9_16.cell 1
            have cf0 := k9_16.frozen 0
            have cf1 := k9_16.frozen 1
            refine wpAnyN_runL 10 (by kernel_rfl) rfl (by kernel_rfl) (fun K hK => ?_)
            go_simp
            have hfin := mine_fin S_16 k9_16 m9 oA_16 own16
            refine hK _ _ (fun _ => hfin.1) ?_
            clear hK K
            (try simp only [Act.put]); (try simp only [List.setIfInBounds_toArray]); (try simp only [List.set])
            refine wpAnyN_done (by kernel_rfl) ?_ _
            clear c0 c1 cf0 cf1
            (try go_wp2)
            go_meet
            case rel => exact ⟨_, XA, YA, xc, yc, rfl, Lib.hid hfin⟩
        · go_simp
          obtain ⟨Y17, hY17⟩ : ∃ Y17, Y17 = Y11.alloc (.cells #[.slice none 0 0, .slice none 0 0] 25) := ⟨_, rfl⟩
          rw [← hY17]
          have b17 : Below Y11.heap.size Y11 Y17 := by rw [hY17]; exact (Below.refl _ _).alloc (Nat.le_refl _) _
          have S_17 : Below w1.heap.size w1 Y17 := S_11.trans (b17.mono S_11.size)
          have o0_17 := own_below o0_11 b17
          have o4_17 := own_below o4_11 b17
          have k9_17 : Blk Y17 Y11.heap.size 25 [.slice none 0 0, .slice none 0 0] := by rw [hY17]; exact Blk.new Y11 _ _
          have m9 : w1.heap.size ≤ Y11.heap.size := S_11.size
          clear hY17 b17
          refine hK _ _ (fun _ => S_17) ?_
          clear hK K
          (try simp only [Act.put]); (try simp only [List.setIfInBounds_toArray]); (try simp only [List.set])
          refine wpAnyN_runL 3 (by kernel_rfl) rfl (by kernel_rfl) (fun K hK => ?_)
          refine wp_app Y17 matE rfl rfl o0_17 rfl (HRm.out Y17 S_17) HOm.out (by omega) S_17.size ?_
          intro v18 Y18 own18 hg18 hb18 hx18
          rw [Nat.zero_add, List.nil_append] at own18
          obtain ⟨XA, xc, rfl, -⟩ := own_form own18
          have S_18 : Below w1.heap.size w1 Y18 := S_17.trans hb18
          have o4_18 := own_grownD o4_17 o0_17 (by decide) hg18
          have k9_18 := k9_17.appq o0_17 (by decide) hg18
          clear hg18 hb18 hx18
          refine hK _ _ (fun _ => S_18) ?_
          clear hK K
          (try simp only [Act.put]); (try simp only [List.setIfInBounds_toArray]); (try simp only [List.set])
          refine wpAnyN_runL 7 (by kernel_rfl) rfl (by kernel_rfl) (fun K hK => ?_)
          refine wp_app Y18 filE rfl rfl o4_18 rfl (HRf.out Y18 S_18) HOf.out (by omega) S_18.size ?_
          intro v19 Y19 own19 hg19 hb19 hx19
          rw [Nat.zero_add, List.nil_append] at own19
          obtain ⟨YA, yc, rfl, -⟩ := own_form own19
          have S_19 : Below w1.heap.size w1 Y19 := S_18.trans hb19
          have oA_19 := own_grownD own18 o4_18 (by decide) hg19
          have k9_19 := k9_18.appq o4_18 (by decide) hg19
          clear hg19 hb19 hx19
          refine hK _ _ (fun _ => S_19) ?_
          clear hK K
          (try simp only [Act.put]); (try simp only [List.setIfInBounds_toArray]); (try simp only [List.set])
          apply wpAnyN_takeL 8 (by kernel_rfl) rfl (fun _ _ _ h => h) (by kernel_rfl) S_19
          · intro w' hS'
            go_simp; exact ⟨rfl, rfl⟩
          (try simp only [Act.put]); (try simp only [List.setIfInBounds_toArray]); (try simp only [List.set])
          have c0 : Y19.cell? ⟨Y11.heap.size, 0, none⟩ = some (.slice none 0 0) := k9_19.cell 0
          have c1 : Y19.cell? ⟨Y11.heap.size, 1, none⟩ = some (.slice none 0 0) := k9_19.cell 1
          have cf0 := k9_19.frozen 0
          have cf1 := k9_19.frozen 1
          refine wpAnyN_runL 10 (by kernel_rfl) rfl (by kernel_rfl) (fun K hK => ?_)
          go_simp
          have hfin := mine_fin S_19 k9_19 m9 oA_19 own19
          refine hK _ _ (fun _ => hfin.1) ?_
          clear hK K
          (try simp only [Act.put]); (try simp only [List.setIfInBounds_toArray]); (try simp only [List.set])
          refine wpAnyN_done (by kernel_rfl) ?_ _
          clear c0 c1 cf0 cf1
          (try go_wp2)
          go_meet
          case rel => exact ⟨_, XA, YA, xc, yc, rfl, Lib.hid hfin⟩
      · go_simp
        obtain ⟨Y20, hY20⟩ : ∃ Y20, Y20 = Y1.alloc (.cells #[.slice none 0 0, .slice none 0 0] 25) := ⟨_, rfl⟩
        rw [← hY20]
        have b20 : Below Y1.heap.size Y1 Y20 := by rw [hY20]; exact (Below.refl _ _).alloc (Nat.le_refl _) _
        have S_20 : Below w1.heap.size w1 Y20 := S_1.trans (b20.mono S_1.size)
        have o0_20 := own_below o0_1 b20
        have k9_20 : Blk Y20 Y1.heap.size 25 [.slice none 0 0, .slice none 0 0] := by rw [hY20]; exact Blk.new Y1 _ _
        have m9 : w1.heap.size ≤ Y1.heap.size := S_1.size
        clear hY20 b20
        refine hK _ _ (fun _ => S_20) ?_
        clear hK K
        (try simp only [Act.put]); (try simp only [List.setIfInBounds_toArray]); (try simp only [List.set])
        refine wpAnyN_two 3 4 (by kernel_rfl) rfl (by kernel_rfl) rfl (by kernel_rfl) (fun K hK => ?_) (fun K hK => ?_)
        · refine wp_app Y20 matE rfl rfl o0_20 rfl (HRm.out Y20 S_20) HOm.out (by omega) S_20.size ?_
          intro v21 Y21 own21 hg21 hb21 hx21
          rw [Nat.zero_add, List.nil_append] at own21
          obtain ⟨XA, xc, rfl, -⟩ := own_form own21
          have S_21 : Below w1.heap.size w1 Y21 := S_20.trans hb21
          have k9_21 := k9_20.appq o0_20 (by decide) hg21
          clear hg21 hb21 hx21
          refine hK _ _ (fun _ => S_21) ?_
          clear hK K
          (try simp only [Act.put]); (try simp only [List.setIfInBounds_toArray]); (try simp only [List.set])
          refine wpAnyN_runL 4 (by kernel_rfl) rfl (by kernel_rfl) (fun K hK => ?_)
          go_simp
          obtain ⟨Y22, hY22⟩ : ∃ Y22, Y22 = Y21.alloc (.cells #[] 71) := ⟨_, rfl⟩
          rw [← hY22]
          have b22 : Below Y21.heap.size Y21 Y22 := by rw [hY22]; exact (Below.refl _ _).alloc (Nat.le_refl _) _
          have S_22 : Below w1.heap.size w1 Y22 := S_21.trans (b22.mono S_21.size)
          have oA_22 := own_below own21 b22
          have k9_22 := k9_21.below b22 k9_21.lt
          have o4_22 : Y22.ownsRow w1.heap.size 71 2 (.slice (some ⟨Y21.heap.size, 0, none⟩) 0 0) 0 [] := by rw [hY22]; exact own_empty (heap_alloc_new _ _) S_21.size
          clear hY22 b22
          refine hK _ _ (fun _ => S_22) ?_
          clear hK K
          (try simp only [Act.put]); (try simp only [List.setIfInBounds_toArray]); (try simp only [List.set])
          refine wpAnyN_runL 7 (by kernel_rfl) rfl (by kernel_rfl) (fun K hK => ?_)
          refine wp_app Y22 filE rfl rfl o4_22 rfl (HRf.out Y22 S_22) HOf.out (by omega) S_22.size ?_
          intro v23 Y23 own23 hg23 hb23 hx23
          rw [Nat.zero_add, List.nil_append] at own23
          obtain ⟨YA, yc, rfl, -⟩ := own_form own23
          have S_23 : Below w1.heap.size w1 Y23 := S_22.trans hb23
          have oA_23 := own_grownD oA_22 o4_22 (by decide) hg23
          have k9_23 := k9_22.appq o4_22 (by decide) hg23
          clear hg23 hb23 hx23
          refine hK _ _ (fun _ => S_23) ?_
          clear hK K
          (try simp only [Act.put]); (try simp only [List.setIfInBounds_toArray]); (try simp only [List.set])
          apply wpAnyN_takeL 8 (by kernel_rfl) rfl (fun _ _ _ h => h) (by kernel_rfl) S_23
          · intro w' hS'
            go_simp; exact ⟨rfl, rfl⟩
          (try simp only [Act.put]); (try simp only [List.setIfInBounds_toArray]); (try simp only [List.set])
          have c0 : Y23.cell? ⟨Y1.heap.size, 0, none⟩ = some (.slice none 0 0) := k9_23.cell 0
          have c1 : Y23.cell? ⟨Y1.heap.size, 1, none⟩ = some (.slice none 0 0) := k9_23.cell 1
          have cf0 := k9_23.frozen 0
          have cf1 := k9_23.frozen 1
          refine wpAnyN_runL 10 (by kernel_rfl) rfl (by kernel_rfl) (fun K hK => ?_)
          go_simp
          have hfin := mine_fin S_23 k9_23 m9 oA_23 own23
          refine hK _ _ (fun _ => hfin.1) ?_
          clear hK K
          (try simp only [Act.put]); (try simp only [List.setIfInBounds_toArray]); (try simp only [List.set])
          refine wpAnyN_done (by kernel_rfl) ?_ _
          clear c0 c1 cf0 cf1
          (try go_wp2)
          go_meet
          case rel => exact ⟨_, XA, YA, xc, yc, rfl, Lib.hid hfin⟩
        · go_simp
          obtain ⟨Y24, hY24⟩ : ∃ Y24, Y24 = Y20.alloc (.cells #[] 71) := ⟨_, rfl⟩
          rw [← hY24]
          have b24 : Below Y20.heap.size Y20 Y24 := by rw [hY24]; exact (Below.refl _ _).alloc (Nat.le_refl _) _
          have S_24 : Below w1.heap.size w1 Y24 := S_20.trans (b24.mono S_20.size)
          have o0_24 := own_below o0_20 b24
          have k9_24 := k9_20.below b24 k9_20.lt
          have o4_24 : Y24.ownsRow w1.heap.size 71 2 (.slice (some ⟨Y20.heap.size, 0, none⟩) 0 0) 0 [] := by rw [hY24]; exact own_empty (heap_alloc_new _ _) S_20.size
          clear hY24 b24
          refine hK _ _ (fun _ => S_24) ?_
          clear hK K
          (try simp only [Act.put]); (try simp only [List.setIfInBounds_toArray]); (try simp only [List.set])
          refine wpAnyN_runL 3 (by kernel_rfl) rfl (by kernel_rfl) (fun K hK => ?_)
          refine wp_app Y24 matE rfl rfl o0_24 rfl (HRm.out Y24 S_24) HOm.out (by omega) S_24.size ?_
          intro v25 Y25 own25 hg25 hb25 hx25
          rw [Nat.zero_add, List.nil_append] at own25
          obtain ⟨XA, xc, rfl, -⟩ := own_form own25
          have S_25 : Below w1.heap.size w1 Y25 := S_24.trans hb25
          have o4_25 := own_grownD o4_24 o0_24 (by decide) hg25
          have k9_25 := k9_24.appq o0_24 (by decide) hg25
          clear hg25 hb25 hx25
          refine hK _ _ (fun _ => S_25) ?_
          clear hK K
          (try simp only [Act.put]); (try simp only [List.setIfInBounds_toArray]); (try simp only [List.set])
          refine wpAnyN_runL 7 (by kernel_rfl) rfl (by kernel_rfl) (fun K hK => ?_)
          refine wp_app Y25 filE rfl rfl o4_25 rfl (HRf.out Y25 S_25) HOf.out (by omega) S_25.size ?_
          intro v26 Y26 own26 hg26 hb26 hx26
          rw [Nat.zero_add, List.nil_append] at own26
          obtain ⟨YA, yc, rfl, -⟩ := own_form own26
          have S_26 : Below w1.heap.size w1 Y26 := S_25.trans hb26
          have oA_26 := own_grownD own25 o4_25 (by decide) hg26
          have k9_26 := k9_25.appq o4_25 (by decide) hg26
          clear hg26 hb26 hx26
          refine hK _ _ (fun _ => S_26) ?_
          clear hK K
          (try simp only [Act.put]); (try simp only [List.setIfInBounds_toArray]); (try simp only [List.set])
          apply wpAnyN_takeL 8 (by kernel_rfl) rfl (fun _ _ _ h => h) (by kernel_rfl) S_26
          · intro w' hS'
            go_simp; exact ⟨rfl, rfl⟩
          (try simp only [Act.put]); (try simp only [List.setIfInBounds_toArray]); (try simp only [List.set])
          have c0 : Y26.cell? ⟨Y1.heap.size, 0, none⟩ = some (.slice none 0 0) := k9_26.cell 0
          have c1 : Y26.cell? ⟨Y1.heap.size, 1, none⟩ = some (.slice none 0 0) := k9_26.cell 1
          have cf0 := k9_26.frozen 0
          have cf1 := k9_26.frozen 1
          refine wpAnyN_runL 10 (by kernel_rfl) rfl (by kernel_rfl) (fun K hK => ?_)
          go_simp
          have hfin := mine_fin S_26 k9_26 m9 oA_26 own26
          refine hK _ _ (fun _ => hfin.1) ?_
          clear hK K
          (try simp only [Act.put]); (try simp only [List.setIfInBounds_toArray]); (try simp only [List.set])
          refine wpAnyN_done (by kernel_rfl) ?_ _
          clear c0 c1 cf0 cf1
          (try go_wp2)
          go_meet
          case rel => exact ⟨_, XA, YA, xc, yc, rfl, Lib.hid hfin⟩
    · go_simp
      obtain ⟨Y27, hY27⟩ : ∃ Y27, Y27 = w1d.alloc (.cells #[] 71) := ⟨_, rfl⟩
      rw [← hY27]
      have b27 : Below w1d.heap.size w1d Y27 := by rw [hY27]; exact (Below.refl _ _).alloc (Nat.le_refl _) _
      have S_27 : Below w1.heap.size w1 Y27 := S0.trans (b27.mono S0.size)
      have o4_27 : Y27.ownsRow w1.heap.size 71 2 (.slice (some ⟨w1d.heap.size, 0, none⟩) 0 0) 0 [] := by rw [hY27]; exact own_empty (heap_alloc_new _ _) S0.size
      clear hY27 b27
      refine hK _ _ (fun _ => S_27) ?_
      clear hK K
      (try simp only [Act.put]); (try simp only [List.setIfInBounds_toArray]); (try simp only [List.set])
      refine wpAnyN_two 0 9 (by kernel_rfl) rfl (by kernel_rfl) rfl (by kernel_rfl) (fun K hK => ?_) (fun K hK => ?_)
      · go_simp
        obtain ⟨Y28, hY28⟩ : ∃ Y28, Y28 = Y27.alloc (.cells #[] 69) := ⟨_, rfl⟩
        rw [← hY28]
        have b28 : Below Y27.heap.size Y27 Y28 := by rw [hY28]; exact (Below.refl _ _).alloc (Nat.le_refl _) _
        have S_28 : Below w1.heap.size w1 Y28 := S_27.trans (b28.mono S_27.size)
        have o4_28 := own_below o4_27 b28
        have o0_28 : Y28.ownsRow w1.heap.size 69 3 (.slice (some ⟨Y27.heap.size, 0, none⟩) 0 0) 0 [] := by rw [hY28]; exact own_empty (heap_alloc_new _ _) S_27.size
        clear hY28 b28
        refine hK _ _ (fun _ => S_28) ?_
        clear hK K
        (try simp only [Act.put]); (try simp only [List.setIfInBounds_toArray]); (try simp only [List.set])
        refine wpAnyN_two 3 9 (by kernel_rfl) rfl (by kernel_rfl) rfl (by kernel_rfl) (fun K hK => ?_) (fun K hK => ?_)
        · refine wp_app Y28 matE rfl rfl o0_28 rfl (HRm.out Y28 S_28) HOm.out (by omega) S_28.size ?_
          intro v29 Y29 own29 hg29 hb29 hx29
          rw [Nat.zero_add, List.nil_append] at own29
          obtain ⟨XA, xc, rfl, -⟩ := own_form own29
          have S_29 : Below w1.heap.size w1 Y29 := S_28.trans hb29
          have o4_29 := own_grownD o4_28 o0_28 (by decide) hg29
          clear hg29 hb29 hx29
          refine hK _ _ (fun _ => S_29) ?_
          clear hK K
          (try simp only [Act.put]); (try simp only [List.setIfInBounds_toArray]); (try simp only [List.set])
          refine wpAnyN_two 7 9 (by kernel_rfl) rfl (by kernel_rfl) rfl (by kernel_rfl) (fun K hK => ?_) (fun K hK => ?_)
          · refine wp_app Y29 filE rfl rfl o4_29 rfl (HRf.out Y29 S_29) HOf.out (by omega) S_29.size ?_
            intro v30 Y30 own30 hg30 hb30 hx30
            rw [Nat.zero_add, List.nil_append] at own30
            obtain ⟨YA, yc, rfl, -⟩ := own_form own30
            have S_30 : Below w1.heap.size w1 Y30 := S_29.trans hb30
            have oA_30 := own_grownD own29 o4_29 (by decide) hg30
            clear hg30 hb30 hx30
            refine hK _ _ (fun _ => S_30) ?_
            clear hK K
            (try simp only [Act.put]); (try simp only [List.setIfInBounds_toArray]); (try simp only [List.set])
            apply wpAnyN_takeL 8 (by kernel_rfl) rfl (fun _ _ _ h => h) (by kernel_rfl) S_30
            · intro w' hS'
              go_simp; exact ⟨rfl, rfl⟩
            (try simp only [Act.put]); (try simp only [List.setIfInBounds_toArray]); (try simp only [List.set])
            refine wpAnyN_runL 9 (by kernel_rfl) rfl (by kernel_rfl) (fun K hK => ?_)
            go_simp
            obtain ⟨Y31, hY31⟩ : ∃ Y31, Y31 = Y30.alloc (.cells #[.slice none 0 0, .slice none 0 0] 25) := ⟨_, rfl⟩
            rw [← hY31]
            have b31 : Below Y30.heap.size Y30 Y31 := by rw [hY31]; exact (Below.refl _ _).alloc (Nat.le_refl _) _
            have S_31 : Below w1.heap.size w1 Y31 := S_30.trans (b31.mono S_30.size)
            have oA_31 := own_below oA_30 b31
            have oB_31 := own_below own30 b31
            have k9_31 : Blk Y31 Y30.heap.size 25 [.slice none 0 0, .slice none 0 0] := by rw [hY31]; exact Blk.new Y30 _ _
            have m9 : w1.heap.size ≤ Y30.heap.size := S_30.size
            clear hY31 b31
            refine hK _ _ (fun _ => S_31) ?_
            clear hK K
            (try simp only [Act.put]); (try simp only [List.setIfInBounds_toArray]); (try simp only [List.set])
            have c0 : Y31.cell? ⟨Y30.heap.size, 0, none⟩ = some (.slice none 0 0) := k9_31.cell 0
            have c1 : Y31.cell? ⟨Y30.heap.size, 1, none⟩ = some (.slice none 0 0) := k9_31.cell 1
            have cf0 := k9_31.frozen 0
            have cf1 := k9_31.frozen 1
            refine wpAnyN_runL 10 (by kernel_rfl) rfl (by kernel_rfl) (fun K hK => ?_)
            go_simp
            have hfin := mine_fin S_31 k9_31 m9 oA_31 oB_31
            refine hK _ _ (fun _ => hfin.1) ?_
            clear hK K
            (try simp only [Act.put]); (try simp only [List.setIfInBounds_toArray]); (try simp only [List.set])
            refine wpAnyN_done (by kernel_rfl) ?_ _
            clear c0 c1 cf0 cf1
            (try go_wp2)
            go_meet
            case rel => exact ⟨_, XA, YA, xc, yc, rfl, Lib.hid hfin⟩
          · go_simp
            obtain ⟨Y32, hY32⟩ : ∃ Y32, Y32 = Y29.alloc (.cells #[.slice none 0 0, .slice none 0 0] 25) := ⟨_, rfl⟩
            rw [← hY32]
            have b32 : Below Y29.heap.size Y29 Y32 := by rw [hY32]; exact (Below.refl _ _).alloc (Nat.le_refl _) _
            have S_32 : Below w1.heap.size w1 Y32 := S_29.trans (b32.mono S_29.size)
            have oA_32 := own_below own29 b32
            have o4_32 := own_below o4_29 b32
            have k9_32 : Blk Y32 Y29.heap.size 25 [.slice none 0 0, .slice none 0 0] := by rw [hY32]; exact Blk.new Y29 _ _
            have m9 : w1.heap.size ≤ Y29.heap.size := S_29.size
            clear hY32 b32
            refine hK _ _ (fun _ => S_32) ?_
            clear hK K
            (try simp only [Act.put]); (try simp only [List.setIfInBounds_toArray]); (try simp only [List.set])
            refine wpAnyN_runL 7 (by kernel_rfl) rfl (by kernel_rfl) (fun K hK => ?_)
            refine wp_app Y32 filE rfl rfl o4_32 rfl (HRf.out Y32 S_32) HOf.out (by omega) S_32.size ?_
            intro v33 Y33 own33 hg33 hb33 hx33
            rw [Nat.zero_add, List.nil_append] at own33
            obtain ⟨YA, yc, rfl, -⟩ := own_form own33
            have S_33 : Below w1.heap.size w1 Y33 := S_32.trans hb33
            have oA_33 := own_grownD oA_32 o4_32 (by decide) hg33
            have k9_33 := k9_32.appq o4_32 (by decide) hg33
            clear hg33 hb33 hx33
            refine hK _ _ (fun _ => S_33) ?_
            clear hK K
            (try simp only [Act.put]); (try simp only [List.setIfInBounds_toArray]); (try simp only [List.set])
            apply wpAnyN_takeL 8 (by kernel_rfl) rfl (fun _ _ _ h => h) (by kernel_rfl) S_33
            · intro w' hS'
              go_simp; exact ⟨rfl, rfl⟩
            (try simp only [Act.put]); (try simp only [List.setIfInBounds_toArray]); (try simp only [List.set])
            have c0 : Y33.cell? ⟨Y29.heap.size, 0, none⟩ = some (.slice none 0 0) := k9_33.cell 0
            have c1 : Y33.cell? ⟨Y29.heap.size, 1, none⟩ = some (.slice none 0 0) := k9_33.cell 1
            have cf0 := k9_33.frozen 0
            have cf1 := k9_33.frozen 1
            refine wpAnyN_runL 10 (by kernel_rfl) rfl (by kernel_rfl) (fun K hK => ?_)
            go_simp
            have hfin := mine_fin S_33 k9_33 m9 oA_33 own33
            refine hK _ _ (fun _ => hfin.1) ?_
            clear hK K
            (try simp only [Act.put]); (try simp only [List.setIfInBounds_toArray]); (try simp only [List.set])
            refine wpAnyN_done (by kernel_rfl) ?_ _
            clear c0 c1 cf0 cf1
            (try go_wp2)
            go_meet
            case rel => exact ⟨_, XA, YA, xc, yc, rfl, Lib.hid hfin⟩
        · go_simp
          obtain ⟨Y34, hY34⟩ : ∃ Y34, Y34 = Y28.alloc (.cells #[.slice none 0 0, .slice none 0 0] 25) := ⟨_, rfl⟩
          rw [← hY34]
          have b34 : Below Y28.heap.size Y28 Y34 := by rw [hY34]; exact (Below.refl _ _).alloc (Nat.le_refl _) _
          have S_34 : Below w1.heap.size w1 Y34 := S_28.trans (b34.mono S_28.size)
          have o0_34 := own_below o0_28 b34
          have o4_34 := own_below o4_28 b34
          have k9_34 : Blk Y34 Y28.heap.size 25 [.slice none 0 0, .slice none 0 0] := by rw [hY34]; exact Blk.new Y28 _ _
          have m9 : w1.heap.size ≤ Y28.heap.size := S_28.size
          clear hY34 b34
          refine hK _ _ (fun _ => S_34) ?_
          clear hK K
          (try simp only [Act.put]); (try simp only [List.setIfInBounds_toArray]); (try simp only [List.set])
          refine wpAnyN_runL 3 (by kernel_rfl) rfl (by kernel_rfl) (fun K hK => ?_)
          refine wp_app Y34 matE rfl rfl o0_34 rfl (HRm.out Y34 S_34) HOm.out (by omega) S_34.size ?_
          intro v35 Y35 own35 hg35 hb35 hx35
          rw [Nat.zero_add, List.nil_append] at own35
          obtain ⟨XA, xc, rfl, -⟩ := own_form own35
          have S_35 : Below w1.heap.size w1 Y35 := S_34.trans hb35
          have o4_35 := own_grownD o4_34 o0_34 (by decide) hg35
          have k9_35 := k9_34.appq o0_34 (by decide) hg35
          clear hg35 hb35 hx35
          refine hK _ _ (fun _ => S_35) ?_
          clear hK K
          (try simp only [Act.put]); (try simp only [List.setIfInBounds_toArray]); (try simp only [List.set])
          refine wpAnyN_runL 7 (by kernel_rfl) rfl (by kernel_rfl) (fun K hK => ?_)
          refine wp_app Y35 filE rfl rfl o4_35 rfl (HRf.out Y35 S_35) HOf.out (by omega) S_35.size ?_
          intro v36 Y36 own36 hg36 hb36 hx36
          rw [Nat.zero_add, List.nil_append] at own36
          obtain ⟨YA, yc, rfl, -⟩ := own_form own36
          have S_36 : Below w1.heap.size w1 Y36 := S_35.trans hb36
          have oA_36 := own_grownD own35 o4_35 (by decide) hg36
          have k9_36 := k9_35.appq o4_35 (by decide) hg36
          clear hg36 hb36 hx36
          refine hK _ _ (fun _ => S_36) ?_
          clear hK K
          (try simp only [Act.put]); (try simp only [List.setIfInBounds_toArray]); (try simp only [List.set])
          apply wpAnyN_takeL 8 (by kernel_rfl) rfl (fun _ _ _ h => h) (by kernel_rfl) S_36
          · intro w' hS'
            go_simp; exact ⟨rfl, rfl⟩
          (try simp only [Act.put]); (try simp only [List.setIfInBounds_toArray]); (try simp only [List.set])
          have c0 : Y36.cell? ⟨Y28.heap.size, 0, none⟩ = some (.slice none 0 0) := k9_36.cell 0
          have c1 : Y36.cell? ⟨Y28.heap.size, 1, none⟩ = some (.slice none 0 0) := k9_36.cell 1
          have cf0 := k9_36.frozen 0
          have cf1 := k9_36.frozen 1
          refine wpAnyN_runL 10 (by kernel_rfl) rfl (by kernel_rfl) (fun K hK => ?_)
          go_simp
          have hfin := mine_fin S_36 k9_36 m9 oA_36 own36
          refine hK _ _ (fun _ => hfin.1) ?_
          clear hK K
          (try simp only [Act.put]); (try simp only [List.setIfInBounds_toArray]); (try simp only [List.set])
          refine wpAnyN_done (by kernel_rfl) ?_ _
          clear c0 c1 cf0 cf1
          (try go_wp2)
          go_meet
          case rel => exact ⟨_, XA, YA, xc, yc, rfl, Lib.hid hfin⟩
      · go_simp
        obtain ⟨Y37, hY37⟩ : ∃ Y37, Y37 = Y27.alloc (.cells #[.slice none 0 0, .slice none 0 0] 25) := ⟨_, rfl⟩
        rw [← hY37]
        have b37 : Below Y27.heap.size Y27 Y37 := by rw [hY37]; exact (Below.refl _ _).alloc (Nat.le_refl _) _
        have S_37 : Below w1.heap.size w1 Y37 := S_27.trans (b37.mono S_27.size)
        have o4_37 := own_below o4_27 b37
        have k9_37 : Blk Y37 Y27.heap.size 25 [.slice none 0 0, .slice none 0 0] := by rw [hY37]; exact Blk.new Y27 _ _
        have m9 : w1.heap.size ≤ Y27.heap.size := S_27.size
        clear hY37 b37
        refine hK _ _ (fun _ => S_37) ?_
        clear hK K
        (try simp only [Act.put]); (try simp only [List.setIfInBounds_toArray]); (try simp only [List.set])
        refine wpAnyN_runL 0 (by kernel_rfl) rfl (by kernel_rfl) (fun K hK => ?_)
        go_simp
        obtain ⟨Y38, hY38⟩ : ∃ Y38, Y38 = Y37.alloc (.cells #[] 69) := ⟨_, rfl⟩
        rw [← hY38]
        have b38 : Below Y37.heap.size Y37 Y38 := by rw [hY38]; exact (Below.refl _ _).alloc (Nat.le_refl _) _
        have S_38 : Below w1.heap.size w1 Y38 := S_37.trans (b38.mono S_37.size)
        have o4_38 := own_below o4_37 b38
        have k9_38 := k9_37.below b38 k9_37.lt
        have o0_38 : Y38.ownsRow w1.heap.size 69 3 (.slice (some ⟨Y37.heap.size, 0, none⟩) 0 0) 0 [] := by rw [hY38]; exact own_empty (heap_alloc_new _ _) S_37.size
        clear hY38 b38
        refine hK _ _ (fun _ => S_38) ?_
        clear hK K
        (try simp only [Act.put]); (try simp only [List.setIfInBounds_toArray]); (try simp only [List.set])
        refine wpAnyN_runL 3 (by kernel_rfl) rfl (by kernel_rfl) (fun K hK => ?_)
        refine wp_app Y38 matE rfl rfl o0_38 rfl (HRm.out Y38 S_38) HOm.out (by omega) S_38.size ?_
        intro v39 Y39 own39 hg39 hb39 hx39
        rw [Nat.zero_add, List.nil_append] at own39
        obtain ⟨XA, xc, rfl, -⟩ := own_form own39
        have S_39 : Below w1.heap.size w1 Y39 := S_38.trans hb39
        have o4_39 := own_grownD o4_38 o0_38 (by decide) hg39
        have k9_39 := k9_38.appq o0_38 (by decide) hg39
        clear hg39 hb39 hx39
        refine hK _ _ (fun _ => S_39) ?_
        clear hK K
        (try simp only [Act.put]); (try simp only [List.setIfInBounds_toArray]); (try simp only [List.set])
        refine wpAnyN_runL 7 (by kernel_rfl) rfl (by kernel_rfl) (fun K hK => ?_)
        refine wp_app Y39 filE rfl rfl o4_39 rfl (HRf.out Y39 S_39) HOf.out (by omega) S_39.size ?_
        intro v40 Y40 own40 hg40 hb40 hx40
        rw [Nat.zero_add, List.nil_append] at own40
        obtain ⟨YA, yc, rfl, -⟩ := own_form own40
        have S_40 : Below w1.heap.size w1 Y40 := S_39.trans hb40
        have oA_40 := own_grownD own39 o4_39 (by decide) hg40
        have k9_40 := k9_39.appq o4_39 (by decide) hg40
        clear hg40 hb40 hx40
        refine hK _ _ (fun _ => S_40) ?_
        clear hK K
        (try simp only [Act.put]); (try simp only [List.setIfInBounds_toArray]); (try simp only [List.set])
        apply wpAnyN_takeL 8 (by kernel_rfl) rfl (fun _ _ _ h => h) (by kernel_rfl) S_40
        · intro w' hS'
          go_simp; exact ⟨rfl, rfl⟩
        (try simp only [Act.put]); (try simp only [List.setIfInBounds_toArray]); (try simp only [List.set])
        have c0 : Y40.cell? ⟨Y27.heap.size, 0, none⟩ = some (.slice none 0 0) := k9_40.cell 0
        have c1 : Y40.cell? ⟨Y27.heap.size, 1, none⟩ = some (.slice none 0 0) := k9_40.cell 1
        have cf0 := k9_40.frozen 0
        have cf1 := k9_40.frozen 1
        refine wpAnyN_runL 10 (by kernel_rfl) rfl (by kernel_rfl) (fun K hK => ?_)
        go_simp
        have hfin := mine_fin S_40 k9_40 m9 oA_40 own40
        refine hK _ _ (fun _ => hfin.1) ?_
        clear hK K
        (try simp only [Act.put]); (try simp only [List.setIfInBounds_toArray]); (try simp only [List.set])
        refine wpAnyN_done (by kernel_rfl) ?_ _
        clear c0 c1 cf0 cf1
        (try go_wp2)
        go_meet
        case rel => exact ⟨_, XA, YA, xc, yc, rfl, Lib.hid hfin⟩
    · go_simp
      obtain ⟨Y41, hY41⟩ : ∃ Y41, Y41 = w1d.alloc (.cells #[.slice none 0 0, .slice none 0 0] 25) := ⟨_, rfl⟩
      rw [← hY41]
      have b41 : Below w1d.heap.size w1d Y41 := by rw [hY41]; exact (Below.refl _ _).alloc (Nat.le_refl _) _
      have S_41 : Below w1.heap.size w1 Y41 := S0.trans (b41.mono S0.size)
      have k9_41 : Blk Y41 w1d.heap.size 25 [.slice none 0 0, .slice none 0 0] := by rw [hY41]; exact Blk.new w1d _ _
      have m9 : w1.heap.size ≤ w1d.heap.size := S0.size
      clear hY41 b41
      refine hK _ _ (fun _ => S_41) ?_
      clear hK K
      (try simp only [Act.put]); (try simp only [List.setIfInBounds_toArray]); (try simp only [List.set])
      refine wpAnyN_two 0 4 (by kernel_rfl) rfl (by kernel_rfl) rfl (by kernel_rfl) (fun K hK => ?_) (fun K hK => ?_)
      · go_simp
        obtain ⟨Y42, hY42⟩ : ∃ Y42, Y42 = Y41.alloc (.cells #[] 69) := ⟨_, rfl⟩
        rw [← hY42]
        have b42 : Below Y41.heap.size Y41 Y42 := by rw [hY42]; exact (Below.refl _ _).alloc (Nat.le_refl _) _
        have S_42 : Below w1.heap.size w1 Y42 := S_41.trans (b42.mono S_41.size)
        have k9_42 := k9_41.below b42 k9_41.lt
        have o0_42 : Y42.ownsRow w1.heap.size 69 3 (.slice (some ⟨Y41.heap.size, 0, none⟩) 0 0) 0 [] := by rw [hY42]; exact own_empty (heap_alloc_new _ _) S_41.size
        clear hY42 b42
        refine hK _ _ (fun _ => S_42) ?_
        clear hK K
        (try simp only [Act.put]); (try simp only [List.setIfInBounds_toArray]); (try simp only [List.set])
        refine wpAnyN_two 3 4 (by kernel_rfl) rfl (by kernel_rfl) rfl (by kernel_rfl) (fun K hK => ?_) (fun K hK => ?_)
        · refine wp_app Y42 matE rfl rfl o0_42 rfl (HRm.out Y42 S_42) HOm.out (by omega) S_42.size ?_
          intro v43 Y43 own43 hg43 hb43 hx43
          rw [Nat.zero_add, List.nil_append] at own43
          obtain ⟨XA, xc, rfl, -⟩ := own_form own43
          have S_43 : Below w1.heap.size w1 Y43 := S_42.trans hb43
          have k9_43 := k9_42.appq o0_42 (by decide) hg43
          clear hg43 hb43 hx43
          refine hK _ _ (fun _ => S_43) ?_
          clear hK K
          (try simp only [Act.put]); (try simp only [List.setIfInBounds_toArray]); (try simp only [List.set])
          refine wpAnyN_runL 4 (by kernel_rfl) rfl (by kernel_rfl) (fun K hK => ?_)
          go_simp
          obtain ⟨Y44, hY44⟩ : ∃ Y44, Y44 = Y43.alloc (.cells #[] 71) := ⟨_, rfl⟩
          rw [← hY44]
          have b44 : Below Y43.heap.size Y43 Y44 := by rw [hY44]; exact (Below.refl _ _).alloc (Nat.le_refl _) _
          have S_44 : Below w1.heap.size w1 Y44 := S_43.trans (b44.mono S_43.size)
          have oA_44 := own_below own43 b44
          have k9_44 := k9_43.below b44 k9_43.lt
          have o4_44 : Y44.ownsRow w1.heap.size 71 2 (.slice (some ⟨Y43.heap.size, 0, none⟩) 0 0) 0 [] := by rw [hY44]; exact own_empty (heap_alloc_new _ _) S_43.size
          clear hY44 b44
          refine hK _ _ (fun _ => S_44) ?_
          clear hK K
          (try simp only [Act.put]); (try simp only [List.setIfInBounds_toArray]); (try simp only [List.set])
          refine wpAnyN_runL 7 (by kernel_rfl) rfl (by kernel_rfl) (fun K hK => ?_)
          refine wp_app Y44 filE rfl rfl o4_44 rfl (HRf.out Y44 S_44) HOf.out (by omega) S_44.size ?_
          intro v45 Y45 own45 hg45 hb45 hx45
          rw [Nat.zero_add, List.nil_append] at own45
          obtain ⟨YA, yc, rfl, -⟩ := own_form own45
          have S_45 : Below w1.heap.size w1 Y45 := S_44.trans hb45
          have oA_45 := own_grownD oA_44 o4_44 (by decide) hg45
          have k9_45 := k9_44.appq o4_44 (by decide) hg45
          clear hg45 hb45 hx45
          refine hK _ _ (fun _ => S_45) ?_
          clear hK K
          (try simp only [Act.put]); (try simp only [List.setIfInBounds_toArray]); (try simp only [List.set])
          apply wpAnyN_takeL 8 (by kernel_rfl) rfl (fun _ _ _ h => h) (by kernel_rfl) S_45
          · intro w' hS'
            go_simp; exact ⟨rfl, rfl⟩
          (try simp only [Act.put]); (try simp only [List.setIfInBounds_toArray]); (try simp only [List.set])
          have c0 : Y45.cell? ⟨w1d.heap.size, 0, none⟩ = some (.slice none 0 0) := k9_45.cell 0
          have c1 : Y45.cell? ⟨w1d.heap.size, 1, none⟩ = some (.slice none 0 0) := k9_45.cell 1
          have cf0 := k9_45.frozen 0
          have cf1 := k9_45.frozen 1
          refine wpAnyN_runL 10 (by kernel_rfl) rfl (by kernel_rfl) (fun K hK => ?_)
          go_simp
          have hfin := mine_fin S_45 k9_45 m9 oA_45 own45
          refine hK _ _ (fun _ => hfin.1) ?_
          clear hK K
          (try simp only [Act.put]); (try simp only [List.setIfInBounds_toArray]); (try simp only [List.set])
          refine wpAnyN_done (by kernel_rfl) ?_ _
          clear c0 c1 cf0 cf1
          (try go_wp2)
          go_meet
          case rel => exact ⟨_, XA, YA, xc, yc, rfl, Lib.hid hfin⟩
        · go_simp
          obtain ⟨Y46, hY46⟩ : ∃ Y46, Y46 = Y42.alloc (.cells #[] 71) := ⟨_, rfl⟩
          rw [← hY46]
          have b46 : Below Y42.heap.size Y42 Y46 := by rw [hY46]; exact (Below.refl _ _).alloc (Nat.le_refl _) _
          have S_46 : Below w1.heap.size w1 Y46 := S_42.trans (b46.mono S_42.size)
          have o0_46 := own_below o0_42 b46
          have k9_46 := k9_42.below b46 k9_42.lt
          have o4_46 : Y46.ownsRow w1.heap.size 71 2 (.slice (some ⟨Y42.heap.size, 0, none⟩) 0 0) 0 [] := by rw [hY46]; exact own_empty (heap_alloc_new _ _) S_42.size
          clear hY46 b46
          refine hK _ _ (fun _ => S_46) ?_
          clear hK K
          (try simp only [Act.put]); (try simp only [List.setIfInBounds_toArray]); (try simp only [List.set])
          refine wpAnyN_runL 3 (by kernel_rfl) rfl (by kernel_rfl) (fun K hK => ?_)
          refine wp_app Y46 matE rfl rfl o0_46 rfl (HRm.out Y46 S_46) HOm.out (by omega) S_46.size ?_
          intro v47 Y47 own47 hg47 hb47 hx47
          rw [Nat.zero_add, List.nil_append] at own47
          obtain ⟨XA, xc, rfl, -⟩ := own_form own47
          have S_47 : Below w1.heap.size w1 Y47 := S_46.trans hb47
          have o4_47 := own_grownD o4_46 o0_46 (by decide) hg47
          have k9_47 := k9_46.appq o0_46 (by decide) hg47
          clear hg47 hb47 hx47
          refine hK _ _ (fun _ => S_47) ?_
          clear hK K
          (try simp only [Act.put]); (try simp only [List.setIfInBounds_toArray]); (try simp only [List.set])
          refine wpAnyN_runL 7 (by kernel_rfl) rfl (by kernel_rfl) (fun K hK => ?_)
          refine wp_app Y47 filE rfl rfl o4_47 rfl (HRf.out Y47 S_47) HOf.out (by omega) S_47.size ?_
          intro v48 Y48 own48 hg48 hb48 hx48
          rw [Nat.zero_add, List.nil_append] at own48
          obtain ⟨YA, yc, rfl, -⟩ := own_form own48
          have S_48 : Below w1.heap.size w1 Y48 := S_47.trans hb48
          have oA_48 := own_grownD own47 o4_47 (by decide) hg48
          have k9_48 := k9_47.appq o4_47 (by decide) hg48
          clear hg48 hb48 hx48
          refine hK _ _ (fun _ => S_48) ?_
          clear hK K
          (try simp only [Act.put]); (try simp only [List.setIfInBounds_toArray]); (try simp only [List.set])
          apply wpAnyN_takeL 8 (by kernel_rfl) rfl (fun _ _ _ h => h) (by kernel_rfl) S_48
          · intro w' hS'
            go_simp; exact ⟨rfl, rfl⟩
          (try simp only [Act.put]); (try simp only [List.setIfInBounds_toArray]); (try simp only [List.set])
          have c0 : Y48.cell? ⟨w1d.heap.size, 0, none⟩ = some (.slice none 0 0) := k9_48.cell 0
          have c1 : Y48.cell? ⟨w1d.heap.size, 1, none⟩ = some (.slice none 0 0) := k9_48.cell 1
          have cf0 := k9_48.frozen 0
          have cf1 := k9_48.frozen 1
          refine wpAnyN_runL 10 (by kernel_rfl) rfl (by kernel_rfl) (fun K hK => ?_)
          go_simp
          have hfin := mine_fin S_48 k9_48 m9 oA_48 own48
          refine hK _ _ (fun _ => hfin.1) ?_
          clear hK K
          (try simp only [Act.put]); (try simp only [List.setIfInBounds_toArray]); (try simp only [List.set])
          refine wpAnyN_done (by kernel_rfl) ?_ _
          clear c0 c1 cf0 cf1
          (try go_wp2)
          go_meet
          case rel => exact ⟨_, XA, YA, xc, yc, rfl, Lib.hid hfin⟩
      · go_simp
        obtain ⟨Y49, hY49⟩ : ∃ Y49, Y49 = Y41.alloc (.cells #[] 71) := ⟨_, rfl⟩
        rw [← hY49]
        have b49 : Below Y41.heap.size Y41 Y49 := by rw [hY49]; exact (Below.refl _ _).alloc (Nat.le_refl _) _
        have S_49 : Below w1.heap.size w1 Y49 := S_41.trans (b49.mono S_41.size)
        have k9_49 := k9_41.below b49 k9_41.lt
        have o4_49 : Y49.ownsRow w1.heap.size 71 2 (.slice (some ⟨Y41.heap.size, 0, none⟩) 0 0) 0 [] := by rw [hY49]; exact own_empty (heap_alloc_new _ _) S_41.size
        clear hY49 b49
        refine hK _ _ (fun _ => S_49) ?_
        clear hK K
        (try simp only [Act.put]); (try simp only [List.setIfInBounds_toArray]); (try simp only [List.set])
        refine wpAnyN_runL 0 (by kernel_rfl) rfl (by kernel_rfl) (fun K hK => ?_)
        go_simp
        obtain ⟨Y50, hY50⟩ : ∃ Y50, Y50 = Y49.alloc (.cells #[] 69) := ⟨_, rfl⟩
        rw [← hY50]
        have b50 : Below Y49.heap.size Y49 Y50 := by rw [hY50]; exact (Below.refl _ _).alloc (Nat.le_refl _) _
        have S_50 : Below w1.heap.size w1 Y50 := S_49.trans (b50.mono S_49.size)
        have o4_50 := own_below o4_49 b50
        have k9_50 := k9_49.below b50 k9_49.lt
        have o0_50 : Y50.ownsRow w1.heap.size 69 3 (.slice (some ⟨Y49.heap.size, 0, none⟩) 0 0) 0 [] := by rw [hY50]; exact own_empty (heap_alloc_new _ _) S_49.size
        clear hY50 b50
        refine hK _ _ (fun _ => S_50) ?_
        clear hK K
        (try simp only [Act.put]); (try simp only [List.setIfInBounds_toArray]); (try simp only [List.set])
        refine wpAnyN_runL 3 (by kernel_rfl) rfl (by kernel_rfl) (fun K hK => ?_)
        refine wp_app Y50 matE rfl rfl o0_50 rfl (HRm.out Y50 S_50) HOm.out (by omega) S_50.size ?_
        intro v51 Y51 own51 hg51 hb51 hx51
        rw [Nat.zero_add, List.nil_append] at own51
        obtain ⟨XA, xc, rfl, -⟩ := own_form own51
        have S_51 : Below w1.heap.size w1 Y51 := S_50.trans hb51
        have o4_51 := own_grownD o4_50 o0_50 (by decide) hg51
        have k9_51 := k9_50.appq o0_50 (by decide) hg51
        clear hg51 hb51 hx51
        refine hK _ _ (fun _ => S_51) ?_
        clear hK K
        (try simp only [Act.put]); (try simp only [List.setIfInBounds_toArray]); (try simp only [List.set])
        refine wpAnyN_runL 7 (by kernel_rfl) rfl (by kernel_rfl) (fun K hK => ?_)
        refine wp_app Y51 filE rfl rfl o4_51 rfl (HRf.out Y51 S_51) HOf.out (by omega) S_51.size ?_
        intro v52 Y52 own52 hg52 hb52 hx52
        rw [Nat.zero_add, List.nil_append] at own52
        obtain ⟨YA, yc, rfl, -⟩ := own_form own52
        have S_52 : Below w1.heap.size w1 Y52 := S_51.trans hb52
        have oA_52 := own_grownD own51 o4_51 (by decide) hg52
        have k9_52 := k9_51.appq o4_51 (by decide) hg52
        clear hg52 hb52 hx52
        refine hK _ _ (fun _ => S_52) ?_
        clear hK K
        (try simp only [Act.put]); (try simp only [List.setIfInBounds_toArray]); (try simp only [List.set])
        apply wpAnyN_takeL 8 (by kernel_rfl) rfl (fun _ _ _ h => h) (by kernel_rfl) S_52
        · intro w' hS'
          go_simp; exact ⟨rfl, rfl⟩
        (try simp only [Act.put]); (try simp only [List.setIfInBounds_toArray]); (try simp only [List.set])
        have c0 : Y52.cell? ⟨w1d.heap.size, 0, none⟩ = some (.slice none 0 0) := k9_52.cell 0
        have c1 : Y52.cell? ⟨w1d.heap.size, 1, none⟩ = some (.slice none 0 0) := k9_52.cell 1
        have cf0 := k9_52.frozen 0
        have cf1 := k9_52.frozen 1
        refine wpAnyN_runL 10 (by kernel_rfl) rfl (by kernel_rfl) (fun K hK => ?_)
        go_simp
        have hfin := mine_fin S_52 k9_52 m9 oA_52 own52
        refine hK _ _ (fun _ => hfin.1) ?_
        clear hK K
        (try simp only [Act.put]); (try simp only [List.setIfInBounds_toArray]); (try simp only [List.set])
        refine wpAnyN_done (by kernel_rfl) ?_ _
        clear c0 c1 cf0 cf1
        (try go_wp2)
        go_meet
        case rel => exact ⟨_, XA, YA, xc, yc, rfl, Lib.hid hfin⟩
  case rest =>
    obtain ⟨mb, XA, YA, xc, yc, rfl, HM⟩ := hcut
    obtain ⟨hbc, hm9, kmb, omr, ofr⟩ := HM.out
    have hwc := HW1.out.trans (hbc.mono HW1.out.size)
    have kqc := KQ1.out.below hbc KQ1.out.lt
    have krc := KR1.out.below hbc KR1.out.lt
    obtain ⟨ck, hck⟩ : ∃ ck, checkQ q = ck := ⟨_, rfl⟩
    have hqm : QueryAt wc XA nm YA nf q := ⟨.of_own omr, .of_own ofr, Hnm.out, Hnf.out, fun m hm => by have := HSm.out m hm; omega, fun f hf => by have := HSf.out f hf; omega⟩
    have hp := vQPrint q XA YA nm nf xc yc wc (HL.out.below hwc) hqm (by omega) (by omega) HSm.out HSf.out
    unfold QPrintO at hp
    rw [hck] at hp
    obtain ⟨PS, hPS⟩ : ∃ PS : ByteArray, PS = ⟨(if ck = 0 then printP q else []).toArray⟩ := ⟨_, rfl⟩
    rw [show str (if ck = 0 then printP q else []) = .string PS by rw [hPS] <;> rfl] at hp
    have x0 : wc.cell? ⟨mb, 0, none⟩ = some (.slice XA nm xc) := kmb.cell 0
    have x1 : wc.cell? ⟨mb, 1, none⟩ = some (.slice YA nf yc) := kmb.cell 1
    have HP := Lib.hid hp; have HPS := Lib.hid hPS; have Hck := Lib.hid hck; have HWc := Lib.hid hwc; have KQc := Lib.hid kqc; have KRc := Lib.hid krc; have KMc := Lib.hid kmb; have OMc := Lib.hid omr; have OFc := Lib.hid ofr; have Hm9 := Lib.hid hm9; have HQm := Lib.hid hqm
    have H1w : w.heap.size ≤ w1.heap.size := HW1.out.size
    have HH1 := Lib.hid H1w
    clear hp hPS hck hwc kqc krc kmb omr ofr hm9 hqm hbc H1w HM KQ1 KR1 HRm HRf HOm HOf HQc
    go_wp2_with fail
    refine HP.out.mono ?_
    rintro e w2 ⟨rfl, hb2⟩
    have hw2 := HWc.out.trans (hb2.mono HWc.out.size)
    have kq2 := KQc.out.below hb2 KQc.out.lt
    have kr2 := KRc.out.below hb2 KRc.out.lt
    have km2 := KMc.out.below hb2 KMc.out.lt
    have om2 := own_below OMc.out hb2
    have of2 := own_below OFc.out hb2
    have hqm2 := HQm.out.below hb2
    have hn := vQNew q XA YA nm nf xc yc w2 (HL.out.below hw2) hqm2 (by omega) (by omega)
    rw [Hck.out] at hn
    clear x0 x1
    have x0 : w2.cell? ⟨mb, 0, none⟩ = some (.slice XA nm xc) := km2.cell 0
    have x1 : w2.cell? ⟨mb, 1, none⟩ = some (.slice YA nf yc) := km2.cell 1
    have hxB : ∀ k, (Value.slice XA nm xc).ownBlock = some k → w.heap.size ≤ k ∧ k < w2.heap.size := fun k hk => ⟨Nat.le_trans HH1.out (om2.lt k hk).1, (om2.lt k hk).2⟩
    have hyB : ∀ k, (Value.slice YA nf yc).ownBlock = some k → w.heap.size ≤ k ∧ k < w2.heap.size := fun k hk => ⟨Nat.le_trans HH1.out (of2.lt k hk).1, (of2.lt k hk).2⟩
    have HN := Lib.hid hn; have HW2 := Lib.hid hw2; have KQ2 := Lib.hid kq2; have KR2 := Lib.hid kr2; have KM2 := Lib.hid km2; have OM2 := Lib.hid om2; have OF2 := Lib.hid of2; have HQm2 := Lib.hid hqm2; have HXB := Lib.hid hxB; have HYB := Lib.hid hyB
    clear hn hw2 kq2 kr2 km2 om2 of2 hqm2 hxB hyB hb2 HP HWc KQc KRc KMc OMc OFc HQm
    go_wp2_with fail
    refine HN.out.mono ?_
    rintro e w3 ⟨hb3, hc⟩
    have hw3 := HW2.out.trans (hb3.mono HW2.out.size)
    have kq3 := KQ2.out.below hb3 KQ2.out.lt
    have kr3 := KR2.out.below hb3 KR2.out.lt
    have km3 := KM2.out.below hb3 KM2.out.lt
    have om3 := own_below OM2.out hb3
    have of3 := own_below OF2.out hb3
    have hs := gSame q q XA YA MA FA nm nf xc yc nm nf cm cf w3 (HQm2.out.below hb3) (HQ.out.below hw3) (by omega) (by omega)
    clear x0 x1
    have x0 : w3.cell? ⟨mb, 0, none⟩ = some (.slice XA nm xc) := km3.cell 0
    have x1 : w3.cell? ⟨mb, 1, none⟩ = some (.slice YA nf yc) := km3.cell 1
    have y0 : w3.cell? ⟨w.heap.size, 0, none⟩ = some (.slice MA nm cm) := kq3.cell 0
    have y1 : w3.cell? ⟨w.heap.size, 1, none⟩ = some (.slice FA nf cf) := kq3.cell 1
    have HS := Lib.hid hs; have HW3 := Lib.hid hw3; have KQ3 := Lib.hid kq3; have KR3 := Lib.hid kr3; have KM3 := Lib.hid km3; have OM3 := Lib.hid om3; have OF3 := Lib.hid of3
    clear hs hw3 kq3 kr3 km3 om3 of3 hb3 HN HW2 KQ2 KR2 KM2 OM2 OF2 HQm2
    have zkk : ((ck : Int) != (ck : Int)) = false := by simp
    rcases hc with ⟨hck0, g, v1, v2, P, Q, pv, rfl, hF, hpl⟩ | ⟨hne, rfl⟩
    · subst hck0
      have HF : Hid (FilAt w2.heap.size w3 g q) := Lib.hid ⟨v1, v2, P, Q, pv, hF, hpl⟩
      clear hF hpl
      have hPS2 := HPS.out
      rw [if_pos rfl] at hPS2
      have HPS2 := Lib.hid hPS2
      clear hPS2 HPS
      go_wp2_with fail
      refine HS.out.mono ?_
      rintro e w4 hO
      obtain ⟨b, rfl, hb, hb4⟩ := hO
      obtain rfl : b = true := hb.2 rfl
      have hB4 : BkS w w1 w4 w2.heap.size g mb nm nf q (.slice MA nm cm) (.slice FA nf cf) [.int .i64 tv, .int .u64 sv, .slice LA ln lc, .string R] XA YA xc yc (q.ms.flatMap MatP.cells) (q.fs.flatMap FilP.cells) := (BkS.mk HW3.out HF.out KQ3.out KR3.out KM3.out OM3.out OF3.out).below hb4
      have h16 := (check_zero Hck.out).1
      obtain ⟨AN, hAN⟩ : ∃ AN, holdsQ q r = AN := ⟨_, rfl⟩
      have hho : ∀ (wx : World), Below w.heap.size w wx → FilAt w2.heap.size wx g q → Calls Tryz.prog 23 #[.pointer (some ⟨g, 0, none⟩), .agg #[.int .i64 tv, .int .u64 sv, .slice LA ln lc, .string R]] wx fun e w' => e = .returned (.bool AN) ∧ Below wx.heap.size wx w' := fun wx h1 h2 => by
        have h := vQHolds q r w2.heap.size g LA ln lc tv sv wx (HL.out.below h1) h2 (by omega) (by omega) ((HRr.out.below h1).more h1.size) Hln.out hl2 Hline.out
        rw [hAN, show strB r.line = .string R from HeR.out] at h
        exact h
      have r0 : w4.cell? ⟨w.heap.size + 1, 0, none⟩ = some (.int .i64 tv) := hB4.kr.cell 0
      have r1 : w4.cell? ⟨w.heap.size + 1, 1, none⟩ = some (.int .u64 sv) := hB4.kr.cell 1
      have r2 : w4.cell? ⟨w.heap.size + 1, 2, none⟩ = some (.slice LA ln lc) := hB4.kr.cell 2
      have r3 : w4.cell? ⟨w.heap.size + 1, 3, none⟩ = some (.string R) := hB4.kr.cell 3
      have HB4 := Lib.hid hB4; have HHo := Lib.hid hho; have H16 := Lib.hid h16
      clear hB4 hho h16 hAN hb hb4 x0 x1 y0 y1 HS HW3 HF KQ3 KR3 KM3 OM3 OF3 zkk
      go_wp2_with fail
      refine (HHo.out w4 HB4.out.be HB4.out.fa).mono ?_
      rintro e w5 ⟨rfl, hb5⟩
      have HB5 := Lib.hid (HB4.out.below hb5)
      clear hb5 r0 r1 r2 r3 HB4
      go_wp2
      go_loopw [13] (fun i wr => ∃ (j : Nat) (xs : List Value), j ≤ nm ∧ i = .int .i64 j ∧ Hid (BkS w w1 wr w2.heap.size g mb nm nf q (.slice MA nm cm) (.slice FA nf cf) [.int .i64 tv, .int .u64 sv, .slice LA ln lc, .string R] XA YA xc yc xs (q.fs.flatMap FilP.cells))) (fun i _ => nm - (intOf i).toNat)
      case atStart => exact ⟨0, _, Nat.zero_le _, rfl, HB5⟩
      case round =>
        clear HB5
        obtain ⟨j, xs, hj, rfl, HB⟩ := hrel
        obtain ⟨wo, rfl⟩ : ∃ wo : World, wo = wr := ⟨_, rfl⟩
        have wk1 : IntKind.i64.wrap ((j : Int) + 1) = ((j + 1 : Nat) : Int) := by rw [IntKind.wrap_i64]; omega
        have x0 : wo.cell? ⟨mb, 0, none⟩ = some (.slice XA nm xc) := HB.out.km.cell 0
        by_cases hlt : j < nm
        · have z1 : (j : Int) < (nm : Int) := by omega
          obtain ⟨xb, rfl, -, -, -, -, hcell⟩ := own_at HB.out.om (by omega)
          have hxl : xs.length = nm * 3 := HB.out.om.1
          obtain ⟨u0, hu0⟩ : ∃ u0, xs[j * 3]? = some u0 := ⟨_, List.getElem?_eq_getElem (by omega)⟩
          obtain ⟨u1, hu1⟩ : ∃ u1, xs[j * 3 + 1]? = some u1 := ⟨_, List.getElem?_eq_getElem (by omega)⟩
          obtain ⟨u2, hu2⟩ : ∃ u2, xs[j * 3 + 2]? = some u2 := ⟨_, List.getElem?_eq_getElem (by omega)⟩
          have c0 : wo.cell? ⟨xb, j * 3, none⟩ = some u0 := by rw [hcell (j * 3) (by omega), hu0]
          have c1 : wo.cell? ⟨xb, j * 3 + 1, none⟩ = some u1 := by rw [hcell (j * 3 + 1) (by omega), hu1]
          have c2 : wo.cell? ⟨xb, j * 3 + 2, none⟩ = some u2 := by rw [hcell (j * 3 + 2) (by omega), hu2]
          have f0 := HB.out.om.frozenAt (j * 3)
          have f1 := HB.out.om.frozenAt (j * 3 + 1)
          have f2 := HB.out.om.frozenAt (j * 3 + 2)
          obtain ⟨hx1, hx2⟩ := HXB.out xb rfl
          have hsp2 := fun a b c u1 u2 u3 => HB.out.spoilM (a := a) (b := b) (c := c) (u1 := u1) (u2 := u2) (u3 := u3) hx2 hx1
          have HSp := Lib.hid hsp2
          clear hsp2 hx1 hx2 hcell hxl hu0 hu1 hu2
          go_wp2
          go_roundw
          case rel => exact ⟨j + 1, _, by omega, by first | rfl | go_num, Lib.hid (HSp.out _ _ _ _ _ _)⟩
          case measure => simp [intOf]; omega
        · obtain rfl : j = nm := by omega
          have z1 : ¬ (j : Int) < (j : Int) := by omega
          have HB0 := HB
          go_wp2
          clear x0
          go_loopw [14] (fun i wr => ∃ (k : Nat) (ys : List Value), k ≤ nf ∧ i = .int .i64 k ∧ Hid (BkS w w1 wr w2.heap.size g mb j nf q (.slice MA j cm) (.slice FA nf cf) [.int .i64 tv, .int .u64 sv, .slice LA ln lc, .string R] XA YA xc yc xs ys)) (fun i _ => nf - (intOf i).toNat)
          case atStart => exact ⟨0, _, Nat.zero_le _, rfl, HB0⟩
          case round =>
            clear HB HB0 z1 wk1
            obtain ⟨k, ys, hk, rfl, HB⟩ := hrel
            obtain ⟨wo, rfl⟩ : ∃ wo : World, wo = wr := ⟨_, rfl⟩
            have wk1 : IntKind.i64.wrap ((k : Int) + 1) = ((k + 1 : Nat) : Int) := by rw [IntKind.wrap_i64]; omega
            have x1 : wo.cell? ⟨mb, 1, none⟩ = some (.slice YA nf yc) := HB.out.km.cell 1
            by_cases hlt2 : k < nf
            · have z1 : (k : Int) < (nf : Int) := by omega
              obtain ⟨xb, rfl, -, -, -, -, hcell⟩ := own_at HB.out.of_ (by omega)
              have hxl : ys.length = nf * 2 := HB.out.of_.1
              obtain ⟨u0, hu0⟩ : ∃ u0, ys[k * 2]? = some u0 := ⟨_, List.getElem?_eq_getElem (by omega)⟩
              obtain ⟨u1, hu1⟩ : ∃ u1, ys[k * 2 + 1]? = some u1 := ⟨_, List.getElem?_eq_getElem (by omega)⟩
              have c0 : wo.cell? ⟨xb, k * 2, none⟩ = some u0 := by rw [hcell (k * 2) (by omega), hu0]
              have c1 : wo.cell? ⟨xb, k * 2 + 1, none⟩ = some u1 := by rw [hcell (k * 2 + 1) (by omega), hu1]
              have f0 := HB.out.of_.frozenAt (k * 2)
              have f1 := HB.out.of_.frozenAt (k * 2 + 1)
              obtain ⟨hx1, hx2⟩ := HYB.out xb rfl
              have hsp2 := fun a b u1 u2 => HB.out.spoilF (a := a) (b := b) (u1 := u1) (u2 := u2) hx2 hx1
              have HSp := Lib.hid hsp2
              clear hsp2 hx1 hx2 hcell hxl hu0 hu1
              go_wp2
              go_roundw
              case rel => exact ⟨k + 1, _, by omega, by first | rfl | go_num, Lib.hid (HSp.out _ _ _ _)⟩
              case measure => simp [intOf]; omega
            · obtain rfl : k = nf := by omega
              have z1 : ¬ (k : Int) < (k : Int) := by omega
              obtain ⟨Z, hZ⟩ : ∃ Z, (printP q).length = Z := ⟨_, rfl⟩
              have hZ2 : Z ≤ 2000000000 := by have h := H16.out; rw [← hZ]; exact print_len (by omega) (by omega) HSm.out HSf.out
              have zPS : PS.size = Z := by rw [HPS2.out, str_size, hZ]
              have hpz := parse_back Hck.out 0 0
              rw [List.replicate_zero, List.nil_append, List.append_nil, Nat.zero_add, Nat.add_zero, hZ] at hpz
              have hpv := vQParse (printP q) wo (HL.out.below HB.out.be) (by omega)
              rw [show str (printP q) = .string PS by rw [HPS2.out] <;> rfl] at hpv
              have HPv := Lib.hid hpv; have HPz := Lib.hid hpz; have HZ := Lib.hid hZ
              clear hpv hpz hZ
              go_wp2_with fail
              refine HPv.out.mono ?_
              rintro e w6 ⟨V1, V2, qp, kp, rfl, hb6, o1, o2, sm, sf, hct, hce⟩
              clear x1
              have hB6 := HB.out.below hb6
              obtain ⟨np, hnp⟩ : ∃ np, qp.ms.length = np := ⟨_, rfl⟩
              obtain ⟨mp, hmp⟩ : ∃ mp, qp.fs.length = mp := ⟨_, rfl⟩
              rw [hnp] at o1
              rw [hmp] at o2
              obtain ⟨PA, pc, rfl, -⟩ := own_form o1
              obtain ⟨PF, pfc, rfl, -⟩ := own_form o2
              obtain ⟨X2, hX2⟩ : ∃ X2, X2 = w6.alloc (.cells #[.slice PA np pc, .slice PF mp pfc] 25) := ⟨_, rfl⟩
              have bX2 : Below w6.heap.size w6 X2 := by rw [hX2]; exact (Below.refl _ _).alloc (Nat.le_refl _) _
              have kX2 : Blk X2 w6.heap.size 25 [.slice PA np pc, .slice PF mp pfc] := by rw [hX2]; exact Blk.new w6 _ _
              have hqp : QueryAt w6 PA np PF mp qp := ⟨.of_own o1, .of_own o2, hnp, hmp, fun m hm => by have := sm m hm; omega, fun f hf => by have := sf f hf; omega⟩
              have hB7 := hB6.below bX2
              have hqX := hqp.below bX2
              have hcase : (512 < Z ∧ kp = 4) ∨ (¬ 512 < Z ∧ kp = 0 ∧ qp = q) := by
                by_cases h512 : 512 < Z
                · rw [if_pos h512] at HPz
                  rcases hce with ⟨-, h2⟩ | ⟨-, h2, -⟩
                  · rw [HPz.out] at h2; cases h2
                  · rw [HPz.out] at h2; injection h2 with h2; exact .inl ⟨h512, h2.symm⟩
                · rw [if_neg h512] at HPz
                  rcases hce with ⟨h1, h2⟩ | ⟨-, h2, -⟩
                  · rw [HPz.out] at h2; injection h2 with h2; exact .inr ⟨h512, h1, h2.symm⟩
                  · rw [HPz.out] at h2; cases h2
              obtain ⟨pb, hpb⟩ : ∃ pb, w6.heap.size = pb := ⟨_, rfl⟩
              have hpw : w.heap.size ≤ pb := by rw [← hpb]; exact hB6.be.size
              rw [hpb] at kX2
              have hne : w.heap.size ≠ pb ∧ w.heap.size + 1 ≠ pb := by
                have h1 := hB6.kq.lt; have h2 := hB6.kr.lt; rw [hpb] at h1 h2; omega
              have r0 : X2.cell? ⟨w.heap.size + 1, 0, none⟩ = some (.int .i64 tv) := hB7.kr.cell 0
              have r1 : X2.cell? ⟨w.heap.size + 1, 1, none⟩ = some (.int .u64 sv) := hB7.kr.cell 1
              have r2 : X2.cell? ⟨w.heap.size + 1, 2, none⟩ = some (.slice LA ln lc) := hB7.kr.cell 2
              have r3 : X2.cell? ⟨w.heap.size + 1, 3, none⟩ = some (.string R) := hB7.kr.cell 3
              have HB7 := Lib.hid hB7; have KP := Lib.hid kX2; have HQX := Lib.hid hqX; have Hpw := Lib.hid hpw; have Hne := Lib.hid hne; have Hct := Lib.hid hct; have Hnp := Lib.hid hnp; have Hmp := Lib.hid hmp
              clear hB6 hB7 kX2 hqX hqp bX2 hpw hne hct hnp hmp hce o1 o2 sm sf hb6 HB HPv
              go_upto_region 20 with fail
              rw [← hX2]
              (try rw [hpb])
              clear hX2 hpb
              have y0 : X2.cell? ⟨w.heap.size, 0, none⟩ = some (.slice MA j cm) := HB7.out.kq.cell 0
              have y1 : X2.cell? ⟨w.heap.size, 1, none⟩ = some (.slice FA k cf) := HB7.out.kq.cell 1
              have zan : (AN != AN) = false := by cases AN <;> rfl
              go_cut [117] (fun v wx => v = .bool false ∧ Hid (BkS w w1 wx w2.heap.size g mb j k q (.slice MA j cm) (.slice FA k cf) [.int .i64 tv, .int .u64 sv, .slice LA ln lc, .string R] XA YA xc yc xs ys) ∧ Hid (Blk wx pb 25 [.slice PA np pc, .slice PF mp pfc]))
              case first =>
                go_wp2_with fail
                refine (HHo.out X2 HB7.out.be HB7.out.fa).mono ?_
                rintro e w7 ⟨rfl, hb7⟩
                have hB8 := HB7.out.below hb7
                have kp8 := KP.out.below hb7 KP.out.lt
                have hqx8 := HQX.out.below hb7
                clear r0 r1 r2 r3 y0 y1
                have y0 : w7.cell? ⟨w.heap.size, 0, none⟩ = some (.slice MA j cm) := hB8.kq.cell 0
                have y1 : w7.cell? ⟨w.heap.size, 1, none⟩ = some (.slice FA k cf) := hB8.kq.cell 1
                have p0 : w7.cell? ⟨pb, 0, none⟩ = some (.slice PA np pc) := kp8.cell 0
                have p1 : w7.cell? ⟨pb, 1, none⟩ = some (.slice PF mp pfc) := kp8.cell 1
                have HB8 := Lib.hid hB8; have KP8 := Lib.hid kp8; have HQX8 := Lib.hid hqx8
                clear hB8 kp8 hqx8 hb7 HB7 KP HQX
                rcases hcase with ⟨h512, rfl⟩ | ⟨h512, rfl, rfl⟩
                · have z3 : (512 : Int) < (Z : Int) := by omega
                  have z4 : ¬ (Z : Int) ≤ 512 := by omega
                  go_wp2
                  go_meet
                  case rel => exact ⟨rfl, HB8, KP8⟩
                · have z3 : ¬ (512 : Int) < (Z : Int) := by omega
                  have z4 : (Z : Int) ≤ 512 := by omega
                  have hs := gSame qp qp PA PF MA FA np mp pc pfc j k cm cf w7 HQX8.out (HQ.out.below HB8.out.be) (by have := Hct.out; have := Hnp.out; omega) (by have := Hct.out; have := Hmp.out; omega)
                  have HS := Lib.hid hs
                  clear hs
                  go_wp2_with fail
                  refine HS.out.mono ?_
                  rintro e w8 hO
                  obtain ⟨b, rfl, hb, hb8⟩ := hO
                  obtain rfl : b = true := hb.2 rfl
                  have HB9 := Lib.hid (HB8.out.below hb8); have KP9 := Lib.hid (KP8.out.below hb8 KP8.out.lt)
                  clear hb hb8 y0 y1 p0 p1
                  go_wp2
                  go_meet
                  case rel => exact ⟨rfl, HB9, KP9⟩
              case rest =>
                obtain ⟨rfl, HB9, KP9⟩ := hcut
                obtain ⟨wq, rfl⟩ : ∃ wq : World, wq = wc := ⟨_, rfl⟩
                obtain ⟨D, hD, hD4⟩ : ∃ D : Nat, ((sp : Int) % 5) = (D : Int) ∧ D ≤ 4 := ⟨sp % 5, by omega, by omega⟩
                have HD := Lib.hid hD
                clear hD r0 r1 r2 r3 y0 y1 zan hcase HB7 KP HQX z1 wk1
                go_wp2
                go_loopw [17, 18] (fun v i wr => ∃ (jj : Nat) (T : ByteArray), jj ≤ D ∧ i = .int .i64 jj ∧ v = .string T ∧ Hid (T = ⟨(List.replicate jj (32 : UInt8)).toArray⟩) ∧ T.size = jj ∧ wr = wq) (fun _ i _ => D - (intOf i).toNat)
                case atStart => exact ⟨0, ⟨#[]⟩, Nat.zero_le _, rfl, rfl, Lib.hid rfl, rfl, rfl⟩
                case round =>
                  obtain ⟨jj, T, hjj, rfl, rfl, HT, zT, hwr⟩ := hrel
                  obtain rfl : wq = wr := hwr.symm
                  have wk1 : IntKind.i64.wrap ((jj : Int) + 1) = ((jj + 1 : Nat) : Int) := by rw [IntKind.wrap_i64]; omega
                  by_cases hlt3 : jj < D
                  · have z1 : (jj : Int) < (sp : Int) % 5 := by rw [HD.out]; omega
                    have he : T ++ ⟨#[32]⟩ = ⟨(List.replicate (jj + 1) (32 : UInt8)).toArray⟩ := by
                      rw [HT.out, List.replicate_succ']
                      exact bytes_app _ _
                    have hsz : (T ++ ⟨#[32]⟩).size = jj + 1 := by rw [ByteArray.size_append, zT]; rfl
                    have HE := Lib.hid he; have HSz := Lib.hid hsz
                    clear he hsz
                    go_wp2
                    go_roundw
                    case rel => exact ⟨jj + 1, _, by omega, by first | rfl | go_num, rfl, HE, HSz.out, (by first | rfl | trivial)⟩
                    case measure => simp [intOf]; omega
                  · have z1 : ¬ (jj : Int) < (sp : Int) % 5 := by rw [HD.out]; omega
                    obtain ⟨FS, hFS⟩ : ∃ FS : ByteArray, FS = ⟨(List.replicate jj (32 : UInt8) ++ (printP q ++ List.replicate jj 32)).toArray⟩ := ⟨_, rfl⟩
                    have he : T ++ PS ++ T = FS := by
                      rw [hFS, HT.out, HPS2.out, bytes_app, bytes_app, List.append_assoc]
                    have hpz2 := parse_back Hck.out jj jj
                    rw [HZ.out] at hpz2
                    have hpv := vQParse (List.replicate jj (32 : UInt8) ++ (printP q ++ List.replicate jj 32)) wq (HL.out.below HB9.out.be) (by rw [List.length_append, List.length_append, List.length_replicate, HZ.out]; omega)
                    rw [show str (List.replicate jj (32 : UInt8) ++ (printP q ++ List.replicate jj 32)) = .string FS by rw [hFS] <;> rfl] at hpv
                    have zs1 : ¬ 9223372036854775807 < jj + Z := by omega
                    have zs2 : ¬ 9223372036854775807 < jj + Z + jj := by omega
                    rw [← he] at hpv
                    have HPv2 := Lib.hid hpv; have HPz2 := Lib.hid hpz2
                    clear he hpv hpz2 hFS
                    go_wp2_with fail
                    refine HPv2.out.mono ?_
                    rintro e w9 ⟨V1, V2, qe, ke, rfl, hb9, o1, o2, sm, sf, hct, hce⟩
                    have hB10 := HB9.out.below hb9
                    have kp10 := KP9.out.below hb9 KP9.out.lt
                    have pf0 := kp10.frozen 0
                    have pf1 := kp10.frozen 1
                    have p0 : w9.cell? ⟨pb, 0, none⟩ = some (.slice PA np pc) := kp10.cell 0
                    have p1 : w9.cell? ⟨pb, 1, none⟩ = some (.slice PF mp pfc) := kp10.cell 1
                    obtain ⟨ne, hne⟩ : ∃ ne, qe.ms.length = ne := ⟨_, rfl⟩
                    obtain ⟨me, hme⟩ : ∃ me, qe.fs.length = me := ⟨_, rfl⟩
                    rw [hne] at o1
                    rw [hme] at o2
                    obtain ⟨EA, ec, rfl, -⟩ := own_form o1
                    obtain ⟨EF, efc, rfl, -⟩ := own_form o2
                    have hcase : ke = 4 ∨ (ke = 0 ∧ qe = q) := by
                      have hpz := HPz2.out
                      by_cases h512 : 512 < jj + Z + jj
                      · rw [if_pos h512] at hpz
                        rcases hce with ⟨-, h2⟩ | ⟨-, h2, -⟩
                        · rw [hpz] at h2; cases h2
                        · rw [hpz] at h2; injection h2 with h2; exact .inl h2.symm
                      · rw [if_neg h512] at hpz
                        rcases hce with ⟨h1, h2⟩ | ⟨-, h2, -⟩
                        · rw [hpz] at h2; injection h2 with h2; exact .inr ⟨h1, h2.symm⟩
                        · rw [hpz] at h2; cases h2
                    obtain ⟨W, hW⟩ : ∃ W, W = (w9.setCell ⟨pb, 0, none⟩ (.slice EA ne ec)).setCell ⟨pb, 1, none⟩ (.slice EF me efc) := ⟨_, rfl⟩
                    have bW : But [pb] w9 W := by rw [hW]; exact ((But.refl _ _).setCell (by simp) _).setCell (by simp) _
                    have kW1 : KeepM [25] w9 W := by rw [hW]; exact KeepM.setCell (KeepM.setCell (.refl _ w9) (p := ⟨pb, 0, none⟩) (show w9.heap[pb]? = _ from kp10) (by simp) _) (p := ⟨pb, 1, none⟩) (show (w9.setCell ⟨pb, 0, none⟩ (.slice EA ne ec)).heap[pb]? = _ from kp10.set_ 0 _) (by simp) _
                    have kW : Blk W pb 25 [.slice EA ne ec, .slice EF me efc] := by rw [hW]; exact (kp10.set_ 0 _).set_ 1 _
                    have hwW : Below w.heap.size w W := hB10.be.trans (bW.below hB10.be.size fun x hx => by rw [List.mem_singleton] at hx; rw [hx]; exact Hpw.out)
                    have kqW := hB10.kq.but bW (by have := Hne.out.1; simp; omega)
                    have hqW : QueryAt W EA ne EF me qe := by
                      refine ⟨(Row.of_own (kW1.own o1 (by decide))).more (Nat.le_refl _), (Row.of_own (kW1.own o2 (by decide))).more (Nat.le_refl _), hne, hme, fun m hm => ?_, fun f hf => ?_⟩
                      · have := sm m hm; omega
                      · have := sf f hf; omega
                    have w0c : W.cell? ⟨pb, 0, none⟩ = some (.slice EA ne ec) := kW.cell 0
                    have w1c : W.cell? ⟨pb, 1, none⟩ = some (.slice EF me efc) := kW.cell 1
                    have y0 : W.cell? ⟨w.heap.size, 0, none⟩ = some (.slice MA j cm) := kqW.cell 0
                    have y1 : W.cell? ⟨w.heap.size, 1, none⟩ = some (.slice FA k cf) := kqW.cell 1
                    have HwW := Lib.hid hwW; have HQW := Lib.hid hqW; have Hct3 := Lib.hid hct; have Hne3 := Lib.hid hne; have Hme3 := Lib.hid hme
                    clear hwW hqW hct hne hme hce bW kW1 kW kqW hB10 kp10 hb9 o1 o2 sm sf HPz2 HPv2
                    go_upto_region 28 with fail
                    rw [← hW]
                    clear hW p0 p1 pf0 pf1
                    rcases hcase with rfl | ⟨rfl, rfl⟩
                    · go_wp2
                      go_ret
                      exact ⟨rfl, HwW.out⟩
                    · have hs := gSame qe qe EA EF MA FA ne me ec efc j k cm cf W HQW.out (HQ.out.below HwW.out) (by have := Hct3.out; have := Hne3.out; omega) (by have := Hct3.out; have := Hme3.out; omega)
                      have HS2 := Lib.hid hs
                      clear hs
                      go_wp2_with fail
                      refine HS2.out.mono ?_
                      rintro e w10 hO
                      obtain ⟨b, rfl, hb, hb10⟩ := hO
                      obtain rfl : b = true := hb.2 rfl
                      have H10 := Lib.hid (HwW.out.trans (hb10.mono HwW.out.size))
                      clear hb hb10 w0c w1c y0 y1
                      go_wp2
                      go_ret
                      exact ⟨rfl, H10.out⟩
    · have zk : ((ck : Int) == 0) = false := beq_eq_false_iff_ne.2 (by omega)
      have zk2 : ¬ (ck : Int) = 0 := by omega
      have zk3 : ((ck : Int) != 0) = true := by simp; omega
      have hPS2 := HPS.out
      rw [if_neg hne] at hPS2
      have hPS3 : PS = ⟨#[]⟩ := hPS2
      subst hPS3
      clear hPS2
      go_wp2_with fail
      refine HS.out.mono ?_
      rintro e w4 hO
      obtain ⟨b, rfl, hb, hb4⟩ := hO
      obtain rfl : b = true := hb.2 rfl
      have H4 := Lib.hid (HW3.out.trans (hb4.mono HW3.out.size))
      clear hb hb4 x0 x1 y0 y1
      go_wp2
      go_ret
      exact ⟨rfl, H4.out⟩
end Go.Proofs.YtecejnilajbdpaaGreatDoor

