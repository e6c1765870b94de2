import Derived.Test.YtecejnilajbdpaaGreatDoorTy50
import Derived.Test.YtecejnilajbdpaaGreatDoorTy52
namespace Go.Proofs.YtecejnilajbdpaaGreatDoor
open Go.RowKit Go.Shelf Garner
def SameO (q q' : QueryP) (w : World) (e : Ending) (w' : World) : Prop := ∃ b, e = .returned (.bool b) ∧ (b = true ↔ q = q') ∧ Below w.heap.size w w'
theorem SameO.no {q q' : QueryP} {w w' : World} (h : q ≠ q') (hb : Below w.heap.size w w') : SameO q q' w (.returned (.bool false)) w' := ⟨false, rfl, ⟨(by intro h; cases h), fun e => absurd e h⟩, hb⟩
set_option maxRecDepth 100000 in
set_option maxHeartbeats 32000000 in
theorem gSame (q q' : QueryP) (MA FA MA' FA' : Option Addr) (nm nf cm cf nm' nf' cm' cf' : Nat) (w : World) (hq : QueryAt w MA nm FA nf q) (hq' : QueryAt w MA' nm' FA' nf' q') (h1 : nm ≤ 140737488355328) (h2 : nf ≤ 140737488355328) :
  Calls Tryz.prog 28 #[.agg #[.slice MA nm cm, .slice FA nf cf], .agg #[.slice MA' nm' cm', .slice FA' nf' cf']] w fun e w' => SameO q q' w e w' := by
 obtain ⟨X0, hX0⟩ : ∃ X0, X0 = w.alloc (.cells #[.slice MA nm cm, .slice FA nf cf] 25) := ⟨_, rfl⟩
 have b0 : Below w.heap.size w X0 := by rw [hX0]; exact (Below.refl _ _).alloc (Nat.le_refl _) _
 have k0 : Blk X0 w.heap.size 25 [.slice MA nm cm, .slice FA nf cf] := by rw [hX0]; exact Blk.new w _ _
 have z0 : X0.heap.size = w.heap.size + 1 := by rw [hX0]; simp
 obtain ⟨X, hX⟩ : ∃ X, X = X0.alloc (.cells #[.slice MA' nm' cm', .slice FA' nf' cf'] 25) := ⟨_, rfl⟩
 have b1 : Below X0.heap.size X0 X := by rw [hX]; exact (Below.refl _ _).alloc (Nat.le_refl _) _
 have k1 : Blk X (w.heap.size + 1) 25 [.slice MA' nm' cm', .slice FA' nf' cf'] := by rw [hX, ← z0]; exact Blk.new X0 _ _
 have hwX := b0.trans (b1.mono b0.size)
 have k0' := k0.below b1 k0.lt
 have x0 : X.cell? ⟨w.heap.size, 0, none⟩ = some (.slice MA nm cm) := k0'.cell 0
 have x1 : X.cell? ⟨w.heap.size, 1, none⟩ = some (.slice FA nf cf) := k0'.cell 1
 have y0 : X.cell? ⟨w.heap.size + 1, 0, none⟩ = some (.slice MA' nm' cm') := k1.cell 0
 have y1 : X.cell? ⟨w.heap.size + 1, 1, none⟩ = some (.slice FA' nf' cf') := k1.cell 1
 have HwX := Lh hwX; have HQ := Lh hq; have HQ' := Lh hq'; have K0 := Lh k0'; have K1 := Lh k1
 have Hnm := Lh hq.nm_; have Hnf := Lh hq.nf_; have Hnm' := Lh hq'.nm_; have Hnf' := Lh hq'.nf_
 have Hz := Lh z0
 clear b0 b1 k0 k1 k0' hwX hq hq' z0
 go_enter Tryz.func28, Tryz.ntmps28
 go_upto_region 1 with fail
 rw [← hX0, ← hX]
 clear hX hX0
 by_cases hm : nm = nm'
 ·by_cases hf : nf = nf'
  ·subst hm
   subst hf
   have H0 : Hid (q.ms.take 0 = q'.ms.take 0 ∧ Below X.heap.size X X) := Lh ⟨rfl, Below.refl _ _⟩
   go_wp2
   clear x0 x1 y0 y1
   go_loopw [5] (fun i wr => ∃ k : Nat, k ≤ nm ∧ i = .int .i64 k ∧ Hid (q.ms.take k = q'.ms.take k ∧ Below X.heap.size X wr)) (fun i _ => nm - (intOf i).toNat)
   case atStart => exact ⟨0, Nat.zero_le _, rfl, H0⟩
   case round =>
    obtain ⟨k, hk, rfl, hst⟩ := hrel
    obtain ⟨wo, rfl⟩ : ∃ wo : World, wo = wr := ⟨_, rfl⟩
    have wk1 : IntKind.i64.wrap ((k : Int) + 1) = ((k + 1 : Nat) : Int) := by rw [IntKind.wrap_i64]; omega
    have x0 : wo.cell? ⟨w.heap.size, 0, none⟩ = some (.slice MA nm cm) := (K0.out.below hst.out.2 K0.out.lt).cell 0
    have y0 : wo.cell? ⟨w.heap.size + 1, 0, none⟩ = some (.slice MA' nm cm') := (K1.out.below hst.out.2 K1.out.lt).cell 0
    by_cases hlt : k < nm
    ·have z3 : (k : Int) < (nm : Int) := by omega
     obtain ⟨m, hm⟩ : ∃ m, q.ms[k]? = some m := ⟨_, List.getElem?_eq_getElem (by rw [Hnm.out]; exact hlt)⟩
     obtain ⟨m', hm'⟩ : ∃ m', q'.ms[k]? = some m' := ⟨_, List.getElem?_eq_getElem (by rw [Hnm'.out]; exact hlt)⟩
     obtain ⟨b, off, rfl, hc⟩ := HQ.out.mat hm
     obtain ⟨b', off', rfl, hc'⟩ := HQ'.out.mat hm'
     have hwo := HwX.out.trans (hst.out.2.mono HwX.out.size)
     obtain ⟨c0, c1, c2⟩ := hc wo hwo
     obtain ⟨d0, d1, d2⟩ := hc' wo hwo
     obtain ⟨N1, e1, hN1⟩ := str_form m.name
     obtain ⟨N2, e2, hN2⟩ := str_form m.val
     obtain ⟨M1, f1, hM1⟩ := str_form m'.name
     obtain ⟨M2, f2, hM2⟩ := str_form m'.val
     obtain ⟨o, ho⟩ : ∃ o, m.op = o := ⟨_, rfl⟩
     obtain ⟨p, hp⟩ : ∃ p, m'.op = p := ⟨_, rfl⟩
     rw [e1] at c0
     rw [ho] at c1
     rw [e2] at c2
     rw [f1] at d0
     rw [hp] at d1
     rw [f2] at d2
     have g1 := str_eql hN1 hM1
     have g2 := str_eql hN2 hM2
     have hne : m ≠ m' → q ≠ q' := fun h e => h (by rw [e, hm'] at hm; exact (Option.some.inj hm).symm)
     have hnx : m = m' → q.ms.take (k + 1) = q'.ms.take (k + 1) := fun e => by rw [List.take_add_one, List.take_add_one, hst.out.1, hm, hm', e]
     have hmm : m.name = m'.name → o = p → m.val = m'.val → m = m' := fun e1 e2 e3 => by
      rw [← ho, ← hp] at e2
      cases m; cases m'; simp at e1 e2 e3; simp [e1, e2, e3]
     obtain ⟨t1, ht1⟩ : ∃ t1, decide (m.name = m'.name) = t1 := ⟨_, rfl⟩
     obtain ⟨t2, ht2⟩ : ∃ t2, decide (m.val = m'.val) = t2 := ⟨_, rfl⟩
     rw [ht1] at g1
     rw [ht2] at g2
     have Hne := Lh hne; have Hnx := Lh hnx; have Hmm := Lh hmm; have Ht1 := Lh ht1; have Ht2 := Lh ht2; have Hbw := Lh hst.out.2
     clear hne hnx hmm ht1 ht2 hst
     have Hm := Lh hm; have Hm' := Lh hm'; have Ho := Lh ho; have Hp := Lh hp; have Hwo := Lh hwo
     clear hc hc' e1 e2 f1 f2 hN1 hN2 hM1 hM2 ho hp hm hm' hwo
     go_upto_region 6 with fail
     have hfalse : ∀ n, m ≠ m' → SameO q q' w (.returned (.bool false)) (wo.drewN n) := fun n h => .no (Hne.out h) (below_dn Hwo.out n)
     have HFalse := Lh hfalse
     clear hfalse
     cases t1 with
     | false =>
      have hmd : m ≠ m' := fun e => of_decide_eq_false Ht1.out (by rw [e])
      have Hmd := Lh hmd
      clear hmd
      go_quiet (fail)
      go_wp2
      go_ret
      exact HFalse.out _ Hmd.out
     | true =>
      by_cases hop : o = p
      ·subst hop
       cases t2 with
       | false =>
        have hmd : m ≠ m' := fun e => of_decide_eq_false Ht2.out (by rw [e])
        have Hmd := Lh hmd
        clear hmd
        go_quiet (fail)
        go_wp2
        go_ret
        exact HFalse.out _ Hmd.out
       | true =>
        have hme := Hmm.out (of_decide_eq_true Ht1.out) rfl (of_decide_eq_true Ht2.out)
        have HR : Hid (∀ n, q.ms.take (k + 1) = q'.ms.take (k + 1) ∧ Below X.heap.size X (wo.drewN n)) := Lh fun n => ⟨Hnx.out hme, below_dn Hbw.out n⟩
        clear hme
        go_quiet (fail)
        go_wp2
        go_roundw
        case rel => exact ⟨k + 1, by omega, by first | rfl | go_num, Lh (HR.out _)⟩
        case measure => simp [intOf]; omega
      ·have hmd : m ≠ m' := fun e => hop (by rw [← Ho.out, ← Hp.out, e])
       have Hmd := Lh hmd
       have zo : (o == p) = false := beq_eq_false_iff_ne.2 hop
       clear hmd
       go_quiet (fail)
       go_wp2
       go_ret
       exact HFalse.out _ Hmd.out
    ·obtain rfl : k = nm := by omega
     have z3 : ¬ (k : Int) < (k : Int) := by omega
     have hms : q.ms = q'.ms := by
      have h := hst.out.1
      rwa [List.take_of_length_le (by rw [Hnm.out]; exact Nat.le_refl _), List.take_of_length_le (by rw [Hnm'.out]; exact Nat.le_refl _)] at h
     have Hms := Lh hms
     have H1 : Hid (q.fs.take 0 = q'.fs.take 0 ∧ Below X.heap.size X wo) := Lh ⟨rfl, hst.out.2⟩
     clear hms hst
     go_wp2
     clear x0 y0
     go_loopw [6] (fun i wr => ∃ k : Nat, k ≤ nf ∧ i = .int .i64 k ∧ Hid (q.fs.take k = q'.fs.take k ∧ Below X.heap.size X wr)) (fun i _ => nf - (intOf i).toNat)
     case atStart => exact ⟨0, Nat.zero_le _, rfl, H1⟩
     case round =>
      clear z3 wk1
      obtain ⟨k, hk, rfl, hst⟩ := hrel
      obtain ⟨wo, rfl⟩ : ∃ wo : World, wo = wr := ⟨_, rfl⟩
      have wk1 : IntKind.i64.wrap ((k : Int) + 1) = ((k + 1 : Nat) : Int) := by rw [IntKind.wrap_i64]; omega
      have x0 : wo.cell? ⟨w.heap.size, 1, none⟩ = some (.slice FA nf cf) := (K0.out.below hst.out.2 K0.out.lt).cell 1
      have y0 : wo.cell? ⟨w.heap.size + 1, 1, none⟩ = some (.slice FA' nf cf') := (K1.out.below hst.out.2 K1.out.lt).cell 1
      by_cases hlt : k < nf
      ·have z3 : (k : Int) < (nf : Int) := by omega
       obtain ⟨m, hm⟩ : ∃ m, q.fs[k]? = some m := ⟨_, List.getElem?_eq_getElem (by rw [Hnf.out]; exact hlt)⟩
       obtain ⟨m', hm'⟩ : ∃ m', q'.fs[k]? = some m' := ⟨_, List.getElem?_eq_getElem (by rw [Hnf'.out]; exact hlt)⟩
       obtain ⟨b, off, rfl, hc⟩ := fil_cells HQ.out.fs hm hlt
       obtain ⟨b', off', rfl, hc'⟩ := fil_cells HQ'.out.fs hm' hlt
       have hwo := HwX.out.trans (hst.out.2.mono HwX.out.size)
       obtain ⟨c1, c2⟩ := hc wo hwo
       obtain ⟨d1, d2⟩ := hc' wo hwo
       obtain ⟨N2, e2, hN2⟩ := str_form m.text
       obtain ⟨M2, f2, hM2⟩ := str_form m'.text
       obtain ⟨o, ho⟩ : ∃ o, m.op = o := ⟨_, rfl⟩
       obtain ⟨p, hp⟩ : ∃ p, m'.op = p := ⟨_, rfl⟩
       rw [ho] at c1
       rw [e2] at c2
       rw [hp] at d1
       rw [f2] at d2
       have g2 := str_eql hN2 hM2
       have hne : m ≠ m' → q ≠ q' := fun h e => h (by rw [e, hm'] at hm; exact (Option.some.inj hm).symm)
       have hnx : m = m' → q.fs.take (k + 1) = q'.fs.take (k + 1) := fun e => by rw [List.take_add_one, List.take_add_one, hst.out.1, hm, hm', e]
       have hmm : o = p → m.text = m'.text → m = m' := fun e2 e3 => by
        rw [← ho, ← hp] at e2
        cases m; cases m'; simp at e2 e3; simp [e2, e3]
       obtain ⟨t2, ht2⟩ : ∃ t2, decide (m.text = m'.text) = t2 := ⟨_, rfl⟩
       rw [ht2] at g2
       have Hne := Lh hne; have Hnx := Lh hnx; have Hmm := Lh hmm; have Ht2 := Lh ht2; have Hbw := Lh hst.out.2
       clear hne hnx hmm ht2 hst
       have Hm := Lh hm; have Hm' := Lh hm'; have Ho := Lh ho; have Hp := Lh hp; have Hwo := Lh hwo
       clear hc hc' e2 f2 hN2 hM2 ho hp hm hm' hwo
       go_upto_region 11 with fail
       have hfalse : ∀ n, m ≠ m' → SameO q q' w (.returned (.bool false)) (wo.drewN n) := fun n h => .no (Hne.out h) (below_dn Hwo.out n)
       have HFalse := Lh hfalse
       clear hfalse
       by_cases hop : o = p
       ·subst hop
        cases t2 with
        | false =>
         have hmd : m ≠ m' := fun e => of_decide_eq_false Ht2.out (by rw [e])
         have Hmd := Lh hmd
         clear hmd
         go_quiet (fail)
         go_wp2
         go_ret
         exact HFalse.out _ Hmd.out
        | true =>
         have hme := Hmm.out rfl (of_decide_eq_true Ht2.out)
         have HR : Hid (∀ n, q.fs.take (k + 1) = q'.fs.take (k + 1) ∧ Below X.heap.size X (wo.drewN n)) := Lh fun n => ⟨Hnx.out hme, below_dn Hbw.out n⟩
         clear hme
         go_quiet (fail)
         go_wp2
         go_roundw
         case rel => exact ⟨k + 1, by omega, by first | rfl | go_num, Lh (HR.out _)⟩
         case measure => simp [intOf]; omega
       ·have hmd : m ≠ m' := fun e => hop (by rw [← Ho.out, ← Hp.out, e])
        have Hmd := Lh hmd
        have zo : (o == p) = false := beq_eq_false_iff_ne.2 hop
        clear hmd
        go_quiet (fail)
        go_wp2
        go_ret
        exact HFalse.out _ Hmd.out
      ·obtain rfl : k = nf := by omega
       have z3 : ¬ (k : Int) < (k : Int) := by omega
       have hfs : q.fs = q'.fs := by
        have h := hst.out.1
        rwa [List.take_of_length_le (by rw [Hnf.out]; exact Nat.le_refl _), List.take_of_length_le (by rw [Hnf'.out]; exact Nat.le_refl _)] at h
       have hqq : q = q' := by
        have h1 := Hms.out
        cases q; cases q'; simp at h1 hfs; simp [h1, hfs]
       have hans : SameO q q' w (.returned (.bool true)) wo := ⟨true, rfl, ⟨fun _ => hqq, fun _ => rfl⟩, HwX.out.trans (hst.out.2.mono HwX.out.size)⟩
       have HAns := Lh hans
       clear hfs hqq hans hst
       go_wp2
       go_ret
       exact HAns.out
  ·have hans : SameO q q' w (.returned (.bool false)) X := .no (fun e => hf (by rw [← Hnf.out, ← Hnf'.out, e])) HwX.out
   have HAns := Lh hans
   have z1 : ((nm : Int) == (nm' : Int)) = true := by rw [hm]; simp
   have z2 : ((nf : Int) == (nf' : Int)) = false := beq_eq_false_iff_ne.2 (by omega)
   subst hm
   clear hans
   go_wp2
   go_ret
   exact HAns.out
 ·have hans : SameO q q' w (.returned (.bool false)) X := .no (fun e => hm (by rw [← Hnm.out, ← Hnm'.out, e])) HwX.out
  have HAns := Lh hans
  have z1 : ((nm : Int) == (nm' : Int)) = false := beq_eq_false_iff_ne.2 (by omega)
  clear hans
  go_wp2
  go_ret
  exact HAns.out
theorem parse_same {s : Bs} {q q' : QueryP} {k k' : Nat} {V1 V2 W1 W2 : Value} (h : (k = 0 ∧ parseQ s = .ok q) ∨ (k ≠ 0 ∧ parseQ s = .error k ∧ q = ⟨[], []⟩ ∧ V1 = .slice none 0 0 ∧ V2 = .slice none 0 0)) (h' : (k' = 0 ∧ parseQ s = .ok q') ∨ (k' ≠ 0 ∧ parseQ s = .error k' ∧ q' = ⟨[], []⟩ ∧ W1 = .slice none 0 0 ∧ W2 = .slice none 0 0)) : k = k' ∧ q = q' := by
 rcases h with ⟨h1, h2⟩ | ⟨h1, h2, h3, -⟩ <;> rcases h' with ⟨h1', h2'⟩ | ⟨h1', h2', h3', -⟩
 ·rw [h2] at h2'; injection h2' with e; exact ⟨by omega, e⟩
 ·rw [h2] at h2'; cases h2'
 ·rw [h2] at h2'; cases h2'
 ·rw [h2] at h2'; injection h2' with e; exact ⟨e, by rw [h3, h3']⟩
set_option maxRecDepth 100000 in
set_option maxHeartbeats 16000000 in
theorem wQueryParses (s : Bs) (w : World) (hL : Lt w) (hl : s.length ≤ 140737488355328) :
  Calls Tryz.prog 6 #[strB s] w fun e w' => e = .returned (.bool true) ∧ Below w.heap.size w w' := by
 have haw := awake24 w hL
 obtain ⟨S, eS, hS⟩ := str_form s
 have hpv : ∀ w1, Below w.heap.size w w1 → Calls Tryz.prog 26 #[.string S] w1 fun e w' => QParseO s w1 e w' := fun w1 h1 => by rw [← eS]; exact vQParse s w1 (hL.below h1) hl
 have hpr : ∀ w1, Below w.heap.size w w1 → Calls Tryz.prog 27 #[.string S] w1 fun e w' => QParseO s w1 e w' := fun w1 h1 => by rw [← eS]; exact gParseQ s w1 hl
 rw [eS]
 have HAw := Lh haw; have HPv := Lh hpv; have HPr := Lh hpr
 clear haw hL hpv hpr eS hS hl
 go_enter Tryz.func6, Tryz.ntmps6
 go_wp2_with fail
 refine HAw.out.mono ?_
 rintro e w1 ⟨rfl, hb1⟩
 have hp := HPv.out w1 hb1
 have HP := Lh hp; have HB1 := Lh hb1
 clear hp hb1 HAw
 go_wp2_with fail
 refine HP.out.mono ?_
 rintro e w2 hO
 obtain ⟨V1, V2, q, k, rfl, hb2, o1, o2, sm, sf, hct, hc⟩ := hO
 obtain ⟨nm, hnm⟩ : ∃ nm, q.ms.length = nm := ⟨_, rfl⟩
 obtain ⟨nf, hnf⟩ : ∃ nf, q.fs.length = nf := ⟨_, rfl⟩
 rw [hnm] at o1 hct
 rw [hnf] at o2 hct
 obtain ⟨MA, mc, rfl, -⟩ := own_form o1
 obtain ⟨FA, fc, rfl, -⟩ := own_form o2
 obtain ⟨X, hX⟩ : ∃ X, X = w2.alloc (.cells #[.slice MA nm mc, .slice FA nf fc] 25) := ⟨_, rfl⟩
 have bX : Below w2.heap.size w2 X := by rw [hX]; exact (Below.refl _ _).alloc (Nat.le_refl _) _
 have kX : Blk X w2.heap.size 25 [.slice MA nm mc, .slice FA nf fc] := by rw [hX]; exact Blk.new w2 _ _
 have hqa : QueryAt w2 MA nm FA nf q := ⟨.of_own o1, .of_own o2, hnm, hnf, fun m hm => by have := sm m hm; omega, fun f hf => by have := sf f hf; omega⟩
 have hwX := HB1.out.trans ((hb2.trans (bX.mono hb2.size)).mono HB1.out.size)
 have hp := HPr.out X hwX
 have HP2 := Lh hp; have HQ := Lh (hqa.below bX); have HK := Lh kX; have HWX := Lh hwX; have HC := Lh hc; have HCt := Lh hct
 obtain ⟨qb, hqb⟩ : ∃ qb, w2.heap.size = qb := ⟨_, rfl⟩
 rw [hqb] at HK
 clear o1 o2 sm sf hct hc bX kX hqa hwX hp hb2 hnm hnf HP HB1
 go_upto_region 4 with fail
 rw [← hX]
 (try rw [hqb])
 clear hX hqb
 go_wp2_with fail
 refine HP2.out.mono ?_
 rintro e w3 hO
 obtain ⟨V1', V2', q', k', rfl, hb3, o1, o2, sm, sf, hct, hc⟩ := hO
 obtain ⟨rfl, rfl⟩ := parse_same HC.out hc
 obtain ⟨nm', hnm⟩ : ∃ nm', q.ms.length = nm' := ⟨_, rfl⟩
 obtain ⟨nf', hnf⟩ : ∃ nf', q.fs.length = nf' := ⟨_, rfl⟩
 rw [hnm] at o1
 rw [hnf] at o2
 obtain ⟨MA', mc', rfl, -⟩ := own_form o1
 obtain ⟨FA', fc', rfl, -⟩ := own_form o2
 obtain ⟨Y, hY⟩ : ∃ Y, Y = w3.alloc (.cells #[.slice MA' nm' mc', .slice FA' nf' fc'] 25) := ⟨_, rfl⟩
 have bY : Below w3.heap.size w3 Y := by rw [hY]; exact (Below.refl _ _).alloc (Nat.le_refl _) _
 have kY : Blk Y w3.heap.size 25 [.slice MA' nm' mc', .slice FA' nf' fc'] := by rw [hY]; exact Blk.new w3 _ _
 have hqa : QueryAt w3 MA' nm' FA' nf' q := ⟨.of_own o1, .of_own o2, hnm, hnf, fun m hm => by have := sm m hm; omega, fun f hf => by have := sf f hf; omega⟩
 have hXY := hb3.trans (bY.mono hb3.size)
 have hs := gSame q q MA FA MA' FA' nm nf mc fc nm' nf' mc' fc' Y (HQ.out.below hXY) (hqa.below bY) (by have := HCt.out; omega) (by have := HCt.out; omega)
 have kX := HK.out.below hXY HK.out.lt
 have x0 : Y.cell? ⟨qb, 0, none⟩ = some (.slice MA nm mc) := kX.cell 0
 have x1 : Y.cell? ⟨qb, 1, none⟩ = some (.slice FA nf fc) := kX.cell 1
 have y0 : Y.cell? ⟨w3.heap.size, 0, none⟩ = some (.slice MA' nm' mc') := kY.cell 0
 have y1 : Y.cell? ⟨w3.heap.size, 1, none⟩ = some (.slice FA' nf' fc') := kY.cell 1
 have HS := Lh hs; have HWY := Lh (HWX.out.trans (hXY.mono HWX.out.size))
 obtain ⟨qc, hqc⟩ : ∃ qc, w3.heap.size = qc := ⟨_, rfl⟩
 rw [hqc] at y0 y1
 clear o1 o2 sm sf hct hc bY kY hqa hXY hs kX hb3 hnm hnf HP2 HQ HK HWX HC HCt
 go_upto_region 5 with fail
 rw [← hY]
 (try rw [hqc])
 clear hY hqc
 have zk : ((k : Int) == (k : Int)) = true := by simp
 go_wp2_with fail
 refine HS.out.mono ?_
 rintro e w4 hO
 obtain ⟨b, rfl, hb, hb4⟩ := hO
 obtain rfl : b = true := hb.2 rfl
 have H4 := Lh (HWY.out.trans (hb4.mono HWY.out.size))
 clear hb hb4 x0 x1 y0 y1 HS HWY
 go_wp2
 go_ret
 exact ⟨rfl, H4.out⟩
end Go.Proofs.YtecejnilajbdpaaGreatDoor
