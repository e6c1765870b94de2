import Derived.Test.YtmalkgakdmghiaaPa24
import Derived.Test.YtmalkgakdmghiaaPa25
import Derived.Test.YtmalkgakdmghiaaPa26
import Derived.Test.YtmalkgakdmghiaaPa27
import Derived.Test.YtmalkgakdmghiaaPa28
import Derived.Test.YtmalkgakdmghiaaPa29
/-! slices.Sort at []uint64, 9: pdqsort (printed by gen_sd9.py) -/
namespace Garner
open Go Go.Sort
def pdqE (d4 : Array Nat) (a b mid lm : Nat) (ap : Bool) : Array Nat :=
  if mid - a < b - mid then pdq ltN (pdq ltN d4 a mid lm true true) (mid + 1) b lm (decide (mid - a ≥ (b - a) / 8)) ap
  else pdq ltN (pdq ltN d4 (mid + 1) b lm true true) a mid lm (decide (b - mid ≥ (b - a) / 8)) ap
def pdqD (d3 : Array Nat) (a b lm pv : Nat) (wb wp : Bool) : Array Nat :=
  if a > 0 && !ltN d3[a - 1]! d3[pv]! then
    match partitionEqual ltN d3 a b pv with
    | (mid, d4) => if a < mid ∧ mid ≤ b then pdq ltN d4 mid b lm wb wp else d4
  else
    match partition ltN d3 a b pv with
    | (mid, ap, d4) => if a ≤ mid ∧ mid < b then pdqE d4 a b mid lm ap else d4
def pdqC (d2 : Array Nat) (a b lm pv : Nat) (hint : Hint) (wb wp : Bool) : Array Nat :=
  if (if wb && wp && hint = .increasing then partialInsertionSort ltN d2 a b else (d2, false)).2 then (if wb && wp && hint = .increasing then partialInsertionSort ltN d2 a b else (d2, false)).1
  else pdqD (if wb && wp && hint = .increasing then partialInsertionSort ltN d2 a b else (d2, false)).1 a b lm pv wb wp
def pdqB2 (d1 : Array Nat) (a b lm cp : Nat) (ch : Hint) (wb wp : Bool) : Array Nat :=
  pdqC (if ch = .decreasing then reverseRange d1 a b else d1) a b lm (if ch = .decreasing then (b - 1) - (cp - a) else cp) (if ch = .decreasing then .increasing else ch) wb wp
def pdqB (d1 : Array Nat) (a b lm : Nat) (wb wp : Bool) : Array Nat := pdqB2 d1 a b lm (choosePivot ltN d1 a b).1 (choosePivot ltN d1 a b).2 wb wp
theorem pdq_ins {d : Array Nat} {a b lim : Nat} {wb wp : Bool} (h : b - a ≤ 12) : pdq ltN d a b lim wb wp = insertionSort ltN d a b := by rw [pdq, if_pos h]
theorem pdq_heap {d : Array Nat} {a b : Nat} {wb wp : Bool} (h : ¬ b - a ≤ 12) : pdq ltN d a b 0 wb wp = heapSort ltN d a b := by rw [pdq, if_neg h, if_pos rfl]
theorem pdq_B {d : Array Nat} {a b lim : Nat} {wb wp : Bool} (h : ¬ b - a ≤ 12) (h0 : ¬ lim = 0) : pdq ltN d a b lim wb wp = pdqB (if !wb then breakPatterns d a b else d) a b (if !wb then lim - 1 else lim) wb wp := by
  rw [pdq, if_neg h, if_neg h0]
  unfold pdqB pdqB2 pdqC pdqD pdqE
  simp only [dite_eq_ite]
theorem pdqB2_dec {d1 : Array Nat} {a b lm cp : Nat} {wb wp : Bool} : pdqB2 d1 a b lm cp .decreasing wb wp = pdqC (reverseRange d1 a b) a b lm ((b - 1) - (cp - a)) .increasing wb wp := by unfold pdqB2; rw [if_pos rfl, if_pos rfl, if_pos rfl]
theorem pdqB2_no {d1 : Array Nat} {a b lm cp : Nat} {ch : Hint} {wb wp : Bool} (h : ¬ ch = .decreasing) : pdqB2 d1 a b lm cp ch wb wp = pdqC d1 a b lm cp ch wb wp := by unfold pdqB2; rw [if_neg h, if_neg h, if_neg h]
theorem pdqC_call {d2 d3 : Array Nat} {a b lm pv : Nat} {ok : Bool} (h : partialInsertionSort ltN d2 a b = (d3, ok)) : pdqC d2 a b lm pv .increasing true true = if ok then d3 else pdqD d3 a b lm pv true true := by
  unfold pdqC; simp [h]
theorem pdqC_no {d2 : Array Nat} {a b lm pv : Nat} {hint : Hint} {wb wp : Bool} (h : ¬ (wb && wp && decide (hint = .increasing)) = true) : pdqC d2 a b lm pv hint wb wp = pdqD d2 a b lm pv wb wp := by
  unfold pdqC; rw [if_neg h]; rfl
theorem pdqD_eq {d3 d4 : Array Nat} {a b lm pv mid : Nat} {wb wp : Bool} (h : (a > 0 && !ltN d3[a - 1]! d3[pv]!) = true) (hp : partitionEqual ltN d3 a b pv = (mid, d4)) (h1 : a < mid) (h2 : mid ≤ b) : pdqD d3 a b lm pv wb wp = pdq ltN d4 mid b lm wb wp := by
  unfold pdqD; rw [if_pos h, hp]; simp [h1, h2]
theorem pdqD_pt {d3 d4 : Array Nat} {a b lm pv mid : Nat} {wb wp ap : Bool} (h : ¬ (a > 0 && !ltN d3[a - 1]! d3[pv]!) = true) (hp : partition ltN d3 a b pv = (mid, ap, d4)) (h1 : a ≤ mid) (h2 : mid < b) : pdqD d3 a b lm pv wb wp = pdqE d4 a b mid lm ap := by
  unfold pdqD; rw [if_neg h, hp]; simp [h1, h2]
end Garner
namespace Go.Proofs.Ytmalkgakdmghiaa
open Go.RowKit Go.Sort Garner

theorem but_fresh {w w' : World} {g : Nat} (h : But [w.heap.size, g] w w') : But [g] w w' := ⟨h.os, h.tape, h.output, h.size, fun k hk hs => h.block k hk (by simp at hs ⊢; omega)⟩

set_option maxRecDepth 100000 in
set_option maxHeartbeats 64000000 in
theorem vPdq (B g n c : Nat) (hn : n ≤ 140737488355328) (N : Nat) : ∀ (d0 : Array Nat) (a0 b0 lim0 : Nat) (w : World), b0 - a0 = N → a0 ≤ b0 → b0 ≤ n → lim0 ≤ 1000 → Srt w B g n c d0 →
    Calls Try.prog 39 #[.slice (some ⟨g, 0, none⟩) n c, .int .i64 a0, .int .i64 b0, .int .i64 lim0] w fun e w' => e = .returned (.tuple #[]) ∧ Srt w' B g n c (pdq ltN d0 a0 b0 lim0 true true) ∧ But [g] w w' := by
  induction N using Nat.strongRecOn with
  | ind N ih0 =>
  intro d0 a0 b0 lim0 w hN hab0 hb0 hlim h0
  have ih : ∀ (d : Array Nat) (a b lim : Nat) (w : World), b - a < N → a ≤ b → b ≤ n → lim ≤ 1000 → Srt w B g n c d → Calls Try.prog 39 #[.slice (some ⟨g, 0, none⟩) n c, .int .i64 a, .int .i64 b, .int .i64 lim] w fun e w' => e = .returned (.tuple #[]) ∧ Srt w' B g n c (pdq ltN d a b lim true true) ∧ But [g] w w' :=
    fun d a b lim w h1 h2 h3 h4 h5 => ih0 (b - a) h1 d a b lim w rfl h2 h3 h4 h5
  have Ih := Lib.hid ih
  clear ih0 ih
  obtain ⟨T, hTe⟩ : ∃ T, T = pdq ltN d0 a0 b0 lim0 true true := ⟨_, rfl⟩
  have HT := Lib.hid hTe.symm
  have HT0 := Lib.hid hTe; clear hTe
  go_enter Try.func39, Try.ntmps39
  go_wp2
  go_loopw [1, 2, 3, 8, 9] (fun va vb vl vwb vwp wr => ∃ (a b lim : Nat) (wb wp : Bool) (d : Array Nat), va = .int .i64 a ∧ vb = .int .i64 b ∧ vl = .int .i64 lim ∧ vwb = .bool wb ∧ vwp = .bool wp ∧ a ≤ b ∧ b ≤ n ∧ b - a ≤ N ∧ lim ≤ 1000 ∧ Srt wr B g n c d ∧ Hid (pdq ltN d a b lim wb wp = T) ∧ But [g] w wr) (fun va vb _ _ _ _ => (intOf vb).toNat - (intOf va).toNat)
  case atStart => exact ⟨a0, b0, lim0, true, true, d0, rfl, rfl, rfl, rfl, rfl, hab0, hb0, by omega, hlim, h0, Lib.hid HT.out, But.refl _ _⟩
  case round =>
    obtain ⟨a, b, lim, wb, wp, d, rfl, rfl, rfl, rfl, rfl, hab, hb, hbaN, hlm, hd, hrel, hbut⟩ := hrel
    obtain ⟨wo, rfl⟩ : ∃ wo : World, wo = wr := ⟨_, rfl⟩
    obtain ⟨ln, hln⟩ : ∃ ln, ln = b - a := ⟨_, rfl⟩
    have wln : IntKind.i64.wrap ((b : Int) - (a : Int)) = (ln : Int) := by rw [IntKind.wrap_i64]; omega
    have hrel' := hrel
    clear hrel
    by_cases h12 : ln ≤ 12
    · have l12 : (ln : Int) ≤ 12 := by omega
      have hres : insertionSort ltN d a b = T := by rw [← hrel'.out, pdq_ins (by omega)]
      have Hres := Lib.hid hres; clear hres
      have Hln := Lib.hid hln; clear hln
      go_wp2_with fail
      refine (vInsG d B g n c a b wo hd hb (by omega) hn).mono ?_
      rintro e w4 ⟨rfl, h4, k4⟩
      go_wp2
      refine bodyPost_ret (results_none rfl _ _ _) rfl ⟨rfl, ?_, hbut.trans k4⟩
      rw [HT.out, ← Hres.out]; exact h4
    · have l12 : ¬ (ln : Int) ≤ 12 := by omega
      have hba : 12 < b - a := by omega
      have Hln := Lib.hid hln; clear hln
      by_cases hl0 : lim = 0
      · subst hl0
        have hres : heapSort ltN d a b = T := by rw [← hrel'.out, pdq_heap (by omega)]
        have Hres := Lib.hid hres; clear hres
        go_wp2_with fail
        refine (vHeap d B g n c a b wo hd hab hb hn).mono ?_
        rintro e w4 ⟨rfl, h4, k4⟩
        go_wp2
        refine bodyPost_ret (results_none rfl _ _ _) rfl ⟨rfl, ?_, hbut.trans k4⟩
        rw [HT.out, ← Hres.out]; exact h4
      · have ll0 : ¬ (lim : Int) = 0 := by omega
        have hpb := pdq_B (d := d) (a := a) (b := b) (wb := wb) (wp := wp) (show ¬ b - a ≤ 12 by omega) hl0
        rw [hrel'.out] at hpb
        cases wb with
        | false =>
          have HB := Lib.hid (show pdqB (breakPatterns d a b) a b (lim - 1) false wp = T from hpb.symm)
          clear hpb hrel'
          obtain ⟨lm, hlme⟩ : ∃ lm, lm = lim - 1 := ⟨_, rfl⟩
          have wlm : IntKind.i64.wrap ((lim : Int) - 1) = (lm : Int) := by rw [IntKind.wrap_i64]; omega
          have hlm2 : lm ≤ 1000 := by omega
          rw [← hlme] at HB
          have Hlme := Lib.hid hlme; clear hlme
          go_wp2_with fail
          refine (vBreak d B g n c a b wo hd (by omega) hb hn).mono ?_
          rintro e w1 ⟨rfl, h1, k1'⟩
          have k1 : But [g] w w1 := hbut.trans (but_fresh k1')
          clear k1' hd hbut
          obtain ⟨d1, hd1e⟩ : ∃ d1, d1 = breakPatterns d a b := ⟨_, rfl⟩
          rw [← hd1e] at HB h1
          clear hd1e
          go_wp2_with fail
          refine (vPivot d1 B g n c a b w1 h1 (by omega) hb hn).mono ?_
          rintro e w2 ⟨rfl, h2, kk2⟩
          have hcb := choosePivot_holds ltN d1 a b (by omega)
          obtain ⟨cp, ch, hcp⟩ : ∃ cp ch, choosePivot ltN d1 a b = (cp, ch) := ⟨_, _, rfl⟩
          have HB2 := Lib.hid (show pdqB2 d1 a b lm cp ch false wp = T by rw [← HB.out, pdqB, hcp])
          rw [hcp] at hcb ⊢
          simp only at hcb ⊢
          clear hcp
          obtain ⟨hc1, hc2⟩ := hcb
          obtain ⟨hv, hhv⟩ : ∃ hv, hv = hintV ch := ⟨_, rfl⟩
          rw [← hhv]
          have Hhv := Lib.hid hhv; clear hhv
          have k2 : But [g] w w2 := k1.trans (But.of_below kk2)
          clear kk2 h1 k1
          by_cases hdec : ch = .decreasing
          · have l2 : hv = 2 := by rw [Hhv.out, hdec]; rfl
            subst l2
            obtain ⟨c1, hc1⟩ : ∃ c1, c1 = cp - a := ⟨_, rfl⟩
            obtain ⟨b1, hb1⟩ : ∃ b1, b1 = b - 1 := ⟨_, rfl⟩
            obtain ⟨pv, hpv⟩ : ∃ pv, pv = (b - 1) - (cp - a) := ⟨_, rfl⟩
            have u1 : IntKind.i64.wrap ((b : Int) - 1) = (b1 : Int) := by rw [IntKind.wrap_i64]; omega
            have u2 : IntKind.i64.wrap ((cp : Int) - (a : Int)) = (c1 : Int) := by rw [IntKind.wrap_i64]; omega
            have u3 : IntKind.i64.wrap ((b1 : Int) - (c1 : Int)) = (pv : Int) := by rw [IntKind.wrap_i64]; omega
            have hpv1 : a ≤ pv := by omega
            have hpv2 : pv < b := by omega
            have hcc : pdqC (reverseRange d1 a b) a b lm pv .increasing false wp = T := by rw [← HB2.out, hdec, pdqB2_dec, hpv]
            have Hc := Lib.hid hcc; clear hcc
            have Hc1 := Lib.hid hc1; clear hc1
            have Hb1 := Lib.hid hb1; clear hb1
            have Hpv := Lib.hid hpv; clear hpv
            go_wp2_with fail
            refine (vReverse d1 B g n c a b w2 h2 (by omega) hb hn (by omega)).mono ?_
            rintro e ws ⟨rfl, hs, k3⟩
            have hbs := k2.trans k3
            obtain ⟨d2, hd2e⟩ : ∃ d2, d2 = reverseRange d1 a b := ⟨_, rfl⟩
            rw [← hd2e] at hs Hc
            clear hd2e h2 k2 k3
            as_aux_lemma =>
              have htail : pdqD d2 a b lm pv false wp = T := by rw [← Hc.out, pdqC_no (by simp)]
              have Htail := Lib.hid htail; clear htail
              obtain ⟨d3, hd3⟩ : ∃ d3, d3 = d2 := ⟨_, rfl⟩
              obtain ⟨wt, hwt⟩ : ∃ wt, wt = ws := ⟨_, rfl⟩
              rw [← hd3] at hs Htail
              clear hd3
              rw [← hwt] at hs hbs ⊢
              clear hwt
              have hT := hs
              have hbT := hbs
              clear hs hbs
              by_cases ha0 : 0 < a
              · have la0 : (0 : Int) < (a : Int) := by omega
                obtain ⟨a1, ha1⟩ : ∃ a1, a1 = a - 1 := ⟨_, rfl⟩
                have wa1 : IntKind.i64.wrap ((a : Int) - 1) = (a1 : Int) := by rw [IntKind.wrap_i64]; omega
                have la1 : (a1 : Int) < (n : Int) := by omega
                have lpv : (pv : Int) < (n : Int) := by omega
                obtain ⟨x, hx⟩ : ∃ x, x = d3[a1]! := ⟨_, rfl⟩
                obtain ⟨y, hy⟩ : ∃ y, y = d3[pv]! := ⟨_, rfl⟩
                have zx : ∀ w' : World, Srt w' B g n c d3 → w'.cell? ⟨g, a1, none⟩ = some (.int .u64 (x : Int)) := fun w' h => by rw [hx]; exact h.cell (by omega)
                have zy : ∀ w' : World, Srt w' B g n c d3 → w'.cell? ⟨g, pv, none⟩ = some (.int .u64 (y : Int)) := fun w' h => by rw [hy]; exact h.cell (by omega)
                have hS0 : Srt wt.drew B g n c d3 := hT.drew
                have Ha1 := Lib.hid ha1; clear ha1
                have Hx := Lib.hid hx; clear hx
                have Hy := Lib.hid hy; clear hy
                go_upto_region 17 with fail
                refine wp_region_N (fun w' => Srt w' B g n c d3) 100 (by kernel_rfl) ?_
                apply wpAnyN_takeL 0 (by kernel_rfl) rfl (fun _ _ _ h => h) (by kernel_rfl) hS0
                · intro w' hS'
                  go_simp; exact ⟨rfl, rfl⟩
                (try simp only [Act.put]); (try simp only [List.setIfInBounds_toArray]); (try simp only [List.set])
                apply wpAnyN_takeL 1 (by kernel_rfl) rfl (fun _ _ _ h => h) (by kernel_rfl) hS0
                · intro w' hS'
                  go_simp; exact ⟨rfl, rfl⟩
                (try simp only [Act.put]); (try simp only [List.setIfInBounds_toArray]); (try simp only [List.set])
                apply wpAnyN_takeL 2 (by kernel_rfl) rfl (fun _ _ _ h => h) (by kernel_rfl) hS0
                · intro w' hS'
                  go_simp; exact ⟨rfl, rfl⟩
                (try simp only [Act.put]); (try simp only [List.setIfInBounds_toArray]); (try simp only [List.set])
                apply wpAnyN_takeL 3 (by kernel_rfl) rfl (fun _ _ _ h => h) (by kernel_rfl) hS0
                · intro w' hS'
                  go_simp; exact ⟨rfl, rfl⟩
                (try simp only [Act.put]); (try simp only [List.setIfInBounds_toArray]); (try simp only [List.set])
                apply wpAnyN_takeL 4 (by kernel_rfl) rfl (fun _ _ _ h => h) (by kernel_rfl) hS0
                · intro w' hS'
                  go_simp; exact ⟨rfl, rfl⟩
                (try simp only [Act.put]); (try simp only [List.setIfInBounds_toArray]); (try simp only [List.set])
                apply wpAnyN_takeL 5 (by kernel_rfl) rfl (fun _ _ _ h => h) (by kernel_rfl) hS0
                · intro w' hS'
                  go_simp; exact ⟨rfl, rfl⟩
                (try simp only [Act.put]); (try simp only [List.setIfInBounds_toArray]); (try simp only [List.set])
                apply wpAnyN_takeL 6 (by kernel_rfl) rfl (fun _ _ _ h => h) (by kernel_rfl) hS0
                · intro w' hS'
                  go_simp; exact ⟨rfl, rfl⟩
                (try simp only [Act.put]); (try simp only [List.setIfInBounds_toArray]); (try simp only [List.set])
                apply wpAnyN_takeL 7 (by kernel_rfl) rfl (fun _ _ _ h => h) (by kernel_rfl) hS0
                · intro w' hS'
                  go_simp; exact ⟨rfl, rfl⟩
                (try simp only [Act.put]); (try simp only [List.setIfInBounds_toArray]); (try simp only [List.set])
                apply wpAnyN_takeL 8 (by kernel_rfl) rfl (fun _ _ _ h => h) (by kernel_rfl) hS0
                · intro w' hS'
                  go_simp; exact ⟨rfl, rfl⟩
                (try simp only [Act.put]); (try simp only [List.setIfInBounds_toArray]); (try simp only [List.set])
                apply wpAnyN_takeL 9 (by kernel_rfl) rfl (fun _ _ _ h => h) (by kernel_rfl) hS0
                · intro w' hS'
                  go_simp; exact ⟨rfl, rfl⟩
                (try simp only [Act.put]); (try simp only [List.setIfInBounds_toArray]); (try simp only [List.set])
                apply wpAnyN_takeL 10 (by kernel_rfl) rfl (fun _ _ _ h => h) (by kernel_rfl) hS0
                · intro w' hS'
                  go_simp; exact ⟨rfl, rfl⟩
                (try simp only [Act.put]); (try simp only [List.setIfInBounds_toArray]); (try simp only [List.set])
                apply wpAnyN_takeL 11 (by kernel_rfl) rfl (fun _ _ _ h => h) (by kernel_rfl) hS0
                · intro w' hS'
                  go_simp; exact ⟨rfl, rfl⟩
                (try simp only [Act.put]); (try simp only [List.setIfInBounds_toArray]); (try simp only [List.set])
                apply wpAnyN_takeL 12 (v := (.bool (ltN x y))) (by kernel_rfl) rfl (fun _ _ _ h => h) (by kernel_rfl) hS0
                · intro w' hS'
                  (go_simp; exact ⟨rfl, vLessB _ _ _⟩)
                (try simp only [Act.put]); (try simp only [List.setIfInBounds_toArray]); (try simp only [List.set])
                apply wpAnyN_takeL 13 (by kernel_rfl) rfl (fun _ _ _ h => h) (by kernel_rfl) hS0
                · intro w' hS'
                  go_simp; exact ⟨rfl, rfl⟩
                (try simp only [Act.put]); (try simp only [List.setIfInBounds_toArray]); (try simp only [List.set])
                apply wpAnyN_takeL 14 (by kernel_rfl) rfl (fun _ _ _ h => h) (by kernel_rfl) hS0
                · intro w' hS'
                  go_simp; exact ⟨rfl, rfl⟩
                (try simp only [Act.put]); (try simp only [List.setIfInBounds_toArray]); (try simp only [List.set])
                refine wpAnyN_done (by kernel_rfl) ?_ _
                cases hlt : ltN x y with
                | false =>
                  go_wp2_with fail
                  refine (vPartEq d3 B g n c a b pv wt.drew hS0 hpv1 hpv2 hb hn).mono ?_
                  rintro e w5 ⟨rfl, h5, k5, m1, m2⟩
                  obtain ⟨mid, d4, hpt⟩ : ∃ mid d4, partitionEqual ltN d3 a b pv = (mid, d4) := ⟨_, _, rfl⟩
                  rw [hpt] at h5 m1 m2
                  simp only at h5 m1 m2
                  have htg : pdq ltN d4 mid b lm false wp = T := by rw [← Htail.out, pdqD_eq (by rw [← Ha1.out, ← Hx.out, ← Hy.out, hlt]; simp [ha0]) hpt m1 m2]
                  rw [show (partitionEqual ltN d3 a b pv).1 = mid by rw [hpt]]
                  clear hpt
                  have Htg := Lib.hid htg; clear htg
                  go_wp2
                  refine ⟨⟨mid, b, lm, false, wp, d4, rfl, rfl, rfl, by first | rfl | simp, by first | rfl | simp, m2, hb, by omega, hlm2, h5, Lib.hid Htg.out, hbT.drew.trans k5⟩, by simp [intOf]; omega⟩
                | true =>
                  go_wp2_with fail
                  refine (vPart d3 B g n c a b pv wt.drew hS0 hpv1 hpv2 hb hn).mono ?_
                  rintro e w5 ⟨rfl, h5, k5, m1, m2⟩
                  obtain ⟨mid, ap, d4, hpt⟩ : ∃ mid ap d4, partition ltN d3 a b pv = (mid, ap, d4) := ⟨_, _, _, rfl⟩
                  rw [hpt] at h5 m1 m2
                  have htg : pdqE d4 a b mid lm ap = T := by rw [← Htail.out, pdqD_pt (by rw [← Ha1.out, ← Hx.out, ← Hy.out, hlt]; simp) hpt m1 m2]
                  simp only at h5 m1 m2
                  rw [show (partition ltN d3 a b pv).1 = mid by rw [hpt], show (partition ltN d3 a b pv).2.1 = ap by rw [hpt]]
                  clear hpt
                  have Htg := Lib.hid htg; clear htg
                  have hb5 : But [g] w w5 := hbT.drew.trans k5
                  obtain ⟨lf, hlf⟩ : ∃ lf, lf = mid - a := ⟨_, rfl⟩
                  obtain ⟨rt, hrt⟩ : ∃ rt, rt = b - mid := ⟨_, rfl⟩
                  obtain ⟨t8, ht8⟩ : ∃ t8, t8 = ln / 8 := ⟨_, rfl⟩
                  have v1 : IntKind.i64.wrap ((mid : Int) - (a : Int)) = (lf : Int) := by rw [IntKind.wrap_i64]; omega
                  have v2 : IntKind.i64.wrap ((b : Int) - (mid : Int)) = (rt : Int) := by rw [IntKind.wrap_i64]; omega
                  have v3 : IntKind.i64.wrap ((ln : Int) / 8) = (t8 : Int) := by have := Hln.out; rw [IntKind.wrap_i64]; omega
                  have v4 : IntKind.i64.wrap ((mid : Int) + 1) = ((mid + 1 : Nat) : Int) := by rw [IntKind.wrap_i64]; omega
                  have hbal1 : decide (mid - a ≥ (b - a) / 8) = decide (t8 ≤ lf) := by rw [hlf, ht8, Hln.out]
                  have hbal2 : decide (b - mid ≥ (b - a) / 8) = decide (t8 ≤ rt) := by rw [hrt, ht8, Hln.out]
                  have hcmp : (mid - a < b - mid) ↔ lf < rt := by rw [hlf, hrt]
                  have Hbal := Lib.hid (And.intro hbal1 (And.intro hbal2 hcmp)); clear hbal1 hbal2 hcmp
                  have Hlf := Lib.hid hlf; clear hlf
                  have Hrt := Lib.hid hrt; clear hrt
                  have Ht8 := Lib.hid ht8; clear ht8
                  by_cases hlr : lf < rt
                  · have lrt : (lf : Int) < (rt : Int) := by omega
                    go_upto_region 25 with fail
                    cases hbb : decide (t8 ≤ lf) with
                    | true =>
                      have lb : (t8 : Int) ≤ (lf : Int) := by have := of_decide_eq_true hbb; omega
                      go_wp2_with fail
                      refine (Ih.out d4 a mid lm w5 (by omega) m1 (by omega) hlm2 h5).mono ?_
                      rintro e w6 ⟨rfl, h6, k6⟩
                      go_wp2
                      refine ⟨⟨mid + 1, b, lm, _, ap, _, by simp, rfl, rfl, rfl, rfl, by omega, hb, by omega, hlm2, h6, Lib.hid ?_, hb5.trans k6⟩, by simp [intOf]; omega⟩
                      rw [← Htg.out, pdqE, if_pos (Hbal.out.2.2.2 hlr), Hbal.out.1, hbb]
                    | false =>
                      have lb : ¬ (t8 : Int) ≤ (lf : Int) := by have := of_decide_eq_false hbb; omega
                      go_wp2_with fail
                      refine (Ih.out d4 a mid lm w5 (by omega) m1 (by omega) hlm2 h5).mono ?_
                      rintro e w6 ⟨rfl, h6, k6⟩
                      go_wp2
                      refine ⟨⟨mid + 1, b, lm, _, ap, _, by simp, rfl, rfl, rfl, rfl, by omega, hb, by omega, hlm2, h6, Lib.hid ?_, hb5.trans k6⟩, by simp [intOf]; omega⟩
                      rw [← Htg.out, pdqE, if_pos (Hbal.out.2.2.2 hlr), Hbal.out.1, hbb]
                  · have lrt : ¬ (lf : Int) < (rt : Int) := by omega
                    go_upto_region 28 with fail
                    cases hbb : decide (t8 ≤ rt) with
                    | true =>
                      have lb : (t8 : Int) ≤ (rt : Int) := by have := of_decide_eq_true hbb; omega
                      go_wp2_with fail
                      refine (Ih.out d4 (mid + 1) b lm w5 (by omega) (by omega) hb hlm2 h5).mono ?_
                      rintro e w6 ⟨rfl, h6, k6⟩
                      go_wp2
                      refine ⟨⟨a, mid, lm, _, ap, _, rfl, rfl, rfl, rfl, rfl, m1, by omega, by omega, hlm2, h6, Lib.hid ?_, hb5.trans k6⟩, by simp [intOf]; omega⟩
                      rw [← Htg.out, pdqE, if_neg (fun h => hlr (Hbal.out.2.2.1 h)), Hbal.out.2.1, hbb]
                    | false =>
                      have lb : ¬ (t8 : Int) ≤ (rt : Int) := by have := of_decide_eq_false hbb; omega
                      go_wp2_with fail
                      refine (Ih.out d4 (mid + 1) b lm w5 (by omega) (by omega) hb hlm2 h5).mono ?_
                      rintro e w6 ⟨rfl, h6, k6⟩
                      go_wp2
                      refine ⟨⟨a, mid, lm, _, ap, _, rfl, rfl, rfl, rfl, rfl, m1, by omega, by omega, hlm2, h6, Lib.hid ?_, hb5.trans k6⟩, by simp [intOf]; omega⟩
                      rw [← Htg.out, pdqE, if_neg (fun h => hlr (Hbal.out.2.2.1 h)), Hbal.out.2.1, hbb]
              · have la0 : ¬ (0 : Int) < (a : Int) := by omega
                have hS0 : Srt wt.drew B g n c d3 := hT.drew
                go_upto_region 17 with fail
                refine wp_region_N (fun w' => Srt w' B g n c d3) 100 (by kernel_rfl) ?_
                apply wpAnyN_takeL 0 (by kernel_rfl) rfl (fun _ _ _ h => h) (by kernel_rfl) hS0
                · intro w' hS'
                  go_simp; exact ⟨rfl, rfl⟩
                (try simp only [Act.put]); (try simp only [List.setIfInBounds_toArray]); (try simp only [List.set])
                apply wpAnyN_takeL 1 (by kernel_rfl) rfl (fun _ _ _ h => h) (by kernel_rfl) hS0
                · intro w' hS'
                  go_simp; exact ⟨rfl, rfl⟩
                (try simp only [Act.put]); (try simp only [List.setIfInBounds_toArray]); (try simp only [List.set])
                apply wpAnyN_takeL 2 (by kernel_rfl) rfl (fun _ _ _ h => h) (by kernel_rfl) hS0
                · intro w' hS'
                  go_simp; exact ⟨rfl, rfl⟩
                (try simp only [Act.put]); (try simp only [List.setIfInBounds_toArray]); (try simp only [List.set])
                refine wpAnyN_skipL 3 (by kernel_rfl) rfl (fun _ _ _ h => h) (by kernel_rfl) hS0 ?_
                (try simp only [Act.put]); (try simp only [List.setIfInBounds_toArray]); (try simp only [List.set])
                refine wpAnyN_skipL 4 (by kernel_rfl) rfl (fun _ _ _ h => h) (by kernel_rfl) hS0 ?_
                (try simp only [Act.put]); (try simp only [List.setIfInBounds_toArray]); (try simp only [List.set])
                refine wpAnyN_skipL 5 (by kernel_rfl) rfl (fun _ _ _ h => h) (by kernel_rfl) hS0 ?_
                (try simp only [Act.put]); (try simp only [List.setIfInBounds_toArray]); (try simp only [List.set])
                refine wpAnyN_skipL 6 (by kernel_rfl) rfl (fun _ _ _ h => h) (by kernel_rfl) hS0 ?_
                (try simp only [Act.put]); (try simp only [List.setIfInBounds_toArray]); (try simp only [List.set])
                refine wpAnyN_skipL 7 (by kernel_rfl) rfl (fun _ _ _ h => h) (by kernel_rfl) hS0 ?_
                (try simp only [Act.put]); (try simp only [List.setIfInBounds_toArray]); (try simp only [List.set])
                refine wpAnyN_skipL 8 (by kernel_rfl) rfl (fun _ _ _ h => h) (by kernel_rfl) hS0 ?_
                (try simp only [Act.put]); (try simp only [List.setIfInBounds_toArray]); (try simp only [List.set])
                refine wpAnyN_skipL 9 (by kernel_rfl) rfl (fun _ _ _ h => h) (by kernel_rfl) hS0 ?_
                (try simp only [Act.put]); (try simp only [List.setIfInBounds_toArray]); (try simp only [List.set])
                refine wpAnyN_skipL 10 (by kernel_rfl) rfl (fun _ _ _ h => h) (by kernel_rfl) hS0 ?_
                (try simp only [Act.put]); (try simp only [List.setIfInBounds_toArray]); (try simp only [List.set])
                refine wpAnyN_skipL 11 (by kernel_rfl) rfl (fun _ _ _ h => h) (by kernel_rfl) hS0 ?_
                (try simp only [Act.put]); (try simp only [List.setIfInBounds_toArray]); (try simp only [List.set])
                refine wpAnyN_skipL 12 (by kernel_rfl) rfl (fun _ _ _ h => h) (by kernel_rfl) hS0 ?_
                (try simp only [Act.put]); (try simp only [List.setIfInBounds_toArray]); (try simp only [List.set])
                refine wpAnyN_skipL 13 (by kernel_rfl) rfl (fun _ _ _ h => h) (by kernel_rfl) hS0 ?_
                (try simp only [Act.put]); (try simp only [List.setIfInBounds_toArray]); (try simp only [List.set])
                apply wpAnyN_takeL 14 (by kernel_rfl) rfl (fun _ _ _ h => h) (by kernel_rfl) hS0
                · intro w' hS'
                  go_simp; exact ⟨rfl, rfl⟩
                (try simp only [Act.put]); (try simp only [List.setIfInBounds_toArray]); (try simp only [List.set])
                refine wpAnyN_done (by kernel_rfl) ?_ _
                go_wp2_with fail
                refine (vPart d3 B g n c a b pv wt.drew hS0 hpv1 hpv2 hb hn).mono ?_
                rintro e w5 ⟨rfl, h5, k5, m1, m2⟩
                obtain ⟨mid, ap, d4, hpt⟩ : ∃ mid ap d4, partition ltN d3 a b pv = (mid, ap, d4) := ⟨_, _, _, rfl⟩
                rw [hpt] at h5 m1 m2
                have htg : pdqE d4 a b mid lm ap = T := by rw [← Htail.out, pdqD_pt (by simp [show a = 0 by omega]) hpt m1 m2]
                simp only at h5 m1 m2
                rw [show (partition ltN d3 a b pv).1 = mid by rw [hpt], show (partition ltN d3 a b pv).2.1 = ap by rw [hpt]]
                clear hpt
                have Htg := Lib.hid htg; clear htg
                have hb5 : But [g] w w5 := hbT.drew.trans k5
                obtain ⟨lf, hlf⟩ : ∃ lf, lf = mid - a := ⟨_, rfl⟩
                obtain ⟨rt, hrt⟩ : ∃ rt, rt = b - mid := ⟨_, rfl⟩
                obtain ⟨t8, ht8⟩ : ∃ t8, t8 = ln / 8 := ⟨_, rfl⟩
                have v1 : IntKind.i64.wrap ((mid : Int) - (a : Int)) = (lf : Int) := by rw [IntKind.wrap_i64]; omega
                have v2 : IntKind.i64.wrap ((b : Int) - (mid : Int)) = (rt : Int) := by rw [IntKind.wrap_i64]; omega
                have v3 : IntKind.i64.wrap ((ln : Int) / 8) = (t8 : Int) := by have := Hln.out; rw [IntKind.wrap_i64]; omega
                have v4 : IntKind.i64.wrap ((mid : Int) + 1) = ((mid + 1 : Nat) : Int) := by rw [IntKind.wrap_i64]; omega
                have hbal1 : decide (mid - a ≥ (b - a) / 8) = decide (t8 ≤ lf) := by rw [hlf, ht8, Hln.out]
                have hbal2 : decide (b - mid ≥ (b - a) / 8) = decide (t8 ≤ rt) := by rw [hrt, ht8, Hln.out]
                have hcmp : (mid - a < b - mid) ↔ lf < rt := by rw [hlf, hrt]
                have Hbal := Lib.hid (And.intro hbal1 (And.intro hbal2 hcmp)); clear hbal1 hbal2 hcmp
                have Hlf := Lib.hid hlf; clear hlf
                have Hrt := Lib.hid hrt; clear hrt
                have Ht8 := Lib.hid ht8; clear ht8
                by_cases hlr : lf < rt
                · have lrt : (lf : Int) < (rt : Int) := by omega
                  go_upto_region 25 with fail
                  cases hbb : decide (t8 ≤ lf) with
                  | true =>
                    have lb : (t8 : Int) ≤ (lf : Int) := by have := of_decide_eq_true hbb; omega
                    go_wp2_with fail
                    refine (Ih.out d4 a mid lm w5 (by omega) m1 (by omega) hlm2 h5).mono ?_
                    rintro e w6 ⟨rfl, h6, k6⟩
                    go_wp2
                    refine ⟨⟨mid + 1, b, lm, _, ap, _, by simp, rfl, rfl, rfl, rfl, by omega, hb, by omega, hlm2, h6, Lib.hid ?_, hb5.trans k6⟩, by simp [intOf]; omega⟩
                    rw [← Htg.out, pdqE, if_pos (Hbal.out.2.2.2 hlr), Hbal.out.1, hbb]
                  | false =>
                    have lb : ¬ (t8 : Int) ≤ (lf : Int) := by have := of_decide_eq_false hbb; omega
                    go_wp2_with fail
                    refine (Ih.out d4 a mid lm w5 (by omega) m1 (by omega) hlm2 h5).mono ?_
                    rintro e w6 ⟨rfl, h6, k6⟩
                    go_wp2
                    refine ⟨⟨mid + 1, b, lm, _, ap, _, by simp, rfl, rfl, rfl, rfl, by omega, hb, by omega, hlm2, h6, Lib.hid ?_, hb5.trans k6⟩, by simp [intOf]; omega⟩
                    rw [← Htg.out, pdqE, if_pos (Hbal.out.2.2.2 hlr), Hbal.out.1, hbb]
                · have lrt : ¬ (lf : Int) < (rt : Int) := by omega
                  go_upto_region 28 with fail
                  cases hbb : decide (t8 ≤ rt) with
                  | true =>
                    have lb : (t8 : Int) ≤ (rt : Int) := by have := of_decide_eq_true hbb; omega
                    go_wp2_with fail
                    refine (Ih.out d4 (mid + 1) b lm w5 (by omega) (by omega) hb hlm2 h5).mono ?_
                    rintro e w6 ⟨rfl, h6, k6⟩
                    go_wp2
                    refine ⟨⟨a, mid, lm, _, ap, _, rfl, rfl, rfl, rfl, rfl, m1, by omega, by omega, hlm2, h6, Lib.hid ?_, hb5.trans k6⟩, by simp [intOf]; omega⟩
                    rw [← Htg.out, pdqE, if_neg (fun h => hlr (Hbal.out.2.2.1 h)), Hbal.out.2.1, hbb]
                  | false =>
                    have lb : ¬ (t8 : Int) ≤ (rt : Int) := by have := of_decide_eq_false hbb; omega
                    go_wp2_with fail
                    refine (Ih.out d4 (mid + 1) b lm w5 (by omega) (by omega) hb hlm2 h5).mono ?_
                    rintro e w6 ⟨rfl, h6, k6⟩
                    go_wp2
                    refine ⟨⟨a, mid, lm, _, ap, _, rfl, rfl, rfl, rfl, rfl, m1, by omega, by omega, hlm2, h6, Lib.hid ?_, hb5.trans k6⟩, by simp [intOf]; omega⟩
                    rw [← Htg.out, pdqE, if_neg (fun h => hlr (Hbal.out.2.2.1 h)), Hbal.out.2.1, hbb]
          · have l2 : ¬ hv = 2 := by rw [Hhv.out]; intro h; apply hdec; cases ch <;> simp_all [hintV]
            obtain ⟨pv, hpv⟩ : ∃ pv, pv = cp := ⟨_, rfl⟩
            subst hpv
            have hpv1 : a ≤ pv := hc1
            have hpv2 : pv < b := hc2
            have hcc : pdqC d1 a b lm pv ch false wp = T := by rw [← HB2.out, pdqB2_no hdec]
            have Hc := Lib.hid hcc; clear hcc
            obtain ⟨ws, hws⟩ : ∃ ws, ws = w2 := ⟨_, rfl⟩
            obtain ⟨d2, hd2e⟩ : ∃ d2, d2 = d1 := ⟨_, rfl⟩
            rw [← hd2e] at Hc
            have hs : Srt ws B g n c d2 := by rw [hws, hd2e]; exact h2
            have hbs : But [g] w ws := by rw [hws]; exact k2
            rw [← hws]
            clear hws hd2e h2 k2
            as_aux_lemma =>
              have htail : pdqD d2 a b lm pv false wp = T := by rw [← Hc.out, pdqC_no (by simp)]
              have Htail := Lib.hid htail; clear htail
              obtain ⟨d3, hd3⟩ : ∃ d3, d3 = d2 := ⟨_, rfl⟩
              obtain ⟨wt, hwt⟩ : ∃ wt, wt = ws := ⟨_, rfl⟩
              rw [← hd3] at hs Htail
              clear hd3
              rw [← hwt] at hs hbs ⊢
              clear hwt
              have hT := hs
              have hbT := hbs
              clear hs hbs
              by_cases ha0 : 0 < a
              · have la0 : (0 : Int) < (a : Int) := by omega
                obtain ⟨a1, ha1⟩ : ∃ a1, a1 = a - 1 := ⟨_, rfl⟩
                have wa1 : IntKind.i64.wrap ((a : Int) - 1) = (a1 : Int) := by rw [IntKind.wrap_i64]; omega
                have la1 : (a1 : Int) < (n : Int) := by omega
                have lpv : (pv : Int) < (n : Int) := by omega
                obtain ⟨x, hx⟩ : ∃ x, x = d3[a1]! := ⟨_, rfl⟩
                obtain ⟨y, hy⟩ : ∃ y, y = d3[pv]! := ⟨_, rfl⟩
                have zx : ∀ w' : World, Srt w' B g n c d3 → w'.cell? ⟨g, a1, none⟩ = some (.int .u64 (x : Int)) := fun w' h => by rw [hx]; exact h.cell (by omega)
                have zy : ∀ w' : World, Srt w' B g n c d3 → w'.cell? ⟨g, pv, none⟩ = some (.int .u64 (y : Int)) := fun w' h => by rw [hy]; exact h.cell (by omega)
                have hS0 : Srt wt.drew B g n c d3 := hT.drew
                have Ha1 := Lib.hid ha1; clear ha1
                have Hx := Lib.hid hx; clear hx
                have Hy := Lib.hid hy; clear hy
                go_upto_region 17 with fail
                refine wp_region_N (fun w' => Srt w' B g n c d3) 100 (by kernel_rfl) ?_
                apply wpAnyN_takeL 0 (by kernel_rfl) rfl (fun _ _ _ h => h) (by kernel_rfl) hS0
                · intro w' hS'
                  go_simp; exact ⟨rfl, rfl⟩
                (try simp only [Act.put]); (try simp only [List.setIfInBounds_toArray]); (try simp only [List.set])
                apply wpAnyN_takeL 1 (by kernel_rfl) rfl (fun _ _ _ h => h) (by kernel_rfl) hS0
                · intro w' hS'
                  go_simp; exact ⟨rfl, rfl⟩
                (try simp only [Act.put]); (try simp only [List.setIfInBounds_toArray]); (try simp only [List.set])
                apply wpAnyN_takeL 2 (by kernel_rfl) rfl (fun _ _ _ h => h) (by kernel_rfl) hS0
                · intro w' hS'
                  go_simp; exact ⟨rfl, rfl⟩
                (try simp only [Act.put]); (try simp only [List.setIfInBounds_toArray]); (try simp only [List.set])
                apply wpAnyN_takeL 3 (by kernel_rfl) rfl (fun _ _ _ h => h) (by kernel_rfl) hS0
                · intro w' hS'
                  go_simp; exact ⟨rfl, rfl⟩
                (try simp only [Act.put]); (try simp only [List.setIfInBounds_toArray]); (try simp only [List.set])
                apply wpAnyN_takeL 4 (by kernel_rfl) rfl (fun _ _ _ h => h) (by kernel_rfl) hS0
                · intro w' hS'
                  go_simp; exact ⟨rfl, rfl⟩
                (try simp only [Act.put]); (try simp only [List.setIfInBounds_toArray]); (try simp only [List.set])
                apply wpAnyN_takeL 5 (by kernel_rfl) rfl (fun _ _ _ h => h) (by kernel_rfl) hS0
                · intro w' hS'
                  go_simp; exact ⟨rfl, rfl⟩
                (try simp only [Act.put]); (try simp only [List.setIfInBounds_toArray]); (try simp only [List.set])
                apply wpAnyN_takeL 6 (by kernel_rfl) rfl (fun _ _ _ h => h) (by kernel_rfl) hS0
                · intro w' hS'
                  go_simp; exact ⟨rfl, rfl⟩
                (try simp only [Act.put]); (try simp only [List.setIfInBounds_toArray]); (try simp only [List.set])
                apply wpAnyN_takeL 7 (by kernel_rfl) rfl (fun _ _ _ h => h) (by kernel_rfl) hS0
                · intro w' hS'
                  go_simp; exact ⟨rfl, rfl⟩
                (try simp only [Act.put]); (try simp only [List.setIfInBounds_toArray]); (try simp only [List.set])
                apply wpAnyN_takeL 8 (by kernel_rfl) rfl (fun _ _ _ h => h) (by kernel_rfl) hS0
                · intro w' hS'
                  go_simp; exact ⟨rfl, rfl⟩
                (try simp only [Act.put]); (try simp only [List.setIfInBounds_toArray]); (try simp only [List.set])
                apply wpAnyN_takeL 9 (by kernel_rfl) rfl (fun _ _ _ h => h) (by kernel_rfl) hS0
                · intro w' hS'
                  go_simp; exact ⟨rfl, rfl⟩
                (try simp only [Act.put]); (try simp only [List.setIfInBounds_toArray]); (try simp only [List.set])
                apply wpAnyN_takeL 10 (by kernel_rfl) rfl (fun _ _ _ h => h) (by kernel_rfl) hS0
                · intro w' hS'
                  go_simp; exact ⟨rfl, rfl⟩
                (try simp only [Act.put]); (try simp only [List.setIfInBounds_toArray]); (try simp only [List.set])
                apply wpAnyN_takeL 11 (by kernel_rfl) rfl (fun _ _ _ h => h) (by kernel_rfl) hS0
                · intro w' hS'
                  go_simp; exact ⟨rfl, rfl⟩
                (try simp only [Act.put]); (try simp only [List.setIfInBounds_toArray]); (try simp only [List.set])
                apply wpAnyN_takeL 12 (v := (.bool (ltN x y))) (by kernel_rfl) rfl (fun _ _ _ h => h) (by kernel_rfl) hS0
                · intro w' hS'
                  (go_simp; exact ⟨rfl, vLessB _ _ _⟩)
                (try simp only [Act.put]); (try simp only [List.setIfInBounds_toArray]); (try simp only [List.set])
                apply wpAnyN_takeL 13 (by kernel_rfl) rfl (fun _ _ _ h => h) (by kernel_rfl) hS0
                · intro w' hS'
                  go_simp; exact ⟨rfl, rfl⟩
                (try simp only [Act.put]); (try simp only [List.setIfInBounds_toArray]); (try simp only [List.set])
                apply wpAnyN_takeL 14 (by kernel_rfl) rfl (fun _ _ _ h => h) (by kernel_rfl) hS0
                · intro w' hS'
                  go_simp; exact ⟨rfl, rfl⟩
                (try simp only [Act.put]); (try simp only [List.setIfInBounds_toArray]); (try simp only [List.set])
                refine wpAnyN_done (by kernel_rfl) ?_ _
                cases hlt : ltN x y with
                | false =>
                  go_wp2_with fail
                  refine (vPartEq d3 B g n c a b pv wt.drew hS0 hpv1 hpv2 hb hn).mono ?_
                  rintro e w5 ⟨rfl, h5, k5, m1, m2⟩
                  obtain ⟨mid, d4, hpt⟩ : ∃ mid d4, partitionEqual ltN d3 a b pv = (mid, d4) := ⟨_, _, rfl⟩
                  rw [hpt] at h5 m1 m2
                  simp only at h5 m1 m2
                  have htg : pdq ltN d4 mid b lm false wp = T := by rw [← Htail.out, pdqD_eq (by rw [← Ha1.out, ← Hx.out, ← Hy.out, hlt]; simp [ha0]) hpt m1 m2]
                  rw [show (partitionEqual ltN d3 a b pv).1 = mid by rw [hpt]]
                  clear hpt
                  have Htg := Lib.hid htg; clear htg
                  go_wp2
                  refine ⟨⟨mid, b, lm, false, wp, d4, rfl, rfl, rfl, by first | rfl | simp, by first | rfl | simp, m2, hb, by omega, hlm2, h5, Lib.hid Htg.out, hbT.drew.trans k5⟩, by simp [intOf]; omega⟩
                | true =>
                  go_wp2_with fail
                  refine (vPart d3 B g n c a b pv wt.drew hS0 hpv1 hpv2 hb hn).mono ?_
                  rintro e w5 ⟨rfl, h5, k5, m1, m2⟩
                  obtain ⟨mid, ap, d4, hpt⟩ : ∃ mid ap d4, partition ltN d3 a b pv = (mid, ap, d4) := ⟨_, _, _, rfl⟩
                  rw [hpt] at h5 m1 m2
                  have htg : pdqE d4 a b mid lm ap = T := by rw [← Htail.out, pdqD_pt (by rw [← Ha1.out, ← Hx.out, ← Hy.out, hlt]; simp) hpt m1 m2]
                  simp only at h5 m1 m2
                  rw [show (partition ltN d3 a b pv).1 = mid by rw [hpt], show (partition ltN d3 a b pv).2.1 = ap by rw [hpt]]
                  clear hpt
                  have Htg := Lib.hid htg; clear htg
                  have hb5 : But [g] w w5 := hbT.drew.trans k5
                  obtain ⟨lf, hlf⟩ : ∃ lf, lf = mid - a := ⟨_, rfl⟩
                  obtain ⟨rt, hrt⟩ : ∃ rt, rt = b - mid := ⟨_, rfl⟩
                  obtain ⟨t8, ht8⟩ : ∃ t8, t8 = ln / 8 := ⟨_, rfl⟩
                  have v1 : IntKind.i64.wrap ((mid : Int) - (a : Int)) = (lf : Int) := by rw [IntKind.wrap_i64]; omega
                  have v2 : IntKind.i64.wrap ((b : Int) - (mid : Int)) = (rt : Int) := by rw [IntKind.wrap_i64]; omega
                  have v3 : IntKind.i64.wrap ((ln : Int) / 8) = (t8 : Int) := by have := Hln.out; rw [IntKind.wrap_i64]; omega
                  have v4 : IntKind.i64.wrap ((mid : Int) + 1) = ((mid + 1 : Nat) : Int) := by rw [IntKind.wrap_i64]; omega
                  have hbal1 : decide (mid - a ≥ (b - a) / 8) = decide (t8 ≤ lf) := by rw [hlf, ht8, Hln.out]
                  have hbal2 : decide (b - mid ≥ (b - a) / 8) = decide (t8 ≤ rt) := by rw [hrt, ht8, Hln.out]
                  have hcmp : (mid - a < b - mid) ↔ lf < rt := by rw [hlf, hrt]
                  have Hbal := Lib.hid (And.intro hbal1 (And.intro hbal2 hcmp)); clear hbal1 hbal2 hcmp
                  have Hlf := Lib.hid hlf; clear hlf
                  have Hrt := Lib.hid hrt; clear hrt
                  have Ht8 := Lib.hid ht8; clear ht8
                  by_cases hlr : lf < rt
                  · have lrt : (lf : Int) < (rt : Int) := by omega
                    go_upto_region 25 with fail
                    cases hbb : decide (t8 ≤ lf) with
                    | true =>
                      have lb : (t8 : Int) ≤ (lf : Int) := by have := of_decide_eq_true hbb; omega
                      go_wp2_with fail
                      refine (Ih.out d4 a mid lm w5 (by omega) m1 (by omega) hlm2 h5).mono ?_
                      rintro e w6 ⟨rfl, h6, k6⟩
                      go_wp2
                      refine ⟨⟨mid + 1, b, lm, _, ap, _, by simp, rfl, rfl, rfl, rfl, by omega, hb, by omega, hlm2, h6, Lib.hid ?_, hb5.trans k6⟩, by simp [intOf]; omega⟩
                      rw [← Htg.out, pdqE, if_pos (Hbal.out.2.2.2 hlr), Hbal.out.1, hbb]
                    | false =>
                      have lb : ¬ (t8 : Int) ≤ (lf : Int) := by have := of_decide_eq_false hbb; omega
                      go_wp2_with fail
                      refine (Ih.out d4 a mid lm w5 (by omega) m1 (by omega) hlm2 h5).mono ?_
                      rintro e w6 ⟨rfl, h6, k6⟩
                      go_wp2
                      refine ⟨⟨mid + 1, b, lm, _, ap, _, by simp, rfl, rfl, rfl, rfl, by omega, hb, by omega, hlm2, h6, Lib.hid ?_, hb5.trans k6⟩, by simp [intOf]; omega⟩
                      rw [← Htg.out, pdqE, if_pos (Hbal.out.2.2.2 hlr), Hbal.out.1, hbb]
                  · have lrt : ¬ (lf : Int) < (rt : Int) := by omega
                    go_upto_region 28 with fail
                    cases hbb : decide (t8 ≤ rt) with
                    | true =>
                      have lb : (t8 : Int) ≤ (rt : Int) := by have := of_decide_eq_true hbb; omega
                      go_wp2_with fail
                      refine (Ih.out d4 (mid + 1) b lm w5 (by omega) (by omega) hb hlm2 h5).mono ?_
                      rintro e w6 ⟨rfl, h6, k6⟩
                      go_wp2
                      refine ⟨⟨a, mid, lm, _, ap, _, rfl, rfl, rfl, rfl, rfl, m1, by omega, by omega, hlm2, h6, Lib.hid ?_, hb5.trans k6⟩, by simp [intOf]; omega⟩
                      rw [← Htg.out, pdqE, if_neg (fun h => hlr (Hbal.out.2.2.1 h)), Hbal.out.2.1, hbb]
                    | false =>
                      have lb : ¬ (t8 : Int) ≤ (rt : Int) := by have := of_decide_eq_false hbb; omega
                      go_wp2_with fail
                      refine (Ih.out d4 (mid + 1) b lm w5 (by omega) (by omega) hb hlm2 h5).mono ?_
                      rintro e w6 ⟨rfl, h6, k6⟩
                      go_wp2
                      refine ⟨⟨a, mid, lm, _, ap, _, rfl, rfl, rfl, rfl, rfl, m1, by omega, by omega, hlm2, h6, Lib.hid ?_, hb5.trans k6⟩, by simp [intOf]; omega⟩
                      rw [← Htg.out, pdqE, if_neg (fun h => hlr (Hbal.out.2.2.1 h)), Hbal.out.2.1, hbb]
              · have la0 : ¬ (0 : Int) < (a : Int) := by omega
                have hS0 : Srt wt.drew B g n c d3 := hT.drew
                go_upto_region 17 with fail
                refine wp_region_N (fun w' => Srt w' B g n c d3) 100 (by kernel_rfl) ?_
                apply wpAnyN_takeL 0 (by kernel_rfl) rfl (fun _ _ _ h => h) (by kernel_rfl) hS0
                · intro w' hS'
                  go_simp; exact ⟨rfl, rfl⟩
                (try simp only [Act.put]); (try simp only [List.setIfInBounds_toArray]); (try simp only [List.set])
                apply wpAnyN_takeL 1 (by kernel_rfl) rfl (fun _ _ _ h => h) (by kernel_rfl) hS0
                · intro w' hS'
                  go_simp; exact ⟨rfl, rfl⟩
                (try simp only [Act.put]); (try simp only [List.setIfInBounds_toArray]); (try simp only [List.set])
                apply wpAnyN_takeL 2 (by kernel_rfl) rfl (fun _ _ _ h => h) (by kernel_rfl) hS0
                · intro w' hS'
                  go_simp; exact ⟨rfl, rfl⟩
                (try simp only [Act.put]); (try simp only [List.setIfInBounds_toArray]); (try simp only [List.set])
                refine wpAnyN_skipL 3 (by kernel_rfl) rfl (fun _ _ _ h => h) (by kernel_rfl) hS0 ?_
                (try simp only [Act.put]); (try simp only [List.setIfInBounds_toArray]); (try simp only [List.set])
                refine wpAnyN_skipL 4 (by kernel_rfl) rfl (fun _ _ _ h => h) (by kernel_rfl) hS0 ?_
                (try simp only [Act.put]); (try simp only [List.setIfInBounds_toArray]); (try simp only [List.set])
                refine wpAnyN_skipL 5 (by kernel_rfl) rfl (fun _ _ _ h => h) (by kernel_rfl) hS0 ?_
                (try simp only [Act.put]); (try simp only [List.setIfInBounds_toArray]); (try simp only [List.set])
                refine wpAnyN_skipL 6 (by kernel_rfl) rfl (fun _ _ _ h => h) (by kernel_rfl) hS0 ?_
                (try simp only [Act.put]); (try simp only [List.setIfInBounds_toArray]); (try simp only [List.set])
                refine wpAnyN_skipL 7 (by kernel_rfl) rfl (fun _ _ _ h => h) (by kernel_rfl) hS0 ?_
                (try simp only [Act.put]); (try simp only [List.setIfInBounds_toArray]); (try simp only [List.set])
                refine wpAnyN_skipL 8 (by kernel_rfl) rfl (fun _ _ _ h => h) (by kernel_rfl) hS0 ?_
                (try simp only [Act.put]); (try simp only [List.setIfInBounds_toArray]); (try simp only [List.set])
                refine wpAnyN_skipL 9 (by kernel_rfl) rfl (fun _ _ _ h => h) (by kernel_rfl) hS0 ?_
                (try simp only [Act.put]); (try simp only [List.setIfInBounds_toArray]); (try simp only [List.set])
                refine wpAnyN_skipL 10 (by kernel_rfl) rfl (fun _ _ _ h => h) (by kernel_rfl) hS0 ?_
                (try simp only [Act.put]); (try simp only [List.setIfInBounds_toArray]); (try simp only [List.set])
                refine wpAnyN_skipL 11 (by kernel_rfl) rfl (fun _ _ _ h => h) (by kernel_rfl) hS0 ?_
                (try simp only [Act.put]); (try simp only [List.setIfInBounds_toArray]); (try simp only [List.set])
                refine wpAnyN_skipL 12 (by kernel_rfl) rfl (fun _ _ _ h => h) (by kernel_rfl) hS0 ?_
                (try simp only [Act.put]); (try simp only [List.setIfInBounds_toArray]); (try simp only [List.set])
                refine wpAnyN_skipL 13 (by kernel_rfl) rfl (fun _ _ _ h => h) (by kernel_rfl) hS0 ?_
                (try simp only [Act.put]); (try simp only [List.setIfInBounds_toArray]); (try simp only [List.set])
                apply wpAnyN_takeL 14 (by kernel_rfl) rfl (fun _ _ _ h => h) (by kernel_rfl) hS0
                · intro w' hS'
                  go_simp; exact ⟨rfl, rfl⟩
                (try simp only [Act.put]); (try simp only [List.setIfInBounds_toArray]); (try simp only [List.set])
                refine wpAnyN_done (by kernel_rfl) ?_ _
                go_wp2_with fail
                refine (vPart d3 B g n c a b pv wt.drew hS0 hpv1 hpv2 hb hn).mono ?_
                rintro e w5 ⟨rfl, h5, k5, m1, m2⟩
                obtain ⟨mid, ap, d4, hpt⟩ : ∃ mid ap d4, partition ltN d3 a b pv = (mid, ap, d4) := ⟨_, _, _, rfl⟩
                rw [hpt] at h5 m1 m2
                have htg : pdqE d4 a b mid lm ap = T := by rw [← Htail.out, pdqD_pt (by simp [show a = 0 by omega]) hpt m1 m2]
                simp only at h5 m1 m2
                rw [show (partition ltN d3 a b pv).1 = mid by rw [hpt], show (partition ltN d3 a b pv).2.1 = ap by rw [hpt]]
                clear hpt
                have Htg := Lib.hid htg; clear htg
                have hb5 : But [g] w w5 := hbT.drew.trans k5
                obtain ⟨lf, hlf⟩ : ∃ lf, lf = mid - a := ⟨_, rfl⟩
                obtain ⟨rt, hrt⟩ : ∃ rt, rt = b - mid := ⟨_, rfl⟩
                obtain ⟨t8, ht8⟩ : ∃ t8, t8 = ln / 8 := ⟨_, rfl⟩
                have v1 : IntKind.i64.wrap ((mid : Int) - (a : Int)) = (lf : Int) := by rw [IntKind.wrap_i64]; omega
                have v2 : IntKind.i64.wrap ((b : Int) - (mid : Int)) = (rt : Int) := by rw [IntKind.wrap_i64]; omega
                have v3 : IntKind.i64.wrap ((ln : Int) / 8) = (t8 : Int) := by have := Hln.out; rw [IntKind.wrap_i64]; omega
                have v4 : IntKind.i64.wrap ((mid : Int) + 1) = ((mid + 1 : Nat) : Int) := by rw [IntKind.wrap_i64]; omega
                have hbal1 : decide (mid - a ≥ (b - a) / 8) = decide (t8 ≤ lf) := by rw [hlf, ht8, Hln.out]
                have hbal2 : decide (b - mid ≥ (b - a) / 8) = decide (t8 ≤ rt) := by rw [hrt, ht8, Hln.out]
                have hcmp : (mid - a < b - mid) ↔ lf < rt := by rw [hlf, hrt]
                have Hbal := Lib.hid (And.intro hbal1 (And.intro hbal2 hcmp)); clear hbal1 hbal2 hcmp
                have Hlf := Lib.hid hlf; clear hlf
                have Hrt := Lib.hid hrt; clear hrt
                have Ht8 := Lib.hid ht8; clear ht8
                by_cases hlr : lf < rt
                · have lrt : (lf : Int) < (rt : Int) := by omega
                  go_upto_region 25 with fail
                  cases hbb : decide (t8 ≤ lf) with
                  | true =>
                    have lb : (t8 : Int) ≤ (lf : Int) := by have := of_decide_eq_true hbb; omega
                    go_wp2_with fail
                    refine (Ih.out d4 a mid lm w5 (by omega) m1 (by omega) hlm2 h5).mono ?_
                    rintro e w6 ⟨rfl, h6, k6⟩
                    go_wp2
                    refine ⟨⟨mid + 1, b, lm, _, ap, _, by simp, rfl, rfl, rfl, rfl, by omega, hb, by omega, hlm2, h6, Lib.hid ?_, hb5.trans k6⟩, by simp [intOf]; omega⟩
                    rw [← Htg.out, pdqE, if_pos (Hbal.out.2.2.2 hlr), Hbal.out.1, hbb]
                  | false =>
                    have lb : ¬ (t8 : Int) ≤ (lf : Int) := by have := of_decide_eq_false hbb; omega
                    go_wp2_with fail
                    refine (Ih.out d4 a mid lm w5 (by omega) m1 (by omega) hlm2 h5).mono ?_
                    rintro e w6 ⟨rfl, h6, k6⟩
                    go_wp2
                    refine ⟨⟨mid + 1, b, lm, _, ap, _, by simp, rfl, rfl, rfl, rfl, by omega, hb, by omega, hlm2, h6, Lib.hid ?_, hb5.trans k6⟩, by simp [intOf]; omega⟩
                    rw [← Htg.out, pdqE, if_pos (Hbal.out.2.2.2 hlr), Hbal.out.1, hbb]
                · have lrt : ¬ (lf : Int) < (rt : Int) := by omega
                  go_upto_region 28 with fail
                  cases hbb : decide (t8 ≤ rt) with
                  | true =>
                    have lb : (t8 : Int) ≤ (rt : Int) := by have := of_decide_eq_true hbb; omega
                    go_wp2_with fail
                    refine (Ih.out d4 (mid + 1) b lm w5 (by omega) (by omega) hb hlm2 h5).mono ?_
                    rintro e w6 ⟨rfl, h6, k6⟩
                    go_wp2
                    refine ⟨⟨a, mid, lm, _, ap, _, rfl, rfl, rfl, rfl, rfl, m1, by omega, by omega, hlm2, h6, Lib.hid ?_, hb5.trans k6⟩, by simp [intOf]; omega⟩
                    rw [← Htg.out, pdqE, if_neg (fun h => hlr (Hbal.out.2.2.1 h)), Hbal.out.2.1, hbb]
                  | false =>
                    have lb : ¬ (t8 : Int) ≤ (rt : Int) := by have := of_decide_eq_false hbb; omega
                    go_wp2_with fail
                    refine (Ih.out d4 (mid + 1) b lm w5 (by omega) (by omega) hb hlm2 h5).mono ?_
                    rintro e w6 ⟨rfl, h6, k6⟩
                    go_wp2
                    refine ⟨⟨a, mid, lm, _, ap, _, rfl, rfl, rfl, rfl, rfl, m1, by omega, by omega, hlm2, h6, Lib.hid ?_, hb5.trans k6⟩, by simp [intOf]; omega⟩
                    rw [← Htg.out, pdqE, if_neg (fun h => hlr (Hbal.out.2.2.1 h)), Hbal.out.2.1, hbb]
        | true =>
          have HB := Lib.hid (show pdqB d a b lim true wp = T from hpb.symm)
          clear hpb hrel'
          obtain ⟨lm, hlme⟩ : ∃ lm, lm = lim := ⟨_, rfl⟩
          subst hlme
          have hlm2 : lm ≤ 1000 := hlm
          obtain ⟨w1, hw1⟩ : ∃ w1, w1 = wo := ⟨_, rfl⟩
          subst hw1
          have h1 := hd
          have k1 := hbut
          obtain ⟨d1, hd1e⟩ : ∃ d1, d1 = d := ⟨_, rfl⟩
          subst hd1e
          clear hd hbut
          cases wp with
          | false =>
            go_wp2_with fail
            refine (vPivot d1 B g n c a b w1 h1 (by omega) hb hn).mono ?_
            rintro e w2 ⟨rfl, h2, kk2⟩
            have hcb := choosePivot_holds ltN d1 a b (by omega)
            obtain ⟨cp, ch, hcp⟩ : ∃ cp ch, choosePivot ltN d1 a b = (cp, ch) := ⟨_, _, rfl⟩
            have HB2 := Lib.hid (show pdqB2 d1 a b lm cp ch true false = T by rw [← HB.out, pdqB, hcp])
            rw [hcp] at hcb ⊢
            simp only at hcb ⊢
            clear hcp
            obtain ⟨hc1, hc2⟩ := hcb
            obtain ⟨hv, hhv⟩ : ∃ hv, hv = hintV ch := ⟨_, rfl⟩
            rw [← hhv]
            have Hhv := Lib.hid hhv; clear hhv
            have k2 : But [g] w w2 := k1.trans (But.of_below kk2)
            clear kk2 h1 k1
            by_cases hdec : ch = .decreasing
            · have l2 : hv = 2 := by rw [Hhv.out, hdec]; rfl
              subst l2
              obtain ⟨c1, hc1⟩ : ∃ c1, c1 = cp - a := ⟨_, rfl⟩
              obtain ⟨b1, hb1⟩ : ∃ b1, b1 = b - 1 := ⟨_, rfl⟩
              obtain ⟨pv, hpv⟩ : ∃ pv, pv = (b - 1) - (cp - a) := ⟨_, rfl⟩
              have u1 : IntKind.i64.wrap ((b : Int) - 1) = (b1 : Int) := by rw [IntKind.wrap_i64]; omega
              have u2 : IntKind.i64.wrap ((cp : Int) - (a : Int)) = (c1 : Int) := by rw [IntKind.wrap_i64]; omega
              have u3 : IntKind.i64.wrap ((b1 : Int) - (c1 : Int)) = (pv : Int) := by rw [IntKind.wrap_i64]; omega
              have hpv1 : a ≤ pv := by omega
              have hpv2 : pv < b := by omega
              have hcc : pdqC (reverseRange d1 a b) a b lm pv .increasing true false = T := by rw [← HB2.out, hdec, pdqB2_dec, hpv]
              have Hc := Lib.hid hcc; clear hcc
              have Hc1 := Lib.hid hc1; clear hc1
              have Hb1 := Lib.hid hb1; clear hb1
              have Hpv := Lib.hid hpv; clear hpv
              go_wp2_with fail
              refine (vReverse d1 B g n c a b w2 h2 (by omega) hb hn (by omega)).mono ?_
              rintro e ws ⟨rfl, hs, k3⟩
              have hbs := k2.trans k3
              obtain ⟨d2, hd2e⟩ : ∃ d2, d2 = reverseRange d1 a b := ⟨_, rfl⟩
              rw [← hd2e] at hs Hc
              clear hd2e h2 k2 k3
              as_aux_lemma =>
                have htail : pdqD d2 a b lm pv true false = T := by rw [← Hc.out, pdqC_no (by simp)]
                have Htail := Lib.hid htail; clear htail
                obtain ⟨d3, hd3⟩ : ∃ d3, d3 = d2 := ⟨_, rfl⟩
                obtain ⟨wt, hwt⟩ : ∃ wt, wt = ws := ⟨_, rfl⟩
                rw [← hd3] at hs Htail
                clear hd3
                rw [← hwt] at hs hbs ⊢
                clear hwt
                have hT := hs
                have hbT := hbs
                clear hs hbs
                by_cases ha0 : 0 < a
                · have la0 : (0 : Int) < (a : Int) := by omega
                  obtain ⟨a1, ha1⟩ : ∃ a1, a1 = a - 1 := ⟨_, rfl⟩
                  have wa1 : IntKind.i64.wrap ((a : Int) - 1) = (a1 : Int) := by rw [IntKind.wrap_i64]; omega
                  have la1 : (a1 : Int) < (n : Int) := by omega
                  have lpv : (pv : Int) < (n : Int) := by omega
                  obtain ⟨x, hx⟩ : ∃ x, x = d3[a1]! := ⟨_, rfl⟩
                  obtain ⟨y, hy⟩ : ∃ y, y = d3[pv]! := ⟨_, rfl⟩
                  have zx : ∀ w' : World, Srt w' B g n c d3 → w'.cell? ⟨g, a1, none⟩ = some (.int .u64 (x : Int)) := fun w' h => by rw [hx]; exact h.cell (by omega)
                  have zy : ∀ w' : World, Srt w' B g n c d3 → w'.cell? ⟨g, pv, none⟩ = some (.int .u64 (y : Int)) := fun w' h => by rw [hy]; exact h.cell (by omega)
                  have hS0 : Srt wt.drew B g n c d3 := hT.drew
                  have Ha1 := Lib.hid ha1; clear ha1
                  have Hx := Lib.hid hx; clear hx
                  have Hy := Lib.hid hy; clear hy
                  go_upto_region 17 with fail
                  refine wp_region_N (fun w' => Srt w' B g n c d3) 100 (by kernel_rfl) ?_
                  apply wpAnyN_takeL 0 (by kernel_rfl) rfl (fun _ _ _ h => h) (by kernel_rfl) hS0
                  · intro w' hS'
                    go_simp; exact ⟨rfl, rfl⟩
                  (try simp only [Act.put]); (try simp only [List.setIfInBounds_toArray]); (try simp only [List.set])
                  apply wpAnyN_takeL 1 (by kernel_rfl) rfl (fun _ _ _ h => h) (by kernel_rfl) hS0
                  · intro w' hS'
                    go_simp; exact ⟨rfl, rfl⟩
                  (try simp only [Act.put]); (try simp only [List.setIfInBounds_toArray]); (try simp only [List.set])
                  apply wpAnyN_takeL 2 (by kernel_rfl) rfl (fun _ _ _ h => h) (by kernel_rfl) hS0
                  · intro w' hS'
                    go_simp; exact ⟨rfl, rfl⟩
                  (try simp only [Act.put]); (try simp only [List.setIfInBounds_toArray]); (try simp only [List.set])
                  apply wpAnyN_takeL 3 (by kernel_rfl) rfl (fun _ _ _ h => h) (by kernel_rfl) hS0
                  · intro w' hS'
                    go_simp; exact ⟨rfl, rfl⟩
                  (try simp only [Act.put]); (try simp only [List.setIfInBounds_toArray]); (try simp only [List.set])
                  apply wpAnyN_takeL 4 (by kernel_rfl) rfl (fun _ _ _ h => h) (by kernel_rfl) hS0
                  · intro w' hS'
                    go_simp; exact ⟨rfl, rfl⟩
                  (try simp only [Act.put]); (try simp only [List.setIfInBounds_toArray]); (try simp only [List.set])
                  apply wpAnyN_takeL 5 (by kernel_rfl) rfl (fun _ _ _ h => h) (by kernel_rfl) hS0
                  · intro w' hS'
                    go_simp; exact ⟨rfl, rfl⟩
                  (try simp only [Act.put]); (try simp only [List.setIfInBounds_toArray]); (try simp only [List.set])
                  apply wpAnyN_takeL 6 (by kernel_rfl) rfl (fun _ _ _ h => h) (by kernel_rfl) hS0
                  · intro w' hS'
                    go_simp; exact ⟨rfl, rfl⟩
                  (try simp only [Act.put]); (try simp only [List.setIfInBounds_toArray]); (try simp only [List.set])
                  apply wpAnyN_takeL 7 (by kernel_rfl) rfl (fun _ _ _ h => h) (by kernel_rfl) hS0
                  · intro w' hS'
                    go_simp; exact ⟨rfl, rfl⟩
                  (try simp only [Act.put]); (try simp only [List.setIfInBounds_toArray]); (try simp only [List.set])
                  apply wpAnyN_takeL 8 (by kernel_rfl) rfl (fun _ _ _ h => h) (by kernel_rfl) hS0
                  · intro w' hS'
                    go_simp; exact ⟨rfl, rfl⟩
                  (try simp only [Act.put]); (try simp only [List.setIfInBounds_toArray]); (try simp only [List.set])
                  apply wpAnyN_takeL 9 (by kernel_rfl) rfl (fun _ _ _ h => h) (by kernel_rfl) hS0
                  · intro w' hS'
                    go_simp; exact ⟨rfl, rfl⟩
                  (try simp only [Act.put]); (try simp only [List.setIfInBounds_toArray]); (try simp only [List.set])
                  apply wpAnyN_takeL 10 (by kernel_rfl) rfl (fun _ _ _ h => h) (by kernel_rfl) hS0
                  · intro w' hS'
                    go_simp; exact ⟨rfl, rfl⟩
                  (try simp only [Act.put]); (try simp only [List.setIfInBounds_toArray]); (try simp only [List.set])
                  apply wpAnyN_takeL 11 (by kernel_rfl) rfl (fun _ _ _ h => h) (by kernel_rfl) hS0
                  · intro w' hS'
                    go_simp; exact ⟨rfl, rfl⟩
                  (try simp only [Act.put]); (try simp only [List.setIfInBounds_toArray]); (try simp only [List.set])
                  apply wpAnyN_takeL 12 (v := (.bool (ltN x y))) (by kernel_rfl) rfl (fun _ _ _ h => h) (by kernel_rfl) hS0
                  · intro w' hS'
                    (go_simp; exact ⟨rfl, vLessB _ _ _⟩)
                  (try simp only [Act.put]); (try simp only [List.setIfInBounds_toArray]); (try simp only [List.set])
                  apply wpAnyN_takeL 13 (by kernel_rfl) rfl (fun _ _ _ h => h) (by kernel_rfl) hS0
                  · intro w' hS'
                    go_simp; exact ⟨rfl, rfl⟩
                  (try simp only [Act.put]); (try simp only [List.setIfInBounds_toArray]); (try simp only [List.set])
                  apply wpAnyN_takeL 14 (by kernel_rfl) rfl (fun _ _ _ h => h) (by kernel_rfl) hS0
                  · intro w' hS'
                    go_simp; exact ⟨rfl, rfl⟩
                  (try simp only [Act.put]); (try simp only [List.setIfInBounds_toArray]); (try simp only [List.set])
                  refine wpAnyN_done (by kernel_rfl) ?_ _
                  cases hlt : ltN x y with
                  | false =>
                    go_wp2_with fail
                    refine (vPartEq d3 B g n c a b pv wt.drew hS0 hpv1 hpv2 hb hn).mono ?_
                    rintro e w5 ⟨rfl, h5, k5, m1, m2⟩
                    obtain ⟨mid, d4, hpt⟩ : ∃ mid d4, partitionEqual ltN d3 a b pv = (mid, d4) := ⟨_, _, rfl⟩
                    rw [hpt] at h5 m1 m2
                    simp only at h5 m1 m2
                    have htg : pdq ltN d4 mid b lm true false = T := by rw [← Htail.out, pdqD_eq (by rw [← Ha1.out, ← Hx.out, ← Hy.out, hlt]; simp [ha0]) hpt m1 m2]
                    rw [show (partitionEqual ltN d3 a b pv).1 = mid by rw [hpt]]
                    clear hpt
                    have Htg := Lib.hid htg; clear htg
                    go_wp2
                    refine ⟨⟨mid, b, lm, true, false, d4, rfl, rfl, rfl, by first | rfl | simp, by first | rfl | simp, m2, hb, by omega, hlm2, h5, Lib.hid Htg.out, hbT.drew.trans k5⟩, by simp [intOf]; omega⟩
                  | true =>
                    go_wp2_with fail
                    refine (vPart d3 B g n c a b pv wt.drew hS0 hpv1 hpv2 hb hn).mono ?_
                    rintro e w5 ⟨rfl, h5, k5, m1, m2⟩
                    obtain ⟨mid, ap, d4, hpt⟩ : ∃ mid ap d4, partition ltN d3 a b pv = (mid, ap, d4) := ⟨_, _, _, rfl⟩
                    rw [hpt] at h5 m1 m2
                    have htg : pdqE d4 a b mid lm ap = T := by rw [← Htail.out, pdqD_pt (by rw [← Ha1.out, ← Hx.out, ← Hy.out, hlt]; simp) hpt m1 m2]
                    simp only at h5 m1 m2
                    rw [show (partition ltN d3 a b pv).1 = mid by rw [hpt], show (partition ltN d3 a b pv).2.1 = ap by rw [hpt]]
                    clear hpt
                    have Htg := Lib.hid htg; clear htg
                    have hb5 : But [g] w w5 := hbT.drew.trans k5
                    obtain ⟨lf, hlf⟩ : ∃ lf, lf = mid - a := ⟨_, rfl⟩
                    obtain ⟨rt, hrt⟩ : ∃ rt, rt = b - mid := ⟨_, rfl⟩
                    obtain ⟨t8, ht8⟩ : ∃ t8, t8 = ln / 8 := ⟨_, rfl⟩
                    have v1 : IntKind.i64.wrap ((mid : Int) - (a : Int)) = (lf : Int) := by rw [IntKind.wrap_i64]; omega
                    have v2 : IntKind.i64.wrap ((b : Int) - (mid : Int)) = (rt : Int) := by rw [IntKind.wrap_i64]; omega
                    have v3 : IntKind.i64.wrap ((ln : Int) / 8) = (t8 : Int) := by have := Hln.out; rw [IntKind.wrap_i64]; omega
                    have v4 : IntKind.i64.wrap ((mid : Int) + 1) = ((mid + 1 : Nat) : Int) := by rw [IntKind.wrap_i64]; omega
                    have hbal1 : decide (mid - a ≥ (b - a) / 8) = decide (t8 ≤ lf) := by rw [hlf, ht8, Hln.out]
                    have hbal2 : decide (b - mid ≥ (b - a) / 8) = decide (t8 ≤ rt) := by rw [hrt, ht8, Hln.out]
                    have hcmp : (mid - a < b - mid) ↔ lf < rt := by rw [hlf, hrt]
                    have Hbal := Lib.hid (And.intro hbal1 (And.intro hbal2 hcmp)); clear hbal1 hbal2 hcmp
                    have Hlf := Lib.hid hlf; clear hlf
                    have Hrt := Lib.hid hrt; clear hrt
                    have Ht8 := Lib.hid ht8; clear ht8
                    by_cases hlr : lf < rt
                    · have lrt : (lf : Int) < (rt : Int) := by omega
                      go_upto_region 25 with fail
                      cases hbb : decide (t8 ≤ lf) with
                      | true =>
                        have lb : (t8 : Int) ≤ (lf : Int) := by have := of_decide_eq_true hbb; omega
                        go_wp2_with fail
                        refine (Ih.out d4 a mid lm w5 (by omega) m1 (by omega) hlm2 h5).mono ?_
                        rintro e w6 ⟨rfl, h6, k6⟩
                        go_wp2
                        refine ⟨⟨mid + 1, b, lm, _, ap, _, by simp, rfl, rfl, rfl, rfl, by omega, hb, by omega, hlm2, h6, Lib.hid ?_, hb5.trans k6⟩, by simp [intOf]; omega⟩
                        rw [← Htg.out, pdqE, if_pos (Hbal.out.2.2.2 hlr), Hbal.out.1, hbb]
                      | false =>
                        have lb : ¬ (t8 : Int) ≤ (lf : Int) := by have := of_decide_eq_false hbb; omega
                        go_wp2_with fail
                        refine (Ih.out d4 a mid lm w5 (by omega) m1 (by omega) hlm2 h5).mono ?_
                        rintro e w6 ⟨rfl, h6, k6⟩
                        go_wp2
                        refine ⟨⟨mid + 1, b, lm, _, ap, _, by simp, rfl, rfl, rfl, rfl, by omega, hb, by omega, hlm2, h6, Lib.hid ?_, hb5.trans k6⟩, by simp [intOf]; omega⟩
                        rw [← Htg.out, pdqE, if_pos (Hbal.out.2.2.2 hlr), Hbal.out.1, hbb]
                    · have lrt : ¬ (lf : Int) < (rt : Int) := by omega
                      go_upto_region 28 with fail
                      cases hbb : decide (t8 ≤ rt) with
                      | true =>
                        have lb : (t8 : Int) ≤ (rt : Int) := by have := of_decide_eq_true hbb; omega
                        go_wp2_with fail
                        refine (Ih.out d4 (mid + 1) b lm w5 (by omega) (by omega) hb hlm2 h5).mono ?_
                        rintro e w6 ⟨rfl, h6, k6⟩
                        go_wp2
                        refine ⟨⟨a, mid, lm, _, ap, _, rfl, rfl, rfl, rfl, rfl, m1, by omega, by omega, hlm2, h6, Lib.hid ?_, hb5.trans k6⟩, by simp [intOf]; omega⟩
                        rw [← Htg.out, pdqE, if_neg (fun h => hlr (Hbal.out.2.2.1 h)), Hbal.out.2.1, hbb]
                      | false =>
                        have lb : ¬ (t8 : Int) ≤ (rt : Int) := by have := of_decide_eq_false hbb; omega
                        go_wp2_with fail
                        refine (Ih.out d4 (mid + 1) b lm w5 (by omega) (by omega) hb hlm2 h5).mono ?_
                        rintro e w6 ⟨rfl, h6, k6⟩
                        go_wp2
                        refine ⟨⟨a, mid, lm, _, ap, _, rfl, rfl, rfl, rfl, rfl, m1, by omega, by omega, hlm2, h6, Lib.hid ?_, hb5.trans k6⟩, by simp [intOf]; omega⟩
                        rw [← Htg.out, pdqE, if_neg (fun h => hlr (Hbal.out.2.2.1 h)), Hbal.out.2.1, hbb]
                · have la0 : ¬ (0 : Int) < (a : Int) := by omega
                  have hS0 : Srt wt.drew B g n c d3 := hT.drew
                  go_upto_region 17 with fail
                  refine wp_region_N (fun w' => Srt w' B g n c d3) 100 (by kernel_rfl) ?_
                  apply wpAnyN_takeL 0 (by kernel_rfl) rfl (fun _ _ _ h => h) (by kernel_rfl) hS0
                  · intro w' hS'
                    go_simp; exact ⟨rfl, rfl⟩
                  (try simp only [Act.put]); (try simp only [List.setIfInBounds_toArray]); (try simp only [List.set])
                  apply wpAnyN_takeL 1 (by kernel_rfl) rfl (fun _ _ _ h => h) (by kernel_rfl) hS0
                  · intro w' hS'
                    go_simp; exact ⟨rfl, rfl⟩
                  (try simp only [Act.put]); (try simp only [List.setIfInBounds_toArray]); (try simp only [List.set])
                  apply wpAnyN_takeL 2 (by kernel_rfl) rfl (fun _ _ _ h => h) (by kernel_rfl) hS0
                  · intro w' hS'
                    go_simp; exact ⟨rfl, rfl⟩
                  (try simp only [Act.put]); (try simp only [List.setIfInBounds_toArray]); (try simp only [List.set])
                  refine wpAnyN_skipL 3 (by kernel_rfl) rfl (fun _ _ _ h => h) (by kernel_rfl) hS0 ?_
                  (try simp only [Act.put]); (try simp only [List.setIfInBounds_toArray]); (try simp only [List.set])
                  refine wpAnyN_skipL 4 (by kernel_rfl) rfl (fun _ _ _ h => h) (by kernel_rfl) hS0 ?_
                  (try simp only [Act.put]); (try simp only [List.setIfInBounds_toArray]); (try simp only [List.set])
                  refine wpAnyN_skipL 5 (by kernel_rfl) rfl (fun _ _ _ h => h) (by kernel_rfl) hS0 ?_
                  (try simp only [Act.put]); (try simp only [List.setIfInBounds_toArray]); (try simp only [List.set])
                  refine wpAnyN_skipL 6 (by kernel_rfl) rfl (fun _ _ _ h => h) (by kernel_rfl) hS0 ?_
                  (try simp only [Act.put]); (try simp only [List.setIfInBounds_toArray]); (try simp only [List.set])
                  refine wpAnyN_skipL 7 (by kernel_rfl) rfl (fun _ _ _ h => h) (by kernel_rfl) hS0 ?_
                  (try simp only [Act.put]); (try simp only [List.setIfInBounds_toArray]); (try simp only [List.set])
                  refine wpAnyN_skipL 8 (by kernel_rfl) rfl (fun _ _ _ h => h) (by kernel_rfl) hS0 ?_
                  (try simp only [Act.put]); (try simp only [List.setIfInBounds_toArray]); (try simp only [List.set])
                  refine wpAnyN_skipL 9 (by kernel_rfl) rfl (fun _ _ _ h => h) (by kernel_rfl) hS0 ?_
                  (try simp only [Act.put]); (try simp only [List.setIfInBounds_toArray]); (try simp only [List.set])
                  refine wpAnyN_skipL 10 (by kernel_rfl) rfl (fun _ _ _ h => h) (by kernel_rfl) hS0 ?_
                  (try simp only [Act.put]); (try simp only [List.setIfInBounds_toArray]); (try simp only [List.set])
                  refine wpAnyN_skipL 11 (by kernel_rfl) rfl (fun _ _ _ h => h) (by kernel_rfl) hS0 ?_
                  (try simp only [Act.put]); (try simp only [List.setIfInBounds_toArray]); (try simp only [List.set])
                  refine wpAnyN_skipL 12 (by kernel_rfl) rfl (fun _ _ _ h => h) (by kernel_rfl) hS0 ?_
                  (try simp only [Act.put]); (try simp only [List.setIfInBounds_toArray]); (try simp only [List.set])
                  refine wpAnyN_skipL 13 (by kernel_rfl) rfl (fun _ _ _ h => h) (by kernel_rfl) hS0 ?_
                  (try simp only [Act.put]); (try simp only [List.setIfInBounds_toArray]); (try simp only [List.set])
                  apply wpAnyN_takeL 14 (by kernel_rfl) rfl (fun _ _ _ h => h) (by kernel_rfl) hS0
                  · intro w' hS'
                    go_simp; exact ⟨rfl, rfl⟩
                  (try simp only [Act.put]); (try simp only [List.setIfInBounds_toArray]); (try simp only [List.set])
                  refine wpAnyN_done (by kernel_rfl) ?_ _
                  go_wp2_with fail
                  refine (vPart d3 B g n c a b pv wt.drew hS0 hpv1 hpv2 hb hn).mono ?_
                  rintro e w5 ⟨rfl, h5, k5, m1, m2⟩
                  obtain ⟨mid, ap, d4, hpt⟩ : ∃ mid ap d4, partition ltN d3 a b pv = (mid, ap, d4) := ⟨_, _, _, rfl⟩
                  rw [hpt] at h5 m1 m2
                  have htg : pdqE d4 a b mid lm ap = T := by rw [← Htail.out, pdqD_pt (by simp [show a = 0 by omega]) hpt m1 m2]
                  simp only at h5 m1 m2
                  rw [show (partition ltN d3 a b pv).1 = mid by rw [hpt], show (partition ltN d3 a b pv).2.1 = ap by rw [hpt]]
                  clear hpt
                  have Htg := Lib.hid htg; clear htg
                  have hb5 : But [g] w w5 := hbT.drew.trans k5
                  obtain ⟨lf, hlf⟩ : ∃ lf, lf = mid - a := ⟨_, rfl⟩
                  obtain ⟨rt, hrt⟩ : ∃ rt, rt = b - mid := ⟨_, rfl⟩
                  obtain ⟨t8, ht8⟩ : ∃ t8, t8 = ln / 8 := ⟨_, rfl⟩
                  have v1 : IntKind.i64.wrap ((mid : Int) - (a : Int)) = (lf : Int) := by rw [IntKind.wrap_i64]; omega
                  have v2 : IntKind.i64.wrap ((b : Int) - (mid : Int)) = (rt : Int) := by rw [IntKind.wrap_i64]; omega
                  have v3 : IntKind.i64.wrap ((ln : Int) / 8) = (t8 : Int) := by have := Hln.out; rw [IntKind.wrap_i64]; omega
                  have v4 : IntKind.i64.wrap ((mid : Int) + 1) = ((mid + 1 : Nat) : Int) := by rw [IntKind.wrap_i64]; omega
                  have hbal1 : decide (mid - a ≥ (b - a) / 8) = decide (t8 ≤ lf) := by rw [hlf, ht8, Hln.out]
                  have hbal2 : decide (b - mid ≥ (b - a) / 8) = decide (t8 ≤ rt) := by rw [hrt, ht8, Hln.out]
                  have hcmp : (mid - a < b - mid) ↔ lf < rt := by rw [hlf, hrt]
                  have Hbal := Lib.hid (And.intro hbal1 (And.intro hbal2 hcmp)); clear hbal1 hbal2 hcmp
                  have Hlf := Lib.hid hlf; clear hlf
                  have Hrt := Lib.hid hrt; clear hrt
                  have Ht8 := Lib.hid ht8; clear ht8
                  by_cases hlr : lf < rt
                  · have lrt : (lf : Int) < (rt : Int) := by omega
                    go_upto_region 25 with fail
                    cases hbb : decide (t8 ≤ lf) with
                    | true =>
                      have lb : (t8 : Int) ≤ (lf : Int) := by have := of_decide_eq_true hbb; omega
                      go_wp2_with fail
                      refine (Ih.out d4 a mid lm w5 (by omega) m1 (by omega) hlm2 h5).mono ?_
                      rintro e w6 ⟨rfl, h6, k6⟩
                      go_wp2
                      refine ⟨⟨mid + 1, b, lm, _, ap, _, by simp, rfl, rfl, rfl, rfl, by omega, hb, by omega, hlm2, h6, Lib.hid ?_, hb5.trans k6⟩, by simp [intOf]; omega⟩
                      rw [← Htg.out, pdqE, if_pos (Hbal.out.2.2.2 hlr), Hbal.out.1, hbb]
                    | false =>
                      have lb : ¬ (t8 : Int) ≤ (lf : Int) := by have := of_decide_eq_false hbb; omega
                      go_wp2_with fail
                      refine (Ih.out d4 a mid lm w5 (by omega) m1 (by omega) hlm2 h5).mono ?_
                      rintro e w6 ⟨rfl, h6, k6⟩
                      go_wp2
                      refine ⟨⟨mid + 1, b, lm, _, ap, _, by simp, rfl, rfl, rfl, rfl, by omega, hb, by omega, hlm2, h6, Lib.hid ?_, hb5.trans k6⟩, by simp [intOf]; omega⟩
                      rw [← Htg.out, pdqE, if_pos (Hbal.out.2.2.2 hlr), Hbal.out.1, hbb]
                  · have lrt : ¬ (lf : Int) < (rt : Int) := by omega
                    go_upto_region 28 with fail
                    cases hbb : decide (t8 ≤ rt) with
                    | true =>
                      have lb : (t8 : Int) ≤ (rt : Int) := by have := of_decide_eq_true hbb; omega
                      go_wp2_with fail
                      refine (Ih.out d4 (mid + 1) b lm w5 (by omega) (by omega) hb hlm2 h5).mono ?_
                      rintro e w6 ⟨rfl, h6, k6⟩
                      go_wp2
                      refine ⟨⟨a, mid, lm, _, ap, _, rfl, rfl, rfl, rfl, rfl, m1, by omega, by omega, hlm2, h6, Lib.hid ?_, hb5.trans k6⟩, by simp [intOf]; omega⟩
                      rw [← Htg.out, pdqE, if_neg (fun h => hlr (Hbal.out.2.2.1 h)), Hbal.out.2.1, hbb]
                    | false =>
                      have lb : ¬ (t8 : Int) ≤ (rt : Int) := by have := of_decide_eq_false hbb; omega
                      go_wp2_with fail
                      refine (Ih.out d4 (mid + 1) b lm w5 (by omega) (by omega) hb hlm2 h5).mono ?_
                      rintro e w6 ⟨rfl, h6, k6⟩
                      go_wp2
                      refine ⟨⟨a, mid, lm, _, ap, _, rfl, rfl, rfl, rfl, rfl, m1, by omega, by omega, hlm2, h6, Lib.hid ?_, hb5.trans k6⟩, by simp [intOf]; omega⟩
                      rw [← Htg.out, pdqE, if_neg (fun h => hlr (Hbal.out.2.2.1 h)), Hbal.out.2.1, hbb]
            · have l2 : ¬ hv = 2 := by rw [Hhv.out]; intro h; apply hdec; cases ch <;> simp_all [hintV]
              obtain ⟨pv, hpv⟩ : ∃ pv, pv = cp := ⟨_, rfl⟩
              subst hpv
              have hpv1 : a ≤ pv := hc1
              have hpv2 : pv < b := hc2
              have hcc : pdqC d1 a b lm pv ch true false = T := by rw [← HB2.out, pdqB2_no hdec]
              have Hc := Lib.hid hcc; clear hcc
              obtain ⟨ws, hws⟩ : ∃ ws, ws = w2 := ⟨_, rfl⟩
              obtain ⟨d2, hd2e⟩ : ∃ d2, d2 = d1 := ⟨_, rfl⟩
              rw [← hd2e] at Hc
              have hs : Srt ws B g n c d2 := by rw [hws, hd2e]; exact h2
              have hbs : But [g] w ws := by rw [hws]; exact k2
              rw [← hws]
              clear hws hd2e h2 k2
              as_aux_lemma =>
                have htail : pdqD d2 a b lm pv true false = T := by rw [← Hc.out, pdqC_no (by simp)]
                have Htail := Lib.hid htail; clear htail
                obtain ⟨d3, hd3⟩ : ∃ d3, d3 = d2 := ⟨_, rfl⟩
                obtain ⟨wt, hwt⟩ : ∃ wt, wt = ws := ⟨_, rfl⟩
                rw [← hd3] at hs Htail
                clear hd3
                rw [← hwt] at hs hbs ⊢
                clear hwt
                have hT := hs
                have hbT := hbs
                clear hs hbs
                by_cases ha0 : 0 < a
                · have la0 : (0 : Int) < (a : Int) := by omega
                  obtain ⟨a1, ha1⟩ : ∃ a1, a1 = a - 1 := ⟨_, rfl⟩
                  have wa1 : IntKind.i64.wrap ((a : Int) - 1) = (a1 : Int) := by rw [IntKind.wrap_i64]; omega
                  have la1 : (a1 : Int) < (n : Int) := by omega
                  have lpv : (pv : Int) < (n : Int) := by omega
                  obtain ⟨x, hx⟩ : ∃ x, x = d3[a1]! := ⟨_, rfl⟩
                  obtain ⟨y, hy⟩ : ∃ y, y = d3[pv]! := ⟨_, rfl⟩
                  have zx : ∀ w' : World, Srt w' B g n c d3 → w'.cell? ⟨g, a1, none⟩ = some (.int .u64 (x : Int)) := fun w' h => by rw [hx]; exact h.cell (by omega)
                  have zy : ∀ w' : World, Srt w' B g n c d3 → w'.cell? ⟨g, pv, none⟩ = some (.int .u64 (y : Int)) := fun w' h => by rw [hy]; exact h.cell (by omega)
                  have hS0 : Srt wt.drew B g n c d3 := hT.drew
                  have Ha1 := Lib.hid ha1; clear ha1
                  have Hx := Lib.hid hx; clear hx
                  have Hy := Lib.hid hy; clear hy
                  go_upto_region 17 with fail
                  refine wp_region_N (fun w' => Srt w' B g n c d3) 100 (by kernel_rfl) ?_
                  apply wpAnyN_takeL 0 (by kernel_rfl) rfl (fun _ _ _ h => h) (by kernel_rfl) hS0
                  · intro w' hS'
                    go_simp; exact ⟨rfl, rfl⟩
                  (try simp only [Act.put]); (try simp only [List.setIfInBounds_toArray]); (try simp only [List.set])
                  apply wpAnyN_takeL 1 (by kernel_rfl) rfl (fun _ _ _ h => h) (by kernel_rfl) hS0
                  · intro w' hS'
                    go_simp; exact ⟨rfl, rfl⟩
                  (try simp only [Act.put]); (try simp only [List.setIfInBounds_toArray]); (try simp only [List.set])
                  apply wpAnyN_takeL 2 (by kernel_rfl) rfl (fun _ _ _ h => h) (by kernel_rfl) hS0
                  · intro w' hS'
                    go_simp; exact ⟨rfl, rfl⟩
                  (try simp only [Act.put]); (try simp only [List.setIfInBounds_toArray]); (try simp only [List.set])
                  apply wpAnyN_takeL 3 (by kernel_rfl) rfl (fun _ _ _ h => h) (by kernel_rfl) hS0
                  · intro w' hS'
                    go_simp; exact ⟨rfl, rfl⟩
                  (try simp only [Act.put]); (try simp only [List.setIfInBounds_toArray]); (try simp only [List.set])
                  apply wpAnyN_takeL 4 (by kernel_rfl) rfl (fun _ _ _ h => h) (by kernel_rfl) hS0
                  · intro w' hS'
                    go_simp; exact ⟨rfl, rfl⟩
                  (try simp only [Act.put]); (try simp only [List.setIfInBounds_toArray]); (try simp only [List.set])
                  apply wpAnyN_takeL 5 (by kernel_rfl) rfl (fun _ _ _ h => h) (by kernel_rfl) hS0
                  · intro w' hS'
                    go_simp; exact ⟨rfl, rfl⟩
                  (try simp only [Act.put]); (try simp only [List.setIfInBounds_toArray]); (try simp only [List.set])
                  apply wpAnyN_takeL 6 (by kernel_rfl) rfl (fun _ _ _ h => h) (by kernel_rfl) hS0
                  · intro w' hS'
                    go_simp; exact ⟨rfl, rfl⟩
                  (try simp only [Act.put]); (try simp only [List.setIfInBounds_toArray]); (try simp only [List.set])
                  apply wpAnyN_takeL 7 (by kernel_rfl) rfl (fun _ _ _ h => h) (by kernel_rfl) hS0
                  · intro w' hS'
                    go_simp; exact ⟨rfl, rfl⟩
                  (try simp only [Act.put]); (try simp only [List.setIfInBounds_toArray]); (try simp only [List.set])
                  apply wpAnyN_takeL 8 (by kernel_rfl) rfl (fun _ _ _ h => h) (by kernel_rfl) hS0
                  · intro w' hS'
                    go_simp; exact ⟨rfl, rfl⟩
                  (try simp only [Act.put]); (try simp only [List.setIfInBounds_toArray]); (try simp only [List.set])
                  apply wpAnyN_takeL 9 (by kernel_rfl) rfl (fun _ _ _ h => h) (by kernel_rfl) hS0
                  · intro w' hS'
                    go_simp; exact ⟨rfl, rfl⟩
                  (try simp only [Act.put]); (try simp only [List.setIfInBounds_toArray]); (try simp only [List.set])
                  apply wpAnyN_takeL 10 (by kernel_rfl) rfl (fun _ _ _ h => h) (by kernel_rfl) hS0
                  · intro w' hS'
                    go_simp; exact ⟨rfl, rfl⟩
                  (try simp only [Act.put]); (try simp only [List.setIfInBounds_toArray]); (try simp only [List.set])
                  apply wpAnyN_takeL 11 (by kernel_rfl) rfl (fun _ _ _ h => h) (by kernel_rfl) hS0
                  · intro w' hS'
                    go_simp; exact ⟨rfl, rfl⟩
                  (try simp only [Act.put]); (try simp only [List.setIfInBounds_toArray]); (try simp only [List.set])
                  apply wpAnyN_takeL 12 (v := (.bool (ltN x y))) (by kernel_rfl) rfl (fun _ _ _ h => h) (by kernel_rfl) hS0
                  · intro w' hS'
                    (go_simp; exact ⟨rfl, vLessB _ _ _⟩)
                  (try simp only [Act.put]); (try simp only [List.setIfInBounds_toArray]); (try simp only [List.set])
                  apply wpAnyN_takeL 13 (by kernel_rfl) rfl (fun _ _ _ h => h) (by kernel_rfl) hS0
                  · intro w' hS'
                    go_simp; exact ⟨rfl, rfl⟩
                  (try simp only [Act.put]); (try simp only [List.setIfInBounds_toArray]); (try simp only [List.set])
                  apply wpAnyN_takeL 14 (by kernel_rfl) rfl (fun _ _ _ h => h) (by kernel_rfl) hS0
                  · intro w' hS'
                    go_simp; exact ⟨rfl, rfl⟩
                  (try simp only [Act.put]); (try simp only [List.setIfInBounds_toArray]); (try simp only [List.set])
                  refine wpAnyN_done (by kernel_rfl) ?_ _
                  cases hlt : ltN x y with
                  | false =>
                    go_wp2_with fail
                    refine (vPartEq d3 B g n c a b pv wt.drew hS0 hpv1 hpv2 hb hn).mono ?_
                    rintro e w5 ⟨rfl, h5, k5, m1, m2⟩
                    obtain ⟨mid, d4, hpt⟩ : ∃ mid d4, partitionEqual ltN d3 a b pv = (mid, d4) := ⟨_, _, rfl⟩
                    rw [hpt] at h5 m1 m2
                    simp only at h5 m1 m2
                    have htg : pdq ltN d4 mid b lm true false = T := by rw [← Htail.out, pdqD_eq (by rw [← Ha1.out, ← Hx.out, ← Hy.out, hlt]; simp [ha0]) hpt m1 m2]
                    rw [show (partitionEqual ltN d3 a b pv).1 = mid by rw [hpt]]
                    clear hpt
                    have Htg := Lib.hid htg; clear htg
                    go_wp2
                    refine ⟨⟨mid, b, lm, true, false, d4, rfl, rfl, rfl, by first | rfl | simp, by first | rfl | simp, m2, hb, by omega, hlm2, h5, Lib.hid Htg.out, hbT.drew.trans k5⟩, by simp [intOf]; omega⟩
                  | true =>
                    go_wp2_with fail
                    refine (vPart d3 B g n c a b pv wt.drew hS0 hpv1 hpv2 hb hn).mono ?_
                    rintro e w5 ⟨rfl, h5, k5, m1, m2⟩
                    obtain ⟨mid, ap, d4, hpt⟩ : ∃ mid ap d4, partition ltN d3 a b pv = (mid, ap, d4) := ⟨_, _, _, rfl⟩
                    rw [hpt] at h5 m1 m2
                    have htg : pdqE d4 a b mid lm ap = T := by rw [← Htail.out, pdqD_pt (by rw [← Ha1.out, ← Hx.out, ← Hy.out, hlt]; simp) hpt m1 m2]
                    simp only at h5 m1 m2
                    rw [show (partition ltN d3 a b pv).1 = mid by rw [hpt], show (partition ltN d3 a b pv).2.1 = ap by rw [hpt]]
                    clear hpt
                    have Htg := Lib.hid htg; clear htg
                    have hb5 : But [g] w w5 := hbT.drew.trans k5
                    obtain ⟨lf, hlf⟩ : ∃ lf, lf = mid - a := ⟨_, rfl⟩
                    obtain ⟨rt, hrt⟩ : ∃ rt, rt = b - mid := ⟨_, rfl⟩
                    obtain ⟨t8, ht8⟩ : ∃ t8, t8 = ln / 8 := ⟨_, rfl⟩
                    have v1 : IntKind.i64.wrap ((mid : Int) - (a : Int)) = (lf : Int) := by rw [IntKind.wrap_i64]; omega
                    have v2 : IntKind.i64.wrap ((b : Int) - (mid : Int)) = (rt : Int) := by rw [IntKind.wrap_i64]; omega
                    have v3 : IntKind.i64.wrap ((ln : Int) / 8) = (t8 : Int) := by have := Hln.out; rw [IntKind.wrap_i64]; omega
                    have v4 : IntKind.i64.wrap ((mid : Int) + 1) = ((mid + 1 : Nat) : Int) := by rw [IntKind.wrap_i64]; omega
                    have hbal1 : decide (mid - a ≥ (b - a) / 8) = decide (t8 ≤ lf) := by rw [hlf, ht8, Hln.out]
                    have hbal2 : decide (b - mid ≥ (b - a) / 8) = decide (t8 ≤ rt) := by rw [hrt, ht8, Hln.out]
                    have hcmp : (mid - a < b - mid) ↔ lf < rt := by rw [hlf, hrt]
                    have Hbal := Lib.hid (And.intro hbal1 (And.intro hbal2 hcmp)); clear hbal1 hbal2 hcmp
                    have Hlf := Lib.hid hlf; clear hlf
                    have Hrt := Lib.hid hrt; clear hrt
                    have Ht8 := Lib.hid ht8; clear ht8
                    by_cases hlr : lf < rt
                    · have lrt : (lf : Int) < (rt : Int) := by omega
                      go_upto_region 25 with fail
                      cases hbb : decide (t8 ≤ lf) with
                      | true =>
                        have lb : (t8 : Int) ≤ (lf : Int) := by have := of_decide_eq_true hbb; omega
                        go_wp2_with fail
                        refine (Ih.out d4 a mid lm w5 (by omega) m1 (by omega) hlm2 h5).mono ?_
                        rintro e w6 ⟨rfl, h6, k6⟩
                        go_wp2
                        refine ⟨⟨mid + 1, b, lm, _, ap, _, by simp, rfl, rfl, rfl, rfl, by omega, hb, by omega, hlm2, h6, Lib.hid ?_, hb5.trans k6⟩, by simp [intOf]; omega⟩
                        rw [← Htg.out, pdqE, if_pos (Hbal.out.2.2.2 hlr), Hbal.out.1, hbb]
                      | false =>
                        have lb : ¬ (t8 : Int) ≤ (lf : Int) := by have := of_decide_eq_false hbb; omega
                        go_wp2_with fail
                        refine (Ih.out d4 a mid lm w5 (by omega) m1 (by omega) hlm2 h5).mono ?_
                        rintro e w6 ⟨rfl, h6, k6⟩
                        go_wp2
                        refine ⟨⟨mid + 1, b, lm, _, ap, _, by simp, rfl, rfl, rfl, rfl, by omega, hb, by omega, hlm2, h6, Lib.hid ?_, hb5.trans k6⟩, by simp [intOf]; omega⟩
                        rw [← Htg.out, pdqE, if_pos (Hbal.out.2.2.2 hlr), Hbal.out.1, hbb]
                    · have lrt : ¬ (lf : Int) < (rt : Int) := by omega
                      go_upto_region 28 with fail
                      cases hbb : decide (t8 ≤ rt) with
                      | true =>
                        have lb : (t8 : Int) ≤ (rt : Int) := by have := of_decide_eq_true hbb; omega
                        go_wp2_with fail
                        refine (Ih.out d4 (mid + 1) b lm w5 (by omega) (by omega) hb hlm2 h5).mono ?_
                        rintro e w6 ⟨rfl, h6, k6⟩
                        go_wp2
                        refine ⟨⟨a, mid, lm, _, ap, _, rfl, rfl, rfl, rfl, rfl, m1, by omega, by omega, hlm2, h6, Lib.hid ?_, hb5.trans k6⟩, by simp [intOf]; omega⟩
                        rw [← Htg.out, pdqE, if_neg (fun h => hlr (Hbal.out.2.2.1 h)), Hbal.out.2.1, hbb]
                      | false =>
                        have lb : ¬ (t8 : Int) ≤ (rt : Int) := by have := of_decide_eq_false hbb; omega
                        go_wp2_with fail
                        refine (Ih.out d4 (mid + 1) b lm w5 (by omega) (by omega) hb hlm2 h5).mono ?_
                        rintro e w6 ⟨rfl, h6, k6⟩
                        go_wp2
                        refine ⟨⟨a, mid, lm, _, ap, _, rfl, rfl, rfl, rfl, rfl, m1, by omega, by omega, hlm2, h6, Lib.hid ?_, hb5.trans k6⟩, by simp [intOf]; omega⟩
                        rw [← Htg.out, pdqE, if_neg (fun h => hlr (Hbal.out.2.2.1 h)), Hbal.out.2.1, hbb]
                · have la0 : ¬ (0 : Int) < (a : Int) := by omega
                  have hS0 : Srt wt.drew B g n c d3 := hT.drew
                  go_upto_region 17 with fail
                  refine wp_region_N (fun w' => Srt w' B g n c d3) 100 (by kernel_rfl) ?_
                  apply wpAnyN_takeL 0 (by kernel_rfl) rfl (fun _ _ _ h => h) (by kernel_rfl) hS0
                  · intro w' hS'
                    go_simp; exact ⟨rfl, rfl⟩
                  (try simp only [Act.put]); (try simp only [List.setIfInBounds_toArray]); (try simp only [List.set])
                  apply wpAnyN_takeL 1 (by kernel_rfl) rfl (fun _ _ _ h => h) (by kernel_rfl) hS0
                  · intro w' hS'
                    go_simp; exact ⟨rfl, rfl⟩
                  (try simp only [Act.put]); (try simp only [List.setIfInBounds_toArray]); (try simp only [List.set])
                  apply wpAnyN_takeL 2 (by kernel_rfl) rfl (fun _ _ _ h => h) (by kernel_rfl) hS0
                  · intro w' hS'
                    go_simp; exact ⟨rfl, rfl⟩
                  (try simp only [Act.put]); (try simp only [List.setIfInBounds_toArray]); (try simp only [List.set])
                  refine wpAnyN_skipL 3 (by kernel_rfl) rfl (fun _ _ _ h => h) (by kernel_rfl) hS0 ?_
                  (try simp only [Act.put]); (try simp only [List.setIfInBounds_toArray]); (try simp only [List.set])
                  refine wpAnyN_skipL 4 (by kernel_rfl) rfl (fun _ _ _ h => h) (by kernel_rfl) hS0 ?_
                  (try simp only [Act.put]); (try simp only [List.setIfInBounds_toArray]); (try simp only [List.set])
                  refine wpAnyN_skipL 5 (by kernel_rfl) rfl (fun _ _ _ h => h) (by kernel_rfl) hS0 ?_
                  (try simp only [Act.put]); (try simp only [List.setIfInBounds_toArray]); (try simp only [List.set])
                  refine wpAnyN_skipL 6 (by kernel_rfl) rfl (fun _ _ _ h => h) (by kernel_rfl) hS0 ?_
                  (try simp only [Act.put]); (try simp only [List.setIfInBounds_toArray]); (try simp only [List.set])
                  refine wpAnyN_skipL 7 (by kernel_rfl) rfl (fun _ _ _ h => h) (by kernel_rfl) hS0 ?_
                  (try simp only [Act.put]); (try simp only [List.setIfInBounds_toArray]); (try simp only [List.set])
                  refine wpAnyN_skipL 8 (by kernel_rfl) rfl (fun _ _ _ h => h) (by kernel_rfl) hS0 ?_
                  (try simp only [Act.put]); (try simp only [List.setIfInBounds_toArray]); (try simp only [List.set])
                  refine wpAnyN_skipL 9 (by kernel_rfl) rfl (fun _ _ _ h => h) (by kernel_rfl) hS0 ?_
                  (try simp only [Act.put]); (try simp only [List.setIfInBounds_toArray]); (try simp only [List.set])
                  refine wpAnyN_skipL 10 (by kernel_rfl) rfl (fun _ _ _ h => h) (by kernel_rfl) hS0 ?_
                  (try simp only [Act.put]); (try simp only [List.setIfInBounds_toArray]); (try simp only [List.set])
                  refine wpAnyN_skipL 11 (by kernel_rfl) rfl (fun _ _ _ h => h) (by kernel_rfl) hS0 ?_
                  (try simp only [Act.put]); (try simp only [List.setIfInBounds_toArray]); (try simp only [List.set])
                  refine wpAnyN_skipL 12 (by kernel_rfl) rfl (fun _ _ _ h => h) (by kernel_rfl) hS0 ?_
                  (try simp only [Act.put]); (try simp only [List.setIfInBounds_toArray]); (try simp only [List.set])
                  refine wpAnyN_skipL 13 (by kernel_rfl) rfl (fun _ _ _ h => h) (by kernel_rfl) hS0 ?_
                  (try simp only [Act.put]); (try simp only [List.setIfInBounds_toArray]); (try simp only [List.set])
                  apply wpAnyN_takeL 14 (by kernel_rfl) rfl (fun _ _ _ h => h) (by kernel_rfl) hS0
                  · intro w' hS'
                    go_simp; exact ⟨rfl, rfl⟩
                  (try simp only [Act.put]); (try simp only [List.setIfInBounds_toArray]); (try simp only [List.set])
                  refine wpAnyN_done (by kernel_rfl) ?_ _
                  go_wp2_with fail
                  refine (vPart d3 B g n c a b pv wt.drew hS0 hpv1 hpv2 hb hn).mono ?_
                  rintro e w5 ⟨rfl, h5, k5, m1, m2⟩
                  obtain ⟨mid, ap, d4, hpt⟩ : ∃ mid ap d4, partition ltN d3 a b pv = (mid, ap, d4) := ⟨_, _, _, rfl⟩
                  rw [hpt] at h5 m1 m2
                  have htg : pdqE d4 a b mid lm ap = T := by rw [← Htail.out, pdqD_pt (by simp [show a = 0 by omega]) hpt m1 m2]
                  simp only at h5 m1 m2
                  rw [show (partition ltN d3 a b pv).1 = mid by rw [hpt], show (partition ltN d3 a b pv).2.1 = ap by rw [hpt]]
                  clear hpt
                  have Htg := Lib.hid htg; clear htg
                  have hb5 : But [g] w w5 := hbT.drew.trans k5
                  obtain ⟨lf, hlf⟩ : ∃ lf, lf = mid - a := ⟨_, rfl⟩
                  obtain ⟨rt, hrt⟩ : ∃ rt, rt = b - mid := ⟨_, rfl⟩
                  obtain ⟨t8, ht8⟩ : ∃ t8, t8 = ln / 8 := ⟨_, rfl⟩
                  have v1 : IntKind.i64.wrap ((mid : Int) - (a : Int)) = (lf : Int) := by rw [IntKind.wrap_i64]; omega
                  have v2 : IntKind.i64.wrap ((b : Int) - (mid : Int)) = (rt : Int) := by rw [IntKind.wrap_i64]; omega
                  have v3 : IntKind.i64.wrap ((ln : Int) / 8) = (t8 : Int) := by have := Hln.out; rw [IntKind.wrap_i64]; omega
                  have v4 : IntKind.i64.wrap ((mid : Int) + 1) = ((mid + 1 : Nat) : Int) := by rw [IntKind.wrap_i64]; omega
                  have hbal1 : decide (mid - a ≥ (b - a) / 8) = decide (t8 ≤ lf) := by rw [hlf, ht8, Hln.out]
                  have hbal2 : decide (b - mid ≥ (b - a) / 8) = decide (t8 ≤ rt) := by rw [hrt, ht8, Hln.out]
                  have hcmp : (mid - a < b - mid) ↔ lf < rt := by rw [hlf, hrt]
                  have Hbal := Lib.hid (And.intro hbal1 (And.intro hbal2 hcmp)); clear hbal1 hbal2 hcmp
                  have Hlf := Lib.hid hlf; clear hlf
                  have Hrt := Lib.hid hrt; clear hrt
                  have Ht8 := Lib.hid ht8; clear ht8
                  by_cases hlr : lf < rt
                  · have lrt : (lf : Int) < (rt : Int) := by omega
                    go_upto_region 25 with fail
                    cases hbb : decide (t8 ≤ lf) with
                    | true =>
                      have lb : (t8 : Int) ≤ (lf : Int) := by have := of_decide_eq_true hbb; omega
                      go_wp2_with fail
                      refine (Ih.out d4 a mid lm w5 (by omega) m1 (by omega) hlm2 h5).mono ?_
                      rintro e w6 ⟨rfl, h6, k6⟩
                      go_wp2
                      refine ⟨⟨mid + 1, b, lm, _, ap, _, by simp, rfl, rfl, rfl, rfl, by omega, hb, by omega, hlm2, h6, Lib.hid ?_, hb5.trans k6⟩, by simp [intOf]; omega⟩
                      rw [← Htg.out, pdqE, if_pos (Hbal.out.2.2.2 hlr), Hbal.out.1, hbb]
                    | false =>
                      have lb : ¬ (t8 : Int) ≤ (lf : Int) := by have := of_decide_eq_false hbb; omega
                      go_wp2_with fail
                      refine (Ih.out d4 a mid lm w5 (by omega) m1 (by omega) hlm2 h5).mono ?_
                      rintro e w6 ⟨rfl, h6, k6⟩
                      go_wp2
                      refine ⟨⟨mid + 1, b, lm, _, ap, _, by simp, rfl, rfl, rfl, rfl, by omega, hb, by omega, hlm2, h6, Lib.hid ?_, hb5.trans k6⟩, by simp [intOf]; omega⟩
                      rw [← Htg.out, pdqE, if_pos (Hbal.out.2.2.2 hlr), Hbal.out.1, hbb]
                  · have lrt : ¬ (lf : Int) < (rt : Int) := by omega
                    go_upto_region 28 with fail
                    cases hbb : decide (t8 ≤ rt) with
                    | true =>
                      have lb : (t8 : Int) ≤ (rt : Int) := by have := of_decide_eq_true hbb; omega
                      go_wp2_with fail
                      refine (Ih.out d4 (mid + 1) b lm w5 (by omega) (by omega) hb hlm2 h5).mono ?_
                      rintro e w6 ⟨rfl, h6, k6⟩
                      go_wp2
                      refine ⟨⟨a, mid, lm, _, ap, _, rfl, rfl, rfl, rfl, rfl, m1, by omega, by omega, hlm2, h6, Lib.hid ?_, hb5.trans k6⟩, by simp [intOf]; omega⟩
                      rw [← Htg.out, pdqE, if_neg (fun h => hlr (Hbal.out.2.2.1 h)), Hbal.out.2.1, hbb]
                    | false =>
                      have lb : ¬ (t8 : Int) ≤ (rt : Int) := by have := of_decide_eq_false hbb; omega
                      go_wp2_with fail
                      refine (Ih.out d4 (mid + 1) b lm w5 (by omega) (by omega) hb hlm2 h5).mono ?_
                      rintro e w6 ⟨rfl, h6, k6⟩
                      go_wp2
                      refine ⟨⟨a, mid, lm, _, ap, _, rfl, rfl, rfl, rfl, rfl, m1, by omega, by omega, hlm2, h6, Lib.hid ?_, hb5.trans k6⟩, by simp [intOf]; omega⟩
                      rw [← Htg.out, pdqE, if_neg (fun h => hlr (Hbal.out.2.2.1 h)), Hbal.out.2.1, hbb]
          | true =>
            go_wp2_with fail
            refine (vPivot d1 B g n c a b w1 h1 (by omega) hb hn).mono ?_
            rintro e w2 ⟨rfl, h2, kk2⟩
            have hcb := choosePivot_holds ltN d1 a b (by omega)
            obtain ⟨cp, ch, hcp⟩ : ∃ cp ch, choosePivot ltN d1 a b = (cp, ch) := ⟨_, _, rfl⟩
            have HB2 := Lib.hid (show pdqB2 d1 a b lm cp ch true true = T by rw [← HB.out, pdqB, hcp])
            rw [hcp] at hcb ⊢
            simp only at hcb ⊢
            clear hcp
            obtain ⟨hc1, hc2⟩ := hcb
            obtain ⟨hv, hhv⟩ : ∃ hv, hv = hintV ch := ⟨_, rfl⟩
            rw [← hhv]
            have Hhv := Lib.hid hhv; clear hhv
            have k2 : But [g] w w2 := k1.trans (But.of_below kk2)
            clear kk2 h1 k1
            by_cases hdec : ch = .decreasing
            · have l2 : hv = 2 := by rw [Hhv.out, hdec]; rfl
              subst l2
              obtain ⟨c1, hc1⟩ : ∃ c1, c1 = cp - a := ⟨_, rfl⟩
              obtain ⟨b1, hb1⟩ : ∃ b1, b1 = b - 1 := ⟨_, rfl⟩
              obtain ⟨pv, hpv⟩ : ∃ pv, pv = (b - 1) - (cp - a) := ⟨_, rfl⟩
              have u1 : IntKind.i64.wrap ((b : Int) - 1) = (b1 : Int) := by rw [IntKind.wrap_i64]; omega
              have u2 : IntKind.i64.wrap ((cp : Int) - (a : Int)) = (c1 : Int) := by rw [IntKind.wrap_i64]; omega
              have u3 : IntKind.i64.wrap ((b1 : Int) - (c1 : Int)) = (pv : Int) := by rw [IntKind.wrap_i64]; omega
              have hpv1 : a ≤ pv := by omega
              have hpv2 : pv < b := by omega
              have hcc : pdqC (reverseRange d1 a b) a b lm pv .increasing true true = T := by rw [← HB2.out, hdec, pdqB2_dec, hpv]
              have Hc := Lib.hid hcc; clear hcc
              have Hc1 := Lib.hid hc1; clear hc1
              have Hb1 := Lib.hid hb1; clear hb1
              have Hpv := Lib.hid hpv; clear hpv
              go_wp2_with fail
              refine (vReverse d1 B g n c a b w2 h2 (by omega) hb hn (by omega)).mono ?_
              rintro e ws ⟨rfl, hs, k3⟩
              have hbs := k2.trans k3
              obtain ⟨d2, hd2e⟩ : ∃ d2, d2 = reverseRange d1 a b := ⟨_, rfl⟩
              rw [← hd2e] at hs Hc
              clear hd2e h2 k2 k3
              as_aux_lemma =>
                go_wp2_with fail
                refine (vPartIns d2 B g n c a b ws hs (by omega) hb hn).mono ?_
                rintro e w4 ⟨rfl, h4, k4⟩
                obtain ⟨d3, ok, hpi⟩ : ∃ d3 ok, partialInsertionSort ltN d2 a b = (d3, ok) := ⟨_, _, rfl⟩
                have htail0 : (if ok then d3 else pdqD d3 a b lm pv true true) = T := by rw [← Hc.out, pdqC_call hpi]
                rw [hpi] at h4 ⊢
                simp only at h4 ⊢
                clear hpi
                cases ok with
                | true =>
                  have htail : d3 = T := by simpa using htail0
                  have Htail := Lib.hid htail; clear htail htail0
                  go_wp2
                  refine bodyPost_ret (results_none rfl _ _ _) rfl ⟨rfl, ?_, hbs.trans k4⟩
                  rw [HT.out, ← Htail.out]; exact h4
                | false =>
                  have htail : pdqD d3 a b lm pv true true = T := by simpa using htail0
                  have Htail := Lib.hid htail; clear htail htail0
                  obtain ⟨wt, hwt⟩ : ∃ wt, wt = w4 := ⟨_, rfl⟩
                  rw [← hwt] at h4 k4 ⊢
                  clear hwt
                  have hT := h4
                  have hbT := hbs.trans k4
                  clear h4 k4 hs hbs
                  by_cases ha0 : 0 < a
                  · have la0 : (0 : Int) < (a : Int) := by omega
                    obtain ⟨a1, ha1⟩ : ∃ a1, a1 = a - 1 := ⟨_, rfl⟩
                    have wa1 : IntKind.i64.wrap ((a : Int) - 1) = (a1 : Int) := by rw [IntKind.wrap_i64]; omega
                    have la1 : (a1 : Int) < (n : Int) := by omega
                    have lpv : (pv : Int) < (n : Int) := by omega
                    obtain ⟨x, hx⟩ : ∃ x, x = d3[a1]! := ⟨_, rfl⟩
                    obtain ⟨y, hy⟩ : ∃ y, y = d3[pv]! := ⟨_, rfl⟩
                    have zx : ∀ w' : World, Srt w' B g n c d3 → w'.cell? ⟨g, a1, none⟩ = some (.int .u64 (x : Int)) := fun w' h => by rw [hx]; exact h.cell (by omega)
                    have zy : ∀ w' : World, Srt w' B g n c d3 → w'.cell? ⟨g, pv, none⟩ = some (.int .u64 (y : Int)) := fun w' h => by rw [hy]; exact h.cell (by omega)
                    have hS0 : Srt wt.drew B g n c d3 := hT.drew
                    have Ha1 := Lib.hid ha1; clear ha1
                    have Hx := Lib.hid hx; clear hx
                    have Hy := Lib.hid hy; clear hy
                    go_upto_region 17 with fail
                    refine wp_region_N (fun w' => Srt w' B g n c d3) 100 (by kernel_rfl) ?_
                    apply wpAnyN_takeL 0 (by kernel_rfl) rfl (fun _ _ _ h => h) (by kernel_rfl) hS0
                    · intro w' hS'
                      go_simp; exact ⟨rfl, rfl⟩
                    (try simp only [Act.put]); (try simp only [List.setIfInBounds_toArray]); (try simp only [List.set])
                    apply wpAnyN_takeL 1 (by kernel_rfl) rfl (fun _ _ _ h => h) (by kernel_rfl) hS0
                    · intro w' hS'
                      go_simp; exact ⟨rfl, rfl⟩
                    (try simp only [Act.put]); (try simp only [List.setIfInBounds_toArray]); (try simp only [List.set])
                    apply wpAnyN_takeL 2 (by kernel_rfl) rfl (fun _ _ _ h => h) (by kernel_rfl) hS0
                    · intro w' hS'
                      go_simp; exact ⟨rfl, rfl⟩
                    (try simp only [Act.put]); (try simp only [List.setIfInBounds_toArray]); (try simp only [List.set])
                    apply wpAnyN_takeL 3 (by kernel_rfl) rfl (fun _ _ _ h => h) (by kernel_rfl) hS0
                    · intro w' hS'
                      go_simp; exact ⟨rfl, rfl⟩
                    (try simp only [Act.put]); (try simp only [List.setIfInBounds_toArray]); (try simp only [List.set])
                    apply wpAnyN_takeL 4 (by kernel_rfl) rfl (fun _ _ _ h => h) (by kernel_rfl) hS0
                    · intro w' hS'
                      go_simp; exact ⟨rfl, rfl⟩
                    (try simp only [Act.put]); (try simp only [List.setIfInBounds_toArray]); (try simp only [List.set])
                    apply wpAnyN_takeL 5 (by kernel_rfl) rfl (fun _ _ _ h => h) (by kernel_rfl) hS0
                    · intro w' hS'
                      go_simp; exact ⟨rfl, rfl⟩
                    (try simp only [Act.put]); (try simp only [List.setIfInBounds_toArray]); (try simp only [List.set])
                    apply wpAnyN_takeL 6 (by kernel_rfl) rfl (fun _ _ _ h => h) (by kernel_rfl) hS0
                    · intro w' hS'
                      go_simp; exact ⟨rfl, rfl⟩
                    (try simp only [Act.put]); (try simp only [List.setIfInBounds_toArray]); (try simp only [List.set])
                    apply wpAnyN_takeL 7 (by kernel_rfl) rfl (fun _ _ _ h => h) (by kernel_rfl) hS0
                    · intro w' hS'
                      go_simp; exact ⟨rfl, rfl⟩
                    (try simp only [Act.put]); (try simp only [List.setIfInBounds_toArray]); (try simp only [List.set])
                    apply wpAnyN_takeL 8 (by kernel_rfl) rfl (fun _ _ _ h => h) (by kernel_rfl) hS0
                    · intro w' hS'
                      go_simp; exact ⟨rfl, rfl⟩
                    (try simp only [Act.put]); (try simp only [List.setIfInBounds_toArray]); (try simp only [List.set])
                    apply wpAnyN_takeL 9 (by kernel_rfl) rfl (fun _ _ _ h => h) (by kernel_rfl) hS0
                    · intro w' hS'
                      go_simp; exact ⟨rfl, rfl⟩
                    (try simp only [Act.put]); (try simp only [List.setIfInBounds_toArray]); (try simp only [List.set])
                    apply wpAnyN_takeL 10 (by kernel_rfl) rfl (fun _ _ _ h => h) (by kernel_rfl) hS0
                    · intro w' hS'
                      go_simp; exact ⟨rfl, rfl⟩
                    (try simp only [Act.put]); (try simp only [List.setIfInBounds_toArray]); (try simp only [List.set])
                    apply wpAnyN_takeL 11 (by kernel_rfl) rfl (fun _ _ _ h => h) (by kernel_rfl) hS0
                    · intro w' hS'
                      go_simp; exact ⟨rfl, rfl⟩
                    (try simp only [Act.put]); (try simp only [List.setIfInBounds_toArray]); (try simp only [List.set])
                    apply wpAnyN_takeL 12 (v := (.bool (ltN x y))) (by kernel_rfl) rfl (fun _ _ _ h => h) (by kernel_rfl) hS0
                    · intro w' hS'
                      (go_simp; exact ⟨rfl, vLessB _ _ _⟩)
                    (try simp only [Act.put]); (try simp only [List.setIfInBounds_toArray]); (try simp only [List.set])
                    apply wpAnyN_takeL 13 (by kernel_rfl) rfl (fun _ _ _ h => h) (by kernel_rfl) hS0
                    · intro w' hS'
                      go_simp; exact ⟨rfl, rfl⟩
                    (try simp only [Act.put]); (try simp only [List.setIfInBounds_toArray]); (try simp only [List.set])
                    apply wpAnyN_takeL 14 (by kernel_rfl) rfl (fun _ _ _ h => h) (by kernel_rfl) hS0
                    · intro w' hS'
                      go_simp; exact ⟨rfl, rfl⟩
                    (try simp only [Act.put]); (try simp only [List.setIfInBounds_toArray]); (try simp only [List.set])
                    refine wpAnyN_done (by kernel_rfl) ?_ _
                    cases hlt : ltN x y with
                    | false =>
                      go_wp2_with fail
                      refine (vPartEq d3 B g n c a b pv wt.drew hS0 hpv1 hpv2 hb hn).mono ?_
                      rintro e w5 ⟨rfl, h5, k5, m1, m2⟩
                      obtain ⟨mid, d4, hpt⟩ : ∃ mid d4, partitionEqual ltN d3 a b pv = (mid, d4) := ⟨_, _, rfl⟩
                      rw [hpt] at h5 m1 m2
                      simp only at h5 m1 m2
                      have htg : pdq ltN d4 mid b lm true true = T := by rw [← Htail.out, pdqD_eq (by rw [← Ha1.out, ← Hx.out, ← Hy.out, hlt]; simp [ha0]) hpt m1 m2]
                      rw [show (partitionEqual ltN d3 a b pv).1 = mid by rw [hpt]]
                      clear hpt
                      have Htg := Lib.hid htg; clear htg
                      go_wp2
                      refine ⟨⟨mid, b, lm, true, true, d4, rfl, rfl, rfl, by first | rfl | simp, by first | rfl | simp, m2, hb, by omega, hlm2, h5, Lib.hid Htg.out, hbT.drew.trans k5⟩, by simp [intOf]; omega⟩
                    | true =>
                      go_wp2_with fail
                      refine (vPart d3 B g n c a b pv wt.drew hS0 hpv1 hpv2 hb hn).mono ?_
                      rintro e w5 ⟨rfl, h5, k5, m1, m2⟩
                      obtain ⟨mid, ap, d4, hpt⟩ : ∃ mid ap d4, partition ltN d3 a b pv = (mid, ap, d4) := ⟨_, _, _, rfl⟩
                      rw [hpt] at h5 m1 m2
                      have htg : pdqE d4 a b mid lm ap = T := by rw [← Htail.out, pdqD_pt (by rw [← Ha1.out, ← Hx.out, ← Hy.out, hlt]; simp) hpt m1 m2]
                      simp only at h5 m1 m2
                      rw [show (partition ltN d3 a b pv).1 = mid by rw [hpt], show (partition ltN d3 a b pv).2.1 = ap by rw [hpt]]
                      clear hpt
                      have Htg := Lib.hid htg; clear htg
                      have hb5 : But [g] w w5 := hbT.drew.trans k5
                      obtain ⟨lf, hlf⟩ : ∃ lf, lf = mid - a := ⟨_, rfl⟩
                      obtain ⟨rt, hrt⟩ : ∃ rt, rt = b - mid := ⟨_, rfl⟩
                      obtain ⟨t8, ht8⟩ : ∃ t8, t8 = ln / 8 := ⟨_, rfl⟩
                      have v1 : IntKind.i64.wrap ((mid : Int) - (a : Int)) = (lf : Int) := by rw [IntKind.wrap_i64]; omega
                      have v2 : IntKind.i64.wrap ((b : Int) - (mid : Int)) = (rt : Int) := by rw [IntKind.wrap_i64]; omega
                      have v3 : IntKind.i64.wrap ((ln : Int) / 8) = (t8 : Int) := by have := Hln.out; rw [IntKind.wrap_i64]; omega
                      have v4 : IntKind.i64.wrap ((mid : Int) + 1) = ((mid + 1 : Nat) : Int) := by rw [IntKind.wrap_i64]; omega
                      have hbal1 : decide (mid - a ≥ (b - a) / 8) = decide (t8 ≤ lf) := by rw [hlf, ht8, Hln.out]
                      have hbal2 : decide (b - mid ≥ (b - a) / 8) = decide (t8 ≤ rt) := by rw [hrt, ht8, Hln.out]
                      have hcmp : (mid - a < b - mid) ↔ lf < rt := by rw [hlf, hrt]
                      have Hbal := Lib.hid (And.intro hbal1 (And.intro hbal2 hcmp)); clear hbal1 hbal2 hcmp
                      have Hlf := Lib.hid hlf; clear hlf
                      have Hrt := Lib.hid hrt; clear hrt
                      have Ht8 := Lib.hid ht8; clear ht8
                      by_cases hlr : lf < rt
                      · have lrt : (lf : Int) < (rt : Int) := by omega
                        go_upto_region 25 with fail
                        cases hbb : decide (t8 ≤ lf) with
                        | true =>
                          have lb : (t8 : Int) ≤ (lf : Int) := by have := of_decide_eq_true hbb; omega
                          go_wp2_with fail
                          refine (Ih.out d4 a mid lm w5 (by omega) m1 (by omega) hlm2 h5).mono ?_
                          rintro e w6 ⟨rfl, h6, k6⟩
                          go_wp2
                          refine ⟨⟨mid + 1, b, lm, _, ap, _, by simp, rfl, rfl, rfl, rfl, by omega, hb, by omega, hlm2, h6, Lib.hid ?_, hb5.trans k6⟩, by simp [intOf]; omega⟩
                          rw [← Htg.out, pdqE, if_pos (Hbal.out.2.2.2 hlr), Hbal.out.1, hbb]
                        | false =>
                          have lb : ¬ (t8 : Int) ≤ (lf : Int) := by have := of_decide_eq_false hbb; omega
                          go_wp2_with fail
                          refine (Ih.out d4 a mid lm w5 (by omega) m1 (by omega) hlm2 h5).mono ?_
                          rintro e w6 ⟨rfl, h6, k6⟩
                          go_wp2
                          refine ⟨⟨mid + 1, b, lm, _, ap, _, by simp, rfl, rfl, rfl, rfl, by omega, hb, by omega, hlm2, h6, Lib.hid ?_, hb5.trans k6⟩, by simp [intOf]; omega⟩
                          rw [← Htg.out, pdqE, if_pos (Hbal.out.2.2.2 hlr), Hbal.out.1, hbb]
                      · have lrt : ¬ (lf : Int) < (rt : Int) := by omega
                        go_upto_region 28 with fail
                        cases hbb : decide (t8 ≤ rt) with
                        | true =>
                          have lb : (t8 : Int) ≤ (rt : Int) := by have := of_decide_eq_true hbb; omega
                          go_wp2_with fail
                          refine (Ih.out d4 (mid + 1) b lm w5 (by omega) (by omega) hb hlm2 h5).mono ?_
                          rintro e w6 ⟨rfl, h6, k6⟩
                          go_wp2
                          refine ⟨⟨a, mid, lm, _, ap, _, rfl, rfl, rfl, rfl, rfl, m1, by omega, by omega, hlm2, h6, Lib.hid ?_, hb5.trans k6⟩, by simp [intOf]; omega⟩
                          rw [← Htg.out, pdqE, if_neg (fun h => hlr (Hbal.out.2.2.1 h)), Hbal.out.2.1, hbb]
                        | false =>
                          have lb : ¬ (t8 : Int) ≤ (rt : Int) := by have := of_decide_eq_false hbb; omega
                          go_wp2_with fail
                          refine (Ih.out d4 (mid + 1) b lm w5 (by omega) (by omega) hb hlm2 h5).mono ?_
                          rintro e w6 ⟨rfl, h6, k6⟩
                          go_wp2
                          refine ⟨⟨a, mid, lm, _, ap, _, rfl, rfl, rfl, rfl, rfl, m1, by omega, by omega, hlm2, h6, Lib.hid ?_, hb5.trans k6⟩, by simp [intOf]; omega⟩
                          rw [← Htg.out, pdqE, if_neg (fun h => hlr (Hbal.out.2.2.1 h)), Hbal.out.2.1, hbb]
                  · have la0 : ¬ (0 : Int) < (a : Int) := by omega
                    have hS0 : Srt wt.drew B g n c d3 := hT.drew
                    go_upto_region 17 with fail
                    refine wp_region_N (fun w' => Srt w' B g n c d3) 100 (by kernel_rfl) ?_
                    apply wpAnyN_takeL 0 (by kernel_rfl) rfl (fun _ _ _ h => h) (by kernel_rfl) hS0
                    · intro w' hS'
                      go_simp; exact ⟨rfl, rfl⟩
                    (try simp only [Act.put]); (try simp only [List.setIfInBounds_toArray]); (try simp only [List.set])
                    apply wpAnyN_takeL 1 (by kernel_rfl) rfl (fun _ _ _ h => h) (by kernel_rfl) hS0
                    · intro w' hS'
                      go_simp; exact ⟨rfl, rfl⟩
                    (try simp only [Act.put]); (try simp only [List.setIfInBounds_toArray]); (try simp only [List.set])
                    apply wpAnyN_takeL 2 (by kernel_rfl) rfl (fun _ _ _ h => h) (by kernel_rfl) hS0
                    · intro w' hS'
                      go_simp; exact ⟨rfl, rfl⟩
                    (try simp only [Act.put]); (try simp only [List.setIfInBounds_toArray]); (try simp only [List.set])
                    refine wpAnyN_skipL 3 (by kernel_rfl) rfl (fun _ _ _ h => h) (by kernel_rfl) hS0 ?_
                    (try simp only [Act.put]); (try simp only [List.setIfInBounds_toArray]); (try simp only [List.set])
                    refine wpAnyN_skipL 4 (by kernel_rfl) rfl (fun _ _ _ h => h) (by kernel_rfl) hS0 ?_
                    (try simp only [Act.put]); (try simp only [List.setIfInBounds_toArray]); (try simp only [List.set])
                    refine wpAnyN_skipL 5 (by kernel_rfl) rfl (fun _ _ _ h => h) (by kernel_rfl) hS0 ?_
                    (try simp only [Act.put]); (try simp only [List.setIfInBounds_toArray]); (try simp only [List.set])
                    refine wpAnyN_skipL 6 (by kernel_rfl) rfl (fun _ _ _ h => h) (by kernel_rfl) hS0 ?_
                    (try simp only [Act.put]); (try simp only [List.setIfInBounds_toArray]); (try simp only [List.set])
                    refine wpAnyN_skipL 7 (by kernel_rfl) rfl (fun _ _ _ h => h) (by kernel_rfl) hS0 ?_
                    (try simp only [Act.put]); (try simp only [List.setIfInBounds_toArray]); (try simp only [List.set])
                    refine wpAnyN_skipL 8 (by kernel_rfl) rfl (fun _ _ _ h => h) (by kernel_rfl) hS0 ?_
                    (try simp only [Act.put]); (try simp only [List.setIfInBounds_toArray]); (try simp only [List.set])
                    refine wpAnyN_skipL 9 (by kernel_rfl) rfl (fun _ _ _ h => h) (by kernel_rfl) hS0 ?_
                    (try simp only [Act.put]); (try simp only [List.setIfInBounds_toArray]); (try simp only [List.set])
                    refine wpAnyN_skipL 10 (by kernel_rfl) rfl (fun _ _ _ h => h) (by kernel_rfl) hS0 ?_
                    (try simp only [Act.put]); (try simp only [List.setIfInBounds_toArray]); (try simp only [List.set])
                    refine wpAnyN_skipL 11 (by kernel_rfl) rfl (fun _ _ _ h => h) (by kernel_rfl) hS0 ?_
                    (try simp only [Act.put]); (try simp only [List.setIfInBounds_toArray]); (try simp only [List.set])
                    refine wpAnyN_skipL 12 (by kernel_rfl) rfl (fun _ _ _ h => h) (by kernel_rfl) hS0 ?_
                    (try simp only [Act.put]); (try simp only [List.setIfInBounds_toArray]); (try simp only [List.set])
                    refine wpAnyN_skipL 13 (by kernel_rfl) rfl (fun _ _ _ h => h) (by kernel_rfl) hS0 ?_
                    (try simp only [Act.put]); (try simp only [List.setIfInBounds_toArray]); (try simp only [List.set])
                    apply wpAnyN_takeL 14 (by kernel_rfl) rfl (fun _ _ _ h => h) (by kernel_rfl) hS0
                    · intro w' hS'
                      go_simp; exact ⟨rfl, rfl⟩
                    (try simp only [Act.put]); (try simp only [List.setIfInBounds_toArray]); (try simp only [List.set])
                    refine wpAnyN_done (by kernel_rfl) ?_ _
                    go_wp2_with fail
                    refine (vPart d3 B g n c a b pv wt.drew hS0 hpv1 hpv2 hb hn).mono ?_
                    rintro e w5 ⟨rfl, h5, k5, m1, m2⟩
                    obtain ⟨mid, ap, d4, hpt⟩ : ∃ mid ap d4, partition ltN d3 a b pv = (mid, ap, d4) := ⟨_, _, _, rfl⟩
                    rw [hpt] at h5 m1 m2
                    have htg : pdqE d4 a b mid lm ap = T := by rw [← Htail.out, pdqD_pt (by simp [show a = 0 by omega]) hpt m1 m2]
                    simp only at h5 m1 m2
                    rw [show (partition ltN d3 a b pv).1 = mid by rw [hpt], show (partition ltN d3 a b pv).2.1 = ap by rw [hpt]]
                    clear hpt
                    have Htg := Lib.hid htg; clear htg
                    have hb5 : But [g] w w5 := hbT.drew.trans k5
                    obtain ⟨lf, hlf⟩ : ∃ lf, lf = mid - a := ⟨_, rfl⟩
                    obtain ⟨rt, hrt⟩ : ∃ rt, rt = b - mid := ⟨_, rfl⟩
                    obtain ⟨t8, ht8⟩ : ∃ t8, t8 = ln / 8 := ⟨_, rfl⟩
                    have v1 : IntKind.i64.wrap ((mid : Int) - (a : Int)) = (lf : Int) := by rw [IntKind.wrap_i64]; omega
                    have v2 : IntKind.i64.wrap ((b : Int) - (mid : Int)) = (rt : Int) := by rw [IntKind.wrap_i64]; omega
                    have v3 : IntKind.i64.wrap ((ln : Int) / 8) = (t8 : Int) := by have := Hln.out; rw [IntKind.wrap_i64]; omega
                    have v4 : IntKind.i64.wrap ((mid : Int) + 1) = ((mid + 1 : Nat) : Int) := by rw [IntKind.wrap_i64]; omega
                    have hbal1 : decide (mid - a ≥ (b - a) / 8) = decide (t8 ≤ lf) := by rw [hlf, ht8, Hln.out]
                    have hbal2 : decide (b - mid ≥ (b - a) / 8) = decide (t8 ≤ rt) := by rw [hrt, ht8, Hln.out]
                    have hcmp : (mid - a < b - mid) ↔ lf < rt := by rw [hlf, hrt]
                    have Hbal := Lib.hid (And.intro hbal1 (And.intro hbal2 hcmp)); clear hbal1 hbal2 hcmp
                    have Hlf := Lib.hid hlf; clear hlf
                    have Hrt := Lib.hid hrt; clear hrt
                    have Ht8 := Lib.hid ht8; clear ht8
                    by_cases hlr : lf < rt
                    · have lrt : (lf : Int) < (rt : Int) := by omega
                      go_upto_region 25 with fail
                      cases hbb : decide (t8 ≤ lf) with
                      | true =>
                        have lb : (t8 : Int) ≤ (lf : Int) := by have := of_decide_eq_true hbb; omega
                        go_wp2_with fail
                        refine (Ih.out d4 a mid lm w5 (by omega) m1 (by omega) hlm2 h5).mono ?_
                        rintro e w6 ⟨rfl, h6, k6⟩
                        go_wp2
                        refine ⟨⟨mid + 1, b, lm, _, ap, _, by simp, rfl, rfl, rfl, rfl, by omega, hb, by omega, hlm2, h6, Lib.hid ?_, hb5.trans k6⟩, by simp [intOf]; omega⟩
                        rw [← Htg.out, pdqE, if_pos (Hbal.out.2.2.2 hlr), Hbal.out.1, hbb]
                      | false =>
                        have lb : ¬ (t8 : Int) ≤ (lf : Int) := by have := of_decide_eq_false hbb; omega
                        go_wp2_with fail
                        refine (Ih.out d4 a mid lm w5 (by omega) m1 (by omega) hlm2 h5).mono ?_
                        rintro e w6 ⟨rfl, h6, k6⟩
                        go_wp2
                        refine ⟨⟨mid + 1, b, lm, _, ap, _, by simp, rfl, rfl, rfl, rfl, by omega, hb, by omega, hlm2, h6, Lib.hid ?_, hb5.trans k6⟩, by simp [intOf]; omega⟩
                        rw [← Htg.out, pdqE, if_pos (Hbal.out.2.2.2 hlr), Hbal.out.1, hbb]
                    · have lrt : ¬ (lf : Int) < (rt : Int) := by omega
                      go_upto_region 28 with fail
                      cases hbb : decide (t8 ≤ rt) with
                      | true =>
                        have lb : (t8 : Int) ≤ (rt : Int) := by have := of_decide_eq_true hbb; omega
                        go_wp2_with fail
                        refine (Ih.out d4 (mid + 1) b lm w5 (by omega) (by omega) hb hlm2 h5).mono ?_
                        rintro e w6 ⟨rfl, h6, k6⟩
                        go_wp2
                        refine ⟨⟨a, mid, lm, _, ap, _, rfl, rfl, rfl, rfl, rfl, m1, by omega, by omega, hlm2, h6, Lib.hid ?_, hb5.trans k6⟩, by simp [intOf]; omega⟩
                        rw [← Htg.out, pdqE, if_neg (fun h => hlr (Hbal.out.2.2.1 h)), Hbal.out.2.1, hbb]
                      | false =>
                        have lb : ¬ (t8 : Int) ≤ (rt : Int) := by have := of_decide_eq_false hbb; omega
                        go_wp2_with fail
                        refine (Ih.out d4 (mid + 1) b lm w5 (by omega) (by omega) hb hlm2 h5).mono ?_
                        rintro e w6 ⟨rfl, h6, k6⟩
                        go_wp2
                        refine ⟨⟨a, mid, lm, _, ap, _, rfl, rfl, rfl, rfl, rfl, m1, by omega, by omega, hlm2, h6, Lib.hid ?_, hb5.trans k6⟩, by simp [intOf]; omega⟩
                        rw [← Htg.out, pdqE, if_neg (fun h => hlr (Hbal.out.2.2.1 h)), Hbal.out.2.1, hbb]
            · have l2 : ¬ hv = 2 := by rw [Hhv.out]; intro h; apply hdec; cases ch <;> simp_all [hintV]
              obtain ⟨pv, hpv⟩ : ∃ pv, pv = cp := ⟨_, rfl⟩
              subst hpv
              have hpv1 : a ≤ pv := hc1
              have hpv2 : pv < b := hc2
              have hcc : pdqC d1 a b lm pv ch true true = T := by rw [← HB2.out, pdqB2_no hdec]
              have Hc := Lib.hid hcc; clear hcc
              obtain ⟨ws, hws⟩ : ∃ ws, ws = w2 := ⟨_, rfl⟩
              obtain ⟨d2, hd2e⟩ : ∃ d2, d2 = d1 := ⟨_, rfl⟩
              rw [← hd2e] at Hc
              have hs : Srt ws B g n c d2 := by rw [hws, hd2e]; exact h2
              have hbs : But [g] w ws := by rw [hws]; exact k2
              rw [← hws]
              clear hws hd2e h2 k2
              by_cases hinc : ch = .increasing
              · have l1 : hv = 1 := by rw [Hhv.out, hinc]; rfl
                subst l1
                rw [hinc] at Hc
                as_aux_lemma =>
                  go_wp2_with fail
                  refine (vPartIns d2 B g n c a b ws hs (by omega) hb hn).mono ?_
                  rintro e w4 ⟨rfl, h4, k4⟩
                  obtain ⟨d3, ok, hpi⟩ : ∃ d3 ok, partialInsertionSort ltN d2 a b = (d3, ok) := ⟨_, _, rfl⟩
                  have htail0 : (if ok then d3 else pdqD d3 a b lm pv true true) = T := by rw [← Hc.out, pdqC_call hpi]
                  rw [hpi] at h4 ⊢
                  simp only at h4 ⊢
                  clear hpi
                  cases ok with
                  | true =>
                    have htail : d3 = T := by simpa using htail0
                    have Htail := Lib.hid htail; clear htail htail0
                    go_wp2
                    refine bodyPost_ret (results_none rfl _ _ _) rfl ⟨rfl, ?_, hbs.trans k4⟩
                    rw [HT.out, ← Htail.out]; exact h4
                  | false =>
                    have htail : pdqD d3 a b lm pv true true = T := by simpa using htail0
                    have Htail := Lib.hid htail; clear htail htail0
                    obtain ⟨wt, hwt⟩ : ∃ wt, wt = w4 := ⟨_, rfl⟩
                    rw [← hwt] at h4 k4 ⊢
                    clear hwt
                    have hT := h4
                    have hbT := hbs.trans k4
                    clear h4 k4 hs hbs
                    by_cases ha0 : 0 < a
                    · have la0 : (0 : Int) < (a : Int) := by omega
                      obtain ⟨a1, ha1⟩ : ∃ a1, a1 = a - 1 := ⟨_, rfl⟩
                      have wa1 : IntKind.i64.wrap ((a : Int) - 1) = (a1 : Int) := by rw [IntKind.wrap_i64]; omega
                      have la1 : (a1 : Int) < (n : Int) := by omega
                      have lpv : (pv : Int) < (n : Int) := by omega
                      obtain ⟨x, hx⟩ : ∃ x, x = d3[a1]! := ⟨_, rfl⟩
                      obtain ⟨y, hy⟩ : ∃ y, y = d3[pv]! := ⟨_, rfl⟩
                      have zx : ∀ w' : World, Srt w' B g n c d3 → w'.cell? ⟨g, a1, none⟩ = some (.int .u64 (x : Int)) := fun w' h => by rw [hx]; exact h.cell (by omega)
                      have zy : ∀ w' : World, Srt w' B g n c d3 → w'.cell? ⟨g, pv, none⟩ = some (.int .u64 (y : Int)) := fun w' h => by rw [hy]; exact h.cell (by omega)
                      have hS0 : Srt wt.drew B g n c d3 := hT.drew
                      have Ha1 := Lib.hid ha1; clear ha1
                      have Hx := Lib.hid hx; clear hx
                      have Hy := Lib.hid hy; clear hy
                      go_upto_region 17 with fail
                      refine wp_region_N (fun w' => Srt w' B g n c d3) 100 (by kernel_rfl) ?_
                      apply wpAnyN_takeL 0 (by kernel_rfl) rfl (fun _ _ _ h => h) (by kernel_rfl) hS0
                      · intro w' hS'
                        go_simp; exact ⟨rfl, rfl⟩
                      (try simp only [Act.put]); (try simp only [List.setIfInBounds_toArray]); (try simp only [List.set])
                      apply wpAnyN_takeL 1 (by kernel_rfl) rfl (fun _ _ _ h => h) (by kernel_rfl) hS0
                      · intro w' hS'
                        go_simp; exact ⟨rfl, rfl⟩
                      (try simp only [Act.put]); (try simp only [List.setIfInBounds_toArray]); (try simp only [List.set])
                      apply wpAnyN_takeL 2 (by kernel_rfl) rfl (fun _ _ _ h => h) (by kernel_rfl) hS0
                      · intro w' hS'
                        go_simp; exact ⟨rfl, rfl⟩
                      (try simp only [Act.put]); (try simp only [List.setIfInBounds_toArray]); (try simp only [List.set])
                      apply wpAnyN_takeL 3 (by kernel_rfl) rfl (fun _ _ _ h => h) (by kernel_rfl) hS0
                      · intro w' hS'
                        go_simp; exact ⟨rfl, rfl⟩
                      (try simp only [Act.put]); (try simp only [List.setIfInBounds_toArray]); (try simp only [List.set])
                      apply wpAnyN_takeL 4 (by kernel_rfl) rfl (fun _ _ _ h => h) (by kernel_rfl) hS0
                      · intro w' hS'
                        go_simp; exact ⟨rfl, rfl⟩
                      (try simp only [Act.put]); (try simp only [List.setIfInBounds_toArray]); (try simp only [List.set])
                      apply wpAnyN_takeL 5 (by kernel_rfl) rfl (fun _ _ _ h => h) (by kernel_rfl) hS0
                      · intro w' hS'
                        go_simp; exact ⟨rfl, rfl⟩
                      (try simp only [Act.put]); (try simp only [List.setIfInBounds_toArray]); (try simp only [List.set])
                      apply wpAnyN_takeL 6 (by kernel_rfl) rfl (fun _ _ _ h => h) (by kernel_rfl) hS0
                      · intro w' hS'
                        go_simp; exact ⟨rfl, rfl⟩
                      (try simp only [Act.put]); (try simp only [List.setIfInBounds_toArray]); (try simp only [List.set])
                      apply wpAnyN_takeL 7 (by kernel_rfl) rfl (fun _ _ _ h => h) (by kernel_rfl) hS0
                      · intro w' hS'
                        go_simp; exact ⟨rfl, rfl⟩
                      (try simp only [Act.put]); (try simp only [List.setIfInBounds_toArray]); (try simp only [List.set])
                      apply wpAnyN_takeL 8 (by kernel_rfl) rfl (fun _ _ _ h => h) (by kernel_rfl) hS0
                      · intro w' hS'
                        go_simp; exact ⟨rfl, rfl⟩
                      (try simp only [Act.put]); (try simp only [List.setIfInBounds_toArray]); (try simp only [List.set])
                      apply wpAnyN_takeL 9 (by kernel_rfl) rfl (fun _ _ _ h => h) (by kernel_rfl) hS0
                      · intro w' hS'
                        go_simp; exact ⟨rfl, rfl⟩
                      (try simp only [Act.put]); (try simp only [List.setIfInBounds_toArray]); (try simp only [List.set])
                      apply wpAnyN_takeL 10 (by kernel_rfl) rfl (fun _ _ _ h => h) (by kernel_rfl) hS0
                      · intro w' hS'
                        go_simp; exact ⟨rfl, rfl⟩
                      (try simp only [Act.put]); (try simp only [List.setIfInBounds_toArray]); (try simp only [List.set])
                      apply wpAnyN_takeL 11 (by kernel_rfl) rfl (fun _ _ _ h => h) (by kernel_rfl) hS0
                      · intro w' hS'
                        go_simp; exact ⟨rfl, rfl⟩
                      (try simp only [Act.put]); (try simp only [List.setIfInBounds_toArray]); (try simp only [List.set])
                      apply wpAnyN_takeL 12 (v := (.bool (ltN x y))) (by kernel_rfl) rfl (fun _ _ _ h => h) (by kernel_rfl) hS0
                      · intro w' hS'
                        (go_simp; exact ⟨rfl, vLessB _ _ _⟩)
                      (try simp only [Act.put]); (try simp only [List.setIfInBounds_toArray]); (try simp only [List.set])
                      apply wpAnyN_takeL 13 (by kernel_rfl) rfl (fun _ _ _ h => h) (by kernel_rfl) hS0
                      · intro w' hS'
                        go_simp; exact ⟨rfl, rfl⟩
                      (try simp only [Act.put]); (try simp only [List.setIfInBounds_toArray]); (try simp only [List.set])
                      apply wpAnyN_takeL 14 (by kernel_rfl) rfl (fun _ _ _ h => h) (by kernel_rfl) hS0
                      · intro w' hS'
                        go_simp; exact ⟨rfl, rfl⟩
                      (try simp only [Act.put]); (try simp only [List.setIfInBounds_toArray]); (try simp only [List.set])
                      refine wpAnyN_done (by kernel_rfl) ?_ _
                      cases hlt : ltN x y with
                      | false =>
                        go_wp2_with fail
                        refine (vPartEq d3 B g n c a b pv wt.drew hS0 hpv1 hpv2 hb hn).mono ?_
                        rintro e w5 ⟨rfl, h5, k5, m1, m2⟩
                        obtain ⟨mid, d4, hpt⟩ : ∃ mid d4, partitionEqual ltN d3 a b pv = (mid, d4) := ⟨_, _, rfl⟩
                        rw [hpt] at h5 m1 m2
                        simp only at h5 m1 m2
                        have htg : pdq ltN d4 mid b lm true true = T := by rw [← Htail.out, pdqD_eq (by rw [← Ha1.out, ← Hx.out, ← Hy.out, hlt]; simp [ha0]) hpt m1 m2]
                        rw [show (partitionEqual ltN d3 a b pv).1 = mid by rw [hpt]]
                        clear hpt
                        have Htg := Lib.hid htg; clear htg
                        go_wp2
                        refine ⟨⟨mid, b, lm, true, true, d4, rfl, rfl, rfl, by first | rfl | simp, by first | rfl | simp, m2, hb, by omega, hlm2, h5, Lib.hid Htg.out, hbT.drew.trans k5⟩, by simp [intOf]; omega⟩
                      | true =>
                        go_wp2_with fail
                        refine (vPart d3 B g n c a b pv wt.drew hS0 hpv1 hpv2 hb hn).mono ?_
                        rintro e w5 ⟨rfl, h5, k5, m1, m2⟩
                        obtain ⟨mid, ap, d4, hpt⟩ : ∃ mid ap d4, partition ltN d3 a b pv = (mid, ap, d4) := ⟨_, _, _, rfl⟩
                        rw [hpt] at h5 m1 m2
                        have htg : pdqE d4 a b mid lm ap = T := by rw [← Htail.out, pdqD_pt (by rw [← Ha1.out, ← Hx.out, ← Hy.out, hlt]; simp) hpt m1 m2]
                        simp only at h5 m1 m2
                        rw [show (partition ltN d3 a b pv).1 = mid by rw [hpt], show (partition ltN d3 a b pv).2.1 = ap by rw [hpt]]
                        clear hpt
                        have Htg := Lib.hid htg; clear htg
                        have hb5 : But [g] w w5 := hbT.drew.trans k5
                        obtain ⟨lf, hlf⟩ : ∃ lf, lf = mid - a := ⟨_, rfl⟩
                        obtain ⟨rt, hrt⟩ : ∃ rt, rt = b - mid := ⟨_, rfl⟩
                        obtain ⟨t8, ht8⟩ : ∃ t8, t8 = ln / 8 := ⟨_, rfl⟩
                        have v1 : IntKind.i64.wrap ((mid : Int) - (a : Int)) = (lf : Int) := by rw [IntKind.wrap_i64]; omega
                        have v2 : IntKind.i64.wrap ((b : Int) - (mid : Int)) = (rt : Int) := by rw [IntKind.wrap_i64]; omega
                        have v3 : IntKind.i64.wrap ((ln : Int) / 8) = (t8 : Int) := by have := Hln.out; rw [IntKind.wrap_i64]; omega
                        have v4 : IntKind.i64.wrap ((mid : Int) + 1) = ((mid + 1 : Nat) : Int) := by rw [IntKind.wrap_i64]; omega
                        have hbal1 : decide (mid - a ≥ (b - a) / 8) = decide (t8 ≤ lf) := by rw [hlf, ht8, Hln.out]
                        have hbal2 : decide (b - mid ≥ (b - a) / 8) = decide (t8 ≤ rt) := by rw [hrt, ht8, Hln.out]
                        have hcmp : (mid - a < b - mid) ↔ lf < rt := by rw [hlf, hrt]
                        have Hbal := Lib.hid (And.intro hbal1 (And.intro hbal2 hcmp)); clear hbal1 hbal2 hcmp
                        have Hlf := Lib.hid hlf; clear hlf
                        have Hrt := Lib.hid hrt; clear hrt
                        have Ht8 := Lib.hid ht8; clear ht8
                        by_cases hlr : lf < rt
                        · have lrt : (lf : Int) < (rt : Int) := by omega
                          go_upto_region 25 with fail
                          cases hbb : decide (t8 ≤ lf) with
                          | true =>
                            have lb : (t8 : Int) ≤ (lf : Int) := by have := of_decide_eq_true hbb; omega
                            go_wp2_with fail
                            refine (Ih.out d4 a mid lm w5 (by omega) m1 (by omega) hlm2 h5).mono ?_
                            rintro e w6 ⟨rfl, h6, k6⟩
                            go_wp2
                            refine ⟨⟨mid + 1, b, lm, _, ap, _, by simp, rfl, rfl, rfl, rfl, by omega, hb, by omega, hlm2, h6, Lib.hid ?_, hb5.trans k6⟩, by simp [intOf]; omega⟩
                            rw [← Htg.out, pdqE, if_pos (Hbal.out.2.2.2 hlr), Hbal.out.1, hbb]
                          | false =>
                            have lb : ¬ (t8 : Int) ≤ (lf : Int) := by have := of_decide_eq_false hbb; omega
                            go_wp2_with fail
                            refine (Ih.out d4 a mid lm w5 (by omega) m1 (by omega) hlm2 h5).mono ?_
                            rintro e w6 ⟨rfl, h6, k6⟩
                            go_wp2
                            refine ⟨⟨mid + 1, b, lm, _, ap, _, by simp, rfl, rfl, rfl, rfl, by omega, hb, by omega, hlm2, h6, Lib.hid ?_, hb5.trans k6⟩, by simp [intOf]; omega⟩
                            rw [← Htg.out, pdqE, if_pos (Hbal.out.2.2.2 hlr), Hbal.out.1, hbb]
                        · have lrt : ¬ (lf : Int) < (rt : Int) := by omega
                          go_upto_region 28 with fail
                          cases hbb : decide (t8 ≤ rt) with
                          | true =>
                            have lb : (t8 : Int) ≤ (rt : Int) := by have := of_decide_eq_true hbb; omega
                            go_wp2_with fail
                            refine (Ih.out d4 (mid + 1) b lm w5 (by omega) (by omega) hb hlm2 h5).mono ?_
                            rintro e w6 ⟨rfl, h6, k6⟩
                            go_wp2
                            refine ⟨⟨a, mid, lm, _, ap, _, rfl, rfl, rfl, rfl, rfl, m1, by omega, by omega, hlm2, h6, Lib.hid ?_, hb5.trans k6⟩, by simp [intOf]; omega⟩
                            rw [← Htg.out, pdqE, if_neg (fun h => hlr (Hbal.out.2.2.1 h)), Hbal.out.2.1, hbb]
                          | false =>
                            have lb : ¬ (t8 : Int) ≤ (rt : Int) := by have := of_decide_eq_false hbb; omega
                            go_wp2_with fail
                            refine (Ih.out d4 (mid + 1) b lm w5 (by omega) (by omega) hb hlm2 h5).mono ?_
                            rintro e w6 ⟨rfl, h6, k6⟩
                            go_wp2
                            refine ⟨⟨a, mid, lm, _, ap, _, rfl, rfl, rfl, rfl, rfl, m1, by omega, by omega, hlm2, h6, Lib.hid ?_, hb5.trans k6⟩, by simp [intOf]; omega⟩
                            rw [← Htg.out, pdqE, if_neg (fun h => hlr (Hbal.out.2.2.1 h)), Hbal.out.2.1, hbb]
                    · have la0 : ¬ (0 : Int) < (a : Int) := by omega
                      have hS0 : Srt wt.drew B g n c d3 := hT.drew
                      go_upto_region 17 with fail
                      refine wp_region_N (fun w' => Srt w' B g n c d3) 100 (by kernel_rfl) ?_
                      apply wpAnyN_takeL 0 (by kernel_rfl) rfl (fun _ _ _ h => h) (by kernel_rfl) hS0
                      · intro w' hS'
                        go_simp; exact ⟨rfl, rfl⟩
                      (try simp only [Act.put]); (try simp only [List.setIfInBounds_toArray]); (try simp only [List.set])
                      apply wpAnyN_takeL 1 (by kernel_rfl) rfl (fun _ _ _ h => h) (by kernel_rfl) hS0
                      · intro w' hS'
                        go_simp; exact ⟨rfl, rfl⟩
                      (try simp only [Act.put]); (try simp only [List.setIfInBounds_toArray]); (try simp only [List.set])
                      apply wpAnyN_takeL 2 (by kernel_rfl) rfl (fun _ _ _ h => h) (by kernel_rfl) hS0
                      · intro w' hS'
                        go_simp; exact ⟨rfl, rfl⟩
                      (try simp only [Act.put]); (try simp only [List.setIfInBounds_toArray]); (try simp only [List.set])
                      refine wpAnyN_skipL 3 (by kernel_rfl) rfl (fun _ _ _ h => h) (by kernel_rfl) hS0 ?_
                      (try simp only [Act.put]); (try simp only [List.setIfInBounds_toArray]); (try simp only [List.set])
                      refine wpAnyN_skipL 4 (by kernel_rfl) rfl (fun _ _ _ h => h) (by kernel_rfl) hS0 ?_
                      (try simp only [Act.put]); (try simp only [List.setIfInBounds_toArray]); (try simp only [List.set])
                      refine wpAnyN_skipL 5 (by kernel_rfl) rfl (fun _ _ _ h => h) (by kernel_rfl) hS0 ?_
                      (try simp only [Act.put]); (try simp only [List.setIfInBounds_toArray]); (try simp only [List.set])
                      refine wpAnyN_skipL 6 (by kernel_rfl) rfl (fun _ _ _ h => h) (by kernel_rfl) hS0 ?_
                      (try simp only [Act.put]); (try simp only [List.setIfInBounds_toArray]); (try simp only [List.set])
                      refine wpAnyN_skipL 7 (by kernel_rfl) rfl (fun _ _ _ h => h) (by kernel_rfl) hS0 ?_
                      (try simp only [Act.put]); (try simp only [List.setIfInBounds_toArray]); (try simp only [List.set])
                      refine wpAnyN_skipL 8 (by kernel_rfl) rfl (fun _ _ _ h => h) (by kernel_rfl) hS0 ?_
                      (try simp only [Act.put]); (try simp only [List.setIfInBounds_toArray]); (try simp only [List.set])
                      refine wpAnyN_skipL 9 (by kernel_rfl) rfl (fun _ _ _ h => h) (by kernel_rfl) hS0 ?_
                      (try simp only [Act.put]); (try simp only [List.setIfInBounds_toArray]); (try simp only [List.set])
                      refine wpAnyN_skipL 10 (by kernel_rfl) rfl (fun _ _ _ h => h) (by kernel_rfl) hS0 ?_
                      (try simp only [Act.put]); (try simp only [List.setIfInBounds_toArray]); (try simp only [List.set])
                      refine wpAnyN_skipL 11 (by kernel_rfl) rfl (fun _ _ _ h => h) (by kernel_rfl) hS0 ?_
                      (try simp only [Act.put]); (try simp only [List.setIfInBounds_toArray]); (try simp only [List.set])
                      refine wpAnyN_skipL 12 (by kernel_rfl) rfl (fun _ _ _ h => h) (by kernel_rfl) hS0 ?_
                      (try simp only [Act.put]); (try simp only [List.setIfInBounds_toArray]); (try simp only [List.set])
                      refine wpAnyN_skipL 13 (by kernel_rfl) rfl (fun _ _ _ h => h) (by kernel_rfl) hS0 ?_
                      (try simp only [Act.put]); (try simp only [List.setIfInBounds_toArray]); (try simp only [List.set])
                      apply wpAnyN_takeL 14 (by kernel_rfl) rfl (fun _ _ _ h => h) (by kernel_rfl) hS0
                      · intro w' hS'
                        go_simp; exact ⟨rfl, rfl⟩
                      (try simp only [Act.put]); (try simp only [List.setIfInBounds_toArray]); (try simp only [List.set])
                      refine wpAnyN_done (by kernel_rfl) ?_ _
                      go_wp2_with fail
                      refine (vPart d3 B g n c a b pv wt.drew hS0 hpv1 hpv2 hb hn).mono ?_
                      rintro e w5 ⟨rfl, h5, k5, m1, m2⟩
                      obtain ⟨mid, ap, d4, hpt⟩ : ∃ mid ap d4, partition ltN d3 a b pv = (mid, ap, d4) := ⟨_, _, _, rfl⟩
                      rw [hpt] at h5 m1 m2
                      have htg : pdqE d4 a b mid lm ap = T := by rw [← Htail.out, pdqD_pt (by simp [show a = 0 by omega]) hpt m1 m2]
                      simp only at h5 m1 m2
                      rw [show (partition ltN d3 a b pv).1 = mid by rw [hpt], show (partition ltN d3 a b pv).2.1 = ap by rw [hpt]]
                      clear hpt
                      have Htg := Lib.hid htg; clear htg
                      have hb5 : But [g] w w5 := hbT.drew.trans k5
                      obtain ⟨lf, hlf⟩ : ∃ lf, lf = mid - a := ⟨_, rfl⟩
                      obtain ⟨rt, hrt⟩ : ∃ rt, rt = b - mid := ⟨_, rfl⟩
                      obtain ⟨t8, ht8⟩ : ∃ t8, t8 = ln / 8 := ⟨_, rfl⟩
                      have v1 : IntKind.i64.wrap ((mid : Int) - (a : Int)) = (lf : Int) := by rw [IntKind.wrap_i64]; omega
                      have v2 : IntKind.i64.wrap ((b : Int) - (mid : Int)) = (rt : Int) := by rw [IntKind.wrap_i64]; omega
                      have v3 : IntKind.i64.wrap ((ln : Int) / 8) = (t8 : Int) := by have := Hln.out; rw [IntKind.wrap_i64]; omega
                      have v4 : IntKind.i64.wrap ((mid : Int) + 1) = ((mid + 1 : Nat) : Int) := by rw [IntKind.wrap_i64]; omega
                      have hbal1 : decide (mid - a ≥ (b - a) / 8) = decide (t8 ≤ lf) := by rw [hlf, ht8, Hln.out]
                      have hbal2 : decide (b - mid ≥ (b - a) / 8) = decide (t8 ≤ rt) := by rw [hrt, ht8, Hln.out]
                      have hcmp : (mid - a < b - mid) ↔ lf < rt := by rw [hlf, hrt]
                      have Hbal := Lib.hid (And.intro hbal1 (And.intro hbal2 hcmp)); clear hbal1 hbal2 hcmp
                      have Hlf := Lib.hid hlf; clear hlf
                      have Hrt := Lib.hid hrt; clear hrt
                      have Ht8 := Lib.hid ht8; clear ht8
                      by_cases hlr : lf < rt
                      · have lrt : (lf : Int) < (rt : Int) := by omega
                        go_upto_region 25 with fail
                        cases hbb : decide (t8 ≤ lf) with
                        | true =>
                          have lb : (t8 : Int) ≤ (lf : Int) := by have := of_decide_eq_true hbb; omega
                          go_wp2_with fail
                          refine (Ih.out d4 a mid lm w5 (by omega) m1 (by omega) hlm2 h5).mono ?_
                          rintro e w6 ⟨rfl, h6, k6⟩
                          go_wp2
                          refine ⟨⟨mid + 1, b, lm, _, ap, _, by simp, rfl, rfl, rfl, rfl, by omega, hb, by omega, hlm2, h6, Lib.hid ?_, hb5.trans k6⟩, by simp [intOf]; omega⟩
                          rw [← Htg.out, pdqE, if_pos (Hbal.out.2.2.2 hlr), Hbal.out.1, hbb]
                        | false =>
                          have lb : ¬ (t8 : Int) ≤ (lf : Int) := by have := of_decide_eq_false hbb; omega
                          go_wp2_with fail
                          refine (Ih.out d4 a mid lm w5 (by omega) m1 (by omega) hlm2 h5).mono ?_
                          rintro e w6 ⟨rfl, h6, k6⟩
                          go_wp2
                          refine ⟨⟨mid + 1, b, lm, _, ap, _, by simp, rfl, rfl, rfl, rfl, by omega, hb, by omega, hlm2, h6, Lib.hid ?_, hb5.trans k6⟩, by simp [intOf]; omega⟩
                          rw [← Htg.out, pdqE, if_pos (Hbal.out.2.2.2 hlr), Hbal.out.1, hbb]
                      · have lrt : ¬ (lf : Int) < (rt : Int) := by omega
                        go_upto_region 28 with fail
                        cases hbb : decide (t8 ≤ rt) with
                        | true =>
                          have lb : (t8 : Int) ≤ (rt : Int) := by have := of_decide_eq_true hbb; omega
                          go_wp2_with fail
                          refine (Ih.out d4 (mid + 1) b lm w5 (by omega) (by omega) hb hlm2 h5).mono ?_
                          rintro e w6 ⟨rfl, h6, k6⟩
                          go_wp2
                          refine ⟨⟨a, mid, lm, _, ap, _, rfl, rfl, rfl, rfl, rfl, m1, by omega, by omega, hlm2, h6, Lib.hid ?_, hb5.trans k6⟩, by simp [intOf]; omega⟩
                          rw [← Htg.out, pdqE, if_neg (fun h => hlr (Hbal.out.2.2.1 h)), Hbal.out.2.1, hbb]
                        | false =>
                          have lb : ¬ (t8 : Int) ≤ (rt : Int) := by have := of_decide_eq_false hbb; omega
                          go_wp2_with fail
                          refine (Ih.out d4 (mid + 1) b lm w5 (by omega) (by omega) hb hlm2 h5).mono ?_
                          rintro e w6 ⟨rfl, h6, k6⟩
                          go_wp2
                          refine ⟨⟨a, mid, lm, _, ap, _, rfl, rfl, rfl, rfl, rfl, m1, by omega, by omega, hlm2, h6, Lib.hid ?_, hb5.trans k6⟩, by simp [intOf]; omega⟩
                          rw [← Htg.out, pdqE, if_neg (fun h => hlr (Hbal.out.2.2.1 h)), Hbal.out.2.1, hbb]
              · have l1 : ¬ hv = 1 := by rw [Hhv.out]; intro h; apply hinc; cases ch <;> simp_all [hintV]
                as_aux_lemma =>
                  have htail : pdqD d2 a b lm pv true true = T := by rw [← Hc.out, pdqC_no (by simp [hinc])]
                  have Htail := Lib.hid htail; clear htail
                  obtain ⟨d3, hd3⟩ : ∃ d3, d3 = d2 := ⟨_, rfl⟩
                  obtain ⟨wt, hwt⟩ : ∃ wt, wt = ws := ⟨_, rfl⟩
                  rw [← hd3] at hs Htail
                  clear hd3
                  rw [← hwt] at hs hbs ⊢
                  clear hwt
                  have hT := hs
                  have hbT := hbs
                  clear hs hbs
                  by_cases ha0 : 0 < a
                  · have la0 : (0 : Int) < (a : Int) := by omega
                    obtain ⟨a1, ha1⟩ : ∃ a1, a1 = a - 1 := ⟨_, rfl⟩
                    have wa1 : IntKind.i64.wrap ((a : Int) - 1) = (a1 : Int) := by rw [IntKind.wrap_i64]; omega
                    have la1 : (a1 : Int) < (n : Int) := by omega
                    have lpv : (pv : Int) < (n : Int) := by omega
                    obtain ⟨x, hx⟩ : ∃ x, x = d3[a1]! := ⟨_, rfl⟩
                    obtain ⟨y, hy⟩ : ∃ y, y = d3[pv]! := ⟨_, rfl⟩
                    have zx : ∀ w' : World, Srt w' B g n c d3 → w'.cell? ⟨g, a1, none⟩ = some (.int .u64 (x : Int)) := fun w' h => by rw [hx]; exact h.cell (by omega)
                    have zy : ∀ w' : World, Srt w' B g n c d3 → w'.cell? ⟨g, pv, none⟩ = some (.int .u64 (y : Int)) := fun w' h => by rw [hy]; exact h.cell (by omega)
                    have hS0 : Srt wt.drew B g n c d3 := hT.drew
                    have Ha1 := Lib.hid ha1; clear ha1
                    have Hx := Lib.hid hx; clear hx
                    have Hy := Lib.hid hy; clear hy
                    go_upto_region 17 with fail
                    refine wp_region_N (fun w' => Srt w' B g n c d3) 100 (by kernel_rfl) ?_
                    apply wpAnyN_takeL 0 (by kernel_rfl) rfl (fun _ _ _ h => h) (by kernel_rfl) hS0
                    · intro w' hS'
                      go_simp; exact ⟨rfl, rfl⟩
                    (try simp only [Act.put]); (try simp only [List.setIfInBounds_toArray]); (try simp only [List.set])
                    apply wpAnyN_takeL 1 (by kernel_rfl) rfl (fun _ _ _ h => h) (by kernel_rfl) hS0
                    · intro w' hS'
                      go_simp; exact ⟨rfl, rfl⟩
                    (try simp only [Act.put]); (try simp only [List.setIfInBounds_toArray]); (try simp only [List.set])
                    apply wpAnyN_takeL 2 (by kernel_rfl) rfl (fun _ _ _ h => h) (by kernel_rfl) hS0
                    · intro w' hS'
                      go_simp; exact ⟨rfl, rfl⟩
                    (try simp only [Act.put]); (try simp only [List.setIfInBounds_toArray]); (try simp only [List.set])
                    apply wpAnyN_takeL 3 (by kernel_rfl) rfl (fun _ _ _ h => h) (by kernel_rfl) hS0
                    · intro w' hS'
                      go_simp; exact ⟨rfl, rfl⟩
                    (try simp only [Act.put]); (try simp only [List.setIfInBounds_toArray]); (try simp only [List.set])
                    apply wpAnyN_takeL 4 (by kernel_rfl) rfl (fun _ _ _ h => h) (by kernel_rfl) hS0
                    · intro w' hS'
                      go_simp; exact ⟨rfl, rfl⟩
                    (try simp only [Act.put]); (try simp only [List.setIfInBounds_toArray]); (try simp only [List.set])
                    apply wpAnyN_takeL 5 (by kernel_rfl) rfl (fun _ _ _ h => h) (by kernel_rfl) hS0
                    · intro w' hS'
                      go_simp; exact ⟨rfl, rfl⟩
                    (try simp only [Act.put]); (try simp only [List.setIfInBounds_toArray]); (try simp only [List.set])
                    apply wpAnyN_takeL 6 (by kernel_rfl) rfl (fun _ _ _ h => h) (by kernel_rfl) hS0
                    · intro w' hS'
                      go_simp; exact ⟨rfl, rfl⟩
                    (try simp only [Act.put]); (try simp only [List.setIfInBounds_toArray]); (try simp only [List.set])
                    apply wpAnyN_takeL 7 (by kernel_rfl) rfl (fun _ _ _ h => h) (by kernel_rfl) hS0
                    · intro w' hS'
                      go_simp; exact ⟨rfl, rfl⟩
                    (try simp only [Act.put]); (try simp only [List.setIfInBounds_toArray]); (try simp only [List.set])
                    apply wpAnyN_takeL 8 (by kernel_rfl) rfl (fun _ _ _ h => h) (by kernel_rfl) hS0
                    · intro w' hS'
                      go_simp; exact ⟨rfl, rfl⟩
                    (try simp only [Act.put]); (try simp only [List.setIfInBounds_toArray]); (try simp only [List.set])
                    apply wpAnyN_takeL 9 (by kernel_rfl) rfl (fun _ _ _ h => h) (by kernel_rfl) hS0
                    · intro w' hS'
                      go_simp; exact ⟨rfl, rfl⟩
                    (try simp only [Act.put]); (try simp only [List.setIfInBounds_toArray]); (try simp only [List.set])
                    apply wpAnyN_takeL 10 (by kernel_rfl) rfl (fun _ _ _ h => h) (by kernel_rfl) hS0
                    · intro w' hS'
                      go_simp; exact ⟨rfl, rfl⟩
                    (try simp only [Act.put]); (try simp only [List.setIfInBounds_toArray]); (try simp only [List.set])
                    apply wpAnyN_takeL 11 (by kernel_rfl) rfl (fun _ _ _ h => h) (by kernel_rfl) hS0
                    · intro w' hS'
                      go_simp; exact ⟨rfl, rfl⟩
                    (try simp only [Act.put]); (try simp only [List.setIfInBounds_toArray]); (try simp only [List.set])
                    apply wpAnyN_takeL 12 (v := (.bool (ltN x y))) (by kernel_rfl) rfl (fun _ _ _ h => h) (by kernel_rfl) hS0
                    · intro w' hS'
                      (go_simp; exact ⟨rfl, vLessB _ _ _⟩)
                    (try simp only [Act.put]); (try simp only [List.setIfInBounds_toArray]); (try simp only [List.set])
                    apply wpAnyN_takeL 13 (by kernel_rfl) rfl (fun _ _ _ h => h) (by kernel_rfl) hS0
                    · intro w' hS'
                      go_simp; exact ⟨rfl, rfl⟩
                    (try simp only [Act.put]); (try simp only [List.setIfInBounds_toArray]); (try simp only [List.set])
                    apply wpAnyN_takeL 14 (by kernel_rfl) rfl (fun _ _ _ h => h) (by kernel_rfl) hS0
                    · intro w' hS'
                      go_simp; exact ⟨rfl, rfl⟩
                    (try simp only [Act.put]); (try simp only [List.setIfInBounds_toArray]); (try simp only [List.set])
                    refine wpAnyN_done (by kernel_rfl) ?_ _
                    cases hlt : ltN x y with
                    | false =>
                      go_wp2_with fail
                      refine (vPartEq d3 B g n c a b pv wt.drew hS0 hpv1 hpv2 hb hn).mono ?_
                      rintro e w5 ⟨rfl, h5, k5, m1, m2⟩
                      obtain ⟨mid, d4, hpt⟩ : ∃ mid d4, partitionEqual ltN d3 a b pv = (mid, d4) := ⟨_, _, rfl⟩
                      rw [hpt] at h5 m1 m2
                      simp only at h5 m1 m2
                      have htg : pdq ltN d4 mid b lm true true = T := by rw [← Htail.out, pdqD_eq (by rw [← Ha1.out, ← Hx.out, ← Hy.out, hlt]; simp [ha0]) hpt m1 m2]
                      rw [show (partitionEqual ltN d3 a b pv).1 = mid by rw [hpt]]
                      clear hpt
                      have Htg := Lib.hid htg; clear htg
                      go_wp2
                      refine ⟨⟨mid, b, lm, true, true, d4, rfl, rfl, rfl, by first | rfl | simp, by first | rfl | simp, m2, hb, by omega, hlm2, h5, Lib.hid Htg.out, hbT.drew.trans k5⟩, by simp [intOf]; omega⟩
                    | true =>
                      go_wp2_with fail
                      refine (vPart d3 B g n c a b pv wt.drew hS0 hpv1 hpv2 hb hn).mono ?_
                      rintro e w5 ⟨rfl, h5, k5, m1, m2⟩
                      obtain ⟨mid, ap, d4, hpt⟩ : ∃ mid ap d4, partition ltN d3 a b pv = (mid, ap, d4) := ⟨_, _, _, rfl⟩
                      rw [hpt] at h5 m1 m2
                      have htg : pdqE d4 a b mid lm ap = T := by rw [← Htail.out, pdqD_pt (by rw [← Ha1.out, ← Hx.out, ← Hy.out, hlt]; simp) hpt m1 m2]
                      simp only at h5 m1 m2
                      rw [show (partition ltN d3 a b pv).1 = mid by rw [hpt], show (partition ltN d3 a b pv).2.1 = ap by rw [hpt]]
                      clear hpt
                      have Htg := Lib.hid htg; clear htg
                      have hb5 : But [g] w w5 := hbT.drew.trans k5
                      obtain ⟨lf, hlf⟩ : ∃ lf, lf = mid - a := ⟨_, rfl⟩
                      obtain ⟨rt, hrt⟩ : ∃ rt, rt = b - mid := ⟨_, rfl⟩
                      obtain ⟨t8, ht8⟩ : ∃ t8, t8 = ln / 8 := ⟨_, rfl⟩
                      have v1 : IntKind.i64.wrap ((mid : Int) - (a : Int)) = (lf : Int) := by rw [IntKind.wrap_i64]; omega
                      have v2 : IntKind.i64.wrap ((b : Int) - (mid : Int)) = (rt : Int) := by rw [IntKind.wrap_i64]; omega
                      have v3 : IntKind.i64.wrap ((ln : Int) / 8) = (t8 : Int) := by have := Hln.out; rw [IntKind.wrap_i64]; omega
                      have v4 : IntKind.i64.wrap ((mid : Int) + 1) = ((mid + 1 : Nat) : Int) := by rw [IntKind.wrap_i64]; omega
                      have hbal1 : decide (mid - a ≥ (b - a) / 8) = decide (t8 ≤ lf) := by rw [hlf, ht8, Hln.out]
                      have hbal2 : decide (b - mid ≥ (b - a) / 8) = decide (t8 ≤ rt) := by rw [hrt, ht8, Hln.out]
                      have hcmp : (mid - a < b - mid) ↔ lf < rt := by rw [hlf, hrt]
                      have Hbal := Lib.hid (And.intro hbal1 (And.intro hbal2 hcmp)); clear hbal1 hbal2 hcmp
                      have Hlf := Lib.hid hlf; clear hlf
                      have Hrt := Lib.hid hrt; clear hrt
                      have Ht8 := Lib.hid ht8; clear ht8
                      by_cases hlr : lf < rt
                      · have lrt : (lf : Int) < (rt : Int) := by omega
                        go_upto_region 25 with fail
                        cases hbb : decide (t8 ≤ lf) with
                        | true =>
                          have lb : (t8 : Int) ≤ (lf : Int) := by have := of_decide_eq_true hbb; omega
                          go_wp2_with fail
                          refine (Ih.out d4 a mid lm w5 (by omega) m1 (by omega) hlm2 h5).mono ?_
                          rintro e w6 ⟨rfl, h6, k6⟩
                          go_wp2
                          refine ⟨⟨mid + 1, b, lm, _, ap, _, by simp, rfl, rfl, rfl, rfl, by omega, hb, by omega, hlm2, h6, Lib.hid ?_, hb5.trans k6⟩, by simp [intOf]; omega⟩
                          rw [← Htg.out, pdqE, if_pos (Hbal.out.2.2.2 hlr), Hbal.out.1, hbb]
                        | false =>
                          have lb : ¬ (t8 : Int) ≤ (lf : Int) := by have := of_decide_eq_false hbb; omega
                          go_wp2_with fail
                          refine (Ih.out d4 a mid lm w5 (by omega) m1 (by omega) hlm2 h5).mono ?_
                          rintro e w6 ⟨rfl, h6, k6⟩
                          go_wp2
                          refine ⟨⟨mid + 1, b, lm, _, ap, _, by simp, rfl, rfl, rfl, rfl, by omega, hb, by omega, hlm2, h6, Lib.hid ?_, hb5.trans k6⟩, by simp [intOf]; omega⟩
                          rw [← Htg.out, pdqE, if_pos (Hbal.out.2.2.2 hlr), Hbal.out.1, hbb]
                      · have lrt : ¬ (lf : Int) < (rt : Int) := by omega
                        go_upto_region 28 with fail
                        cases hbb : decide (t8 ≤ rt) with
                        | true =>
                          have lb : (t8 : Int) ≤ (rt : Int) := by have := of_decide_eq_true hbb; omega
                          go_wp2_with fail
                          refine (Ih.out d4 (mid + 1) b lm w5 (by omega) (by omega) hb hlm2 h5).mono ?_
                          rintro e w6 ⟨rfl, h6, k6⟩
                          go_wp2
                          refine ⟨⟨a, mid, lm, _, ap, _, rfl, rfl, rfl, rfl, rfl, m1, by omega, by omega, hlm2, h6, Lib.hid ?_, hb5.trans k6⟩, by simp [intOf]; omega⟩
                          rw [← Htg.out, pdqE, if_neg (fun h => hlr (Hbal.out.2.2.1 h)), Hbal.out.2.1, hbb]
                        | false =>
                          have lb : ¬ (t8 : Int) ≤ (rt : Int) := by have := of_decide_eq_false hbb; omega
                          go_wp2_with fail
                          refine (Ih.out d4 (mid + 1) b lm w5 (by omega) (by omega) hb hlm2 h5).mono ?_
                          rintro e w6 ⟨rfl, h6, k6⟩
                          go_wp2
                          refine ⟨⟨a, mid, lm, _, ap, _, rfl, rfl, rfl, rfl, rfl, m1, by omega, by omega, hlm2, h6, Lib.hid ?_, hb5.trans k6⟩, by simp [intOf]; omega⟩
                          rw [← Htg.out, pdqE, if_neg (fun h => hlr (Hbal.out.2.2.1 h)), Hbal.out.2.1, hbb]
                  · have la0 : ¬ (0 : Int) < (a : Int) := by omega
                    have hS0 : Srt wt.drew B g n c d3 := hT.drew
                    go_upto_region 17 with fail
                    refine wp_region_N (fun w' => Srt w' B g n c d3) 100 (by kernel_rfl) ?_
                    apply wpAnyN_takeL 0 (by kernel_rfl) rfl (fun _ _ _ h => h) (by kernel_rfl) hS0
                    · intro w' hS'
                      go_simp; exact ⟨rfl, rfl⟩
                    (try simp only [Act.put]); (try simp only [List.setIfInBounds_toArray]); (try simp only [List.set])
                    apply wpAnyN_takeL 1 (by kernel_rfl) rfl (fun _ _ _ h => h) (by kernel_rfl) hS0
                    · intro w' hS'
                      go_simp; exact ⟨rfl, rfl⟩
                    (try simp only [Act.put]); (try simp only [List.setIfInBounds_toArray]); (try simp only [List.set])
                    apply wpAnyN_takeL 2 (by kernel_rfl) rfl (fun _ _ _ h => h) (by kernel_rfl) hS0
                    · intro w' hS'
                      go_simp; exact ⟨rfl, rfl⟩
                    (try simp only [Act.put]); (try simp only [List.setIfInBounds_toArray]); (try simp only [List.set])
                    refine wpAnyN_skipL 3 (by kernel_rfl) rfl (fun _ _ _ h => h) (by kernel_rfl) hS0 ?_
                    (try simp only [Act.put]); (try simp only [List.setIfInBounds_toArray]); (try simp only [List.set])
                    refine wpAnyN_skipL 4 (by kernel_rfl) rfl (fun _ _ _ h => h) (by kernel_rfl) hS0 ?_
                    (try simp only [Act.put]); (try simp only [List.setIfInBounds_toArray]); (try simp only [List.set])
                    refine wpAnyN_skipL 5 (by kernel_rfl) rfl (fun _ _ _ h => h) (by kernel_rfl) hS0 ?_
                    (try simp only [Act.put]); (try simp only [List.setIfInBounds_toArray]); (try simp only [List.set])
                    refine wpAnyN_skipL 6 (by kernel_rfl) rfl (fun _ _ _ h => h) (by kernel_rfl) hS0 ?_
                    (try simp only [Act.put]); (try simp only [List.setIfInBounds_toArray]); (try simp only [List.set])
                    refine wpAnyN_skipL 7 (by kernel_rfl) rfl (fun _ _ _ h => h) (by kernel_rfl) hS0 ?_
                    (try simp only [Act.put]); (try simp only [List.setIfInBounds_toArray]); (try simp only [List.set])
                    refine wpAnyN_skipL 8 (by kernel_rfl) rfl (fun _ _ _ h => h) (by kernel_rfl) hS0 ?_
                    (try simp only [Act.put]); (try simp only [List.setIfInBounds_toArray]); (try simp only [List.set])
                    refine wpAnyN_skipL 9 (by kernel_rfl) rfl (fun _ _ _ h => h) (by kernel_rfl) hS0 ?_
                    (try simp only [Act.put]); (try simp only [List.setIfInBounds_toArray]); (try simp only [List.set])
                    refine wpAnyN_skipL 10 (by kernel_rfl) rfl (fun _ _ _ h => h) (by kernel_rfl) hS0 ?_
                    (try simp only [Act.put]); (try simp only [List.setIfInBounds_toArray]); (try simp only [List.set])
                    refine wpAnyN_skipL 11 (by kernel_rfl) rfl (fun _ _ _ h => h) (by kernel_rfl) hS0 ?_
                    (try simp only [Act.put]); (try simp only [List.setIfInBounds_toArray]); (try simp only [List.set])
                    refine wpAnyN_skipL 12 (by kernel_rfl) rfl (fun _ _ _ h => h) (by kernel_rfl) hS0 ?_
                    (try simp only [Act.put]); (try simp only [List.setIfInBounds_toArray]); (try simp only [List.set])
                    refine wpAnyN_skipL 13 (by kernel_rfl) rfl (fun _ _ _ h => h) (by kernel_rfl) hS0 ?_
                    (try simp only [Act.put]); (try simp only [List.setIfInBounds_toArray]); (try simp only [List.set])
                    apply wpAnyN_takeL 14 (by kernel_rfl) rfl (fun _ _ _ h => h) (by kernel_rfl) hS0
                    · intro w' hS'
                      go_simp; exact ⟨rfl, rfl⟩
                    (try simp only [Act.put]); (try simp only [List.setIfInBounds_toArray]); (try simp only [List.set])
                    refine wpAnyN_done (by kernel_rfl) ?_ _
                    go_wp2_with fail
                    refine (vPart d3 B g n c a b pv wt.drew hS0 hpv1 hpv2 hb hn).mono ?_
                    rintro e w5 ⟨rfl, h5, k5, m1, m2⟩
                    obtain ⟨mid, ap, d4, hpt⟩ : ∃ mid ap d4, partition ltN d3 a b pv = (mid, ap, d4) := ⟨_, _, _, rfl⟩
                    rw [hpt] at h5 m1 m2
                    have htg : pdqE d4 a b mid lm ap = T := by rw [← Htail.out, pdqD_pt (by simp [show a = 0 by omega]) hpt m1 m2]
                    simp only at h5 m1 m2
                    rw [show (partition ltN d3 a b pv).1 = mid by rw [hpt], show (partition ltN d3 a b pv).2.1 = ap by rw [hpt]]
                    clear hpt
                    have Htg := Lib.hid htg; clear htg
                    have hb5 : But [g] w w5 := hbT.drew.trans k5
                    obtain ⟨lf, hlf⟩ : ∃ lf, lf = mid - a := ⟨_, rfl⟩
                    obtain ⟨rt, hrt⟩ : ∃ rt, rt = b - mid := ⟨_, rfl⟩
                    obtain ⟨t8, ht8⟩ : ∃ t8, t8 = ln / 8 := ⟨_, rfl⟩
                    have v1 : IntKind.i64.wrap ((mid : Int) - (a : Int)) = (lf : Int) := by rw [IntKind.wrap_i64]; omega
                    have v2 : IntKind.i64.wrap ((b : Int) - (mid : Int)) = (rt : Int) := by rw [IntKind.wrap_i64]; omega
                    have v3 : IntKind.i64.wrap ((ln : Int) / 8) = (t8 : Int) := by have := Hln.out; rw [IntKind.wrap_i64]; omega
                    have v4 : IntKind.i64.wrap ((mid : Int) + 1) = ((mid + 1 : Nat) : Int) := by rw [IntKind.wrap_i64]; omega
                    have hbal1 : decide (mid - a ≥ (b - a) / 8) = decide (t8 ≤ lf) := by rw [hlf, ht8, Hln.out]
                    have hbal2 : decide (b - mid ≥ (b - a) / 8) = decide (t8 ≤ rt) := by rw [hrt, ht8, Hln.out]
                    have hcmp : (mid - a < b - mid) ↔ lf < rt := by rw [hlf, hrt]
                    have Hbal := Lib.hid (And.intro hbal1 (And.intro hbal2 hcmp)); clear hbal1 hbal2 hcmp
                    have Hlf := Lib.hid hlf; clear hlf
                    have Hrt := Lib.hid hrt; clear hrt
                    have Ht8 := Lib.hid ht8; clear ht8
                    by_cases hlr : lf < rt
                    · have lrt : (lf : Int) < (rt : Int) := by omega
                      go_upto_region 25 with fail
                      cases hbb : decide (t8 ≤ lf) with
                      | true =>
                        have lb : (t8 : Int) ≤ (lf : Int) := by have := of_decide_eq_true hbb; omega
                        go_wp2_with fail
                        refine (Ih.out d4 a mid lm w5 (by omega) m1 (by omega) hlm2 h5).mono ?_
                        rintro e w6 ⟨rfl, h6, k6⟩
                        go_wp2
                        refine ⟨⟨mid + 1, b, lm, _, ap, _, by simp, rfl, rfl, rfl, rfl, by omega, hb, by omega, hlm2, h6, Lib.hid ?_, hb5.trans k6⟩, by simp [intOf]; omega⟩
                        rw [← Htg.out, pdqE, if_pos (Hbal.out.2.2.2 hlr), Hbal.out.1, hbb]
                      | false =>
                        have lb : ¬ (t8 : Int) ≤ (lf : Int) := by have := of_decide_eq_false hbb; omega
                        go_wp2_with fail
                        refine (Ih.out d4 a mid lm w5 (by omega) m1 (by omega) hlm2 h5).mono ?_
                        rintro e w6 ⟨rfl, h6, k6⟩
                        go_wp2
                        refine ⟨⟨mid + 1, b, lm, _, ap, _, by simp, rfl, rfl, rfl, rfl, by omega, hb, by omega, hlm2, h6, Lib.hid ?_, hb5.trans k6⟩, by simp [intOf]; omega⟩
                        rw [← Htg.out, pdqE, if_pos (Hbal.out.2.2.2 hlr), Hbal.out.1, hbb]
                    · have lrt : ¬ (lf : Int) < (rt : Int) := by omega
                      go_upto_region 28 with fail
                      cases hbb : decide (t8 ≤ rt) with
                      | true =>
                        have lb : (t8 : Int) ≤ (rt : Int) := by have := of_decide_eq_true hbb; omega
                        go_wp2_with fail
                        refine (Ih.out d4 (mid + 1) b lm w5 (by omega) (by omega) hb hlm2 h5).mono ?_
                        rintro e w6 ⟨rfl, h6, k6⟩
                        go_wp2
                        refine ⟨⟨a, mid, lm, _, ap, _, rfl, rfl, rfl, rfl, rfl, m1, by omega, by omega, hlm2, h6, Lib.hid ?_, hb5.trans k6⟩, by simp [intOf]; omega⟩
                        rw [← Htg.out, pdqE, if_neg (fun h => hlr (Hbal.out.2.2.1 h)), Hbal.out.2.1, hbb]
                      | false =>
                        have lb : ¬ (t8 : Int) ≤ (rt : Int) := by have := of_decide_eq_false hbb; omega
                        go_wp2_with fail
                        refine (Ih.out d4 (mid + 1) b lm w5 (by omega) (by omega) hb hlm2 h5).mono ?_
                        rintro e w6 ⟨rfl, h6, k6⟩
                        go_wp2
                        refine ⟨⟨a, mid, lm, _, ap, _, rfl, rfl, rfl, rfl, rfl, m1, by omega, by omega, hlm2, h6, Lib.hid ?_, hb5.trans k6⟩, by simp [intOf]; omega⟩
                        rw [← Htg.out, pdqE, if_neg (fun h => hlr (Hbal.out.2.2.1 h)), Hbal.out.2.1, hbb]
end Go.Proofs.Ytmalkgakdmghiaa
