import Derived.Test.YtmalkgakdmghiaaPa22
/-! slices.Sort at []uint64, 6: partitionEqual (printed by gen_sd6.py) -/
namespace Garner
open Go Go.Sort
theorem pe_end {a i j i2 j2 : Nat} {d : Array Nat} (h1 : scanUp (fun y => !ltN d[a]! y) d j i = i2) (h2 : scanDown (fun y => ltN d[a]! y) d i2 j = j2) (h : i2 > j2) : partEqLoop ltN a i j d = (i2, d) := by
  rw [partEqLoop]
  simp only [h1, h2]
  rw [if_pos h]
theorem pe_go {a i j i2 j2 : Nat} {d : Array Nat} (h1 : scanUp (fun y => !ltN d[a]! y) d j i = i2) (h2 : scanDown (fun y => ltN d[a]! y) d i2 j = j2) (h : ¬ i2 > j2) (hi : i ≤ i2) (hj : j2 ≤ j) : partEqLoop ltN a i j d = partEqLoop ltN a (i2 + 1) (j2 - 1) (swp d i2 j2) := by
  rw [partEqLoop]
  simp only [h1, h2]
  rw [if_neg h, dif_pos (by omega)]
end Garner
namespace Go.Proofs.Ytmalkgakdmghiaa
open Go.RowKit Go.Sort Garner

set_option maxRecDepth 100000 in
set_option maxHeartbeats 16000000 in
theorem vPartEq (d0 : Array Nat) (B g n c a b p : Nat) (w : World) (h0 : Srt w B g n c d0) (hap : a ≤ p) (hpb : p < b) (hb : b ≤ n) (hn : n ≤ 140737488355328) :
    Calls Try.prog 49 #[.slice (some ⟨g, 0, none⟩) n c, .int .i64 a, .int .i64 b, .int .i64 p] w fun e w' => e = .returned (.int .i64 (partitionEqual ltN d0 a b p).1) ∧ Srt w' B g n c (partitionEqual ltN d0 a b p).2 ∧ But [g] w w' ∧ a < (partitionEqual ltN d0 a b p).1 ∧ (partitionEqual ltN d0 a b p).1 ≤ b := by
  obtain ⟨d1, hd1e⟩ : ∃ d1, d1 = Sort.swp d0 a p := ⟨_, rfl⟩
  have hpe : partitionEqual ltN d0 a b p = partEqLoop ltN a (a + 1) (b - 1) d1 := by rw [hd1e]; rfl
  have Hpe := Lib.hid hpe; clear hpe
  have wa : IntKind.i64.wrap ((a : Int) + 1) = ((a + 1 : Nat) : Int) := by rw [IntKind.wrap_i64]; omega
  have wb : IntKind.i64.wrap ((b : Int) - 1) = ((b - 1 : Nat) : Int) := by rw [IntKind.wrap_i64]; omega
  have lan0 : (a : Int) < (n : Int) := by omega
  have lpn : (p : Int) < (n : Int) := by omega
  obtain ⟨xa, hxa⟩ : ∃ xa, xa = d0[a]! := ⟨_, rfl⟩
  obtain ⟨xp, hxp⟩ : ∃ xp, xp = d0[p]! := ⟨_, rfl⟩
  have ca : w.cell? ⟨g, a, none⟩ = some (.int .u64 (xa : Int)) := by rw [hxa]; exact h0.cell (by omega)
  have cp : w.cell? ⟨g, p, none⟩ = some (.int .u64 (xp : Int)) := by rw [hxp]; exact h0.cell (by omega)
  have fa := h0.frozen a
  have fp := h0.frozen p
  go_enter Try.func49, Try.ntmps49
  by_cases hne : a = p
  · subst hne
    have hxx : xa = xp := by rw [hxa, hxp]
    subst hxx
    have Hxa := Lib.hid hxa; clear hxa hxp
    have Hd1e := Lib.hid hd1e; clear hd1e
    have hd1 : Srt ((w.setCell ⟨g, a, none⟩ (.int .u64 (xa : Int))).setCell ⟨g, a, none⟩ (.int .u64 (xa : Int))).drew B g n c d1 := by rw [Hd1e.out, Hxa.out]; exact h0.swp.drew
    have hbut1 : But [g] w ((w.setCell ⟨g, a, none⟩ (.int .u64 (xa : Int))).setCell ⟨g, a, none⟩ (.int .u64 (xa : Int))).drew := (((But.refl _ _).setCell (p := ⟨g, a, none⟩) (by simp) _).setCell (p := ⟨g, a, none⟩) (by simp) _).drew
    clear lpn cp fp
    go_upto_region 1 with fail
    go_region
    all_goals go_wp2
    go_loopw [9, 10] (fun vi vj wr => ∃ (i j : Nat) (d : Array Nat), vi = .int .i64 i ∧ vj = .int .i64 j ∧ a < i ∧ i ≤ j + 1 ∧ j < b ∧ Srt wr B g n c d ∧ Hid (partEqLoop ltN a i j d = partEqLoop ltN a (a + 1) (b - 1) d1) ∧ But [g] w wr) (fun vi vj _ => (intOf vj).toNat + 1 - (intOf vi).toNat)
    case atStart => exact ⟨a + 1, b - 1, d1, by simp, rfl, by omega, by omega, by omega, hd1, Lib.hid rfl, hbut1⟩
    case round =>
      obtain ⟨i, j, d, rfl, rfl, hai, hij, hjb, hd, hrel, hbut⟩ := hrel
      obtain ⟨wo, rfl⟩ : ∃ wo : World, wo = wr := ⟨_, rfl⟩
      have hrel' := hrel
      clear hrel
      obtain ⟨x, hx⟩ : ∃ x, x = d[a]! := ⟨_, rfl⟩
      have zx : ∀ w' : World, Srt w' B g n c d → w'.cell? ⟨g, a, none⟩ = some (.int .u64 (x : Int)) := fun w' h => by rw [hx]; exact h.cell (by omega)
      have lan : (a : Int) < (n : Int) := by omega
      have Hx := Lib.hid hx; clear hx
      clear hd1 hbut1
      go_wp2
      go_loopw [9] (fun vi wr => ∃ (i1 : Nat), vi = .int .i64 i1 ∧ i ≤ i1 ∧ i1 ≤ j + 1 ∧ Srt wr B g n c d ∧ Hid (scanUp (fun y => !ltN d[a]! y) d j i1 = scanUp (fun y => !ltN d[a]! y) d j i) ∧ But [g] w wr) (fun vi _ => j + 1 - (intOf vi).toNat)
      case atStart => exact ⟨i, rfl, by omega, hij, hd, Lib.hid rfl, hbut⟩
      case round =>
        clear hd hbut
        obtain ⟨i1, rfl, hi1, hi1j, hd, hup, hbut⟩ := hrel
        obtain ⟨wo, rfl⟩ : ∃ wo : World, wo = wr := ⟨_, rfl⟩
        have hS0 : Srt wo.drew B g n c d := hd.drew
        have w1 : IntKind.i64.wrap ((i1 : Int) + 1) = ((i1 + 1 : Nat) : Int) := by rw [IntKind.wrap_i64]; omega
        by_cases hlij : i1 ≤ j
        · have lij : (i1 : Int) ≤ (j : Int) := by omega
          have lin : (i1 : Int) < (n : Int) := by omega
          obtain ⟨y, hy⟩ : ∃ y, y = d[i1]! := ⟨_, rfl⟩
          have zy : ∀ w' : World, Srt w' B g n c d → w'.cell? ⟨g, i1, none⟩ = some (.int .u64 (y : Int)) := fun w' h => by rw [hy]; exact h.cell (by omega)
          have Hy := Lib.hid hy; clear hy
          go_upto_region 3 with fail
          refine wp_region_N (fun w' => Srt w' B g n c d) 100 (by kernel_rfl) ?_
          apply wpAnyN_takeL 0 (by kernel_rfl) rfl (fun _ _ _ h => h) (by kernel_rfl) hS0
          · intro w' hS'
            go_simp; exact ⟨rfl, rfl⟩
          (try simp only [Act.put]); (try simp only [List.setIfInBounds_toArray]); (try simp only [List.set])
          apply wpAnyN_takeL 1 (by kernel_rfl) rfl (fun _ _ _ h => h) (by kernel_rfl) hS0
          · intro w' hS'
            go_simp; exact ⟨rfl, rfl⟩
          (try simp only [Act.put]); (try simp only [List.setIfInBounds_toArray]); (try simp only [List.set])
          apply wpAnyN_takeL 2 (by kernel_rfl) rfl (fun _ _ _ h => h) (by kernel_rfl) hS0
          · intro w' hS'
            go_simp; exact ⟨rfl, rfl⟩
          (try simp only [Act.put]); (try simp only [List.setIfInBounds_toArray]); (try simp only [List.set])
          apply wpAnyN_takeL 3 (by kernel_rfl) rfl (fun _ _ _ h => h) (by kernel_rfl) hS0
          · intro w' hS'
            go_simp; exact ⟨rfl, rfl⟩
          (try simp only [Act.put]); (try simp only [List.setIfInBounds_toArray]); (try simp only [List.set])
          apply wpAnyN_takeL 4 (by kernel_rfl) rfl (fun _ _ _ h => h) (by kernel_rfl) hS0
          · intro w' hS'
            go_simp; exact ⟨rfl, rfl⟩
          (try simp only [Act.put]); (try simp only [List.setIfInBounds_toArray]); (try simp only [List.set])
          apply wpAnyN_takeL 5 (by kernel_rfl) rfl (fun _ _ _ h => h) (by kernel_rfl) hS0
          · intro w' hS'
            go_simp; exact ⟨rfl, rfl⟩
          (try simp only [Act.put]); (try simp only [List.setIfInBounds_toArray]); (try simp only [List.set])
          apply wpAnyN_takeL 6 (by kernel_rfl) rfl (fun _ _ _ h => h) (by kernel_rfl) hS0
          · intro w' hS'
            go_simp; exact ⟨rfl, rfl⟩
          (try simp only [Act.put]); (try simp only [List.setIfInBounds_toArray]); (try simp only [List.set])
          apply wpAnyN_takeL 7 (by kernel_rfl) rfl (fun _ _ _ h => h) (by kernel_rfl) hS0
          · intro w' hS'
            go_simp; exact ⟨rfl, rfl⟩
          (try simp only [Act.put]); (try simp only [List.setIfInBounds_toArray]); (try simp only [List.set])
          apply wpAnyN_takeL 8 (by kernel_rfl) rfl (fun _ _ _ h => h) (by kernel_rfl) hS0
          · intro w' hS'
            go_simp; exact ⟨rfl, rfl⟩
          (try simp only [Act.put]); (try simp only [List.setIfInBounds_toArray]); (try simp only [List.set])
          apply wpAnyN_takeL 9 (by kernel_rfl) rfl (fun _ _ _ h => h) (by kernel_rfl) hS0
          · intro w' hS'
            go_simp; exact ⟨rfl, rfl⟩
          (try simp only [Act.put]); (try simp only [List.setIfInBounds_toArray]); (try simp only [List.set])
          apply wpAnyN_takeL 10 (by kernel_rfl) rfl (fun _ _ _ h => h) (by kernel_rfl) hS0
          · intro w' hS'
            go_simp; exact ⟨rfl, rfl⟩
          (try simp only [Act.put]); (try simp only [List.setIfInBounds_toArray]); (try simp only [List.set])
          apply wpAnyN_takeL 11 (by kernel_rfl) rfl (fun _ _ _ h => h) (by kernel_rfl) hS0
          · intro w' hS'
            go_simp; exact ⟨rfl, rfl⟩
          (try simp only [Act.put]); (try simp only [List.setIfInBounds_toArray]); (try simp only [List.set])
          apply wpAnyN_takeL 12 (v := (.bool (ltN x y))) (by kernel_rfl) rfl (fun _ _ _ h => h) (by kernel_rfl) hS0
          · intro w' hS'
            (go_simp; exact ⟨rfl, vLessB _ _ _⟩)
          (try simp only [Act.put]); (try simp only [List.setIfInBounds_toArray]); (try simp only [List.set])
          apply wpAnyN_takeL 13 (by kernel_rfl) rfl (fun _ _ _ h => h) (by kernel_rfl) hS0
          · intro w' hS'
            go_simp; exact ⟨rfl, rfl⟩
          (try simp only [Act.put]); (try simp only [List.setIfInBounds_toArray]); (try simp only [List.set])
          apply wpAnyN_takeL 14 (by kernel_rfl) rfl (fun _ _ _ h => h) (by kernel_rfl) hS0
          · intro w' hS'
            go_simp; exact ⟨rfl, rfl⟩
          (try simp only [Act.put]); (try simp only [List.setIfInBounds_toArray]); (try simp only [List.set])
          refine wpAnyN_done (by kernel_rfl) ?_ _
          cases hlt : ltN x y with
          | false =>
            go_wp2
            refine ⟨⟨i1 + 1, by simp, by omega, by omega, hS0, Lib.hid ?_, hbut.drew⟩, by simp [intOf]; omega⟩
            rw [← hup.out]; conv => rhs; rw [scanUp, if_pos (by rw [← Hx.out, ← Hy.out, hlt]; simp [hlij])]
          | true =>
            have hup2 : scanUp (fun y => !ltN d[a]! y) d j i = i1 := by rw [← hup.out, scanUp, if_neg (by rw [← Hx.out, ← Hy.out, hlt]; simp)]
            have hst : i1 ≤ j → ltN d[a]! d[i1]! = true := fun _ => by rw [← Hx.out, ← Hy.out]; exact hlt
            have hd2 : Srt wo.drew B g n c d := hS0
            have hbut2 : But [g] w wo.drew := hbut.drew
            have Hup2 := Lib.hid hup2; clear hup2
            have Hst := Lib.hid hst; clear hst
            clear w1 zy lin lij hlij
            go_wp2
            go_loopw [10] (fun vj wr => ∃ (j1 : Nat), vj = .int .i64 j1 ∧ j1 ≤ j ∧ i1 ≤ j1 + 1 ∧ Srt wr B g n c d ∧ Hid (scanDown (fun y => ltN d[a]! y) d i1 j1 = scanDown (fun y => ltN d[a]! y) d i1 j) ∧ But [g] w wr) (fun vj _ => (intOf vj).toNat)
            case atStart => exact ⟨j, rfl, by omega, hi1j, hd2, Lib.hid rfl, hbut2⟩
            case round =>
              clear hd2 hbut2 hS0 hd hbut
              obtain ⟨j1, rfl, hj1, hj1i, hd, hdn, hbut⟩ := hrel
              obtain ⟨wo, rfl⟩ : ∃ wo : World, wo = wr := ⟨_, rfl⟩
              have hS0 : Srt wo.drew B g n c d := hd.drew
              by_cases hlij : i1 ≤ j1
              · have lij : (i1 : Int) ≤ (j1 : Int) := by omega
                have ljn : (j1 : Int) < (n : Int) := by omega
                have w1 : IntKind.i64.wrap ((j1 : Int) - 1) = ((j1 - 1 : Nat) : Int) := by rw [IntKind.wrap_i64]; omega
                obtain ⟨z, hz⟩ : ∃ z, z = d[j1]! := ⟨_, rfl⟩
                have zz : ∀ w' : World, Srt w' B g n c d → w'.cell? ⟨g, j1, none⟩ = some (.int .u64 (z : Int)) := fun w' h => by rw [hz]; exact h.cell (by omega)
                have Hz := Lib.hid hz; clear hz
                go_upto_region 5 with fail
                refine wp_region_N (fun w' => Srt w' B g n c d) 100 (by kernel_rfl) ?_
                apply wpAnyN_takeL 0 (by kernel_rfl) rfl (fun _ _ _ h => h) (by kernel_rfl) hS0
                · intro w' hS'
                  go_simp; exact ⟨rfl, rfl⟩
                (try simp only [Act.put]); (try simp only [List.setIfInBounds_toArray]); (try simp only [List.set])
                apply wpAnyN_takeL 1 (by kernel_rfl) rfl (fun _ _ _ h => h) (by kernel_rfl) hS0
                · intro w' hS'
                  go_simp; exact ⟨rfl, rfl⟩
                (try simp only [Act.put]); (try simp only [List.setIfInBounds_toArray]); (try simp only [List.set])
                apply wpAnyN_takeL 2 (by kernel_rfl) rfl (fun _ _ _ h => h) (by kernel_rfl) hS0
                · intro w' hS'
                  go_simp; exact ⟨rfl, rfl⟩
                (try simp only [Act.put]); (try simp only [List.setIfInBounds_toArray]); (try simp only [List.set])
                apply wpAnyN_takeL 3 (by kernel_rfl) rfl (fun _ _ _ h => h) (by kernel_rfl) hS0
                · intro w' hS'
                  go_simp; exact ⟨rfl, rfl⟩
                (try simp only [Act.put]); (try simp only [List.setIfInBounds_toArray]); (try simp only [List.set])
                apply wpAnyN_takeL 4 (by kernel_rfl) rfl (fun _ _ _ h => h) (by kernel_rfl) hS0
                · intro w' hS'
                  go_simp; exact ⟨rfl, rfl⟩
                (try simp only [Act.put]); (try simp only [List.setIfInBounds_toArray]); (try simp only [List.set])
                apply wpAnyN_takeL 5 (by kernel_rfl) rfl (fun _ _ _ h => h) (by kernel_rfl) hS0
                · intro w' hS'
                  go_simp; exact ⟨rfl, rfl⟩
                (try simp only [Act.put]); (try simp only [List.setIfInBounds_toArray]); (try simp only [List.set])
                apply wpAnyN_takeL 6 (by kernel_rfl) rfl (fun _ _ _ h => h) (by kernel_rfl) hS0
                · intro w' hS'
                  go_simp; exact ⟨rfl, rfl⟩
                (try simp only [Act.put]); (try simp only [List.setIfInBounds_toArray]); (try simp only [List.set])
                apply wpAnyN_takeL 7 (by kernel_rfl) rfl (fun _ _ _ h => h) (by kernel_rfl) hS0
                · intro w' hS'
                  go_simp; exact ⟨rfl, rfl⟩
                (try simp only [Act.put]); (try simp only [List.setIfInBounds_toArray]); (try simp only [List.set])
                apply wpAnyN_takeL 8 (by kernel_rfl) rfl (fun _ _ _ h => h) (by kernel_rfl) hS0
                · intro w' hS'
                  go_simp; exact ⟨rfl, rfl⟩
                (try simp only [Act.put]); (try simp only [List.setIfInBounds_toArray]); (try simp only [List.set])
                apply wpAnyN_takeL 9 (by kernel_rfl) rfl (fun _ _ _ h => h) (by kernel_rfl) hS0
                · intro w' hS'
                  go_simp; exact ⟨rfl, rfl⟩
                (try simp only [Act.put]); (try simp only [List.setIfInBounds_toArray]); (try simp only [List.set])
                apply wpAnyN_takeL 10 (by kernel_rfl) rfl (fun _ _ _ h => h) (by kernel_rfl) hS0
                · intro w' hS'
                  go_simp; exact ⟨rfl, rfl⟩
                (try simp only [Act.put]); (try simp only [List.setIfInBounds_toArray]); (try simp only [List.set])
                apply wpAnyN_takeL 11 (by kernel_rfl) rfl (fun _ _ _ h => h) (by kernel_rfl) hS0
                · intro w' hS'
                  go_simp; exact ⟨rfl, rfl⟩
                (try simp only [Act.put]); (try simp only [List.setIfInBounds_toArray]); (try simp only [List.set])
                apply wpAnyN_takeL 12 (v := (.bool (ltN x z))) (by kernel_rfl) rfl (fun _ _ _ h => h) (by kernel_rfl) hS0
                · intro w' hS'
                  (go_simp; exact ⟨rfl, vLessB _ _ _⟩)
                (try simp only [Act.put]); (try simp only [List.setIfInBounds_toArray]); (try simp only [List.set])
                apply wpAnyN_takeL 13 (by kernel_rfl) rfl (fun _ _ _ h => h) (by kernel_rfl) hS0
                · intro w' hS'
                  go_simp; exact ⟨rfl, rfl⟩
                (try simp only [Act.put]); (try simp only [List.setIfInBounds_toArray]); (try simp only [List.set])
                refine wpAnyN_done (by kernel_rfl) ?_ _
                cases hlt : ltN x z with
                | true =>
                  obtain ⟨j0, rfl⟩ : ∃ j0, j1 = j0 + 1 := ⟨j1 - 1, by omega⟩
                  go_wp2
                  refine ⟨⟨j0, by simp, by omega, by omega, hS0, Lib.hid ?_, hbut.drew⟩, by simp [intOf]⟩
                  rw [← hdn.out]; conv => rhs; rw [scanDown, if_pos (by rw [← Hx.out, ← Hz.out, hlt]; simp [hlij])]
                | false =>
                  have hdn2 : scanDown (fun y => ltN d[a]! y) d i1 j = j1 := by
                    rw [← hdn.out]
                    obtain ⟨j0, rfl⟩ : ∃ j0, j1 = j0 + 1 := ⟨j1 - 1, by omega⟩
                    rw [scanDown, if_neg (by rw [← Hx.out, ← Hz.out, hlt]; simp)]
                  have hne : i1 ≠ j1 := fun e => by
                    have h1 := Hst.out (by omega)
                    rw [e, ← Hx.out, ← Hz.out, hlt] at h1
                    cases h1
                  have Hdn2 := Lib.hid hdn2; clear hdn2
                  have lgt : ¬ (j1 : Int) < (i1 : Int) := by omega
                  have lin2 : (i1 : Int) < (n : Int) := by omega
                  have w5 : IntKind.i64.wrap ((i1 : Int) + 1) = ((i1 + 1 : Nat) : Int) := by rw [IntKind.wrap_i64]; omega
                  obtain ⟨y2, hy2⟩ : ∃ y2, y2 = d[i1]! := ⟨_, rfl⟩
                  obtain ⟨wq, hwq⟩ : ∃ wq, wq = wo.drew := ⟨_, rfl⟩
                  have hd3 : Srt wq B g n c d := by rw [hwq]; exact hS0
                  have hbut3 : But [g] w wq := by rw [hwq]; exact hbut.drew
                  have ci : wq.cell? ⟨g, i1, none⟩ = some (.int .u64 (y2 : Int)) := by rw [hy2]; exact hd3.cell (by omega)
                  have cj : wq.cell? ⟨g, j1, none⟩ = some (.int .u64 (z : Int)) := zz wq hd3
                  have fi := hd3.frozen i1
                  have fj := hd3.frozen j1
                  rw [← hwq]
                  clear hwq zz zx
                  have Hy2 := Lib.hid hy2; clear hy2
                  go_upto_region 8 with fail
                  go_region
                  all_goals go_wp2
                  refine ⟨⟨i1 + 1, j1 - 1, Sort.swp d i1 j1, by simp, rfl, by omega, by omega, by omega, ?_, Lib.hid ?_, ?_⟩, by simp [intOf]; omega⟩
                  · rw [Hy2.out, Hz.out]; exact hd3.swp.drew
                  · rw [← hrel'.out]; exact (pe_go Hup2.out Hdn2.out (by omega) (by omega) (by omega)).symm
                  · exact ((hbut3.setCell (p := ⟨g, i1, none⟩) (by simp) _).setCell (p := ⟨g, j1, none⟩) (by simp) _).drew
              · have lij : ¬ (i1 : Int) ≤ (j1 : Int) := by omega
                have lgt : (j1 : Int) < (i1 : Int) := by omega
                have hdn2 : scanDown (fun y => ltN d[a]! y) d i1 j = j1 := by
                  rw [← hdn.out]
                  cases j1 with
                  | zero => rfl
                  | succ j0 => rw [scanDown, if_neg (by simp; intro h; omega)]
                have hres : partEqLoop ltN a (a + 1) (b - 1) d1 = (i1, d) := by rw [← hrel'.out]; exact pe_end Hup2.out hdn2 (by omega)
                have Hres := Lib.hid hres; clear hres hdn2
                go_upto_region 5 with fail
                refine wp_region_N (fun w' => Srt w' B g n c d) 100 (by kernel_rfl) ?_
                apply wpAnyN_takeL 0 (by kernel_rfl) rfl (fun _ _ _ h => h) (by kernel_rfl) hS0
                · intro w' hS'
                  go_simp; exact ⟨rfl, rfl⟩
                (try simp only [Act.put]); (try simp only [List.setIfInBounds_toArray]); (try simp only [List.set])
                apply wpAnyN_takeL 1 (by kernel_rfl) rfl (fun _ _ _ h => h) (by kernel_rfl) hS0
                · intro w' hS'
                  go_simp; exact ⟨rfl, rfl⟩
                (try simp only [Act.put]); (try simp only [List.setIfInBounds_toArray]); (try simp only [List.set])
                apply wpAnyN_takeL 2 (by kernel_rfl) rfl (fun _ _ _ h => h) (by kernel_rfl) hS0
                · intro w' hS'
                  go_simp; exact ⟨rfl, rfl⟩
                (try simp only [Act.put]); (try simp only [List.setIfInBounds_toArray]); (try simp only [List.set])
                apply wpAnyN_takeL 3 (by kernel_rfl) rfl (fun _ _ _ h => h) (by kernel_rfl) hS0
                · intro w' hS'
                  go_simp; exact ⟨rfl, rfl⟩
                (try simp only [Act.put]); (try simp only [List.setIfInBounds_toArray]); (try simp only [List.set])
                refine wpAnyN_skipL 4 (by kernel_rfl) rfl (fun _ _ _ h => h) (by kernel_rfl) hS0 ?_
                (try simp only [Act.put]); (try simp only [List.setIfInBounds_toArray]); (try simp only [List.set])
                refine wpAnyN_skipL 5 (by kernel_rfl) rfl (fun _ _ _ h => h) (by kernel_rfl) hS0 ?_
                (try simp only [Act.put]); (try simp only [List.setIfInBounds_toArray]); (try simp only [List.set])
                refine wpAnyN_skipL 6 (by kernel_rfl) rfl (fun _ _ _ h => h) (by kernel_rfl) hS0 ?_
                (try simp only [Act.put]); (try simp only [List.setIfInBounds_toArray]); (try simp only [List.set])
                refine wpAnyN_skipL 7 (by kernel_rfl) rfl (fun _ _ _ h => h) (by kernel_rfl) hS0 ?_
                (try simp only [Act.put]); (try simp only [List.setIfInBounds_toArray]); (try simp only [List.set])
                refine wpAnyN_skipL 8 (by kernel_rfl) rfl (fun _ _ _ h => h) (by kernel_rfl) hS0 ?_
                (try simp only [Act.put]); (try simp only [List.setIfInBounds_toArray]); (try simp only [List.set])
                refine wpAnyN_skipL 9 (by kernel_rfl) rfl (fun _ _ _ h => h) (by kernel_rfl) hS0 ?_
                (try simp only [Act.put]); (try simp only [List.setIfInBounds_toArray]); (try simp only [List.set])
                refine wpAnyN_skipL 10 (by kernel_rfl) rfl (fun _ _ _ h => h) (by kernel_rfl) hS0 ?_
                (try simp only [Act.put]); (try simp only [List.setIfInBounds_toArray]); (try simp only [List.set])
                refine wpAnyN_skipL 11 (by kernel_rfl) rfl (fun _ _ _ h => h) (by kernel_rfl) hS0 ?_
                (try simp only [Act.put]); (try simp only [List.setIfInBounds_toArray]); (try simp only [List.set])
                refine wpAnyN_skipL 12 (by kernel_rfl) rfl (fun _ _ _ h => h) (by kernel_rfl) hS0 ?_
                (try simp only [Act.put]); (try simp only [List.setIfInBounds_toArray]); (try simp only [List.set])
                apply wpAnyN_takeL 13 (by kernel_rfl) rfl (fun _ _ _ h => h) (by kernel_rfl) hS0
                · intro w' hS'
                  go_simp; exact ⟨rfl, rfl⟩
                (try simp only [Act.put]); (try simp only [List.setIfInBounds_toArray]); (try simp only [List.set])
                refine wpAnyN_done (by kernel_rfl) ?_ _
                go_wp2
                go_ret
                refine ⟨?_, ?_, hbut.drew, ?_, ?_⟩
                · rw [Hpe.out, Hres.out]; rfl
                · rw [Hpe.out, Hres.out]; exact hS0
                · rw [Hpe.out, Hres.out]; show a < i1; omega
                · rw [Hpe.out, Hres.out]; show i1 ≤ b; omega
        · have lij : ¬ (i1 : Int) ≤ (j : Int) := by omega
          go_upto_region 3 with fail
          refine wp_region_N (fun w' => Srt w' B g n c d) 100 (by kernel_rfl) ?_
          apply wpAnyN_takeL 0 (by kernel_rfl) rfl (fun _ _ _ h => h) (by kernel_rfl) hS0
          · intro w' hS'
            go_simp; exact ⟨rfl, rfl⟩
          (try simp only [Act.put]); (try simp only [List.setIfInBounds_toArray]); (try simp only [List.set])
          apply wpAnyN_takeL 1 (by kernel_rfl) rfl (fun _ _ _ h => h) (by kernel_rfl) hS0
          · intro w' hS'
            go_simp; exact ⟨rfl, rfl⟩
          (try simp only [Act.put]); (try simp only [List.setIfInBounds_toArray]); (try simp only [List.set])
          apply wpAnyN_takeL 2 (by kernel_rfl) rfl (fun _ _ _ h => h) (by kernel_rfl) hS0
          · intro w' hS'
            go_simp; exact ⟨rfl, rfl⟩
          (try simp only [Act.put]); (try simp only [List.setIfInBounds_toArray]); (try simp only [List.set])
          apply wpAnyN_takeL 3 (by kernel_rfl) rfl (fun _ _ _ h => h) (by kernel_rfl) hS0
          · intro w' hS'
            go_simp; exact ⟨rfl, rfl⟩
          (try simp only [Act.put]); (try simp only [List.setIfInBounds_toArray]); (try simp only [List.set])
          refine wpAnyN_skipL 4 (by kernel_rfl) rfl (fun _ _ _ h => h) (by kernel_rfl) hS0 ?_
          (try simp only [Act.put]); (try simp only [List.setIfInBounds_toArray]); (try simp only [List.set])
          refine wpAnyN_skipL 5 (by kernel_rfl) rfl (fun _ _ _ h => h) (by kernel_rfl) hS0 ?_
          (try simp only [Act.put]); (try simp only [List.setIfInBounds_toArray]); (try simp only [List.set])
          refine wpAnyN_skipL 6 (by kernel_rfl) rfl (fun _ _ _ h => h) (by kernel_rfl) hS0 ?_
          (try simp only [Act.put]); (try simp only [List.setIfInBounds_toArray]); (try simp only [List.set])
          refine wpAnyN_skipL 7 (by kernel_rfl) rfl (fun _ _ _ h => h) (by kernel_rfl) hS0 ?_
          (try simp only [Act.put]); (try simp only [List.setIfInBounds_toArray]); (try simp only [List.set])
          refine wpAnyN_skipL 8 (by kernel_rfl) rfl (fun _ _ _ h => h) (by kernel_rfl) hS0 ?_
          (try simp only [Act.put]); (try simp only [List.setIfInBounds_toArray]); (try simp only [List.set])
          refine wpAnyN_skipL 9 (by kernel_rfl) rfl (fun _ _ _ h => h) (by kernel_rfl) hS0 ?_
          (try simp only [Act.put]); (try simp only [List.setIfInBounds_toArray]); (try simp only [List.set])
          refine wpAnyN_skipL 10 (by kernel_rfl) rfl (fun _ _ _ h => h) (by kernel_rfl) hS0 ?_
          (try simp only [Act.put]); (try simp only [List.setIfInBounds_toArray]); (try simp only [List.set])
          refine wpAnyN_skipL 11 (by kernel_rfl) rfl (fun _ _ _ h => h) (by kernel_rfl) hS0 ?_
          (try simp only [Act.put]); (try simp only [List.setIfInBounds_toArray]); (try simp only [List.set])
          refine wpAnyN_skipL 12 (by kernel_rfl) rfl (fun _ _ _ h => h) (by kernel_rfl) hS0 ?_
          (try simp only [Act.put]); (try simp only [List.setIfInBounds_toArray]); (try simp only [List.set])
          refine wpAnyN_skipL 13 (by kernel_rfl) rfl (fun _ _ _ h => h) (by kernel_rfl) hS0 ?_
          (try simp only [Act.put]); (try simp only [List.setIfInBounds_toArray]); (try simp only [List.set])
          apply wpAnyN_takeL 14 (by kernel_rfl) rfl (fun _ _ _ h => h) (by kernel_rfl) hS0
          · intro w' hS'
            go_simp; exact ⟨rfl, rfl⟩
          (try simp only [Act.put]); (try simp only [List.setIfInBounds_toArray]); (try simp only [List.set])
          refine wpAnyN_done (by kernel_rfl) ?_ _
          have hup2 : scanUp (fun y => !ltN d[a]! y) d j i = i1 := by rw [← hup.out, scanUp, if_neg (by simp [hlij])]
          have hst : i1 ≤ j → ltN d[a]! d[i1]! = true := fun h => absurd h hlij
          have hd2 : Srt wo.drew B g n c d := hS0
          have hbut2 : But [g] w wo.drew := hbut.drew
          have Hup2 := Lib.hid hup2; clear hup2
          have Hst := Lib.hid hst; clear hst
          clear w1 lij hlij
          go_wp2
          go_loopw [10] (fun vj wr => ∃ (j1 : Nat), vj = .int .i64 j1 ∧ j1 ≤ j ∧ i1 ≤ j1 + 1 ∧ Srt wr B g n c d ∧ Hid (scanDown (fun y => ltN d[a]! y) d i1 j1 = scanDown (fun y => ltN d[a]! y) d i1 j) ∧ But [g] w wr) (fun vj _ => (intOf vj).toNat)
          case atStart => exact ⟨j, rfl, by omega, hi1j, hd2, Lib.hid rfl, hbut2⟩
          case round =>
            clear hd2 hbut2 hS0 hd hbut
            obtain ⟨j1, rfl, hj1, hj1i, hd, hdn, hbut⟩ := hrel
            obtain ⟨wo, rfl⟩ : ∃ wo : World, wo = wr := ⟨_, rfl⟩
            have hS0 : Srt wo.drew B g n c d := hd.drew
            by_cases hlij : i1 ≤ j1
            · have lij : (i1 : Int) ≤ (j1 : Int) := by omega
              have ljn : (j1 : Int) < (n : Int) := by omega
              have w1 : IntKind.i64.wrap ((j1 : Int) - 1) = ((j1 - 1 : Nat) : Int) := by rw [IntKind.wrap_i64]; omega
              obtain ⟨z, hz⟩ : ∃ z, z = d[j1]! := ⟨_, rfl⟩
              have zz : ∀ w' : World, Srt w' B g n c d → w'.cell? ⟨g, j1, none⟩ = some (.int .u64 (z : Int)) := fun w' h => by rw [hz]; exact h.cell (by omega)
              have Hz := Lib.hid hz; clear hz
              go_upto_region 5 with fail
              refine wp_region_N (fun w' => Srt w' B g n c d) 100 (by kernel_rfl) ?_
              apply wpAnyN_takeL 0 (by kernel_rfl) rfl (fun _ _ _ h => h) (by kernel_rfl) hS0
              · intro w' hS'
                go_simp; exact ⟨rfl, rfl⟩
              (try simp only [Act.put]); (try simp only [List.setIfInBounds_toArray]); (try simp only [List.set])
              apply wpAnyN_takeL 1 (by kernel_rfl) rfl (fun _ _ _ h => h) (by kernel_rfl) hS0
              · intro w' hS'
                go_simp; exact ⟨rfl, rfl⟩
              (try simp only [Act.put]); (try simp only [List.setIfInBounds_toArray]); (try simp only [List.set])
              apply wpAnyN_takeL 2 (by kernel_rfl) rfl (fun _ _ _ h => h) (by kernel_rfl) hS0
              · intro w' hS'
                go_simp; exact ⟨rfl, rfl⟩
              (try simp only [Act.put]); (try simp only [List.setIfInBounds_toArray]); (try simp only [List.set])
              apply wpAnyN_takeL 3 (by kernel_rfl) rfl (fun _ _ _ h => h) (by kernel_rfl) hS0
              · intro w' hS'
                go_simp; exact ⟨rfl, rfl⟩
              (try simp only [Act.put]); (try simp only [List.setIfInBounds_toArray]); (try simp only [List.set])
              apply wpAnyN_takeL 4 (by kernel_rfl) rfl (fun _ _ _ h => h) (by kernel_rfl) hS0
              · intro w' hS'
                go_simp; exact ⟨rfl, rfl⟩
              (try simp only [Act.put]); (try simp only [List.setIfInBounds_toArray]); (try simp only [List.set])
              apply wpAnyN_takeL 5 (by kernel_rfl) rfl (fun _ _ _ h => h) (by kernel_rfl) hS0
              · intro w' hS'
                go_simp; exact ⟨rfl, rfl⟩
              (try simp only [Act.put]); (try simp only [List.setIfInBounds_toArray]); (try simp only [List.set])
              apply wpAnyN_takeL 6 (by kernel_rfl) rfl (fun _ _ _ h => h) (by kernel_rfl) hS0
              · intro w' hS'
                go_simp; exact ⟨rfl, rfl⟩
              (try simp only [Act.put]); (try simp only [List.setIfInBounds_toArray]); (try simp only [List.set])
              apply wpAnyN_takeL 7 (by kernel_rfl) rfl (fun _ _ _ h => h) (by kernel_rfl) hS0
              · intro w' hS'
                go_simp; exact ⟨rfl, rfl⟩
              (try simp only [Act.put]); (try simp only [List.setIfInBounds_toArray]); (try simp only [List.set])
              apply wpAnyN_takeL 8 (by kernel_rfl) rfl (fun _ _ _ h => h) (by kernel_rfl) hS0
              · intro w' hS'
                go_simp; exact ⟨rfl, rfl⟩
              (try simp only [Act.put]); (try simp only [List.setIfInBounds_toArray]); (try simp only [List.set])
              apply wpAnyN_takeL 9 (by kernel_rfl) rfl (fun _ _ _ h => h) (by kernel_rfl) hS0
              · intro w' hS'
                go_simp; exact ⟨rfl, rfl⟩
              (try simp only [Act.put]); (try simp only [List.setIfInBounds_toArray]); (try simp only [List.set])
              apply wpAnyN_takeL 10 (by kernel_rfl) rfl (fun _ _ _ h => h) (by kernel_rfl) hS0
              · intro w' hS'
                go_simp; exact ⟨rfl, rfl⟩
              (try simp only [Act.put]); (try simp only [List.setIfInBounds_toArray]); (try simp only [List.set])
              apply wpAnyN_takeL 11 (by kernel_rfl) rfl (fun _ _ _ h => h) (by kernel_rfl) hS0
              · intro w' hS'
                go_simp; exact ⟨rfl, rfl⟩
              (try simp only [Act.put]); (try simp only [List.setIfInBounds_toArray]); (try simp only [List.set])
              apply wpAnyN_takeL 12 (v := (.bool (ltN x z))) (by kernel_rfl) rfl (fun _ _ _ h => h) (by kernel_rfl) hS0
              · intro w' hS'
                (go_simp; exact ⟨rfl, vLessB _ _ _⟩)
              (try simp only [Act.put]); (try simp only [List.setIfInBounds_toArray]); (try simp only [List.set])
              apply wpAnyN_takeL 13 (by kernel_rfl) rfl (fun _ _ _ h => h) (by kernel_rfl) hS0
              · intro w' hS'
                go_simp; exact ⟨rfl, rfl⟩
              (try simp only [Act.put]); (try simp only [List.setIfInBounds_toArray]); (try simp only [List.set])
              refine wpAnyN_done (by kernel_rfl) ?_ _
              cases hlt : ltN x z with
              | true =>
                obtain ⟨j0, rfl⟩ : ∃ j0, j1 = j0 + 1 := ⟨j1 - 1, by omega⟩
                go_wp2
                refine ⟨⟨j0, by simp, by omega, by omega, hS0, Lib.hid ?_, hbut.drew⟩, by simp [intOf]⟩
                rw [← hdn.out]; conv => rhs; rw [scanDown, if_pos (by rw [← Hx.out, ← Hz.out, hlt]; simp [hlij])]
              | false =>
                have hdn2 : scanDown (fun y => ltN d[a]! y) d i1 j = j1 := by
                  rw [← hdn.out]
                  obtain ⟨j0, rfl⟩ : ∃ j0, j1 = j0 + 1 := ⟨j1 - 1, by omega⟩
                  rw [scanDown, if_neg (by rw [← Hx.out, ← Hz.out, hlt]; simp)]
                have hne : i1 ≠ j1 := fun e => by
                  have h1 := Hst.out (by omega)
                  rw [e, ← Hx.out, ← Hz.out, hlt] at h1
                  cases h1
                have Hdn2 := Lib.hid hdn2; clear hdn2
                have lgt : ¬ (j1 : Int) < (i1 : Int) := by omega
                have lin2 : (i1 : Int) < (n : Int) := by omega
                have w5 : IntKind.i64.wrap ((i1 : Int) + 1) = ((i1 + 1 : Nat) : Int) := by rw [IntKind.wrap_i64]; omega
                obtain ⟨y2, hy2⟩ : ∃ y2, y2 = d[i1]! := ⟨_, rfl⟩
                obtain ⟨wq, hwq⟩ : ∃ wq, wq = wo.drew := ⟨_, rfl⟩
                have hd3 : Srt wq B g n c d := by rw [hwq]; exact hS0
                have hbut3 : But [g] w wq := by rw [hwq]; exact hbut.drew
                have ci : wq.cell? ⟨g, i1, none⟩ = some (.int .u64 (y2 : Int)) := by rw [hy2]; exact hd3.cell (by omega)
                have cj : wq.cell? ⟨g, j1, none⟩ = some (.int .u64 (z : Int)) := zz wq hd3
                have fi := hd3.frozen i1
                have fj := hd3.frozen j1
                rw [← hwq]
                clear hwq zz zx
                have Hy2 := Lib.hid hy2; clear hy2
                go_upto_region 8 with fail
                go_region
                all_goals go_wp2
                refine ⟨⟨i1 + 1, j1 - 1, Sort.swp d i1 j1, by simp, rfl, by omega, by omega, by omega, ?_, Lib.hid ?_, ?_⟩, by simp [intOf]; omega⟩
                · rw [Hy2.out, Hz.out]; exact hd3.swp.drew
                · rw [← hrel'.out]; exact (pe_go Hup2.out Hdn2.out (by omega) (by omega) (by omega)).symm
                · exact ((hbut3.setCell (p := ⟨g, i1, none⟩) (by simp) _).setCell (p := ⟨g, j1, none⟩) (by simp) _).drew
            · have lij : ¬ (i1 : Int) ≤ (j1 : Int) := by omega
              have lgt : (j1 : Int) < (i1 : Int) := by omega
              have hdn2 : scanDown (fun y => ltN d[a]! y) d i1 j = j1 := by
                rw [← hdn.out]
                cases j1 with
                | zero => rfl
                | succ j0 => rw [scanDown, if_neg (by simp; intro h; omega)]
              have hres : partEqLoop ltN a (a + 1) (b - 1) d1 = (i1, d) := by rw [← hrel'.out]; exact pe_end Hup2.out hdn2 (by omega)
              have Hres := Lib.hid hres; clear hres hdn2
              go_upto_region 5 with fail
              refine wp_region_N (fun w' => Srt w' B g n c d) 100 (by kernel_rfl) ?_
              apply wpAnyN_takeL 0 (by kernel_rfl) rfl (fun _ _ _ h => h) (by kernel_rfl) hS0
              · intro w' hS'
                go_simp; exact ⟨rfl, rfl⟩
              (try simp only [Act.put]); (try simp only [List.setIfInBounds_toArray]); (try simp only [List.set])
              apply wpAnyN_takeL 1 (by kernel_rfl) rfl (fun _ _ _ h => h) (by kernel_rfl) hS0
              · intro w' hS'
                go_simp; exact ⟨rfl, rfl⟩
              (try simp only [Act.put]); (try simp only [List.setIfInBounds_toArray]); (try simp only [List.set])
              apply wpAnyN_takeL 2 (by kernel_rfl) rfl (fun _ _ _ h => h) (by kernel_rfl) hS0
              · intro w' hS'
                go_simp; exact ⟨rfl, rfl⟩
              (try simp only [Act.put]); (try simp only [List.setIfInBounds_toArray]); (try simp only [List.set])
              apply wpAnyN_takeL 3 (by kernel_rfl) rfl (fun _ _ _ h => h) (by kernel_rfl) hS0
              · intro w' hS'
                go_simp; exact ⟨rfl, rfl⟩
              (try simp only [Act.put]); (try simp only [List.setIfInBounds_toArray]); (try simp only [List.set])
              refine wpAnyN_skipL 4 (by kernel_rfl) rfl (fun _ _ _ h => h) (by kernel_rfl) hS0 ?_
              (try simp only [Act.put]); (try simp only [List.setIfInBounds_toArray]); (try simp only [List.set])
              refine wpAnyN_skipL 5 (by kernel_rfl) rfl (fun _ _ _ h => h) (by kernel_rfl) hS0 ?_
              (try simp only [Act.put]); (try simp only [List.setIfInBounds_toArray]); (try simp only [List.set])
              refine wpAnyN_skipL 6 (by kernel_rfl) rfl (fun _ _ _ h => h) (by kernel_rfl) hS0 ?_
              (try simp only [Act.put]); (try simp only [List.setIfInBounds_toArray]); (try simp only [List.set])
              refine wpAnyN_skipL 7 (by kernel_rfl) rfl (fun _ _ _ h => h) (by kernel_rfl) hS0 ?_
              (try simp only [Act.put]); (try simp only [List.setIfInBounds_toArray]); (try simp only [List.set])
              refine wpAnyN_skipL 8 (by kernel_rfl) rfl (fun _ _ _ h => h) (by kernel_rfl) hS0 ?_
              (try simp only [Act.put]); (try simp only [List.setIfInBounds_toArray]); (try simp only [List.set])
              refine wpAnyN_skipL 9 (by kernel_rfl) rfl (fun _ _ _ h => h) (by kernel_rfl) hS0 ?_
              (try simp only [Act.put]); (try simp only [List.setIfInBounds_toArray]); (try simp only [List.set])
              refine wpAnyN_skipL 10 (by kernel_rfl) rfl (fun _ _ _ h => h) (by kernel_rfl) hS0 ?_
              (try simp only [Act.put]); (try simp only [List.setIfInBounds_toArray]); (try simp only [List.set])
              refine wpAnyN_skipL 11 (by kernel_rfl) rfl (fun _ _ _ h => h) (by kernel_rfl) hS0 ?_
              (try simp only [Act.put]); (try simp only [List.setIfInBounds_toArray]); (try simp only [List.set])
              refine wpAnyN_skipL 12 (by kernel_rfl) rfl (fun _ _ _ h => h) (by kernel_rfl) hS0 ?_
              (try simp only [Act.put]); (try simp only [List.setIfInBounds_toArray]); (try simp only [List.set])
              apply wpAnyN_takeL 13 (by kernel_rfl) rfl (fun _ _ _ h => h) (by kernel_rfl) hS0
              · intro w' hS'
                go_simp; exact ⟨rfl, rfl⟩
              (try simp only [Act.put]); (try simp only [List.setIfInBounds_toArray]); (try simp only [List.set])
              refine wpAnyN_done (by kernel_rfl) ?_ _
              go_wp2
              go_ret
              refine ⟨?_, ?_, hbut.drew, ?_, ?_⟩
              · rw [Hpe.out, Hres.out]; rfl
              · rw [Hpe.out, Hres.out]; exact hS0
              · rw [Hpe.out, Hres.out]; show a < i1; omega
              · rw [Hpe.out, Hres.out]; show i1 ≤ b; omega
  · have Hxa := Lib.hid hxa; clear hxa
    have Hxp := Lib.hid hxp; clear hxp
    have Hd1e := Lib.hid hd1e; clear hd1e
    have hd1 : Srt ((w.setCell ⟨g, a, none⟩ (.int .u64 (xp : Int))).setCell ⟨g, p, none⟩ (.int .u64 (xa : Int))).drew B g n c d1 := by rw [Hd1e.out, Hxa.out, Hxp.out]; exact h0.swp.drew
    have hbut1 : But [g] w ((w.setCell ⟨g, a, none⟩ (.int .u64 (xp : Int))).setCell ⟨g, p, none⟩ (.int .u64 (xa : Int))).drew := (((But.refl _ _).setCell (p := ⟨g, a, none⟩) (by simp) _).setCell (p := ⟨g, p, none⟩) (by simp) _).drew
    go_upto_region 1 with fail
    go_region
    all_goals go_wp2
    go_loopw [9, 10] (fun vi vj wr => ∃ (i j : Nat) (d : Array Nat), vi = .int .i64 i ∧ vj = .int .i64 j ∧ a < i ∧ i ≤ j + 1 ∧ j < b ∧ Srt wr B g n c d ∧ Hid (partEqLoop ltN a i j d = partEqLoop ltN a (a + 1) (b - 1) d1) ∧ But [g] w wr) (fun vi vj _ => (intOf vj).toNat + 1 - (intOf vi).toNat)
    case atStart => exact ⟨a + 1, b - 1, d1, by simp, rfl, by omega, by omega, by omega, hd1, Lib.hid rfl, hbut1⟩
    case round =>
      obtain ⟨i, j, d, rfl, rfl, hai, hij, hjb, hd, hrel, hbut⟩ := hrel
      obtain ⟨wo, rfl⟩ : ∃ wo : World, wo = wr := ⟨_, rfl⟩
      have hrel' := hrel
      clear hrel
      obtain ⟨x, hx⟩ : ∃ x, x = d[a]! := ⟨_, rfl⟩
      have zx : ∀ w' : World, Srt w' B g n c d → w'.cell? ⟨g, a, none⟩ = some (.int .u64 (x : Int)) := fun w' h => by rw [hx]; exact h.cell (by omega)
      have lan : (a : Int) < (n : Int) := by omega
      have Hx := Lib.hid hx; clear hx
      clear hd1 hbut1
      go_wp2
      go_loopw [9] (fun vi wr => ∃ (i1 : Nat), vi = .int .i64 i1 ∧ i ≤ i1 ∧ i1 ≤ j + 1 ∧ Srt wr B g n c d ∧ Hid (scanUp (fun y => !ltN d[a]! y) d j i1 = scanUp (fun y => !ltN d[a]! y) d j i) ∧ But [g] w wr) (fun vi _ => j + 1 - (intOf vi).toNat)
      case atStart => exact ⟨i, rfl, by omega, hij, hd, Lib.hid rfl, hbut⟩
      case round =>
        clear hd hbut
        obtain ⟨i1, rfl, hi1, hi1j, hd, hup, hbut⟩ := hrel
        obtain ⟨wo, rfl⟩ : ∃ wo : World, wo = wr := ⟨_, rfl⟩
        have hS0 : Srt wo.drew B g n c d := hd.drew
        have w1 : IntKind.i64.wrap ((i1 : Int) + 1) = ((i1 + 1 : Nat) : Int) := by rw [IntKind.wrap_i64]; omega
        by_cases hlij : i1 ≤ j
        · have lij : (i1 : Int) ≤ (j : Int) := by omega
          have lin : (i1 : Int) < (n : Int) := by omega
          obtain ⟨y, hy⟩ : ∃ y, y = d[i1]! := ⟨_, rfl⟩
          have zy : ∀ w' : World, Srt w' B g n c d → w'.cell? ⟨g, i1, none⟩ = some (.int .u64 (y : Int)) := fun w' h => by rw [hy]; exact h.cell (by omega)
          have Hy := Lib.hid hy; clear hy
          go_upto_region 3 with fail
          refine wp_region_N (fun w' => Srt w' B g n c d) 100 (by kernel_rfl) ?_
          apply wpAnyN_takeL 0 (by kernel_rfl) rfl (fun _ _ _ h => h) (by kernel_rfl) hS0
          · intro w' hS'
            go_simp; exact ⟨rfl, rfl⟩
          (try simp only [Act.put]); (try simp only [List.setIfInBounds_toArray]); (try simp only [List.set])
          apply wpAnyN_takeL 1 (by kernel_rfl) rfl (fun _ _ _ h => h) (by kernel_rfl) hS0
          · intro w' hS'
            go_simp; exact ⟨rfl, rfl⟩
          (try simp only [Act.put]); (try simp only [List.setIfInBounds_toArray]); (try simp only [List.set])
          apply wpAnyN_takeL 2 (by kernel_rfl) rfl (fun _ _ _ h => h) (by kernel_rfl) hS0
          · intro w' hS'
            go_simp; exact ⟨rfl, rfl⟩
          (try simp only [Act.put]); (try simp only [List.setIfInBounds_toArray]); (try simp only [List.set])
          apply wpAnyN_takeL 3 (by kernel_rfl) rfl (fun _ _ _ h => h) (by kernel_rfl) hS0
          · intro w' hS'
            go_simp; exact ⟨rfl, rfl⟩
          (try simp only [Act.put]); (try simp only [List.setIfInBounds_toArray]); (try simp only [List.set])
          apply wpAnyN_takeL 4 (by kernel_rfl) rfl (fun _ _ _ h => h) (by kernel_rfl) hS0
          · intro w' hS'
            go_simp; exact ⟨rfl, rfl⟩
          (try simp only [Act.put]); (try simp only [List.setIfInBounds_toArray]); (try simp only [List.set])
          apply wpAnyN_takeL 5 (by kernel_rfl) rfl (fun _ _ _ h => h) (by kernel_rfl) hS0
          · intro w' hS'
            go_simp; exact ⟨rfl, rfl⟩
          (try simp only [Act.put]); (try simp only [List.setIfInBounds_toArray]); (try simp only [List.set])
          apply wpAnyN_takeL 6 (by kernel_rfl) rfl (fun _ _ _ h => h) (by kernel_rfl) hS0
          · intro w' hS'
            go_simp; exact ⟨rfl, rfl⟩
          (try simp only [Act.put]); (try simp only [List.setIfInBounds_toArray]); (try simp only [List.set])
          apply wpAnyN_takeL 7 (by kernel_rfl) rfl (fun _ _ _ h => h) (by kernel_rfl) hS0
          · intro w' hS'
            go_simp; exact ⟨rfl, rfl⟩
          (try simp only [Act.put]); (try simp only [List.setIfInBounds_toArray]); (try simp only [List.set])
          apply wpAnyN_takeL 8 (by kernel_rfl) rfl (fun _ _ _ h => h) (by kernel_rfl) hS0
          · intro w' hS'
            go_simp; exact ⟨rfl, rfl⟩
          (try simp only [Act.put]); (try simp only [List.setIfInBounds_toArray]); (try simp only [List.set])
          apply wpAnyN_takeL 9 (by kernel_rfl) rfl (fun _ _ _ h => h) (by kernel_rfl) hS0
          · intro w' hS'
            go_simp; exact ⟨rfl, rfl⟩
          (try simp only [Act.put]); (try simp only [List.setIfInBounds_toArray]); (try simp only [List.set])
          apply wpAnyN_takeL 10 (by kernel_rfl) rfl (fun _ _ _ h => h) (by kernel_rfl) hS0
          · intro w' hS'
            go_simp; exact ⟨rfl, rfl⟩
          (try simp only [Act.put]); (try simp only [List.setIfInBounds_toArray]); (try simp only [List.set])
          apply wpAnyN_takeL 11 (by kernel_rfl) rfl (fun _ _ _ h => h) (by kernel_rfl) hS0
          · intro w' hS'
            go_simp; exact ⟨rfl, rfl⟩
          (try simp only [Act.put]); (try simp only [List.setIfInBounds_toArray]); (try simp only [List.set])
          apply wpAnyN_takeL 12 (v := (.bool (ltN x y))) (by kernel_rfl) rfl (fun _ _ _ h => h) (by kernel_rfl) hS0
          · intro w' hS'
            (go_simp; exact ⟨rfl, vLessB _ _ _⟩)
          (try simp only [Act.put]); (try simp only [List.setIfInBounds_toArray]); (try simp only [List.set])
          apply wpAnyN_takeL 13 (by kernel_rfl) rfl (fun _ _ _ h => h) (by kernel_rfl) hS0
          · intro w' hS'
            go_simp; exact ⟨rfl, rfl⟩
          (try simp only [Act.put]); (try simp only [List.setIfInBounds_toArray]); (try simp only [List.set])
          apply wpAnyN_takeL 14 (by kernel_rfl) rfl (fun _ _ _ h => h) (by kernel_rfl) hS0
          · intro w' hS'
            go_simp; exact ⟨rfl, rfl⟩
          (try simp only [Act.put]); (try simp only [List.setIfInBounds_toArray]); (try simp only [List.set])
          refine wpAnyN_done (by kernel_rfl) ?_ _
          cases hlt : ltN x y with
          | false =>
            go_wp2
            refine ⟨⟨i1 + 1, by simp, by omega, by omega, hS0, Lib.hid ?_, hbut.drew⟩, by simp [intOf]; omega⟩
            rw [← hup.out]; conv => rhs; rw [scanUp, if_pos (by rw [← Hx.out, ← Hy.out, hlt]; simp [hlij])]
          | true =>
            have hup2 : scanUp (fun y => !ltN d[a]! y) d j i = i1 := by rw [← hup.out, scanUp, if_neg (by rw [← Hx.out, ← Hy.out, hlt]; simp)]
            have hst : i1 ≤ j → ltN d[a]! d[i1]! = true := fun _ => by rw [← Hx.out, ← Hy.out]; exact hlt
            have hd2 : Srt wo.drew B g n c d := hS0
            have hbut2 : But [g] w wo.drew := hbut.drew
            have Hup2 := Lib.hid hup2; clear hup2
            have Hst := Lib.hid hst; clear hst
            clear w1 zy lin lij hlij
            go_wp2
            go_loopw [10] (fun vj wr => ∃ (j1 : Nat), vj = .int .i64 j1 ∧ j1 ≤ j ∧ i1 ≤ j1 + 1 ∧ Srt wr B g n c d ∧ Hid (scanDown (fun y => ltN d[a]! y) d i1 j1 = scanDown (fun y => ltN d[a]! y) d i1 j) ∧ But [g] w wr) (fun vj _ => (intOf vj).toNat)
            case atStart => exact ⟨j, rfl, by omega, hi1j, hd2, Lib.hid rfl, hbut2⟩
            case round =>
              clear hd2 hbut2 hS0 hd hbut
              obtain ⟨j1, rfl, hj1, hj1i, hd, hdn, hbut⟩ := hrel
              obtain ⟨wo, rfl⟩ : ∃ wo : World, wo = wr := ⟨_, rfl⟩
              have hS0 : Srt wo.drew B g n c d := hd.drew
              by_cases hlij : i1 ≤ j1
              · have lij : (i1 : Int) ≤ (j1 : Int) := by omega
                have ljn : (j1 : Int) < (n : Int) := by omega
                have w1 : IntKind.i64.wrap ((j1 : Int) - 1) = ((j1 - 1 : Nat) : Int) := by rw [IntKind.wrap_i64]; omega
                obtain ⟨z, hz⟩ : ∃ z, z = d[j1]! := ⟨_, rfl⟩
                have zz : ∀ w' : World, Srt w' B g n c d → w'.cell? ⟨g, j1, none⟩ = some (.int .u64 (z : Int)) := fun w' h => by rw [hz]; exact h.cell (by omega)
                have Hz := Lib.hid hz; clear hz
                go_upto_region 5 with fail
                refine wp_region_N (fun w' => Srt w' B g n c d) 100 (by kernel_rfl) ?_
                apply wpAnyN_takeL 0 (by kernel_rfl) rfl (fun _ _ _ h => h) (by kernel_rfl) hS0
                · intro w' hS'
                  go_simp; exact ⟨rfl, rfl⟩
                (try simp only [Act.put]); (try simp only [List.setIfInBounds_toArray]); (try simp only [List.set])
                apply wpAnyN_takeL 1 (by kernel_rfl) rfl (fun _ _ _ h => h) (by kernel_rfl) hS0
                · intro w' hS'
                  go_simp; exact ⟨rfl, rfl⟩
                (try simp only [Act.put]); (try simp only [List.setIfInBounds_toArray]); (try simp only [List.set])
                apply wpAnyN_takeL 2 (by kernel_rfl) rfl (fun _ _ _ h => h) (by kernel_rfl) hS0
                · intro w' hS'
                  go_simp; exact ⟨rfl, rfl⟩
                (try simp only [Act.put]); (try simp only [List.setIfInBounds_toArray]); (try simp only [List.set])
                apply wpAnyN_takeL 3 (by kernel_rfl) rfl (fun _ _ _ h => h) (by kernel_rfl) hS0
                · intro w' hS'
                  go_simp; exact ⟨rfl, rfl⟩
                (try simp only [Act.put]); (try simp only [List.setIfInBounds_toArray]); (try simp only [List.set])
                apply wpAnyN_takeL 4 (by kernel_rfl) rfl (fun _ _ _ h => h) (by kernel_rfl) hS0
                · intro w' hS'
                  go_simp; exact ⟨rfl, rfl⟩
                (try simp only [Act.put]); (try simp only [List.setIfInBounds_toArray]); (try simp only [List.set])
                apply wpAnyN_takeL 5 (by kernel_rfl) rfl (fun _ _ _ h => h) (by kernel_rfl) hS0
                · intro w' hS'
                  go_simp; exact ⟨rfl, rfl⟩
                (try simp only [Act.put]); (try simp only [List.setIfInBounds_toArray]); (try simp only [List.set])
                apply wpAnyN_takeL 6 (by kernel_rfl) rfl (fun _ _ _ h => h) (by kernel_rfl) hS0
                · intro w' hS'
                  go_simp; exact ⟨rfl, rfl⟩
                (try simp only [Act.put]); (try simp only [List.setIfInBounds_toArray]); (try simp only [List.set])
                apply wpAnyN_takeL 7 (by kernel_rfl) rfl (fun _ _ _ h => h) (by kernel_rfl) hS0
                · intro w' hS'
                  go_simp; exact ⟨rfl, rfl⟩
                (try simp only [Act.put]); (try simp only [List.setIfInBounds_toArray]); (try simp only [List.set])
                apply wpAnyN_takeL 8 (by kernel_rfl) rfl (fun _ _ _ h => h) (by kernel_rfl) hS0
                · intro w' hS'
                  go_simp; exact ⟨rfl, rfl⟩
                (try simp only [Act.put]); (try simp only [List.setIfInBounds_toArray]); (try simp only [List.set])
                apply wpAnyN_takeL 9 (by kernel_rfl) rfl (fun _ _ _ h => h) (by kernel_rfl) hS0
                · intro w' hS'
                  go_simp; exact ⟨rfl, rfl⟩
                (try simp only [Act.put]); (try simp only [List.setIfInBounds_toArray]); (try simp only [List.set])
                apply wpAnyN_takeL 10 (by kernel_rfl) rfl (fun _ _ _ h => h) (by kernel_rfl) hS0
                · intro w' hS'
                  go_simp; exact ⟨rfl, rfl⟩
                (try simp only [Act.put]); (try simp only [List.setIfInBounds_toArray]); (try simp only [List.set])
                apply wpAnyN_takeL 11 (by kernel_rfl) rfl (fun _ _ _ h => h) (by kernel_rfl) hS0
                · intro w' hS'
                  go_simp; exact ⟨rfl, rfl⟩
                (try simp only [Act.put]); (try simp only [List.setIfInBounds_toArray]); (try simp only [List.set])
                apply wpAnyN_takeL 12 (v := (.bool (ltN x z))) (by kernel_rfl) rfl (fun _ _ _ h => h) (by kernel_rfl) hS0
                · intro w' hS'
                  (go_simp; exact ⟨rfl, vLessB _ _ _⟩)
                (try simp only [Act.put]); (try simp only [List.setIfInBounds_toArray]); (try simp only [List.set])
                apply wpAnyN_takeL 13 (by kernel_rfl) rfl (fun _ _ _ h => h) (by kernel_rfl) hS0
                · intro w' hS'
                  go_simp; exact ⟨rfl, rfl⟩
                (try simp only [Act.put]); (try simp only [List.setIfInBounds_toArray]); (try simp only [List.set])
                refine wpAnyN_done (by kernel_rfl) ?_ _
                cases hlt : ltN x z with
                | true =>
                  obtain ⟨j0, rfl⟩ : ∃ j0, j1 = j0 + 1 := ⟨j1 - 1, by omega⟩
                  go_wp2
                  refine ⟨⟨j0, by simp, by omega, by omega, hS0, Lib.hid ?_, hbut.drew⟩, by simp [intOf]⟩
                  rw [← hdn.out]; conv => rhs; rw [scanDown, if_pos (by rw [← Hx.out, ← Hz.out, hlt]; simp [hlij])]
                | false =>
                  have hdn2 : scanDown (fun y => ltN d[a]! y) d i1 j = j1 := by
                    rw [← hdn.out]
                    obtain ⟨j0, rfl⟩ : ∃ j0, j1 = j0 + 1 := ⟨j1 - 1, by omega⟩
                    rw [scanDown, if_neg (by rw [← Hx.out, ← Hz.out, hlt]; simp)]
                  have hne : i1 ≠ j1 := fun e => by
                    have h1 := Hst.out (by omega)
                    rw [e, ← Hx.out, ← Hz.out, hlt] at h1
                    cases h1
                  have Hdn2 := Lib.hid hdn2; clear hdn2
                  have lgt : ¬ (j1 : Int) < (i1 : Int) := by omega
                  have lin2 : (i1 : Int) < (n : Int) := by omega
                  have w5 : IntKind.i64.wrap ((i1 : Int) + 1) = ((i1 + 1 : Nat) : Int) := by rw [IntKind.wrap_i64]; omega
                  obtain ⟨y2, hy2⟩ : ∃ y2, y2 = d[i1]! := ⟨_, rfl⟩
                  obtain ⟨wq, hwq⟩ : ∃ wq, wq = wo.drew := ⟨_, rfl⟩
                  have hd3 : Srt wq B g n c d := by rw [hwq]; exact hS0
                  have hbut3 : But [g] w wq := by rw [hwq]; exact hbut.drew
                  have ci : wq.cell? ⟨g, i1, none⟩ = some (.int .u64 (y2 : Int)) := by rw [hy2]; exact hd3.cell (by omega)
                  have cj : wq.cell? ⟨g, j1, none⟩ = some (.int .u64 (z : Int)) := zz wq hd3
                  have fi := hd3.frozen i1
                  have fj := hd3.frozen j1
                  rw [← hwq]
                  clear hwq zz zx
                  have Hy2 := Lib.hid hy2; clear hy2
                  go_upto_region 8 with fail
                  go_region
                  all_goals go_wp2
                  refine ⟨⟨i1 + 1, j1 - 1, Sort.swp d i1 j1, by simp, rfl, by omega, by omega, by omega, ?_, Lib.hid ?_, ?_⟩, by simp [intOf]; omega⟩
                  · rw [Hy2.out, Hz.out]; exact hd3.swp.drew
                  · rw [← hrel'.out]; exact (pe_go Hup2.out Hdn2.out (by omega) (by omega) (by omega)).symm
                  · exact ((hbut3.setCell (p := ⟨g, i1, none⟩) (by simp) _).setCell (p := ⟨g, j1, none⟩) (by simp) _).drew
              · have lij : ¬ (i1 : Int) ≤ (j1 : Int) := by omega
                have lgt : (j1 : Int) < (i1 : Int) := by omega
                have hdn2 : scanDown (fun y => ltN d[a]! y) d i1 j = j1 := by
                  rw [← hdn.out]
                  cases j1 with
                  | zero => rfl
                  | succ j0 => rw [scanDown, if_neg (by simp; intro h; omega)]
                have hres : partEqLoop ltN a (a + 1) (b - 1) d1 = (i1, d) := by rw [← hrel'.out]; exact pe_end Hup2.out hdn2 (by omega)
                have Hres := Lib.hid hres; clear hres hdn2
                go_upto_region 5 with fail
                refine wp_region_N (fun w' => Srt w' B g n c d) 100 (by kernel_rfl) ?_
                apply wpAnyN_takeL 0 (by kernel_rfl) rfl (fun _ _ _ h => h) (by kernel_rfl) hS0
                · intro w' hS'
                  go_simp; exact ⟨rfl, rfl⟩
                (try simp only [Act.put]); (try simp only [List.setIfInBounds_toArray]); (try simp only [List.set])
                apply wpAnyN_takeL 1 (by kernel_rfl) rfl (fun _ _ _ h => h) (by kernel_rfl) hS0
                · intro w' hS'
                  go_simp; exact ⟨rfl, rfl⟩
                (try simp only [Act.put]); (try simp only [List.setIfInBounds_toArray]); (try simp only [List.set])
                apply wpAnyN_takeL 2 (by kernel_rfl) rfl (fun _ _ _ h => h) (by kernel_rfl) hS0
                · intro w' hS'
                  go_simp; exact ⟨rfl, rfl⟩
                (try simp only [Act.put]); (try simp only [List.setIfInBounds_toArray]); (try simp only [List.set])
                apply wpAnyN_takeL 3 (by kernel_rfl) rfl (fun _ _ _ h => h) (by kernel_rfl) hS0
                · intro w' hS'
                  go_simp; exact ⟨rfl, rfl⟩
                (try simp only [Act.put]); (try simp only [List.setIfInBounds_toArray]); (try simp only [List.set])
                refine wpAnyN_skipL 4 (by kernel_rfl) rfl (fun _ _ _ h => h) (by kernel_rfl) hS0 ?_
                (try simp only [Act.put]); (try simp only [List.setIfInBounds_toArray]); (try simp only [List.set])
                refine wpAnyN_skipL 5 (by kernel_rfl) rfl (fun _ _ _ h => h) (by kernel_rfl) hS0 ?_
                (try simp only [Act.put]); (try simp only [List.setIfInBounds_toArray]); (try simp only [List.set])
                refine wpAnyN_skipL 6 (by kernel_rfl) rfl (fun _ _ _ h => h) (by kernel_rfl) hS0 ?_
                (try simp only [Act.put]); (try simp only [List.setIfInBounds_toArray]); (try simp only [List.set])
                refine wpAnyN_skipL 7 (by kernel_rfl) rfl (fun _ _ _ h => h) (by kernel_rfl) hS0 ?_
                (try simp only [Act.put]); (try simp only [List.setIfInBounds_toArray]); (try simp only [List.set])
                refine wpAnyN_skipL 8 (by kernel_rfl) rfl (fun _ _ _ h => h) (by kernel_rfl) hS0 ?_
                (try simp only [Act.put]); (try simp only [List.setIfInBounds_toArray]); (try simp only [List.set])
                refine wpAnyN_skipL 9 (by kernel_rfl) rfl (fun _ _ _ h => h) (by kernel_rfl) hS0 ?_
                (try simp only [Act.put]); (try simp only [List.setIfInBounds_toArray]); (try simp only [List.set])
                refine wpAnyN_skipL 10 (by kernel_rfl) rfl (fun _ _ _ h => h) (by kernel_rfl) hS0 ?_
                (try simp only [Act.put]); (try simp only [List.setIfInBounds_toArray]); (try simp only [List.set])
                refine wpAnyN_skipL 11 (by kernel_rfl) rfl (fun _ _ _ h => h) (by kernel_rfl) hS0 ?_
                (try simp only [Act.put]); (try simp only [List.setIfInBounds_toArray]); (try simp only [List.set])
                refine wpAnyN_skipL 12 (by kernel_rfl) rfl (fun _ _ _ h => h) (by kernel_rfl) hS0 ?_
                (try simp only [Act.put]); (try simp only [List.setIfInBounds_toArray]); (try simp only [List.set])
                apply wpAnyN_takeL 13 (by kernel_rfl) rfl (fun _ _ _ h => h) (by kernel_rfl) hS0
                · intro w' hS'
                  go_simp; exact ⟨rfl, rfl⟩
                (try simp only [Act.put]); (try simp only [List.setIfInBounds_toArray]); (try simp only [List.set])
                refine wpAnyN_done (by kernel_rfl) ?_ _
                go_wp2
                go_ret
                refine ⟨?_, ?_, hbut.drew, ?_, ?_⟩
                · rw [Hpe.out, Hres.out]; rfl
                · rw [Hpe.out, Hres.out]; exact hS0
                · rw [Hpe.out, Hres.out]; show a < i1; omega
                · rw [Hpe.out, Hres.out]; show i1 ≤ b; omega
        · have lij : ¬ (i1 : Int) ≤ (j : Int) := by omega
          go_upto_region 3 with fail
          refine wp_region_N (fun w' => Srt w' B g n c d) 100 (by kernel_rfl) ?_
          apply wpAnyN_takeL 0 (by kernel_rfl) rfl (fun _ _ _ h => h) (by kernel_rfl) hS0
          · intro w' hS'
            go_simp; exact ⟨rfl, rfl⟩
          (try simp only [Act.put]); (try simp only [List.setIfInBounds_toArray]); (try simp only [List.set])
          apply wpAnyN_takeL 1 (by kernel_rfl) rfl (fun _ _ _ h => h) (by kernel_rfl) hS0
          · intro w' hS'
            go_simp; exact ⟨rfl, rfl⟩
          (try simp only [Act.put]); (try simp only [List.setIfInBounds_toArray]); (try simp only [List.set])
          apply wpAnyN_takeL 2 (by kernel_rfl) rfl (fun _ _ _ h => h) (by kernel_rfl) hS0
          · intro w' hS'
            go_simp; exact ⟨rfl, rfl⟩
          (try simp only [Act.put]); (try simp only [List.setIfInBounds_toArray]); (try simp only [List.set])
          apply wpAnyN_takeL 3 (by kernel_rfl) rfl (fun _ _ _ h => h) (by kernel_rfl) hS0
          · intro w' hS'
            go_simp; exact ⟨rfl, rfl⟩
          (try simp only [Act.put]); (try simp only [List.setIfInBounds_toArray]); (try simp only [List.set])
          refine wpAnyN_skipL 4 (by kernel_rfl) rfl (fun _ _ _ h => h) (by kernel_rfl) hS0 ?_
          (try simp only [Act.put]); (try simp only [List.setIfInBounds_toArray]); (try simp only [List.set])
          refine wpAnyN_skipL 5 (by kernel_rfl) rfl (fun _ _ _ h => h) (by kernel_rfl) hS0 ?_
          (try simp only [Act.put]); (try simp only [List.setIfInBounds_toArray]); (try simp only [List.set])
          refine wpAnyN_skipL 6 (by kernel_rfl) rfl (fun _ _ _ h => h) (by kernel_rfl) hS0 ?_
          (try simp only [Act.put]); (try simp only [List.setIfInBounds_toArray]); (try simp only [List.set])
          refine wpAnyN_skipL 7 (by kernel_rfl) rfl (fun _ _ _ h => h) (by kernel_rfl) hS0 ?_
          (try simp only [Act.put]); (try simp only [List.setIfInBounds_toArray]); (try simp only [List.set])
          refine wpAnyN_skipL 8 (by kernel_rfl) rfl (fun _ _ _ h => h) (by kernel_rfl) hS0 ?_
          (try simp only [Act.put]); (try simp only [List.setIfInBounds_toArray]); (try simp only [List.set])
          refine wpAnyN_skipL 9 (by kernel_rfl) rfl (fun _ _ _ h => h) (by kernel_rfl) hS0 ?_
          (try simp only [Act.put]); (try simp only [List.setIfInBounds_toArray]); (try simp only [List.set])
          refine wpAnyN_skipL 10 (by kernel_rfl) rfl (fun _ _ _ h => h) (by kernel_rfl) hS0 ?_
          (try simp only [Act.put]); (try simp only [List.setIfInBounds_toArray]); (try simp only [List.set])
          refine wpAnyN_skipL 11 (by kernel_rfl) rfl (fun _ _ _ h => h) (by kernel_rfl) hS0 ?_
          (try simp only [Act.put]); (try simp only [List.setIfInBounds_toArray]); (try simp only [List.set])
          refine wpAnyN_skipL 12 (by kernel_rfl) rfl (fun _ _ _ h => h) (by kernel_rfl) hS0 ?_
          (try simp only [Act.put]); (try simp only [List.setIfInBounds_toArray]); (try simp only [List.set])
          refine wpAnyN_skipL 13 (by kernel_rfl) rfl (fun _ _ _ h => h) (by kernel_rfl) hS0 ?_
          (try simp only [Act.put]); (try simp only [List.setIfInBounds_toArray]); (try simp only [List.set])
          apply wpAnyN_takeL 14 (by kernel_rfl) rfl (fun _ _ _ h => h) (by kernel_rfl) hS0
          · intro w' hS'
            go_simp; exact ⟨rfl, rfl⟩
          (try simp only [Act.put]); (try simp only [List.setIfInBounds_toArray]); (try simp only [List.set])
          refine wpAnyN_done (by kernel_rfl) ?_ _
          have hup2 : scanUp (fun y => !ltN d[a]! y) d j i = i1 := by rw [← hup.out, scanUp, if_neg (by simp [hlij])]
          have hst : i1 ≤ j → ltN d[a]! d[i1]! = true := fun h => absurd h hlij
          have hd2 : Srt wo.drew B g n c d := hS0
          have hbut2 : But [g] w wo.drew := hbut.drew
          have Hup2 := Lib.hid hup2; clear hup2
          have Hst := Lib.hid hst; clear hst
          clear w1 lij hlij
          go_wp2
          go_loopw [10] (fun vj wr => ∃ (j1 : Nat), vj = .int .i64 j1 ∧ j1 ≤ j ∧ i1 ≤ j1 + 1 ∧ Srt wr B g n c d ∧ Hid (scanDown (fun y => ltN d[a]! y) d i1 j1 = scanDown (fun y => ltN d[a]! y) d i1 j) ∧ But [g] w wr) (fun vj _ => (intOf vj).toNat)
          case atStart => exact ⟨j, rfl, by omega, hi1j, hd2, Lib.hid rfl, hbut2⟩
          case round =>
            clear hd2 hbut2 hS0 hd hbut
            obtain ⟨j1, rfl, hj1, hj1i, hd, hdn, hbut⟩ := hrel
            obtain ⟨wo, rfl⟩ : ∃ wo : World, wo = wr := ⟨_, rfl⟩
            have hS0 : Srt wo.drew B g n c d := hd.drew
            by_cases hlij : i1 ≤ j1
            · have lij : (i1 : Int) ≤ (j1 : Int) := by omega
              have ljn : (j1 : Int) < (n : Int) := by omega
              have w1 : IntKind.i64.wrap ((j1 : Int) - 1) = ((j1 - 1 : Nat) : Int) := by rw [IntKind.wrap_i64]; omega
              obtain ⟨z, hz⟩ : ∃ z, z = d[j1]! := ⟨_, rfl⟩
              have zz : ∀ w' : World, Srt w' B g n c d → w'.cell? ⟨g, j1, none⟩ = some (.int .u64 (z : Int)) := fun w' h => by rw [hz]; exact h.cell (by omega)
              have Hz := Lib.hid hz; clear hz
              go_upto_region 5 with fail
              refine wp_region_N (fun w' => Srt w' B g n c d) 100 (by kernel_rfl) ?_
              apply wpAnyN_takeL 0 (by kernel_rfl) rfl (fun _ _ _ h => h) (by kernel_rfl) hS0
              · intro w' hS'
                go_simp; exact ⟨rfl, rfl⟩
              (try simp only [Act.put]); (try simp only [List.setIfInBounds_toArray]); (try simp only [List.set])
              apply wpAnyN_takeL 1 (by kernel_rfl) rfl (fun _ _ _ h => h) (by kernel_rfl) hS0
              · intro w' hS'
                go_simp; exact ⟨rfl, rfl⟩
              (try simp only [Act.put]); (try simp only [List.setIfInBounds_toArray]); (try simp only [List.set])
              apply wpAnyN_takeL 2 (by kernel_rfl) rfl (fun _ _ _ h => h) (by kernel_rfl) hS0
              · intro w' hS'
                go_simp; exact ⟨rfl, rfl⟩
              (try simp only [Act.put]); (try simp only [List.setIfInBounds_toArray]); (try simp only [List.set])
              apply wpAnyN_takeL 3 (by kernel_rfl) rfl (fun _ _ _ h => h) (by kernel_rfl) hS0
              · intro w' hS'
                go_simp; exact ⟨rfl, rfl⟩
              (try simp only [Act.put]); (try simp only [List.setIfInBounds_toArray]); (try simp only [List.set])
              apply wpAnyN_takeL 4 (by kernel_rfl) rfl (fun _ _ _ h => h) (by kernel_rfl) hS0
              · intro w' hS'
                go_simp; exact ⟨rfl, rfl⟩
              (try simp only [Act.put]); (try simp only [List.setIfInBounds_toArray]); (try simp only [List.set])
              apply wpAnyN_takeL 5 (by kernel_rfl) rfl (fun _ _ _ h => h) (by kernel_rfl) hS0
              · intro w' hS'
                go_simp; exact ⟨rfl, rfl⟩
              (try simp only [Act.put]); (try simp only [List.setIfInBounds_toArray]); (try simp only [List.set])
              apply wpAnyN_takeL 6 (by kernel_rfl) rfl (fun _ _ _ h => h) (by kernel_rfl) hS0
              · intro w' hS'
                go_simp; exact ⟨rfl, rfl⟩
              (try simp only [Act.put]); (try simp only [List.setIfInBounds_toArray]); (try simp only [List.set])
              apply wpAnyN_takeL 7 (by kernel_rfl) rfl (fun _ _ _ h => h) (by kernel_rfl) hS0
              · intro w' hS'
                go_simp; exact ⟨rfl, rfl⟩
              (try simp only [Act.put]); (try simp only [List.setIfInBounds_toArray]); (try simp only [List.set])
              apply wpAnyN_takeL 8 (by kernel_rfl) rfl (fun _ _ _ h => h) (by kernel_rfl) hS0
              · intro w' hS'
                go_simp; exact ⟨rfl, rfl⟩
              (try simp only [Act.put]); (try simp only [List.setIfInBounds_toArray]); (try simp only [List.set])
              apply wpAnyN_takeL 9 (by kernel_rfl) rfl (fun _ _ _ h => h) (by kernel_rfl) hS0
              · intro w' hS'
                go_simp; exact ⟨rfl, rfl⟩
              (try simp only [Act.put]); (try simp only [List.setIfInBounds_toArray]); (try simp only [List.set])
              apply wpAnyN_takeL 10 (by kernel_rfl) rfl (fun _ _ _ h => h) (by kernel_rfl) hS0
              · intro w' hS'
                go_simp; exact ⟨rfl, rfl⟩
              (try simp only [Act.put]); (try simp only [List.setIfInBounds_toArray]); (try simp only [List.set])
              apply wpAnyN_takeL 11 (by kernel_rfl) rfl (fun _ _ _ h => h) (by kernel_rfl) hS0
              · intro w' hS'
                go_simp; exact ⟨rfl, rfl⟩
              (try simp only [Act.put]); (try simp only [List.setIfInBounds_toArray]); (try simp only [List.set])
              apply wpAnyN_takeL 12 (v := (.bool (ltN x z))) (by kernel_rfl) rfl (fun _ _ _ h => h) (by kernel_rfl) hS0
              · intro w' hS'
                (go_simp; exact ⟨rfl, vLessB _ _ _⟩)
              (try simp only [Act.put]); (try simp only [List.setIfInBounds_toArray]); (try simp only [List.set])
              apply wpAnyN_takeL 13 (by kernel_rfl) rfl (fun _ _ _ h => h) (by kernel_rfl) hS0
              · intro w' hS'
                go_simp; exact ⟨rfl, rfl⟩
              (try simp only [Act.put]); (try simp only [List.setIfInBounds_toArray]); (try simp only [List.set])
              refine wpAnyN_done (by kernel_rfl) ?_ _
              cases hlt : ltN x z with
              | true =>
                obtain ⟨j0, rfl⟩ : ∃ j0, j1 = j0 + 1 := ⟨j1 - 1, by omega⟩
                go_wp2
                refine ⟨⟨j0, by simp, by omega, by omega, hS0, Lib.hid ?_, hbut.drew⟩, by simp [intOf]⟩
                rw [← hdn.out]; conv => rhs; rw [scanDown, if_pos (by rw [← Hx.out, ← Hz.out, hlt]; simp [hlij])]
              | false =>
                have hdn2 : scanDown (fun y => ltN d[a]! y) d i1 j = j1 := by
                  rw [← hdn.out]
                  obtain ⟨j0, rfl⟩ : ∃ j0, j1 = j0 + 1 := ⟨j1 - 1, by omega⟩
                  rw [scanDown, if_neg (by rw [← Hx.out, ← Hz.out, hlt]; simp)]
                have hne : i1 ≠ j1 := fun e => by
                  have h1 := Hst.out (by omega)
                  rw [e, ← Hx.out, ← Hz.out, hlt] at h1
                  cases h1
                have Hdn2 := Lib.hid hdn2; clear hdn2
                have lgt : ¬ (j1 : Int) < (i1 : Int) := by omega
                have lin2 : (i1 : Int) < (n : Int) := by omega
                have w5 : IntKind.i64.wrap ((i1 : Int) + 1) = ((i1 + 1 : Nat) : Int) := by rw [IntKind.wrap_i64]; omega
                obtain ⟨y2, hy2⟩ : ∃ y2, y2 = d[i1]! := ⟨_, rfl⟩
                obtain ⟨wq, hwq⟩ : ∃ wq, wq = wo.drew := ⟨_, rfl⟩
                have hd3 : Srt wq B g n c d := by rw [hwq]; exact hS0
                have hbut3 : But [g] w wq := by rw [hwq]; exact hbut.drew
                have ci : wq.cell? ⟨g, i1, none⟩ = some (.int .u64 (y2 : Int)) := by rw [hy2]; exact hd3.cell (by omega)
                have cj : wq.cell? ⟨g, j1, none⟩ = some (.int .u64 (z : Int)) := zz wq hd3
                have fi := hd3.frozen i1
                have fj := hd3.frozen j1
                rw [← hwq]
                clear hwq zz zx
                have Hy2 := Lib.hid hy2; clear hy2
                go_upto_region 8 with fail
                go_region
                all_goals go_wp2
                refine ⟨⟨i1 + 1, j1 - 1, Sort.swp d i1 j1, by simp, rfl, by omega, by omega, by omega, ?_, Lib.hid ?_, ?_⟩, by simp [intOf]; omega⟩
                · rw [Hy2.out, Hz.out]; exact hd3.swp.drew
                · rw [← hrel'.out]; exact (pe_go Hup2.out Hdn2.out (by omega) (by omega) (by omega)).symm
                · exact ((hbut3.setCell (p := ⟨g, i1, none⟩) (by simp) _).setCell (p := ⟨g, j1, none⟩) (by simp) _).drew
            · have lij : ¬ (i1 : Int) ≤ (j1 : Int) := by omega
              have lgt : (j1 : Int) < (i1 : Int) := by omega
              have hdn2 : scanDown (fun y => ltN d[a]! y) d i1 j = j1 := by
                rw [← hdn.out]
                cases j1 with
                | zero => rfl
                | succ j0 => rw [scanDown, if_neg (by simp; intro h; omega)]
              have hres : partEqLoop ltN a (a + 1) (b - 1) d1 = (i1, d) := by rw [← hrel'.out]; exact pe_end Hup2.out hdn2 (by omega)
              have Hres := Lib.hid hres; clear hres hdn2
              go_upto_region 5 with fail
              refine wp_region_N (fun w' => Srt w' B g n c d) 100 (by kernel_rfl) ?_
              apply wpAnyN_takeL 0 (by kernel_rfl) rfl (fun _ _ _ h => h) (by kernel_rfl) hS0
              · intro w' hS'
                go_simp; exact ⟨rfl, rfl⟩
              (try simp only [Act.put]); (try simp only [List.setIfInBounds_toArray]); (try simp only [List.set])
              apply wpAnyN_takeL 1 (by kernel_rfl) rfl (fun _ _ _ h => h) (by kernel_rfl) hS0
              · intro w' hS'
                go_simp; exact ⟨rfl, rfl⟩
              (try simp only [Act.put]); (try simp only [List.setIfInBounds_toArray]); (try simp only [List.set])
              apply wpAnyN_takeL 2 (by kernel_rfl) rfl (fun _ _ _ h => h) (by kernel_rfl) hS0
              · intro w' hS'
                go_simp; exact ⟨rfl, rfl⟩
              (try simp only [Act.put]); (try simp only [List.setIfInBounds_toArray]); (try simp only [List.set])
              apply wpAnyN_takeL 3 (by kernel_rfl) rfl (fun _ _ _ h => h) (by kernel_rfl) hS0
              · intro w' hS'
                go_simp; exact ⟨rfl, rfl⟩
              (try simp only [Act.put]); (try simp only [List.setIfInBounds_toArray]); (try simp only [List.set])
              refine wpAnyN_skipL 4 (by kernel_rfl) rfl (fun _ _ _ h => h) (by kernel_rfl) hS0 ?_
              (try simp only [Act.put]); (try simp only [List.setIfInBounds_toArray]); (try simp only [List.set])
              refine wpAnyN_skipL 5 (by kernel_rfl) rfl (fun _ _ _ h => h) (by kernel_rfl) hS0 ?_
              (try simp only [Act.put]); (try simp only [List.setIfInBounds_toArray]); (try simp only [List.set])
              refine wpAnyN_skipL 6 (by kernel_rfl) rfl (fun _ _ _ h => h) (by kernel_rfl) hS0 ?_
              (try simp only [Act.put]); (try simp only [List.setIfInBounds_toArray]); (try simp only [List.set])
              refine wpAnyN_skipL 7 (by kernel_rfl) rfl (fun _ _ _ h => h) (by kernel_rfl) hS0 ?_
              (try simp only [Act.put]); (try simp only [List.setIfInBounds_toArray]); (try simp only [List.set])
              refine wpAnyN_skipL 8 (by kernel_rfl) rfl (fun _ _ _ h => h) (by kernel_rfl) hS0 ?_
              (try simp only [Act.put]); (try simp only [List.setIfInBounds_toArray]); (try simp only [List.set])
              refine wpAnyN_skipL 9 (by kernel_rfl) rfl (fun _ _ _ h => h) (by kernel_rfl) hS0 ?_
              (try simp only [Act.put]); (try simp only [List.setIfInBounds_toArray]); (try simp only [List.set])
              refine wpAnyN_skipL 10 (by kernel_rfl) rfl (fun _ _ _ h => h) (by kernel_rfl) hS0 ?_
              (try simp only [Act.put]); (try simp only [List.setIfInBounds_toArray]); (try simp only [List.set])
              refine wpAnyN_skipL 11 (by kernel_rfl) rfl (fun _ _ _ h => h) (by kernel_rfl) hS0 ?_
              (try simp only [Act.put]); (try simp only [List.setIfInBounds_toArray]); (try simp only [List.set])
              refine wpAnyN_skipL 12 (by kernel_rfl) rfl (fun _ _ _ h => h) (by kernel_rfl) hS0 ?_
              (try simp only [Act.put]); (try simp only [List.setIfInBounds_toArray]); (try simp only [List.set])
              apply wpAnyN_takeL 13 (by kernel_rfl) rfl (fun _ _ _ h => h) (by kernel_rfl) hS0
              · intro w' hS'
                go_simp; exact ⟨rfl, rfl⟩
              (try simp only [Act.put]); (try simp only [List.setIfInBounds_toArray]); (try simp only [List.set])
              refine wpAnyN_done (by kernel_rfl) ?_ _
              go_wp2
              go_ret
              refine ⟨?_, ?_, hbut.drew, ?_, ?_⟩
              · rw [Hpe.out, Hres.out]; rfl
              · rw [Hpe.out, Hres.out]; exact hS0
              · rw [Hpe.out, Hres.out]; show a < i1; omega
              · rw [Hpe.out, Hres.out]; show i1 ≤ b; omega
end Go.Proofs.Ytmalkgakdmghiaa
