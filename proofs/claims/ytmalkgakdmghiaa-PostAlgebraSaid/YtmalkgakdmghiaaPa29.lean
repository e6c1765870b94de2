import Derived.Test.YtmalkgakdmghiaaPa22
/-! slices.Sort at []uint64, 8: insertionSort, partialInsertionSort (printed by gen_sd8.py) -/
namespace Garner
open Go Go.Sort
theorem pi_true {a b s i : Nat} {d : Array Nat} (h : scanSorted ltN d b i = b) : partialIns ltN a b (s + 1) i d = (d, true) := by
  rw [partialIns]; simp only [h]; simp
theorem pi_short {a b s i i1 : Nat} {d : Array Nat} (h : scanSorted ltN d b i = i1) (hb : i1 ≠ b) (hs : b - a < 50) : partialIns ltN a b (s + 1) i d = (d, false) := by
  rw [partialIns]; simp only [h]; rw [if_neg hb, if_pos hs]
theorem pi_step {a b s i i1 : Nat} {d : Array Nat} (h : scanSorted ltN d b i = i1) (hb : i1 ≠ b) (hs : ¬ b - a < 50) :
    partialIns ltN a b (s + 1) i d = partialIns ltN a b s i1 (if b - i1 ≥ 2 then shiftUp ltN b (i1 + 1) (if i1 - a ≥ 2 then shiftDown ltN (i1 - 1) (swp d i1 (i1 - 1)) else swp d i1 (i1 - 1)) else (if i1 - a ≥ 2 then shiftDown ltN (i1 - 1) (swp d i1 (i1 - 1)) else swp d i1 (i1 - 1))) := by
  rw [partialIns]; simp only [h]; rw [if_neg hb, if_neg hs]
theorem insInner_le {a : Nat} : ∀ {j : Nat} {d : Array Nat}, j ≤ a → insInner ltN a j d = d
  | 0, _, _ => rfl
  | j + 1, d, h => by rw [insInner, if_neg (by simp; intro h2; omega)]
end Garner
namespace Go.Proofs.Ytmalkgakdmghiaa
open Go.RowKit Go.Sort Garner

set_option maxRecDepth 100000 in
set_option maxHeartbeats 8000000 in
theorem vInsG (d0 : Array Nat) (B g n c a b : Nat) (w : World) (h0 : Srt w B g n c d0) (hb : b ≤ n) (ha : a ≤ n) (hn : n ≤ 140737488355328) :
    Calls Try.prog 43 #[.slice (some ⟨g, 0, none⟩) n c, .int .i64 a, .int .i64 b] w fun e w' => e = .returned (.tuple #[]) ∧ Srt w' B g n c (insertionSort ltN d0 a b) ∧ But [g] w w' := by
  have wa : IntKind.i64.wrap ((a : Int) + 1) = ((a + 1 : Nat) : Int) := by rw [IntKind.wrap_i64]; omega
  go_enter Try.func43, Try.ntmps43
  go_wp2
  go_loopw [6] (fun vi wr => ∃ (i : Nat) (d : Array Nat), vi = .int .i64 i ∧ a < i ∧ i ≤ n + 1 ∧ Srt wr B g n c d ∧ Hid (insOuter ltN a b i d = insertionSort ltN d0 a b) ∧ But [g] w wr) (fun vi _ => b - (intOf vi).toNat)
  case atStart => exact ⟨a + 1, d0, by simp, by omega, by omega, h0, Lib.hid rfl, But.refl _ _⟩
  case round =>
    obtain ⟨i, d, rfl, hai, hin, hd, hrel, hbut⟩ := hrel
    obtain ⟨wo, rfl⟩ : ∃ wo : World, wo = wr := ⟨_, rfl⟩
    have hrel' := hrel
    clear hrel
    by_cases hib : i < b
    · have lib : (i : Int) < (b : Int) := by omega
      have wi : IntKind.i64.wrap ((i : Int) + 1) = ((i + 1 : Nat) : Int) := by rw [IntKind.wrap_i64]; omega
      go_wp2
      go_loopw [7] (fun vj wr => ∃ (j : Nat) (e : Array Nat), vj = .int .i64 j ∧ j ≤ i ∧ Srt wr B g n c e ∧ Hid (insInner ltN a j e = insInner ltN a i d) ∧ But [g] w wr) (fun vj _ => (intOf vj).toNat)
      case atStart => exact ⟨i, d, rfl, by omega, hd, Lib.hid rfl, hbut⟩
      case round =>
        clear hd hbut
        obtain ⟨j, e, rfl, hji, he, hin2, hbe⟩ := hrel
        obtain ⟨wo, rfl⟩ : ∃ wo : World, wo = wr := ⟨_, rfl⟩
        have hS0 : Srt wo.drew B g n c e := he.drew
        by_cases hja : a < j
        · obtain ⟨k1, rfl⟩ : ∃ k1, j = k1 + 1 := ⟨j - 1, by omega⟩
          obtain ⟨j2, hj2⟩ : ∃ j2, j2 = k1 + 1 := ⟨_, rfl⟩
          rw [← hj2] at hin2 hja hji ⊢
          have lja : (a : Int) < (j2 : Int) := by omega
          have wj : IntKind.i64.wrap ((j2 : Int) - 1) = (k1 : Int) := by rw [IntKind.wrap_i64]; omega
          have ljn : (j2 : Int) < (n : Int) := by omega
          have lkn : (k1 : Int) < (n : Int) := by omega
          obtain ⟨z, hz⟩ : ∃ z, z = e[j2]! := ⟨_, rfl⟩
          obtain ⟨y, hy⟩ : ∃ y, y = e[k1]! := ⟨_, rfl⟩
          have zz : ∀ w' : World, Srt w' B g n c e → w'.cell? ⟨g, j2, none⟩ = some (.int .u64 (z : Int)) := fun w' h => by rw [hz]; exact h.cell (by omega)
          have zy : ∀ w' : World, Srt w' B g n c e → w'.cell? ⟨g, k1, none⟩ = some (.int .u64 (y : Int)) := fun w' h => by rw [hy]; exact h.cell (by omega)
          have hjk : j2 ≠ k1 := by omega
          have Hj2 := Lib.hid hj2; clear hj2
          have Hz := Lib.hid hz; clear hz
          have Hy := Lib.hid hy; clear hy
          go_upto_region 4 with fail
          refine wp_region_N (fun w' => Srt w' B g n c e) 100 (by kernel_rfl) ?_
          apply wpAnyN_takeL 0 (by kernel_rfl) rfl (fun _ _ _ h => h) (by kernel_rfl) hS0
          · intro w' hS'
            go_simp; exact ⟨rfl, rfl⟩
          (try simp only [Act.put]); (try simp only [List.setIfInBounds_toArray]); (try simp only [List.set])
          apply wpAnyN_takeL 1 (by kernel_rfl) rfl (fun _ _ _ h => h) (by kernel_rfl) hS0
          · intro w' hS'
            go_simp; exact ⟨rfl, rfl⟩
          (try simp only [Act.put]); (try simp only [List.setIfInBounds_toArray]); (try simp only [List.set])
          apply wpAnyN_takeL 2 (by kernel_rfl) rfl (fun _ _ _ h => h) (by kernel_rfl) hS0
          · intro w' hS'
            go_simp; exact ⟨rfl, rfl⟩
          (try simp only [Act.put]); (try simp only [List.setIfInBounds_toArray]); (try simp only [List.set])
          apply wpAnyN_takeL 3 (by kernel_rfl) rfl (fun _ _ _ h => h) (by kernel_rfl) hS0
          · intro w' hS'
            go_simp; exact ⟨rfl, rfl⟩
          (try simp only [Act.put]); (try simp only [List.setIfInBounds_toArray]); (try simp only [List.set])
          apply wpAnyN_takeL 4 (by kernel_rfl) rfl (fun _ _ _ h => h) (by kernel_rfl) hS0
          · intro w' hS'
            go_simp; exact ⟨rfl, rfl⟩
          (try simp only [Act.put]); (try simp only [List.setIfInBounds_toArray]); (try simp only [List.set])
          apply wpAnyN_takeL 5 (by kernel_rfl) rfl (fun _ _ _ h => h) (by kernel_rfl) hS0
          · intro w' hS'
            go_simp; exact ⟨rfl, rfl⟩
          (try simp only [Act.put]); (try simp only [List.setIfInBounds_toArray]); (try simp only [List.set])
          apply wpAnyN_takeL 6 (by kernel_rfl) rfl (fun _ _ _ h => h) (by kernel_rfl) hS0
          · intro w' hS'
            go_simp; exact ⟨rfl, rfl⟩
          (try simp only [Act.put]); (try simp only [List.setIfInBounds_toArray]); (try simp only [List.set])
          apply wpAnyN_takeL 7 (by kernel_rfl) rfl (fun _ _ _ h => h) (by kernel_rfl) hS0
          · intro w' hS'
            go_simp; exact ⟨rfl, rfl⟩
          (try simp only [Act.put]); (try simp only [List.setIfInBounds_toArray]); (try simp only [List.set])
          apply wpAnyN_takeL 8 (by kernel_rfl) rfl (fun _ _ _ h => h) (by kernel_rfl) hS0
          · intro w' hS'
            go_simp; exact ⟨rfl, rfl⟩
          (try simp only [Act.put]); (try simp only [List.setIfInBounds_toArray]); (try simp only [List.set])
          apply wpAnyN_takeL 9 (by kernel_rfl) rfl (fun _ _ _ h => h) (by kernel_rfl) hS0
          · intro w' hS'
            go_simp; exact ⟨rfl, rfl⟩
          (try simp only [Act.put]); (try simp only [List.setIfInBounds_toArray]); (try simp only [List.set])
          apply wpAnyN_takeL 10 (by kernel_rfl) rfl (fun _ _ _ h => h) (by kernel_rfl) hS0
          · intro w' hS'
            go_simp; exact ⟨rfl, rfl⟩
          (try simp only [Act.put]); (try simp only [List.setIfInBounds_toArray]); (try simp only [List.set])
          apply wpAnyN_takeL 11 (by kernel_rfl) rfl (fun _ _ _ h => h) (by kernel_rfl) hS0
          · intro w' hS'
            go_simp; exact ⟨rfl, rfl⟩
          (try simp only [Act.put]); (try simp only [List.setIfInBounds_toArray]); (try simp only [List.set])
          apply wpAnyN_takeL 12 (by kernel_rfl) rfl (fun _ _ _ h => h) (by kernel_rfl) hS0
          · intro w' hS'
            go_simp; exact ⟨rfl, rfl⟩
          (try simp only [Act.put]); (try simp only [List.setIfInBounds_toArray]); (try simp only [List.set])
          apply wpAnyN_takeL 13 (v := (.bool (ltN z y))) (by kernel_rfl) rfl (fun _ _ _ h => h) (by kernel_rfl) hS0
          · intro w' hS'
            (go_simp; exact ⟨rfl, vLessB _ _ _⟩)
          (try simp only [Act.put]); (try simp only [List.setIfInBounds_toArray]); (try simp only [List.set])
          apply wpAnyN_takeL 14 (by kernel_rfl) rfl (fun _ _ _ h => h) (by kernel_rfl) hS0
          · intro w' hS'
            go_simp; exact ⟨rfl, rfl⟩
          (try simp only [Act.put]); (try simp only [List.setIfInBounds_toArray]); (try simp only [List.set])
          refine wpAnyN_done (by kernel_rfl) ?_ _
          cases hlt : ltN z y with
          | true =>
            obtain ⟨wq, hwq⟩ : ∃ wq, wq = wo.drew := ⟨_, rfl⟩
            have hd3 : Srt wq B g n c e := by rw [hwq]; exact hS0
            have hb3 : But [g] w wq := by rw [hwq]; exact hbe.drew
            have cj := zz wq hd3
            have ck := zy wq hd3
            have fj := hd3.frozen j2
            have fk := hd3.frozen k1
            rw [← hwq]
            clear hwq zz zy
            go_upto_region 6 with fail
            go_region
            all_goals go_wp2
            refine ⟨⟨k1, Sort.swp e j2 k1, rfl, by have := Hj2.out; omega, ?_, Lib.hid ?_, ?_⟩, by have := Hj2.out; simp [intOf]; omega⟩
            · rw [Hz.out, Hy.out]; exact hd3.swp.drew
            · rw [← hin2.out]; conv => rhs; rw [Hj2.out, insInner, if_pos (by rw [← Hj2.out, ← Hz.out, ← Hy.out, hlt]; simp [hja])]
              rw [Hj2.out]
            · exact ((hb3.setCell (p := ⟨g, j2, none⟩) (by simp) _).setCell (p := ⟨g, k1, none⟩) (by simp) _).drew
          | false =>
            go_wp2
            refine ⟨⟨i + 1, e, by simp, by omega, by omega, hS0, Lib.hid ?_, hbe.drew⟩, by simp [intOf]; omega⟩
            rw [← hrel'.out]; conv => rhs; rw [insOuter, if_pos hib, ← hin2.out, Hj2.out, insInner, if_neg (by rw [← Hj2.out, ← Hz.out, ← Hy.out, hlt]; simp)]
        · have lja : ¬ (a : Int) < (j : Int) := by omega
          go_upto_region 4 with fail
          refine wp_region_N (fun w' => Srt w' B g n c e) 100 (by kernel_rfl) ?_
          apply wpAnyN_takeL 0 (by kernel_rfl) rfl (fun _ _ _ h => h) (by kernel_rfl) hS0
          · intro w' hS'
            go_simp; exact ⟨rfl, rfl⟩
          (try simp only [Act.put]); (try simp only [List.setIfInBounds_toArray]); (try simp only [List.set])
          apply wpAnyN_takeL 1 (by kernel_rfl) rfl (fun _ _ _ h => h) (by kernel_rfl) hS0
          · intro w' hS'
            go_simp; exact ⟨rfl, rfl⟩
          (try simp only [Act.put]); (try simp only [List.setIfInBounds_toArray]); (try simp only [List.set])
          apply wpAnyN_takeL 2 (by kernel_rfl) rfl (fun _ _ _ h => h) (by kernel_rfl) hS0
          · intro w' hS'
            go_simp; exact ⟨rfl, rfl⟩
          (try simp only [Act.put]); (try simp only [List.setIfInBounds_toArray]); (try simp only [List.set])
          apply wpAnyN_takeL 3 (by kernel_rfl) rfl (fun _ _ _ h => h) (by kernel_rfl) hS0
          · intro w' hS'
            go_simp; exact ⟨rfl, rfl⟩
          (try simp only [Act.put]); (try simp only [List.setIfInBounds_toArray]); (try simp only [List.set])
          refine wpAnyN_skipL 4 (by kernel_rfl) rfl (fun _ _ _ h => h) (by kernel_rfl) hS0 ?_
          (try simp only [Act.put]); (try simp only [List.setIfInBounds_toArray]); (try simp only [List.set])
          refine wpAnyN_skipL 5 (by kernel_rfl) rfl (fun _ _ _ h => h) (by kernel_rfl) hS0 ?_
          (try simp only [Act.put]); (try simp only [List.setIfInBounds_toArray]); (try simp only [List.set])
          refine wpAnyN_skipL 6 (by kernel_rfl) rfl (fun _ _ _ h => h) (by kernel_rfl) hS0 ?_
          (try simp only [Act.put]); (try simp only [List.setIfInBounds_toArray]); (try simp only [List.set])
          refine wpAnyN_skipL 7 (by kernel_rfl) rfl (fun _ _ _ h => h) (by kernel_rfl) hS0 ?_
          (try simp only [Act.put]); (try simp only [List.setIfInBounds_toArray]); (try simp only [List.set])
          refine wpAnyN_skipL 8 (by kernel_rfl) rfl (fun _ _ _ h => h) (by kernel_rfl) hS0 ?_
          (try simp only [Act.put]); (try simp only [List.setIfInBounds_toArray]); (try simp only [List.set])
          refine wpAnyN_skipL 9 (by kernel_rfl) rfl (fun _ _ _ h => h) (by kernel_rfl) hS0 ?_
          (try simp only [Act.put]); (try simp only [List.setIfInBounds_toArray]); (try simp only [List.set])
          refine wpAnyN_skipL 10 (by kernel_rfl) rfl (fun _ _ _ h => h) (by kernel_rfl) hS0 ?_
          (try simp only [Act.put]); (try simp only [List.setIfInBounds_toArray]); (try simp only [List.set])
          refine wpAnyN_skipL 11 (by kernel_rfl) rfl (fun _ _ _ h => h) (by kernel_rfl) hS0 ?_
          (try simp only [Act.put]); (try simp only [List.setIfInBounds_toArray]); (try simp only [List.set])
          refine wpAnyN_skipL 12 (by kernel_rfl) rfl (fun _ _ _ h => h) (by kernel_rfl) hS0 ?_
          (try simp only [Act.put]); (try simp only [List.setIfInBounds_toArray]); (try simp only [List.set])
          refine wpAnyN_skipL 13 (by kernel_rfl) rfl (fun _ _ _ h => h) (by kernel_rfl) hS0 ?_
          (try simp only [Act.put]); (try simp only [List.setIfInBounds_toArray]); (try simp only [List.set])
          apply wpAnyN_takeL 14 (by kernel_rfl) rfl (fun _ _ _ h => h) (by kernel_rfl) hS0
          · intro w' hS'
            go_simp; exact ⟨rfl, rfl⟩
          (try simp only [Act.put]); (try simp only [List.setIfInBounds_toArray]); (try simp only [List.set])
          refine wpAnyN_done (by kernel_rfl) ?_ _
          go_wp2
          refine ⟨⟨i + 1, e, by simp, by omega, by omega, hS0, Lib.hid ?_, hbe.drew⟩, by simp [intOf]; omega⟩
          rw [← hrel'.out]; conv => rhs; rw [insOuter, if_pos hib, ← hin2.out, insInner_le (by omega)]
    · have lib : ¬ (i : Int) < (b : Int) := by omega
      go_wp2
      go_end0
      refine ⟨rfl, ?_, hbut⟩
      rw [← hrel'.out, insOuter, if_neg hib]; exact hd

set_option maxRecDepth 100000 in
set_option maxHeartbeats 32000000 in
theorem vPartIns (d0 : Array Nat) (B g n c a b : Nat) (w : World) (h0 : Srt w B g n c d0) (hab : a < b) (hb : b ≤ n) (hn : n ≤ 140737488355328) :
    Calls Try.prog 48 #[.slice (some ⟨g, 0, none⟩) n c, .int .i64 a, .int .i64 b] w fun e w' => e = .returned (.bool (partialInsertionSort ltN d0 a b).2) ∧ Srt w' B g n c (partialInsertionSort ltN d0 a b).1 ∧ But [g] w w' := by
  have wa : IntKind.i64.wrap ((a : Int) + 1) = ((a + 1 : Nat) : Int) := by rw [IntKind.wrap_i64]; omega
  obtain ⟨ba, hba⟩ : ∃ ba, ba = b - a := ⟨_, rfl⟩
  have wba : IntKind.i64.wrap ((b : Int) - (a : Int)) = (ba : Int) := by rw [IntKind.wrap_i64]; omega
  have Hba := Lib.hid hba; clear hba
  go_enter Try.func48, Try.ntmps48
  go_wp2
  go_loopw [7, 8] (fun vi vt wr => ∃ (t i : Nat) (d : Array Nat), vi = .int .i64 i ∧ vt = .int .i64 t ∧ t ≤ 5 ∧ a < i ∧ i ≤ b ∧ Srt wr B g n c d ∧ Hid (partialIns ltN a b (5 - t) i d = partialInsertionSort ltN d0 a b) ∧ But [g] w wr) (fun _ vt _ => 5 - (intOf vt).toNat)
  case atStart => exact ⟨0, a + 1, d0, by simp, rfl, by omega, by omega, by omega, h0, Lib.hid rfl, But.refl _ _⟩
  case round =>
    obtain ⟨t, i, d, rfl, rfl, ht, hai, hib0, hd, hrel, hbut⟩ := hrel
    obtain ⟨wo, rfl⟩ : ∃ wo : World, wo = wr := ⟨_, rfl⟩
    have hrel' := hrel
    clear hrel
    by_cases ht5 : t < 5
    · have lt5 : (t : Int) < 5 := by omega
      have wt : IntKind.i64.wrap ((t : Int) + 1) = ((t + 1 : Nat) : Int) := by rw [IntKind.wrap_i64]; omega
      go_wp2
      go_loopw [7] (fun vi wr => ∃ (i1 : Nat), vi = .int .i64 i1 ∧ i ≤ i1 ∧ i1 ≤ b ∧ Srt wr B g n c d ∧ Hid (scanSorted ltN d b i1 = scanSorted ltN d b i) ∧ But [g] w wr) (fun vi _ => b - (intOf vi).toNat)
      case atStart => exact ⟨i, rfl, by omega, by omega, hd, Lib.hid rfl, hbut⟩
      case round =>
        clear hd hbut
        obtain ⟨i1, rfl, hi1, hi1b, hd, hsc, hbut⟩ := hrel
        obtain ⟨wo, rfl⟩ : ∃ wo : World, wo = wr := ⟨_, rfl⟩
        have hS0 : Srt wo.drew B g n c d := hd.drew
        by_cases hlb : i1 < b
        · have lib : (i1 : Int) < (b : Int) := by omega
          have lin : (i1 : Int) < (n : Int) := by omega
          have wi : IntKind.i64.wrap ((i1 : Int) + 1) = ((i1 + 1 : Nat) : Int) := by rw [IntKind.wrap_i64]; omega
          obtain ⟨k0, hk0⟩ : ∃ k0, k0 = i1 - 1 := ⟨_, rfl⟩
          have wk : IntKind.i64.wrap ((i1 : Int) - 1) = (k0 : Int) := by rw [IntKind.wrap_i64]; omega
          have lkn : (k0 : Int) < (n : Int) := by omega
          obtain ⟨x, hx⟩ : ∃ x, x = d[i1]! := ⟨_, rfl⟩
          obtain ⟨y, hy⟩ : ∃ y, y = d[k0]! := ⟨_, rfl⟩
          have zx : ∀ w' : World, Srt w' B g n c d → w'.cell? ⟨g, i1, none⟩ = some (.int .u64 (x : Int)) := fun w' h => by rw [hx]; exact h.cell (by omega)
          have zy : ∀ w' : World, Srt w' B g n c d → w'.cell? ⟨g, k0, none⟩ = some (.int .u64 (y : Int)) := fun w' h => by rw [hy]; exact h.cell (by omega)
          have hik : i1 ≠ k0 := by omega
          have Hk0 := Lib.hid hk0; clear hk0
          have Hx := Lib.hid hx; clear hx
          have Hy := Lib.hid hy; clear hy
          go_upto_region 5 with fail
          refine wp_region_N (fun w' => Srt w' B g n c d) 100 (by kernel_rfl) ?_
          apply wpAnyN_takeL 0 (by kernel_rfl) rfl (fun _ _ _ h => h) (by kernel_rfl) hS0
          · intro w' hS'
            go_simp; exact ⟨rfl, rfl⟩
          (try simp only [Act.put]); (try simp only [List.setIfInBounds_toArray]); (try simp only [List.set])
          apply wpAnyN_takeL 1 (by kernel_rfl) rfl (fun _ _ _ h => h) (by kernel_rfl) hS0
          · intro w' hS'
            go_simp; exact ⟨rfl, rfl⟩
          (try simp only [Act.put]); (try simp only [List.setIfInBounds_toArray]); (try simp only [List.set])
          apply wpAnyN_takeL 2 (by kernel_rfl) rfl (fun _ _ _ h => h) (by kernel_rfl) hS0
          · intro w' hS'
            go_simp; exact ⟨rfl, rfl⟩
          (try simp only [Act.put]); (try simp only [List.setIfInBounds_toArray]); (try simp only [List.set])
          apply wpAnyN_takeL 3 (by kernel_rfl) rfl (fun _ _ _ h => h) (by kernel_rfl) hS0
          · intro w' hS'
            go_simp; exact ⟨rfl, rfl⟩
          (try simp only [Act.put]); (try simp only [List.setIfInBounds_toArray]); (try simp only [List.set])
          apply wpAnyN_takeL 4 (by kernel_rfl) rfl (fun _ _ _ h => h) (by kernel_rfl) hS0
          · intro w' hS'
            go_simp; exact ⟨rfl, rfl⟩
          (try simp only [Act.put]); (try simp only [List.setIfInBounds_toArray]); (try simp only [List.set])
          apply wpAnyN_takeL 5 (by kernel_rfl) rfl (fun _ _ _ h => h) (by kernel_rfl) hS0
          · intro w' hS'
            go_simp; exact ⟨rfl, rfl⟩
          (try simp only [Act.put]); (try simp only [List.setIfInBounds_toArray]); (try simp only [List.set])
          apply wpAnyN_takeL 6 (by kernel_rfl) rfl (fun _ _ _ h => h) (by kernel_rfl) hS0
          · intro w' hS'
            go_simp; exact ⟨rfl, rfl⟩
          (try simp only [Act.put]); (try simp only [List.setIfInBounds_toArray]); (try simp only [List.set])
          apply wpAnyN_takeL 7 (by kernel_rfl) rfl (fun _ _ _ h => h) (by kernel_rfl) hS0
          · intro w' hS'
            go_simp; exact ⟨rfl, rfl⟩
          (try simp only [Act.put]); (try simp only [List.setIfInBounds_toArray]); (try simp only [List.set])
          apply wpAnyN_takeL 8 (by kernel_rfl) rfl (fun _ _ _ h => h) (by kernel_rfl) hS0
          · intro w' hS'
            go_simp; exact ⟨rfl, rfl⟩
          (try simp only [Act.put]); (try simp only [List.setIfInBounds_toArray]); (try simp only [List.set])
          apply wpAnyN_takeL 9 (by kernel_rfl) rfl (fun _ _ _ h => h) (by kernel_rfl) hS0
          · intro w' hS'
            go_simp; exact ⟨rfl, rfl⟩
          (try simp only [Act.put]); (try simp only [List.setIfInBounds_toArray]); (try simp only [List.set])
          apply wpAnyN_takeL 10 (by kernel_rfl) rfl (fun _ _ _ h => h) (by kernel_rfl) hS0
          · intro w' hS'
            go_simp; exact ⟨rfl, rfl⟩
          (try simp only [Act.put]); (try simp only [List.setIfInBounds_toArray]); (try simp only [List.set])
          apply wpAnyN_takeL 11 (by kernel_rfl) rfl (fun _ _ _ h => h) (by kernel_rfl) hS0
          · intro w' hS'
            go_simp; exact ⟨rfl, rfl⟩
          (try simp only [Act.put]); (try simp only [List.setIfInBounds_toArray]); (try simp only [List.set])
          apply wpAnyN_takeL 12 (by kernel_rfl) rfl (fun _ _ _ h => h) (by kernel_rfl) hS0
          · intro w' hS'
            go_simp; exact ⟨rfl, rfl⟩
          (try simp only [Act.put]); (try simp only [List.setIfInBounds_toArray]); (try simp only [List.set])
          apply wpAnyN_takeL 13 (v := (.bool (ltN x y))) (by kernel_rfl) rfl (fun _ _ _ h => h) (by kernel_rfl) hS0
          · intro w' hS'
            (go_simp; exact ⟨rfl, vLessB _ _ _⟩)
          (try simp only [Act.put]); (try simp only [List.setIfInBounds_toArray]); (try simp only [List.set])
          apply wpAnyN_takeL 14 (by kernel_rfl) rfl (fun _ _ _ h => h) (by kernel_rfl) hS0
          · intro w' hS'
            go_simp; exact ⟨rfl, rfl⟩
          (try simp only [Act.put]); (try simp only [List.setIfInBounds_toArray]); (try simp only [List.set])
          apply wpAnyN_takeL 15 (by kernel_rfl) rfl (fun _ _ _ h => h) (by kernel_rfl) hS0
          · intro w' hS'
            go_simp; exact ⟨rfl, rfl⟩
          (try simp only [Act.put]); (try simp only [List.setIfInBounds_toArray]); (try simp only [List.set])
          refine wpAnyN_done (by kernel_rfl) ?_ _
          cases hlt : ltN x y with
          | false =>
            go_wp2
            refine ⟨⟨i1 + 1, by simp, by omega, by omega, hS0, Lib.hid ?_, hbut.drew⟩, by simp [intOf]; omega⟩
            rw [← hsc.out]; conv => rhs; rw [scanSorted, if_pos (by rw [← Hx.out, ← Hk0.out, ← Hy.out, hlt]; simp [hlb])]
          | true =>
            have hsc2 : scanSorted ltN d b i = i1 := by rw [← hsc.out, scanSorted, if_neg (by rw [← Hx.out, ← Hk0.out, ← Hy.out, hlt]; simp)]
            have Hsc := Lib.hid hsc2; clear hsc2
            have hib : i1 ≠ b := by omega
            have lib2 : ¬ (i1 : Int) = (b : Int) := by omega
            by_cases hsh : b - a < 50
            · have lsh : (ba : Int) < 50 := by rw [Hba.out]; omega
              have hres : partialInsertionSort ltN d0 a b = (d, false) := by rw [← hrel'.out, show 5 - t = (5 - (t + 1)) + 1 by omega]; exact pi_short Hsc.out hib hsh
              have Hres := Lib.hid hres; clear hres
              go_wp2
              go_ret
              refine ⟨by rw [Hres.out]; rfl, by rw [Hres.out]; exact hS0, hbut.drew⟩
            · have lsh : ¬ (ba : Int) < 50 := by rw [Hba.out]; omega
              obtain ⟨wq, hwq⟩ : ∃ wq, wq = wo.drew := ⟨_, rfl⟩
              have hd3 : Srt wq B g n c d := by rw [hwq]; exact hS0
              have hb3 : But [g] w wq := by rw [hwq]; exact hbut.drew
              have ci := zx wq hd3
              have ck := zy wq hd3
              have fi := hd3.frozen i1
              have fk := hd3.frozen k0
              rw [← hwq]
              clear hwq zx zy
              obtain ⟨ia, hia⟩ : ∃ ia, ia = i1 - a := ⟨_, rfl⟩
              obtain ⟨bi, hbi⟩ : ∃ bi, bi = b - i1 := ⟨_, rfl⟩
              have wia : IntKind.i64.wrap ((i1 : Int) - (a : Int)) = (ia : Int) := by rw [IntKind.wrap_i64]; omega
              have wbi : IntKind.i64.wrap ((b : Int) - (i1 : Int)) = (bi : Int) := by rw [IntKind.wrap_i64]; omega
              have Hia := Lib.hid hia; clear hia
              have Hbi := Lib.hid hbi; clear hbi
              obtain ⟨d2, hd2e⟩ : ∃ d2, d2 = Sort.swp d i1 (i1 - 1) := ⟨_, rfl⟩
              obtain ⟨wS, hwS⟩ : ∃ wS, wS = ((wq.setCell ⟨g, i1, none⟩ (.int .u64 (y : Int))).setCell ⟨g, k0, none⟩ (.int .u64 (x : Int))).drew := ⟨_, rfl⟩
              have hd2 : Srt wS B g n c d2 := by rw [hwS, hd2e, ← Hk0.out, Hx.out, Hy.out]; exact hd3.swp.drew
              have hb2 : But [g] w wS := by rw [hwS]; exact ((hb3.setCell (p := ⟨g, i1, none⟩) (by simp) _).setCell (p := ⟨g, k0, none⟩) (by simp) _).drew
              have HwS := Lib.hid hwS; clear hwS
              have Hd2e := Lib.hid hd2e; clear hd2e
              go_upto_region 11 with fail
              go_region
              all_goals (go_upto_region 12 with fail)
              rw [← HwS.out]
              clear hd3 hb3 ci ck fi fk hS0 hd hbut HwS lib lin lkn hlb
              by_cases hia : 2 ≤ i1 - a
              · have lia : (2 : Int) ≤ (ia : Int) := by rw [Hia.out]; omega
                go_wp2
                go_loopw [9] (fun vj wr => ∃ (j1 : Nat) (e : Array Nat), vj = .int .i64 j1 ∧ j1 < b ∧ Srt wr B g n c e ∧ Hid (shiftDown ltN j1 e = shiftDown ltN (i1 - 1) d2) ∧ But [g] w wr) (fun vj _ => (intOf vj).toNat)
                case atStart => exact ⟨i1 - 1, d2, by rw [← Hk0.out], by omega, hd2, Lib.hid rfl, hb2⟩
                case round =>
                  clear hd2 hb2
                  obtain ⟨j1, e, rfl, hj1b, he, hsd, hbe⟩ := hrel
                  obtain ⟨wo, rfl⟩ : ∃ wo : World, wo = wr := ⟨_, rfl⟩
                  cases j1 with
                  | zero =>
                    have lj1 : ¬ (1 : Int) ≤ ((0 : Nat) : Int) := by omega
                    obtain ⟨dd, hdd⟩ : ∃ dd, dd = e := ⟨_, rfl⟩
                    have hdd2 : dd = (if i1 - a ≥ 2 then shiftDown ltN (i1 - 1) d2 else d2) := by rw [if_pos hia, ← hsd.out, hdd]; rfl
                    have hdu : Srt wo B g n c dd := by rw [hdd]; exact he
                    have hbu := hbe
                    clear hdd he hbe
                    have Hdd := Lib.hid hdd2; clear hdd2
                    by_cases hbi : 2 ≤ b - i1
                    · have lbi : (2 : Int) ≤ ((b - i1 : Nat) : Int) := by omega
                      have lbi' : (2 : Int) ≤ (bi : Int) := by rw [Hbi.out]; exact lbi
                      go_wp2
                      go_loopw [10] (fun vj wr => ∃ (j1 : Nat) (e : Array Nat), vj = .int .i64 j1 ∧ i1 + 1 ≤ j1 ∧ j1 ≤ b ∧ Srt wr B g n c e ∧ Hid (shiftUp ltN b j1 e = shiftUp ltN b (i1 + 1) dd) ∧ But [g] w wr) (fun vj _ => b - (intOf vj).toNat)
                      case atStart => exact ⟨i1 + 1, dd, by simp, by omega, by omega, hdu, Lib.hid rfl, hbu⟩
                      case round =>
                        clear hdu hbu
                        obtain ⟨j1, e, rfl, hj1, hj1b, he, hsu, hbe⟩ := hrel
                        obtain ⟨wo, rfl⟩ : ∃ wo : World, wo = wr := ⟨_, rfl⟩
                        by_cases hjb : j1 < b
                        · have ljb : (j1 : Int) < (b : Int) := by omega
                          have ljn : (j1 : Int) < (n : Int) := by omega
                          obtain ⟨k1, hk1⟩ : ∃ k1, k1 = j1 - 1 := ⟨_, rfl⟩
                          have wj : IntKind.i64.wrap ((j1 : Int) - 1) = (k1 : Int) := by rw [IntKind.wrap_i64]; omega
                          have wj2 : IntKind.i64.wrap ((j1 : Int) + 1) = ((j1 + 1 : Nat) : Int) := by rw [IntKind.wrap_i64]; omega
                          have lkn : (k1 : Int) < (n : Int) := by omega
                          obtain ⟨z, hz⟩ : ∃ z, z = e[j1]! := ⟨_, rfl⟩
                          obtain ⟨y, hy⟩ : ∃ y, y = e[k1]! := ⟨_, rfl⟩
                          have zz : ∀ w' : World, Srt w' B g n c e → w'.cell? ⟨g, j1, none⟩ = some (.int .u64 (z : Int)) := fun w' h => by rw [hz]; exact h.cell (by omega)
                          have zy : ∀ w' : World, Srt w' B g n c e → w'.cell? ⟨g, k1, none⟩ = some (.int .u64 (y : Int)) := fun w' h => by rw [hy]; exact h.cell (by omega)
                          have hS0 : Srt wo.drew B g n c e := he.drew
                          have hjk : j1 ≠ k1 := by omega
                          have Hk1 := Lib.hid hk1; clear hk1
                          have Hz := Lib.hid hz; clear hz
                          have Hy := Lib.hid hy; clear hy
                          go_upto_region 22 with fail
                          refine wp_region_N (fun w' => Srt w' B g n c e) 100 (by kernel_rfl) ?_
                          apply wpAnyN_takeL 0 (by kernel_rfl) rfl (fun _ _ _ h => h) (by kernel_rfl) hS0
                          · intro w' hS'
                            go_simp; exact ⟨rfl, rfl⟩
                          (try simp only [Act.put]); (try simp only [List.setIfInBounds_toArray]); (try simp only [List.set])
                          apply wpAnyN_takeL 1 (by kernel_rfl) rfl (fun _ _ _ h => h) (by kernel_rfl) hS0
                          · intro w' hS'
                            go_simp; exact ⟨rfl, rfl⟩
                          (try simp only [Act.put]); (try simp only [List.setIfInBounds_toArray]); (try simp only [List.set])
                          apply wpAnyN_takeL 2 (by kernel_rfl) rfl (fun _ _ _ h => h) (by kernel_rfl) hS0
                          · intro w' hS'
                            go_simp; exact ⟨rfl, rfl⟩
                          (try simp only [Act.put]); (try simp only [List.setIfInBounds_toArray]); (try simp only [List.set])
                          apply wpAnyN_takeL 3 (by kernel_rfl) rfl (fun _ _ _ h => h) (by kernel_rfl) hS0
                          · intro w' hS'
                            go_simp; exact ⟨rfl, rfl⟩
                          (try simp only [Act.put]); (try simp only [List.setIfInBounds_toArray]); (try simp only [List.set])
                          apply wpAnyN_takeL 4 (by kernel_rfl) rfl (fun _ _ _ h => h) (by kernel_rfl) hS0
                          · intro w' hS'
                            go_simp; exact ⟨rfl, rfl⟩
                          (try simp only [Act.put]); (try simp only [List.setIfInBounds_toArray]); (try simp only [List.set])
                          apply wpAnyN_takeL 5 (by kernel_rfl) rfl (fun _ _ _ h => h) (by kernel_rfl) hS0
                          · intro w' hS'
                            go_simp; exact ⟨rfl, rfl⟩
                          (try simp only [Act.put]); (try simp only [List.setIfInBounds_toArray]); (try simp only [List.set])
                          apply wpAnyN_takeL 6 (by kernel_rfl) rfl (fun _ _ _ h => h) (by kernel_rfl) hS0
                          · intro w' hS'
                            go_simp; exact ⟨rfl, rfl⟩
                          (try simp only [Act.put]); (try simp only [List.setIfInBounds_toArray]); (try simp only [List.set])
                          apply wpAnyN_takeL 7 (by kernel_rfl) rfl (fun _ _ _ h => h) (by kernel_rfl) hS0
                          · intro w' hS'
                            go_simp; exact ⟨rfl, rfl⟩
                          (try simp only [Act.put]); (try simp only [List.setIfInBounds_toArray]); (try simp only [List.set])
                          apply wpAnyN_takeL 8 (by kernel_rfl) rfl (fun _ _ _ h => h) (by kernel_rfl) hS0
                          · intro w' hS'
                            go_simp; exact ⟨rfl, rfl⟩
                          (try simp only [Act.put]); (try simp only [List.setIfInBounds_toArray]); (try simp only [List.set])
                          apply wpAnyN_takeL 9 (v := (.bool (ltN z y))) (by kernel_rfl) rfl (fun _ _ _ h => h) (by kernel_rfl) hS0
                          · intro w' hS'
                            (go_simp; exact ⟨rfl, vLessB _ _ _⟩)
                          (try simp only [Act.put]); (try simp only [List.setIfInBounds_toArray]); (try simp only [List.set])
                          apply wpAnyN_takeL 10 (by kernel_rfl) rfl (fun _ _ _ h => h) (by kernel_rfl) hS0
                          · intro w' hS'
                            go_simp; exact ⟨rfl, rfl⟩
                          (try simp only [Act.put]); (try simp only [List.setIfInBounds_toArray]); (try simp only [List.set])
                          refine wpAnyN_done (by kernel_rfl) ?_ _
                          cases hlt : ltN z y with
                          | false =>
                            have hsu2 : shiftUp ltN b (i1 + 1) dd = e := by rw [← hsu.out, shiftUp, if_pos hjb, if_pos (by rw [← Hz.out, ← Hk1.out, ← Hy.out, hlt]; rfl)]
                            have Hsu2 := Lib.hid hsu2; clear hsu2
                            go_wp2
                            refine ⟨⟨t + 1, i1, e, by simp, by simp, by omega, by omega, by omega, hS0, Lib.hid ?_, hbe.drew⟩, by simp [intOf]; omega⟩
                            rw [← hrel'.out, show 5 - t = (5 - (t + 1)) + 1 by omega, pi_step Hsc.out hib hsh, ← Hd2e.out]
                            rw [if_pos (show b - i1 ≥ 2 from hbi), ← Hdd.out, Hsu2.out]
                          | true =>
                            obtain ⟨wq, hwq⟩ : ∃ wq, wq = wo.drew := ⟨_, rfl⟩
                            have hd3 : Srt wq B g n c e := by rw [hwq]; exact hS0
                            have hb3 : But [g] w wq := by rw [hwq]; exact hbe.drew
                            have cj := zz wq hd3
                            have ck := zy wq hd3
                            have fj := hd3.frozen j1
                            have fk := hd3.frozen k1
                            rw [← hwq]
                            clear hwq zz zy
                            go_upto_region 23 with fail
                            go_region
                            all_goals go_wp2
                            refine ⟨⟨j1 + 1, Sort.swp e j1 k1, by simp, by omega, by omega, ?_, Lib.hid ?_, ?_⟩, by simp [intOf]; omega⟩
                            · rw [Hz.out, Hy.out]; exact hd3.swp.drew
                            · rw [← hsu.out]; conv => rhs; rw [shiftUp, if_pos hjb, if_neg (by rw [← Hz.out, ← Hk1.out, ← Hy.out, hlt]; simp)]
                              rw [Hk1.out]
                            · exact ((hb3.setCell (p := ⟨g, j1, none⟩) (by simp) _).setCell (p := ⟨g, k1, none⟩) (by simp) _).drew
                        · have ljb : ¬ (j1 : Int) < (b : Int) := by omega
                          have hsu2 : shiftUp ltN b (i1 + 1) dd = e := by rw [← hsu.out, shiftUp, if_neg hjb]
                          have Hsu2 := Lib.hid hsu2; clear hsu2
                          go_wp2
                          refine ⟨⟨t + 1, i1, e, by simp, by simp, by omega, by omega, by omega, he, Lib.hid ?_, hbe⟩, by simp [intOf]; omega⟩
                          rw [← hrel'.out, show 5 - t = (5 - (t + 1)) + 1 by omega, pi_step Hsc.out hib hsh, ← Hd2e.out]
                          rw [if_pos (show b - i1 ≥ 2 from hbi), ← Hdd.out, Hsu2.out]
                    · have lbi : ¬ (2 : Int) ≤ ((b - i1 : Nat) : Int) := by omega
                      have lbi' : ¬ (2 : Int) ≤ (bi : Int) := by rw [Hbi.out]; exact lbi
                      go_wp2
                      refine ⟨⟨t + 1, i1, dd, by simp, by simp, by omega, by omega, by omega, hdu, Lib.hid ?_, hbu⟩, by simp [intOf]; omega⟩
                      rw [← hrel'.out, show 5 - t = (5 - (t + 1)) + 1 by omega, pi_step Hsc.out hib hsh, ← Hd2e.out]
                      rw [if_neg (show ¬ b - i1 ≥ 2 from hbi), ← Hdd.out]
                  | succ k1 =>
                    have lj1 : (1 : Int) ≤ ((k1 + 1 : Nat) : Int) := by omega
                    obtain ⟨j2, hj2⟩ : ∃ j2, j2 = k1 + 1 := ⟨_, rfl⟩
                    rw [← hj2] at lj1 hj1b hsd ⊢
                    have wj : IntKind.i64.wrap ((j2 : Int) - 1) = (k1 : Int) := by rw [IntKind.wrap_i64]; omega
                    have ljn : (j2 : Int) < (n : Int) := by omega
                    have lkn : (k1 : Int) < (n : Int) := by omega
                    obtain ⟨z, hz⟩ : ∃ z, z = e[j2]! := ⟨_, rfl⟩
                    obtain ⟨y, hy⟩ : ∃ y, y = e[k1]! := ⟨_, rfl⟩
                    have zz : ∀ w' : World, Srt w' B g n c e → w'.cell? ⟨g, j2, none⟩ = some (.int .u64 (z : Int)) := fun w' h => by rw [hz]; exact h.cell (by omega)
                    have zy : ∀ w' : World, Srt w' B g n c e → w'.cell? ⟨g, k1, none⟩ = some (.int .u64 (y : Int)) := fun w' h => by rw [hy]; exact h.cell (by omega)
                    have hS0 : Srt wo.drew B g n c e := he.drew
                    have hjk : j2 ≠ k1 := by omega
                    have Hj2 := Lib.hid hj2; clear hj2
                    have Hz := Lib.hid hz; clear hz
                    have Hy := Lib.hid hy; clear hy
                    go_upto_region 16 with fail
                    refine wp_region_N (fun w' => Srt w' B g n c e) 100 (by kernel_rfl) ?_
                    apply wpAnyN_takeL 0 (by kernel_rfl) rfl (fun _ _ _ h => h) (by kernel_rfl) hS0
                    · intro w' hS'
                      go_simp; exact ⟨rfl, rfl⟩
                    (try simp only [Act.put]); (try simp only [List.setIfInBounds_toArray]); (try simp only [List.set])
                    apply wpAnyN_takeL 1 (by kernel_rfl) rfl (fun _ _ _ h => h) (by kernel_rfl) hS0
                    · intro w' hS'
                      go_simp; exact ⟨rfl, rfl⟩
                    (try simp only [Act.put]); (try simp only [List.setIfInBounds_toArray]); (try simp only [List.set])
                    apply wpAnyN_takeL 2 (by kernel_rfl) rfl (fun _ _ _ h => h) (by kernel_rfl) hS0
                    · intro w' hS'
                      go_simp; exact ⟨rfl, rfl⟩
                    (try simp only [Act.put]); (try simp only [List.setIfInBounds_toArray]); (try simp only [List.set])
                    apply wpAnyN_takeL 3 (by kernel_rfl) rfl (fun _ _ _ h => h) (by kernel_rfl) hS0
                    · intro w' hS'
                      go_simp; exact ⟨rfl, rfl⟩
                    (try simp only [Act.put]); (try simp only [List.setIfInBounds_toArray]); (try simp only [List.set])
                    apply wpAnyN_takeL 4 (by kernel_rfl) rfl (fun _ _ _ h => h) (by kernel_rfl) hS0
                    · intro w' hS'
                      go_simp; exact ⟨rfl, rfl⟩
                    (try simp only [Act.put]); (try simp only [List.setIfInBounds_toArray]); (try simp only [List.set])
                    apply wpAnyN_takeL 5 (by kernel_rfl) rfl (fun _ _ _ h => h) (by kernel_rfl) hS0
                    · intro w' hS'
                      go_simp; exact ⟨rfl, rfl⟩
                    (try simp only [Act.put]); (try simp only [List.setIfInBounds_toArray]); (try simp only [List.set])
                    apply wpAnyN_takeL 6 (by kernel_rfl) rfl (fun _ _ _ h => h) (by kernel_rfl) hS0
                    · intro w' hS'
                      go_simp; exact ⟨rfl, rfl⟩
                    (try simp only [Act.put]); (try simp only [List.setIfInBounds_toArray]); (try simp only [List.set])
                    apply wpAnyN_takeL 7 (by kernel_rfl) rfl (fun _ _ _ h => h) (by kernel_rfl) hS0
                    · intro w' hS'
                      go_simp; exact ⟨rfl, rfl⟩
                    (try simp only [Act.put]); (try simp only [List.setIfInBounds_toArray]); (try simp only [List.set])
                    apply wpAnyN_takeL 8 (by kernel_rfl) rfl (fun _ _ _ h => h) (by kernel_rfl) hS0
                    · intro w' hS'
                      go_simp; exact ⟨rfl, rfl⟩
                    (try simp only [Act.put]); (try simp only [List.setIfInBounds_toArray]); (try simp only [List.set])
                    apply wpAnyN_takeL 9 (v := (.bool (ltN z y))) (by kernel_rfl) rfl (fun _ _ _ h => h) (by kernel_rfl) hS0
                    · intro w' hS'
                      (go_simp; exact ⟨rfl, vLessB _ _ _⟩)
                    (try simp only [Act.put]); (try simp only [List.setIfInBounds_toArray]); (try simp only [List.set])
                    apply wpAnyN_takeL 10 (by kernel_rfl) rfl (fun _ _ _ h => h) (by kernel_rfl) hS0
                    · intro w' hS'
                      go_simp; exact ⟨rfl, rfl⟩
                    (try simp only [Act.put]); (try simp only [List.setIfInBounds_toArray]); (try simp only [List.set])
                    refine wpAnyN_done (by kernel_rfl) ?_ _
                    cases hlt : ltN z y with
                    | false =>
                      obtain ⟨dd, hdd⟩ : ∃ dd, dd = e := ⟨_, rfl⟩
                      have hdd2 : dd = (if i1 - a ≥ 2 then shiftDown ltN (i1 - 1) d2 else d2) := by
                        rw [if_pos hia, ← hsd.out, hdd, Hj2.out, shiftDown, if_pos (by rw [← Hj2.out, ← Hz.out, ← Hy.out, hlt]; rfl)]
                      have hdu : Srt wo.drew B g n c dd := by rw [hdd]; exact hS0
                      have hbu : But [g] w wo.drew := hbe.drew
                      clear hdd he hbe hS0 zz zy lkn ljn wj lj1
                      have Hdd := Lib.hid hdd2; clear hdd2
                      by_cases hbi : 2 ≤ b - i1
                      · have lbi : (2 : Int) ≤ ((b - i1 : Nat) : Int) := by omega
                        have lbi' : (2 : Int) ≤ (bi : Int) := by rw [Hbi.out]; exact lbi
                        go_wp2
                        go_loopw [10] (fun vj wr => ∃ (j1 : Nat) (e : Array Nat), vj = .int .i64 j1 ∧ i1 + 1 ≤ j1 ∧ j1 ≤ b ∧ Srt wr B g n c e ∧ Hid (shiftUp ltN b j1 e = shiftUp ltN b (i1 + 1) dd) ∧ But [g] w wr) (fun vj _ => b - (intOf vj).toNat)
                        case atStart => exact ⟨i1 + 1, dd, by simp, by omega, by omega, hdu, Lib.hid rfl, hbu⟩
                        case round =>
                          clear hdu hbu
                          obtain ⟨j1, e, rfl, hj1, hj1b, he, hsu, hbe⟩ := hrel
                          obtain ⟨wo, rfl⟩ : ∃ wo : World, wo = wr := ⟨_, rfl⟩
                          by_cases hjb : j1 < b
                          · have ljb : (j1 : Int) < (b : Int) := by omega
                            have ljn : (j1 : Int) < (n : Int) := by omega
                            obtain ⟨k1, hk1⟩ : ∃ k1, k1 = j1 - 1 := ⟨_, rfl⟩
                            have wj : IntKind.i64.wrap ((j1 : Int) - 1) = (k1 : Int) := by rw [IntKind.wrap_i64]; omega
                            have wj2 : IntKind.i64.wrap ((j1 : Int) + 1) = ((j1 + 1 : Nat) : Int) := by rw [IntKind.wrap_i64]; omega
                            have lkn : (k1 : Int) < (n : Int) := by omega
                            obtain ⟨z, hz⟩ : ∃ z, z = e[j1]! := ⟨_, rfl⟩
                            obtain ⟨y, hy⟩ : ∃ y, y = e[k1]! := ⟨_, rfl⟩
                            have zz : ∀ w' : World, Srt w' B g n c e → w'.cell? ⟨g, j1, none⟩ = some (.int .u64 (z : Int)) := fun w' h => by rw [hz]; exact h.cell (by omega)
                            have zy : ∀ w' : World, Srt w' B g n c e → w'.cell? ⟨g, k1, none⟩ = some (.int .u64 (y : Int)) := fun w' h => by rw [hy]; exact h.cell (by omega)
                            have hS0 : Srt wo.drew B g n c e := he.drew
                            have hjk : j1 ≠ k1 := by omega
                            have Hk1 := Lib.hid hk1; clear hk1
                            have Hz := Lib.hid hz; clear hz
                            have Hy := Lib.hid hy; clear hy
                            go_upto_region 22 with fail
                            refine wp_region_N (fun w' => Srt w' B g n c e) 100 (by kernel_rfl) ?_
                            apply wpAnyN_takeL 0 (by kernel_rfl) rfl (fun _ _ _ h => h) (by kernel_rfl) hS0
                            · intro w' hS'
                              go_simp; exact ⟨rfl, rfl⟩
                            (try simp only [Act.put]); (try simp only [List.setIfInBounds_toArray]); (try simp only [List.set])
                            apply wpAnyN_takeL 1 (by kernel_rfl) rfl (fun _ _ _ h => h) (by kernel_rfl) hS0
                            · intro w' hS'
                              go_simp; exact ⟨rfl, rfl⟩
                            (try simp only [Act.put]); (try simp only [List.setIfInBounds_toArray]); (try simp only [List.set])
                            apply wpAnyN_takeL 2 (by kernel_rfl) rfl (fun _ _ _ h => h) (by kernel_rfl) hS0
                            · intro w' hS'
                              go_simp; exact ⟨rfl, rfl⟩
                            (try simp only [Act.put]); (try simp only [List.setIfInBounds_toArray]); (try simp only [List.set])
                            apply wpAnyN_takeL 3 (by kernel_rfl) rfl (fun _ _ _ h => h) (by kernel_rfl) hS0
                            · intro w' hS'
                              go_simp; exact ⟨rfl, rfl⟩
                            (try simp only [Act.put]); (try simp only [List.setIfInBounds_toArray]); (try simp only [List.set])
                            apply wpAnyN_takeL 4 (by kernel_rfl) rfl (fun _ _ _ h => h) (by kernel_rfl) hS0
                            · intro w' hS'
                              go_simp; exact ⟨rfl, rfl⟩
                            (try simp only [Act.put]); (try simp only [List.setIfInBounds_toArray]); (try simp only [List.set])
                            apply wpAnyN_takeL 5 (by kernel_rfl) rfl (fun _ _ _ h => h) (by kernel_rfl) hS0
                            · intro w' hS'
                              go_simp; exact ⟨rfl, rfl⟩
                            (try simp only [Act.put]); (try simp only [List.setIfInBounds_toArray]); (try simp only [List.set])
                            apply wpAnyN_takeL 6 (by kernel_rfl) rfl (fun _ _ _ h => h) (by kernel_rfl) hS0
                            · intro w' hS'
                              go_simp; exact ⟨rfl, rfl⟩
                            (try simp only [Act.put]); (try simp only [List.setIfInBounds_toArray]); (try simp only [List.set])
                            apply wpAnyN_takeL 7 (by kernel_rfl) rfl (fun _ _ _ h => h) (by kernel_rfl) hS0
                            · intro w' hS'
                              go_simp; exact ⟨rfl, rfl⟩
                            (try simp only [Act.put]); (try simp only [List.setIfInBounds_toArray]); (try simp only [List.set])
                            apply wpAnyN_takeL 8 (by kernel_rfl) rfl (fun _ _ _ h => h) (by kernel_rfl) hS0
                            · intro w' hS'
                              go_simp; exact ⟨rfl, rfl⟩
                            (try simp only [Act.put]); (try simp only [List.setIfInBounds_toArray]); (try simp only [List.set])
                            apply wpAnyN_takeL 9 (v := (.bool (ltN z y))) (by kernel_rfl) rfl (fun _ _ _ h => h) (by kernel_rfl) hS0
                            · intro w' hS'
                              (go_simp; exact ⟨rfl, vLessB _ _ _⟩)
                            (try simp only [Act.put]); (try simp only [List.setIfInBounds_toArray]); (try simp only [List.set])
                            apply wpAnyN_takeL 10 (by kernel_rfl) rfl (fun _ _ _ h => h) (by kernel_rfl) hS0
                            · intro w' hS'
                              go_simp; exact ⟨rfl, rfl⟩
                            (try simp only [Act.put]); (try simp only [List.setIfInBounds_toArray]); (try simp only [List.set])
                            refine wpAnyN_done (by kernel_rfl) ?_ _
                            cases hlt : ltN z y with
                            | false =>
                              have hsu2 : shiftUp ltN b (i1 + 1) dd = e := by rw [← hsu.out, shiftUp, if_pos hjb, if_pos (by rw [← Hz.out, ← Hk1.out, ← Hy.out, hlt]; rfl)]
                              have Hsu2 := Lib.hid hsu2; clear hsu2
                              go_wp2
                              refine ⟨⟨t + 1, i1, e, by simp, by simp, by omega, by omega, by omega, hS0, Lib.hid ?_, hbe.drew⟩, by simp [intOf]; omega⟩
                              rw [← hrel'.out, show 5 - t = (5 - (t + 1)) + 1 by omega, pi_step Hsc.out hib hsh, ← Hd2e.out]
                              rw [if_pos (show b - i1 ≥ 2 from hbi), ← Hdd.out, Hsu2.out]
                            | true =>
                              obtain ⟨wq, hwq⟩ : ∃ wq, wq = wo.drew := ⟨_, rfl⟩
                              have hd3 : Srt wq B g n c e := by rw [hwq]; exact hS0
                              have hb3 : But [g] w wq := by rw [hwq]; exact hbe.drew
                              have cj := zz wq hd3
                              have ck := zy wq hd3
                              have fj := hd3.frozen j1
                              have fk := hd3.frozen k1
                              rw [← hwq]
                              clear hwq zz zy
                              go_upto_region 23 with fail
                              go_region
                              all_goals go_wp2
                              refine ⟨⟨j1 + 1, Sort.swp e j1 k1, by simp, by omega, by omega, ?_, Lib.hid ?_, ?_⟩, by simp [intOf]; omega⟩
                              · rw [Hz.out, Hy.out]; exact hd3.swp.drew
                              · rw [← hsu.out]; conv => rhs; rw [shiftUp, if_pos hjb, if_neg (by rw [← Hz.out, ← Hk1.out, ← Hy.out, hlt]; simp)]
                                rw [Hk1.out]
                              · exact ((hb3.setCell (p := ⟨g, j1, none⟩) (by simp) _).setCell (p := ⟨g, k1, none⟩) (by simp) _).drew
                          · have ljb : ¬ (j1 : Int) < (b : Int) := by omega
                            have hsu2 : shiftUp ltN b (i1 + 1) dd = e := by rw [← hsu.out, shiftUp, if_neg hjb]
                            have Hsu2 := Lib.hid hsu2; clear hsu2
                            go_wp2
                            refine ⟨⟨t + 1, i1, e, by simp, by simp, by omega, by omega, by omega, he, Lib.hid ?_, hbe⟩, by simp [intOf]; omega⟩
                            rw [← hrel'.out, show 5 - t = (5 - (t + 1)) + 1 by omega, pi_step Hsc.out hib hsh, ← Hd2e.out]
                            rw [if_pos (show b - i1 ≥ 2 from hbi), ← Hdd.out, Hsu2.out]
                      · have lbi : ¬ (2 : Int) ≤ ((b - i1 : Nat) : Int) := by omega
                        have lbi' : ¬ (2 : Int) ≤ (bi : Int) := by rw [Hbi.out]; exact lbi
                        go_wp2
                        refine ⟨⟨t + 1, i1, dd, by simp, by simp, by omega, by omega, by omega, hdu, Lib.hid ?_, hbu⟩, by simp [intOf]; omega⟩
                        rw [← hrel'.out, show 5 - t = (5 - (t + 1)) + 1 by omega, pi_step Hsc.out hib hsh, ← Hd2e.out]
                        rw [if_neg (show ¬ b - i1 ≥ 2 from hbi), ← Hdd.out]
                    | true =>
                      obtain ⟨wq, hwq⟩ : ∃ wq, wq = wo.drew := ⟨_, rfl⟩
                      have hd3 : Srt wq B g n c e := by rw [hwq]; exact hS0
                      have hb3 : But [g] w wq := by rw [hwq]; exact hbe.drew
                      have cj := zz wq hd3
                      have ck := zy wq hd3
                      have fj := hd3.frozen j2
                      have fk := hd3.frozen k1
                      rw [← hwq]
                      clear hwq zz zy
                      go_upto_region 17 with fail
                      go_region
                      all_goals go_wp2
                      refine ⟨⟨k1, Sort.swp e j2 k1, rfl, by have := Hj2.out; omega, ?_, Lib.hid ?_, ?_⟩, by have := Hj2.out; simp [intOf]; omega⟩
                      · rw [Hz.out, Hy.out]; exact hd3.swp.drew
                      · rw [← hsd.out]; conv => rhs; rw [Hj2.out, shiftDown, if_neg (by rw [← Hj2.out, ← Hz.out, ← Hy.out, hlt]; simp)]
                        rw [Hj2.out]
                      · exact ((hb3.setCell (p := ⟨g, j2, none⟩) (by simp) _).setCell (p := ⟨g, k1, none⟩) (by simp) _).drew
              · have lia : ¬ (2 : Int) ≤ (ia : Int) := by rw [Hia.out]; omega
                obtain ⟨dd, hdd⟩ : ∃ dd, dd = d2 := ⟨_, rfl⟩
                have hdd2 : dd = (if i1 - a ≥ 2 then shiftDown ltN (i1 - 1) d2 else d2) := by rw [if_neg hia, hdd]
                have hdu : Srt wS B g n c dd := by rw [hdd]; exact hd2
                have hbu := hb2
                clear hdd
                have Hdd := Lib.hid hdd2; clear hdd2
                by_cases hbi : 2 ≤ b - i1
                · have lbi : (2 : Int) ≤ ((b - i1 : Nat) : Int) := by omega
                  have lbi' : (2 : Int) ≤ (bi : Int) := by rw [Hbi.out]; exact lbi
                  go_wp2
                  go_loopw [10] (fun vj wr => ∃ (j1 : Nat) (e : Array Nat), vj = .int .i64 j1 ∧ i1 + 1 ≤ j1 ∧ j1 ≤ b ∧ Srt wr B g n c e ∧ Hid (shiftUp ltN b j1 e = shiftUp ltN b (i1 + 1) dd) ∧ But [g] w wr) (fun vj _ => b - (intOf vj).toNat)
                  case atStart => exact ⟨i1 + 1, dd, by simp, by omega, by omega, hdu, Lib.hid rfl, hbu⟩
                  case round =>
                    clear hdu hbu
                    obtain ⟨j1, e, rfl, hj1, hj1b, he, hsu, hbe⟩ := hrel
                    obtain ⟨wo, rfl⟩ : ∃ wo : World, wo = wr := ⟨_, rfl⟩
                    by_cases hjb : j1 < b
                    · have ljb : (j1 : Int) < (b : Int) := by omega
                      have ljn : (j1 : Int) < (n : Int) := by omega
                      obtain ⟨k1, hk1⟩ : ∃ k1, k1 = j1 - 1 := ⟨_, rfl⟩
                      have wj : IntKind.i64.wrap ((j1 : Int) - 1) = (k1 : Int) := by rw [IntKind.wrap_i64]; omega
                      have wj2 : IntKind.i64.wrap ((j1 : Int) + 1) = ((j1 + 1 : Nat) : Int) := by rw [IntKind.wrap_i64]; omega
                      have lkn : (k1 : Int) < (n : Int) := by omega
                      obtain ⟨z, hz⟩ : ∃ z, z = e[j1]! := ⟨_, rfl⟩
                      obtain ⟨y, hy⟩ : ∃ y, y = e[k1]! := ⟨_, rfl⟩
                      have zz : ∀ w' : World, Srt w' B g n c e → w'.cell? ⟨g, j1, none⟩ = some (.int .u64 (z : Int)) := fun w' h => by rw [hz]; exact h.cell (by omega)
                      have zy : ∀ w' : World, Srt w' B g n c e → w'.cell? ⟨g, k1, none⟩ = some (.int .u64 (y : Int)) := fun w' h => by rw [hy]; exact h.cell (by omega)
                      have hS0 : Srt wo.drew B g n c e := he.drew
                      have hjk : j1 ≠ k1 := by omega
                      have Hk1 := Lib.hid hk1; clear hk1
                      have Hz := Lib.hid hz; clear hz
                      have Hy := Lib.hid hy; clear hy
                      go_upto_region 22 with fail
                      refine wp_region_N (fun w' => Srt w' B g n c e) 100 (by kernel_rfl) ?_
                      apply wpAnyN_takeL 0 (by kernel_rfl) rfl (fun _ _ _ h => h) (by kernel_rfl) hS0
                      · intro w' hS'
                        go_simp; exact ⟨rfl, rfl⟩
                      (try simp only [Act.put]); (try simp only [List.setIfInBounds_toArray]); (try simp only [List.set])
                      apply wpAnyN_takeL 1 (by kernel_rfl) rfl (fun _ _ _ h => h) (by kernel_rfl) hS0
                      · intro w' hS'
                        go_simp; exact ⟨rfl, rfl⟩
                      (try simp only [Act.put]); (try simp only [List.setIfInBounds_toArray]); (try simp only [List.set])
                      apply wpAnyN_takeL 2 (by kernel_rfl) rfl (fun _ _ _ h => h) (by kernel_rfl) hS0
                      · intro w' hS'
                        go_simp; exact ⟨rfl, rfl⟩
                      (try simp only [Act.put]); (try simp only [List.setIfInBounds_toArray]); (try simp only [List.set])
                      apply wpAnyN_takeL 3 (by kernel_rfl) rfl (fun _ _ _ h => h) (by kernel_rfl) hS0
                      · intro w' hS'
                        go_simp; exact ⟨rfl, rfl⟩
                      (try simp only [Act.put]); (try simp only [List.setIfInBounds_toArray]); (try simp only [List.set])
                      apply wpAnyN_takeL 4 (by kernel_rfl) rfl (fun _ _ _ h => h) (by kernel_rfl) hS0
                      · intro w' hS'
                        go_simp; exact ⟨rfl, rfl⟩
                      (try simp only [Act.put]); (try simp only [List.setIfInBounds_toArray]); (try simp only [List.set])
                      apply wpAnyN_takeL 5 (by kernel_rfl) rfl (fun _ _ _ h => h) (by kernel_rfl) hS0
                      · intro w' hS'
                        go_simp; exact ⟨rfl, rfl⟩
                      (try simp only [Act.put]); (try simp only [List.setIfInBounds_toArray]); (try simp only [List.set])
                      apply wpAnyN_takeL 6 (by kernel_rfl) rfl (fun _ _ _ h => h) (by kernel_rfl) hS0
                      · intro w' hS'
                        go_simp; exact ⟨rfl, rfl⟩
                      (try simp only [Act.put]); (try simp only [List.setIfInBounds_toArray]); (try simp only [List.set])
                      apply wpAnyN_takeL 7 (by kernel_rfl) rfl (fun _ _ _ h => h) (by kernel_rfl) hS0
                      · intro w' hS'
                        go_simp; exact ⟨rfl, rfl⟩
                      (try simp only [Act.put]); (try simp only [List.setIfInBounds_toArray]); (try simp only [List.set])
                      apply wpAnyN_takeL 8 (by kernel_rfl) rfl (fun _ _ _ h => h) (by kernel_rfl) hS0
                      · intro w' hS'
                        go_simp; exact ⟨rfl, rfl⟩
                      (try simp only [Act.put]); (try simp only [List.setIfInBounds_toArray]); (try simp only [List.set])
                      apply wpAnyN_takeL 9 (v := (.bool (ltN z y))) (by kernel_rfl) rfl (fun _ _ _ h => h) (by kernel_rfl) hS0
                      · intro w' hS'
                        (go_simp; exact ⟨rfl, vLessB _ _ _⟩)
                      (try simp only [Act.put]); (try simp only [List.setIfInBounds_toArray]); (try simp only [List.set])
                      apply wpAnyN_takeL 10 (by kernel_rfl) rfl (fun _ _ _ h => h) (by kernel_rfl) hS0
                      · intro w' hS'
                        go_simp; exact ⟨rfl, rfl⟩
                      (try simp only [Act.put]); (try simp only [List.setIfInBounds_toArray]); (try simp only [List.set])
                      refine wpAnyN_done (by kernel_rfl) ?_ _
                      cases hlt : ltN z y with
                      | false =>
                        have hsu2 : shiftUp ltN b (i1 + 1) dd = e := by rw [← hsu.out, shiftUp, if_pos hjb, if_pos (by rw [← Hz.out, ← Hk1.out, ← Hy.out, hlt]; rfl)]
                        have Hsu2 := Lib.hid hsu2; clear hsu2
                        go_wp2
                        refine ⟨⟨t + 1, i1, e, by simp, by simp, by omega, by omega, by omega, hS0, Lib.hid ?_, hbe.drew⟩, by simp [intOf]; omega⟩
                        rw [← hrel'.out, show 5 - t = (5 - (t + 1)) + 1 by omega, pi_step Hsc.out hib hsh, ← Hd2e.out]
                        rw [if_pos (show b - i1 ≥ 2 from hbi), ← Hdd.out, Hsu2.out]
                      | true =>
                        obtain ⟨wq, hwq⟩ : ∃ wq, wq = wo.drew := ⟨_, rfl⟩
                        have hd3 : Srt wq B g n c e := by rw [hwq]; exact hS0
                        have hb3 : But [g] w wq := by rw [hwq]; exact hbe.drew
                        have cj := zz wq hd3
                        have ck := zy wq hd3
                        have fj := hd3.frozen j1
                        have fk := hd3.frozen k1
                        rw [← hwq]
                        clear hwq zz zy
                        go_upto_region 23 with fail
                        go_region
                        all_goals go_wp2
                        refine ⟨⟨j1 + 1, Sort.swp e j1 k1, by simp, by omega, by omega, ?_, Lib.hid ?_, ?_⟩, by simp [intOf]; omega⟩
                        · rw [Hz.out, Hy.out]; exact hd3.swp.drew
                        · rw [← hsu.out]; conv => rhs; rw [shiftUp, if_pos hjb, if_neg (by rw [← Hz.out, ← Hk1.out, ← Hy.out, hlt]; simp)]
                          rw [Hk1.out]
                        · exact ((hb3.setCell (p := ⟨g, j1, none⟩) (by simp) _).setCell (p := ⟨g, k1, none⟩) (by simp) _).drew
                    · have ljb : ¬ (j1 : Int) < (b : Int) := by omega
                      have hsu2 : shiftUp ltN b (i1 + 1) dd = e := by rw [← hsu.out, shiftUp, if_neg hjb]
                      have Hsu2 := Lib.hid hsu2; clear hsu2
                      go_wp2
                      refine ⟨⟨t + 1, i1, e, by simp, by simp, by omega, by omega, by omega, he, Lib.hid ?_, hbe⟩, by simp [intOf]; omega⟩
                      rw [← hrel'.out, show 5 - t = (5 - (t + 1)) + 1 by omega, pi_step Hsc.out hib hsh, ← Hd2e.out]
                      rw [if_pos (show b - i1 ≥ 2 from hbi), ← Hdd.out, Hsu2.out]
                · have lbi : ¬ (2 : Int) ≤ ((b - i1 : Nat) : Int) := by omega
                  have lbi' : ¬ (2 : Int) ≤ (bi : Int) := by rw [Hbi.out]; exact lbi
                  go_wp2
                  refine ⟨⟨t + 1, i1, dd, by simp, by simp, by omega, by omega, by omega, hdu, Lib.hid ?_, hbu⟩, by simp [intOf]; omega⟩
                  rw [← hrel'.out, show 5 - t = (5 - (t + 1)) + 1 by omega, pi_step Hsc.out hib hsh, ← Hd2e.out]
                  rw [if_neg (show ¬ b - i1 ≥ 2 from hbi), ← Hdd.out]
        · obtain rfl : i1 = b := by omega
          have lib : ¬ (i1 : Int) < (i1 : Int) := by omega
          have hsc2 : scanSorted ltN d i1 i = i1 := by rw [← hsc.out, scanSorted, if_neg (by simp)]
          have hres : partialInsertionSort ltN d0 a i1 = (d, true) := by rw [← hrel'.out, show 5 - t = (5 - (t + 1)) + 1 by omega]; exact pi_true hsc2
          have Hres := Lib.hid hres; clear hres hsc2
          go_upto_region 5 with fail
          refine wp_region_N (fun w' => Srt w' B g n c d) 100 (by kernel_rfl) ?_
          apply wpAnyN_takeL 0 (by kernel_rfl) rfl (fun _ _ _ h => h) (by kernel_rfl) hS0
          · intro w' hS'
            go_simp; exact ⟨rfl, rfl⟩
          (try simp only [Act.put]); (try simp only [List.setIfInBounds_toArray]); (try simp only [List.set])
          apply wpAnyN_takeL 1 (by kernel_rfl) rfl (fun _ _ _ h => h) (by kernel_rfl) hS0
          · intro w' hS'
            go_simp; exact ⟨rfl, rfl⟩
          (try simp only [Act.put]); (try simp only [List.setIfInBounds_toArray]); (try simp only [List.set])
          apply wpAnyN_takeL 2 (by kernel_rfl) rfl (fun _ _ _ h => h) (by kernel_rfl) hS0
          · intro w' hS'
            go_simp; exact ⟨rfl, rfl⟩
          (try simp only [Act.put]); (try simp only [List.setIfInBounds_toArray]); (try simp only [List.set])
          apply wpAnyN_takeL 3 (by kernel_rfl) rfl (fun _ _ _ h => h) (by kernel_rfl) hS0
          · intro w' hS'
            go_simp; exact ⟨rfl, rfl⟩
          (try simp only [Act.put]); (try simp only [List.setIfInBounds_toArray]); (try simp only [List.set])
          refine wpAnyN_skipL 4 (by kernel_rfl) rfl (fun _ _ _ h => h) (by kernel_rfl) hS0 ?_
          (try simp only [Act.put]); (try simp only [List.setIfInBounds_toArray]); (try simp only [List.set])
          refine wpAnyN_skipL 5 (by kernel_rfl) rfl (fun _ _ _ h => h) (by kernel_rfl) hS0 ?_
          (try simp only [Act.put]); (try simp only [List.setIfInBounds_toArray]); (try simp only [List.set])
          refine wpAnyN_skipL 6 (by kernel_rfl) rfl (fun _ _ _ h => h) (by kernel_rfl) hS0 ?_
          (try simp only [Act.put]); (try simp only [List.setIfInBounds_toArray]); (try simp only [List.set])
          refine wpAnyN_skipL 7 (by kernel_rfl) rfl (fun _ _ _ h => h) (by kernel_rfl) hS0 ?_
          (try simp only [Act.put]); (try simp only [List.setIfInBounds_toArray]); (try simp only [List.set])
          refine wpAnyN_skipL 8 (by kernel_rfl) rfl (fun _ _ _ h => h) (by kernel_rfl) hS0 ?_
          (try simp only [Act.put]); (try simp only [List.setIfInBounds_toArray]); (try simp only [List.set])
          refine wpAnyN_skipL 9 (by kernel_rfl) rfl (fun _ _ _ h => h) (by kernel_rfl) hS0 ?_
          (try simp only [Act.put]); (try simp only [List.setIfInBounds_toArray]); (try simp only [List.set])
          refine wpAnyN_skipL 10 (by kernel_rfl) rfl (fun _ _ _ h => h) (by kernel_rfl) hS0 ?_
          (try simp only [Act.put]); (try simp only [List.setIfInBounds_toArray]); (try simp only [List.set])
          refine wpAnyN_skipL 11 (by kernel_rfl) rfl (fun _ _ _ h => h) (by kernel_rfl) hS0 ?_
          (try simp only [Act.put]); (try simp only [List.setIfInBounds_toArray]); (try simp only [List.set])
          refine wpAnyN_skipL 12 (by kernel_rfl) rfl (fun _ _ _ h => h) (by kernel_rfl) hS0 ?_
          (try simp only [Act.put]); (try simp only [List.setIfInBounds_toArray]); (try simp only [List.set])
          refine wpAnyN_skipL 13 (by kernel_rfl) rfl (fun _ _ _ h => h) (by kernel_rfl) hS0 ?_
          (try simp only [Act.put]); (try simp only [List.setIfInBounds_toArray]); (try simp only [List.set])
          refine wpAnyN_skipL 14 (by kernel_rfl) rfl (fun _ _ _ h => h) (by kernel_rfl) hS0 ?_
          (try simp only [Act.put]); (try simp only [List.setIfInBounds_toArray]); (try simp only [List.set])
          apply wpAnyN_takeL 15 (by kernel_rfl) rfl (fun _ _ _ h => h) (by kernel_rfl) hS0
          · intro w' hS'
            go_simp; exact ⟨rfl, rfl⟩
          (try simp only [Act.put]); (try simp only [List.setIfInBounds_toArray]); (try simp only [List.set])
          refine wpAnyN_done (by kernel_rfl) ?_ _
          go_wp2
          go_ret
          refine ⟨by rw [Hres.out]; rfl, by rw [Hres.out]; exact hS0, hbut.drew⟩
    · obtain rfl : t = 5 := by omega
      have lt5 : ¬ ((5 : Nat) : Int) < 5 := by omega
      have hres : partialInsertionSort ltN d0 a b = (d, false) := by rw [← hrel'.out]; rfl
      have Hres := Lib.hid hres; clear hres
      go_wp2
      go_ret
      refine ⟨by rw [Hres.out]; rfl, by rw [Hres.out]; exact hd, hbut⟩
end Go.Proofs.Ytmalkgakdmghiaa
