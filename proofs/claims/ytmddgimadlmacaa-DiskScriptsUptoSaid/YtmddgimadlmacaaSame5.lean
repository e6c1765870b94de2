import Derived.Test.YtmddgimadlmacaaSimP
import Derived.Deep.QuietTactic
import Derived.BigQuiet
/-! garnerlaw05.same: two rows of names -/
namespace Go.Proofs.Ytmddgimadlmacaa
open Go.RowKit Garner

theorem nmS_inj {a b : Bs} (h : nmS a = nmS b) : a = b := by
  have := congrArg (fun s : ByteArray => s.data.toList) h
  simpa [nmS] using this
set_option maxRecDepth 100000 in
set_option maxHeartbeats 4000000 in
theorem vSame5 (l1 l2 : List Bs) (A1 A2 : Option Addr) (c1 c2 : Nat) (w : World) (h1 : Row w w.heap.size 1 A1 l1.length (l1.map strV)) (h2 : Row w w.heap.size 1 A2 l2.length (l2.map strV)) (hl : l1.length ≤ 140737488355328) (hl2 : l2.length ≤ 140737488355328) :
    Calls Try.prog 71 #[.slice A1 l1.length c1, .slice A2 l2.length c2] w fun e w' => e = .returned (.bool (decide (l1 = l2))) ∧ Below w.heap.size w w' := by
  by_cases hll : (l1.length : Int) = (l2.length : Int)
  · have hln : l2.length = l1.length := by omega
    rw [hln]
    go_enter Try.func71, Try.ntmps71
    go_wp2_with fail
    go_loopw [5] (fun v wr => ∃ k : Nat, k ≤ l1.length ∧ v = .int .i64 k ∧ Hid (l1.take k = l2.take k) ∧ Below w.heap.size w wr) (fun v _ => l1.length - (intOf v).toNat)
    case atStart => exact ⟨0, Nat.zero_le _, rfl, rfl, Below.refl _ _⟩
    case round =>
      obtain ⟨k, hk, rfl, hpre, hbel⟩ := hrel
      by_cases hlt : k < l1.length
      · obtain ⟨b1, o1, rfl, hb1, hc1⟩ := h1.at_ (k := k) hlt
        obtain ⟨b2, o2, rfl, hb2, hc2⟩ := h2.at_ (k := k) (by omega)
        have d1 : ∀ w', Below wr.heap.size wr w' → w'.cell? ⟨b1, o1 + k, none⟩ = some (strV l1[k]) := fun w' hb => by
          rw [(hbel.trans (hb.mono hbel.size)).cell (p := ⟨b1, o1 + k, none⟩) hb1, hc1 k (by simpa using hlt)]; simp
        have d2 : ∀ w', Below wr.heap.size wr w' → w'.cell? ⟨b2, o2 + k, none⟩ = some (strV (l2[k]'(by omega))) := fun w' hb => by
          rw [(hbel.trans (hb.mono hbel.size)).cell (p := ⟨b2, o2 + k, none⟩) hb2, hc2 k (by rw [List.length_map]; omega)]; simp
        have hl2k : k < l2.length := by omega
        obtain ⟨s1, hs1⟩ : ∃ s, s = l1[k] := ⟨_, rfl⟩
        obtain ⟨s2, hs2⟩ : ∃ s, s = l2[k] := ⟨_, rfl⟩
        rw [← hs1] at d1
        rw [← hs2] at d2
        have Hs1 := Lib.hid hs1; have Hs2 := Lib.hid hs2
        clear hs1 hs2 hc1 hc2
        have hS0 : Below wr.heap.size wr wr.drew := (Below.refl _ _).drew
        have hk0 : (0 : Int) ≤ (k : Int) := by omega
        have hklt : (k : Int) < (l1.length : Int) := by omega
        by_cases he : s1 = s2
        · have hstep : Hid (l1.take (k + 1) = l2.take (k + 1)) := by
            show _ = _
            rw [List.take_succ_eq_append_getElem hlt, List.take_succ_eq_append_getElem hl2k, hpre.out, ← Hs1.out, ← Hs2.out, he]
          clear Hs1 Hs2 hpre
          subst he
          go_upto_region 6 with fail
          refine wp_region_N (fun w' => Below wr.heap.size wr w') 100 (by kernel_rfl) ?_
          apply wpAnyN_takeL 0 (by kernel_rfl) rfl (fun _ _ _ h => h) (by kernel_rfl) hS0
          · intro w' hS'
            go_simp; exact ⟨rfl, rfl⟩
          (try simp only [Act.put]); (try simp only [List.setIfInBounds_toArray]); (try simp only [List.set])
          apply wpAnyN_takeL 1 (by kernel_rfl) rfl (fun _ _ _ h => h) (by kernel_rfl) hS0
          · intro w' hS'
            go_simp; exact ⟨rfl, rfl⟩
          (try simp only [Act.put]); (try simp only [List.setIfInBounds_toArray]); (try simp only [List.set])
          apply wpAnyN_takeL 2 (by kernel_rfl) rfl (fun _ _ _ h => h) (by kernel_rfl) hS0
          · intro w' hS'
            go_simp; exact ⟨rfl, rfl⟩
          (try simp only [Act.put]); (try simp only [List.setIfInBounds_toArray]); (try simp only [List.set])
          apply wpAnyN_takeL 3 (by kernel_rfl) rfl (fun _ _ _ h => h) (by kernel_rfl) hS0
          · intro w' hS'
            go_simp; exact ⟨rfl, rfl⟩
          (try simp only [Act.put]); (try simp only [List.setIfInBounds_toArray]); (try simp only [List.set])
          apply wpAnyN_takeL 4 (by kernel_rfl) rfl (fun _ _ _ h => h) (by kernel_rfl) hS0
          · intro w' hS'
            go_simp; exact ⟨rfl, rfl⟩
          (try simp only [Act.put]); (try simp only [List.setIfInBounds_toArray]); (try simp only [List.set])
          apply wpAnyN_takeL 5 (by kernel_rfl) rfl (fun _ _ _ h => h) (by kernel_rfl) hS0
          · intro w' hS'
            go_simp; exact ⟨rfl, rfl⟩
          (try simp only [Act.put]); (try simp only [List.setIfInBounds_toArray]); (try simp only [List.set])
          apply wpAnyN_takeL 6 (by kernel_rfl) rfl (fun _ _ _ h => h) (by kernel_rfl) hS0
          · intro w' hS'
            go_simp; exact ⟨rfl, rfl⟩
          (try simp only [Act.put]); (try simp only [List.setIfInBounds_toArray]); (try simp only [List.set])
          apply wpAnyN_takeL 7 (by kernel_rfl) rfl (fun _ _ _ h => h) (by kernel_rfl) hS0
          · intro w' hS'
            go_simp; exact ⟨rfl, rfl⟩
          (try simp only [Act.put]); (try simp only [List.setIfInBounds_toArray]); (try simp only [List.set])
          apply wpAnyN_takeL 8 (by kernel_rfl) rfl (fun _ _ _ h => h) (by kernel_rfl) hS0
          · intro w' hS'
            go_simp; exact ⟨rfl, rfl⟩
          (try simp only [Act.put]); (try simp only [List.setIfInBounds_toArray]); (try simp only [List.set])
          refine wpAnyN_done (by kernel_rfl) ?_ _
          go_wp2
          go_roundw
          case rel => exact ⟨k + 1, by omega, by go_num, hstep, hbel.trans (hS0.mono hbel.size)⟩
          case measure => simp [intOf]; omega
        · have hbad : Hid (decide (l1 = l2) = false) := by
            show _ = _
            refine decide_eq_false fun e => he ?_
            rw [Hs1.out, Hs2.out]
            subst e; rfl
          have hne : nmS s1 ≠ nmS s2 := fun e => he (nmS_inj e)
          have hne1 : (nmS s1 == nmS s2) = false := by unfold nmS; rw [str_beq]; exact decide_eq_false he
          have hne2 : (nmS s1 != nmS s2) = true := by rw [bne, hne1]; rfl
          have hne3 : (s1 == s2) = false := beq_eq_false_iff_ne.2 he
          clear Hs1 Hs2 hpre he hne hne1 hne2
          go_upto_region 6 with fail
          refine wp_region_N (fun w' => Below wr.heap.size wr w') 100 (by kernel_rfl) ?_
          apply wpAnyN_takeL 0 (by kernel_rfl) rfl (fun _ _ _ h => h) (by kernel_rfl) hS0
          · intro w' hS'
            go_simp; exact ⟨rfl, rfl⟩
          (try simp only [Act.put]); (try simp only [List.setIfInBounds_toArray]); (try simp only [List.set])
          apply wpAnyN_takeL 1 (by kernel_rfl) rfl (fun _ _ _ h => h) (by kernel_rfl) hS0
          · intro w' hS'
            go_simp; exact ⟨rfl, rfl⟩
          (try simp only [Act.put]); (try simp only [List.setIfInBounds_toArray]); (try simp only [List.set])
          apply wpAnyN_takeL 2 (by kernel_rfl) rfl (fun _ _ _ h => h) (by kernel_rfl) hS0
          · intro w' hS'
            go_simp; exact ⟨rfl, rfl⟩
          (try simp only [Act.put]); (try simp only [List.setIfInBounds_toArray]); (try simp only [List.set])
          apply wpAnyN_takeL 3 (by kernel_rfl) rfl (fun _ _ _ h => h) (by kernel_rfl) hS0
          · intro w' hS'
            go_simp; exact ⟨rfl, rfl⟩
          (try simp only [Act.put]); (try simp only [List.setIfInBounds_toArray]); (try simp only [List.set])
          apply wpAnyN_takeL 4 (by kernel_rfl) rfl (fun _ _ _ h => h) (by kernel_rfl) hS0
          · intro w' hS'
            go_simp; exact ⟨rfl, rfl⟩
          (try simp only [Act.put]); (try simp only [List.setIfInBounds_toArray]); (try simp only [List.set])
          apply wpAnyN_takeL 5 (by kernel_rfl) rfl (fun _ _ _ h => h) (by kernel_rfl) hS0
          · intro w' hS'
            go_simp; exact ⟨rfl, rfl⟩
          (try simp only [Act.put]); (try simp only [List.setIfInBounds_toArray]); (try simp only [List.set])
          apply wpAnyN_takeL 6 (by kernel_rfl) rfl (fun _ _ _ h => h) (by kernel_rfl) hS0
          · intro w' hS'
            go_simp; exact ⟨rfl, rfl⟩
          (try simp only [Act.put]); (try simp only [List.setIfInBounds_toArray]); (try simp only [List.set])
          apply wpAnyN_takeL 7 (by kernel_rfl) rfl (fun _ _ _ h => h) (by kernel_rfl) hS0
          · intro w' hS'
            go_simp; exact ⟨rfl, rfl⟩
          (try simp only [Act.put]); (try simp only [List.setIfInBounds_toArray]); (try simp only [List.set])
          apply wpAnyN_takeL 8 (by kernel_rfl) rfl (fun _ _ _ h => h) (by kernel_rfl) hS0
          · intro w' hS'
            go_simp; exact ⟨rfl, rfl⟩
          (try simp only [Act.put]); (try simp only [List.setIfInBounds_toArray]); (try simp only [List.set])
          refine wpAnyN_done (by kernel_rfl) ?_ _
          go_wp2
          go_ret
          exact ⟨by rw [hbad.out]; first | done | rfl, hbel.trans (hS0.mono hbel.size)⟩
      · obtain rfl : k = l1.length := by omega
        have e : l1 = l2 := by
          have := hpre.out
          rw [List.take_length, ← hln, List.take_length] at this
          exact this
        have he : decide (l1 = l2) = true := decide_eq_true e
        have He := Lib.hid he
        clear he e
        go_wp2
        go_ret
        exact ⟨by rw [He.out]; first | done | rfl, hbel⟩
  · have hne : decide (l1 = l2) = false := decide_eq_false (fun e => hll (by rw [e]))
    rw [hne]
    clear hne
    go_enter Try.func71, Try.ntmps71
    go_wp2
    go_ret
    exact ⟨rfl, Below.refl _ _⟩
end Go.Proofs.Ytmddgimadlmacaa
