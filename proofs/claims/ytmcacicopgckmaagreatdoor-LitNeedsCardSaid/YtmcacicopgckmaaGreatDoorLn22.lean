import Derived.Test.YtmcacicopgckmaaGreatDoorLn10
import Derived.Test.YtmcacicopgckmaaGreatDoorLn19
import Derived.Deep.QuietTactic
import Derived.BigQuiet
/-! garnerref07: Same, Once -/
namespace Go.Proofs.YtmcacicopgckmaaGreatDoor
open Go.RowKit Garner
abbrev strV (s : Bs) : Value := .string ⟨s.toArray⟩
theorem strE : Elem Tryz.prog 23 9 (.string .empty) 1 16 := ⟨Tryz.underlying23, by kernel_rfl, rfl, by omega, by omega⟩
theorem strV_one (l : List Bs) : ∀ u ∈ l.map strV, u.oneCell' = true := by
  intro u hu; obtain ⟨c, _, rfl⟩ := List.mem_map.1 hu; rfl
theorem str_at {w : World} {B n : Nat} {A : Option Addr} {a : List Bs} {k : Nat} {x : Bs} (h : Row w B 1 A n (a.map strV)) (hx : a[k]? = some x) : ∃ b off, A = some ⟨b, off, none⟩ ∧ b < B ∧ w.cell? ⟨b, off + k, none⟩ = some (.string ⟨x.toArray⟩) := by
  have hk := (List.getElem?_eq_some_iff.1 hx).1
  have hl := h.len
  rw [List.length_map] at hl
  obtain ⟨b, off, e, hb, hc⟩ := h.2 (by omega)
  exact ⟨b, off, e, hb, hc k _ (by rw [List.getElem?_map, hx]; rfl)⟩
set_option maxRecDepth 100000 in
set_option maxHeartbeats 8000000 in
theorem vSame7 (a b : List Bs) (A A' : Option Addr) (n m c c' B : Nat) (w : World) (hn : a.length = n) (hm : b.length = m) (ha : Row w B 1 A n (a.map strV)) (hb : Row w B 1 A' m (b.map strV)) (hB : B ≤ w.heap.size) (hl : n ≤ 140737488355328) :
    Calls Tryz.prog 13 #[.slice A n c, .slice A' m c'] w fun e w' => e = .returned (.bool (decide (a = b))) ∧ Below w.heap.size w w' := by
  have Hn := Lib.hid hn; have Hm := Lib.hid hm; have Ha := Lib.hid ha; have Hb := Lib.hid hb
  obtain ⟨ANS, hA⟩ : ∃ ANS, decide (a = b) = ANS := ⟨_, rfl⟩
  rw [hA]
  have HA := Lib.hid hA
  clear hn hm ha hb hA
  go_enter Tryz.func13, Tryz.ntmps13
  by_cases hnm : n = m
  · subst hnm
    go_wp2_with fail
    go_loopw [5] (fun i wr => ∃ k : Nat, k ≤ n ∧ i = .int .i64 k ∧ Hid (a.take k = b.take k) ∧ Hid (Below w.heap.size w wr)) (fun i _ => n - (intOf i).toNat)
    case atStart => exact ⟨0, Nat.zero_le _, rfl, Lib.hid rfl, Lib.hid (Below.refl _ _)⟩
    case round =>
      obtain ⟨k, hk, rfl, htk, hbw⟩ := hrel
      obtain ⟨wo, rfl⟩ : ∃ wo : World, wo = wr := ⟨_, rfl⟩
      have wk1 : IntKind.i64.wrap ((k : Int) + 1) = ((k + 1 : Nat) : Int) := by rw [IntKind.wrap_i64]; omega
      by_cases hlt : k < n
      · have z1 : (k : Int) < (n : Int) := by omega
        obtain ⟨x, hx⟩ : ∃ x, a[k]? = some x := ⟨_, List.getElem?_eq_getElem (by rw [Hn.out]; exact hlt)⟩
        obtain ⟨y, hy⟩ : ∃ y, b[k]? = some y := ⟨_, List.getElem?_eq_getElem (by rw [Hm.out]; exact hlt)⟩
        obtain ⟨b1, o1, rfl, -, cx⟩ := str_at (Ha.out.below (hbw.out.mono hB)) hx
        obtain ⟨b2, o2, rfl, -, cy⟩ := str_at (Hb.out.below (hbw.out.mono hB)) hy
        by_cases h1 : x = y
        · have hq : (x == y) = true := beq_iff_eq.2 h1
          have hnx : a.take (k + 1) = b.take (k + 1) := by rw [List.take_add_one, List.take_add_one, htk.out, hx, hy, h1]
          have Hnx := Lib.hid hnx
          clear hnx h1 hx hy htk
          go_wp2_with fail
          go_quiet (fail)
          go_wp2
          go_roundw
          case rel =>
            first
              | exact ⟨k + 1, by omega, by go_num, Hnx, Lib.hid (below_drewN hbw.out _)⟩
              | ((repeat apply Exists.intro); exact ⟨⟨k + 1, by omega, by go_num, Hnx, Lib.hid (below_drewN hbw.out _)⟩, rfl⟩)
          case measure => simp [intOf]; omega
        · have hq : (x == y) = false := beq_eq_false_iff_ne.2 h1
          have e : ANS = false := by
            rw [← HA.out, decide_eq_false_iff_not]
            rintro rfl
            rw [hx] at hy
            injection hy with hy
            exact h1 hy
          subst e
          clear h1 hx hy htk HA
          go_wp2_with fail
          go_quiet (fail)
          go_wp2
          go_ret
          exact ⟨rfl, below_drewN hbw.out _⟩
      · obtain rfl : k = n := by omega
        have e : ANS = true := by
          rw [← HA.out, decide_eq_true_iff]
          have := htk.out
          rwa [List.take_of_length_le (by rw [Hn.out]; exact Nat.le_refl _), List.take_of_length_le (by rw [Hm.out]; exact Nat.le_refl _)] at this
        subst e
        clear htk HA
        go_wp2_with fail
        go_ret
        exact ⟨rfl, hbw.out⟩
  · have e : ANS = false := by
      rw [← HA.out, decide_eq_false_iff_not]
      rintro rfl
      exact hnm (by rw [← Hn.out, ← Hm.out])
    subst e
    have z1 : ¬ (n : Int) = (m : Int) := by omega
    clear hnm HA
    go_wp2_with fail
    go_ret
    exact ⟨rfl, Below.refl _ _⟩
end Go.Proofs.YtmcacicopgckmaaGreatDoor

