import Derived.Test.YtmddgimadlmacaaDoorFrame2
namespace Go.Proofs.YtmddgimadlmacaaDoor
open Go.RowKit Garner

theorem add_step (acc k x U : Nat) (hU : U = 128 ^ k) (hfit : acc + x % 128 * 128 ^ k < 18446744073709551616) :
    IntKind.u64.wrap ((acc : Int) + IntKind.u64.wrap ((x : Int) % 128 * (U : Int))) = ((acc + x % 128 * 128 ^ k : Nat) : Int) := by
  subst hU
  have e : (x : Int) % 128 * ((128 ^ k : Nat) : Int) = ((x % 128 * 128 ^ k : Nat) : Int) := by rw [Int.natCast_mul]; rfl
  rw [e]
  generalize x % 128 * 128 ^ k = p at *
  rw [IntWalk.u64_in (p : Int) ⟨by omega, by omega⟩, IntWalk.u64_in _ ⟨by omega, by omega⟩]
  omega

set_option maxRecDepth 100000 in
set_option maxHeartbeats 1000000 in
theorem rGet (l : List UInt8) (A : Option Addr) (c B : Nat) (w : World) (i0 : Nat) (hr : Bytes w B A l.length l) (hi0 : i0 ≤ l.length) (hl : l.length ≤ 140737488355328) :
    Calls Tryd.prog 71 #[.slice A l.length c, .int .i64 i0] w fun e w' => e = .returned (vgetV (vget l i0)) ∧ w = w' := by
  have hg0 : ¬ (l.length : Int) < i0 := by omega
  go_enter Tryd.func71, Tryd.ntmps71
  go_wp2
  go_loop [7, 8, 9] (fun v u i => ∃ k acc U : Nat, i = .int .i64 k ∧ v = .int .u64 acc ∧ u = .int .u64 U ∧ k ≤ 9 ∧ i0 + k ≤ l.length ∧ U = 128 ^ k ∧ acc < 128 ^ k ∧ vgetAux (l.drop i0) 0 0 = vgetAux (l.drop (i0 + k)) k acc) (fun _ _ i => l.length - i0 - (intOf i).toNat)
  case atStart => exact ⟨0, 0, 1, rfl, rfl, rfl, by omega, by omega, rfl, by simp, rfl⟩
  case round =>
    obtain ⟨k, acc, U, rfl, rfl, rfl, hk9, hkl, hU, hacc, hinv⟩ := hrel
    have Hinv := Lib.hid hinv; clear hinv
    have Hacc := Lib.hid hacc; clear hacc
    have HU := Lib.hid hU; clear hU
    by_cases hk : i0 + k < l.length
    · obtain ⟨b, off, rfl, hb, hcell⟩ := hr.at_ hk
      have hc1 : w.cell? ⟨b, off + (i0 + k), none⟩ = some (.int .u8 (l[i0 + k].toNat : Nat)) := by
        have := hcell (i0 + k) (by simpa using hk); simpa [bv] using this
      have hlc := l[i0 + k].toNat_lt
      generalize hx : l[i0 + k].toNat = x at hc1 hlc
      have Hx := Lib.hid hx; clear hx hcell
      have hp : 128 ^ k ≤ 9223372036854775808 := by
        have : (128 : Nat) ^ k ≤ 128 ^ 9 := Nat.pow_le_pow_right (by omega) hk9
        omega
      have Hp := Lib.hid hp; clear hp
      by_cases hhigh : (k : Int) = 9 ∧ 1 < (x : Int)
      · obtain ⟨h9, h1x⟩ := hhigh
        have e9 : ((k : Int) == 9) = true := beq_iff_eq.2 h9
        have H9 := Lib.hid h9; clear h9
        go_wp2
        go_ret3
        refine ⟨?_, rfl⟩
        unfold vget
        rw [vget_of Hinv.out hk rfl (vgetAux_high Hx.out ⟨by have := H9.out; omega, by omega⟩)]
        rfl
      · have hnh : ¬ (k = 9 ∧ 1 < x) := by omega
        have hfit : acc + x % 128 * 128 ^ k < 18446744073709551616 := by
          have h0 := Hacc.out
          have h1 : x % 128 * 128 ^ k ≤ 127 * 128 ^ k := Nat.mul_le_mul_right _ (by omega)
          rcases Nat.lt_or_ge k 9 with h | h
          · have : (128 : Nat) ^ k ≤ 128 ^ 8 := Nat.pow_le_pow_right (by omega) (by omega)
            omega
          · have h2 : x % 128 * 128 ^ k ≤ 1 * 128 ^ k := Nat.mul_le_mul_right _ (by omega)
            have := Hp.out
            omega
        have Hor := Lib.hid (add_step acc k x U HU.out hfit)
        have Hfit := Lib.hid hfit; clear hfit
        by_cases h128 : (x : Int) < 128
        · by_cases hz : (x : Int) = 0 ∧ 0 < (k : Int)
          · obtain ⟨hz1, hz2⟩ := hz
            have ez : ((x : Int) == 0) = true := beq_iff_eq.2 hz1
            have Hz1 := Lib.hid hz1; clear hz1
            have Hnh := Lib.hid hnh; clear hnh hhigh
            have h1x : ¬ 1 < (x : Int) := by have := Hz1.out; omega
            obtain ⟨b9, e9⟩ : ∃ q, ((k : Int) == 9) = q := ⟨_, rfl⟩
            cases b9
            all_goals
              go_wp2
              go_ret3
              refine ⟨?_, rfl⟩
              unfold vget
              rw [vget_of Hinv.out hk rfl (vgetAux_zero Hx.out (by have := Hz1.out; omega) (by omega))]
              rfl
          · have Hnz := Lib.hid hz; clear hz
            have Hnh := Lib.hid hnh; clear hnh
            have Hnhi := Lib.hid hhigh; clear hhigh
            obtain ⟨b9, e9⟩ : ∃ q, ((k : Int) == 9) = q := ⟨_, rfl⟩
            obtain ⟨b0, e0⟩ : ∃ q, ((x : Int) == 0) = q := ⟨_, rfl⟩
            have hfin : Ending.returned (Value.tuple #[Value.int .u64 (IntKind.u64.wrap ((acc : Int) + IntKind.u64.wrap ((x : Int) % 128 * (U : Int)))), Value.int .i64 ((i0 : Int) + k + 1), Value.int .i64 0]) = Ending.returned (vgetV (vget l i0)) := by
              unfold vget
              rw [vget_of Hinv.out hk rfl (vgetAux_done Hx.out Hnh.out (by omega) (by have := Hnz.out; omega)), Hor.out, Nat.mod_eq_of_lt (show x < 128 by omega)]
              exact congrArg (fun z : Int => Ending.returned (Value.tuple #[.int .u64 ((acc + x * 128 ^ k : Nat) : Int), Value.int .i64 z, .int .i64 0])) (show (i0 : Int) + k + 1 = ((i0 + (k + 1) : Nat) : Int) by omega)
            have Hfin := Lib.hid hfin; clear hfin
            have Hle : Hid (b9 = true → ¬ 1 < (x : Int)) := fun h => by subst h; have := beq_iff_eq.1 e9; have := Hnhi.out; omega
            have Hkz : Hid (b0 = true → ¬ 0 < (k : Int)) := fun h => by subst h; have := beq_iff_eq.1 e0; have := Hnz.out; omega
            cases b9 <;> cases b0
            · go_wp2
              go_ret3
              exact ⟨Hfin.out, rfl⟩
            · have hkz := Hkz.out rfl
              go_wp2
              go_ret3
              exact ⟨Hfin.out, rfl⟩
            · have hle := Hle.out rfl
              go_wp2
              go_ret3
              exact ⟨Hfin.out, rfl⟩
            · exact absurd (beq_iff_eq.1 e9) (by have := Hkz.out rfl; omega)
        · have h1x : 1 < (x : Int) := by omega
          have h9 : ¬ ((k : Int) = 9) := by omega
          have e9 : ((k : Int) == 9) = false := beq_eq_false_iff_ne.2 h9
          have Hnh := Lib.hid hnh; clear hnh hhigh
          go_wp2
          go_round
          case rel =>
            refine ⟨k + 1, acc + x % 128 * 128 ^ k, U * 128, by go_num, by rw [Hor.out], ?_, by omega, by omega, by rw [HU.out, Nat.pow_succ], ?_, ?_⟩
            · have h1 := HU.out
              have h2 : (128 : Nat) ^ k ≤ 128 ^ 8 := Nat.pow_le_pow_right (by omega) (by omega)
              exact congrArg (Value.int .u64) (by have h3 : U ≤ 72057594037927936 := by omega
                                                  rw [IntKind.wrap_u64]; omega)
            · have h0 := Hacc.out
              have h1 : x % 128 * 128 ^ k ≤ 127 * 128 ^ k := Nat.mul_le_mul_right _ (by omega)
              rw [Nat.pow_succ]; omega
            · rw [vget_of Hinv.out hk rfl (vgetAux_more Hx.out Hnh.out (by omega)), show x - 128 = x % 128 by omega, Nat.add_assoc]
          case measure => simp [intOf]; omega
    · go_wp2
      go_ret3
      refine ⟨?_, rfl⟩
      unfold vget
      rw [Hinv.out, List.drop_eq_nil_of_le (by omega)]
      rfl

end Go.Proofs.YtmddgimadlmacaaDoor
