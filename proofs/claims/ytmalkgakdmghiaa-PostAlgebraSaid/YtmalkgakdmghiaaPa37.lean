import Derived.Test.YtmalkgakdmghiaaPa18
namespace Go.Proofs.Ytmalkgakdmghiaa
open Go.RowKit Garner

def vgetV : Except Nat (Nat × Nat) → Value
  | .ok (n, k) => .tuple #[.int .u64 n, .int .i64 k, .int .i64 0]
  | .error e => .tuple #[.int .u64 0, .int .i64 0, .int .i64 e]

theorem or_step (acc k x : Nat) (hx : x < 256) (hacc : acc < 128 ^ k) (hfit : acc + x % 128 * 128 ^ k < 18446744073709551616) :
    bits .or .u64 (acc : Int) (IntKind.u64.wrap (IntKind.u64.wrap (bits .and .u8 (x : Int) 127) * 2 ^ (7 * k))) = ((acc + x % 128 * 128 ^ k : Nat) : Int) := by
  have e1 : bits .and .u8 (x : Int) 127 = ((x % 128 : Nat) : Int) := by
    rw [show (127 : Int) = ((127 : Nat) : Int) by rfl, u8_and_nat _ _ hx (by omega), show (127 : Nat) = 2 ^ 7 - 1 by rfl, Nat.and_two_pow_sub_one_eq_mod]
  have hp : (2 : Nat) ^ (7 * k) = 128 ^ k := by rw [Nat.pow_mul]
  have hp' : ((2 : Int) ^ (7 * k)) = ((128 ^ k : Nat) : Int) := by rw [← hp]; simp
  have hm : x % 128 * 128 ^ k % 2 ^ (7 * k) = 0 := by rw [hp]; exact Nat.mul_mod_left _ _
  rw [e1, IntWalk.u64_in ((x % 128 : Nat) : Int) ⟨by omega, by omega⟩, hp', ← Int.natCast_mul, IntWalk.u64_in _ ⟨by omega, by omega⟩, u64_or_nat _ _ (by omega) (by omega), Nat.or_comm, nat_join (7 * k) _ _ hm (by rw [hp]; exact hacc)]
  omega

theorem vgetAux_more {c : UInt8} {r : Bs} {i acc x : Nat} (hx : c.toNat = x) (h1 : ¬ (i = 9 ∧ 1 < x)) (h2 : ¬ x < 128) : vgetAux (c :: r) i acc = vgetAux r (i + 1) (acc + (x - 128) * 128 ^ i) := by
  subst hx; rw [vgetAux, if_neg h1, if_neg h2]
theorem vgetAux_done {c : UInt8} {r : Bs} {i acc x : Nat} (hx : c.toNat = x) (h1 : ¬ (i = 9 ∧ 1 < x)) (h2 : x < 128) (h3 : ¬ (x = 0 ∧ 0 < i)) : vgetAux (c :: r) i acc = .ok (acc + x * 128 ^ i, i + 1) := by
  subst hx; rw [vgetAux, if_neg h1, if_pos h2, if_neg h3]
theorem vgetAux_zero {c : UInt8} {r : Bs} {i acc x : Nat} (hx : c.toNat = x) (h2 : x = 0) (h3 : 0 < i) : vgetAux (c :: r) i acc = .error 6 := by
  subst hx; rw [vgetAux, if_neg (by omega), if_pos (by omega), if_pos ⟨h2, h3⟩]
theorem vgetAux_high {c : UInt8} {r : Bs} {i acc x : Nat} (hx : c.toNat = x) (h1 : i = 9 ∧ 1 < x) : vgetAux (c :: r) i acc = .error 6 := by
  subst hx; rw [vgetAux, if_pos h1]
theorem vget_of {l : Bs} {i0 k acc : Nat} {c : UInt8} {e : Except Nat (Nat × Nat)} (h : vgetAux (l.drop i0) 0 0 = vgetAux (l.drop (i0 + k)) k acc) (hk : i0 + k < l.length) (hc : l[i0 + k] = c)
    (h2 : vgetAux (c :: l.drop (i0 + k + 1)) k acc = e) : vgetAux (l.drop i0) 0 0 = e := by
  rw [h, List.drop_eq_getElem_cons hk, hc, h2]

set_option maxHeartbeats 1000000 in
set_option maxRecDepth 100000 in
theorem vGet (l : List UInt8) (A : Option Addr) (c B : Nat) (w : World) (i0 : Nat) (hr : Bytes w B A l.length l) (hc : l.length ≤ c) (hi0 : i0 ≤ l.length) (hl : l.length ≤ 140737488355328) :
    Calls Try.prog 33 #[.slice A l.length c, .int .i64 i0] w fun e w' => e = .returned (vgetV (vget l i0)) ∧ w = w' := by
  rcases Nat.lt_or_ge i0 l.length with hlt | hge
  · obtain ⟨b, off, rfl, hb, hcell⟩ := hr.at_ hlt
    go_enter Try.func33, Try.ntmps33
    go_wp2
    go_loop [7, 22] (fun v i => ∃ k acc : Nat, i = .int .i64 k ∧ v = .int .u64 acc ∧ k ≤ 9 ∧ i0 + k ≤ l.length ∧ acc < 128 ^ k ∧ vgetAux (l.drop i0) 0 0 = vgetAux (l.drop (i0 + k)) k acc) (fun _ i => l.length - i0 - (intOf i).toNat)
    case atStart => exact ⟨0, 0, rfl, rfl, by omega, by omega, by simp, rfl⟩
    case round =>
      obtain ⟨k, acc, rfl, rfl, hk9, hkl, hacc, hinv⟩ := hrel
      have Hinv := Lib.hid hinv; clear hinv
      have Hacc := Lib.hid hacc; clear hacc
      by_cases hk : i0 + k < l.length
      · have hc1 : w.cell? ⟨b, off + (i0 + k), none⟩ = some (.int .u8 (l[i0 + k].toNat : Nat)) := by
          have := hcell (i0 + k) (by simpa using hk); simpa [bv] using this
        have hc2 : w.cell? ⟨b, off + i0 + k, none⟩ = some (.int .u8 (l[i0 + k].toNat : Nat)) := by rw [Nat.add_assoc]; exact hc1
        have hlc := l[i0 + k].toNat_lt
        generalize hx : l[i0 + k].toNat = x at hc1 hc2 hlc
        have Hx := Lib.hid hx; clear hx hcell
        have hk2 : k < l.length - i0 := by omega
        have hp : 128 ^ k ≤ 9223372036854775808 := by
          have : (128 : Nat) ^ k ≤ 128 ^ 9 := Nat.pow_le_pow_right (by omega) hk9
          omega
        have Hp := Lib.hid hp; clear hp
        by_cases hhigh : (k : Int) = 9 ∧ 1 < (x : Int)
        · obtain ⟨h9, h1x⟩ := hhigh
          have e9 : ((k : Int) == 9) = true := beq_iff_eq.2 h9
          have H9 := Lib.hid h9; clear h9
          go_wp2
          go_ret3
          refine ⟨?_, rfl⟩
          unfold vget
          rw [vget_of Hinv.out hk rfl (vgetAux_high Hx.out ⟨by have := H9.out; omega, by omega⟩)]
          rfl
        · have hnh : ¬ (k = 9 ∧ 1 < x) := by omega
          have hfit : acc + x % 128 * 128 ^ k < 18446744073709551616 := by
            have h0 := Hacc.out
            have h1 : x % 128 * 128 ^ k ≤ 127 * 128 ^ k := Nat.mul_le_mul_right _ (by omega)
            rcases Nat.lt_or_ge k 9 with h | h
            · have : (128 : Nat) ^ k ≤ 128 ^ 8 := Nat.pow_le_pow_right (by omega) (by omega)
              omega
            · have h2 : x % 128 * 128 ^ k ≤ 1 * 128 ^ k := Nat.mul_le_mul_right _ (by omega)
              have := Hp.out
              omega
          have Hor := Lib.hid (or_step acc k x hlc Hacc.out hfit)
          have Hfit := Lib.hid hfit; clear hfit
          by_cases h128 : (x : Int) < 128
          · by_cases hz : (x : Int) = 0 ∧ 0 < (k : Int)
            · obtain ⟨hz1, hz2⟩ := hz
              have ez : ((x : Int) == 0) = true := beq_iff_eq.2 hz1
              have Hz1 := Lib.hid hz1; clear hz1
              have Hnh := Lib.hid hnh; clear hnh hhigh
              have h1x : ¬ 1 < (x : Int) := by have := Hz1.out; omega
              obtain ⟨b9, e9⟩ : ∃ q, ((k : Int) == 9) = q := ⟨_, rfl⟩
              cases b9
              all_goals
                go_wp2
                go_ret3
                refine ⟨?_, rfl⟩
                unfold vget
                rw [vget_of Hinv.out hk rfl (vgetAux_zero Hx.out (by have := Hz1.out; omega) (by omega))]
                rfl
            · have Hnz := Lib.hid hz; clear hz
              have Hnh := Lib.hid hnh; clear hnh
              have Hnhi := Lib.hid hhigh; clear hhigh
              obtain ⟨b9, e9⟩ : ∃ q, ((k : Int) == 9) = q := ⟨_, rfl⟩
              obtain ⟨b0, e0⟩ : ∃ q, ((x : Int) == 0) = q := ⟨_, rfl⟩
              have hfin : Ending.returned (Value.tuple #[Value.int .u64 (bits BinOp.or IntKind.u64 (acc : Int) (IntKind.u64.wrap (IntKind.u64.wrap (bits BinOp.and IntKind.u8 (x : Int) 127) * 2 ^ (7 * k)))), Value.int .i64 ((i0 : Int) + k + 1), Value.int .i64 0]) = Ending.returned (vgetV (vget l i0)) := by
                unfold vget
                rw [vget_of Hinv.out hk rfl (vgetAux_done Hx.out Hnh.out (by omega) (by have := Hnz.out; omega)), Hor.out, Nat.mod_eq_of_lt (show x < 128 by omega)]
                exact congrArg (fun z : Int => Ending.returned (Value.tuple #[.int .u64 ((acc + x * 128 ^ k : Nat) : Int), Value.int .i64 z, .int .i64 0])) (show (i0 : Int) + k + 1 = ((i0 + (k + 1) : Nat) : Int) by omega)
              have Hfin := Lib.hid hfin; clear hfin
              have Hle : Hid (b9 = true → ¬ 1 < (x : Int)) := fun h => by subst h; have := beq_iff_eq.1 e9; have := Hnhi.out; omega
              have Hkz : Hid (b0 = true → ¬ 0 < (k : Int)) := fun h => by subst h; have := beq_iff_eq.1 e0; have := Hnz.out; omega
              cases b9 <;> cases b0
              · go_wp2
                go_ret3
                exact ⟨Hfin.out, rfl⟩
              · have hkz := Hkz.out rfl
                go_wp2
                go_ret3
                exact ⟨Hfin.out, rfl⟩
              · have hle := Hle.out rfl
                go_wp2
                go_ret3
                exact ⟨Hfin.out, rfl⟩
              · exact absurd (beq_iff_eq.1 e9) (by have := Hkz.out rfl; omega)
          · have h1x : 1 < (x : Int) := by omega
            have h9 : ¬ ((k : Int) = 9) := by omega
            have e9 : ((k : Int) == 9) = false := beq_eq_false_iff_ne.2 h9
            have Hnh := Lib.hid hnh; clear hnh hhigh
            go_wp2
            go_round
            case rel =>
              refine ⟨k + 1, acc + x % 128 * 128 ^ k, by go_num, by rw [Hor.out], by omega, by omega, ?_, ?_⟩
              · have h0 := Hacc.out
                have h1 : x % 128 * 128 ^ k ≤ 127 * 128 ^ k := Nat.mul_le_mul_right _ (by omega)
                rw [Nat.pow_succ]; omega
              · rw [vget_of Hinv.out hk rfl (vgetAux_more Hx.out Hnh.out (by omega)), show x - 128 = x % 128 by omega, Nat.add_assoc]
            case measure => simp [intOf]; omega
      · have hk2 : ¬ (k < l.length - i0) := by omega
        clear hcell
        go_wp2
        go_ret3
        refine ⟨?_, rfl⟩
        unfold vget
        rw [Hinv.out, List.drop_eq_nil_of_le (by omega)]
        rfl
  · obtain rfl : i0 = l.length := by omega
    go_enter Try.func33, Try.ntmps33
    go_wp2
    all_goals
      refine wp_loop_rounds 1 ?_
      rw [rounds_succ]
      go_wp2
      go_ret3
      refine ⟨?_, rfl⟩
      unfold vget
      rw [List.drop_eq_nil_of_le (by omega)]
      rfl
end Go.Proofs.Ytmalkgakdmghiaa
