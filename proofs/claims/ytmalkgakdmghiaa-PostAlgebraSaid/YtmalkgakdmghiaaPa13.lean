import Derived.Test.YtmalkgakdmghiaaPa02
import Derived.Test.YtmalkgakdmghiaaPa12
import Derived.Laws.BitsAllLaws
import Derived.Laws.Bits64b
/-! layer 3: the bits of a packed list -/
namespace Go.Proofs.Ytmalkgakdmghiaa
open Go.RowKit Garner

theorem bitOf_b (l : Bs) (q : Nat) : ((l[q / 8]?.getD 0).toNat / 2 ^ (q % 8)) &&& 1 = if bitOf l q then 1 else 0 := by
  unfold bitOf
  rw [Nat.and_one_is_mod, Nat.testBit_eq_decide_div_mod_eq]
  generalize (l[q / 8]?.getD 0).toNat / 2 ^ (q % 8) = z
  rcases Nat.mod_two_eq_zero_or_one z with h | h <;> simp [h]
theorem get_bit (g c j m : Nat) (bt : Bool) (hb : (c / 2 ^ j) &&& 1 = if bt then 1 else 0) (hg : g < 2 ^ m) (hm : m < 64) (hc : c < 256) :
    bits .or .u64 (g : Int) (IntKind.u64.wrap (IntKind.u64.wrap (bits .and .u8 ((c : Int) / 2 ^ j) 1) * 2 ^ m)) = ((g ||| (if bt then 2 ^ m else 0) : Nat) : Int) := by
  have h1 : c / 2 ^ j < 256 := Nat.lt_of_le_of_lt (Nat.div_le_self _ _) hc
  have e1 : ((c : Int) / 2 ^ j) = ((c / 2 ^ j : Nat) : Int) := by rw [Int.natCast_ediv]; simp
  have h64 : (2 : Nat) ^ m < 18446744073709551616 := by
    have := Nat.pow_lt_pow_right (a := 2) (by omega) hm
    omega
  have e2 : bits .and .u8 ((c : Int) / 2 ^ j) 1 = (((if bt then 1 else 0) : Nat) : Int) := by
    rw [e1, show (1 : Int) = ((1 : Nat) : Int) by rfl, u8_and_nat _ _ h1 (by omega), hb]
  rw [e2, IntKind.wrap_u64, IntKind.wrap_u64]
  have e3 : ((((if bt then 1 else 0) : Nat) : Int) % 18446744073709551616 * 2 ^ m) % 18446744073709551616 = (((if bt then 2 ^ m else 0) : Nat) : Int) := by
    have e4 : ((2 : Int) ^ m) = ((2 ^ m : Nat) : Int) := by simp
    cases bt
    · simp
    · rw [e4]; generalize 2 ^ m = z at *; simp; omega
  rw [e3, bits_or_u64_nat _ _ (by omega) (by split <;> omega)]
set_option maxHeartbeats 2000000 in
theorem vPkGet (l : Bs) (A : Option Addr) (c B : Nat) (w : World) (a k : Nat) (za zk : Int) (hza : za = (a : Int)) (hzk : zk = (k : Int)) (hr : Bytes w B A l.length l) (hk : k ≤ 64) (ha : a + k ≤ 8 * l.length) (hl : l.length ≤ 140737488355328) :
    Calls Try.prog 52 #[.slice A l.length c, .int .i64 za, .int .i64 zk] w fun e w' => e = .returned (.int .u64 (getN l a k : Nat)) ∧ w' = w := by
  subst hza hzk
  go_enter Try.func52, Try.ntmps52
  go_wp2
  go_loopw [7, 10] (fun x i wr => ∃ m : Nat, m ≤ k ∧ i = .int .i64 m ∧ x = .int .u64 (getN l a m : Nat) ∧ wr = w) (fun _ i _ => k - (intOf i).toNat)
  case atStart => exact ⟨0, Nat.zero_le _, rfl, rfl, rfl⟩
  case round =>
    obtain ⟨m, hm, rfl, rfl, rfl⟩ := hrel
    by_cases hlt : m < k
    · obtain ⟨b, off, rfl, hb, hc⟩ := hr.at_ (k := (a + m) / 8) (by omega)
      have hc1 : wr.cell? ⟨b, off + (a + m) / 8, none⟩ = some (.int .u8 ((l[(a + m) / 8]?.getD 0).toNat : Int)) := by
        rw [hc ((a + m) / 8) (by simp; omega), List.getElem?_eq_getElem (by omega)]; simp [bv]
      go_wp2
      refine ⟨⟨m + 1, by omega, rfl, ?_, trivial⟩, by simp [intOf]; omega⟩
      refine congrArg (Value.int IntKind.u64) ?_
      rw [get_bit _ _ _ _ _ (bitOf_b l (a + m)) (getN_lt l a m) (by omega) (UInt8.toNat_lt _)]
      rfl
    · go_wp2
      go_ret
      have : m = k := by omega
      subst this
      exact ⟨rfl, rfl⟩
end Go.Proofs.Ytmalkgakdmghiaa
