import Derived.Test.YtcjapjnhejenaaaDoorHtO
import Derived.Test.YtcjapjnhejenaaaDoorHtS
/-! http: decimal -/
namespace Garner
open Go
/-- what decimal still has to write -/
def decA (m : Nat) (acc : Bs) : Bs := if m = 0 ∧ acc ≠ [] then acc else decP m ++ acc
theorem decA_step {m : Nat} {acc : Bs} (h : 0 < m ∨ acc = []) : decA (m / 10) (UInt8.ofNat (48 + m % 10) :: acc) = decA m acc := by
  have h2 : ¬ (m = 0 ∧ acc ≠ []) := by
    rintro ⟨h1, h3⟩
    rcases h with h | h
    · omega
    · exact h3 h
  unfold decA
  rw [if_neg h2]
  conv => rhs; unfold decP
  by_cases h1 : m < 10
  · rw [if_pos h1, if_pos ⟨by omega, by simp⟩, Nat.mod_eq_of_lt h1]; rfl
  · rw [if_neg h1, if_neg (fun e => by have := e.1; omega)]
    simp
theorem decA_nil (n : Nat) : decA n [] = decP n := by simp [decA]
theorem enc_dig : ∀ d : Fin 10, Utf8.encode (48 + (d.val : Int)) = ⟨#[UInt8.ofNat (48 + d.val)]⟩ := by decide +kernel
theorem cat_dig (d : Nat) (acc : Bs) : (⟨#[48 + UInt8.ofNat d]⟩ ++ ⟨acc.toArray⟩ : ByteArray) = ⟨(UInt8.ofNat (48 + d) :: acc).toArray⟩ := by
  apply ByteArray.ext
  simp
end Garner
namespace Go.Proofs.YtcjapjnhejenaaaDoor
open Go.RowKit Go.Shelf Garner

set_option maxRecDepth 100000 in
set_option maxHeartbeats 8000000 in
theorem vDecimal (n : Nat) (w : World) (hn : n < 4294967296) : Calls Tryd.prog 12 #[.int .i64 n] w fun e w' => e = .returned (str (decP n)) ∧ w' = w := by
  go_enter Tryd.func12, Tryd.ntmps12
  go_wp2
  go_loopw [0, 3] (fun i s wr => ∃ (m : Nat) (acc : Bs), m < 4294967296 ∧ i = .int .i64 m ∧ s = str acc ∧ decA m acc = decP n ∧ wr = w) (fun i s _ => 2 * (intOf i).toNat + (if strLen s = 0 then 1 else 0))
  case atStart => exact ⟨n, [], hn, rfl, rfl, decA_nil n, rfl⟩
  case round =>
    obtain ⟨m, acc, hm, rfl, rfl, hd, hb⟩ := hrel
    obtain ⟨wo, rfl⟩ : ∃ wo : World, wo = wr := ⟨_, rfl⟩
    have hlen := decP_len 9 n (by omega)
    have hal : acc.length ≤ 10 := by
      rw [← hd] at hlen
      unfold decA at hlen
      split at hlen
      · exact hlen
      · simp at hlen; omega
    by_cases hc : 0 < m ∨ acc = []
    · have hstep := decA_step hc
      obtain ⟨d, hdd⟩ : ∃ d, m % 10 = d := ⟨_, rfl⟩
      have hd10 : d < 10 := by omega
      rw [hdd] at hstep
      have z1 : (m : Int).tmod 10 = (d : Int) := by rw [Int.tmod_eq_emod_of_nonneg (by omega)]; omega
      have z2 : (m : Int).tdiv 10 = ((m / 10 : Nat) : Int) := by rw [Int.tdiv_eq_ediv_of_nonneg (by omega)]; omega
      have z3 : IntKind.i64.wrap (48 + (d : Int)) = 48 + (d : Int) := by rw [IntKind.wrap_i64]; omega
      have z4 : IntKind.i32.wrap (48 + (d : Int)) = 48 + (d : Int) := by simp [IntKind.wrap, IntKind.bits, IntKind.signed]; omega
      have z5 : Utf8.encode (48 + (d : Int)) = ⟨#[UInt8.ofNat (48 + d)]⟩ := enc_dig ⟨d, hd10⟩
      have z6 : IntKind.i64.wrap (d : Int) = (d : Int) := by rw [IntKind.wrap_i64]; omega
      have z7 : IntKind.i64.wrap ((m / 10 : Nat) : Int) = ((m / 10 : Nat) : Int) := by rw [IntKind.wrap_i64]; omega
      have Hdd := Lib.hid hdd; clear hdd
      have Hd := Lib.hid hd; clear hd
      have Hstep := Lib.hid hstep; clear hstep
      have ec := cat_dig d acc
      by_cases hm0 : 0 < m
      · have z8 : (0 : Int) < (m : Int) := by omega
        go_wp2_with fail
        refine ⟨⟨m / 10, UInt8.ofNat (48 + d) :: acc, by omega, by simp, by simp, by rw [Hstep.out, Hd.out], by first | exact hb | trivial⟩, ?_⟩
        show 2 * ((m : Int) / 10).toNat + (if (⟨((48 + UInt8.ofNat d) :: acc).toArray⟩ : ByteArray).size = 0 then 1 else 0) < 2 * (m : Int).toNat + _
        rw [str_size, if_neg (by simp)]
        omega
      · have hacc : acc = [] := by rcases hc with hc | hc; exact absurd hc hm0; exact hc
        subst hacc
        have z8 : ¬ (0 : Int) < (m : Int) := by omega
        go_wp2_with fail
        refine ⟨⟨m / 10, [UInt8.ofNat (48 + d)], by omega, by simp, by simp, by rw [Hstep.out, Hd.out], by first | exact hb | trivial⟩, ?_⟩
        show 2 * ((m : Int) / 10).toNat + (if (⟨[48 + UInt8.ofNat d].toArray⟩ : ByteArray).size = 0 then 1 else 0) < 2 * (m : Int).toNat + (if (⟨([] : Bs).toArray⟩ : ByteArray).size = 0 then 1 else 0)
        rw [str_size, str_size, if_neg (by simp), if_pos (show ([] : Bs).length = 0 from rfl)]
        omega
    · have z8 : ¬ (0 : Int) < (m : Int) := fun e => hc (Or.inl (by omega))
      have hne : acc ≠ [] := fun e => hc (Or.inr e)
      have z9 : acc.isEmpty = false := by simp [hne]
      have hfin : decP n = acc := by rw [← hd]; exact if_pos ⟨by omega, hne⟩
      have Hfin := Lib.hid hfin
      clear hd hc hne hfin hlen
      go_wp2
      go_ret
      exact ⟨by rw [Hfin.out]; rfl, by first | rfl | exact hb⟩
end Go.Proofs.YtcjapjnhejenaaaDoor
