import Derived.Test.YtcjapjnhejenaaaDoorHtT
/-! http: hex, digits from a string of sixteen -/
namespace Garner
open Go
def digsP (up : Bool) : Bs := if up then [48, 49, 50, 51, 52, 53, 54, 55, 56, 57, 65, 66, 67, 68, 69, 70] else [48, 49, 50, 51, 52, 53, 54, 55, 56, 57, 97, 98, 99, 100, 101, 102]
def digP (up : Bool) (d : Nat) : UInt8 := (digsP up).getD d 0
def hexT (up : Bool) (n : Nat) : Bs := if n < 16 then [digP up n] else hexT up (n / 16) ++ [digP up (n % 16)]
/-- what hex still has to write -/
def hexA (up : Bool) (m : Nat) (acc : Bs) : Bs := if m = 0 ∧ acc ≠ [] then acc else hexT up m ++ acc
theorem hexA_step {up : Bool} {m : Nat} {acc : Bs} (h : 0 < m ∨ acc = []) : hexA up (m / 16) (digP up (m % 16) :: acc) = hexA up m acc := by
  have h2 : ¬ (m = 0 ∧ acc ≠ []) := by
    rintro ⟨h1, h3⟩
    rcases h with h | h
    · omega
    · exact h3 h
  unfold hexA
  rw [if_neg h2]
  conv => rhs; unfold hexT
  by_cases h1 : m < 16
  · rw [if_pos h1, if_pos ⟨by omega, by simp⟩, Nat.mod_eq_of_lt h1]; rfl
  · rw [if_neg h1, if_neg (fun e => by have := e.1; omega)]
    simp
theorem hexA_nil (up : Bool) (n : Nat) : hexA up n [] = hexT up n := by simp [hexA]
theorem hexT_len (up : Bool) : ∀ (k n : Nat), n < 16 ^ (k + 1) → (hexT up n).length ≤ k + 1
  | 0, n, h => by unfold hexT; rw [if_pos (by simpa using h)]; simp
  | k + 1, n, h => by
    unfold hexT; split
    · simp
    · have := hexT_len up k (n / 16) (by rw [Nat.pow_succ] at h; omega)
      simp; omega
theorem hexT_pos (up : Bool) (n : Nat) : 1 ≤ (hexT up n).length := by
  unfold hexT; split <;> simp
theorem dig_hex (up : Bool) : ∀ d : Fin 16, hexP (digP up d.val) = (d.val : Int) := by cases up <;> decide +kernel
theorem hexT_hex (up : Bool) (n : Nat) : ∀ c ∈ hexT up n, isHex c = true := by
  induction n using Nat.strongRecOn with
  | ind n ih =>
    have hd : ∀ d, d < 16 → isHex (digP up d) = true := fun d h => by
      have := dig_hex up ⟨d, h⟩
      simp only at this
      simp [isHex, this]
    intro c hc
    unfold hexT at hc
    split at hc
    · rename_i h
      obtain rfl := List.mem_singleton.1 hc
      exact hd n h
    · rcases List.mem_append.1 hc with h | h
      · exact ih (n / 16) (by omega) c h
      · obtain rfl := List.mem_singleton.1 h
        exact hd _ (by omega)
theorem hexN_hexT (up : Bool) (n : Nat) : hexN (hexT up n) 0 = n := by
  induction n using Nat.strongRecOn with
  | ind n ih =>
    unfold hexT
    split
    · rename_i h
      have := dig_hex up ⟨n, h⟩
      simp only at this
      simp [hexN, this]
    · have h2 := ih (n / 16) (by omega)
      have := dig_hex up ⟨n % 16, by omega⟩
      simp only at this
      unfold hexN at h2 ⊢
      rw [List.foldl_append, h2]
      simp [this]; omega
end Garner
namespace Garner
theorem cat_hex (c : UInt8) (acc : Bs) : (⟨#[c]⟩ ++ ⟨acc.toArray⟩ : ByteArray) = ⟨(c :: acc).toArray⟩ := by
  apply ByteArray.ext
  simp
end Garner
namespace Go.Proofs.YtcjapjnhejenaaaDoor
open Go.RowKit Go.Shelf Garner

set_option maxRecDepth 100000 in
set_option maxHeartbeats 8000000 in
theorem vHexT (up : Bool) (n : Nat) (w : World) (hn : n < 4294967296) : Calls Tryd.prog 11 #[.int .i64 n, str (digsP up)] w fun e w' => e = .returned (str (hexT up n)) ∧ w' = w := by
  obtain ⟨dg, hdg⟩ : ∃ dg : ByteArray, dg = ⟨(digsP up).toArray⟩ := ⟨_, rfl⟩
  have hsz : dg.size = 16 := by rw [hdg, str_size]; cases up <;> rfl
  have hex_ : ∀ d : Nat, d < 16 → dg.extract d (d + 1) = ⟨#[digP up d]⟩ := by
    intro d hd
    have h : ∀ d : Fin 16, (⟨(digsP up).toArray⟩ : ByteArray).extract d.val (d.val + 1) = ⟨#[digP up d.val]⟩ := by cases up <;> decide +kernel
    rw [hdg]; exact h ⟨d, hd⟩
  rw [show str (digsP up) = .string dg by rw [hdg]]
  clear hdg
  go_enter Tryd.func11, Tryd.ntmps11
  go_wp2
  go_loopw [0, 5] (fun i s wr => ∃ (m : Nat) (acc : Bs), m < 4294967296 ∧ i = .int .i64 m ∧ s = str acc ∧ hexA up m acc = hexT up n ∧ wr = w) (fun i s _ => 2 * (intOf i).toNat + (if strLen s = 0 then 1 else 0))
  case atStart => exact ⟨n, [], hn, rfl, rfl, hexA_nil up n, rfl⟩
  case round =>
    obtain ⟨m, acc, hm, rfl, rfl, hd, hb⟩ := hrel
    obtain ⟨wo, rfl⟩ : ∃ wo : World, wo = wr := ⟨_, rfl⟩
    have hlen := hexT_len up 7 n (by omega)
    have hal : acc.length ≤ 10 := by
      rw [← hd] at hlen
      unfold hexA at hlen
      split at hlen
      · omega
      · simp at hlen; omega
    by_cases hc : 0 < m ∨ acc = []
    · have hstep := hexA_step (up := up) hc
      obtain ⟨d, hdd⟩ : ∃ d, m % 16 = d := ⟨_, rfl⟩
      have hd10 : d < 16 := by omega
      rw [hdd] at hstep
      have z1 : (m : Int).tmod 16 = (d : Int) := by rw [Int.tmod_eq_emod_of_nonneg (by omega)]; omega
      have z2 : (m : Int).tdiv 16 = ((m / 16 : Nat) : Int) := by rw [Int.tdiv_eq_ediv_of_nonneg (by omega)]; omega
      have z3 : IntKind.i64.wrap ((d : Int) + 1) = (d : Int) + 1 := by rw [IntKind.wrap_i64]; omega
      have z5 := hex_ d hd10
      have z6 : IntKind.i64.wrap (d : Int) = (d : Int) := by rw [IntKind.wrap_i64]; omega
      have z7 : IntKind.i64.wrap ((m / 16 : Nat) : Int) = ((m / 16 : Nat) : Int) := by rw [IntKind.wrap_i64]; omega
      obtain ⟨cc, hcc⟩ : ∃ cc, digP up d = cc := ⟨_, rfl⟩
      rw [hcc] at z5 hstep
      have Hdd := Lib.hid hdd; clear hdd
      have Hd := Lib.hid hd; clear hd
      have Hstep := Lib.hid hstep; clear hstep
      clear hex_ hcc
      have ec := cat_hex cc acc
      by_cases hm0 : 0 < m
      · have z8 : (0 : Int) < (m : Int) := by omega
        go_wp2_with fail
        refine ⟨⟨m / 16, cc :: acc, by omega, by simp, rfl, by rw [Hstep.out, Hd.out], by first | trivial | exact hb⟩, ?_⟩
        show 2 * ((m : Int) / 16).toNat + (if (⟨(cc :: acc).toArray⟩ : ByteArray).size = 0 then 1 else 0) < 2 * (m : Int).toNat + _
        rw [str_size, if_neg (by simp)]
        omega
      · have hacc : acc = [] := by rcases hc with hc | hc; exact absurd hc hm0; exact hc
        subst hacc
        have z8 : ¬ (0 : Int) < (m : Int) := by omega
        go_wp2_with fail
        refine ⟨⟨m / 16, [cc], by omega, by simp, rfl, by rw [Hstep.out, Hd.out], by first | trivial | exact hb⟩, ?_⟩
        show 2 * ((m : Int) / 16).toNat + (if (⟨[cc].toArray⟩ : ByteArray).size = 0 then 1 else 0) < 2 * (m : Int).toNat + (if (⟨([] : Bs).toArray⟩ : ByteArray).size = 0 then 1 else 0)
        rw [str_size, str_size, if_neg (by simp), if_pos (show ([] : Bs).length = 0 from rfl)]
        omega
    · have z8 : ¬ (0 : Int) < (m : Int) := fun e => hc (Or.inl (by omega))
      have hne : acc ≠ [] := fun e => hc (Or.inr e)
      have z9 : acc.isEmpty = false := by simp [hne]
      have hfin : hexT up n = acc := by rw [← hd]; exact if_pos ⟨by omega, hne⟩
      have Hfin := Lib.hid hfin
      clear hd hc hne hfin hlen
      go_wp2
      go_ret
      exact ⟨by rw [Hfin.out]; rfl, by first | rfl | exact hb⟩
end Go.Proofs.YtcjapjnhejenaaaDoor
