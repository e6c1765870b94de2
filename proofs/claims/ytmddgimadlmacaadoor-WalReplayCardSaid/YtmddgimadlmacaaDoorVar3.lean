import Derived.Test.YtmddgimadlmacaaDoorVar2
namespace Go.Proofs.YtmddgimadlmacaaDoor
open Go.RowKit Garner

/-- a block of bytes just made, as a row of the call's own -/
theorem ownB_lit (w : World) (B : Nat) (l : List UInt8) (h : B ≤ w.heap.size) (hl : l.length ≤ 1000) : OwnB (w.alloc (.cells (l.map bv).toArray 5)) B (.slice (some ⟨w.heap.size, 0, none⟩) l.length l.length) l := by
  have := World.ownsRow_lit (base := B) (e := 5) (size := 1) w (l.map bv).toArray l.length h (by simp only [maxLen]; omega) (by simp)
  simpa [OwnB] using this

set_option maxHeartbeats 1000000 in
theorem rOne : ∀ (f n : Nat) (w : World), (n : Int) < 128 ^ (f + 1) → n < 18446744073709551616 → f ≤ 9 →
    Calls Tryd.prog 64 #[.int .u64 n] w fun e w' => ∃ v, e = .returned v ∧ OwnB w' w.heap.size v (put1 n) ∧ Below w.heap.size w w' := by
  intro f
  induction f with
  | zero =>
    intro n w hn _ _
    have h128 : (n : Int) < 128 := by simpa using hn
    clear hn
    go_enter Tryd.func64, Tryd.ntmps64
    go_wp2
    go_ret
    have := ownB_lit w w.heap.size (put1 n) (Nat.le_refl _) (by rw [put1_small (by omega)]; simp)
    rw [put1_small (by omega)] at this ⊢
    simp only [List.map_cons, List.map_nil, bv, ofNat_toNat (show n < 256 by omega)] at this
    exact ⟨_, rfl, this, (Below.refl _ _).alloc (Nat.le_refl _) _⟩
  | succ f ih =>
    intro n w hn hn64 hf
    have Hih := Lib.hid ih; clear ih
    have Hn := Lib.hid hn; clear hn
    by_cases h128 : (n : Int) < 128
    · clear hn64
      go_enter Tryd.func64, Tryd.ntmps64
      go_wp2
      go_ret
      have := ownB_lit w w.heap.size (put1 n) (Nat.le_refl _) (by rw [put1_small (by omega)]; simp)
      rw [put1_small (by omega)] at this ⊢
      simp only [List.map_cons, List.map_nil, bv, ofNat_toNat (show n < 256 by omega)] at this
      exact ⟨_, rfl, this, (Below.refl _ _).alloc (Nat.le_refl _) _⟩
    · have hdiv : ((n / 128 : Nat) : Int) < 128 ^ (f + 1) := by
        have := Hn.out
        rw [show ((128 : Int) ^ (f + 1 + 1)) = ((128 ^ (f + 1 + 1) : Nat) : Int) by simp] at this
        rw [show ((128 : Int) ^ (f + 1)) = ((128 ^ (f + 1) : Nat) : Int) by simp]
        have h2 : n < 128 ^ (f + 1 + 1) := by omega
        rw [Nat.pow_succ] at h2
        have := (Nat.div_lt_iff_lt_mul (show 0 < 128 by omega)).2 h2
        omega
      have Hdiv := Lib.hid hdiv; clear hdiv
      have hn64' : (n : Int) < 18446744073709551616 := by omega
      have Hn64 := Lib.hid hn64; clear hn64
      go_enter Tryd.func64, Tryd.ntmps64
      go_wp2_with fail
      rw [show ((n : Int) / 128) = ((n / 128 : Nat) : Int) by omega]
      refine (Hih.out (n / 128) _ Hdiv.out (by have := Hn64.out; omega) (by omega)).mono ?_
      rintro e w1 ⟨v, rfl, hown, hbel⟩
      simp only [World.size_alloc] at hown hbel
      obtain ⟨A, c, rfl, hrow⟩ := hown.shape
      have hl10 := put1_len (n := n / 128) (by have := Hn64.out; omega)
      have Hl10 := Lib.hid hl10; clear hl10
      have h0 := ownB_lit w w.heap.size [UInt8.ofNat (n % 128 + 128)] (Nat.le_refl _) (by simp)
      simp only [List.map_cons, List.map_nil, bv, ofNat_toNat (show n % 128 + 128 < 256 by omega), List.length_cons, List.length_nil, show ((n % 128 + 128 : Nat) : Int) = 128 + (n : Int) % 128 by omega] at h0
      have hown0 := h0.kept (row := none) ⟨hbel.os, hbel.tape, hbel.output, hbel.size, fun k hk _ => hbel.block k (by simpa using hk)⟩ (.inr (by simp [Value.ownBlock]))
      have hs1 : w.heap.size + 1 ≤ w1.heap.size := by have := hbel.size; simpa using this
      go_wp2_with (at_builtin; refine wpList_app _ rfl bytesE rfl rfl hown0 rfl hrow (bv_one _) (by have := Hl10.out; simp only [List.length_cons, List.length_nil]; omega) (by omega) ?_; intro v2 w2 hown2 _ hbel2 _)
      go_ret
      rw [put1_big (n := n) (by omega)]
      refine ⟨_, rfl, ?_, (((Below.refl _ _).alloc (Nat.le_refl _) _).trans (hbel.mono (by omega))).trans hbel2⟩
      show OwnB w2 _ v2 (_ :: _)
      simpa [OwnB, Nat.add_comm] using hown2

theorem xor_ones64 (a : Nat) (h : a < 18446744073709551616) : a ^^^ 18446744073709551615 = 18446744073709551615 - a := by
  have := congrArg BitVec.toNat (BitVec.xor_allOnes (x := BitVec.ofNat 64 a))
  simp only [BitVec.toNat_xor, BitVec.toNat_ofNat, BitVec.toNat_allOnes, BitVec.toNat_not] at this
  rw [Nat.mod_eq_of_lt (by omega)] at this
  omega
theorem u64_xor_ones (a : Nat) (h : a < 18446744073709551616) : bits .xor .u64 (a : Int) 18446744073709551615 = ((18446744073709551615 - a : Nat) : Int) := by
  rw [show (18446744073709551615 : Int) = ((18446744073709551615 : Nat) : Int) by rfl, u64_xor_nat _ _ h (by omega), xor_ones64 a h]
theorem i64_xor_ones (a : Nat) (h : a < 9223372036854775808) : bits .xor .i64 (a : Int) (-1) = -(a : Int) - 1 := by
  have e1 : (BitVec.ofInt 64 (a : Int)).toNat = a := by rw [BitVec.ofInt_natCast, BitVec.toNat_ofNat]; exact Nat.mod_eq_of_lt (by omega)
  have e2 : BitVec.ofInt 64 (-1) = BitVec.allOnes 64 := by decide
  show IntKind.i64.wrap ((BitVec.ofInt 64 (a : Int) ^^^ BitVec.ofInt 64 (-1)).toNat : Int) = _
  rw [e2, BitVec.xor_allOnes, BitVec.toNat_not, e1, IntKind.wrap_i64]
  omega
theorem i64_xor_zero (a : Nat) (h : a < 9223372036854775808) : bits .xor .i64 (a : Int) 0 = a := by
  have e1 : (BitVec.ofInt 64 (a : Int)).toNat = a := by rw [BitVec.ofInt_natCast, BitVec.toNat_ofNat]; exact Nat.mod_eq_of_lt (by omega)
  show IntKind.i64.wrap ((BitVec.ofInt 64 (a : Int) ^^^ BitVec.ofInt 64 0).toNat : Int) = _
  rw [show BitVec.ofInt 64 0 = 0#64 by rfl, BitVec.xor_zero, e1, IntKind.wrap_i64]
  omega
theorem zig_calc (n : Int) (h1 : -9223372036854775808 ≤ n) (h2 : n ≤ 9223372036854775807) (s : Int) (hs : s = if 0 ≤ n then 0 else -1) :
    bits .xor .u64 (IntKind.u64.wrap (wrap64 (n * 2))) (IntKind.u64.wrap s) = (zig n : Nat) := by
  unfold zig
  by_cases h : 0 ≤ n
  · rw [if_pos h] at hs ⊢
    subst hs
    have e : IntKind.u64.wrap (wrap64 (n * 2)) = (((2 * n).toNat : Nat) : Int) := by unfold wrap64; rw [IntKind.wrap_u64]; omega
    rw [e, show IntKind.u64.wrap 0 = ((0 : Nat) : Int) by rfl, u64_xor_nat _ _ (by omega) (by omega), Nat.xor_zero]
  · rw [if_neg h] at hs ⊢
    subst hs
    have e : IntKind.u64.wrap (wrap64 (n * 2)) = (((18446744073709551616 + 2 * n).toNat : Nat) : Int) := by unfold wrap64; rw [IntKind.wrap_u64]; omega
    rw [e, show IntKind.u64.wrap (-1) = 18446744073709551615 by rfl, u64_xor_ones _ (by omega)]
    omega

end Go.Proofs.YtmddgimadlmacaaDoor
