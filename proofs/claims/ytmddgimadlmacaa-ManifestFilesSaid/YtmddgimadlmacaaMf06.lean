import Derived.Test.YtmddgimadlmacaaMf05
import Derived.BigQuiet
import Derived.Deep.QuietTactic
namespace Go.Proofs.Ytmddgimadlmacaa
open Go.RowKit Garner

/-- a block of bytes just made, as a row of the call's own -/
theorem ownB_lit (w : World) (B : Nat) (l : List UInt8) (h : B ≤ w.heap.size) (hl : l.length ≤ 1000) : OwnB (w.alloc (.cells (l.map bv).toArray 5)) B (.slice (some ⟨w.heap.size, 0, none⟩) l.length l.length) l := by
  have := World.ownsRow_lit (base := B) (e := 5) (size := 1) w (l.map bv).toArray l.length h (by simp only [maxLen]; omega) (by simp)
  simpa [OwnB] using this

set_option maxHeartbeats 1000000 in
theorem rOne : ∀ (f n : Nat) (w : World), (n : Int) < 128 ^ (f + 1) → n < 18446744073709551616 → f ≤ 9 →
    Calls Try.prog 75 #[.int .u64 n] w fun e w' => ∃ v, e = .returned v ∧ OwnB w' w.heap.size v (put1 n) ∧ Below w.heap.size w w' := by
  intro f
  induction f with
  | zero =>
    intro n w hn _ _
    have h128 : (n : Int) < 128 := by simpa using hn
    clear hn
    go_enter Try.func75, Try.ntmps75
    go_wp2
    go_ret
    have := ownB_lit w w.heap.size (put1 n) (Nat.le_refl _) (by rw [put1_small (by omega)]; simp)
    rw [put1_small (by omega)] at this ⊢
    simp only [List.map_cons, List.map_nil, bv, ofNat_toNat (show n < 256 by omega)] at this
    exact ⟨_, rfl, this, (Below.refl _ _).alloc (Nat.le_refl _) _⟩
  | succ f ih =>
    intro n w hn hn64 hf
    have Hih := Lib.hid ih; clear ih
    have Hn := Lib.hid hn; clear hn
    by_cases h128 : (n : Int) < 128
    · clear hn64
      go_enter Try.func75, Try.ntmps75
      go_wp2
      go_ret
      have := ownB_lit w w.heap.size (put1 n) (Nat.le_refl _) (by rw [put1_small (by omega)]; simp)
      rw [put1_small (by omega)] at this ⊢
      simp only [List.map_cons, List.map_nil, bv, ofNat_toNat (show n < 256 by omega)] at this
      exact ⟨_, rfl, this, (Below.refl _ _).alloc (Nat.le_refl _) _⟩
    · have hdiv : ((n / 128 : Nat) : Int) < 128 ^ (f + 1) := by
        have := Hn.out
        rw [show ((128 : Int) ^ (f + 1 + 1)) = ((128 ^ (f + 1 + 1) : Nat) : Int) by simp] at this
        rw [show ((128 : Int) ^ (f + 1)) = ((128 ^ (f + 1) : Nat) : Int) by simp]
        have h2 : n < 128 ^ (f + 1 + 1) := by omega
        rw [Nat.pow_succ] at h2
        have := (Nat.div_lt_iff_lt_mul (show 0 < 128 by omega)).2 h2
        omega
      have Hdiv := Lib.hid hdiv; clear hdiv
      have hn64' : (n : Int) < 18446744073709551616 := by omega
      have Hn64 := Lib.hid hn64; clear hn64
      go_enter Try.func75, Try.ntmps75
      go_wp2_with fail
      rw [show ((n : Int) / 128) = ((n / 128 : Nat) : Int) by omega]
      refine (Hih.out (n / 128) _ Hdiv.out (by have := Hn64.out; omega) (by omega)).mono ?_
      rintro e w1 ⟨v, rfl, hown, hbel⟩
      simp only [World.size_alloc] at hown hbel
      obtain ⟨A, c, rfl, hrow⟩ := hown.shape
      have hl10 := put1_len (n := n / 128) (by have := Hn64.out; omega)
      have Hl10 := Lib.hid hl10; clear hl10
      have h0 := ownB_lit w w.heap.size [UInt8.ofNat (n % 128 + 128)] (Nat.le_refl _) (by simp)
      simp only [List.map_cons, List.map_nil, bv, ofNat_toNat (show n % 128 + 128 < 256 by omega), List.length_cons, List.length_nil, show ((n % 128 + 128 : Nat) : Int) = 128 + (n : Int) % 128 by omega] at h0
      have hown0 := h0.kept (row := none) ⟨hbel.os, hbel.tape, hbel.output, hbel.size, fun k hk _ => hbel.block k (by simpa using hk)⟩ (.inr (by simp [Value.ownBlock]))
      have hs1 : w.heap.size + 1 ≤ w1.heap.size := by have := hbel.size; simpa using this
      go_wp2_with (at_builtin; refine wpList_app _ rfl bytesE rfl rfl hown0 rfl hrow (bv_one _) (by have := Hl10.out; simp only [List.length_cons, List.length_nil]; omega) (by omega) ?_; intro v2 w2 hown2 _ hbel2 _)
      go_ret
      rw [put1_big (n := n) (by omega)]
      refine ⟨_, rfl, ?_, (((Below.refl _ _).alloc (Nat.le_refl _) _).trans (hbel.mono (by omega))).trans hbel2⟩
      show OwnB w2 _ v2 (_ :: _)
      simpa [OwnB, Nat.add_comm] using hown2

theorem xor_ones64 (a : Nat) (h : a < 18446744073709551616) : a ^^^ 18446744073709551615 = 18446744073709551615 - a := by
  have := congrArg BitVec.toNat (BitVec.xor_allOnes (x := BitVec.ofNat 64 a))
  simp only [BitVec.toNat_xor, BitVec.toNat_ofNat, BitVec.toNat_allOnes, BitVec.toNat_not] at this
  rw [Nat.mod_eq_of_lt (by omega)] at this
  omega
theorem u64_xor_ones (a : Nat) (h : a < 18446744073709551616) : bits .xor .u64 (a : Int) 18446744073709551615 = ((18446744073709551615 - a : Nat) : Int) := by
  rw [show (18446744073709551615 : Int) = ((18446744073709551615 : Nat) : Int) by rfl, u64_xor_nat _ _ h (by omega), xor_ones64 a h]
theorem i64_xor_ones (a : Nat) (h : a < 9223372036854775808) : bits .xor .i64 (a : Int) (-1) = -(a : Int) - 1 := by
  have e1 : (BitVec.ofInt 64 (a : Int)).toNat = a := by rw [BitVec.ofInt_natCast, BitVec.toNat_ofNat]; exact Nat.mod_eq_of_lt (by omega)
  have e2 : BitVec.ofInt 64 (-1) = BitVec.allOnes 64 := by decide
  show IntKind.i64.wrap ((BitVec.ofInt 64 (a : Int) ^^^ BitVec.ofInt 64 (-1)).toNat : Int) = _
  rw [e2, BitVec.xor_allOnes, BitVec.toNat_not, e1, IntKind.wrap_i64]
  omega
theorem i64_xor_zero (a : Nat) (h : a < 9223372036854775808) : bits .xor .i64 (a : Int) 0 = a := by
  have e1 : (BitVec.ofInt 64 (a : Int)).toNat = a := by rw [BitVec.ofInt_natCast, BitVec.toNat_ofNat]; exact Nat.mod_eq_of_lt (by omega)
  show IntKind.i64.wrap ((BitVec.ofInt 64 (a : Int) ^^^ BitVec.ofInt 64 0).toNat : Int) = _
  rw [show BitVec.ofInt 64 0 = 0#64 by rfl, BitVec.xor_zero, e1, IntKind.wrap_i64]
  omega
theorem zig_calc (n : Int) (h1 : -9223372036854775808 ≤ n) (h2 : n ≤ 9223372036854775807) (s : Int) (hs : s = if 0 ≤ n then 0 else -1) :
    bits .xor .u64 (IntKind.u64.wrap (wrap64 (n * 2))) (IntKind.u64.wrap s) = (zig n : Nat) := by
  unfold zig
  by_cases h : 0 ≤ n
  · rw [if_pos h] at hs ⊢
    subst hs
    have e : IntKind.u64.wrap (wrap64 (n * 2)) = (((2 * n).toNat : Nat) : Int) := by unfold wrap64; rw [IntKind.wrap_u64]; omega
    rw [e, show IntKind.u64.wrap 0 = ((0 : Nat) : Int) by rfl, u64_xor_nat _ _ (by omega) (by omega), Nat.xor_zero]
  · rw [if_neg h] at hs ⊢
    subst hs
    have e : IntKind.u64.wrap (wrap64 (n * 2)) = (((18446744073709551616 + 2 * n).toNat : Nat) : Int) := by unfold wrap64; rw [IntKind.wrap_u64]; omega
    rw [e, show IntKind.u64.wrap (-1) = 18446744073709551615 by rfl, u64_xor_ones _ (by omega)]
    omega

set_option maxHeartbeats 1000000 in
theorem vZig (n : Int) (w : World) (h1 : -9223372036854775808 ≤ n) (h2 : n ≤ 9223372036854775807) :
    Calls Try.prog 49 #[.int .i64 n] w fun e w' => e = .returned (.int .u64 (zig n)) ∧ w = w' := by
  go_enter Try.func49, Try.ntmps49
  go_wp2
  go_ret
  refine ⟨?_, rfl⟩
  exact congrArg (fun z : Int => Ending.returned (.int .u64 z)) (zig_calc n h1 h2 _ (by split <;> omega))
set_option maxHeartbeats 1000000 in
theorem vZag (n : Nat) (w : World) (h2 : (n : Int) ≤ 18446744073709551615) :
    Calls Try.prog 79 #[.int .u64 n] w fun e w' => e = .returned (.int .i64 (zag n)) ∧ w = w' := by
  go_enter Try.func79, Try.ntmps79
  go_wp2
  go_ret
  refine ⟨congrArg (fun z : Int => Ending.returned (.int .i64 z)) ?_, rfl⟩
  rw [and_one_u64 _ (by omega) h2]
  unfold zag
  by_cases h : n % 2 = 0
  · rw [if_pos h, show ((n : Int) % 2) = 0 by omega, show ((n : Int) / 2) = ((n / 2 : Nat) : Int) by omega]
    rw [show wrap64 (-wrap64 0) = 0 by simp [wrap64]]
    exact i64_xor_zero (n / 2) (by omega)
  · rw [if_neg h, show ((n : Int) % 2) = 1 by omega, show ((n : Int) / 2) = ((n / 2 : Nat) : Int) by omega]
    rw [show wrap64 (-wrap64 1) = -1 by simp [wrap64]]
    exact i64_xor_ones (n / 2) (by omega)
set_option maxHeartbeats 1000000 in
theorem rZig (n : Int) (w : World) (h1 : -9223372036854775808 ≤ n) (h2 : n ≤ 9223372036854775807) :
    Calls Try.prog 52 #[.int .i64 n] w fun e w' => e = .returned (.int .u64 (zig n)) ∧ w = w' := by
  by_cases h : 0 ≤ n
  all_goals
    go_enter Try.func52, Try.ntmps52
    go_wp2
    go_ret
    exact ⟨congrArg (fun z : Int => Ending.returned (.int .u64 z)) (by unfold zig; split <;> omega), rfl⟩
set_option maxHeartbeats 1000000 in
theorem rZag (n : Nat) (w : World) (h2 : (n : Int) ≤ 18446744073709551615) :
    Calls Try.prog 61 #[.int .u64 n] w fun e w' => e = .returned (.int .i64 (zag n)) ∧ w = w' := by
  by_cases h : n % 2 = 0
  all_goals
    obtain ⟨q, hq⟩ : ∃ q, ((n : Int) % 2 == 0) = q := ⟨_, rfl⟩
    have hq' : q = decide (n % 2 = 0) := by rw [← hq, Bool.eq_iff_iff]; simp; omega
    simp only [h, decide_true, decide_false] at hq'
    subst hq'
    have H := Lib.hid h; clear h
    go_enter Try.func61, Try.ntmps61
    go_wp2
    go_ret
    exact ⟨congrArg (fun z : Int => Ending.returned (.int .i64 z)) (by have := H.out; unfold zag; split <;> omega), rfl⟩
end Go.Proofs.Ytmddgimadlmacaa
namespace Go.Proofs.Ytmddgimadlmacaa
open Go.RowKit Garner

theorem crc_end (l : List UInt8) : bits .xor .u32 IntKind.u32.max (crcAt l : Nat) = (crc l : Nat) := by
  have h := crcAt_lt l
  rw [crc_eq]
  have h2 := congrArg BitVec.toNat (BitVec.allOnes_xor (x := BitVec.ofNat 32 (crcAt l)))
  simp only [BitVec.toNat_xor, BitVec.toNat_ofNat, BitVec.toNat_allOnes, BitVec.toNat_not] at h2
  rw [Nat.mod_eq_of_lt (show crcAt l < 2 ^ 32 by omega), show (2 ^ 32 - 1 : Nat) = 4294967295 by rfl] at h2
  rw [show IntKind.u32.max = ((4294967295 : Nat) : Int) by rfl, u32_xor_nat _ _ (by omega) (by omega)]
  rw [h2]
theorem and_poly (q : Nat) : bits .and .u32 3988292384 ((-((q % 2 : Nat) : Int)) % 4294967296) = ((if q % 2 = 1 then 3988292384 else 0 : Nat) : Int) := by
  by_cases h : q % 2 = 1
  · rw [if_pos h, h]; decide
  · rw [if_neg h, show q % 2 = 0 by omega]; decide
theorem and_one_u32 (y : Nat) (h : y < 4294967296) : bits .and .u32 (y : Int) 1 = ((y % 2 : Nat) : Int) := by
  rw [show (1 : Int) = ((1 : Nat) : Int) by rfl, u32_and_nat _ _ h (by omega), Nat.and_one_is_mod]
theorem crc_step (y : Nat) (h : y < 4294967296) : bits .xor .u32 ((y : Int) / 2) (bits .and .u32 3988292384 (IntKind.u32.wrap (-bits .and .u32 (y : Int) 1))) = (crcBit y : Nat) := by
  rw [and_one_u32 y h, IntKind.wrap_u32, and_poly, show ((y : Int) / 2) = ((y / 2 : Nat) : Int) by omega]
  unfold crcBit
  by_cases h1 : y % 2 = 1
  · rw [if_pos h1, if_pos h1, u32_xor_nat _ _ (by omega) (by omega)]
  · rw [if_neg h1, if_neg h1, u32_xor_nat _ _ (by omega) (by omega), Nat.xor_zero]

set_option maxHeartbeats 1000000 in
theorem vSum (l : List UInt8) (A : Option Addr) (c0 B g : Nat) (w : World) (hg : w.cell? ⟨g, 0, none⟩ = some (.slice A l.length c0)) (hr : Bytes w B A l.length l) (hl : l.length ≤ 140737488355328) :
    Calls Try.prog 74 #[.slice (some ⟨g, 0, none⟩) 1 1] w fun e w' => e = .returned (.int .u32 (crc l)) ∧ w = w' := by
  go_enter Try.func74, Try.ntmps74
  go_wp2
  go_loop [3, 10] (fun v i => ∃ k : Nat, k ≤ 1 ∧ i = .int .i64 k ∧ v = .int .u32 (crcAt (l.take (k * l.length)))) (fun _ i => 1 - (intOf i).toNat)
  case atStart => exact ⟨0, by omega, rfl, by simp [crcAt_nil]⟩
  case round =>
    obtain ⟨k, hk, rfl, rfl⟩ := hrel
    by_cases hk1 : k < 1
    · obtain rfl : k = 0 := by omega
      clear hk hk1
      simp only [Nat.zero_mul, List.take_zero]
      go_wp2
      go_loop [3, 16] (fun v i => ∃ j : Nat, j ≤ l.length ∧ i = .int .i64 j ∧ v = .int .u32 (crcAt (l.take j))) (fun _ i => l.length - (intOf i).toNat)
      case atStart => exact ⟨0, by omega, rfl, by simp⟩
      case round =>
        obtain ⟨j, hj, rfl, rfl⟩ := hrel
        by_cases hlt : j < l.length
        · obtain ⟨b, off, rfl, hb, hcell⟩ := hr.at_ hlt
          have hc1 : w.cell? ⟨b, off + j, none⟩ = some (.int .u8 (l[j].toNat : Nat)) := by
            have := hcell j (by simpa using hlt); simpa [bv] using this
          clear hcell
          obtain ⟨c, hc, hcl⟩ : ∃ c : Nat, c = crcAt (l.take j) ∧ (c : Int) < 4294967296 := ⟨_, rfl, by have := crcAt_lt (l.take j); omega⟩
          rw [← hc]
          have Hc := Lib.hid hc; clear hc
          obtain ⟨x, hx, hxl⟩ : ∃ x : Nat, x = l[j].toNat ∧ (x : Int) < 256 := ⟨_, rfl, by have := l[j].toNat_lt; omega⟩
          rw [← hx] at hc1
          have Hx := Lib.hid hx; clear hx
          have hxm : (x : Int) % 4294967296 = x := by omega
          go_wp2
          go_loop [3, 24] (fun v i => ∃ r y : Nat, r ≤ 8 ∧ i = .int .i64 r ∧ v = .int .u32 y ∧ (y : Int) < 4294967296 ∧ crcBits (8 - r) y = crcBits 8 (c ^^^ x)) (fun _ i => 8 - (intOf i).toNat)
          case atStart =>
            refine ⟨0, c ^^^ x, by omega, rfl, ?_, ?_, rfl⟩
            · congr 1; first | (rw [hxm]; exact u32_xor_nat c x (by omega) (by omega)) | exact u32_xor_nat c x (by omega) (by omega)
            · have := Nat.xor_lt_two_pow (n := 32) (show c < 2 ^ 32 by omega) (show x < 2 ^ 32 by omega); omega
          case round =>
            obtain ⟨r, y, hr8, rfl, rfl, hy, hinv⟩ := hrel
            have Hinv := Lib.hid hinv; clear hinv
            by_cases hr1 : (r : Int) < 8
            · go_wp2
              go_round
              case rel =>
                refine ⟨r + 1, crcBit y, by omega, by go_num, congrArg (Value.int .u32) ?_, by have := crcBit_lt (c := y) (by omega); omega, ?_⟩
                · exact crc_step y (by omega)
                · rw [← Hinv.out, show 8 - r = (8 - (r + 1)) + 1 by omega]; rfl
              case measure => simp [intOf]; omega
            · go_wp2
              go_round
              case rel => exact ⟨j + 1, by omega, by go_num, by
                rw [crcAt_take l j hlt, ← Hc.out]; unfold crcByte; rw [← Hx.out, ← Hinv.out, show 8 - r = 0 by omega]; rfl⟩
              case measure => simp [intOf]; omega
        · go_wp2
          go_round
          case rel => exact ⟨1, by omega, by go_num, by rw [Nat.one_mul, show j = l.length by omega]⟩
          case measure => simp [intOf]
    · obtain rfl : k = 1 := by omega
      have hc' : Hid (crcAt (l.take (1 * l.length)) = crcAt l) := by rw [Nat.one_mul, List.take_length]; rfl
      go_wp2
      go_ret
      exact ⟨congrArg (fun z : Int => Ending.returned (.int .u32 z)) (crc_end l), rfl⟩

set_option maxHeartbeats 1000000 in
theorem rSum (l : List UInt8) (A : Option Addr) (c0 B : Nat) (w : World) (hr : Bytes w B A l.length l) (hl : l.length ≤ 140737488355328) :
    Calls Try.prog 77 #[.slice A l.length c0] w fun e w' => e = .returned (.int .u32 (crc l)) ∧ w = w' := by
  go_enter Try.func77, Try.ntmps77
  go_wp2
  go_loop [3, 4] (fun v i => ∃ j : Nat, j ≤ l.length ∧ i = .int .i64 j ∧ v = .int .u32 (crcAt (l.take j))) (fun _ i => l.length - (intOf i).toNat)
  case atStart => exact ⟨0, by omega, rfl, by simp [crcAt_nil]⟩
  case round =>
    obtain ⟨j, hj, rfl, rfl⟩ := hrel
    by_cases hlt : j < l.length
    · obtain ⟨b, off, rfl, hb, hcell⟩ := hr.at_ hlt
      have hc1 : w.cell? ⟨b, off + j, none⟩ = some (.int .u8 (l[j].toNat : Nat)) := by
        have := hcell j (by simpa using hlt); simpa [bv] using this
      clear hcell
      obtain ⟨c, hc, hcl⟩ : ∃ c : Nat, c = crcAt (l.take j) ∧ (c : Int) < 4294967296 := ⟨_, rfl, by have := crcAt_lt (l.take j); omega⟩
      rw [← hc]
      have Hc := Lib.hid hc; clear hc
      obtain ⟨x, hx, hxl⟩ : ∃ x : Nat, x = l[j].toNat ∧ (x : Int) < 256 := ⟨_, rfl, by have := l[j].toNat_lt; omega⟩
      rw [← hx] at hc1
      have Hx := Lib.hid hx; clear hx
      have hxm : (x : Int) % 4294967296 = x := by omega
      go_wp2
      go_loop [3, 5] (fun v i => ∃ r y : Nat, r ≤ 8 ∧ i = .int .i64 r ∧ v = .int .u32 y ∧ (y : Int) < 4294967296 ∧ crcBits (8 - r) y = crcBits 8 (c ^^^ x)) (fun _ i => 8 - (intOf i).toNat)
      case atStart =>
        refine ⟨0, c ^^^ x, by omega, rfl, ?_, ?_, rfl⟩
        · congr 1; first | (rw [hxm]; exact u32_xor_nat c x (by omega) (by omega)) | exact u32_xor_nat c x (by omega) (by omega)
        · have := Nat.xor_lt_two_pow (n := 32) (show c < 2 ^ 32 by omega) (show x < 2 ^ 32 by omega); omega
      case round =>
        obtain ⟨r, y, hr8, rfl, rfl, hy, hinv⟩ := hrel
        have Hinv := Lib.hid hinv; clear hinv
        by_cases hr1 : (r : Int) < 8
        · obtain ⟨q, hq⟩ : ∃ q, ((y : Int) % 2 == 1) = q := ⟨_, rfl⟩
          have Hq : Hid (q = decide (y % 2 = 1)) := by rw [Hid, ← hq, Bool.eq_iff_iff]; simp; omega
          cases q
          all_goals
            go_wp2
            go_round
            case rel =>
              refine ⟨r + 1, crcBit y, by omega, by go_num, congrArg (Value.int .u32) ?_, by have := crcBit_lt (c := y) (by omega); omega, ?_⟩
              · have := Hq.out
                unfold crcBit
                first
                  | (rw [if_neg (by simpa using this)]; omega)
                  | (rw [if_pos (by simpa using this), show ((y : Int) / 2) = ((y / 2 : Nat) : Int) by omega]; exact u32_xor_nat (y / 2) 3988292384 (by omega) (by decide))
              · rw [← Hinv.out, show 8 - r = (8 - (r + 1)) + 1 by omega]; rfl
            case measure => simp [intOf]; omega
        · go_wp2
          go_round
          case rel => exact ⟨j + 1, by omega, by go_num, by
            rw [crcAt_take l j hlt, ← Hc.out]; unfold crcByte; rw [← Hx.out, ← Hinv.out, show 8 - r = 0 by omega]; rfl⟩
          case measure => simp [intOf]; omega
    · obtain rfl : j = l.length := by omega
      have hc' : Hid (crcAt (l.take l.length) = crcAt l) := by rw [List.take_length]; rfl
      go_wp2
      go_ret
      exact ⟨congrArg (fun z : Int => Ending.returned (.int .u32 z)) (by rw [crc_eq]; have := crcAt_lt l; omega), rfl⟩

set_option maxHeartbeats 1000000 in
theorem rFour (s : Nat) (w : World) (hs : (s : Int) < 4294967296) :
    Calls Try.prog 76 #[.int .u32 s] w fun e w' => ∃ v, e = .returned v ∧ OwnB w' w.heap.size v (four s) ∧ w' = w.alloc (.cells ((four s).map bv).toArray 5) := by
  go_enter Try.func76, Try.ntmps76
  go_wp2
  go_ret
  have e : (four s).map bv = [.int .u8 ((s : Int) % 256), .int .u8 ((s : Int) / 256 % 256), .int .u8 ((s : Int) / 65536 % 256), .int .u8 ((s : Int) / 16777216)] := by
    simp only [four, List.map_cons, List.map_nil, bv]
    rw [ofNat_toNat (by omega), ofNat_toNat (by omega), ofNat_toNat (by omega), ofNat_toNat (by omega)]
    simp only [List.cons.injEq, Value.int.injEq, and_true, true_and]
    omega
  have := ownB_lit w w.heap.size (four s) (Nat.le_refl _) (by simp [four])
  have hw : w.alloc (.cells #[.int .u8 ((s : Int) % 256), .int .u8 ((s : Int) / 256 % 256), .int .u8 ((s : Int) / 65536 % 256), .int .u8 ((s : Int) / 16777216)] 5) = w.alloc (.cells ((four s).map bv).toArray 5) := by rw [e]
  rw [hw]
  exact ⟨_, rfl, this, rfl⟩
end Go.Proofs.Ytmddgimadlmacaa
