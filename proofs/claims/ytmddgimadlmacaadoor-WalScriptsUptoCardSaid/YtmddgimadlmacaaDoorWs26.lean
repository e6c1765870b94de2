import Derived.Test.YtmddgimadlmacaaDoorWs25
import Derived.BigQuiet
import Derived.Deep.QuietTactic
namespace Go.Proofs.YtmddgimadlmacaaDoor
open Go.RowKit Garner

theorem crc_end (l : List UInt8) : bits .xor .u32 IntKind.u32.max (crcAt l : Nat) = (crc l : Nat) := by
  have h := crcAt_lt l
  rw [crc_eq]
  have h2 := congrArg BitVec.toNat (BitVec.allOnes_xor (x := BitVec.ofNat 32 (crcAt l)))
  simp only [BitVec.toNat_xor, BitVec.toNat_ofNat, BitVec.toNat_allOnes, BitVec.toNat_not] at h2
  rw [Nat.mod_eq_of_lt (show crcAt l < 2 ^ 32 by omega), show (2 ^ 32 - 1 : Nat) = 4294967295 by rfl] at h2
  rw [show IntKind.u32.max = ((4294967295 : Nat) : Int) by rfl, u32_xor_nat _ _ (by omega) (by omega)]
  rw [h2]
theorem and_poly (q : Nat) : bits .and .u32 3988292384 ((-((q % 2 : Nat) : Int)) % 4294967296) = ((if q % 2 = 1 then 3988292384 else 0 : Nat) : Int) := by
  by_cases h : q % 2 = 1
  · rw [if_pos h, h]; decide
  · rw [if_neg h, show q % 2 = 0 by omega]; decide
theorem and_one_u32 (y : Nat) (h : y < 4294967296) : bits .and .u32 (y : Int) 1 = ((y % 2 : Nat) : Int) := by
  rw [show (1 : Int) = ((1 : Nat) : Int) by rfl, u32_and_nat _ _ h (by omega), Nat.and_one_is_mod]
theorem crc_step (y : Nat) (h : y < 4294967296) : bits .xor .u32 ((y : Int) / 2) (bits .and .u32 3988292384 (IntKind.u32.wrap (-bits .and .u32 (y : Int) 1))) = (crcBit y : Nat) := by
  rw [and_one_u32 y h, IntKind.wrap_u32, and_poly, show ((y : Int) / 2) = ((y / 2 : Nat) : Int) by omega]
  unfold crcBit
  by_cases h1 : y % 2 = 1
  · rw [if_pos h1, if_pos h1, u32_xor_nat _ _ (by omega) (by omega)]
  · rw [if_neg h1, if_neg h1, u32_xor_nat _ _ (by omega) (by omega), Nat.xor_zero]

set_option maxHeartbeats 1000000 in
theorem vSum (l : List UInt8) (A : Option Addr) (c0 B g : Nat) (w : World) (hg : w.cell? ⟨g, 0, none⟩ = some (.slice A l.length c0)) (hr : Bytes w B A l.length l) (hl : l.length ≤ 140737488355328) :
    Calls Tryd.prog 38 #[.slice (some ⟨g, 0, none⟩) 1 1] w fun e w' => e = .returned (.int .u32 (crc l)) ∧ w = w' := by
  go_enter Tryd.func38, Tryd.ntmps38
  go_wp2
  go_loop [3, 10] (fun v i => ∃ k : Nat, k ≤ 1 ∧ i = .int .i64 k ∧ v = .int .u32 (crcAt (l.take (k * l.length)))) (fun _ i => 1 - (intOf i).toNat)
  case atStart => exact ⟨0, by omega, rfl, by simp [crcAt_nil]⟩
  case round =>
    obtain ⟨k, hk, rfl, rfl⟩ := hrel
    by_cases hk1 : k < 1
    · obtain rfl : k = 0 := by omega
      clear hk hk1
      simp only [Nat.zero_mul, List.take_zero]
      go_wp2
      go_loop [3, 16] (fun v i => ∃ j : Nat, j ≤ l.length ∧ i = .int .i64 j ∧ v = .int .u32 (crcAt (l.take j))) (fun _ i => l.length - (intOf i).toNat)
      case atStart => exact ⟨0, by omega, rfl, by simp⟩
      case round =>
        obtain ⟨j, hj, rfl, rfl⟩ := hrel
        by_cases hlt : j < l.length
        · obtain ⟨b, off, rfl, hb, hcell⟩ := hr.at_ hlt
          have hc1 : w.cell? ⟨b, off + j, none⟩ = some (.int .u8 (l[j].toNat : Nat)) := by
            have := hcell j (by simpa using hlt); simpa [bv] using this
          clear hcell
          obtain ⟨c, hc, hcl⟩ : ∃ c : Nat, c = crcAt (l.take j) ∧ (c : Int) < 4294967296 := ⟨_, rfl, by have := crcAt_lt (l.take j); omega⟩
          rw [← hc]
          have Hc := Lib.hid hc; clear hc
          obtain ⟨x, hx, hxl⟩ : ∃ x : Nat, x = l[j].toNat ∧ (x : Int) < 256 := ⟨_, rfl, by have := l[j].toNat_lt; omega⟩
          rw [← hx] at hc1
          have Hx := Lib.hid hx; clear hx
          have hxm : (x : Int) % 4294967296 = x := by omega
          go_wp2
          go_loop [3, 24] (fun v i => ∃ r y : Nat, r ≤ 8 ∧ i = .int .i64 r ∧ v = .int .u32 y ∧ (y : Int) < 4294967296 ∧ crcBits (8 - r) y = crcBits 8 (c ^^^ x)) (fun _ i => 8 - (intOf i).toNat)
          case atStart =>
            refine ⟨0, c ^^^ x, by omega, rfl, ?_, ?_, rfl⟩
            · congr 1; first | (rw [hxm]; exact u32_xor_nat c x (by omega) (by omega)) | exact u32_xor_nat c x (by omega) (by omega)
            · have := Nat.xor_lt_two_pow (n := 32) (show c < 2 ^ 32 by omega) (show x < 2 ^ 32 by omega); omega
          case round =>
            obtain ⟨r, y, hr8, rfl, rfl, hy, hinv⟩ := hrel
            have Hinv := Lib.hid hinv; clear hinv
            by_cases hr1 : (r : Int) < 8
            · go_wp2
              go_round
              case rel =>
                refine ⟨r + 1, crcBit y, by omega, by go_num, congrArg (Value.int .u32) ?_, by have := crcBit_lt (c := y) (by omega); omega, ?_⟩
                · exact crc_step y (by omega)
                · rw [← Hinv.out, show 8 - r = (8 - (r + 1)) + 1 by omega]; rfl
              case measure => simp [intOf]; omega
            · go_wp2
              go_round
              case rel => exact ⟨j + 1, by omega, by go_num, by
                rw [crcAt_take l j hlt, ← Hc.out]; unfold crcByte; rw [← Hx.out, ← Hinv.out, show 8 - r = 0 by omega]; rfl⟩
              case measure => simp [intOf]; omega
        · go_wp2
          go_round
          case rel => exact ⟨1, by omega, by go_num, by rw [Nat.one_mul, show j = l.length by omega]⟩
          case measure => simp [intOf]
    · obtain rfl : k = 1 := by omega
      have hc' : Hid (crcAt (l.take (1 * l.length)) = crcAt l) := by rw [Nat.one_mul, List.take_length]; rfl
      go_wp2
      go_ret
      exact ⟨congrArg (fun z : Int => Ending.returned (.int .u32 z)) (crc_end l), rfl⟩

set_option maxHeartbeats 1000000 in
theorem rSum (l : List UInt8) (A : Option Addr) (c0 B : Nat) (w : World) (hr : Bytes w B A l.length l) (hl : l.length ≤ 140737488355328) :
    Calls Tryd.prog 66 #[.slice A l.length c0] w fun e w' => e = .returned (.int .u32 (crc l)) ∧ w = w' := by
  go_enter Tryd.func66, Tryd.ntmps66
  go_wp2
  go_loop [3, 4] (fun v i => ∃ j : Nat, j ≤ l.length ∧ i = .int .i64 j ∧ v = .int .u32 (crcAt (l.take j))) (fun _ i => l.length - (intOf i).toNat)
  case atStart => exact ⟨0, by omega, rfl, by simp [crcAt_nil]⟩
  case round =>
    obtain ⟨j, hj, rfl, rfl⟩ := hrel
    by_cases hlt : j < l.length
    · obtain ⟨b, off, rfl, hb, hcell⟩ := hr.at_ hlt
      have hc1 : w.cell? ⟨b, off + j, none⟩ = some (.int .u8 (l[j].toNat : Nat)) := by
        have := hcell j (by simpa using hlt); simpa [bv] using this
      clear hcell
      obtain ⟨c, hc, hcl⟩ : ∃ c : Nat, c = crcAt (l.take j) ∧ (c : Int) < 4294967296 := ⟨_, rfl, by have := crcAt_lt (l.take j); omega⟩
      rw [← hc]
      have Hc := Lib.hid hc; clear hc
      obtain ⟨x, hx, hxl⟩ : ∃ x : Nat, x = l[j].toNat ∧ (x : Int) < 256 := ⟨_, rfl, by have := l[j].toNat_lt; omega⟩
      rw [← hx] at hc1
      have Hx := Lib.hid hx; clear hx
      have hxm : (x : Int) % 4294967296 = x := by omega
      go_wp2
      go_loop [3, 5] (fun v i => ∃ r y : Nat, r ≤ 8 ∧ i = .int .i64 r ∧ v = .int .u32 y ∧ (y : Int) < 4294967296 ∧ crcBits (8 - r) y = crcBits 8 (c ^^^ x)) (fun _ i => 8 - (intOf i).toNat)
      case atStart =>
        refine ⟨0, c ^^^ x, by omega, rfl, ?_, ?_, rfl⟩
        · congr 1; first | (rw [hxm]; exact u32_xor_nat c x (by omega) (by omega)) | exact u32_xor_nat c x (by omega) (by omega)
        · have := Nat.xor_lt_two_pow (n := 32) (show c < 2 ^ 32 by omega) (show x < 2 ^ 32 by omega); omega
      case round =>
        obtain ⟨r, y, hr8, rfl, rfl, hy, hinv⟩ := hrel
        have Hinv := Lib.hid hinv; clear hinv
        by_cases hr1 : (r : Int) < 8
        · obtain ⟨q, hq⟩ : ∃ q, ((y : Int) % 2 == 1) = q := ⟨_, rfl⟩
          have Hq : Hid (q = decide (y % 2 = 1)) := by rw [Hid, ← hq, Bool.eq_iff_iff]; simp; omega
          cases q
          all_goals
            go_wp2
            go_round
            case rel =>
              refine ⟨r + 1, crcBit y, by omega, by go_num, congrArg (Value.int .u32) ?_, by have := crcBit_lt (c := y) (by omega); omega, ?_⟩
              · have := Hq.out
                unfold crcBit
                first
                  | (rw [if_neg (by simpa using this)]; omega)
                  | (rw [if_pos (by simpa using this), show ((y : Int) / 2) = ((y / 2 : Nat) : Int) by omega]; exact u32_xor_nat (y / 2) 3988292384 (by omega) (by decide))
              · rw [← Hinv.out, show 8 - r = (8 - (r + 1)) + 1 by omega]; rfl
            case measure => simp [intOf]; omega
        · go_wp2
          go_round
          case rel => exact ⟨j + 1, by omega, by go_num, by
            rw [crcAt_take l j hlt, ← Hc.out]; unfold crcByte; rw [← Hx.out, ← Hinv.out, show 8 - r = 0 by omega]; rfl⟩
          case measure => simp [intOf]; omega
    · obtain rfl : j = l.length := by omega
      have hc' : Hid (crcAt (l.take l.length) = crcAt l) := by rw [List.take_length]; rfl
      go_wp2
      go_ret
      exact ⟨congrArg (fun z : Int => Ending.returned (.int .u32 z)) (by rw [crc_eq]; have := crcAt_lt l; omega), rfl⟩

set_option maxHeartbeats 1000000 in
theorem rFour (s : Nat) (w : World) (hs : (s : Int) < 4294967296) :
    Calls Tryd.prog 65 #[.int .u32 s] w fun e w' => ∃ v, e = .returned v ∧ OwnB w' w.heap.size v (four s) ∧ w' = w.alloc (.cells ((four s).map bv).toArray 5) := by
  go_enter Tryd.func65, Tryd.ntmps65
  go_wp2
  go_ret
  have e : (four s).map bv = [.int .u8 ((s : Int) % 256), .int .u8 ((s : Int) / 256 % 256), .int .u8 ((s : Int) / 65536 % 256), .int .u8 ((s : Int) / 16777216)] := by
    simp only [four, List.map_cons, List.map_nil, bv]
    rw [ofNat_toNat (by omega), ofNat_toNat (by omega), ofNat_toNat (by omega), ofNat_toNat (by omega)]
    simp only [List.cons.injEq, Value.int.injEq, and_true, true_and]
    omega
  have := ownB_lit w w.heap.size (four s) (Nat.le_refl _) (by simp [four])
  have hw : w.alloc (.cells #[.int .u8 ((s : Int) % 256), .int .u8 ((s : Int) / 256 % 256), .int .u8 ((s : Int) / 65536 % 256), .int .u8 ((s : Int) / 16777216)] 5) = w.alloc (.cells ((four s).map bv).toArray 5) := by rw [e]
  rw [hw]
  exact ⟨_, rfl, this, rfl⟩
end Go.Proofs.YtmddgimadlmacaaDoor
