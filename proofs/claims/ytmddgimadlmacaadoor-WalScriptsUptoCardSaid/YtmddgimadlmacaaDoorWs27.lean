import Derived.Test.YtmddgimadlmacaaDoorWs26
namespace Go.Proofs.YtmddgimadlmacaaDoor
open Go.RowKit Garner

theorem four_vals (s : Nat) (hs : s < 4294967296) : (four s).map bv = [.int .u8 ((s : Int) % 256), .int .u8 ((s : Int) / 256 % 256), .int .u8 ((s : Int) / 65536 % 256), .int .u8 ((s : Int) / 16777216)] := by
  simp only [four, List.map_cons, List.map_nil, bv]
  rw [ofNat_toNat (by omega), ofNat_toNat (by omega), ofNat_toNat (by omega), ofNat_toNat (by omega)]
  simp only [List.cons.injEq, Value.int.injEq, and_true, true_and]
  omega

theorem vFrame_long (l : List UInt8) (A : Option Addr) (c0 : Nat) (w : World) (hl : 65536 < (l.length : Int)) (_hm : l.length ≤ 140737488355328) :
    Calls Tryd.prog 8 #[.slice A l.length c0] w fun e w' => e = .returned (.tuple #[.slice none 0 0, .int .i64 4]) ∧ w = w' := by
  go_enter Tryd.func8, Tryd.ntmps8
  go_wp2
  go_ret2
  exact ⟨rfl, rfl⟩

set_option maxHeartbeats 1000000 in
theorem vFrame_ok (l : List UInt8) (A : Option Addr) (c0 B : Nat) (w : World) (hr : Bytes w B A l.length l) (hB : B ≤ w.heap.size) (hl : (l.length : Int) ≤ 65536) :
    Calls Tryd.prog 8 #[.slice A l.length c0] w fun e w' => ∃ v, e = .returned (.tuple #[v, .int .i64 0]) ∧ OwnB w' w.heap.size v (put1 l.length ++ l ++ four (crc l)) ∧ Below w.heap.size w w' := by
  have hll : l.length ≤ 65536 := by omega
  have Hll := Lib.hid hll; clear hll
  have hp10 := put1_len (n := l.length) (by have := Hll.out; omega)
  have Hp10 := Lib.hid hp10; clear hp10
  go_enter Tryd.func8, Tryd.ntmps8
  go_wp2_with fail
  refine (vSum l A c0 B w.heap.size _ (by simp) (hr.alloc hB _) (by have := Hll.out; omega)).mono ?_
  rintro e w1 ⟨rfl, rfl⟩
  go_wp2_with fail
  refine (vPut [l.length] _ 1 (w.heap.size + 1 + 1) _ (by simpa [u64v] using row_new (w.alloc _) _ [_]) (by simp) (by have := Hll.out; simp; omega) (by simp)).mono ?_
  rintro e w2 ⟨v2, rfl, hown2, hbel2⟩
  simp only [World.size_alloc, vput_cons, vput_nil, List.append_nil] at hown2 hbel2
  have hs2 : w.heap.size + 2 ≤ w2.heap.size := by have := hbel2.size; simpa using this
  have hr2 : Bytes w2 B A l.length l := ((hr.alloc hB _).alloc (by simp; omega) _).below (hbel2.mono (by omega))
  have hcl := crc_lt l
  have hcl' : ((crc l : Nat) : Int) < 4294967296 := by omega
  have Hcl := Lib.hid hcl; clear hcl
  have hB2 : Below w.heap.size w w2 := (((Below.refl _ _).alloc (Nat.le_refl _) _).alloc (by simp) _).trans (hbel2.mono (by omega))
  go_wp2_with (first
    | (at_builtin; refine wpList_app _ rfl bytesE rfl rfl hown2 rfl hr2 (bv_one _) (by have := Hp10.out; have := Hll.out; omega) (by omega) ?_; intro v3 w3 hown3 _ hbel3 _)
    | (at_builtin; refine wpList_app _ rfl bytesE rfl rfl (hown3.alloc _) rfl (row_new w3 _ [_, _, _, _]) (by simp [Value.oneCell']) (by have := Hp10.out; have := Hll.out; first | omega | (simp; omega)) (by have := hbel3.size; first | omega | (simp; omega)) ?_; intro v4 w4 hown4 _ hbel4 _))
  go_ret2
  refine ⟨_, rfl, ?_, (hB2.trans (hbel3.mono (by omega))).trans ((((Below.refl _ _).alloc (by have := hbel3.size; omega) _)).trans (hbel4.mono (by omega)))⟩
  have h4 := four_vals (crc l) Hcl.out
  rw [← List.map_append, ← h4, ← List.map_append] at hown4
  have := own_mono hown4 (show w.heap.size ≤ w.heap.size + 1 + 1 by omega)
  simpa [OwnB, four, Nat.add_assoc] using this

set_option maxHeartbeats 1000000 in
theorem rFrame_long (l : List UInt8) (A : Option Addr) (c0 : Nat) (w : World) (hl : 65536 < (l.length : Int)) (_hm : l.length ≤ 140737488355328) :
    Calls Tryd.prog 49 #[.slice A l.length c0] w fun e w' => e = .returned (.tuple #[.slice none 0 0, .int .i64 4]) ∧ w = w' := by
  go_enter Tryd.func49, Tryd.ntmps49
  go_wp2
  go_ret2
  exact ⟨rfl, rfl⟩

set_option maxHeartbeats 1000000 in
theorem rFrame_ok (l : List UInt8) (A : Option Addr) (c0 B : Nat) (w : World) (hr : Bytes w B A l.length l) (hB : B ≤ w.heap.size) (hl : (l.length : Int) ≤ 65536) :
    Calls Tryd.prog 49 #[.slice A l.length c0] w fun e w' => ∃ v, e = .returned (.tuple #[v, .int .i64 0]) ∧ OwnB w' w.heap.size v (put1 l.length ++ l ++ four (crc l)) ∧ Below w.heap.size w w' := by
  have hll : l.length ≤ 65536 := by omega
  have Hll := Lib.hid hll; clear hll
  have hp10 := put1_len (n := l.length) (by have := Hll.out; omega)
  have Hp10 := Lib.hid hp10; clear hp10
  go_enter Tryd.func49, Tryd.ntmps49
  go_wp2_with fail
  refine (rOne 9 l.length _ (by have := Hll.out; omega) (by have := Hll.out; omega) (by omega)).mono ?_
  rintro e w2 ⟨v2, rfl, hown2, hbel2⟩
  have hs2 : w.heap.size ≤ w2.heap.size := hbel2.size
  have hr2 : Bytes w2 B A l.length l := hr.below (hbel2.mono hB)
  have hcl := crc_lt l
  have hcl' : ((crc l : Nat) : Int) < 4294967296 := by omega
  have Hcl := Lib.hid hcl; clear hcl
  go_wp2_with (first
    | (at_builtin; refine wpList_app _ rfl bytesE rfl rfl hown2 rfl hr2 (bv_one _) (by have := Hp10.out; have := Hll.out; omega) (by omega) ?_; intro v3 w3 hown3 _ hbel3 _)
    | (go_at_call 66; refine (rSum l A c0 B _ (hr2.below (hbel3.mono hB)) (by have := Hll.out; omega)).mono ?_; rintro e w4 ⟨rfl, rfl⟩)
    | (go_at_call 65; refine (rFour (crc l) _ hcl').mono ?_; rintro e w4 ⟨v4, rfl, hown4, rfl⟩; obtain ⟨A4, c4, rfl, hrow4⟩ := hown4.shape)
    | (at_builtin; refine wpList_app _ rfl bytesE rfl rfl (hown3.alloc _) rfl hrow4 (bv_one _) (by have := Hp10.out; have := Hll.out; first | (simp [four]; omega) | omega) (by have := hbel3.size; first | omega | (simp; omega)) ?_; intro v5 w5 hown5 _ hbel5 _))
  go_ret2
  refine ⟨_, rfl, ?_, (hbel2.trans hbel3).trans ((((Below.refl _ _).alloc (by have := hbel3.size; omega) _)).trans hbel5)⟩
  simpa [OwnB, Nat.add_assoc] using hown5
end Go.Proofs.YtmddgimadlmacaaDoor
namespace Go.Proofs.YtmddgimadlmacaaDoor
open Go.RowKit Garner

theorem add_step (acc k x U : Nat) (hU : U = 128 ^ k) (hfit : acc + x % 128 * 128 ^ k < 18446744073709551616) :
    IntKind.u64.wrap ((acc : Int) + IntKind.u64.wrap ((x : Int) % 128 * (U : Int))) = ((acc + x % 128 * 128 ^ k : Nat) : Int) := by
  subst hU
  have e : (x : Int) % 128 * ((128 ^ k : Nat) : Int) = ((x % 128 * 128 ^ k : Nat) : Int) := by rw [Int.natCast_mul]; rfl
  rw [e]
  generalize x % 128 * 128 ^ k = p at *
  rw [IntWalk.u64_in (p : Int) ⟨by omega, by omega⟩, IntWalk.u64_in _ ⟨by omega, by omega⟩]
  omega

set_option maxRecDepth 100000 in
set_option maxHeartbeats 1000000 in
theorem rGet (l : List UInt8) (A : Option Addr) (c B : Nat) (w : World) (i0 : Nat) (hr : Bytes w B A l.length l) (hi0 : i0 ≤ l.length) (hl : l.length ≤ 140737488355328) :
    Calls Tryd.prog 71 #[.slice A l.length c, .int .i64 i0] w fun e w' => e = .returned (vgetV (vget l i0)) ∧ w = w' := by
  have hg0 : ¬ (l.length : Int) < i0 := by omega
  go_enter Tryd.func71, Tryd.ntmps71
  go_wp2
  go_loop [7, 8, 9] (fun v u i => ∃ k acc U : Nat, i = .int .i64 k ∧ v = .int .u64 acc ∧ u = .int .u64 U ∧ k ≤ 9 ∧ i0 + k ≤ l.length ∧ U = 128 ^ k ∧ acc < 128 ^ k ∧ vgetAux (l.drop i0) 0 0 = vgetAux (l.drop (i0 + k)) k acc) (fun _ _ i => l.length - i0 - (intOf i).toNat)
  case atStart => exact ⟨0, 0, 1, rfl, rfl, rfl, by omega, by omega, rfl, by simp, rfl⟩
  case round =>
    obtain ⟨k, acc, U, rfl, rfl, rfl, hk9, hkl, hU, hacc, hinv⟩ := hrel
    have Hinv := Lib.hid hinv; clear hinv
    have Hacc := Lib.hid hacc; clear hacc
    have HU := Lib.hid hU; clear hU
    by_cases hk : i0 + k < l.length
    · obtain ⟨b, off, rfl, hb, hcell⟩ := hr.at_ hk
      have hc1 : w.cell? ⟨b, off + (i0 + k), none⟩ = some (.int .u8 (l[i0 + k].toNat : Nat)) := by
        have := hcell (i0 + k) (by simpa using hk); simpa [bv] using this
      have hlc := l[i0 + k].toNat_lt
      generalize hx : l[i0 + k].toNat = x at hc1 hlc
      have Hx := Lib.hid hx; clear hx hcell
      have hp : 128 ^ k ≤ 9223372036854775808 := by
        have : (128 : Nat) ^ k ≤ 128 ^ 9 := Nat.pow_le_pow_right (by omega) hk9
        omega
      have Hp := Lib.hid hp; clear hp
      by_cases hhigh : (k : Int) = 9 ∧ 1 < (x : Int)
      · obtain ⟨h9, h1x⟩ := hhigh
        have e9 : ((k : Int) == 9) = true := beq_iff_eq.2 h9
        have H9 := Lib.hid h9; clear h9
        go_wp2
        go_ret3
        refine ⟨?_, rfl⟩
        unfold vget
        rw [vget_of Hinv.out hk rfl (vgetAux_high Hx.out ⟨by have := H9.out; omega, by omega⟩)]
        rfl
      · have hnh : ¬ (k = 9 ∧ 1 < x) := by omega
        have hfit : acc + x % 128 * 128 ^ k < 18446744073709551616 := by
          have h0 := Hacc.out
          have h1 : x % 128 * 128 ^ k ≤ 127 * 128 ^ k := Nat.mul_le_mul_right _ (by omega)
          rcases Nat.lt_or_ge k 9 with h | h
          · have : (128 : Nat) ^ k ≤ 128 ^ 8 := Nat.pow_le_pow_right (by omega) (by omega)
            omega
          · have h2 : x % 128 * 128 ^ k ≤ 1 * 128 ^ k := Nat.mul_le_mul_right _ (by omega)
            have := Hp.out
            omega
        have Hor := Lib.hid (add_step acc k x U HU.out hfit)
        have Hfit := Lib.hid hfit; clear hfit
        by_cases h128 : (x : Int) < 128
        · by_cases hz : (x : Int) = 0 ∧ 0 < (k : Int)
          · obtain ⟨hz1, hz2⟩ := hz
            have ez : ((x : Int) == 0) = true := beq_iff_eq.2 hz1
            have Hz1 := Lib.hid hz1; clear hz1
            have Hnh := Lib.hid hnh; clear hnh hhigh
            have h1x : ¬ 1 < (x : Int) := by have := Hz1.out; omega
            obtain ⟨b9, e9⟩ : ∃ q, ((k : Int) == 9) = q := ⟨_, rfl⟩
            cases b9
            all_goals
              go_wp2
              go_ret3
              refine ⟨?_, rfl⟩
              unfold vget
              rw [vget_of Hinv.out hk rfl (vgetAux_zero Hx.out (by have := Hz1.out; omega) (by omega))]
              rfl
          · have Hnz := Lib.hid hz; clear hz
            have Hnh := Lib.hid hnh; clear hnh
            have Hnhi := Lib.hid hhigh; clear hhigh
            obtain ⟨b9, e9⟩ : ∃ q, ((k : Int) == 9) = q := ⟨_, rfl⟩
            obtain ⟨b0, e0⟩ : ∃ q, ((x : Int) == 0) = q := ⟨_, rfl⟩
            have hfin : Ending.returned (Value.tuple #[Value.int .u64 (IntKind.u64.wrap ((acc : Int) + IntKind.u64.wrap ((x : Int) % 128 * (U : Int)))), Value.int .i64 ((i0 : Int) + k + 1), Value.int .i64 0]) = Ending.returned (vgetV (vget l i0)) := by
              unfold vget
              rw [vget_of Hinv.out hk rfl (vgetAux_done Hx.out Hnh.out (by omega) (by have := Hnz.out; omega)), Hor.out, Nat.mod_eq_of_lt (show x < 128 by omega)]
              exact congrArg (fun z : Int => Ending.returned (Value.tuple #[.int .u64 ((acc + x * 128 ^ k : Nat) : Int), Value.int .i64 z, .int .i64 0])) (show (i0 : Int) + k + 1 = ((i0 + (k + 1) : Nat) : Int) by omega)
            have Hfin := Lib.hid hfin; clear hfin
            have Hle : Hid (b9 = true → ¬ 1 < (x : Int)) := fun h => by subst h; have := beq_iff_eq.1 e9; have := Hnhi.out; omega
            have Hkz : Hid (b0 = true → ¬ 0 < (k : Int)) := fun h => by subst h; have := beq_iff_eq.1 e0; have := Hnz.out; omega
            cases b9 <;> cases b0
            · go_wp2
              go_ret3
              exact ⟨Hfin.out, rfl⟩
            · have hkz := Hkz.out rfl
              go_wp2
              go_ret3
              exact ⟨Hfin.out, rfl⟩
            · have hle := Hle.out rfl
              go_wp2
              go_ret3
              exact ⟨Hfin.out, rfl⟩
            · exact absurd (beq_iff_eq.1 e9) (by have := Hkz.out rfl; omega)
        · have h1x : 1 < (x : Int) := by omega
          have h9 : ¬ ((k : Int) = 9) := by omega
          have e9 : ((k : Int) == 9) = false := beq_eq_false_iff_ne.2 h9
          have Hnh := Lib.hid hnh; clear hnh hhigh
          go_wp2
          go_round
          case rel =>
            refine ⟨k + 1, acc + x % 128 * 128 ^ k, U * 128, by go_num, by rw [Hor.out], ?_, by omega, by omega, by rw [HU.out, Nat.pow_succ], ?_, ?_⟩
            · have h1 := HU.out
              have h2 : (128 : Nat) ^ k ≤ 128 ^ 8 := Nat.pow_le_pow_right (by omega) (by omega)
              exact congrArg (Value.int .u64) (by have h3 : U ≤ 72057594037927936 := by omega
                                                  rw [IntKind.wrap_u64]; omega)
            · have h0 := Hacc.out
              have h1 : x % 128 * 128 ^ k ≤ 127 * 128 ^ k := Nat.mul_le_mul_right _ (by omega)
              rw [Nat.pow_succ]; omega
            · rw [vget_of Hinv.out hk rfl (vgetAux_more Hx.out Hnh.out (by omega)), show x - 128 = x % 128 by omega, Nat.add_assoc]
          case measure => simp [intOf]; omega
    · go_wp2
      go_ret3
      refine ⟨?_, rfl⟩
      unfold vget
      rw [Hinv.out, List.drop_eq_nil_of_le (by omega)]
      rfl

end Go.Proofs.YtmddgimadlmacaaDoor
