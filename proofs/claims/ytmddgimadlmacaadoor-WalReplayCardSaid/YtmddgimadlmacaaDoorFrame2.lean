import Derived.Test.YtmddgimadlmacaaDoorFrame
namespace Go.Proofs.YtmddgimadlmacaaDoor
open Go.RowKit Garner

theorem four_vals (s : Nat) (hs : s < 4294967296) : (four s).map bv = [.int .u8 ((s : Int) % 256), .int .u8 ((s : Int) / 256 % 256), .int .u8 ((s : Int) / 65536 % 256), .int .u8 ((s : Int) / 16777216)] := by
  simp only [four, List.map_cons, List.map_nil, bv]
  rw [ofNat_toNat (by omega), ofNat_toNat (by omega), ofNat_toNat (by omega), ofNat_toNat (by omega)]
  simp only [List.cons.injEq, Value.int.injEq, and_true, true_and]
  omega

theorem vFrame_long (l : List UInt8) (A : Option Addr) (c0 : Nat) (w : World) (hl : 65536 < (l.length : Int)) (_hm : l.length ≤ 140737488355328) :
    Calls Tryd.prog 8 #[.slice A l.length c0] w fun e w' => e = .returned (.tuple #[.slice none 0 0, .int .i64 4]) ∧ w = w' := by
  go_enter Tryd.func8, Tryd.ntmps8
  go_wp2
  go_ret2
  exact ⟨rfl, rfl⟩

set_option maxHeartbeats 1000000 in
theorem vFrame_ok (l : List UInt8) (A : Option Addr) (c0 B : Nat) (w : World) (hr : Bytes w B A l.length l) (hB : B ≤ w.heap.size) (hl : (l.length : Int) ≤ 65536) :
    Calls Tryd.prog 8 #[.slice A l.length c0] w fun e w' => ∃ v, e = .returned (.tuple #[v, .int .i64 0]) ∧ OwnB w' w.heap.size v (put1 l.length ++ l ++ four (crc l)) ∧ Below w.heap.size w w' := by
  have hll : l.length ≤ 65536 := by omega
  have Hll := Lib.hid hll; clear hll
  have hp10 := put1_len (n := l.length) (by have := Hll.out; omega)
  have Hp10 := Lib.hid hp10; clear hp10
  go_enter Tryd.func8, Tryd.ntmps8
  go_wp2_with fail
  refine (vSum l A c0 B w.heap.size _ (by simp) (hr.alloc hB _) (by have := Hll.out; omega)).mono ?_
  rintro e w1 ⟨rfl, rfl⟩
  go_wp2_with fail
  refine (vPut [l.length] _ 1 (w.heap.size + 1 + 1) _ (by simpa [u64v] using row_new (w.alloc _) _ [_]) (by simp) (by have := Hll.out; simp; omega) (by simp)).mono ?_
  rintro e w2 ⟨v2, rfl, hown2, hbel2⟩
  simp only [World.size_alloc, vput_cons, vput_nil, List.append_nil] at hown2 hbel2
  have hs2 : w.heap.size + 2 ≤ w2.heap.size := by have := hbel2.size; simpa using this
  have hr2 : Bytes w2 B A l.length l := ((hr.alloc hB _).alloc (by simp; omega) _).below (hbel2.mono (by omega))
  have hcl := crc_lt l
  have hcl' : ((crc l : Nat) : Int) < 4294967296 := by omega
  have Hcl := Lib.hid hcl; clear hcl
  have hB2 : Below w.heap.size w w2 := (((Below.refl _ _).alloc (Nat.le_refl _) _).alloc (by simp) _).trans (hbel2.mono (by omega))
  go_wp2_with (first
    | (at_builtin; refine wpList_app _ rfl bytesE rfl rfl hown2 rfl hr2 (bv_one _) (by have := Hp10.out; have := Hll.out; omega) (by omega) ?_; intro v3 w3 hown3 _ hbel3 _)
    | (at_builtin; refine wpList_app _ rfl bytesE rfl rfl (hown3.alloc _) rfl (row_new w3 _ [_, _, _, _]) (by simp [Value.oneCell']) (by have := Hp10.out; have := Hll.out; first | omega | (simp; omega)) (by have := hbel3.size; first | omega | (simp; omega)) ?_; intro v4 w4 hown4 _ hbel4 _))
  go_ret2
  refine ⟨_, rfl, ?_, (hB2.trans (hbel3.mono (by omega))).trans ((((Below.refl _ _).alloc (by have := hbel3.size; omega) _)).trans (hbel4.mono (by omega)))⟩
  have h4 := four_vals (crc l) Hcl.out
  rw [← List.map_append, ← h4, ← List.map_append] at hown4
  have := own_mono hown4 (show w.heap.size ≤ w.heap.size + 1 + 1 by omega)
  simpa [OwnB, four, Nat.add_assoc] using this

set_option maxHeartbeats 1000000 in
theorem rFrame_long (l : List UInt8) (A : Option Addr) (c0 : Nat) (w : World) (hl : 65536 < (l.length : Int)) (_hm : l.length ≤ 140737488355328) :
    Calls Tryd.prog 49 #[.slice A l.length c0] w fun e w' => e = .returned (.tuple #[.slice none 0 0, .int .i64 4]) ∧ w = w' := by
  go_enter Tryd.func49, Tryd.ntmps49
  go_wp2
  go_ret2
  exact ⟨rfl, rfl⟩

set_option maxHeartbeats 1000000 in
theorem rFrame_ok (l : List UInt8) (A : Option Addr) (c0 B : Nat) (w : World) (hr : Bytes w B A l.length l) (hB : B ≤ w.heap.size) (hl : (l.length : Int) ≤ 65536) :
    Calls Tryd.prog 49 #[.slice A l.length c0] w fun e w' => ∃ v, e = .returned (.tuple #[v, .int .i64 0]) ∧ OwnB w' w.heap.size v (put1 l.length ++ l ++ four (crc l)) ∧ Below w.heap.size w w' := by
  have hll : l.length ≤ 65536 := by omega
  have Hll := Lib.hid hll; clear hll
  have hp10 := put1_len (n := l.length) (by have := Hll.out; omega)
  have Hp10 := Lib.hid hp10; clear hp10
  go_enter Tryd.func49, Tryd.ntmps49
  go_wp2_with fail
  refine (rOne 9 l.length _ (by have := Hll.out; omega) (by have := Hll.out; omega) (by omega)).mono ?_
  rintro e w2 ⟨v2, rfl, hown2, hbel2⟩
  have hs2 : w.heap.size ≤ w2.heap.size := hbel2.size
  have hr2 : Bytes w2 B A l.length l := hr.below (hbel2.mono hB)
  have hcl := crc_lt l
  have hcl' : ((crc l : Nat) : Int) < 4294967296 := by omega
  have Hcl := Lib.hid hcl; clear hcl
  go_wp2_with (first
    | (at_builtin; refine wpList_app _ rfl bytesE rfl rfl hown2 rfl hr2 (bv_one _) (by have := Hp10.out; have := Hll.out; omega) (by omega) ?_; intro v3 w3 hown3 _ hbel3 _)
    | (go_at_call 66; refine (rSum l A c0 B _ (hr2.below (hbel3.mono hB)) (by have := Hll.out; omega)).mono ?_; rintro e w4 ⟨rfl, rfl⟩)
    | (go_at_call 65; refine (rFour (crc l) _ hcl').mono ?_; rintro e w4 ⟨v4, rfl, hown4, rfl⟩; obtain ⟨A4, c4, rfl, hrow4⟩ := hown4.shape)
    | (at_builtin; refine wpList_app _ rfl bytesE rfl rfl (hown3.alloc _) rfl hrow4 (bv_one _) (by have := Hp10.out; have := Hll.out; first | (simp [four]; omega) | omega) (by have := hbel3.size; first | omega | (simp; omega)) ?_; intro v5 w5 hown5 _ hbel5 _))
  go_ret2
  refine ⟨_, rfl, ?_, (hbel2.trans hbel3).trans ((((Below.refl _ _).alloc (by have := hbel3.size; omega) _)).trans hbel5)⟩
  simpa [OwnB, Nat.add_assoc] using hown5
end Go.Proofs.YtmddgimadlmacaaDoor
