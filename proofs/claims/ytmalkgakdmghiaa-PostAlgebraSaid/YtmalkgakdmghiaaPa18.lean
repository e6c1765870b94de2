import Derived.Test.YtmalkgakdmghiaaPa02
/-
  The walks of layer 1 (varint), the program's and the reference's.
-/
namespace Go.Proofs.Ytmalkgakdmghiaa
open Go.RowKit Garner

theorem or128_all : ∀ b : Fin 256, b.val ||| 128 = b.val % 128 + 128 := by decide +kernel
theorem or128 (n : Nat) : bits .or .u8 ((n : Int) % 256) 128 = ((UInt8.ofNat (n % 128 + 128)).toNat : Int) := by
  have h := or128_all ⟨n % 256, by omega⟩
  simp only at h
  rw [ofNat_toNat (by omega), show ((n : Int) % 256) = ((n % 256 : Nat) : Int) by omega, show (128 : Int) = ((128 : Nat) : Int) by rfl, u8_or_nat _ _ (by omega) (by omega), h]
  omega

theorem vput_snoc (l : List Nat) (k : Nat) (h : k < l.length) : vput (l.take (k + 1)) = vput (l.take k) ++ put1 l[k] := by
  rw [List.take_succ_eq_append_getElem h, vput_append]; simp [vput_cons, vput_nil]

theorem ownB_snoc {w : World} {B : Nat} {v : Value} {l : List UInt8} {x : Int} {c : UInt8} (h : w.ownsRow B 5 1 v (l.length + 1) (l.map bv ++ [.int .u8 x])) (hx : x = (c.toNat : Int)) : OwnB w B v (l ++ [c]) := by
  subst hx; simpa [OwnB, bv] using h

set_option maxHeartbeats 1000000 in
theorem vPut (ns : List Nat) (A : Option Addr) (c B : Nat) (w : World) (hr : Row w B 1 A ns.length (ns.map u64v)) (hB : B ≤ w.heap.size) (hn : ∀ n ∈ ns, n < 18446744073709551616) (hl : ns.length ≤ 100000) :
    Calls Try.prog 16 #[.slice A ns.length c] w fun e w' => ∃ v, e = .returned v ∧ OwnB w' w.heap.size v (vput ns) ∧ Below w.heap.size w w' := by
  have hlen : ∀ k, k < ns.length → (vput (ns.take k)).length + (put1 (ns[k]?.getD 0)).length ≤ 10 * ns.length := by
    intro k hk
    have h1 := vput_len (ns.take (k + 1)) fun n hm => hn n (List.mem_of_mem_take hm)
    rw [vput_snoc ns k hk, List.length_append, List.length_take] at h1
    rw [List.getElem?_eq_getElem hk]
    simp only [Option.getD_some]; omega
  have Hlen := Lib.hid hlen; clear hlen
  have Hn := Lib.hid hn; clear hn
  go_enter Try.func16, Try.ntmps16
  go_wp2
  go_loopw [3, 8] (fun v i wr => ∃ k : Nat, k ≤ ns.length ∧ i = .int .i64 k ∧ OwnB wr w.heap.size v (vput (ns.take k)) ∧ Below w.heap.size w wr) (fun _ i _ => ns.length - (intOf i).toNat)
  case atStart => exact ⟨0, Nat.zero_le _, rfl, World.ownsRow_nil _ _ _ _, Below.refl _ _⟩
  case round =>
    obtain ⟨k, hk, rfl, hown, hbel⟩ := hrel
    obtain ⟨wo, rfl⟩ : ∃ wo : World, wo = wr := ⟨_, rfl⟩
    by_cases hlt : k < ns.length
    · obtain ⟨b, off, rfl, hb, hc⟩ := hr.at_ (k := k) hlt
      have hc1 : wo.cell? ⟨b, off + k, none⟩ = some (.int .u64 (ns[k] : Nat)) := by
        rw [(hbel.cell (p := ⟨b, off + k, none⟩) (by show b < _; omega)), hc k (by simpa using hlt)]; simp [u64v]
      have hnk : (ns[k] : Int) < 18446744073709551616 := by have := Hn.out _ (List.getElem_mem hlt); omega
      go_wp2
      go_loopw [3, 5] (fun v n wr' => ∃ (m : Nat) (pre : List UInt8), n = .int .u64 m ∧ (m : Int) < 18446744073709551616 ∧ OwnB wr' w.heap.size v pre ∧ pre ++ put1 m = vput (ns.take k) ++ put1 ns[k] ∧ Below w.heap.size w wr') (fun _ n _ => (intOf n).toNat)
      case atStart => exact ⟨_, _, rfl, hnk, hown, rfl, hbel⟩
      case round =>
        obtain ⟨m, pre, rfl, hm, hown', hpre, hbel'⟩ := hrel
        have hpl : pre.length + 1 ≤ 1000000 := by
          have h1 := congrArg List.length hpre
          have h2 := Hlen.out k hlt
          have h3 := put1_pos m
          rw [List.getElem?_eq_getElem hlt] at h2
          simp only [Option.getD_some, List.length_append] at h1 h2
          omega
        have Hpre := Lib.hid hpre; clear hpre
        have hB0 : w.heap.size ≤ wr.heap.size := hbel'.size
        by_cases h128 : (128 : Int) ≤ m
        · go_wp2_with (at_builtin; refine wpList_app _ rfl bytesE rfl rfl (hown'.alloc _) rfl (row_new wr _ [_]) (by simp [Value.oneCell']) ?_ (by simp; omega) ?_)
          · first | omega | (simp; omega)
          · intro v1 w1 hown1 _ hbel1 _
            go_wp2
            go_roundw
            case rel =>
              refine ⟨m / 128, pre ++ [UInt8.ofNat (m % 128 + 128)], by go_num, by omega, ownB_snoc hown1 (or128 m), ?_, (hbel'.alloc hB0 _).trans hbel1⟩
              rw [← Hpre.out, put1_big (n := m) (by omega)]; simp
            case measure => simp [intOf]; omega
        · go_wp2_with (at_builtin; refine wpList_app _ rfl bytesE rfl rfl (hown'.alloc _) rfl (row_new wr _ [_]) (by simp [Value.oneCell']) ?_ (by simp; omega) ?_)
          · first | omega | (simp; omega)
          · intro v1 w1 hown1 _ hbel1 _
            go_wp2
            go_roundw
            case rel =>
              refine ⟨k + 1, by omega, by go_num, ?_, (hbel'.alloc hB0 _).trans hbel1⟩
              rw [vput_snoc ns k hlt, ← Hpre.out, put1_small (n := m) (by omega)]
              exact ownB_snoc hown1 (by rw [ofNat_toNat (by omega)])
            case measure => simp [intOf]; omega
    · go_wp2
      go_ret
      obtain rfl : k = ns.length := by omega
      exact ⟨_, rfl, by simpa using hown, hbel⟩
end Go.Proofs.Ytmalkgakdmghiaa
