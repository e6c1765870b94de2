import Derived.Test.YtmddgimadlmacaaDoorWs02
import Derived.Laws.RangeAny
namespace Garner
open Go
theorem dec_pos (s : ByteArray) (pos : Nat) (h : pos < s.size) : 1 ≤ (Utf8.decode s pos).2 := by
  by_cases ha : (s[pos]'h).toNat < 128
  · rw [decode_ascii s pos h ha]; omega
  · exact (decode_high s pos h (by omega)).2
/-- a rune that a file's name may hold -/
def runeOk (r : Nat) : Prop := r = 46 ∨ r = 45 ∨ (48 ≤ r ∧ r ≤ 57) ∨ (97 ≤ r ∧ r ≤ 122)
instance (r : Nat) : Decidable (runeOk r) := by unfold runeOk; infer_instance
def runesOk : Nat → ByteArray → Nat → Bool
  | 0, _, _ => true
  | f + 1, s, pos => if pos < s.size then decide (runeOk (Utf8.decode s pos).1) && runesOk f s (pos + (Utf8.decode s pos).2) else true
theorem runesOk_fuel : ∀ (f g : Nat) (s : ByteArray) (pos : Nat), s.size - pos ≤ f → s.size - pos ≤ g → runesOk f s pos = runesOk g s pos
  | 0, 0, _, _, _, _ => rfl
  | 0, g + 1, s, pos, h, _ => by rw [runesOk, runesOk, if_neg (by omega)]
  | f + 1, 0, s, pos, _, h => by rw [runesOk, runesOk, if_neg (by omega)]
  | f + 1, g + 1, s, pos, h1, h2 => by
    rw [runesOk, runesOk]
    split
    · rename_i hlt
      have := dec_pos s pos hlt
      rw [runesOk_fuel f g s _ (by omega) (by omega)]
    · rfl
def nameOk (s : ByteArray) : Bool := decide (1 ≤ s.size ∧ s.size ≤ 32) && runesOk s.size s 0
theorem runes_end {s : ByteArray} {pos : Nat} (h : ¬ pos < s.size) : runesOk s.size s pos = true := by
  cases hf : s.size with
  | zero => rfl
  | succ n => rw [runesOk, if_neg h]
theorem runes_step {s : ByteArray} {pos : Nat} (h : pos < s.size) : runesOk s.size s pos = (decide (runeOk (Utf8.decode s pos).1) && runesOk s.size s (pos + (Utf8.decode s pos).2)) := by
  have hp := dec_pos s pos h
  rw [runesOk_fuel s.size (s.size + 1) s pos (by omega) (by omega), runesOk, if_pos h]
end Garner
namespace Go.Proofs.YtmddgimadlmacaaDoor
open Go.RowKit Garner

set_option maxRecDepth 100000 in
set_option maxHeartbeats 4000000 in
theorem vName (s : ByteArray) (w : World) : Calls Tryd.prog 59 #[.string s] w fun e w' => e = .returned (.bool (nameOk s)) ∧ Below w.heap.size w w' := by
  by_cases h1 : (s.size : Int) < 1
  · have hn : nameOk s = false := by unfold nameOk; rw [decide_eq_false (by omega)]; rfl
    go_enter Tryd.func59, Tryd.ntmps59
    go_wp2
    go_ret
    (try rw [hn]); exact ⟨rfl, Below.refl _ _⟩
  · by_cases h2 : (32 : Int) < s.size
    · have hn : nameOk s = false := by unfold nameOk; rw [decide_eq_false (by omega)]; rfl
      go_enter Tryd.func59, Tryd.ntmps59
      go_wp2
      go_ret
      (try rw [hn]); exact ⟨rfl, Below.refl _ _⟩
    · have hn : nameOk s = runesOk s.size s 0 := by unfold nameOk; rw [decide_eq_true (by omega)]; rfl
      have Hn := Lib.hid hn; clear hn
      go_enter Tryd.func59, Tryd.ntmps59
      go_wp2_with fail
      go_loopw [4] (fun _ wr => ∃ pos : Nat, wr = w.iter s pos ∧ Hid (runesOk s.size s 0 = runesOk s.size s pos)) (fun _ wr => s.size - wr.iterPos w.heap.size)
      case atStart => exact ⟨0, rfl, rfl⟩
      case round =>
        obtain ⟨pos, rfl, hr⟩ := hrel
        by_cases hlt : pos < s.size
        · have hnx := run_next_any (P := Tryd.prog) w s pos
          have hst := runes_step hlt
          have hps := dec_pos s pos hlt
          have hle := decode_le s pos
          generalize hd : (Utf8.decode s pos).1 = r at *
          generalize hd2 : (Utf8.decode s pos).2 = wd at *
          have Hst := Lib.hid hst; clear hst hd hd2
          have hnx' := fun ty => hnx ty hlt
          clear hnx
          have hle' : (r : Int) ≤ 2147483647 := by omega
          by_cases hok : runeOk r
          · have hgo : Hid (runesOk s.size s 0 = runesOk s.size s (pos + wd)) := by
              show _ = _
              rw [hr.out, Hst.out, decide_eq_true hok]; rfl
            rcases hok with rfl | rfl | ⟨a1, a2⟩ | ⟨a1, a2⟩
            all_goals
              go_wp2
              all_goals
                go_roundw
                case rel => exact ⟨pos + wd, rfl, hgo⟩
                case measure => simp; omega
          · have hno : Hid (runesOk s.size s 0 = false) := by
              show _ = _
              rw [hr.out, Hst.out, decide_eq_false hok]; rfl
            have b1 : (r : Int) ≠ 46 := fun h => hok (.inl (by omega))
            have b2 : (r : Int) ≠ 45 := fun h => hok (.inr (.inl (by omega)))
            have b3 : ¬ (48 ≤ (r : Int) ∧ (r : Int) ≤ 57) := fun h => hok (.inr (.inr (.inl (by omega))))
            have b4 : ¬ (97 ≤ (r : Int) ∧ (r : Int) ≤ 122) := fun h => hok (.inr (.inr (.inr (by omega))))
            clear hok
            have b5 : (r : Int) < 48 ∨ 57 < (r : Int) := by omega
            have b6 : (r : Int) < 97 ∨ 122 < (r : Int) := by omega
            clear b3 b4
            have b7 : ((r : Int) != 46) = true := by rw [bne_iff_ne]; exact b1
            have b8 : ((r : Int) != 45) = true := by rw [bne_iff_ne]; exact b2
            rcases b5 with b5 | b5 <;> rcases b6 with b6 | b6
            all_goals
              first
                | (exfalso; omega)
                | (go_wp2
                   all_goals
                     first
                       | (go_ret
                          rw [Hn.out, hno.out]
                          exact ⟨rfl, (Below.refl _ _).alloc (Nat.le_refl _) _⟩)
                       | (exfalso; omega)
                       | (exfalso; simp at *; omega))
        · have hnx := fun ty => run_next_end (P := Tryd.prog) w s pos ty hlt
          have hend := runes_end hlt
          go_wp2
          go_ret
          rw [Hn.out, hr.out, hend]
          exact ⟨rfl, (Below.refl _ _).alloc (Nat.le_refl _) _⟩
end Go.Proofs.YtmddgimadlmacaaDoor
/-
  The walks of layer 1 (varint), the program's and the reference's.
-/
namespace Go.Proofs.YtmddgimadlmacaaDoor
open Go.RowKit Garner

theorem or128_all : ∀ b : Fin 256, b.val ||| 128 = b.val % 128 + 128 := by decide +kernel
theorem or128 (n : Nat) : bits .or .u8 ((n : Int) % 256) 128 = ((UInt8.ofNat (n % 128 + 128)).toNat : Int) := by
  have h := or128_all ⟨n % 256, by omega⟩
  simp only at h
  rw [ofNat_toNat (by omega), show ((n : Int) % 256) = ((n % 256 : Nat) : Int) by omega, show (128 : Int) = ((128 : Nat) : Int) by rfl, u8_or_nat _ _ (by omega) (by omega), h]
  omega

theorem vput_snoc (l : List Nat) (k : Nat) (h : k < l.length) : vput (l.take (k + 1)) = vput (l.take k) ++ put1 l[k] := by
  rw [List.take_succ_eq_append_getElem h, vput_append]; simp [vput_cons, vput_nil]

theorem ownB_snoc {w : World} {B : Nat} {v : Value} {l : List UInt8} {x : Int} {c : UInt8} (h : w.ownsRow B 5 1 v (l.length + 1) (l.map bv ++ [.int .u8 x])) (hx : x = (c.toNat : Int)) : OwnB w B v (l ++ [c]) := by
  subst hx; simpa [OwnB, bv] using h

set_option maxHeartbeats 1000000 in
theorem vPut (ns : List Nat) (A : Option Addr) (c B : Nat) (w : World) (hr : Row w B 1 A ns.length (ns.map u64v)) (hB : B ≤ w.heap.size) (hn : ∀ n ∈ ns, n < 18446744073709551616) (hl : ns.length ≤ 100000) :
    Calls Tryd.prog 39 #[.slice A ns.length c] w fun e w' => ∃ v, e = .returned v ∧ OwnB w' w.heap.size v (vput ns) ∧ Below w.heap.size w w' := by
  have hlen : ∀ k, k < ns.length → (vput (ns.take k)).length + (put1 (ns[k]?.getD 0)).length ≤ 10 * ns.length := by
    intro k hk
    have h1 := vput_len (ns.take (k + 1)) fun n hm => hn n (List.mem_of_mem_take hm)
    rw [vput_snoc ns k hk, List.length_append, List.length_take] at h1
    rw [List.getElem?_eq_getElem hk]
    simp only [Option.getD_some]; omega
  have Hlen := Lib.hid hlen; clear hlen
  have Hn := Lib.hid hn; clear hn
  go_enter Tryd.func39, Tryd.ntmps39
  go_wp2
  go_loopw [3, 8] (fun v i wr => ∃ k : Nat, k ≤ ns.length ∧ i = .int .i64 k ∧ OwnB wr w.heap.size v (vput (ns.take k)) ∧ Below w.heap.size w wr) (fun _ i _ => ns.length - (intOf i).toNat)
  case atStart => exact ⟨0, Nat.zero_le _, rfl, World.ownsRow_nil _ _ _ _, Below.refl _ _⟩
  case round =>
    obtain ⟨k, hk, rfl, hown, hbel⟩ := hrel
    obtain ⟨wo, rfl⟩ : ∃ wo : World, wo = wr := ⟨_, rfl⟩
    by_cases hlt : k < ns.length
    · obtain ⟨b, off, rfl, hb, hc⟩ := hr.at_ (k := k) hlt
      have hc1 : wo.cell? ⟨b, off + k, none⟩ = some (.int .u64 (ns[k] : Nat)) := by
        rw [(hbel.cell (p := ⟨b, off + k, none⟩) (by show b < _; omega)), hc k (by simpa using hlt)]; simp [u64v]
      have hnk : (ns[k] : Int) < 18446744073709551616 := by have := Hn.out _ (List.getElem_mem hlt); omega
      go_wp2
      go_loopw [3, 5] (fun v n wr' => ∃ (m : Nat) (pre : List UInt8), n = .int .u64 m ∧ (m : Int) < 18446744073709551616 ∧ OwnB wr' w.heap.size v pre ∧ pre ++ put1 m = vput (ns.take k) ++ put1 ns[k] ∧ Below w.heap.size w wr') (fun _ n _ => (intOf n).toNat)
      case atStart => exact ⟨_, _, rfl, hnk, hown, rfl, hbel⟩
      case round =>
        obtain ⟨m, pre, rfl, hm, hown', hpre, hbel'⟩ := hrel
        have hpl : pre.length + 1 ≤ 1000000 := by
          have h1 := congrArg List.length hpre
          have h2 := Hlen.out k hlt
          have h3 := put1_pos m
          rw [List.getElem?_eq_getElem hlt] at h2
          simp only [Option.getD_some, List.length_append] at h1 h2
          omega
        have Hpre := Lib.hid hpre; clear hpre
        have hB0 : w.heap.size ≤ wr.heap.size := hbel'.size
        by_cases h128 : (128 : Int) ≤ m
        · go_wp2_with (at_builtin; refine wpList_app _ rfl bytesE rfl rfl (hown'.alloc _) rfl (row_new wr _ [_]) (by simp [Value.oneCell']) ?_ (by simp; omega) ?_)
          · first | omega | (simp; omega)
          · intro v1 w1 hown1 _ hbel1 _
            go_wp2
            go_roundw
            case rel =>
              refine ⟨m / 128, pre ++ [UInt8.ofNat (m % 128 + 128)], by go_num, by omega, ownB_snoc hown1 (or128 m), ?_, (hbel'.alloc hB0 _).trans hbel1⟩
              rw [← Hpre.out, put1_big (n := m) (by omega)]; simp
            case measure => simp [intOf]; omega
        · go_wp2_with (at_builtin; refine wpList_app _ rfl bytesE rfl rfl (hown'.alloc _) rfl (row_new wr _ [_]) (by simp [Value.oneCell']) ?_ (by simp; omega) ?_)
          · first | omega | (simp; omega)
          · intro v1 w1 hown1 _ hbel1 _
            go_wp2
            go_roundw
            case rel =>
              refine ⟨k + 1, by omega, by go_num, ?_, (hbel'.alloc hB0 _).trans hbel1⟩
              rw [vput_snoc ns k hlt, ← Hpre.out, put1_small (n := m) (by omega)]
              exact ownB_snoc hown1 (by rw [ofNat_toNat (by omega)])
            case measure => simp [intOf]; omega
    · go_wp2
      go_ret
      obtain rfl : k = ns.length := by omega
      exact ⟨_, rfl, by simpa using hown, hbel⟩
end Go.Proofs.YtmddgimadlmacaaDoor
