import Derived.Test.YtmddgimadlmacaaBase
import Derived.Laws.RangeAny
namespace Garner
open Go
theorem dec_pos (s : ByteArray) (pos : Nat) (h : pos < s.size) : 1 ≤ (Utf8.decode s pos).2 := by
  by_cases ha : (s[pos]'h).toNat < 128
  · rw [decode_ascii s pos h ha]; omega
  · exact (decode_high s pos h (by omega)).2
/-- a rune that a file's name may hold -/
def runeOk (r : Nat) : Prop := r = 46 ∨ r = 45 ∨ (48 ≤ r ∧ r ≤ 57) ∨ (97 ≤ r ∧ r ≤ 122)
instance (r : Nat) : Decidable (runeOk r) := by unfold runeOk; infer_instance
def runesOk : Nat → ByteArray → Nat → Bool
  | 0, _, _ => true
  | f + 1, s, pos => if pos < s.size then decide (runeOk (Utf8.decode s pos).1) && runesOk f s (pos + (Utf8.decode s pos).2) else true
theorem runesOk_fuel : ∀ (f g : Nat) (s : ByteArray) (pos : Nat), s.size - pos ≤ f → s.size - pos ≤ g → runesOk f s pos = runesOk g s pos
  | 0, 0, _, _, _, _ => rfl
  | 0, g + 1, s, pos, h, _ => by rw [runesOk, runesOk, if_neg (by omega)]
  | f + 1, 0, s, pos, _, h => by rw [runesOk, runesOk, if_neg (by omega)]
  | f + 1, g + 1, s, pos, h1, h2 => by
    rw [runesOk, runesOk]
    split
    · rename_i hlt
      have := dec_pos s pos hlt
      rw [runesOk_fuel f g s _ (by omega) (by omega)]
    · rfl
def nameOk (s : ByteArray) : Bool := decide (1 ≤ s.size ∧ s.size ≤ 32) && runesOk s.size s 0
theorem runes_end {s : ByteArray} {pos : Nat} (h : ¬ pos < s.size) : runesOk s.size s pos = true := by
  cases hf : s.size with
  | zero => rfl
  | succ n => rw [runesOk, if_neg h]
theorem runes_step {s : ByteArray} {pos : Nat} (h : pos < s.size) : runesOk s.size s pos = (decide (runeOk (Utf8.decode s pos).1) && runesOk s.size s (pos + (Utf8.decode s pos).2)) := by
  have hp := dec_pos s pos h
  rw [runesOk_fuel s.size (s.size + 1) s pos (by omega) (by omega), runesOk, if_pos h]
end Garner
namespace Go.Proofs.Ytmddgimadlmacaa
open Go.RowKit Garner

set_option maxRecDepth 100000 in
set_option maxHeartbeats 4000000 in
theorem vName (s : ByteArray) (w : World) : Calls Try.prog 82 #[.string s] w fun e w' => e = .returned (.bool (nameOk s)) ∧ Below w.heap.size w w' := by
  by_cases h1 : (s.size : Int) < 1
  · have hn : nameOk s = false := by unfold nameOk; rw [decide_eq_false (by omega)]; rfl
    go_enter Try.func82, Try.ntmps82
    go_wp2
    go_ret
    (try rw [hn]); exact ⟨rfl, Below.refl _ _⟩
  · by_cases h2 : (32 : Int) < s.size
    · have hn : nameOk s = false := by unfold nameOk; rw [decide_eq_false (by omega)]; rfl
      go_enter Try.func82, Try.ntmps82
      go_wp2
      go_ret
      (try rw [hn]); exact ⟨rfl, Below.refl _ _⟩
    · have hn : nameOk s = runesOk s.size s 0 := by unfold nameOk; rw [decide_eq_true (by omega)]; rfl
      have Hn := Lib.hid hn; clear hn
      go_enter Try.func82, Try.ntmps82
      go_wp2_with fail
      go_loopw [4] (fun _ wr => ∃ pos : Nat, wr = w.iter s pos ∧ Hid (runesOk s.size s 0 = runesOk s.size s pos)) (fun _ wr => s.size - wr.iterPos w.heap.size)
      case atStart => exact ⟨0, rfl, rfl⟩
      case round =>
        obtain ⟨pos, rfl, hr⟩ := hrel
        by_cases hlt : pos < s.size
        · have hnx := run_next_any (P := Try.prog) w s pos
          have hst := runes_step hlt
          have hps := dec_pos s pos hlt
          have hle := decode_le s pos
          generalize hd : (Utf8.decode s pos).1 = r at *
          generalize hd2 : (Utf8.decode s pos).2 = wd at *
          have Hst := Lib.hid hst; clear hst hd hd2
          have hnx' := fun ty => hnx ty hlt
          clear hnx
          have hle' : (r : Int) ≤ 2147483647 := by omega
          by_cases hok : runeOk r
          · have hgo : Hid (runesOk s.size s 0 = runesOk s.size s (pos + wd)) := by
              show _ = _
              rw [hr.out, Hst.out, decide_eq_true hok]; rfl
            rcases hok with rfl | rfl | ⟨a1, a2⟩ | ⟨a1, a2⟩
            all_goals
              go_wp2
              all_goals
                go_roundw
                case rel => exact ⟨pos + wd, rfl, hgo⟩
                case measure => simp; omega
          · have hno : Hid (runesOk s.size s 0 = false) := by
              show _ = _
              rw [hr.out, Hst.out, decide_eq_false hok]; rfl
            have b1 : (r : Int) ≠ 46 := fun h => hok (.inl (by omega))
            have b2 : (r : Int) ≠ 45 := fun h => hok (.inr (.inl (by omega)))
            have b3 : ¬ (48 ≤ (r : Int) ∧ (r : Int) ≤ 57) := fun h => hok (.inr (.inr (.inl (by omega))))
            have b4 : ¬ (97 ≤ (r : Int) ∧ (r : Int) ≤ 122) := fun h => hok (.inr (.inr (.inr (by omega))))
            clear hok
            have b5 : (r : Int) < 48 ∨ 57 < (r : Int) := by omega
            have b6 : (r : Int) < 97 ∨ 122 < (r : Int) := by omega
            clear b3 b4
            have b7 : ((r : Int) != 46) = true := by rw [bne_iff_ne]; exact b1
            have b8 : ((r : Int) != 45) = true := by rw [bne_iff_ne]; exact b2
            rcases b5 with b5 | b5 <;> rcases b6 with b6 | b6
            all_goals
              first
                | (exfalso; omega)
                | (go_wp2
                   all_goals
                     first
                       | (go_ret
                          rw [Hn.out, hno.out]
                          exact ⟨rfl, (Below.refl _ _).alloc (Nat.le_refl _) _⟩)
                       | (exfalso; omega)
                       | (exfalso; simp at *; omega))
        · have hnx := fun ty => run_next_end (P := Try.prog) w s pos ty hlt
          have hend := runes_end hlt
          go_wp2
          go_ret
          rw [Hn.out, hr.out, hend]
          exact ⟨rfl, (Below.refl _ _).alloc (Nat.le_refl _) _⟩
end Go.Proofs.Ytmddgimadlmacaa
