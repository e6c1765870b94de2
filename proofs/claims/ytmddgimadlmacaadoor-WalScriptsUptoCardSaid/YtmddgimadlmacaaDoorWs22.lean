import Derived.Test.YtmddgimadlmacaaDoorWs06
import Derived.Deep.DeepCutAuto
import Derived.Outline
namespace Go.Proofs.YtmddgimadlmacaaDoor
open Go.RowKit Garner

theorem byte_hi {c : Nat} (h : 128 ≤ c) : ¬ runeOk c := by unfold runeOk; omega
/-- a step of the document's look, byte by byte -/
theorem rn_step {s : ByteArray} {k : Nat} (h : k < s.size) : runesOk s.size s k = (decide (runeOk (s[k]'h).toNat) && runesOk s.size s (k + 1)) := by
  rw [runes_step h]
  by_cases ha : (s[k]'h).toNat < 128
  · rw [decode_ascii s k h ha]
  · have h1 := (decode_high s k h (by omega)).1
    rw [decide_eq_false (byte_hi h1), decide_eq_false (byte_hi (by omega))]; rfl
set_option maxRecDepth 100000 in
set_option maxHeartbeats 4000000 in
theorem rName (s : ByteArray) (w : World) (hs : s.size ≤ 140737488355328) : Calls Tryd.prog 62 #[.string s] w fun e w' => e = .returned (.bool (nameOk s)) ∧ Below w.heap.size w w' := by
  have h0 : nameOk s = ((decide (1 ≤ s.size ∧ s.size ≤ 32)) && runesOk s.size s 0) := rfl
  obtain ⟨b0, hb0⟩ : ∃ b, b = decide (1 ≤ s.size ∧ s.size ≤ 32) := ⟨_, rfl⟩
  rw [← hb0] at h0
  have Hb0 := Lib.hid hb0; have H0 := Lib.hid h0
  clear hb0 h0
  go_enter Tryd.func62, Tryd.ntmps62
  go_upto_region 1 with fail
  go_cut [3] (fun s3 wx => s3 = .bool b0 ∧ wx = w)
  case first =>
    by_cases h1 : (1 : Int) ≤ s.size
    · have g1 : decide ((s.size : Int) ≥ 1) = true := decide_eq_true h1
      by_cases h2 : (s.size : Int) ≤ 32
      · have g2 : decide ((s.size : Int) ≤ 32) = true := decide_eq_true h2
        have hb : b0 = true := by rw [Hb0.out]; exact decide_eq_true (by omega)
        subst hb
        clear Hb0 H0
        go_wp2
        go_meet
        exact ⟨rfl, rfl⟩
      · have g2 : decide ((s.size : Int) ≤ 32) = false := decide_eq_false h2
        have hb : b0 = false := by rw [Hb0.out]; exact decide_eq_false (by omega)
        subst hb
        clear Hb0 H0
        go_wp2
        go_meet
        exact ⟨rfl, rfl⟩
    · have g1 : decide ((s.size : Int) ≥ 1) = false := decide_eq_false h1
      have hb : b0 = false := by rw [Hb0.out]; exact decide_eq_false (by omega)
      subst hb
      clear Hb0 H0
      go_wp2
      go_meet
      exact ⟨rfl, rfl⟩
  case rest =>
    obtain ⟨rfl, rfl⟩ := hcut
    clear Hb0
    go_wp2_with fail
    go_loopw [3, 4] (fun v3 v4 wr => ∃ (b : Bool) (k : Nat), v3 = .bool b ∧ v4 = .int .i64 k ∧ k ≤ s.size ∧ Hid (nameOk s = (b && runesOk s.size s k)) ∧ wr = wc) (fun _ v4 _ => s.size - (intOf v4).toNat)
    case atStart => exact ⟨b0, 0, rfl, rfl, Nat.zero_le _, H0, rfl⟩
    case round =>
      clear H0
      obtain ⟨b, k, rfl, rfl, hk, H, rfl⟩ := hrel
      by_cases hlt : (k : Int) < s.size
      · cases b with
        | false =>
          go_wp2
          go_ret
          rw [H.out]
          exact ⟨rfl, Below.refl _ _⟩
        | true =>
          have hi : 0 ≤ (k : Int) ∧ (k : Int) < s.size := ⟨by omega, hlt⟩
          have hst := rn_step (s := s) (k := k) (by omega)
          have hix := run_index_string (P := Tryd.prog) wr 9 s .i64 k (by kernel_rfl)
          rw [dif_pos hi] at hix
          obtain ⟨c, hc⟩ : ∃ c : Nat, c = (s[k]'(by omega)).toNat := ⟨_, rfl⟩
          have hcl : c ≤ 255 := by rw [hc]; have := (s[k]'(by omega)).toNat_lt; omega
          have hix' : (Instr.index 9 (.string s) (.int .i64 k)).run Tryd.prog wr = .ok (.int .u8 c) wr := by
            rw [hix, hc]; rfl
          rw [← hc] at hst
          clear hix hc
          have Hst := Lib.hid hst
          clear hst
          go_upto_region 6 with fail
          · have hgo : Hid (nameOk s = (decide (runeOk c) && runesOk s.size s (k + 1))) := by
              show _ = _
              rw [H.out, Hst.out]; rfl
            clear H Hst hix' hi
            obtain ⟨d, hd⟩ : ∃ d, d = decide (runeOk c) := ⟨_, rfl⟩
            rw [← hd] at hgo
            have Hd := Lib.hid hd
            clear hd
            by_cases e46 : (c : Int) = 46
            · have q1 : ((c : Int) == 46) = true := beq_iff_eq.2 e46
              have hb : d = true := by rw [Hd.out]; exact decide_eq_true (by unfold runeOk; omega)
              subst hb
              clear Hd e46
              go_wp2
              go_roundw
              case rel => exact ⟨_, k + 1, rfl, by go_num, by omega, hgo, trivial⟩
              case measure => simp [intOf]; omega
            · have q1 : ((c : Int) == 46) = false := beq_eq_false_iff_ne.2 e46
              by_cases e45 : (c : Int) = 45
              · have q2 : ((c : Int) == 45) = true := beq_iff_eq.2 e45
                have hb : d = true := by rw [Hd.out]; exact decide_eq_true (by unfold runeOk; omega)
                subst hb
                clear Hd e46 e45
                go_wp2
                go_roundw
                case rel => exact ⟨_, k + 1, rfl, by go_num, by omega, hgo, trivial⟩
                case measure => simp [intOf]; omega
              · have q2 : ((c : Int) == 45) = false := beq_eq_false_iff_ne.2 e45
                by_cases e48 : (c : Int) ≥ 48
                · by_cases e57 : (c : Int) ≤ 57
                  · have q3 := decide_eq_true e48
                    have q4 := decide_eq_true e57
                    have hb : d = true := by rw [Hd.out]; exact decide_eq_true (by unfold runeOk; omega)
                    subst hb
                    clear Hd e46 e45
                    go_wp2
                    go_roundw
                    case rel => exact ⟨_, k + 1, rfl, by go_num, by omega, hgo, trivial⟩
                    case measure => simp [intOf]; omega
                  · have q3 := decide_eq_true e48
                    have q4 := decide_eq_false e57
                    by_cases e97 : (c : Int) ≥ 97
                    · have q5 := decide_eq_true e97
                      by_cases e122 : (c : Int) ≤ 122
                      · have q6 := decide_eq_true e122
                        have hb : d = true := by rw [Hd.out]; exact decide_eq_true (by unfold runeOk; omega)
                        subst hb
                        clear Hd e46 e45
                        go_wp2
                        go_roundw
                        case rel => exact ⟨_, k + 1, rfl, by go_num, by omega, hgo, trivial⟩
                        case measure => simp [intOf]; omega
                      · have q6 := decide_eq_false e122
                        have hb : d = false := by rw [Hd.out]; exact decide_eq_false (by unfold runeOk; omega)
                        subst hb
                        clear Hd e46 e45
                        go_wp2
                        go_roundw
                        case rel => exact ⟨_, k + 1, rfl, by go_num, by omega, hgo, trivial⟩
                        case measure => simp [intOf]; omega
                    · have q5 := decide_eq_false e97
                      have hb : d = false := by rw [Hd.out]; exact decide_eq_false (by unfold runeOk; omega)
                      subst hb
                      clear Hd e46 e45
                      go_wp2
                      go_roundw
                      case rel => exact ⟨_, k + 1, rfl, by go_num, by omega, hgo, trivial⟩
                      case measure => simp [intOf]; omega
                · have q3 := decide_eq_false e48
                  have e97 : ¬ (c : Int) ≥ 97 := by omega
                  have q5 := decide_eq_false e97
                  have hb : d = false := by rw [Hd.out]; exact decide_eq_false (by unfold runeOk; omega)
                  subst hb
                  clear Hd e46 e45
                  go_wp2
                  go_roundw
                  case rel => exact ⟨_, k + 1, rfl, by go_num, by omega, hgo, trivial⟩
                  case measure => simp [intOf]; omega
      · obtain rfl : k = s.size := by omega
        have he := runes_end (s := s) (pos := s.size) (by omega)
        have hgo : Hid (nameOk s = b) := by
          show _ = _
          rw [H.out, he, Bool.and_true]
        clear H he
        go_wp2
        go_ret
        rw [hgo.out]
        exact ⟨rfl, Below.refl _ _⟩
end Go.Proofs.YtmddgimadlmacaaDoor
