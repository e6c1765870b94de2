import Derived.Test.YtmddgimadlmacaaDoorWs29
import Derived.Lib.LaidTab
import Derived.Lib.AppendIntMem
/-! layer 10: names at every number, the document's too -/
namespace Go.Proofs.YtmddgimadlmacaaDoor
open Go.RowKit Garner

/-- the table of the library's number texts -/
abbrev TabP (w : World) : Prop := Lib.TabIs Tryd.prog w "internal/strconv.uint64pow10" .u64 Lib.pow10Tab
theorem TabP.below {B : Nat} {w w' : World} (h : TabP w) (hb : Below B w w') (hB : (Tryd.prog.globalNamed "internal/strconv.uint64pow10").getD 0 < B) : TabP w' := by
  unfold TabP Lib.TabIs World.var? at h ⊢
  cases hg : Tryd.prog.globalNamed "internal/strconv.uint64pow10" with
  | none => rw [hg] at h; cases h
  | some g =>
    rw [hg] at h hB
    simp only [Option.bind_some, Option.getD_some] at h hB ⊢
    rw [hb.block g hB]; exact h
set_option maxRecDepth 100000 in
set_option maxHeartbeats 4000000 in
theorem vNm_tab (n : Nat) (w : World) (h1 : 1 ≤ (n : Int)) (h2 : (n : Int) ≤ 1000000000) (ht : TabP w) : NmAt w n := by
  have d1 : decide ((n : Int) < 1) = false := decide_eq_false (by omega)
  have d2 : decide ((n : Int) > 1000000000) = false := decide_eq_false (by omega)
  have hsz : ¬ 9223372036854775807 < 4 + (Lib.decDigits n).length := by have := dec_len (n := n) (by omega); omega
  have hs := wal_str n
  have Hs := Lib.hid hs
  clear hs
  have hi : Lib.itoa (n : Int) = Lib.decDigits n := by
    unfold Lib.itoa
    rw [if_neg (by omega)]
    rfl
  have HT := Lib.hid ht
  clear ht
  have HC := Lib.hid (Tryd.strconv_Itoa (n : Int) (by omega) (by omega) w HT.out)
  unfold NmAt
  go_enter Tryd.func19, Tryd.ntmps19
  go_wp2_with fail
  refine HC.out.mono ?_
  rintro e w' ⟨rfl, k, os, hw⟩
  have hb : Below w.heap.size w w' := by rw [hw]; exact Lib.below_grow _ w (Nat.le_refl _) k os
  rw [hi]
  clear hw HC hi
  go_wp2
  go_ret
  refine ⟨?_, hb⟩
  rw [← Hs.out]; rfl
theorem nms_all {B : Nat} {w : World} (ht : TabP w) (hB : (Tryd.prog.globalNamed "internal/strconv.uint64pow10").getD 0 < B) (m : Nat) (hm : m ≤ 1000000000) : Nms B w m :=
  fun n w' h1 h2 hb => vNm_tab n w' (by omega) (by omega) (ht.below hb hB)
/-! the document's Name -/
theorem dec_step (m : Nat) (suf : Bs) (hm : m ≠ 0) : (if m = 0 then [] else Lib.decDigits m) ++ suf = (if m / 10 = 0 then [] else Lib.decDigits (m / 10)) ++ (UInt8.ofNat (48 + m % 10) :: suf) := by
  rw [if_neg hm, Lib.decDigits]
  split
  · rename_i h
    rw [if_pos (by omega), Nat.mod_eq_of_lt h]; rfl
  · rename_i h
    rw [if_neg (by omega), List.append_assoc]; rfl
set_option maxRecDepth 100000 in
set_option maxHeartbeats 4000000 in
theorem rNm_none (n : Int) (w : World) (h : n < 1 ∨ 1000000000 < n) : Calls Tryd.prog 20 #[.int .i64 n] w fun e w' => e = .returned (.string .empty) ∧ w' = w := by
  by_cases h1 : n < 1
  · have d1 : decide (n < 1) = true := decide_eq_true h1
    clear h
    go_enter Tryd.func20, Tryd.ntmps20
    go_wp2
    go_ret
    exact ⟨rfl, rfl⟩
  · have d1 : decide (n < 1) = false := decide_eq_false h1
    have d2 : decide (n > 1000000000) = true := decide_eq_true (by omega)
    clear h
    go_enter Tryd.func20, Tryd.ntmps20
    go_wp2
    go_ret
    exact ⟨rfl, rfl⟩
theorem u8_digit (m : Nat) : IntKind.u8.wrap (48 + (m : Int) % 10) = ((UInt8.ofNat (48 + m % 10)).toNat : Int) := by
  rw [IntWalk.u8_in _ (by omega), ofNat_toNat (by omega)]; omega
set_option maxRecDepth 100000 in
set_option maxHeartbeats 4000000 in
theorem rNm (n : Nat) (w : World) (h1 : 1 ≤ (n : Int)) (h2 : (n : Int) ≤ 1000000000) : Calls Tryd.prog 20 #[.int .i64 n] w fun e w' => e = .returned (.string (nmS (walNm n))) ∧ Below w.heap.size w w' := by
  have d1 : decide ((n : Int) < 1) = false := decide_eq_false (by omega)
  have d2 : decide ((n : Int) > 1000000000) = false := decide_eq_false (by omega)
  have hdl := dec_len (n := n) (by omega)
  have HD : Hid (Lib.decDigits n = (if n = 0 then [] else Lib.decDigits n) ++ []) := Lib.hid (by rw [if_neg (by omega), List.append_nil])
  go_enter Tryd.func20, Tryd.ntmps20
  go_wp2_with fail
  go_loopw [0, 3] (fun i s wr => ∃ (m : Nat) (suf : Bs), i = .int .i64 m ∧ m ≤ n ∧ s = .string (nmS suf) ∧ suf.length ≤ 10 ∧ Hid (Lib.decDigits n = (if m = 0 then [] else Lib.decDigits m) ++ suf) ∧ Below w.heap.size w wr) (fun i _ _ => (intOf i).toNat)
  case atStart => exact ⟨n, [], rfl, Nat.le_refl _, rfl, by simp, HD, Below.refl _ _⟩
  case round =>
    clear HD d1 d2
    obtain ⟨m, suf, rfl, hm, rfl, hsl, H, hb⟩ := hrel
    by_cases hm0 : 0 < (m : Int)
    · have hst := H.out.trans (dec_step m suf (by omega))
      have hl : (UInt8.ofNat (48 + m % 10) :: suf).length ≤ 10 := by
        have := congrArg List.length hst
        rw [List.length_append] at this
        omega
      have HS := Lib.hid hst
      clear hst H
      obtain ⟨c, hc⟩ : ∃ c, c = UInt8.ofNat (48 + m % 10) := ⟨_, rfl⟩
      have hcv : (48 + (m : Int) % 10) = (c.toNat : Int) := by rw [hc, ofNat_toNat (by omega)]; omega
      have row1 : Bytes (wr.alloc (.cells #[.int .u8 (48 + (m : Int) % 10)] 5)) (wr.heap.size + 1) (some ⟨wr.heap.size, 0, none⟩) 1 [c] := by
        rw [hcv]; exact row_new wr 5 [.int .u8 c.toNat]
      have cv := run_str (c := 1) row1
      rw [← hc] at HS hl
      have hcat : nmS [c] ++ nmS suf = nmS (c :: suf) := by
        apply ByteArray.ext
        simp [nmS]
      have HCat := Lib.hid hcat
      clear hcv row1 hcat hc
      have hsz : ¬ 9223372036854775807 < 1 + suf.length := by omega
      have hcv1 : (convert 23 9 (.slice (some ⟨wr.heap.size, 0, none⟩) 1 1)).run Tryd.prog (wr.alloc (.cells #[.int .u8 (48 + (m : Int) % 10)] 5)) = .ok (.string (nmS [c])) (wr.alloc (.cells #[.int .u8 (48 + (m : Int) % 10)] 5)) := cv
      clear cv
      go_wp2
      go_roundw
      case rel => exact ⟨m / 10, c :: suf, by go_num, by omega, by rw [HCat.out], hl, HS, hb.alloc hb.size _⟩
      case measure => simp [intOf]; omega
    · obtain rfl : m = 0 := by omega
      have hd : Lib.decDigits n = suf := by rw [H.out, if_pos rfl, List.nil_append]
      have hs : (⟨#[119, 97, 108, 45]⟩ : ByteArray) ++ nmS suf = nmS (walNm n) := by
        rw [← hd]; exact wal_str n
      have Hs := Lib.hid hs
      clear hs hd H
      have hsz : ¬ 9223372036854775807 < 4 + suf.length := by omega
      go_wp2
      go_ret
      exact ⟨by rw [← Hs.out]; rfl, hb⟩
end Go.Proofs.YtmddgimadlmacaaDoor
