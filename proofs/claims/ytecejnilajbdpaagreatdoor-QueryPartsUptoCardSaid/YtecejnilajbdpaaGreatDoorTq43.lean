import Derived.Test.YtecejnilajbdpaaGreatDoorTq19
import Derived.Test.YtecejnilajbdpaaGreatDoorTq35
import Derived.Test.YtecejnilajbdpaaGreatDoorTq42
/-! query's scanner: next, name -/
namespace Garner
open Go
def nextS (sign s : Bs) : Bs := if Lib.hasPrefix (skipS s) sign then (skipS s).drop sign.length else skipS s
theorem skip_trim (s : Bs) : Lib.trimLeftB s 32 = skipS s := by
  unfold Lib.trimLeftB
  induction s with
  | nil => rfl
  | cons c r ih =>
    rw [skipS, List.dropWhile_cons]
    by_cases h : c = 32
    · rw [if_pos h, if_pos (by simp [h]), ih]
    · rw [if_neg h, if_neg (by simp [h])]
theorem nextS_len (sign s : Bs) : (nextS sign s).length ≤ s.length := by
  have := skip_len s
  unfold nextS
  split
  · rw [List.length_drop]; omega
  · exact this
theorem head_take : ∀ s : Bs, nameHead s = s.take (nameHead s).length
  | [] => rfl
  | c :: r => by
    rw [nameHead]
    split
    · rw [List.length_cons, List.take_succ_cons, ← head_take r]
    · rfl
theorem rest_drop : ∀ s : Bs, nameRest s = s.drop (nameHead s).length
  | [] => rfl
  | c :: r => by
    rw [nameHead, nameRest]
    split
    · rw [List.length_cons, List.drop_succ_cons, rest_drop r]
    · rfl
theorem head_le (s : Bs) : (nameHead s).length ≤ s.length := by
  have := congrArg List.length (head_take s)
  rw [List.length_take] at this
  omega
def nameC' (q : Nat) : Bool := decide (q = 95) || (decide (97 ≤ q) && decide (q ≤ 122)) || (decide (48 ≤ q) && decide (q ≤ 57))
theorem nameC_q {c : UInt8} {q : Nat} (h : c.toNat = q) : nameC false c = nameC' q := by unfold nameC nameC'; rw [h]; simp
theorem head_lt {s : Bs} {k : Nat} {c : UInt8} (h : s[k]? = some c) (hk : k ≤ (nameHead s).length) : k < (nameHead s).length ↔ nameC false c = true := by
  induction s generalizing k with
  | nil => simp at h
  | cons d r ih =>
    cases k with
    | zero =>
      simp at h
      subst h
      rw [nameHead]
      cases nameC false d <;> simp
    | succ k =>
      rw [nameHead] at hk ⊢
      cases hd : nameC false d with
      | false => rw [hd] at hk; simp at hk
      | true =>
        rw [hd] at hk
        simp at hk ⊢
        exact ih (by simpa using h) hk
end Garner
namespace Go.Proofs.YtecejnilajbdpaaGreatDoor
open Go.RowKit Go.Shelf Garner
/-- a scanner in memory -/
abbrev ScanIs (w : World) (g : Nat) (s : Bs) (bad : Bool) : Prop := Blk w g 94 [strB s, .bool bad]
def NextO (b : Bool) (g : Nat) (s : Bs) (bad : Bool) (w : World) (e : Ending) (w' : World) : Prop := e = .returned (.bool b) ∧ ScanIs w' g s bad ∧ But [g] w w' ∧ KeepM [94] w w'
theorem strB_str (s : Bs) : strB s = .string ⟨s.toArray⟩ := rfl
set_option maxRecDepth 100000 in
set_option maxHeartbeats 8000000 in
theorem vSNext (g : Nat) (s sign : Bs) (bad : Bool) (P : ByteArray) (hP : P = ⟨sign.toArray⟩) (w : World) (h : ScanIs w g s bad) :
    Calls Tryz.prog 73 #[.pointer (some ⟨g, 0, none⟩), .string P] w fun e w' => NextO (Lib.hasPrefix (skipS s) sign) g (nextS sign s) bad w e w' := by
  obtain ⟨S, eS, hS⟩ := str_form s
  obtain ⟨T, eT, hT⟩ := str_form (skipS s)
  obtain ⟨U, eU, hU⟩ := str_form (nextS sign s)
  have ht := Tryz.strings_TrimLeft_one S 32 (by decide) w
  rw [show S.data.toList = s by rw [hS], skip_trim, ← hT] at ht
  obtain ⟨W1, hW1⟩ : ∃ W1, W1 = w.setCell ⟨g, 0, none⟩ (.string T) := ⟨_, rfl⟩
  have k0 : Blk w g 94 [.string S, .bool bad] := by rw [← eS]; exact h
  have k1 : Blk W1 g 94 [.string T, .bool bad] := by rw [hW1]; exact k0.set_ 0 _
  have hc := Tryz.strings_CutPrefix T P W1
  rw [show T.data.toList = skipS s by rw [hT], show P.data.toList = sign by rw [hP]] at hc
  have b1 : But [g] w W1 := by rw [hW1]; exact (But.refl _ _).setCell (by simp) _
  have m1 : KeepM [94] w W1 := by rw [hW1]; exact KeepM.setCell (.refl _ w) (p := ⟨g, 0, none⟩) (show w.heap[g]? = _ from k0) (by simp) _
  have c0 : w.cell? ⟨g, 0, none⟩ = some (.string S) := k0.cell 0
  have f0 := k0.frozen 0
  have c1 : W1.cell? ⟨g, 0, none⟩ = some (.string T) := k1.cell 0
  have f1 := k1.frozen 0
  obtain ⟨b, hb⟩ : ∃ b, Lib.hasPrefix (skipS s) sign = b := ⟨_, rfl⟩
  rw [hb] at hc ⊢
  have hnx : nextS sign s = if b then (skipS s).drop sign.length else skipS s := by unfold nextS; rw [hb]
  have htp : Lib.trimPrefix (skipS s) sign = nextS sign s := by unfold Lib.trimPrefix; rw [hb, hnx]
  rw [htp, ← hU] at hc
  have hTU : b = false → T = U := fun h => by rw [hT, hU, hnx, h]; rfl
  have HTr := Lib.hid ht; have HCu := Lib.hid hc; have HTU := Lib.hid hTU; have K1 := Lib.hid k1; have B1 := Lib.hid b1; have M1 := Lib.hid m1; have HeU := Lib.hid eU
  clear ht hc hTU k1 b1 m1 k0 hnx htp hb hS hT hU eS eT eU h hP
  go_enter Tryz.func73, Tryz.ntmps73
  go_wp2_with (refine HTr.out.mono ?_; rintro e wz ⟨rfl, hz⟩; obtain rfl : w = wz := hz.symm)
  rw [← hW1]
  clear hW1 c0 f0
  refine HCu.out.mono ?_
  rintro e wz ⟨rfl, hz⟩
  obtain rfl : W1 = wz := hz.symm
  cases b with
  | false =>
    obtain rfl := HTU.out rfl
    go_wp2
    go_ret
    exact ⟨rfl, by rw [ScanIs, HeU.out]; exact K1.out, B1.out, M1.out⟩
  | true =>
    have k2 := K1.out.set_ 0 (.string U)
    have b2 := B1.out.setCell (p := ⟨g, 0, none⟩) (by simp) (.string U)
    have m2 := KeepM.setCell M1.out (p := ⟨g, 0, none⟩) (show W1.heap[g]? = _ from K1.out) (by simp) (.string U)
    have K2 := Lib.hid k2; have B2 := Lib.hid b2; have M2 := Lib.hid m2
    clear k2 b2 m2
    go_wp2
    go_ret
    exact ⟨rfl, by rw [ScanIs, HeU.out]; exact K2.out, B2.out, M2.out⟩
def NameO (g : Nat) (s : Bs) (bad : Bool) (w : World) (e : Ending) (w' : World) : Prop := e = .returned (strB (nameHead (skipS s))) ∧ ScanIs w' g (nameRest (skipS s)) bad ∧ But [g] w w' ∧ KeepM [94] w w'
set_option maxRecDepth 100000 in
set_option maxHeartbeats 16000000 in
theorem vSName (g : Nat) (s : Bs) (bad : Bool) (w : World) (h : ScanIs w g s bad) (hl : s.length ≤ 1000000000) :
    Calls Tryz.prog 74 #[.pointer (some ⟨g, 0, none⟩)] w fun e w' => NameO g s bad w e w' := by
  have hn := vSNext g s [] bad ⟨#[]⟩ rfl w h
  have hs0 : nextS [] s = skipS s := by unfold nextS; split <;> rfl
  rw [hs0] at hn
  have hsl := skip_len s
  obtain ⟨t, ht⟩ : ∃ t, skipS s = t := ⟨_, rfl⟩
  rw [ht] at hn hsl
  unfold NameO
  rw [ht]
  obtain ⟨T, eT, hT⟩ := str_form t
  have hlen := head_le t
  obtain ⟨N, hN⟩ : ∃ N, t.length = N := ⟨_, rfl⟩
  rw [hN] at hlen hsl
  have zT : T.size = N := by rw [hT, ← hN]; exact str_size t
  have HN := Lib.hid hn; have HT := Lib.hid hT; have HNn := Lib.hid hN; have HeT := Lib.hid eT
  clear hn hs0 ht hT hN eT h
  go_enter Tryz.func74, Tryz.ntmps74
  go_wp2_with fail
  refine HN.out.mono ?_
  rintro e w1 ⟨rfl, k1, b1, m1⟩
  rw [ScanIs, HeT.out] at k1
  have hidx : ∀ k, k < N → ∀ z : Int, z = (k : Int) → (Instr.index 9 (.string T) (.int .i64 z)).run Tryz.prog w1 = .ok (.int .u8 (byteN t k : Nat)) w1 := fun k hk z hz => idx_byte (P := Tryz.prog) 9 Tryz.underlying9 T t HT.out z k hz (by rw [HNn.out]; exact hk) w1
  have c0 : w1.cell? ⟨g, 0, none⟩ = some (.string T) := k1.cell 0
  have f0 := k1.frozen 0
  have K1 := Lib.hid k1; have B1 := Lib.hid b1; have M1 := Lib.hid m1; have HI := Lib.hid hidx
  clear k1 b1 m1 hidx HN
  go_wp2
  go_loopw [3] (fun i wr => ∃ k : Nat, k ≤ (nameHead t).length ∧ i = .int .i64 k ∧ wr = w1) (fun i _ => N + 1 - (intOf i).toNat)
  case atStart => exact ⟨0, Nat.zero_le _, rfl, rfl⟩
  case round =>
    obtain ⟨k, hk, rfl, hwr⟩ := hrel
    obtain rfl : w1 = wr := hwr.symm
    have wk1 : IntKind.i64.wrap ((k : Int) + 1) = ((k + 1 : Nat) : Int) := by rw [IntKind.wrap_i64]; omega
    have go : ∀ q : Nat, (∃ c, t[k]? = some c ∧ c.toNat = q) → nameC' q = true → k + 1 ≤ (nameHead t).length := fun q hc hy => by
      obtain ⟨c, hc, hq⟩ := hc
      have h1 := head_lt hc hk
      have h2 : nameC false c = true := by rw [nameC_q hq]; exact hy
      have := h1.2 h2
      omega
    have st : ∀ q : Nat, (∃ c, t[k]? = some c ∧ c.toNat = q) → nameC' q = false → k = (nameHead t).length := fun q hc hy => by
      obtain ⟨c, hc, hq⟩ := hc
      have h1 := head_lt hc hk
      have h2 : nameC false c = false := by rw [nameC_q hq]; exact hy
      have h3 : ¬ k < (nameHead t).length := fun h => by rw [h1.1 h] at h2; cases h2
      omega
    by_cases hlt : k < N
    · have z1 : (k : Int) < (N : Int) := by omega
      obtain ⟨c, hc⟩ : ∃ c, t[k]? = some c := ⟨_, List.getElem?_eq_getElem (by rw [HNn.out]; exact hlt)⟩
      have i1 := HI.out k hlt (k : Int) rfl
      have eb : byteN t k = c.toNat := by unfold byteN; rw [List.getD, hc]; rfl
      rw [eb] at i1
      obtain ⟨q, hq⟩ : ∃ q, c.toNat = q := ⟨_, rfl⟩
      rw [hq] at i1
      have hcase : (97 ≤ q ∧ q ≤ 122) ∨ q = 95 ∨ (48 ≤ q ∧ q ≤ 57) ∨ q < 48 ∨ (57 < q ∧ q < 95) ∨ q = 96 ∨ 122 < q := by omega
      rcases hcase with ⟨a1, a2⟩ | a1 | ⟨a1, a2⟩ | a1 | ⟨a1, a2⟩ | a1 | a1
      · have hgo := go q ⟨c, hc, hq⟩ (by simp [nameC', a1, a2])
        have b4 : ((q : Int) == 95) = false := by simp; omega
        have c1 : (97 : Int) ≤ (q : Int) := by omega
        have c2 : (q : Int) ≤ 122 := by omega
        have Hgo := Lib.hid hgo
        clear go st hc hq eb hgo
        go_wp2
        go_roundw
        case rel => exact ⟨k + 1, Hgo.out, by first | rfl | go_num, (by first | rfl | trivial)⟩
        case measure => simp [intOf]; omega
      · have hgo := go q ⟨c, hc, hq⟩ (by simp [nameC', a1])
        have Hgo := Lib.hid hgo
        clear go st hc hq eb hgo
        subst a1
        go_wp2
        go_roundw
        case rel => exact ⟨k + 1, Hgo.out, by first | rfl | go_num, (by first | rfl | trivial)⟩
        case measure => simp [intOf]; omega
      · have hgo := go q ⟨c, hc, hq⟩ (by simp [nameC', a1, a2])
        have b4 : ((q : Int) == 95) = false := by simp; omega
        have c1 : (48 : Int) ≤ (q : Int) := by omega
        have c2 : (q : Int) ≤ 57 := by omega
        have c3 : ¬ (97 : Int) ≤ (q : Int) := by omega
        have Hgo := Lib.hid hgo
        clear go st hc hq eb hgo
        go_wp2
        go_roundw
        case rel => exact ⟨k + 1, Hgo.out, by first | rfl | go_num, (by first | rfl | trivial)⟩
        case measure => simp [intOf]; omega
      · have hst := st q ⟨c, hc, hq⟩ (by simp [nameC']; omega)
        have HK := Lib.hid hst
        clear go st hc hq eb hst
        have b4 : ((q : Int) == 95) = false := by simp; omega
        have c1 : ¬ (48 : Int) ≤ (q : Int) := by omega
        have c3 : ¬ (97 : Int) ≤ (q : Int) := by omega
        have hex1 : T.extract 0 k = ⟨(nameHead t).toArray⟩ := by
          rw [HT.out]
          apply ByteArray.ext
          rw [← Array.toList_inj, Lib.extract_data]
          simp only
          rw [List.drop_zero, Nat.sub_zero, HK.out]
          exact (head_take t).symm
        have hex2 : T.extract k N = ⟨(nameRest t).toArray⟩ := by
          rw [HT.out]
          apply ByteArray.ext
          rw [← Array.toList_inj, Lib.extract_data]
          simp only
          rw [List.take_of_length_le (by rw [List.length_drop, HNn.out]; exact Nat.le_refl _), HK.out]
          exact (rest_drop t).symm
        have k2 := K1.out.set_ 0 (.string ⟨(nameRest t).toArray⟩)
        have b2 := B1.out.setCell (p := ⟨g, 0, none⟩) (by simp) (.string ⟨(nameRest t).toArray⟩)
        have m2 := KeepM.setCell M1.out (p := ⟨g, 0, none⟩) (show w1.heap[g]? = _ from K1.out) (by simp) (.string ⟨(nameRest t).toArray⟩)
        have K2 := Lib.hid k2; have B2 := Lib.hid b2; have M2 := Lib.hid m2
        clear k2 b2 m2
        go_wp2
        go_ret
        exact ⟨by first | rfl | (rw [hex1]; rfl), by first | exact K2.out | (rw [hex2]; exact K2.out), by first | exact B2.out | (rw [hex2]; exact B2.out), by first | exact M2.out | (rw [hex2]; exact M2.out)⟩
      · have hst := st q ⟨c, hc, hq⟩ (by simp [nameC']; omega)
        have HK := Lib.hid hst
        clear go st hc hq eb hst
        have b4 : ((q : Int) == 95) = false := by simp; omega
        have c1 : (48 : Int) ≤ (q : Int) := by omega
        have c2 : ¬ (q : Int) ≤ 57 := by omega
        have c3 : ¬ (97 : Int) ≤ (q : Int) := by omega
        have hex1 : T.extract 0 k = ⟨(nameHead t).toArray⟩ := by
          rw [HT.out]
          apply ByteArray.ext
          rw [← Array.toList_inj, Lib.extract_data]
          simp only
          rw [List.drop_zero, Nat.sub_zero, HK.out]
          exact (head_take t).symm
        have hex2 : T.extract k N = ⟨(nameRest t).toArray⟩ := by
          rw [HT.out]
          apply ByteArray.ext
          rw [← Array.toList_inj, Lib.extract_data]
          simp only
          rw [List.take_of_length_le (by rw [List.length_drop, HNn.out]; exact Nat.le_refl _), HK.out]
          exact (rest_drop t).symm
        have k2 := K1.out.set_ 0 (.string ⟨(nameRest t).toArray⟩)
        have b2 := B1.out.setCell (p := ⟨g, 0, none⟩) (by simp) (.string ⟨(nameRest t).toArray⟩)
        have m2 := KeepM.setCell M1.out (p := ⟨g, 0, none⟩) (show w1.heap[g]? = _ from K1.out) (by simp) (.string ⟨(nameRest t).toArray⟩)
        have K2 := Lib.hid k2; have B2 := Lib.hid b2; have M2 := Lib.hid m2
        clear k2 b2 m2
        go_wp2
        go_ret
        exact ⟨by first | rfl | (rw [hex1]; rfl), by first | exact K2.out | (rw [hex2]; exact K2.out), by first | exact B2.out | (rw [hex2]; exact B2.out), by first | exact M2.out | (rw [hex2]; exact M2.out)⟩
      · have hst := st q ⟨c, hc, hq⟩ (by simp [nameC', a1])
        have HK := Lib.hid hst
        clear go st hc hq eb hst
        subst a1
        have hex1 : T.extract 0 k = ⟨(nameHead t).toArray⟩ := by
          rw [HT.out]
          apply ByteArray.ext
          rw [← Array.toList_inj, Lib.extract_data]
          simp only
          rw [List.drop_zero, Nat.sub_zero, HK.out]
          exact (head_take t).symm
        have hex2 : T.extract k N = ⟨(nameRest t).toArray⟩ := by
          rw [HT.out]
          apply ByteArray.ext
          rw [← Array.toList_inj, Lib.extract_data]
          simp only
          rw [List.take_of_length_le (by rw [List.length_drop, HNn.out]; exact Nat.le_refl _), HK.out]
          exact (rest_drop t).symm
        have k2 := K1.out.set_ 0 (.string ⟨(nameRest t).toArray⟩)
        have b2 := B1.out.setCell (p := ⟨g, 0, none⟩) (by simp) (.string ⟨(nameRest t).toArray⟩)
        have m2 := KeepM.setCell M1.out (p := ⟨g, 0, none⟩) (show w1.heap[g]? = _ from K1.out) (by simp) (.string ⟨(nameRest t).toArray⟩)
        have K2 := Lib.hid k2; have B2 := Lib.hid b2; have M2 := Lib.hid m2
        clear k2 b2 m2
        go_wp2
        go_ret
        exact ⟨by first | rfl | (rw [hex1]; rfl), by first | exact K2.out | (rw [hex2]; exact K2.out), by first | exact B2.out | (rw [hex2]; exact B2.out), by first | exact M2.out | (rw [hex2]; exact M2.out)⟩
      · have hst := st q ⟨c, hc, hq⟩ (by simp [nameC']; omega)
        have HK := Lib.hid hst
        clear go st hc hq eb hst
        have b4 : ((q : Int) == 95) = false := by simp; omega
        have c1 : (48 : Int) ≤ (q : Int) := by omega
        have c2 : ¬ (q : Int) ≤ 57 := by omega
        have c3 : (97 : Int) ≤ (q : Int) := by omega
        have c4 : ¬ (q : Int) ≤ 122 := by omega
        have hex1 : T.extract 0 k = ⟨(nameHead t).toArray⟩ := by
          rw [HT.out]
          apply ByteArray.ext
          rw [← Array.toList_inj, Lib.extract_data]
          simp only
          rw [List.drop_zero, Nat.sub_zero, HK.out]
          exact (head_take t).symm
        have hex2 : T.extract k N = ⟨(nameRest t).toArray⟩ := by
          rw [HT.out]
          apply ByteArray.ext
          rw [← Array.toList_inj, Lib.extract_data]
          simp only
          rw [List.take_of_length_le (by rw [List.length_drop, HNn.out]; exact Nat.le_refl _), HK.out]
          exact (rest_drop t).symm
        have k2 := K1.out.set_ 0 (.string ⟨(nameRest t).toArray⟩)
        have b2 := B1.out.setCell (p := ⟨g, 0, none⟩) (by simp) (.string ⟨(nameRest t).toArray⟩)
        have m2 := KeepM.setCell M1.out (p := ⟨g, 0, none⟩) (show w1.heap[g]? = _ from K1.out) (by simp) (.string ⟨(nameRest t).toArray⟩)
        have K2 := Lib.hid k2; have B2 := Lib.hid b2; have M2 := Lib.hid m2
        clear k2 b2 m2
        go_wp2
        go_ret
        exact ⟨by first | rfl | (rw [hex1]; rfl), by first | exact K2.out | (rw [hex2]; exact K2.out), by first | exact B2.out | (rw [hex2]; exact B2.out), by first | exact M2.out | (rw [hex2]; exact M2.out)⟩
    · have z1 : ¬ (k : Int) < (N : Int) := by omega
      have hst : k = (nameHead t).length := by omega
      have HK := Lib.hid hst
      clear go st hst
      have hex1 : T.extract 0 k = ⟨(nameHead t).toArray⟩ := by
        rw [HT.out]
        apply ByteArray.ext
        rw [← Array.toList_inj, Lib.extract_data]
        simp only
        rw [List.drop_zero, Nat.sub_zero, HK.out]
        exact (head_take t).symm
      have hex2 : T.extract k N = ⟨(nameRest t).toArray⟩ := by
        rw [HT.out]
        apply ByteArray.ext
        rw [← Array.toList_inj, Lib.extract_data]
        simp only
        rw [List.take_of_length_le (by rw [List.length_drop, HNn.out]; exact Nat.le_refl _), HK.out]
        exact (rest_drop t).symm
      have k2 := K1.out.set_ 0 (.string ⟨(nameRest t).toArray⟩)
      have b2 := B1.out.setCell (p := ⟨g, 0, none⟩) (by simp) (.string ⟨(nameRest t).toArray⟩)
      have m2 := KeepM.setCell M1.out (p := ⟨g, 0, none⟩) (show w1.heap[g]? = _ from K1.out) (by simp) (.string ⟨(nameRest t).toArray⟩)
      have K2 := Lib.hid k2; have B2 := Lib.hid b2; have M2 := Lib.hid m2
      clear k2 b2 m2
      go_wp2
      go_ret
      exact ⟨by first | rfl | (rw [hex1]; rfl), by first | exact K2.out | (rw [hex2]; exact K2.out), by first | exact B2.out | (rw [hex2]; exact B2.out), by first | exact M2.out | (rw [hex2]; exact M2.out)⟩
end Go.Proofs.YtecejnilajbdpaaGreatDoor

