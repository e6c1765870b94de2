import Derived.Test.YtecejnilajbdpaaGreatDoorTy17
import Derived.Test.YtecejnilajbdpaaGreatDoorTy40
import Derived.Test.YtecejnilajbdpaaGreatDoorTy42
import Derived.Test.YtecejnilajbdpaaGreatDoorTy43
import Derived.Test.YtecejnilajbdpaaGreatDoorTy33
namespace Garner
open Go
def nextS (sign s : Bs) : Bs := if Lib.hasPrefix (skipS s) sign then (skipS s).drop sign.length else skipS s
theorem skip_trim (s : Bs) : Lib.trimLeftB s 32 = skipS s := by
 unfold Lib.trimLeftB
 induction s with
 | nil => rfl
 | cons c r ih =>
  rw [skipS, List.dropWhile_cons]
  by_cases h : c = 32
  ·rw [if_pos h, if_pos (by simp [h]), ih]
  ·rw [if_neg h, if_neg (by simp [h])]
theorem nextS_len (sign s : Bs) : (nextS sign s).length ≤ s.length := by
 have := skip_len s
 unfold nextS
 split
 ·rw [List.length_drop]; omega
 ·exact this
theorem head_take : ∀ s : Bs, nameHead s = s.take (nameHead s).length
 | [] => rfl
 | c :: r => by
  rw [nameHead]
  split
  ·rw [List.length_cons, List.take_succ_cons, ← head_take r]
  ·rfl
theorem rest_drop : ∀ s : Bs, nameRest s = s.drop (nameHead s).length
 | [] => rfl
 | c :: r => by
  rw [nameHead, nameRest]
  split
  ·rw [List.length_cons, List.drop_succ_cons, rest_drop r]
  ·rfl
theorem head_le (s : Bs) : (nameHead s).length ≤ s.length := by
 have := congrArg List.length (head_take s)
 rw [List.length_take] at this
 omega
def nameC' (q : Nat) : Bool := decide (q = 95) || (decide (97 ≤ q) && decide (q ≤ 122)) || (decide (48 ≤ q) && decide (q ≤ 57))
theorem nameC_q {c : UInt8} {q : Nat} (h : c.toNat = q) : nameC false c = nameC' q := by unfold nameC nameC'; rw [h]; simp
theorem head_lt {s : Bs} {k : Nat} {c : UInt8} (h : s[k]? = some c) (hk : k ≤ (nameHead s).length) : k < (nameHead s).length ↔ nameC false c = true := by
 induction s generalizing k with
 | nil => simp at h
 | cons d r ih =>
  cases k with
  | zero =>
   simp at h
   subst h
   rw [nameHead]
   cases nameC false d <;> simp
  | succ k =>
   rw [nameHead] at hk ⊢
   cases hd : nameC false d with
   | false => rw [hd] at hk; simp at hk
   | true =>
    rw [hd] at hk
    simp at hk ⊢
    exact ih (by simpa using h) hk
end Garner
namespace Go.Proofs.YtecejnilajbdpaaGreatDoor
open Go.RowKit Go.Shelf Garner
abbrev ScanIs (w : World) (g : Nat) (s : Bs) (bad : Bool) : Prop := Blk w g 94 [strB s, .bool bad]
def NextO (b : Bool) (g : Nat) (s : Bs) (bad : Bool) (w : World) (e : Ending) (w' : World) : Prop := e = .returned (.bool b) ∧ ScanIs w' g s bad ∧ But [g] w w' ∧ KeepM [94] w w'
theorem strB_str (s : Bs) : strB s = .string ⟨s.toArray⟩ := rfl
set_option maxRecDepth 100000 in
set_option maxHeartbeats 8000000 in
theorem vSNext (g : Nat) (s sign : Bs) (bad : Bool) (P : ByteArray) (hP : P = ⟨sign.toArray⟩) (w : World) (h : ScanIs w g s bad) :
  Calls Tryz.prog 73 #[.pointer (some ⟨g, 0, none⟩), .string P] w fun e w' => NextO (Lib.hasPrefix (skipS s) sign) g (nextS sign s) bad w e w' := by
 obtain ⟨S, eS, hS⟩ := str_form s
 obtain ⟨T, eT, hT⟩ := str_form (skipS s)
 obtain ⟨U, eU, hU⟩ := str_form (nextS sign s)
 have ht := Tryz.strings_TrimLeft_one S 32 (by decide) w
 rw [show S.data.toList = s by rw [hS], skip_trim, ← hT] at ht
 obtain ⟨W1, hW1⟩ : ∃ W1, W1 = w.setCell ⟨g, 0, none⟩ (.string T) := ⟨_, rfl⟩
 have k0 : Blk w g 94 [.string S, .bool bad] := by rw [← eS]; exact h
 have k1 : Blk W1 g 94 [.string T, .bool bad] := by rw [hW1]; exact k0.set_ 0 _
 have hc := Tryz.strings_CutPrefix T P W1
 rw [show T.data.toList = skipS s by rw [hT], show P.data.toList = sign by rw [hP]] at hc
 have b1 : But [g] w W1 := by rw [hW1]; exact (But.refl _ _).setCell (by simp) _
 have m1 : KeepM [94] w W1 := by rw [hW1]; exact KeepM.setCell (.refl _ w) (p := ⟨g, 0, none⟩) (show w.heap[g]? = _ from k0) (by simp) _
 have c0 : w.cell? ⟨g, 0, none⟩ = some (.string S) := k0.cell 0
 have f0 := k0.frozen 0
 have c1 : W1.cell? ⟨g, 0, none⟩ = some (.string T) := k1.cell 0
 have f1 := k1.frozen 0
 obtain ⟨b, hb⟩ : ∃ b, Lib.hasPrefix (skipS s) sign = b := ⟨_, rfl⟩
 rw [hb] at hc ⊢
 have hnx : nextS sign s = if b then (skipS s).drop sign.length else skipS s := by unfold nextS; rw [hb]
 have htp : Lib.trimPrefix (skipS s) sign = nextS sign s := by unfold Lib.trimPrefix; rw [hb, hnx]
 rw [htp, ← hU] at hc
 have hTU : b = false → T = U := fun h => by rw [hT, hU, hnx, h]; rfl
 have HTr := Lh ht; have HCu := Lh hc; have HTU := Lh hTU; have K1 := Lh k1; have B1 := Lh b1; have M1 := Lh m1; have HeU := Lh eU
 clear ht hc hTU k1 b1 m1 k0 hnx htp hb hS hT hU eS eT eU h hP
 go_enter Tryz.func73, Tryz.ntmps73
 go_wp2_with (refine HTr.out.mono ?_; rintro e wz ⟨rfl, hz⟩; obtain rfl : w = wz := hz.symm)
 rw [← hW1]
 clear hW1 c0 f0
 refine HCu.out.mono ?_
 rintro e wz ⟨rfl, hz⟩
 obtain rfl : W1 = wz := hz.symm
 cases b with
 | false =>
  obtain rfl := HTU.out rfl
  go_wp2
  go_ret
  exact ⟨rfl, by rw [ScanIs, HeU.out]; exact K1.out, B1.out, M1.out⟩
 | true =>
  have k2 := K1.out.set_ 0 (.string U)
  have b2 := B1.out.setCell (p := ⟨g, 0, none⟩) (by simp) (.string U)
  have m2 := KeepM.setCell M1.out (p := ⟨g, 0, none⟩) (show W1.heap[g]? = _ from K1.out) (by simp) (.string U)
  have K2 := Lh k2; have B2 := Lh b2; have M2 := Lh m2
  clear k2 b2 m2
  go_wp2
  go_ret
  exact ⟨rfl, by rw [ScanIs, HeU.out]; exact K2.out, B2.out, M2.out⟩
def NameO (g : Nat) (s : Bs) (bad : Bool) (w : World) (e : Ending) (w' : World) : Prop := e = .returned (strB (nameHead (skipS s))) ∧ ScanIs w' g (nameRest (skipS s)) bad ∧ But [g] w w' ∧ KeepM [94] w w'
set_option maxRecDepth 100000 in
set_option maxHeartbeats 16000000 in
theorem vSName (g : Nat) (s : Bs) (bad : Bool) (w : World) (h : ScanIs w g s bad) (hl : s.length ≤ 1000000000) :
  Calls Tryz.prog 74 #[.pointer (some ⟨g, 0, none⟩)] w fun e w' => NameO g s bad w e w' := by
 have hn := vSNext g s [] bad ⟨#[]⟩ rfl w h
 have hs0 : nextS [] s = skipS s := by unfold nextS; split <;> rfl
 rw [hs0] at hn
 have hsl := skip_len s
 obtain ⟨t, ht⟩ : ∃ t, skipS s = t := ⟨_, rfl⟩
 rw [ht] at hn hsl
 unfold NameO
 rw [ht]
 obtain ⟨T, eT, hT⟩ := str_form t
 have hlen := head_le t
 obtain ⟨N, hN⟩ : ∃ N, t.length = N := ⟨_, rfl⟩
 rw [hN] at hlen hsl
 have zT : T.size = N := by rw [hT, ← hN]; exact str_size t
 have HN := Lh hn; have HT := Lh hT; have HNn := Lh hN; have HeT := Lh eT
 clear hn hs0 ht hT hN eT h
 go_enter Tryz.func74, Tryz.ntmps74
 go_wp2_with fail
 refine HN.out.mono ?_
 rintro e w1 ⟨rfl, k1, b1, m1⟩
 rw [ScanIs, HeT.out] at k1
 have hidx : ∀ k, k < N → ∀ z : Int, z = (k : Int) → (Instr.index 9 (.string T) (.int .i64 z)).run Tryz.prog w1 = .ok (.int .u8 (byteN t k : Nat)) w1 := fun k hk z hz => idx_byte (P := Tryz.prog) 9 Tryz.underlying9 T t HT.out z k hz (by rw [HNn.out]; exact hk) w1
 have c0 : w1.cell? ⟨g, 0, none⟩ = some (.string T) := k1.cell 0
 have f0 := k1.frozen 0
 have K1 := Lh k1; have B1 := Lh b1; have M1 := Lh m1; have HI := Lh hidx
 clear k1 b1 m1 hidx HN
 go_wp2
 go_loopw [3] (fun i wr => ∃ k : Nat, k ≤ (nameHead t).length ∧ i = .int .i64 k ∧ wr = w1) (fun i _ => N + 1 - (intOf i).toNat)
 case atStart => exact ⟨0, Nat.zero_le _, rfl, rfl⟩
 case round =>
  obtain ⟨k, hk, rfl, hwr⟩ := hrel
  obtain rfl : w1 = wr := hwr.symm
  have wk1 : IntKind.i64.wrap ((k : Int) + 1) = ((k + 1 : Nat) : Int) := by rw [IntKind.wrap_i64]; omega
  have go : ∀ q : Nat, (∃ c, t[k]? = some c ∧ c.toNat = q) → nameC' q = true → k + 1 ≤ (nameHead t).length := fun q hc hy => by
   obtain ⟨c, hc, hq⟩ := hc
   have h1 := head_lt hc hk
   have h2 : nameC false c = true := by rw [nameC_q hq]; exact hy
   have := h1.2 h2
   omega
  have st : ∀ q : Nat, (∃ c, t[k]? = some c ∧ c.toNat = q) → nameC' q = false → k = (nameHead t).length := fun q hc hy => by
   obtain ⟨c, hc, hq⟩ := hc
   have h1 := head_lt hc hk
   have h2 : nameC false c = false := by rw [nameC_q hq]; exact hy
   have h3 : ¬ k < (nameHead t).length := fun h => by rw [h1.1 h] at h2; cases h2
   omega
  by_cases hlt : k < N
  ·have z1 : (k : Int) < (N : Int) := by omega
   obtain ⟨c, hc⟩ : ∃ c, t[k]? = some c := ⟨_, List.getElem?_eq_getElem (by rw [HNn.out]; exact hlt)⟩
   have i1 := HI.out k hlt (k : Int) rfl
   have eb : byteN t k = c.toNat := by unfold byteN; rw [List.getD, hc]; rfl
   rw [eb] at i1
   obtain ⟨q, hq⟩ : ∃ q, c.toNat = q := ⟨_, rfl⟩
   rw [hq] at i1
   have hcase : (97 ≤ q ∧ q ≤ 122) ∨ q = 95 ∨ (48 ≤ q ∧ q ≤ 57) ∨ q < 48 ∨ (57 < q ∧ q < 95) ∨ q = 96 ∨ 122 < q := by omega
   rcases hcase with ⟨a1, a2⟩ | a1 | ⟨a1, a2⟩ | a1 | ⟨a1, a2⟩ | a1 | a1
   ·have hgo := go q ⟨c, hc, hq⟩ (by simp [nameC', a1, a2])
    have b4 : ((q : Int) == 95) = false := by simp; omega
    have c1 : (97 : Int) ≤ (q : Int) := by omega
    have c2 : (q : Int) ≤ 122 := by omega
    have Hgo := Lh hgo
    clear go st hc hq eb hgo
    go_wp2
    go_roundw
    case rel => exact ⟨k + 1, Hgo.out, by first | rfl | go_num, (by first | rfl | trivial)⟩
    case measure => simp [intOf]; omega
   ·have hgo := go q ⟨c, hc, hq⟩ (by simp [nameC', a1])
    have Hgo := Lh hgo
    clear go st hc hq eb hgo
    subst a1
    go_wp2
    go_roundw
    case rel => exact ⟨k + 1, Hgo.out, by first | rfl | go_num, (by first | rfl | trivial)⟩
    case measure => simp [intOf]; omega
   ·have hgo := go q ⟨c, hc, hq⟩ (by simp [nameC', a1, a2])
    have b4 : ((q : Int) == 95) = false := by simp; omega
    have c1 : (48 : Int) ≤ (q : Int) := by omega
    have c2 : (q : Int) ≤ 57 := by omega
    have c3 : ¬ (97 : Int) ≤ (q : Int) := by omega
    have Hgo := Lh hgo
    clear go st hc hq eb hgo
    go_wp2
    go_roundw
    case rel => exact ⟨k + 1, Hgo.out, by first | rfl | go_num, (by first | rfl | trivial)⟩
    case measure => simp [intOf]; omega
   ·have hst := st q ⟨c, hc, hq⟩ (by simp [nameC']; omega)
    have HK := Lh hst
    clear go st hc hq eb hst
    have b4 : ((q : Int) == 95) = false := by simp; omega
    have c1 : ¬ (48 : Int) ≤ (q : Int) := by omega
    have c3 : ¬ (97 : Int) ≤ (q : Int) := by omega
    have hex1 : T.extract 0 k = ⟨(nameHead t).toArray⟩ := by
     rw [HT.out]
     apply ByteArray.ext
     rw [← Array.toList_inj, Lib.extract_data]
     simp only
     rw [List.drop_zero, Nat.sub_zero, HK.out]
     exact (head_take t).symm
    have hex2 : T.extract k N = ⟨(nameRest t).toArray⟩ := by
     rw [HT.out]
     apply ByteArray.ext
     rw [← Array.toList_inj, Lib.extract_data]
     simp only
     rw [List.take_of_length_le (by rw [List.length_drop, HNn.out]; exact Nat.le_refl _), HK.out]
     exact (rest_drop t).symm
    have k2 := K1.out.set_ 0 (.string ⟨(nameRest t).toArray⟩)
    have b2 := B1.out.setCell (p := ⟨g, 0, none⟩) (by simp) (.string ⟨(nameRest t).toArray⟩)
    have m2 := KeepM.setCell M1.out (p := ⟨g, 0, none⟩) (show w1.heap[g]? = _ from K1.out) (by simp) (.string ⟨(nameRest t).toArray⟩)
    have K2 := Lh k2; have B2 := Lh b2; have M2 := Lh m2
    clear k2 b2 m2
    go_wp2
    go_ret
    exact ⟨by first | rfl | (rw [hex1]; rfl), by first | exact K2.out | (rw [hex2]; exact K2.out), by first | exact B2.out | (rw [hex2]; exact B2.out), by first | exact M2.out | (rw [hex2]; exact M2.out)⟩
   ·have hst := st q ⟨c, hc, hq⟩ (by simp [nameC']; omega)
    have HK := Lh hst
    clear go st hc hq eb hst
    have b4 : ((q : Int) == 95) = false := by simp; omega
    have c1 : (48 : Int) ≤ (q : Int) := by omega
    have c2 : ¬ (q : Int) ≤ 57 := by omega
    have c3 : ¬ (97 : Int) ≤ (q : Int) := by omega
    have hex1 : T.extract 0 k = ⟨(nameHead t).toArray⟩ := by
     rw [HT.out]
     apply ByteArray.ext
     rw [← Array.toList_inj, Lib.extract_data]
     simp only
     rw [List.drop_zero, Nat.sub_zero, HK.out]
     exact (head_take t).symm
    have hex2 : T.extract k N = ⟨(nameRest t).toArray⟩ := by
     rw [HT.out]
     apply ByteArray.ext
     rw [← Array.toList_inj, Lib.extract_data]
     simp only
     rw [List.take_of_length_le (by rw [List.length_drop, HNn.out]; exact Nat.le_refl _), HK.out]
     exact (rest_drop t).symm
    have k2 := K1.out.set_ 0 (.string ⟨(nameRest t).toArray⟩)
    have b2 := B1.out.setCell (p := ⟨g, 0, none⟩) (by simp) (.string ⟨(nameRest t).toArray⟩)
    have m2 := KeepM.setCell M1.out (p := ⟨g, 0, none⟩) (show w1.heap[g]? = _ from K1.out) (by simp) (.string ⟨(nameRest t).toArray⟩)
    have K2 := Lh k2; have B2 := Lh b2; have M2 := Lh m2
    clear k2 b2 m2
    go_wp2
    go_ret
    exact ⟨by first | rfl | (rw [hex1]; rfl), by first | exact K2.out | (rw [hex2]; exact K2.out), by first | exact B2.out | (rw [hex2]; exact B2.out), by first | exact M2.out | (rw [hex2]; exact M2.out)⟩
   ·have hst := st q ⟨c, hc, hq⟩ (by simp [nameC', a1])
    have HK := Lh hst
    clear go st hc hq eb hst
    subst a1
    have hex1 : T.extract 0 k = ⟨(nameHead t).toArray⟩ := by
     rw [HT.out]
     apply ByteArray.ext
     rw [← Array.toList_inj, Lib.extract_data]
     simp only
     rw [List.drop_zero, Nat.sub_zero, HK.out]
     exact (head_take t).symm
    have hex2 : T.extract k N = ⟨(nameRest t).toArray⟩ := by
     rw [HT.out]
     apply ByteArray.ext
     rw [← Array.toList_inj, Lib.extract_data]
     simp only
     rw [List.take_of_length_le (by rw [List.length_drop, HNn.out]; exact Nat.le_refl _), HK.out]
     exact (rest_drop t).symm
    have k2 := K1.out.set_ 0 (.string ⟨(nameRest t).toArray⟩)
    have b2 := B1.out.setCell (p := ⟨g, 0, none⟩) (by simp) (.string ⟨(nameRest t).toArray⟩)
    have m2 := KeepM.setCell M1.out (p := ⟨g, 0, none⟩) (show w1.heap[g]? = _ from K1.out) (by simp) (.string ⟨(nameRest t).toArray⟩)
    have K2 := Lh k2; have B2 := Lh b2; have M2 := Lh m2
    clear k2 b2 m2
    go_wp2
    go_ret
    exact ⟨by first | rfl | (rw [hex1]; rfl), by first | exact K2.out | (rw [hex2]; exact K2.out), by first | exact B2.out | (rw [hex2]; exact B2.out), by first | exact M2.out | (rw [hex2]; exact M2.out)⟩
   ·have hst := st q ⟨c, hc, hq⟩ (by simp [nameC']; omega)
    have HK := Lh hst
    clear go st hc hq eb hst
    have b4 : ((q : Int) == 95) = false := by simp; omega
    have c1 : (48 : Int) ≤ (q : Int) := by omega
    have c2 : ¬ (q : Int) ≤ 57 := by omega
    have c3 : (97 : Int) ≤ (q : Int) := by omega
    have c4 : ¬ (q : Int) ≤ 122 := by omega
    have hex1 : T.extract 0 k = ⟨(nameHead t).toArray⟩ := by
     rw [HT.out]
     apply ByteArray.ext
     rw [← Array.toList_inj, Lib.extract_data]
     simp only
     rw [List.drop_zero, Nat.sub_zero, HK.out]
     exact (head_take t).symm
    have hex2 : T.extract k N = ⟨(nameRest t).toArray⟩ := by
     rw [HT.out]
     apply ByteArray.ext
     rw [← Array.toList_inj, Lib.extract_data]
     simp only
     rw [List.take_of_length_le (by rw [List.length_drop, HNn.out]; exact Nat.le_refl _), HK.out]
     exact (rest_drop t).symm
    have k2 := K1.out.set_ 0 (.string ⟨(nameRest t).toArray⟩)
    have b2 := B1.out.setCell (p := ⟨g, 0, none⟩) (by simp) (.string ⟨(nameRest t).toArray⟩)
    have m2 := KeepM.setCell M1.out (p := ⟨g, 0, none⟩) (show w1.heap[g]? = _ from K1.out) (by simp) (.string ⟨(nameRest t).toArray⟩)
    have K2 := Lh k2; have B2 := Lh b2; have M2 := Lh m2
    clear k2 b2 m2
    go_wp2
    go_ret
    exact ⟨by first | rfl | (rw [hex1]; rfl), by first | exact K2.out | (rw [hex2]; exact K2.out), by first | exact B2.out | (rw [hex2]; exact B2.out), by first | exact M2.out | (rw [hex2]; exact M2.out)⟩
  ·have z1 : ¬ (k : Int) < (N : Int) := by omega
   have hst : k = (nameHead t).length := by omega
   have HK := Lh hst
   clear go st hst
   have hex1 : T.extract 0 k = ⟨(nameHead t).toArray⟩ := by
    rw [HT.out]
    apply ByteArray.ext
    rw [← Array.toList_inj, Lib.extract_data]
    simp only
    rw [List.drop_zero, Nat.sub_zero, HK.out]
    exact (head_take t).symm
   have hex2 : T.extract k N = ⟨(nameRest t).toArray⟩ := by
    rw [HT.out]
    apply ByteArray.ext
    rw [← Array.toList_inj, Lib.extract_data]
    simp only
    rw [List.take_of_length_le (by rw [List.length_drop, HNn.out]; exact Nat.le_refl _), HK.out]
    exact (rest_drop t).symm
   have k2 := K1.out.set_ 0 (.string ⟨(nameRest t).toArray⟩)
   have b2 := B1.out.setCell (p := ⟨g, 0, none⟩) (by simp) (.string ⟨(nameRest t).toArray⟩)
   have m2 := KeepM.setCell M1.out (p := ⟨g, 0, none⟩) (show w1.heap[g]? = _ from K1.out) (by simp) (.string ⟨(nameRest t).toArray⟩)
   have K2 := Lh k2; have B2 := Lh b2; have M2 := Lh m2
   clear k2 b2 m2
   go_wp2
   go_ret
   exact ⟨by first | rfl | (rw [hex1]; rfl), by first | exact K2.out | (rw [hex2]; exact K2.out), by first | exact B2.out | (rw [hex2]; exact B2.out), by first | exact M2.out | (rw [hex2]; exact M2.out)⟩
end Go.Proofs.YtecejnilajbdpaaGreatDoor
namespace Garner
open Go
def opS : List Bs → Nat → Bs → Option (Nat × Bs)
 | [], _, _ => none
 | p :: r, k, t => if Lib.hasPrefix t p then some (k + 1, t.drop p.length) else opS r (k + 1) t
theorem opS_at {l : List Bs} {k m : Nat} {p t : Bs} (h : l[k]? = some p) : opS (l.drop k) (m + k) t = if Lib.hasPrefix t p then some (m + k + 1, t.drop p.length) else opS (l.drop (k + 1)) (m + (k + 1)) t := by
 obtain ⟨h1, h2⟩ := List.getElem?_eq_some_iff.1 h
 rw [List.drop_eq_getElem_cons h1, h2, opS]
 rfl
theorem textG_at {S : Bs} {i : Nat} {c : UInt8} (h : S[i]? = some c) :
  (c = 34 → textG (S.drop i) = some ([], S.drop (i + 1))) ∧ (c = 10 → textG (S.drop i) = none) ∧
  (c = 92 → ∀ d, S[i + 1]? = some d → ((d = 34 ∨ d = 92) → textG (S.drop i) = (textG (S.drop (i + 2))).map fun x => (d :: x.1, x.2)) ∧ (d = 110 → textG (S.drop i) = (textG (S.drop (i + 2))).map fun x => (10 :: x.1, x.2)) ∧ (d ≠ 34 → d ≠ 92 → d ≠ 110 → textG (S.drop i) = none)) ∧
  (c = 92 → S[i + 1]? = none → textG (S.drop i) = none) ∧
  (c ≠ 34 → c ≠ 10 → c ≠ 92 → textG (S.drop i) = (textG (S.drop (i + 1))).map fun x => (c :: x.1, x.2)) := by
 obtain ⟨h1, h2⟩ := List.getElem?_eq_some_iff.1 h
 have e : S.drop i = c :: S.drop (i + 1) := by rw [List.drop_eq_getElem_cons h1, h2]
 rw [e]
 refine ⟨fun hc => ?_, fun hc => ?_, fun hc d hd => ?_, fun hc hd => ?_, fun k1 k2 k3 => ?_⟩
 ·rw [hc, textG_q]
 ·rw [hc]
  cases S.drop (i + 1) with
  | nil => rfl
  | cons d r => rw [textG, if_neg (by decide), if_pos rfl]
 ·obtain ⟨g1, g2⟩ := List.getElem?_eq_some_iff.1 hd
  have e2 : S.drop (i + 1) = d :: S.drop (i + 2) := by rw [List.drop_eq_getElem_cons g1, g2]
  rw [e2, hc, textG, if_neg (by decide), if_neg (by decide), if_pos rfl]
  refine ⟨fun k => by rw [if_pos k], fun k => by rw [if_neg (by rw [k]; decide), if_pos k], fun k1 k2 k3 => by rw [if_neg (fun k => k.elim k1 k2), if_neg k3]⟩
 ·have e2 : S.drop (i + 1) = [] := List.drop_eq_nil_of_le (List.getElem?_eq_none_iff.1 hd)
  rw [e2, hc]; rfl
 ·cases e2 : S.drop (i + 1) with
  | nil => simp [textG, k1]
  | cons d r => exact textG_c k1 k2 k3 (by simp)
def TxS (S : Bs) (bad0 : Bool) (b : Bs) (i : Nat) (bad : Bool) : Prop := (bad = bad0 ∧ textG S = (textG (S.drop i)).map fun x => (b ++ x.1, x.2)) ∨ (bad = true ∧ textG S = none)
theorem TxS.start (S : Bs) (bad0 : Bool) : TxS S bad0 [] 0 bad0 := .inl ⟨rfl, by rw [List.drop_zero]; cases textG S <;> rfl⟩
theorem TxS.add {S b : Bs} {bad0 bad : Bool} {i j : Nat} {c : UInt8} (h : TxS S bad0 b i bad) (e : textG (S.drop i) = (textG (S.drop j)).map fun x => (c :: x.1, x.2)) : TxS S bad0 (b ++ [c]) j bad := by
 rcases h with ⟨h1, h2⟩ | h
 ·refine .inl ⟨h1, ?_⟩
  rw [h2, e]
  cases textG (S.drop j) <;> simp
 ·exact .inr h
theorem TxS.no {S b : Bs} {bad0 bad : Bool} {i : Nat} (h : TxS S bad0 b i bad) (e : textG (S.drop i) = none) (b' : Bs) (j : Nat) : TxS S bad0 b' j true := by
 rcases h with ⟨-, h2⟩ | h
 ·refine .inr ⟨rfl, by rw [h2, e]; rfl⟩
 ·exact .inr ⟨rfl, h.2⟩
theorem TxS.fin {S b : Bs} {bad0 bad : Bool} {i : Nat} (h : TxS S bad0 b i bad) (e : textG (S.drop i) = some ([], S.drop (i + 1))) : (bad = bad0 ∧ textG S = some (b, S.drop (i + 1))) ∨ (bad = true ∧ textG S = none) := by
 rcases h with ⟨h1, h2⟩ | h
 ·refine .inl ⟨h1, by rw [h2, e]; simp⟩
 ·exact .inr h
theorem tok0_quote (r : Bs) : tok0 (34 :: r) = (match textG r with | some x => .tok (34 :: x.1) x.2 | none => .bad) := by
 rw [tok0, if_neg (sign2_head (by decide) (by decide) (by decide)), if_neg (by decide), if_pos rfl]
 cases textG r <;> rfl
theorem tok0_head {s t r : Bs} {d : UInt8} (h : tok0 s = .tok (d :: t) r) : ∃ c s', s = c :: s' ∧ d = c := by
 cases s with
 | nil => cases h
 | cons c s =>
  refine ⟨c, s, rfl, ?_⟩
  rw [tok0] at h
  split at h
  ·injection h with h1; injection h1 with h1; exact h1.symm
  split at h
  ·injection h with h1; injection h1 with h1; exact h1.symm
  split at h
  ·rename_i hc
   split at h
   ·injection h with h1; injection h1 with h1; rw [hc]; exact h1.symm
   ·cases h
  split at h
  ·rename_i hn
   rw [nameHead, if_pos hn] at h
   injection h with h1; injection h1 with h1; exact h1.symm
  ·cases h
theorem tok_quote {s t r : Bs} (h : tok1 s = .tok (34 :: t) r) : ∃ s', skipS s = 34 :: s' := by
 obtain ⟨c, s', e, hc⟩ := tok0_head h
 exact ⟨s', by rw [e, ← hc]⟩
theorem has_head {t : Bs} {c : UInt8} : Lib.hasPrefix t [c] = true ↔ ∃ r, t = c :: r := by
 cases t with
 | nil => simp [Lib.hasPrefix]
 | cons d r => simp [Lib.hasPrefix, List.isPrefixOf]; exact eq_comm
end Garner
namespace Go.Proofs.YtecejnilajbdpaaGreatDoor
open Go.RowKit Go.Shelf Garner
def SOpO (o : Option (Nat × Bs)) (g : Nat) (s : Bs) (bad : Bool) (w : World) (e : Ending) (w' : World) : Prop := But [g] w w' ∧ KeepM [94] w w' ∧ ((∃ k t, o = some (k, t) ∧ e = .returned (.int .i64 (k : Nat)) ∧ ScanIs w' g t bad) ∨ (o = none ∧ e = .returned (.int .i64 0) ∧ ScanIs w' g (skipS s) true))
set_option maxRecDepth 100000 in
set_option maxHeartbeats 16000000 in
theorem vSOp (g rb : Nat) (s : Bs) (l : List Bs) (n c : Nat) (bad : Bool) (w : World) (h : ScanIs w g s bad) (hr : Blk w rb 9 (l.map strB)) (hn : l.length = n) (hn1 : 0 < n) (hl : n ≤ 1000) :
  Calls Tryz.prog 75 #[.pointer (some ⟨g, 0, none⟩), .slice (some ⟨rb, 0, none⟩) n c] w fun e w' => SOpO (opS l 0 (skipS s)) g s bad w e w' := by
 obtain ⟨ANS, hA⟩ : ∃ ANS, opS l 0 (skipS s) = ANS := ⟨_, rfl⟩
 rw [hA]
 have H0 : Hid (ScanIs w g (if (0 : Nat) = 0 then s else skipS s) bad) := Lh h
 have HR := Lh hr; have Hn := Lh hn; have HA := Lh hA
 clear h hr hn hA
 go_enter Tryz.func75, Tryz.ntmps75
 go_wp2
 go_loopw [9] (fun i wr => ∃ k : Nat, k ≤ n ∧ i = .int .i64 k ∧ Hid (opS l 0 (skipS s) = opS (l.drop k) (0 + k) (skipS s)) ∧ Hid (ScanIs wr g (if k = 0 then s else skipS s) bad) ∧ Hid (But [g] w wr) ∧ Hid (KeepM [94] w wr)) (fun i _ => n - (intOf i).toNat)
 case atStart => exact ⟨0, Nat.zero_le _, rfl, Lh rfl, H0, Lh (But.refl _ _), Lh (KeepM.refl _ _)⟩
 case round =>
  obtain ⟨k, hk, rfl, hop, hsc, hbu, hkm⟩ := hrel
  obtain ⟨wo, rfl⟩ : ∃ wo : World, wo = wr := ⟨_, rfl⟩
  have wk1 : IntKind.i64.wrap ((k : Int) + 1) = ((k + 1 : Nat) : Int) := by rw [IntKind.wrap_i64]; omega
  have hss : skipS (if k = 0 then s else skipS s) = skipS s := by split; rfl; exact skip_skip s
  by_cases hlt : k < n
  ·have z1 : (k : Int) < (n : Int) := by omega
   obtain ⟨p, hp⟩ : ∃ p, l[k]? = some p := ⟨_, List.getElem?_eq_getElem (by rw [Hn.out]; exact hlt)⟩
   obtain ⟨P, eP, hP⟩ := str_form p
   have hro := hkm.out.blk HR.out (by decide)
   have c0 : wo.cell? ⟨rb, k, none⟩ = some (.string P) := by
    have h1 := hro.cell k
    rw [List.getElem?_map, hp] at h1
    rw [h1, Option.map_some, eP]
   have hnx := vSNext g _ p bad P hP wo hsc.out
   rw [hss] at hnx
   have ho2 := hop.out.trans (opS_at hp)
   have hnS : nextS p (if k = 0 then s else skipS s) = if Lib.hasPrefix (skipS s) p then (skipS s).drop p.length else skipS s := by unfold nextS; rw [hss]
   rw [hnS] at hnx
   obtain ⟨b, hb⟩ : ∃ b, Lib.hasPrefix (skipS s) p = b := ⟨_, rfl⟩
   rw [hb] at hnx ho2
   have HNx := Lh hnx; have Ho2 := Lh ho2
   clear hnx ho2 hnS hb hp eP hP hro hsc hss hop
   cases b with
   | true =>
    go_wp2_with fail
    refine HNx.out.mono ?_
    rintro e w1 ⟨rfl, k1, b1, m1⟩
    have hans : ANS = some (0 + k + 1, (skipS s).drop p.length) := by rw [← HA.out, Ho2.out]; rfl
    have HAn := Lh hans; have K1 := Lh k1; have B1 := Lh (hbu.out.trans b1); have M1 := Lh (hkm.out.trans m1)
    clear hans k1 b1 m1
    go_wp2
    go_ret
    exact ⟨B1.out, M1.out, .inl ⟨k + 1, (skipS s).drop p.length, by rw [HAn.out, Nat.zero_add], by first | rfl | simp, K1.out⟩⟩
   | false =>
    go_wp2_with fail
    refine HNx.out.mono ?_
    rintro e w1 ⟨rfl, k1, b1, m1⟩
    have K1 : Hid (ScanIs w1 g (if k + 1 = 0 then s else skipS s) bad) := Lh (by rw [if_neg (Nat.succ_ne_zero k)]; exact k1)
    have B1 := Lh (hbu.out.trans b1); have M1 := Lh (hkm.out.trans m1)
    have Ho3 : Hid (opS l 0 (skipS s) = opS (l.drop (k + 1)) (0 + (k + 1)) (skipS s)) := Lh (by rw [Ho2.out]; rfl)
    clear k1 b1 m1
    go_wp2
    go_roundw
    case rel => exact ⟨k + 1, by omega, by first | rfl | go_num, Ho3, K1, B1, M1⟩
    case measure => simp [intOf]; omega
  ·obtain rfl : k = n := by omega
   have z1 : ¬ (k : Int) < (k : Int) := by omega
   have hans : ANS = none := by rw [← HA.out, hop.out, List.drop_eq_nil_of_le (by rw [Hn.out]; exact Nat.le_refl _)]; rfl
   have k1 := hsc.out
   rw [if_neg (by omega)] at k1
   obtain ⟨S, eS, -⟩ := str_form (skipS s)
   rw [ScanIs, eS] at k1
   have c1 : wo.cell? ⟨g, 1, none⟩ = some (.bool bad) := k1.cell 1
   have f1 := k1.frozen 1
   have k2 := k1.set_ 1 (.bool true)
   have b2 := hbu.out.setCell (p := ⟨g, 1, none⟩) (by simp) (.bool true)
   have m2 := KeepM.setCell hkm.out (p := ⟨g, 1, none⟩) (show wo.heap[g]? = _ from k1) (by simp) (.bool true)
   have HAn := Lh hans; have K2 := Lh k2; have B2 := Lh b2; have M2 := Lh m2; have HeS := Lh eS
   clear hans k1 k2 b2 m2 hsc hbu hkm hop eS hss
   go_wp2
   go_ret
   exact ⟨B2.out, M2.out, .inr ⟨HAn.out, rfl, by rw [ScanIs, HeS.out]; exact K2.out⟩⟩
end Go.Proofs.YtecejnilajbdpaaGreatDoor
namespace Garner
open Go
def InvK (TOT : Option QueryP) (K : List Bs → Option QueryP) (s : Bs) (bad : Bool) : Prop := (bad = false ∧ TOT = (toks s).bind K) ∨ (bad = true ∧ TOT = none)
def KF (ms : List MatP) (fs : List FilP) (l : List Bs) : Option QueryP := (filsR l).map fun f => ⟨ms, fs ++ f⟩
def KM (ms : List MatP) (l : List Bs) : Option QueryP := (matsR l).bind fun x => (filsR x.2).map fun f => ⟨ms ++ x.1, f⟩
section
variable {TOT : Option QueryP} {K K' : List Bs → Option QueryP} {s t r : Bs} {bad : Bool}
theorem InvK.tok (h : InvK TOT K s bad) (e : tok1 s = .tok t r) : InvK TOT (fun l => K (t :: l)) r bad := by
 rcases h with ⟨h1, h2⟩ | h
 ·refine .inl ⟨h1, ?_⟩
  rw [h2, toks_tok e]
  cases toks r <;> rfl
 ·exact .inr h
theorem InvK.toNone (h : InvK TOT K s bad) (h0 : K [] = none) (h1 : ∀ t r, tok1 s = .tok t r → ∀ l, K (t :: l) = none) : TOT = none := by
 rcases h with ⟨-, h2⟩ | h
 ·rw [h2]
  cases e : tok1 s with
  | fin => rw [toks_fin e]; exact h0
  | bad => rw [toks_bad e]; rfl
  | tok t r =>
   rw [toks_tok e]
   cases toks r with
   | none => rfl
   | some l => exact h1 t r e l
 ·exact h.2
theorem InvK.ofNone (h : TOT = none) : InvK TOT K s true := .inr ⟨rfl, h⟩
theorem InvK.skip (h : InvK TOT K s bad) : InvK TOT K (skipS s) bad := by
 rcases h with ⟨h1, h2⟩ | h
 ·refine .inl ⟨h1, ?_⟩
  rw [h2, toks_eq s, toks_eq (skipS s), tok1_skip]
 ·exact .inr h
theorem InvK.to (h : InvK TOT K s bad) (e : ∀ l, K l = K' l) : InvK TOT K' s bad := by
 have : K = K' := funext e
 rw [← this]; exact h
end
theorem name_tok {s : Bs} (h : nameP (nameHead (skipS s)) = true) : tok1 s = .tok (nameHead (skipS s)) (nameRest (skipS s)) := by
 unfold nameP at h
 rw [Bool.and_eq_true, Bool.and_eq_true] at h
 cases e : skipS s with
 | nil => rw [e] at h; simp [nameHead] at h
 | cons c r =>
  rw [e] at h
  have hc : nameC false c = true := by
   cases hn : nameC false c with
   | true => rfl
   | false => rw [nameHead, hn] at h; simp at h
  obtain ⟨n1, n2, n3, n4, n5, -⟩ := nameC_no hc
  rw [tok1, e, tok0, if_neg (sign2_head n1 n2 n3), if_neg n4, if_neg n5, if_pos hc]
theorem name_no {s t r : Bs} (h : nameP (nameHead (skipS s)) = false) (e : tok1 s = .tok t r) : nameP t = false := by
 cases hn : nameP t with
 | false => rfl
 | true =>
  exfalso
  have h2 := hn
  unfold nameP at h2
  rw [Bool.and_eq_true, Bool.and_eq_true] at h2
  cases t with
  | nil => simp at h2
  | cons d t' =>
   have h3 := h2.2
   rw [nameAll, Bool.and_eq_true] at h3
   have hd := nameC_more h3.1
   obtain ⟨c, s', e2, rfl⟩ := tok0_head e
   obtain ⟨n1, n2, n3, n4, n5, -⟩ := nameC_no hd
   have e3 := e
   rw [tok1, e2, tok0, if_neg (sign2_head n1 n2 n3), if_neg n4, if_neg n5, if_pos hd] at e3
   injection e3 with e3
   rw [e2, e3, hn] at h
   cases h
theorem sign_tok {s : Bs} {c : UInt8} (hc : c ∈ [(123 : UInt8), 125, 44]) (h : Lib.hasPrefix (skipS s) [c] = true) : tok1 s = .tok [c] (nextS [c] s) := by
 obtain ⟨r, hr⟩ := has_head.1 h
 have hn : nextS [c] s = r := by unfold nextS; rw [h, hr]; rfl
 have k : c ≠ 33 ∧ c ≠ 61 ∧ c ≠ 124 ∧ c ∈ signs1 := by
  simp at hc
  rcases hc with rfl | rfl | rfl <;> decide
 rw [tok1, hr, tok0, if_neg (sign2_head k.1 k.2.1 k.2.2.1), if_pos k.2.2.2, hn]
theorem sign_no {s t r : Bs} {c : UInt8} (h : Lib.hasPrefix (skipS s) [c] = false) (e : tok1 s = .tok t r) : t ≠ [c] := by
 rintro rfl
 obtain ⟨d, s', e2, rfl⟩ := tok0_head e
 rw [has_head.2 ⟨s', e2⟩] at h
 cases h
theorem next_no {s sign : Bs} (h : Lib.hasPrefix (skipS s) sign = false) : nextS sign s = skipS s := by unfold nextS; rw [h]; rfl
def signsM : List Bs := [[61], [33, 61], [61, 126], [33, 126]]
def signsF : List Bs := [[124, 61], [33, 61], [124, 126], [33, 126]]
theorem pre_two {t : Bs} {a b : UInt8} : Lib.hasPrefix t [a, b] = true ↔ ∃ r, t = a :: b :: r := by
 cases t with
 | nil => simp [Lib.hasPrefix]
 | cons c t =>
  cases t with
  | nil => simp [Lib.hasPrefix, List.isPrefixOf]
  | cons d r =>
   simp [Lib.hasPrefix, List.isPrefixOf]
   constructor
   ·rintro ⟨rfl, rfl⟩; exact ⟨rfl, rfl⟩
   ·rintro ⟨rfl, rfl⟩; exact ⟨rfl, rfl⟩
theorem tok0_two {a b : UInt8} {r : Bs} (h : [a, b] ∈ signs2) : tok0 (a :: b :: r) = .tok [a, b] r := by
 rw [tok0, if_pos (by simpa using h)]
 rfl
theorem tok0_sign2 {t u r : Bs} {a b : UInt8} (e : tok0 t = .tok u r) (hu : u = [a, b]) (h : [a, b] ∈ signs2) : ∃ r', t = a :: b :: r' := by
 subst hu
 cases t with
 | nil => cases e
 | cons c t =>
  rw [tok0] at e
  split at e
  ·injection e with e1 e2
   cases t with
   | nil => cases e1
   | cons d t => injection e1 with e1 e3; injection e3 with e3; exact ⟨t, by rw [e1, e3]⟩
  split at e
  ·injection e with e1; injection e1 with _ e1; cases e1
  split at e
  ·split at e
   ·injection e with e1; injection e1 with e1 _
    exfalso
    subst e1
    simp [signs2] at h
   ·cases e
  split at e
  ·rename_i hn
   rw [nameHead, if_pos hn] at e
   injection e with e1; injection e1 with e1 _
   exfalso
   subst e1
   have k := nameC_no hn
   simp [signs2, k.1, k.2.1, k.2.2.1] at h
  ·cases e
theorem tok0_sign1 {t u r : Bs} (e : tok0 t = .tok u r) (hu : u = [61]) : ∃ r', t = 61 :: r' := by
 subst hu
 obtain ⟨c, s', e1, rfl⟩ := tok0_head e
 exact ⟨s', e1⟩
theorem opM_some {s t : Bs} {k : Nat} (h : opS signsM 0 (skipS s) = some (k, t)) : (k = 1 ∧ (∀ t', t = 126 :: t' → tok1 s = .tok [61, 126] t') ∧ ((¬ ∃ t', t = 126 :: t') → tok1 s = .tok [61] t)) ∨ (k = 2 ∧ tok1 s = .tok [33, 61] t) ∨ (k = 4 ∧ tok1 s = .tok [33, 126] t) := by
 unfold tok1
 generalize skipS s = u at h
 unfold signsM at h
 simp only [opS] at h
 split at h
 ·rename_i h1
  obtain ⟨r, rfl⟩ := has_head.1 h1
  injection h with h; injection h with h2 h3
  subst h2
  subst h3
  refine .inl ⟨rfl, fun t' e => ?_, fun hn => ?_⟩
  ·have e : r = 126 :: t' := e
   subst e
   exact tok0_two (by simp [signs2])
  ·show tok0 (61 :: r) = .tok [61] r
   rw [tok0, if_neg ?_, if_pos (by decide)]
   cases r with
   | nil => simp [signs2]
   | cons d r => simp [signs2]; exact fun hd => hn ⟨r, by rw [hd]; rfl⟩
 split at h
 ·rename_i h1
  obtain ⟨r, rfl⟩ := pre_two.1 h1
  injection h with h; injection h with h2 h3
  subst h2
  subst h3
  exact .inr (.inl ⟨rfl, tok0_two (by simp [signs2])⟩)
 split at h
 ·rename_i h0 _ h1
  obtain ⟨r, rfl⟩ := pre_two.1 h1
  exact absurd (has_head.2 ⟨_, rfl⟩) h0
 split at h
 ·rename_i h1
  obtain ⟨r, rfl⟩ := pre_two.1 h1
  injection h with h; injection h with h2 h3
  subst h2
  subst h3
  exact .inr (.inr ⟨rfl, tok0_two (by simp [signs2])⟩)
 ·cases h
theorem opM_none {s u r : Bs} (h : opS signsM 0 (skipS s) = none) (e : tok1 s = .tok u r) : opOfM u = 0 := by
 unfold tok1 at e
 generalize skipS s = t at h e
 unfold signsM at h
 simp only [opS] at h
 have g1 : ¬ Lib.hasPrefix t [61] = true := fun k => by rw [if_pos k] at h; cases h
 rw [if_neg g1] at h
 have g2 : ¬ Lib.hasPrefix t [33, 61] = true := fun k => by rw [if_pos k] at h; cases h
 rw [if_neg g2] at h
 have g3 : ¬ Lib.hasPrefix t [61, 126] = true := fun k => by rw [if_pos k] at h; cases h
 rw [if_neg g3] at h
 have g4 : ¬ Lib.hasPrefix t [33, 126] = true := fun k => by rw [if_pos k] at h; cases h
 unfold opOfM
 rw [if_neg (fun k => g1 (has_head.2 (tok0_sign1 e k))), if_neg (fun k => g2 (pre_two.2 (tok0_sign2 e k (by simp [signs2])))), if_neg (fun k => g3 (pre_two.2 (tok0_sign2 e k (by simp [signs2])))), if_neg (fun k => g4 (pre_two.2 (tok0_sign2 e k (by simp [signs2]))))]
theorem opF_some {s t : Bs} {k : Nat} (h : opS signsF 0 (skipS s) = some (k, t)) : ∃ u, tok1 s = .tok u t ∧ opOfF u = (k : Int) ∧ 1 ≤ k ∧ k ≤ 4 := by
 unfold tok1
 generalize skipS s = v at h
 unfold signsF at h
 simp only [opS] at h
 repeat' split at h
 all_goals first
  | (cases h; done)
  | (rename_i h1
     obtain ⟨r, rfl⟩ := pre_two.1 h1
     injection h with h; injection h with h2 h3
     subst h2
     subst h3
     exact ⟨_, tok0_two (by simp [signs2]), by decide, by decide, by decide⟩)
theorem opF_none {s u r : Bs} (h : opS signsF 0 (skipS s) = none) (e : tok1 s = .tok u r) : opOfF u = 0 := by
 unfold tok1 at e
 generalize skipS s = t at h e
 unfold signsF at h
 simp only [opS] at h
 have g1 : ¬ Lib.hasPrefix t [124, 61] = true := fun k => by rw [if_pos k] at h; cases h
 rw [if_neg g1] at h
 have g2 : ¬ Lib.hasPrefix t [33, 61] = true := fun k => by rw [if_pos k] at h; cases h
 rw [if_neg g2] at h
 have g3 : ¬ Lib.hasPrefix t [124, 126] = true := fun k => by rw [if_pos k] at h; cases h
 rw [if_neg g3] at h
 have g4 : ¬ Lib.hasPrefix t [33, 126] = true := fun k => by rw [if_pos k] at h; cases h
 unfold opOfF
 rw [if_neg (fun k => g1 (pre_two.2 (tok0_sign2 e k (by simp [signs2])))), if_neg (fun k => g2 (pre_two.2 (tok0_sign2 e k (by simp [signs2])))), if_neg (fun k => g3 (pre_two.2 (tok0_sign2 e k (by simp [signs2])))), if_neg (fun k => g4 (pre_two.2 (tok0_sign2 e k (by simp [signs2]))))]
theorem trim_nil {s : Bs} : Lib.trimB s 32 = [] ↔ skipS s = [] := by
 have key : ∀ l : Bs, skipS l = [] ↔ ∀ c ∈ l, c = 32 := by
  intro l
  induction l with
  | nil => simp [skipS]
  | cons c r ih =>
   rw [skipS]
   by_cases h : c = 32
   ·rw [if_pos h, ih]; simp [h]
   ·rw [if_neg h]; simp [h]
 unfold Lib.trimB
 rw [skip_trim, key, key]
 unfold Lib.trimRightB
 constructor
 ·intro h c hc
  by_cases h32 : c = 32
  ·exact h32
  ·refine h c ?_
   rw [List.mem_reverse]
   have h2 : ∀ l : Bs, c ∈ l → c ≠ 32 → c ∈ l.dropWhile (· == 32) := by
    intro l
    induction l with
    | nil => intro h; cases h
    | cons d r ih =>
     intro hm hn
     rw [List.dropWhile_cons]
     split
     ·rename_i hd
      rcases List.mem_cons.1 hm with rfl | hm
      ·simp at hd; exact absurd hd hn
      ·exact ih hm hn
     ·exact hm
   exact h2 _ (List.mem_reverse.2 hc) h32
 ·intro h c hc
  rw [List.mem_reverse] at hc
  exact h c (List.mem_reverse.1 ((List.dropWhile_sublist _).mem hc))
theorem tok_fin {s : Bs} : tok1 s = .fin ↔ skipS s = [] := by
 unfold tok1
 cases skipS s with
 | nil => simp [tok0]
 | cons c r =>
  simp
  rw [tok0]
  repeat' split
  all_goals simp
theorem KM_nil (ms : List MatP) : KM ms [] = none := rfl
theorem KM_name {ms : List MatP} {n : Bs} (h : nameP n = false) (l : List Bs) : KM ms (n :: l) = none := by
 unfold KM
 match l with
 | [] => rfl
 | [_] => rfl
 | [_, _] => rfl
 | o :: v :: d :: r => rw [matsR, if_neg (fun k => by rw [h] at k; cases k.1)]; rfl
theorem KM_op {ms : List MatP} {n o : Bs} (h : opOfM o = 0) (l : List Bs) : KM ms (n :: o :: l) = none := by
 unfold KM
 match l with
 | [] => rfl
 | [_] => rfl
 | v :: d :: r => rw [matsR, if_neg (fun k => k.2.1 h)]; rfl
theorem KM_text {ms : List MatP} {n o v : Bs} (h : isT v = false) (l : List Bs) : KM ms (n :: o :: v :: l) = none := by
 unfold KM
 match l with
 | [] => rfl
 | d :: r => rw [matsR, if_neg (fun k => by rw [h] at k; cases k.2.2)]; rfl
theorem KM_comma {ms : List MatP} {n o v : Bs} (h1 : nameP n = true) (h2 : opOfM o ≠ 0) (l : List Bs) : KM ms (n :: o :: (34 :: v) :: [44] :: l) = KM (ms ++ [⟨n, opOfM o, v⟩]) l := by
 unfold KM
 rw [matsR, if_pos ⟨h1, h2, rfl⟩, if_pos rfl]
 cases matsR l with
 | none => rfl
 | some x => simp
theorem KM_close {ms : List MatP} {n o v : Bs} (h1 : nameP n = true) (h2 : opOfM o ≠ 0) (l : List Bs) : KM ms (n :: o :: (34 :: v) :: [125] :: l) = KF (ms ++ [⟨n, opOfM o, v⟩]) [] l := by
 unfold KM KF
 rw [matsR, if_pos ⟨h1, h2, rfl⟩, if_neg (by decide), if_pos rfl]
 rfl
theorem KM_end {ms : List MatP} {n o v d : Bs} (h1 : d ≠ [44]) (h2 : d ≠ [125]) (l : List Bs) : KM ms (n :: o :: v :: d :: l) = none := by
 unfold KM
 rw [matsR, if_neg h1, if_neg h2]
 split <;> rfl
theorem KF_op {ms : List MatP} {fs : List FilP} {o : Bs} (h : opOfF o = 0) (l : List Bs) : KF ms fs (o :: l) = none := by
 unfold KF
 match l with
 | [] => rfl
 | v :: r => rw [filsR, if_neg (fun k => k.1 h)]; rfl
theorem KF_text {ms : List MatP} {fs : List FilP} {o v : Bs} (h : isT v = false) (l : List Bs) : KF ms fs (o :: v :: l) = none := by
 unfold KF
 rw [filsR, if_neg (fun k => by rw [h] at k; cases k.2)]; rfl
theorem KF_next {ms : List MatP} {fs : List FilP} {o v : Bs} (h : opOfF o ≠ 0) (l : List Bs) : KF ms fs (o :: (34 :: v) :: l) = KF ms (fs ++ [⟨opOfF o, v⟩]) l := by
 unfold KF
 rw [filsR, if_pos ⟨h, rfl⟩]
 cases filsR l with
 | none => rfl
 | some x => simp
theorem isT_no {v : Bs} (h : ∀ t, v ≠ 34 :: t) : isT v = false := by
 cases v with
 | nil => rfl
 | cons c r =>
  unfold isT
  rw [decide_eq_false_iff_not]
  intro e
  exact h r (by rw [e])
end Garner
