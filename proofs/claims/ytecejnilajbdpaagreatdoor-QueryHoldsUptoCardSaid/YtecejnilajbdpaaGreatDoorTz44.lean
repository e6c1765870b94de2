import Derived.Test.YtecejnilajbdpaaGreatDoorTz43
set_option maxRecDepth 100000
set_option maxHeartbeats 16000000
namespace Garner
open Go
def nextS (sign s : Bs) : Bs := if Lib.hasPrefix (skipS s) sign then (skipS s).drop sign.length else skipS s
theorem skip_trim (s : Bs) : Lib.trimLeftB s 32 = skipS s := by
 unfold Lib.trimLeftB
 induction s with
 | nil => rfl
 | cons c r ih =>
  rw [skipS, List.dropWhile_cons]
  by_cases h : c = 32
  ·rw [if_pos h, if_pos (by simp [h]), ih]
  rw [if_neg h, if_neg (by simp [h])]
theorem nextS_len (sign s : Bs) : (nextS sign s).length ≤ s.length := by
 have := skip_len s
 unfold nextS
 split
 ·rw [List.length_drop]; omega
 exact this
theorem head_take : ∀ s : Bs, nameHead s = s.take (nameHead s).length
 | [] => rfl
 | c :: r => by
  rw [nameHead]
  split
  ·rw [List.length_cons, List.take_succ_cons, ← head_take r]
  rfl
theorem rest_drop : ∀ s : Bs, nameRest s = s.drop (nameHead s).length
 | [] => rfl
 | c :: r => by
  rw [nameHead, nameRest]
  split
  ·rw [List.length_cons, List.drop_succ_cons, rest_drop r]
  rfl
theorem head_le (s : Bs) : (nameHead s).length ≤ s.length := by
 have := congrArg List.length (head_take s)
 rw [List.length_take] at this
 omega
def nameC' (q : Nat) : Bool := decide (q = 95) || (decide (97 ≤ q) && decide (q ≤ 122)) || (decide (48 ≤ q) && decide (q ≤ 57))
theorem nameC_q {c : UInt8} {q : Nat} (h : c.toNat = q) : nameC false c = nameC' q := by unfold nameC nameC'; rw [h]; simp
theorem head_lt {s : Bs} {k : Nat} {c : UInt8} (h : s[k]? = some c) (hk : k ≤ (nameHead s).length) : k < (nameHead s).length ↔ nameC false c = true := by
 induction s generalizing k with
 | nil => simp at h
 | cons d r ih =>
  cases k with
  | zero =>
   simp at h
   subst h
   rw [nameHead]
   cases nameC false d <;> simp
  | succ k =>
   rw [nameHead] at hk ⊢
   cases hd : nameC false d with
   | false => rw [hd] at hk; simp at hk
   | true =>
    rw [hd] at hk
    simp at hk ⊢
    exact ih (by simpa using h) hk
end Garner
namespace Go.Proofs.YtecejnilajbdpaaGreatDoor
open Go.RowKit Go.Shelf Garner
abbrev ScanIs (w : World) (g : Nat) (s : Bs) (bad : Bool) : Prop := Blk w g 94 [strB s, .bool bad]
def NextO (b : Bool) (g : Nat) (s : Bs) (bad : Bool) (w : World) (e : Ending) (w' : World) : Prop := e = .returned (.bool b) ∧ ScanIs w' g s bad ∧ But [g] w w' ∧ KeepM [94] w w'
theorem strB_str (s : Bs) : strB s = .string ⟨s.toArray⟩ := rfl
theorem vSNext (g : Nat) (s sign : Bs) (bad : Bool) (P : ByteArray) (hP : P = ⟨sign.toArray⟩) (w : World) (h : ScanIs w g s bad) :
  Calls Tryz.prog 73 #[.pointer (some ⟨g, 0, none⟩), .string P] w fun e w' => NextO (Lib.hasPrefix (skipS s) sign) g (nextS sign s) bad w e w' := by
 obtain ⟨S, eS, hS⟩ := str_form s
 obtain ⟨T, eT, hT⟩ := str_form (skipS s)
 obtain ⟨U, eU, hU⟩ := str_form (nextS sign s)
 have ht := Tryz.strings_TrimLeft_one S 32 (by decide) w
 rw [show S.data.toList = s by rw [hS], skip_trim, ← hT] at ht
 obtain ⟨W1, hW1⟩ : ∃ W1, W1 = w.setCell ⟨g, 0, none⟩ (.string T) := ⟨_, rfl⟩
 have k0 : Blk w g 94 [.string S, .bool bad] := by rw [← eS]; exact h
 have k1 : Blk W1 g 94 [.string T, .bool bad] := by rw [hW1]; exact k0.set_ 0 _
 have hc := Tryz.strings_CutPrefix T P W1
 rw [show T.data.toList = skipS s by rw [hT], show P.data.toList = sign by rw [hP]] at hc
 have b1 : But [g] w W1 := by rw [hW1]; exact (But.refl _ _).setCell (by simp) _
 have m1 : KeepM [94] w W1 := by rw [hW1]; exact KeepM.setCell (.refl _ w) (p := ⟨g, 0, none⟩) (show w.heap[g]? = _ from k0) (by simp) _
 have c0 : w.cell? ⟨g, 0, none⟩ = some (.string S) := k0.cell 0
 have f0 := k0.frozen 0
 have c1 : W1.cell? ⟨g, 0, none⟩ = some (.string T) := k1.cell 0
 have f1 := k1.frozen 0
 obtain ⟨b, hb⟩ : ∃ b, Lib.hasPrefix (skipS s) sign = b := ⟨_, rfl⟩
 rw [hb] at hc ⊢
 have hnx : nextS sign s = if b then (skipS s).drop sign.length else skipS s := by unfold nextS; rw [hb]
 have htp : Lib.trimPrefix (skipS s) sign = nextS sign s := by unfold Lib.trimPrefix; rw [hb, hnx]
 rw [htp, ← hU] at hc
 have hTU : b = false → T = U := fun h => by rw [hT, hU, hnx, h]; rfl
 have HTr := Lh ht; have HCu := Lh hc; have HTU := Lh hTU; have K1 := Lh k1; have B1 := Lh b1; have M1 := Lh m1; have HeU := Lh eU
 clear ht hc hTU k1 b1 m1 k0 hnx htp hb hS hT hU eS eT eU h hP
 go_enter Tryz.func73, Tryz.ntmps73
 go_wp2_with (refine HTr.out.mono ?_; rintro e wz ⟨rfl, hz⟩; obtain rfl : w = wz := hz.symm)
 rw [← hW1]
 clear hW1 c0 f0
 refine HCu.out.mono ?_
 rintro e wz ⟨rfl, hz⟩
 obtain rfl : W1 = wz := hz.symm
 cases b with
 | false =>
  obtain rfl := HTU.out rfl
  go_wp2
  go_ret
  exact ⟨rfl, by rw [ScanIs, HeU.out]; exact K1.out, B1.out, M1.out⟩
 | true =>
  have k2 := K1.out.set_ 0 (.string U)
  have b2 := B1.out.setCell (p := ⟨g, 0, none⟩) (by simp) (.string U)
  have m2 := KeepM.setCell M1.out (p := ⟨g, 0, none⟩) (show W1.heap[g]? = _ from K1.out) (by simp) (.string U)
  have K2 := Lh k2; have B2 := Lh b2; have M2 := Lh m2
  clear k2 b2 m2
  go_wp2
  go_ret
  exact ⟨rfl, by rw [ScanIs, HeU.out]; exact K2.out, B2.out, M2.out⟩
def NameO (g : Nat) (s : Bs) (bad : Bool) (w : World) (e : Ending) (w' : World) : Prop := e = .returned (strB (nameHead (skipS s))) ∧ ScanIs w' g (nameRest (skipS s)) bad ∧ But [g] w w' ∧ KeepM [94] w w'
theorem vSName (g : Nat) (s : Bs) (bad : Bool) (w : World) (h : ScanIs w g s bad) (hl : s.length ≤ 1000000000) :
  Calls Tryz.prog 74 #[.pointer (some ⟨g, 0, none⟩)] w fun e w' => NameO g s bad w e w' := by
 have hn := vSNext g s [] bad ⟨#[]⟩ rfl w h
 have hs0 : nextS [] s = skipS s := by unfold nextS; split <;> rfl
 rw [hs0] at hn
 have hsl := skip_len s
 obtain ⟨t, ht⟩ : ∃ t, skipS s = t := ⟨_, rfl⟩
 rw [ht] at hn hsl
 unfold NameO
 rw [ht]
 obtain ⟨T, eT, hT⟩ := str_form t
 have hlen := head_le t
 obtain ⟨N, hN⟩ : ∃ N, t.length = N := ⟨_, rfl⟩
 rw [hN] at hlen hsl
 have zT : T.size = N := by rw [hT, ← hN]; exact str_size t
 have HN := Lh hn; have HT := Lh hT; have HNn := Lh hN; have HeT := Lh eT
 clear hn hs0 ht hT hN eT h
 go_enter Tryz.func74, Tryz.ntmps74
 go_wp2_with fail
 refine HN.out.mono ?_
 rintro e w1 ⟨rfl, k1, b1, m1⟩
 rw [ScanIs, HeT.out] at k1
 have hidx : ∀ k, k < N → ∀ z : Int, z = (k : Int) → (Instr.index 9 (.string T) (.int .i64 z)).run Tryz.prog w1 = .ok (.int .u8 (byteN t k : Nat)) w1 := fun k hk z hz => idx_byte (P := Tryz.prog) 9 Tryz.underlying9 T t HT.out z k hz (by rw [HNn.out]; exact hk) w1
 have c0 : w1.cell? ⟨g, 0, none⟩ = some (.string T) := k1.cell 0
 have f0 := k1.frozen 0
 have K1 := Lh k1; have B1 := Lh b1; have M1 := Lh m1; have HI := Lh hidx
 clear k1 b1 m1 hidx HN
 go_wp2
 go_loopw [3] (fun i wr => ∃ k : Nat, k ≤ (nameHead t).length ∧ i = .int .i64 k ∧ wr = w1) (fun i _ => N + 1 - (intOf i).toNat)
 case atStart => exact ⟨0, Nat.zero_le _, rfl, rfl⟩
 obtain ⟨k, hk, rfl, hwr⟩ := hrel
 obtain rfl : w1 = wr := hwr.symm
 have wk1 := wS k (by omega)
 have go : ∀ q : Nat, (∃ c, t[k]? = some c ∧ c.toNat = q) → nameC' q = true → k + 1 ≤ (nameHead t).length := fun q hc hy => by
  obtain ⟨c, hc, hq⟩ := hc
  have h1 := head_lt hc hk
  have h2 : nameC false c = true := by rw [nameC_q hq]; exact hy
  have := h1.2 h2
  omega
 have st : ∀ q : Nat, (∃ c, t[k]? = some c ∧ c.toNat = q) → nameC' q = false → k = (nameHead t).length := fun q hc hy => by
  obtain ⟨c, hc, hq⟩ := hc
  have h1 := head_lt hc hk
  have h2 : nameC false c = false := by rw [nameC_q hq]; exact hy
  have h3 : ¬ k < (nameHead t).length := fun h => by rw [h1.1 h] at h2; cases h2
  omega
 have hfin : k = (nameHead t).length → T.extract 0 k = ⟨(nameHead t).toArray⟩ ∧ T.extract k N = ⟨(nameRest t).toArray⟩ := fun hk => by
  rw [HT.out]
  constructor
  ·apply ByteArray.ext
   rw [← Array.toList_inj, Lib.extract_data]
   simp only
   rw [List.drop_zero, Nat.sub_zero, hk]
   exact (head_take t).symm
  apply ByteArray.ext
  rw [← Array.toList_inj, Lib.extract_data]
  simp only
  rw [List.take_of_length_le (by rw [List.length_drop, HNn.out]; exact Nat.le_refl _), hk]
  exact (rest_drop t).symm
 have HFin := Lh hfin
 have K2 := Lh (K1.out.set_ 0 (.string ⟨(nameRest t).toArray⟩))
 have B2 := Lh (B1.out.setCell (p := ⟨g, 0, none⟩) (by simp) (.string ⟨(nameRest t).toArray⟩))
 have M2 := Lh (KeepM.setCell M1.out (p := ⟨g, 0, none⟩) (show w1.heap[g]? = _ from K1.out) (by simp) (.string ⟨(nameRest t).toArray⟩))
 clear hfin
 by_cases hlt : k < N
 ·have z1 : (k : Int) < (N : Int) := by omega
  obtain ⟨c, hc⟩ : ∃ c, t[k]? = some c := ⟨_, List.getElem?_eq_getElem (by rw [HNn.out]; exact hlt)⟩
  have i1 := HI.out k hlt (k : Int) rfl
  have eb : byteN t k = c.toNat := by unfold byteN; rw [List.getD, hc]; rfl
  rw [eb] at i1
  obtain ⟨q, hq⟩ : ∃ q, c.toNat = q := ⟨_, rfl⟩
  rw [hq] at i1
  have hcase : (97 ≤ q ∧ q ≤ 122) ∨ q = 95 ∨ (48 ≤ q ∧ q ≤ 57) ∨ q < 48 ∨ (57 < q ∧ q < 95) ∨ q = 96 ∨ 122 < q := by omega
  rcases hcase with ⟨a1, a2⟩ | a1 | ⟨a1, a2⟩ | a1 | ⟨a1, a2⟩ | a1 | a1
  ·have hgo := go q ⟨c, hc, hq⟩ (by simp [nameC', a1, a2])
   have b4 : ((q : Int) == 95) = false := by simp; omega
   have c1 : (97 : Int) ≤ (q : Int) := by omega
   have c2 : (q : Int) ≤ 122 := by omega
   have Hgo := Lh hgo
   clear go st hc hq eb hgo
   go_wp2
   go_roundw
   case rel => exact ⟨k + 1, Hgo.out, by first | rfl | go_num, (by first | rfl | trivial)⟩
   case measure => simp [intOf]; omega
  ·have hgo := go q ⟨c, hc, hq⟩ (by simp [nameC', a1])
   have Hgo := Lh hgo
   clear go st hc hq eb hgo
   subst a1
   go_wp2
   go_roundw
   case rel => exact ⟨k + 1, Hgo.out, by first | rfl | go_num, (by first | rfl | trivial)⟩
   case measure => simp [intOf]; omega
  ·have hgo := go q ⟨c, hc, hq⟩ (by simp [nameC', a1, a2])
   have b4 : ((q : Int) == 95) = false := by simp; omega
   have c1 : (48 : Int) ≤ (q : Int) := by omega
   have c2 : (q : Int) ≤ 57 := by omega
   have c3 : ¬ (97 : Int) ≤ (q : Int) := by omega
   have Hgo := Lh hgo
   clear go st hc hq eb hgo
   go_wp2
   go_roundw
   case rel => exact ⟨k + 1, Hgo.out, by first | rfl | go_num, (by first | rfl | trivial)⟩
   case measure => simp [intOf]; omega
  ·have hst := st q ⟨c, hc, hq⟩ (by simp [nameC']; omega)
   have HK := Lh hst
   clear go st hc hq eb hst
   have b4 : ((q : Int) == 95) = false := by simp; omega
   have c1 : ¬ (48 : Int) ≤ (q : Int) := by omega
   have c3 : ¬ (97 : Int) ≤ (q : Int) := by omega
   obtain ⟨hex1, hex2⟩ := HFin.out HK.out
   go_wp2
   go_ret
   exact ⟨by first | rfl | (rw [hex1]; rfl), by first | exact K2.out | (rw [hex2]; exact K2.out), by first | exact B2.out | (rw [hex2]; exact B2.out), by first | exact M2.out | (rw [hex2]; exact M2.out)⟩
  ·have hst := st q ⟨c, hc, hq⟩ (by simp [nameC']; omega)
   have HK := Lh hst
   clear go st hc hq eb hst
   have b4 : ((q : Int) == 95) = false := by simp; omega
   have c1 : (48 : Int) ≤ (q : Int) := by omega
   have c2 : ¬ (q : Int) ≤ 57 := by omega
   have c3 : ¬ (97 : Int) ≤ (q : Int) := by omega
   obtain ⟨hex1, hex2⟩ := HFin.out HK.out
   go_wp2
   go_ret
   exact ⟨by first | rfl | (rw [hex1]; rfl), by first | exact K2.out | (rw [hex2]; exact K2.out), by first | exact B2.out | (rw [hex2]; exact B2.out), by first | exact M2.out | (rw [hex2]; exact M2.out)⟩
  ·have hst := st q ⟨c, hc, hq⟩ (by simp [nameC', a1])
   have HK := Lh hst
   clear go st hc hq eb hst
   subst a1
   obtain ⟨hex1, hex2⟩ := HFin.out HK.out
   go_wp2
   go_ret
   exact ⟨by first | rfl | (rw [hex1]; rfl), by first | exact K2.out | (rw [hex2]; exact K2.out), by first | exact B2.out | (rw [hex2]; exact B2.out), by first | exact M2.out | (rw [hex2]; exact M2.out)⟩
  have hst := st q ⟨c, hc, hq⟩ (by simp [nameC']; omega)
  have HK := Lh hst
  clear go st hc hq eb hst
  have b4 : ((q : Int) == 95) = false := by simp; omega
  have c1 : (48 : Int) ≤ (q : Int) := by omega
  have c2 : ¬ (q : Int) ≤ 57 := by omega
  have c3 : (97 : Int) ≤ (q : Int) := by omega
  have c4 : ¬ (q : Int) ≤ 122 := by omega
  obtain ⟨hex1, hex2⟩ := HFin.out HK.out
  go_wp2
  go_ret
  exact ⟨by first | rfl | (rw [hex1]; rfl), by first | exact K2.out | (rw [hex2]; exact K2.out), by first | exact B2.out | (rw [hex2]; exact B2.out), by first | exact M2.out | (rw [hex2]; exact M2.out)⟩
 have z1 : ¬ (k : Int) < (N : Int) := by omega
 have hst : k = (nameHead t).length := by omega
 have HK := Lh hst
 clear go st hst
 obtain ⟨hex1, hex2⟩ := HFin.out HK.out
 go_wp2
 go_ret
 exact ⟨by first | rfl | (rw [hex1]; rfl), by first | exact K2.out | (rw [hex2]; exact K2.out), by first | exact B2.out | (rw [hex2]; exact B2.out), by first | exact M2.out | (rw [hex2]; exact M2.out)⟩
end Go.Proofs.YtecejnilajbdpaaGreatDoor
namespace Garner
open Go
def opS : List Bs → Nat → Bs → Option (Nat × Bs)
 | [], _, _ => none
 | p :: r, k, t => if Lib.hasPrefix t p then some (k + 1, t.drop p.length) else opS r (k + 1) t
theorem opS_at {l : List Bs} {k m : Nat} {p t : Bs} (h : l[k]? = some p) : opS (l.drop k) (m + k) t = if Lib.hasPrefix t p then some (m + k + 1, t.drop p.length) else opS (l.drop (k + 1)) (m + (k + 1)) t := by
 obtain ⟨h1, h2⟩ := List.getElem?_eq_some_iff.1 h
 rw [List.drop_eq_getElem_cons h1, h2, opS]
 rfl
theorem textG_at {S : Bs} {i : Nat} {c : UInt8} (h : S[i]? = some c) :
  (c = 34 → textG (S.drop i) = some ([], S.drop (i + 1))) ∧ (c = 10 → textG (S.drop i) = none) ∧
  (c = 92 → ∀ d, S[i + 1]? = some d → ((d = 34 ∨ d = 92) → textG (S.drop i) = (textG (S.drop (i + 2))).map fun x => (d :: x.1, x.2)) ∧ (d = 110 → textG (S.drop i) = (textG (S.drop (i + 2))).map fun x => (10 :: x.1, x.2)) ∧ (d ≠ 34 → d ≠ 92 → d ≠ 110 → textG (S.drop i) = none)) ∧
  (c = 92 → S[i + 1]? = none → textG (S.drop i) = none) ∧
  (c ≠ 34 → c ≠ 10 → c ≠ 92 → textG (S.drop i) = (textG (S.drop (i + 1))).map fun x => (c :: x.1, x.2)) := by
 obtain ⟨h1, h2⟩ := List.getElem?_eq_some_iff.1 h
 have e : S.drop i = c :: S.drop (i + 1) := by rw [List.drop_eq_getElem_cons h1, h2]
 rw [e]
 refine ⟨fun hc => ?_, fun hc => ?_, fun hc d hd => ?_, fun hc hd => ?_, fun k1 k2 k3 => ?_⟩
 ·rw [hc, textG_q]
 ·rw [hc]
  cases S.drop (i + 1) with
  | nil => rfl
  | cons d r => rw [textG, if_neg (by decide), if_pos rfl]
 ·obtain ⟨g1, g2⟩ := List.getElem?_eq_some_iff.1 hd
  have e2 : S.drop (i + 1) = d :: S.drop (i + 2) := by rw [List.drop_eq_getElem_cons g1, g2]
  rw [e2, hc, textG, if_neg (by decide), if_neg (by decide), if_pos rfl]
  refine ⟨fun k => by rw [if_pos k], fun k => by rw [if_neg (by rw [k]; decide), if_pos k], fun k1 k2 k3 => by rw [if_neg (fun k => k.elim k1 k2), if_neg k3]⟩
 ·have e2 : S.drop (i + 1) = [] := List.drop_eq_nil_of_le (List.getElem?_eq_none_iff.1 hd)
  rw [e2, hc]; rfl
 cases e2 : S.drop (i + 1) with
 | nil => simp [textG, k1]
 | cons d r => exact textG_c k1 k2 k3 (by simp)
def TxS (S : Bs) (bad0 : Bool) (b : Bs) (i : Nat) (bad : Bool) : Prop := (bad = bad0 ∧ textG S = (textG (S.drop i)).map fun x => (b ++ x.1, x.2)) ∨ (bad = true ∧ textG S = none)
theorem TxS.start (S : Bs) (bad0 : Bool) : TxS S bad0 [] 0 bad0 := .inl ⟨rfl, by rw [List.drop_zero]; cases textG S <;> rfl⟩
theorem TxS.add {S b : Bs} {bad0 bad : Bool} {i j : Nat} {c : UInt8} (h : TxS S bad0 b i bad) (e : textG (S.drop i) = (textG (S.drop j)).map fun x => (c :: x.1, x.2)) : TxS S bad0 (b ++ [c]) j bad := by
 rcases h with ⟨h1, h2⟩ | h
 ·refine .inl ⟨h1, ?_⟩
  rw [h2, e]
  cases textG (S.drop j) <;> simp
 exact .inr h
theorem TxS.no {S b : Bs} {bad0 bad : Bool} {i : Nat} (h : TxS S bad0 b i bad) (e : textG (S.drop i) = none) (b' : Bs) (j : Nat) : TxS S bad0 b' j true := by
 rcases h with ⟨-, h2⟩ | h
 ·refine .inr ⟨rfl, by rw [h2, e]; rfl⟩
 exact .inr ⟨rfl, h.2⟩
theorem TxS.fin {S b : Bs} {bad0 bad : Bool} {i : Nat} (h : TxS S bad0 b i bad) (e : textG (S.drop i) = some ([], S.drop (i + 1))) : (bad = bad0 ∧ textG S = some (b, S.drop (i + 1))) ∨ (bad = true ∧ textG S = none) := by
 rcases h with ⟨h1, h2⟩ | h
 ·refine .inl ⟨h1, by rw [h2, e]; simp⟩
 exact .inr h
theorem tok0_quote (r : Bs) : tok0 (34 :: r) = (match textG r with | some x => .tok (34 :: x.1) x.2 | none => .bad) := by
 rw [tok0, if_neg (sign2_head (by decide) (by decide) (by decide)), if_neg (by decide), if_pos rfl]
 cases textG r <;> rfl
theorem tok0_head {s t r : Bs} {d : UInt8} (h : tok0 s = .tok (d :: t) r) : ∃ c s', s = c :: s' ∧ d = c := by
 cases s with
 | nil => cases h
 | cons c s =>
  refine ⟨c, s, rfl, ?_⟩
  rw [tok0] at h
  split at h
  ·injection h with h1; injection h1 with h1; exact h1.symm
  split at h
  ·injection h with h1; injection h1 with h1; exact h1.symm
  split at h
  ·rename_i hc
   split at h
   ·injection h with h1; injection h1 with h1; rw [hc]; exact h1.symm
   cases h
  split at h
  ·rename_i hn
   rw [nameHead, if_pos hn] at h
   injection h with h1; injection h1 with h1; exact h1.symm
  cases h
theorem tok_quote {s t r : Bs} (h : tok1 s = .tok (34 :: t) r) : ∃ s', skipS s = 34 :: s' := by
 obtain ⟨c, s', e, hc⟩ := tok0_head h
 exact ⟨s', by rw [e, ← hc]⟩
theorem has_head {t : Bs} {c : UInt8} : Lib.hasPrefix t [c] = true ↔ ∃ r, t = c :: r := by
 cases t with
 | nil => simp [Lib.hasPrefix]
 | cons d r => simp [Lib.hasPrefix, List.isPrefixOf]; exact eq_comm
end Garner
namespace Go.Proofs.YtecejnilajbdpaaGreatDoor
open Go.RowKit Go.Shelf Garner
def SOpO (o : Option (Nat × Bs)) (g : Nat) (s : Bs) (bad : Bool) (w : World) (e : Ending) (w' : World) : Prop := But [g] w w' ∧ KeepM [94] w w' ∧ ((∃ k t, o = some (k, t) ∧ e = .returned (.int .i64 (k : Nat)) ∧ ScanIs w' g t bad) ∨ (o = none ∧ e = .returned (.int .i64 0) ∧ ScanIs w' g (skipS s) true))
theorem vSOp (g rb : Nat) (s : Bs) (l : List Bs) (n c : Nat) (bad : Bool) (w : World) (h : ScanIs w g s bad) (hr : Blk w rb 9 (l.map strB)) (hn : l.length = n) (hn1 : 0 < n) (hl : n ≤ 1000) :
  Calls Tryz.prog 75 #[.pointer (some ⟨g, 0, none⟩), .slice (some ⟨rb, 0, none⟩) n c] w fun e w' => SOpO (opS l 0 (skipS s)) g s bad w e w' := by
 obtain ⟨ANS, hA⟩ : ∃ ANS, opS l 0 (skipS s) = ANS := ⟨_, rfl⟩
 rw [hA]
 have H0 : Hid (ScanIs w g (if (0 : Nat) = 0 then s else skipS s) bad) := Lh h
 have HR := Lh hr; have Hn := Lh hn; have HA := Lh hA
 clear h hr hn hA
 go_enter Tryz.func75, Tryz.ntmps75
 go_wp2
 go_loopw [9] (fun i wr => ∃ k : Nat, k ≤ n ∧ i = .int .i64 k ∧ Hid (opS l 0 (skipS s) = opS (l.drop k) (0 + k) (skipS s)) ∧ Hid (ScanIs wr g (if k = 0 then s else skipS s) bad) ∧ Hid (But [g] w wr) ∧ Hid (KeepM [94] w wr)) (fun i _ => n - (intOf i).toNat)
 case atStart => exact ⟨0, Nat.zero_le _, rfl, Lh rfl, H0, Lh (But.refl _ _), Lh (KeepM.refl _ _)⟩
 obtain ⟨k, hk, rfl, hop, hsc, hbu, hkm⟩ := hrel
 obtain ⟨wo, rfl⟩ : ∃ wo : World, wo = wr := ⟨_, rfl⟩
 have wk1 := wS k (by omega)
 have hss : skipS (if k = 0 then s else skipS s) = skipS s := by split; rfl; exact skip_skip s
 by_cases hlt : k < n
 ·have z1 : (k : Int) < (n : Int) := by omega
  obtain ⟨p, hp⟩ : ∃ p, l[k]? = some p := ⟨_, List.getElem?_eq_getElem (by rw [Hn.out]; exact hlt)⟩
  obtain ⟨P, eP, hP⟩ := str_form p
  have hro := hkm.out.blk HR.out (by decide)
  have c0 : wo.cell? ⟨rb, k, none⟩ = some (.string P) := by
   have h1 := hro.cell k
   rw [List.getElem?_map, hp] at h1
   rw [h1, Option.map_some, eP]
  have hnx := vSNext g _ p bad P hP wo hsc.out
  rw [hss] at hnx
  have ho2 := hop.out.trans (opS_at hp)
  have hnS : nextS p (if k = 0 then s else skipS s) = if Lib.hasPrefix (skipS s) p then (skipS s).drop p.length else skipS s := by unfold nextS; rw [hss]
  rw [hnS] at hnx
  obtain ⟨b, hb⟩ : ∃ b, Lib.hasPrefix (skipS s) p = b := ⟨_, rfl⟩
  rw [hb] at hnx ho2
  have HNx := Lh hnx; have Ho2 := Lh ho2
  clear hnx ho2 hnS hb hp eP hP hro hsc hss hop
  cases b with
  | true =>
   go_wp2_with fail
   refine HNx.out.mono ?_
   rintro e w1 ⟨rfl, k1, b1, m1⟩
   have hans : ANS = some (0 + k + 1, (skipS s).drop p.length) := by rw [← HA.out, Ho2.out]; rfl
   have HAn := Lh hans; have K1 := Lh k1; have B1 := Lh (hbu.out.trans b1); have M1 := Lh (hkm.out.trans m1)
   clear hans k1 b1 m1
   go_wp2
   go_ret
   exact ⟨B1.out, M1.out, .inl ⟨k + 1, (skipS s).drop p.length, by rw [HAn.out, Nat.zero_add], by first | rfl | simp, K1.out⟩⟩
  | false =>
   go_wp2_with fail
   refine HNx.out.mono ?_
   rintro e w1 ⟨rfl, k1, b1, m1⟩
   have K1 : Hid (ScanIs w1 g (if k + 1 = 0 then s else skipS s) bad) := Lh (by rw [if_neg (Nat.succ_ne_zero k)]; exact k1)
   have B1 := Lh (hbu.out.trans b1); have M1 := Lh (hkm.out.trans m1)
   have Ho3 : Hid (opS l 0 (skipS s) = opS (l.drop (k + 1)) (0 + (k + 1)) (skipS s)) := Lh (by rw [Ho2.out]; rfl)
   clear k1 b1 m1
   go_wp2
   go_roundw
   case rel => exact ⟨k + 1, by omega, by first | rfl | go_num, Ho3, K1, B1, M1⟩
   case measure => simp [intOf]; omega
 obtain rfl : k = n := by omega
 have z1 : ¬ (k : Int) < (k : Int) := by omega
 have hans : ANS = none := by rw [← HA.out, hop.out, List.drop_eq_nil_of_le (by rw [Hn.out]; exact Nat.le_refl _)]; rfl
 have k1 := hsc.out
 rw [if_neg (by omega)] at k1
 obtain ⟨S, eS, -⟩ := str_form (skipS s)
 rw [ScanIs, eS] at k1
 have c1 : wo.cell? ⟨g, 1, none⟩ = some (.bool bad) := k1.cell 1
 have f1 := k1.frozen 1
 have k2 := k1.set_ 1 (.bool true)
 have b2 := hbu.out.setCell (p := ⟨g, 1, none⟩) (by simp) (.bool true)
 have m2 := KeepM.setCell hkm.out (p := ⟨g, 1, none⟩) (show wo.heap[g]? = _ from k1) (by simp) (.bool true)
 have HAn := Lh hans; have K2 := Lh k2; have B2 := Lh b2; have M2 := Lh m2; have HeS := Lh eS
 clear hans k1 k2 b2 m2 hsc hbu hkm hop eS hss
 go_wp2
 go_ret
 exact ⟨B2.out, M2.out, .inr ⟨HAn.out, rfl, by rw [ScanIs, HeS.out]; exact K2.out⟩⟩
end Go.Proofs.YtecejnilajbdpaaGreatDoor
