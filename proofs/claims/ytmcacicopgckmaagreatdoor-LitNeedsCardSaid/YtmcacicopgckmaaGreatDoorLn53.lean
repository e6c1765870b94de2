import Derived.Test.YtmcacicopgckmaaGreatDoorLn51
import Derived.Test.YtmcacicopgckmaaGreatDoorLn52
/-! LitNeeds: the walk -/
namespace Go.Proofs.YtmcacicopgckmaaGreatDoor
open Go.RowKit Garner
theorem needs_lens (l : Bs) : (lstN (needsE l)).length ≤ 20001 ∧ (lstN (wordsE l)).length ≤ 900000000 := by
  have hn := fun ns => @needs_ok l ns
  unfold wordsE
  cases h : needsE l with
  | error k => exact ⟨Nat.zero_le _, Nat.zero_le _⟩
  | ok ns =>
    obtain ⟨h1, h2⟩ := hn ns h
    refine ⟨h1, ?_⟩
    have h3 := once_len (ns.flatMap innerP)
    have h4 := flat_len2 ns innerP 40000 fun x hx => Nat.le_trans (inner_len x) (h2 x hx)
    have h5 := Nat.mul_le_mul_right 40000 h1
    show (onceB (ns.flatMap innerP)).length ≤ _
    omega
set_option maxRecDepth 100000 in
set_option maxHeartbeats 32000000 in
theorem lawLN (S : ByteArray) (s : Bs) (hS : S = ⟨s.toArray⟩) (w : World) (hL : Lt w) (b1 : s.length ≤ 140737488355328) :
    Calls Tryz.prog 3 #[.string S] w fun e w' => e = .returned (.bool true) ∧ Below w.heap.size w w' := by
  have h0 := vAwake21 w hL
  have eS : str s = .string S := by rw [hS]
  obtain ⟨hl1, hl2⟩ := needs_lens s
  obtain ⟨NE, hNE⟩ : ∃ NE, needsE s = NE := ⟨_, rfl⟩
  obtain ⟨WE, hWE⟩ : ∃ WE, wordsE s = WE := ⟨_, rfl⟩
  rw [hNE] at hl1
  rw [hWE] at hl2
  obtain ⟨ka, hka⟩ : ∃ ka, errN NE = ka := ⟨_, rfl⟩
  obtain ⟨kb, hkb⟩ : ∃ kb, errN WE = kb := ⟨_, rfl⟩
  obtain ⟨la, hla⟩ : ∃ la, lstN NE = la := ⟨_, rfl⟩
  obtain ⟨lb, hlb⟩ : ∃ lb, lstN WE = lb := ⟨_, rfl⟩
  obtain ⟨na, hna⟩ : ∃ na, la.length = na := ⟨_, rfl⟩
  obtain ⟨nb, hnb⟩ : ∃ nb, lb.length = nb := ⟨_, rfl⟩
  rw [hla, hna] at hl1
  rw [hlb, hnb] at hl2
  have q1 : ∀ wx, Lt wx → Calls Tryz.prog 9 #[.string S] wx fun e w' => Below wx.heap.size wx w' ∧ ∃ v, e = .returned (.tuple #[v, .int .i64 (ka : Nat)]) ∧ w'.ownsRow wx.heap.size 9 1 v na (la.map strV) := fun wx hx => by
    have h := vNeeds s wx hx (by omega)
    rw [eS, hNE] at h
    refine h.mono fun e w' h => ⟨h.1, ?_⟩
    have := h.2.q
    unfold StrsQ at this
    rwa [hka, hla, hna] at this
  have q2 : ∀ wx, Calls Tryz.prog 10 #[.string S] wx fun e w' => Below wx.heap.size wx w' ∧ ∃ v, e = .returned (.tuple #[v, .int .i64 (ka : Nat)]) ∧ w'.ownsRow wx.heap.size 9 1 v na (la.map strV) := fun wx => by
    have h := gNeeds s wx (by omega)
    rw [eS, hNE] at h
    unfold StrsQ at h
    rwa [hka, hla, hna] at h
  have q3 : ∀ wx, Lt wx → Calls Tryz.prog 11 #[.string S] wx fun e w' => Below wx.heap.size wx w' ∧ ∃ v, e = .returned (.tuple #[v, .int .i64 (kb : Nat)]) ∧ w'.ownsRow wx.heap.size 9 1 v nb (lb.map strV) := fun wx hx => by
    have h := vWords s wx hx (by omega)
    rw [eS, hWE] at h
    refine h.mono fun e w' h => ⟨h.1, ?_⟩
    have := h.2.q
    unfold StrsQ at this
    rwa [hkb, hlb, hnb] at this
  have q4 : ∀ wx, Calls Tryz.prog 12 #[.string S] wx fun e w' => Below wx.heap.size wx w' ∧ ∃ v, e = .returned (.tuple #[v, .int .i64 (kb : Nat)]) ∧ w'.ownsRow wx.heap.size 9 1 v nb (lb.map strV) := fun wx => by
    have h := gWords s wx (by omega)
    rw [eS, hWE] at h
    unfold StrsQ at h
    rwa [hkb, hlb, hnb] at h
  have H0 := Lib.hid h0; have HL := Lib.hid hL; have Q1 := Lib.hid q1; have Q2 := Lib.hid q2; have Q3 := Lib.hid q3; have Q4 := Lib.hid q4; have Hna := Lib.hid hna; have Hnb := Lib.hid hnb
  clear h0 hL q1 q2 q3 q4 hS eS hNE hWE hka hkb hla hlb hna hnb
  go_enter Tryz.func3, Tryz.ntmps3
  go_wp2_with fail
  refine H0.out.mono ?_
  rintro e w1 ⟨rfl, hb1⟩
  have R1 := Lib.hid (Q1.out w1 (HL.out.below hb1)); have HW1 := Lib.hid hb1
  clear hb1
  go_wp2_with fail
  refine R1.out.mono ?_
  rintro e w2 ⟨hb2, v2, rfl, o2⟩
  have hw2 := HW1.out.trans (hb2.mono HW1.out.size)
  have R2 := Lib.hid (Q2.out w2); have HW2 := Lib.hid hw2; have O2 := Lib.hid o2
  clear hb2 hw2 o2 R1
  go_wp2_with fail
  refine R2.out.mono ?_
  rintro e w3 ⟨hb3, v3, rfl, o3⟩
  have hw3 := HW2.out.trans (hb3.mono HW2.out.size)
  have R3 := Lib.hid (Q3.out w3 (HL.out.below hw3)); have HW3 := Lib.hid hw3; have O3 := Lib.hid o3; have O2 := Lib.hid (own_below O2.out hb3)
  clear hb3 hw3 o3 R2
  go_wp2_with fail
  refine R3.out.mono ?_
  rintro e w4 ⟨hb4, v4, rfl, o4⟩
  have hw4 := HW3.out.trans (hb4.mono HW3.out.size)
  have R4 := Lib.hid (Q4.out w4); have HW4 := Lib.hid hw4; have O4 := Lib.hid o4; have O2 := Lib.hid (own_below O2.out hb4); have O3 := Lib.hid (own_below O3.out hb4)
  clear hb4 hw4 o4 R3
  go_wp2_with fail
  refine R4.out.mono ?_
  rintro e w5 ⟨hb5, v5, rfl, o5⟩
  have hw5 := HW4.out.trans (hb5.mono HW4.out.size)
  have HW5 := Lib.hid hw5
  have p2 := own_below O2.out hb5
  have p3 := own_below O3.out hb5
  have p4 := own_below O4.out hb5
  obtain ⟨A2, c2, rfl, -⟩ := own_form p2
  obtain ⟨A3, c3, rfl, -⟩ := own_form p3
  obtain ⟨A4, c4, rfl, -⟩ := own_form p4
  obtain ⟨A5, c5, rfl, -⟩ := own_form o5
  have s1 := vSame7 la la A2 A3 na na c2 c3 w5.heap.size w5 Hna.out Hna.out (Row.of_own p2) (Row.of_own p3) (Nat.le_refl _) (by omega)
  rw [decide_eq_true rfl] at s1
  have S1 := Lib.hid s1; have P4 := Lib.hid p4; have O5 := Lib.hid o5
  clear s1 p2 p3 p4 o5 hb5 hw5 O2 O3 O4 R4
  go_wp2_with fail
  refine S1.out.mono ?_
  rintro e w6 ⟨rfl, hb6⟩
  have s2 := vSame7 lb lb A4 A5 nb nb c4 c5 w6.heap.size w6 Hnb.out Hnb.out (Row.of_own (own_below P4.out hb6)) (Row.of_own (own_below O5.out hb6)) (Nat.le_refl _) (by omega)
  rw [decide_eq_true rfl] at s2
  have S2 := Lib.hid s2; have HW6 := Lib.hid (HW5.out.trans (hb6.mono HW5.out.size))
  clear s2 hb6 S1
  go_wp2_with fail
  refine S2.out.mono ?_
  rintro e w7 ⟨rfl, hb7⟩
  have HW7 := Lib.hid (HW6.out.trans (hb7.mono HW6.out.size))
  clear hb7 S2
  go_wp2
  go_ret
  exact ⟨rfl, HW7.out⟩
end Go.Proofs.YtmcacicopgckmaaGreatDoor

