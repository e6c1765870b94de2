import Derived.Test.YtecejnilajbdpaaGreatDoorTz15
set_option maxRecDepth 100000
set_option maxHeartbeats 16000000
namespace Go.Proofs.YtecejnilajbdpaaGreatDoor
open Go.RowKit Garner
def mxI : Option Nat → Int
 | none => -1
 | some m => m
theorem rep_flat (t : Re) (mn : Nat) (mx : Option Nat) (b : Nat) : (Re.rep t mn mx).flat b = t.flat b ++ [⟨5, [b + t.cnt - 1], mn, mxI mx, []⟩] := by
 cases mx <;> simp [Re.flat, mxI]
theorem vRepNode {F F1 : Nat → Prop} (t : Re) (mn : Nat) (mx : Option Nat) (kv : Nat) (mnv mxv : Int) (g : Nat) (w w1 : World) (r : List Nat) (ns : List NodeP) (deep mo : Nat) (hkv : ns.length + t.cnt - 1 = kv) (hmn : mnv = (mn : Int)) (hmx : mxv = mxI mx)
  (h : PS F1 w1 g r (ns ++ t.flat ns.length) deep mo) (hF1 : ∀ k, F1 k → Ext F w w1 k) (h0 : ∀ k, F k → k < w.heap.size) (k1 : PK g w w1) (hns : ns.length + t.cnt < 100000) :
  Calls Tryz.prog 148 #[.pointer (some ⟨g, 0, none⟩), .agg #[.int .i64 5, .slice (some ⟨w1.heap.size, 0, none⟩) 1 1, .int .i64 mnv, .int .i64 mxv, .slice none 0 0]] (w1.alloc (.cells ([kv].map iv).toArray 3)) fun e w' =>
   PK g w w' ∧ e = .returned (.int .i64 ((ns.length + (Re.rep t mn mx).cnt - 1 : Nat) : Int)) ∧ PS (Ext F w w') w' g r (ns ++ (Re.rep t mn mx).flat ns.length) deep mo := by
 subst hmn hmx
 have hb1 : Below w1.heap.size w1 (w1.alloc (.cells ([kv].map iv).toArray 3)) := (Below.refl _ _).alloc (Nat.le_refl _) _
 have s1 := k1.keep.size
 have h2 := h.below hb1
 have hx : PS (Ext F w (w1.alloc (.cells ([kv].map iv).toArray 3))) (w1.alloc (.cells ([kv].map iv).toArray 3)) g r (ns ++ t.flat ns.length) deep mo := h2.mono (fun k hk => by
  rcases hF1 k hk with h | h
  ·exact .inl h
  exact .inr ⟨h.1, by simp; omega⟩) (Ext.lt h0 (by simp; omega))
 have hd : NodeOk (Ext F w (w1.alloc (.cells ([kv].map iv).toArray 3))) (w1.alloc (.cells ([kv].map iv).toArray 3)) ⟨⟨5, [kv], mn, mxI mx, []⟩, some ⟨w1.heap.size, 0, none⟩, 1, none, 0⟩ :=
  ⟨RowT.new w1 3 ([kv].map iv), RowT.nil, fun a e => (by cases e; exact .inr ⟨s1, by simp⟩), fun a e => (by cases e)⟩
 refine (vNode ⟨⟨5, [kv], mn, mxI mx, []⟩, some ⟨w1.heap.size, 0, none⟩, 1, none, 0⟩ g _ r _ deep mo hx hd (by rw [List.length_append, flat_len]; exact hns)).mono ?_
 rintro e w2 ⟨rfl, h3, k3⟩
 have k2 := k1.trans (.of_below hb1 (Nat.le_of_lt h.lt))
 have s3 := k3.keep.size
 have s2 := k2.keep.size
 refine ⟨k2.trans k3, ?_, ?_⟩
 ·rw [List.length_append, flat_len]; rfl
 rw [rep_flat, hkv, ← List.append_assoc]
 refine h3.mono (fun k hk => ?_) (Ext.lt h0 (by omega))
 rcases hk with hk | hk
 ·exact .inl hk
 exact .inr ⟨hk.1, by omega⟩
theorem vItem (L : Nat) (hT : AtomC L) : ItemC L := by
 intro F g w rs ns deep most hL h hns hdp
 have hgw := h.lt
 have HF := Lh h.hF
 have ha := hT F g w rs ns deep most hL h hns hdp
 have heq := itemF_eq rs
 obtain ⟨OUT, hOUT⟩ : ∃ OUT, itemF rs = OUT := ⟨_, rfl⟩
 rw [hOUT] at heq ⊢
 have HE := Lh heq; have HA := Lh ha
 clear heq hOUT ha
 go_enter Tryz.func147, Tryz.ntmps147
 go_wp2_with fail
 refine HA.out.mono ?_
 rintro e w2 ⟨k2, o2⟩
 have s2 := k2.keep.size
 cases ho : atomF rs with
 | none =>
  rw [ho] at o2
  obtain rfl : e = faulted := o2
  exact ⟨rfl, k2, by rw [HE.out, ho]; exact rfl⟩
 | some q =>
  obtain ⟨t, s1, d⟩ := q
  rw [ho] at o2
  obtain ⟨rfl, h2⟩ := o2
  have hcnt := (atomF_cnt ho).1
  have he := HE.out
  rw [ho] at he
  dsimp only at he
  have HE2 := Lh he
  obtain ⟨kv, hkv⟩ : ∃ kv, ns.length + t.cnt - 1 = kv := ⟨_, rfl⟩
  rw [hkv]
  have Hkv := Lh hkv
  obtain ⟨mo, hmo⟩ : ∃ mo, max most (deep + d) = mo := ⟨_, rfl⟩
  rw [hmo] at h2
  have hno : ∀ c, s1.head? ≠ some c → Calls Tryz.prog 122 #[.pointer (some ⟨g, 0, none⟩), .int .i32 (c : Nat)] w2 fun e w' => e = .returned (.bool false) ∧ w' = w2 := fun c hc => vNext_no c g w2 s1 _ _ _ h2 hc
  have Hno := Lh hno
  have hrep : ∀ (F1 : Nat → Prop) (w1 : World) (r : List Nat) (mn : Nat) (mx : Option Nat) (mnv mxv : Int), mnv = (mn : Int) → mxv = mxI mx → PS F1 w1 g r (ns ++ t.flat ns.length) deep mo → (∀ k, F1 k → Ext F w w1 k) → PK g w w1 → OUT = some (.rep t mn mx, r, d) →
    Calls Tryz.prog 148 #[.pointer (some ⟨g, 0, none⟩), .agg #[.int .i64 5, .slice (some ⟨w1.heap.size, 0, none⟩) 1 1, .int .i64 mnv, .int .i64 mxv, .slice none 0 0]] (w1.alloc (.cells ([kv].map iv).toArray 3)) fun e w' => ∃ x : Int, e = .returned (.int .i64 x) ∧ PK g w w' ∧ OutA F OUT w g ns deep most (.returned (.int .i64 x)) w' :=
   fun F1 w1 r mn mx mnv mxv e1 e2 hp hf hk ho => (vRepNode t mn mx kv mnv mxv g w w1 r ns deep mo hkv e1 e2 hp hf HF.out hk (by omega)).mono fun e w' ⟨a1, a2, a3⟩ => ⟨_, a2, a1, by rw [ho]; exact ⟨rfl, by rw [hmo]; exact a3⟩⟩
  have HR := Lh hrep
  clear hrep hno hkv he ho HE HA
  have H2 := Lh h2; have K2 := Lh k2; have Hmo := Lh hmo
  clear h2 hmo
  by_cases c1 : s1.head? = some 42
  ·obtain ⟨r, rfl⟩ : ∃ r, s1 = 42 :: r := by
    cases s1 with
    | nil => cases c1
    | cons x r => injection c1 with c1; exact ⟨r, by rw [c1]⟩
   go_wp2_with fail
   refine (vNext_yes 42 g w2 r _ _ _ H2.out).mono ?_
   rintro e w3 ⟨rfl, h3, k3⟩
   have hv := HR.out _ w3 r 0 none 0 (-1) rfl rfl h3 (fun k hk => hk.imp id fun h => ⟨h.1, by have := k3.keep.size; omega⟩) (K2.out.trans k3) (by rw [HE2.out]; rfl)
   have HV := Lh hv
   clear hv
   go_wp2_with fail
   refine HV.out.mono ?_
   rintro e w9 ⟨x, rfl, k9, o9⟩
   have O9 := Lh o9
   clear o9
   go_wp2
   go_ret
   exact ⟨k9, O9.out⟩
  by_cases c2 : s1.head? = some 43
  ·obtain ⟨r, rfl⟩ : ∃ r, s1 = 43 :: r := by
    cases s1 with
    | nil => cases c2
    | cons x r => injection c2 with c2; exact ⟨r, by rw [c2]⟩
   go_wp2_with fail
   refine (Hno.out 42 (by simp)).mono ?_
   rintro e w3 ⟨rfl, hw⟩
   obtain rfl : w2 = w3 := hw.symm
   go_wp2_with fail
   refine (vNext_yes 43 g w2 r _ _ _ H2.out).mono ?_
   rintro e w3 ⟨rfl, h3, k3⟩
   have hv := HR.out _ w3 r 1 none 1 (-1) rfl rfl h3 (fun k hk => hk.imp id fun h => ⟨h.1, by have := k3.keep.size; omega⟩) (K2.out.trans k3) (by rw [HE2.out]; rfl)
   have HV := Lh hv
   clear hv
   go_wp2_with fail
   refine HV.out.mono ?_
   rintro e w9 ⟨x, rfl, k9, o9⟩
   have O9 := Lh o9
   clear o9
   go_wp2
   go_ret
   exact ⟨k9, O9.out⟩
  by_cases c3 : s1.head? = some 63
  ·obtain ⟨r, rfl⟩ : ∃ r, s1 = 63 :: r := by
    cases s1 with
    | nil => cases c3
    | cons x r => injection c3 with c3; exact ⟨r, by rw [c3]⟩
   go_wp2_with fail
   refine (Hno.out 42 (by simp)).mono ?_
   rintro e w3 ⟨rfl, hw⟩
   obtain rfl : w2 = w3 := hw.symm
   go_wp2_with fail
   refine (Hno.out 43 (by simp)).mono ?_
   rintro e w3 ⟨rfl, hw⟩
   obtain rfl : w2 = w3 := hw.symm
   go_wp2_with fail
   refine (vNext_yes 63 g w2 r _ _ _ H2.out).mono ?_
   rintro e w3 ⟨rfl, h3, k3⟩
   have hv := HR.out _ w3 r 0 (some 1) 0 1 rfl rfl h3 (fun k hk => hk.imp id fun h => ⟨h.1, by have := k3.keep.size; omega⟩) (K2.out.trans k3) (by rw [HE2.out]; rfl)
   have HV := Lh hv
   clear hv
   go_wp2_with fail
   refine HV.out.mono ?_
   rintro e w9 ⟨x, rfl, k9, o9⟩
   have O9 := Lh o9
   clear o9
   go_wp2
   go_ret
   exact ⟨k9, O9.out⟩
  by_cases c4 : s1.head? = some 123
  ·obtain ⟨r, rfl⟩ : ∃ r, s1 = 123 :: r := by
    cases s1 with
    | nil => cases c4
    | cons x r => injection c4 with c4; exact ⟨r, by rw [c4]⟩
   go_wp2_with fail
   refine (Hno.out 42 (by simp)).mono ?_
   rintro e w3 ⟨rfl, hw⟩
   obtain rfl : w2 = w3 := hw.symm
   go_wp2_with fail
   refine (Hno.out 43 (by simp)).mono ?_
   rintro e w3 ⟨rfl, hw⟩
   obtain rfl : w2 = w3 := hw.symm
   go_wp2_with fail
   refine (Hno.out 63 (by simp)).mono ?_
   rintro e w3 ⟨rfl, hw⟩
   obtain rfl : w2 = w3 := hw.symm
   go_wp2_with fail
   refine (vNext_yes 123 g w2 r _ _ _ H2.out).mono ?_
   rintro e w3 ⟨rfl, h3, k3⟩
   have k3' := K2.out.trans k3
   have hq : OUT = (quantR t (123 :: r)).map fun p => (p.1, p.2, d) := HE2.out
   have HQ := Lh hq
   clear hq c1 c2 c3
   go_wp2_with fail
   refine (vDigit g w3 r _ _ _ h3).mono ?_
   rintro e w4 ⟨k4, o4⟩
   have k4' := k3'.trans k4
   cases hd1 : digR r with
   | none =>
    rw [hd1] at o4
    obtain rfl : e = faulted := o4
    exact ⟨rfl, k4', by rw [HQ.out, quantR, if_neg (by decide), if_neg (by decide), if_neg (by decide), if_pos rfl, hd1]; exact rfl⟩
   | some q1 =>
    obtain ⟨lo, s2⟩ := q1
    rw [hd1] at o4
    obtain ⟨rfl, h4⟩ := o4
    have hlo := (digR_len hd1).2
    have hv := vNext_any 44 g w4 s2 _ _ _ h4
    have hq2 : OUT = (if s2.head? = some 44 then match digR s2.tail with | none => none | some (hi, s3) => if lo ≤ hi ∧ s3.head? = some 125 then some (Re.rep t lo (some hi), s3.tail) else none else if s2.head? = some 125 then some (Re.rep t lo (some lo), s2.tail) else none).map fun p => (p.1, p.2, d) := by
     rw [HQ.out, quantR, if_neg (by decide), if_neg (by decide), if_neg (by decide), if_pos rfl, hd1]
     dsimp only
     by_cases hc : s2.head? = some 44
     ·rw [if_pos hc, if_pos hc]; cases digR s2.tail <;> rfl
     rw [if_neg hc, if_neg hc]
    have HQ2 := Lh hq2
    clear hq2 hd1 HQ h4 h3
    by_cases hc : s2.head? = some 44
    ·rw [if_pos hc, decide_eq_true hc] at hv
     have Hc := Lh hc; clear hc
     go_wp2_with fail
     refine hv.mono ?_
     clear hv
     rintro e w5 ⟨rfl, h5, k5⟩
     go_wp2_with fail
     refine (vDigit g w5 s2.tail _ _ _ h5).mono ?_
     rintro e w6 ⟨k6, o6⟩
     have k6' := k4'.trans (k5.trans k6)
     cases hd2 : digR s2.tail with
     | none =>
      rw [hd2] at o6
      obtain rfl : e = faulted := o6
      exact ⟨rfl, k6', by rw [HQ2.out, if_pos Hc.out, hd2]; exact rfl⟩
     | some q2 =>
      obtain ⟨hi, s3⟩ := q2
      rw [hd2] at o6
      obtain ⟨rfl, h6⟩ := o6
      have hq3 : OUT = (if lo ≤ hi ∧ s3.head? = some 125 then some (Re.rep t lo (some hi), s3.tail) else none).map fun p => (p.1, p.2, d) := by
       rw [HQ2.out, if_pos Hc.out, hd2]
      have HQ3 := Lh hq3
      clear hq3 hd2 h5
      by_cases hle : lo ≤ hi
      ·have z1 : (lo : Int) ≤ (hi : Int) := by omega
       have z1' : decide ((lo : Int) ≤ (hi : Int)) = true := decide_eq_true z1
       have hv := vNext_any 125 g w6 s3 _ _ _ h6
       by_cases h7 : s3.head? = some 125
       ·rw [if_pos h7, decide_eq_true h7] at hv
        have HO : Hid (OUT = some (.rep t lo (some hi), s3.tail, d)) := Lh (by rw [HQ3.out, if_pos ⟨hle, h7⟩]; rfl)
        clear h7
        go_wp2_with fail
        refine hv.mono ?_
        clear hv
        rintro e w7 ⟨rfl, h7, k7⟩
        go_wp2_with fail
        refine (vMust_t _ rfl _).mono ?_
        rintro e w8 ⟨rfl, hw⟩
        obtain rfl : w7 = w8 := hw.symm
        have k7' := k6'.trans k7
        have s7 := (k3.trans (k4.trans (k5.trans (k6.trans k7)))).keep.size
        have hv := HR.out _ w7 s3.tail lo (some hi) lo hi rfl rfl h7 (fun k hk => hk.imp id fun h => ⟨h.1, by omega⟩) k7' HO.out
        have HV := Lh hv
        clear hv
        go_wp2_with fail
        refine HV.out.mono ?_
        rintro e w9 ⟨x, rfl, k9, o9⟩
        have O9 := Lh o9
        clear o9
        go_wp2
        go_ret
        exact ⟨k9, O9.out⟩
       rw [if_neg h7, decide_eq_false h7] at hv
       have HO : Hid (OUT = none) := Lh (by rw [HQ3.out, if_neg (fun h => h7 h.2)]; rfl)
       clear h7
       go_wp2_with fail
       refine hv.mono ?_
       clear hv
       rintro e w7 ⟨rfl, h7, k7⟩
       go_wp2_with fail
       refine (vMust_f _ rfl _).mono ?_
       rintro e w8 ⟨rfl, hw⟩
       obtain rfl : w7 = w8 := hw.symm
       exact ⟨rfl, k6'.trans k7, by rw [HO.out]; exact rfl⟩
      have z1 : ¬ (lo : Int) ≤ (hi : Int) := by omega
      have z1' : decide ((lo : Int) ≤ (hi : Int)) = false := decide_eq_false z1
      have HO : Hid (OUT = none) := Lh (by rw [HQ3.out, if_neg (fun h => hle h.1)]; rfl)
      go_wp2_with fail
      refine (vMust_f _ rfl _).mono ?_
      rintro e w8 ⟨rfl, hw⟩
      obtain rfl : w6 = w8 := hw.symm
      exact ⟨rfl, k6', by rw [HO.out]; exact rfl⟩
    rw [if_neg hc, decide_eq_false hc] at hv
    have Hc := Lh hc; clear hc
    go_wp2_with fail
    refine hv.mono ?_
    clear hv
    rintro e w6 ⟨rfl, h6, k6⟩
    have k6' := k4'.trans k6
    have z1 : (lo : Int) ≤ (lo : Int) := by omega
    have hv := vNext_any 125 g w6 s2 _ _ _ h6
    by_cases h7 : s2.head? = some 125
    ·rw [if_pos h7, decide_eq_true h7] at hv
     have HO : Hid (OUT = some (.rep t lo (some lo), s2.tail, d)) := Lh (by rw [HQ2.out, if_neg Hc.out, if_pos h7]; rfl)
     clear h7
     go_wp2_with fail
     refine hv.mono ?_
     clear hv
     rintro e w7 ⟨rfl, h7, k7⟩
     go_wp2_with fail
     refine (vMust_t _ rfl _).mono ?_
     rintro e w8 ⟨rfl, hw⟩
     obtain rfl : w7 = w8 := hw.symm
     have k7' := k6'.trans k7
     have s7 := (k3.trans (k4.trans (k6.trans k7))).keep.size
     have hv := HR.out _ w7 s2.tail lo (some lo) lo lo rfl rfl h7 (fun k hk => hk.imp id fun h => ⟨h.1, by omega⟩) k7' HO.out
     have HV := Lh hv
     clear hv
     go_wp2_with fail
     refine HV.out.mono ?_
     rintro e w9 ⟨x, rfl, k9, o9⟩
     have O9 := Lh o9
     clear o9
     go_wp2
     go_ret
     exact ⟨k9, O9.out⟩
    rw [if_neg h7, decide_eq_false h7] at hv
    have HO : Hid (OUT = none) := Lh (by rw [HQ2.out, if_neg Hc.out, if_neg h7]; rfl)
    clear h7
    go_wp2_with fail
    refine hv.mono ?_
    clear hv
    rintro e w7 ⟨rfl, h7, k7⟩
    go_wp2_with fail
    refine (vMust_f _ rfl _).mono ?_
    rintro e w8 ⟨rfl, hw⟩
    obtain rfl : w7 = w8 := hw.symm
    exact ⟨rfl, k6'.trans k7, by rw [HO.out]; exact rfl⟩
  have hq : OUT = some (t, s1, d) := by
   rw [HE2.out]
   cases s1 with
   | nil => rfl
   | cons x r =>
    have e1 : x ≠ 42 := fun e => c1 (by rw [e]; rfl)
    have e2 : x ≠ 43 := fun e => c2 (by rw [e]; rfl)
    have e3 : x ≠ 63 := fun e => c3 (by rw [e]; rfl)
    have e4 : x ≠ 123 := fun e => c4 (by rw [e]; rfl)
    rw [quantR, if_neg e1, if_neg e2, if_neg e3, if_neg e4]
    rfl
  have n1 := Hno.out 42 c1
  have n2 := Hno.out 43 c2
  have n3 := Hno.out 63 c3
  have n4 := Hno.out 123 c4
  have N1 := Lh n1; have N2 := Lh n2; have N3 := Lh n3; have N4 := Lh n4; have HQ := Lh hq
  clear n1 n2 n3 n4 hq c1 c2 c3 c4
  go_wp2_with fail
  refine N1.out.mono ?_
  rintro e w3 ⟨rfl, hw⟩
  obtain rfl : w2 = w3 := hw.symm
  go_wp2_with fail
  refine N2.out.mono ?_
  rintro e w3 ⟨rfl, hw⟩
  obtain rfl : w2 = w3 := hw.symm
  go_wp2_with fail
  refine N3.out.mono ?_
  rintro e w3 ⟨rfl, hw⟩
  obtain rfl : w2 = w3 := hw.symm
  go_wp2_with fail
  refine N4.out.mono ?_
  rintro e w3 ⟨rfl, hw⟩
  obtain rfl : w2 = w3 := hw.symm
  go_wp2
  go_ret
  refine ⟨K2.out, ?_⟩
  rw [HQ.out]
  refine ⟨congrArg (fun x : Nat => Ending.returned (.int .i64 (x : Int))) Hkv.out.symm, ?_⟩
  rw [Hmo.out]
  exact H2.out
theorem roots_length (l : List Re) (b : Nat) : (roots b l).length = l.length := roots_len l b
theorem kids_many {kind : Nat} {mk : List Re → Re} (hk : ∀ l b, (mk l).flat b = flats b l ++ [⟨kind, roots b l, 0, 0, []⟩]) (hc : ∀ l, (mk l).cnt = cnts l + 1) {ts : List Re} (ns : List NodeP) :
  kidsN kind (roots ns.length ts) (ns ++ flats ns.length ts) = (ns ++ (manyR mk ts).flat ns.length, ns.length + (manyR mk ts).cnt - 1) := by
 match ts with
 | [t] =>
  rw [roots_one, flats_one]; rfl
 | [] =>
  show (_ ++ [_], _) = (_ ++ (mk []).flat _, ns.length + (mk []).cnt - 1)
  rw [hk, hc]
  simp [cnts, flats, roots]
 | t :: u :: r =>
  show (_ ++ [_], _) = (_ ++ (mk (t :: u :: r)).flat _, ns.length + (mk (t :: u :: r)).cnt - 1)
  rw [hk, hc, List.append_assoc, List.length_append, flats_len]
  rfl
structure KidsI (F : Nat → Prop) (w : World) (g : Nat) (ns : List NodeP) (deep most B : Nat) (v : Value) (wr : World) (ts : List Re) (s : List Nat) (d : Nat) (G : Nat → Prop) : Prop where
 own : wr.ownsRow w.heap.size 3 1 v ts.length ((roots ns.length ts).map iv)
 ps : PS G wr g s (ns ++ flats ns.length ts) deep (max most (deep + d))
 gF : ∀ k, G k → Ext F w wr k
 gv : ∀ k, v.ownBlock = some k → ¬ G k
 pk : PK g w wr
 cnt : ns.length + cnts ts + 4 * s.length ≤ B
 dl : ts.length + s.length ≤ 300
theorem kids_next {F : Nat → Prop} {w wr w2 w8 : World} {g : Nat} {ns : List NodeP} {deep most B : Nat} {v v8 : Value} {ts : List Re} {s s1 : List Nat} {d d1 kid : Nat} {G : Nat → Prop} {t : Re} (hI : KidsI F w g ns deep most B v wr ts s d G) (hgw : g < w.heap.size)
  (h2 : PS (Ext G wr w2) w2 g s1 ((ns ++ flats ns.length ts) ++ t.flat (ns ++ flats ns.length ts).length) deep (max (max most (deep + d)) (deep + d1))) (k2 : PK g wr w2) (hkid : kid = (ns ++ flats ns.length ts).length + t.cnt - 1)
  (own8 : w8.ownsRow w.heap.size 3 1 v8 (ts.length + 1) ((roots ns.length ts).map iv ++ [iv kid])) (hg8 : (w2.alloc (.cells #[iv kid] 3)).grownBy w8 v.ownBlock)
  (hx : v8.ownBlock = v.ownBlock ∨ v8.ownBlock = some (w2.alloc (.cells #[iv kid] 3)).heap.size) (hcnt : ns.length + (cnts ts + t.cnt) + 4 * s1.length ≤ B) (hdl : ts.length + 1 + s1.length ≤ 300) :
  KidsI F w g ns deep most B v8 w8 (ts ++ [t]) s1 (max d d1) (Ext G wr w2) ∧ psLen g w8 = s1.length := by
 have hb : Below w2.heap.size w2 (w2.alloc (.cells #[iv kid] 3)) := (Below.refl _ _).alloc (Nat.le_refl _) _
 have hs0 := hI.pk.keep.size
 have hs2 := k2.keep.size
 have hs3 := hb.size
 have hgs := hg8.size
 have own2 : w2.ownsRow w.heap.size 3 1 v ts.length ((roots ns.length ts).map iv) := k2.keep.own hI.own (by decide)
 have own3 := own_below own2 hb
 have hnew : (w2.alloc (.cells #[iv kid] 3)).heap.size = w2.heap.size + 1 := by simp
 have hvE : ∀ k, v.ownBlock = some k → ¬ Ext G wr w2 k := fun k hk hE => by
  rcases hE with hE | hE
  ·exact hI.gv k hk hE
  have := (hI.own.lt k hk).2
  omega
 have h3 := h2.below hb
 have h8 : PS (Ext G wr w2) w8 g s1 ((ns ++ flats ns.length ts) ++ t.flat (ns ++ flats ns.length ts).length) deep (max (max most (deep + d)) (deep + d1)) := h3.grown own3 hg8 hvE (by decide) (by decide)
 have hps : PS (Ext G wr w2) w8 g s1 (ns ++ flats ns.length (ts ++ [t])) deep (max most (deep + max d d1)) := by
  rw [flats_app, flats_one, ← List.append_assoc]
  rw [List.length_append, flats_len] at h8
  rwa [show max (max most (deep + d)) (deep + d1) = max most (deep + max d d1) by omega] at h8
 refine ⟨⟨?_, hps, fun k hk => ?_, fun k hk => ?_, ?_, ?_, by rw [List.length_append]; exact hdl⟩, hps.psLen⟩
 ·rw [roots_app, roots_one, List.length_append, List.map_append]
  rw [List.length_append, flats_len] at hkid
  rw [← hkid]
  exact own8
 ·rcases hk with hk | hk
  ·rcases hI.gF k hk with h | h
   ·exact .inl h
   exact .inr ⟨h.1, by omega⟩
  exact .inr ⟨by omega, by omega⟩
 ·rcases hx with hx | hx
  ·exact hvE k (by rw [← hx]; exact hk)
  rw [hx] at hk
  injection hk with hk
  intro hE
  have := Ext.lt hI.ps.hF hs2 k hE
  omega
 ·exact (hI.pk.trans (k2.trans (.of_below hb (Nat.le_of_lt h2.lt)))).grown own3 hg8 (Nat.le_refl _) (Nat.le_of_lt hgw) (by omega)
 rw [cnts_app]; simp only [cnts]; omega
theorem vManyT {F : Nat → Prop} {w wr : World} {g : Nat} {ns : List NodeP} {deep most B : Nat} {v : Value} {ts : List Re} {s : List Nat} {d : Nat} {G : Nat → Prop} (kind : Nat) (mk : List Re → Re) (hk : ∀ l b, (mk l).flat b = flats b l ++ [⟨kind, roots b l, 0, 0, []⟩]) (hc : ∀ l, (mk l).cnt = cnts l + 1)
  (hI : KidsI F w g ns deep most B v wr ts s d G) (h0 : ∀ k, F k → k < w.heap.size) (hB : B ≤ 6000) :
  Calls Tryz.prog 123 #[.pointer (some ⟨g, 0, none⟩), .int .i64 kind, v] wr fun e w' => PK g w w' ∧ OutA F (some (manyR mk ts, s, d)) w g ns deep most e w' := by
 obtain ⟨A, c, rfl, -⟩ := own_form hI.own
 have hs0 := hI.pk.keep.size
 have hp : PS (fun k => G k ∨ (Value.slice A ts.length c).ownBlock = some k) wr g s (ns ++ flats ns.length ts) deep (max most (deep + d)) := hI.ps.mono (fun k hk => .inl hk) fun k hk => by
  rcases hk with hk | hk
  ·exact hI.ps.hF k hk
  exact (hI.own.lt k hk).2
 have hr := RowT.of_own hI.own
 have hl := roots_length ts ns.length
 rw [← hl] at hr
 have hn : (ns ++ flats ns.length ts).length < 100000 := by rw [List.length_append, flats_len]; have := hI.cnt; omega
 have hv := vMany kind (roots ns.length ts) A c g wr s (ns ++ flats ns.length ts) deep (max most (deep + d)) hp hr (fun a e => .inr (by rw [e]; rfl)) hn
 rw [kids_many hk hc] at hv
 rw [hl] at hv
 refine hv.mono ?_
 rintro e w2 ⟨rfl, h2, k2⟩
 have s2 := k2.keep.size
 refine ⟨hI.pk.trans k2, rfl, h2.mono (fun k hk => ?_) (Ext.lt h0 (by omega))⟩
 rcases hk with hk | hk
 ·rcases hI.gF k hk with h | h
  ·exact .inl h
  exact .inr ⟨h.1, by omega⟩
 have := hI.own.lt k hk
 exact .inr ⟨this.1, by omega⟩
theorem vEmptyT {F : Nat → Prop} {w wr : World} {g : Nat} {ns : List NodeP} {deep most B : Nat} {v : Value} {s : List Nat} {d : Nat} {G : Nat → Prop} (hI : KidsI F w g ns deep most B v wr [] s d G) (h0 : ∀ k, F k → k < w.heap.size) (hB : B ≤ 6000) :
  Calls Tryz.prog 148 #[.pointer (some ⟨g, 0, none⟩), .agg #[.int .i64 1, .slice none 0 0, .int .i64 0, .int .i64 0, .slice none 0 0]] wr fun e w' => PK g w w' ∧ OutA F (some (.emp, s, d)) w g ns deep most e w' := by
 have hs0 := hI.pk.keep.size
 have hcnt := hI.cnt
 have hp := hI.ps.mono hI.gF (Ext.lt h0 hs0)
 rw [show flats ns.length [] = [] from rfl, List.append_nil] at hp
 refine (vBareNode (F := Ext F w wr) 1 .emp (fun _ => rfl) rfl g wr wr s ns deep (max most (deep + d)) hp (Ext.lt h0 hs0) (.refl _ _) (by omega)).mono ?_
 rintro e w2 ⟨k2, rfl, h2⟩
 have s2 := k2.keep.size
 exact ⟨hI.pk.trans k2, rfl, h2.mono (Ext.trans hs0 s2) (Ext.lt h0 (by omega))⟩
theorem PS.head {F : Nat → Prop} {w : World} {g : Nat} {a : Nat} {r : List Nat} {ns : List NodeP} {deep most : Nat} (h : PS F w g (a :: r) ns deep most) : ∃ b off c, w.cell? ⟨g, 0, none⟩ = some (.slice (some ⟨b, off, none⟩) (r.length + 1) c) ∧ w.cell? ⟨b, off, none⟩ = some (.int .i32 (a : Nat)) := by
 obtain ⟨A, c, O, m, hb, hr, -⟩ := h.ex
 obtain ⟨b, off, rfl, hc⟩ := hr.at_ (k := 0) (u := rv a) rfl
 exact ⟨b, off, c, hb.cell 0, hc⟩
theorem PS.head_nil {F : Nat → Prop} {w : World} {g : Nat} {ns : List NodeP} {deep most : Nat} (h : PS F w g [] ns deep most) : ∃ A c, w.cell? ⟨g, 0, none⟩ = some (.slice A 0 c) := by
 obtain ⟨A, c, O, m, hb, -⟩ := h.ex
 exact ⟨A, c, hb.cell 0⟩
theorem vRow (L : Nat) (hT : ItemC L) : RowC L := by
 intro F g w rs ns deep most hL h hns hdp
 have hgw := h.lt
 have HF := Lh h.hF
 have hlb := h.lb
 obtain ⟨ANS, hANS⟩ : ∃ ANS, rowF rs = ANS := ⟨_, rfl⟩
 rw [hANS]
 obtain ⟨N, hN⟩ : ∃ N, rs.length = N := ⟨_, rfl⟩
 rw [hN] at hL hns hdp hlb
 have HN := Lh hN; have HA := Lh hANS
 clear hN hANS
 go_enter Tryz.func121, Tryz.ntmps121
 go_wp2
 go_loopw [3] (fun v wr => ∃ (ts : List Re) (s : List Nat) (d : Nat) (G : Nat → Prop), KidsI F w g ns deep most (ns.length + 4 * N) v wr ts s d G ∧ Hid ((rowF s).map (fun p => (ts ++ p.1, p.2.1, max d p.2.2)) = ANS) ∧ s.length ≤ N) (fun _ wr => psLen g wr)
 case atStart =>
  refine ⟨[], rs, 0, F, ⟨World.ownsRow_nil _ _ _ _, ?_, fun k hk => .inl hk, fun k hk => (by cases hk), .refl _ _, by rw [HN.out]; simp [cnts], by rw [HN.out]; simp; omega⟩, Lh ?_, by rw [HN.out]; exact Nat.le_refl _⟩
  ·rw [show max most (deep + 0) = most by have := h.dm; omega]
   simpa [flats] using h
  rw [HA.out]
  cases ANS with
  | none => rfl
  | some p => simp
 obtain ⟨ts, s, d, G, hI, hans, hsN⟩ := hrel
 obtain ⟨wo, rfl⟩ : ∃ wo : World, wo = wr := ⟨_, rfl⟩
 obtain ⟨A3, c3, rfl, hc3⟩ := own_form hI.own
 have hps := hI.ps
 have hlS := hps.psLen
 have HlS := Lh hlS; clear hlS
 have hrow := hans.out
 rw [rowF_eq] at hrow
 have HI := Lh hI
 have hown := hI.own
 have hcnt := hI.cnt
 have hdl := hI.dl
 have hsz := hI.pk.keep.size
 have hlen := hps.lb
 have Hps := Lh hps
 clear hI hans hps
 by_cases hend : s = [] ∨ s.head? = some 124 ∨ s.head? = some 41
 ·rw [if_pos hend] at hrow
  have hrow : ANS = some (ts, s, d) := by rw [← hrow]; simp
  have HR := Lh hrow
  have hfin : (ts = [] → Calls Tryz.prog 148 #[.pointer (some ⟨g, 0, none⟩), .agg #[.int .i64 1, .slice none 0 0, .int .i64 0, .int .i64 0, .slice none 0 0]] wo fun e w' => ∃ x : Int, e = .returned (.int .i64 x) ∧ PK g w w' ∧ OutA F (ANS.map fun p => (rowOf p.1, p.2.1, p.2.2)) w g ns deep most (.returned (.int .i64 x)) w') ∧
    (ts ≠ [] → Calls Tryz.prog 123 #[.pointer (some ⟨g, 0, none⟩), .int .i64 (3 : Nat), .slice A3 ts.length c3] wo fun e w' => ∃ x : Int, e = .returned (.int .i64 x) ∧ PK g w w' ∧ OutA F (ANS.map fun p => (rowOf p.1, p.2.1, p.2.2)) w g ns deep most (.returned (.int .i64 x)) w') := by
   rw [HR.out]
   constructor
   ·rintro rfl
    refine (vEmptyT HI.out HF.out (by omega)).mono ?_
    rintro e w' ⟨k, o⟩
    obtain ⟨rfl, o2⟩ := o
    exact ⟨_, rfl, k, rfl, o2⟩
   intro hne
   have e : rowOf ts = manyR .seq ts := if_neg (by simpa using hne)
   refine (vManyT 3 .seq (fun _ _ => rfl) (fun _ => rfl) HI.out HF.out (by omega)).mono ?_
   rintro e' w' ⟨k, o⟩
   obtain ⟨rfl, o2⟩ := o
   refine ⟨_, rfl, k, ?_⟩
   show OutA F (some (rowOf ts, s, d)) _ _ _ _ _ _ _
   rw [e]
   exact ⟨rfl, o2⟩
  obtain ⟨hf1, hf2⟩ := hfin
  have HF1 := Lh hf1; have HF2 := Lh hf2
  clear hrow hown hf1 hf2
  have hz : (∃ A0 c0, s = [] ∧ wo.cell? ⟨g, 0, none⟩ = some (.slice A0 0 c0)) ∨ ∃ a r b off c0, s = a :: r ∧ (a = 124 ∨ a = 41) ∧ wo.cell? ⟨g, 0, none⟩ = some (.slice (some ⟨b, off, none⟩) (r.length + 1) c0) ∧ wo.cell? ⟨b, off, none⟩ = some (.int .i32 (a : Nat)) := by
   cases s with
   | nil =>
    obtain ⟨A0, c0, f0⟩ := Hps.out.head_nil
    exact .inl ⟨A0, c0, rfl, f0⟩
   | cons a r =>
    obtain ⟨b, off, c0, f0, f1⟩ := Hps.out.head
    refine .inr ⟨a, r, b, off, c0, rfl, ?_, f0, f1⟩
    rcases hend with h | h | h
    ·cases h
    ·exact .inl (by simpa using h)
    exact .inr (by simpa using h)
  obtain ⟨m, hm⟩ : ∃ m, ts.length = m := ⟨_, rfl⟩
  have Hm := Lh hm
  rw [hm] at HF2 ⊢
  clear hm hend
  by_cases hts : ts = []
  ·have hm0 : m = 0 := by rw [← Hm.out, hts]; rfl
   subst hm0
   have hv := HF1.out hts
   have HV := Lh hv
   clear hv hts
   rcases hz with ⟨A0, c0, rfl, f0⟩ | ⟨a, r, b, off, c0, rfl, rfl | rfl, f0, f1⟩
   all_goals
    (try have z4 : (0 : Int) < (r.length : Int) + 1 := by omega)
    (try have z5 : 0 < r.length + 1 := by omega)
    go_wp2_with fail
    refine HV.out.mono ?_
    rintro e w9 ⟨x, rfl, k9, o9⟩
    have O9 := Lh o9
    clear o9
    go_wp2
    go_ret
    exact ⟨k9, O9.out⟩
  have hm0 : ¬ m = 0 := fun e => hts (List.eq_nil_of_length_eq_zero (by rw [Hm.out, e]))
  have hv := HF2.out hts
  have HV := Lh hv
  have z6 : ((m : Int) == 0) = false := by simp; omega
  have z7 : ¬ (m : Int) = 0 := by omega
  clear hv hts hm0
  rcases hz with ⟨A0, c0, rfl, f0⟩ | ⟨a, r, b, off, c0, rfl, rfl | rfl, f0, f1⟩
  all_goals
   (try have z4 : (0 : Int) < (r.length : Int) + 1 := by omega)
   (try have z5 : 0 < r.length + 1 := by omega)
   go_wp2_with fail
   refine HV.out.mono ?_
   rintro e w9 ⟨x, rfl, k9, o9⟩
   have O9 := Lh o9
   clear o9
   go_wp2
   go_ret
   exact ⟨k9, O9.out⟩
 rw [if_neg hend] at hrow
 cases s with
 | nil => exact absurd (.inl rfl) hend
 | cons a r =>
  have ha1 : a ≠ 124 := fun e => hend (.inr (.inl (by rw [e]; rfl)))
  have ha2 : a ≠ 41 := fun e => hend (.inr (.inr (by rw [e]; rfl)))
  obtain ⟨b, off, c0, f0, f1⟩ := Hps.out.head
  have z1 : (0 : Int) < ((r.length + 1 : Nat) : Int) := by omega
  have z2 : ((a : Int) != 124) = true := by simp; omega
  have z3 : ((a : Int) != 41) = true := by simp; omega
  have z4 : (0 : Int) < (r.length : Int) + 1 := by omega
  have z5 : 0 < r.length + 1 := by omega
  have hi := hT G g wo (a :: r) (ns ++ flats ns.length ts) deep (max most (deep + d)) (by omega) Hps.out (by rw [List.length_append, flats_len]; omega) (by omega)
  have HR := Lh hrow; have Hi := Lh hi
  clear hrow hi hend ha1 ha2
  go_wp2_with fail
  refine Hi.out.mono ?_
  rintro e w2 ⟨k2, o2⟩
  have hrow := HR.out
  cases hit : itemF (a :: r) with
  | none =>
   rw [hit] at o2 hrow
   obtain rfl : e = faulted := o2
   exact ⟨rfl, HI.out.pk.trans k2, by rw [← hrow]; exact rfl⟩
  | some q =>
   obtain ⟨t, s1, d1⟩ := q
   rw [hit] at o2 hrow
   obtain ⟨rfl, h2⟩ := o2
   dsimp only at hrow
   have hcn := (itemF_cnt hit).1
   have hll := itemF_len hit
   obtain ⟨kid, hkid⟩ : ∃ kid, (ns ++ flats ns.length ts).length + t.cnt - 1 = kid := ⟨_, rfl⟩
   rw [hkid]
   have Hk := Lh hkid
   have own2 : w2.ownsRow w.heap.size 3 1 (.slice A3 ts.length c3) ts.length ((roots ns.length ts).map iv) := k2.keep.own hown (by decide)
   have s2 := k2.keep.size
   have Hrow := Lh hrow; have H2 := Lh h2; have K2 := Lh k2
   clear hrow h2 k2 hit hown hkid
   go_wp2_with (at_builtin; refine wpList_app _ rfl intE rfl rfl (own2.alloc _) rfl (row_new w2 _ [_]) (by simp [Value.oneCell']) (by first | omega | (simp; omega)) (by simp; omega) ?_; intro v8 w8 own8 hg8 hb8 hx8)
   obtain ⟨e1, e2⟩ := kids_next (t := t) (kid := kid) HI.out hgw H2.out K2.out Hk.out.symm own8 hg8 hx8 (by simp at hcn hcnt ⊢; omega) (by simp at hdl hll ⊢; omega)
   refine ⟨⟨ts ++ [t], s1, _, _, e1, Lh ?_, by simp at hll hsN; omega⟩, by rw [e2, HlS.out]; exact hll⟩
   rw [← Hrow.out]
   cases rowF s1 with
   | none => rfl
   | some p => simp [Nat.max_assoc]
theorem kids_keep {F : Nat → Prop} {w wr w3 : World} {g : Nat} {ns : List NodeP} {deep most B : Nat} {v : Value} {ts : List Re} {s s' : List Nat} {d : Nat} {G : Nat → Prop} (hI : KidsI F w g ns deep most B v wr ts s d G) (h3 : PS G w3 g s' (ns ++ flats ns.length ts) deep (max most (deep + d))) (k3 : PK g wr w3) (hs : s'.length ≤ s.length) :
  KidsI F w g ns deep most B v w3 ts s' d G := by
 have := k3.keep.size
 have := hI.pk.keep.size
 refine ⟨k3.keep.own hI.own (by decide), h3, fun k hk => ?_, hI.gv, hI.pk.trans k3, by have := hI.cnt; omega, by have := hI.dl; omega⟩
 rcases hI.gF k hk with h | h
 ·exact .inl h
 exact .inr ⟨h.1, by omega⟩
theorem own_lit (w : World) (B : Nat) (e : TypeId) (x : Value) (hB : B ≤ w.heap.size) : (w.alloc (.cells #[x] e)).ownsRow B e 1 (.slice (some ⟨w.heap.size, 0, none⟩) 1 1) 1 [x] :=
 ⟨rfl, .inr ⟨w.heap.size, 1, #[x], rfl, hB, heap_alloc_new w _, Nat.le_refl _, by unfold maxLen; omega, rfl, rfl⟩⟩
theorem vAlt (L : Nat) (hT : RowC L) : AltC L := by
 intro F g w rs ns deep most hL h hns hdp
 have hgw := h.lt
 have HF := Lh h.hF
 have hlb := h.lb
 have h1 := hT F g w rs ns deep most hL h hns hdp
 obtain ⟨ANS, hANS⟩ : ∃ ANS, altF rs = ANS := ⟨_, rfl⟩
 have hA := altF_eq rs
 rw [hANS] at hA ⊢
 obtain ⟨N, hN⟩ : ∃ N, rs.length = N := ⟨_, rfl⟩
 rw [hN] at hL hns hdp hlb
 have HN := Lh hN; have HA := Lh hA; have H1 := Lh h1
 clear hN hANS hA h1
 go_enter Tryz.func89, Tryz.ntmps89
 go_wp2_with fail
 refine H1.out.mono ?_
 rintro e w2 ⟨k2, o2⟩
 have s2 := k2.keep.size
 have hA := HA.out
 cases hr : rowF rs with
 | none =>
  rw [hr] at o2 hA
  obtain rfl : e = faulted := o2
  exact ⟨rfl, k2, by rw [hA]; exact rfl⟩
 | some q =>
  obtain ⟨ts0, s1, d0⟩ := q
  rw [hr] at o2 hA
  obtain ⟨rfl, h2⟩ := o2
  dsimp only at hA h2
  have hcn := (rowF_cnt hr).1
  have hro := rowOf_cnt ts0
  have hll := rowF_len hr
  obtain ⟨kid, hkid⟩ : ∃ kid, ns.length + (rowOf ts0).cnt - 1 = kid := ⟨_, rfl⟩
  rw [hkid]
  have hb : Below w2.heap.size w2 (w2.alloc (.cells #[iv kid] 3)) := (Below.refl _ _).alloc (Nat.le_refl _) _
  have hsz : (w2.alloc (.cells #[iv kid] 3)).heap.size = w2.heap.size + 1 := by simp
  have hI0 : KidsI F w g ns deep most (ns.length + 4 * N + 1) (.slice (some ⟨w2.heap.size, 0, none⟩) 1 1) (w2.alloc (.cells #[iv kid] 3)) [rowOf ts0] s1 d0 (Ext F w w2) :=
   ⟨by rw [roots_one, hkid]; exact own_lit w2 _ _ _ s2, by rw [flats_one]; exact h2.below hb, fun k hk => hk.imp id fun h => ⟨h.1, by omega⟩, fun k hk hE => (by
    have hk : w2.heap.size = k := by simpa [Value.ownBlock] using hk
    have := Ext.lt HF.out s2 k hE
    omega), k2.trans (.of_below hb (Nat.le_of_lt h2.lt)), by rw [HN.out] at hcn; simp only [cnts]; omega, by rw [HN.out] at hll; simp; omega⟩
  have hI0l : s1.length ≤ N := by rw [← HN.out]; exact hll
  have hans0 : (if s1.head? = some 124 then (altF s1.tail).map (fun p => ([rowOf ts0] ++ p.1, p.2.1, max d0 p.2.2)) else some ([rowOf ts0], s1, d0)) = ANS := by
   rw [hA]
   split
   ·cases altF s1.tail <;> rfl
   rfl
  have HI0 := Lh hI0; have HA0 := Lh hans0
  clear hI0 hans0 hA hr h2 hkid hb hsz hcn hro hll k2 s2
  go_wp2
  go_loopw [3] (fun v wr => ∃ (ts : List Re) (s : List Nat) (d : Nat) (G : Nat → Prop), KidsI F w g ns deep most (ns.length + 4 * N + 1) v wr ts s d G ∧ Hid ((if s.head? = some 124 then (altF s.tail).map (fun p => (ts ++ p.1, p.2.1, max d p.2.2)) else some (ts, s, d)) = ANS) ∧ s.length ≤ N) (fun _ wr => psLen g wr)
  case atStart => exact ⟨[rowOf ts0], s1, d0, _, HI0.out, HA0, hI0l⟩
  obtain ⟨ts, s, d, G, hI, hans, hsN⟩ := hrel
  obtain ⟨wo, rfl⟩ : ∃ wo : World, wo = wr := ⟨_, rfl⟩
  obtain ⟨A3, c3, rfl, hc3⟩ := own_form hI.own
  have hlS := hI.ps.psLen
  have HlS := Lh hlS; clear hlS
  have hv := vNext_any 124 g wo s _ _ _ hI.ps
  have HI := Lh hI
  have hcnt := hI.cnt
  have hdl := hI.dl
  clear hI
  by_cases hc : s.head? = some 124
  ·have hans1 := hans.out
   rw [if_pos hc] at hans1
   rw [if_pos hc, decide_eq_true hc] at hv
   have htl := tail_lt hc
   have Ha := Lh hans1
   clear hans1 hans hc
   go_wp2_with fail
   refine hv.mono ?_
   clear hv
   rintro e w3 ⟨rfl, h3, k3⟩
   have hI3 := kids_keep HI.out h3 k3 (by omega)
   have hrow := hT G g w3 s.tail (ns ++ flats ns.length ts) deep (max most (deep + d)) (by omega) h3 (by rw [List.length_append, flats_len]; omega) (by omega)
   have HI3 := Lh hI3; have Hrow := Lh hrow
   have hown := hI3.own
   have s3 := hI3.pk.keep.size
   clear hI3 hrow h3 k3
   go_wp2_with fail
   refine Hrow.out.mono ?_
   rintro e w4 ⟨k4, o4⟩
   have ha := Ha.out
   rw [altF_eq] at ha
   cases hr : rowF s.tail with
   | none =>
    rw [hr] at o4 ha
    obtain rfl : e = faulted := o4
    exact ⟨rfl, HI3.out.pk.trans k4, by rw [← ha]; exact rfl⟩
   | some q =>
    obtain ⟨ts1, s1', d1⟩ := q
    rw [hr] at o4 ha
    obtain ⟨rfl, h4⟩ := o4
    dsimp only at ha h4
    have hcn := (rowF_cnt hr).1
    have hro := rowOf_cnt ts1
    have hll := rowF_len hr
    obtain ⟨kid, hkid⟩ : ∃ kid, (ns ++ flats ns.length ts).length + (rowOf ts1).cnt - 1 = kid := ⟨_, rfl⟩
    rw [hkid]
    have Hk := Lh hkid
    have own4 : w4.ownsRow w.heap.size 3 1 (.slice A3 ts.length c3) ts.length ((roots ns.length ts).map iv) := k4.keep.own hown (by decide)
    have s4 := k4.keep.size
    have Hha := Lh ha; have H4 := Lh h4; have K4 := Lh k4
    clear ha h4 k4 hr hown hkid
    go_wp2_with (at_builtin; refine wpList_app _ rfl intE rfl rfl (own4.alloc _) rfl (row_new w4 _ [_]) (by simp [Value.oneCell']) (by first | omega | (simp; omega)) (by simp; omega) ?_; intro v8 w8 own8 hg8 hb8 hx8)
    obtain ⟨e1, e2⟩ := kids_next (t := rowOf ts1) (kid := kid) HI3.out hgw H4.out K4.out Hk.out.symm own8 hg8 hx8 (by omega) (by omega)
    refine ⟨⟨ts ++ [rowOf ts1], s1', _, _, e1, Lh ?_, by omega⟩, by rw [e2, HlS.out]; omega⟩
    rw [← Hha.out]
    split
    ·cases altF s1'.tail with
     | none => rfl
     | some p => simp [Nat.max_assoc]
    rfl
  have hans1 := hans.out
  rw [if_neg hc] at hans1
  rw [if_neg hc, decide_eq_false hc] at hv
  have Ha := Lh hans1
  clear hans1 hans hc
  go_wp2_with fail
  refine hv.mono ?_
  clear hv
  rintro e w3 ⟨rfl, h3, k3⟩
  have hI3 := kids_keep HI.out h3 k3 (Nat.le_refl _)
  have hm := vManyT 4 .alt (fun _ _ => rfl) (fun _ => rfl) hI3 HF.out (by omega)
  have Hm := Lh hm
  obtain ⟨m, hm1⟩ : ∃ m, ts.length = m := ⟨_, rfl⟩
  rw [hm1] at Hm ⊢
  clear hm hI3 h3 k3 hm1
  go_wp2_with fail
  refine Hm.out.mono ?_
  rintro e w4 ⟨k4, o4⟩
  obtain ⟨rfl, h4⟩ := o4
  have H4 := Lh h4
  clear h4
  go_wp2
  go_ret
  refine ⟨k4, ?_⟩
  rw [← Ha.out]
  exact ⟨rfl, H4.out⟩
theorem allC : ∀ L : Nat, AltC L
 | 0 => vAlt 0 (vRow 0 (vItem 0 (vAtom 0 fun K hK => absurd hK (Nat.not_lt_zero K))))
 | L + 1 => vAlt (L + 1) (vRow (L + 1) (vItem (L + 1) (vAtom (L + 1) fun K hK F g w rs ns deep most hL => allC L F g w rs ns deep most (by omega))))
end Go.Proofs.YtecejnilajbdpaaGreatDoor
