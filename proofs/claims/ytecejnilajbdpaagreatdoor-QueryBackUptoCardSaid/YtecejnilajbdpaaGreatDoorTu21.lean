import Derived.Test.YtecejnilajbdpaaGreatDoorTu17
/-! rexp: item -/
namespace Go.Proofs.YtecejnilajbdpaaGreatDoor
open Go.RowKit Garner
def mxI : Option Nat → Int
  | none => -1
  | some m => m
theorem rep_flat (t : Re) (mn : Nat) (mx : Option Nat) (b : Nat) : (Re.rep t mn mx).flat b = t.flat b ++ [⟨5, [b + t.cnt - 1], mn, mxI mx, []⟩] := by
  cases mx <;> simp [Re.flat, mxI]
theorem vRepNode {F F1 : Nat → Prop} (t : Re) (mn : Nat) (mx : Option Nat) (kv : Nat) (mnv mxv : Int) (g : Nat) (w w1 : World) (r : List Nat) (ns : List NodeP) (deep mo : Nat) (hkv : ns.length + t.cnt - 1 = kv) (hmn : mnv = (mn : Int)) (hmx : mxv = mxI mx)
    (h : PS F1 w1 g r (ns ++ t.flat ns.length) deep mo) (hF1 : ∀ k, F1 k → Ext F w w1 k) (h0 : ∀ k, F k → k < w.heap.size) (k1 : PK g w w1) (hns : ns.length + t.cnt < 100000) :
    Calls Tryz.prog 148 #[.pointer (some ⟨g, 0, none⟩), .agg #[.int .i64 5, .slice (some ⟨w1.heap.size, 0, none⟩) 1 1, .int .i64 mnv, .int .i64 mxv, .slice none 0 0]] (w1.alloc (.cells ([kv].map iv).toArray 3)) fun e w' =>
      PK g w w' ∧ e = .returned (.int .i64 ((ns.length + (Re.rep t mn mx).cnt - 1 : Nat) : Int)) ∧ PS (Ext F w w') w' g r (ns ++ (Re.rep t mn mx).flat ns.length) deep mo := by
  subst hmn hmx
  have hb1 : Below w1.heap.size w1 (w1.alloc (.cells ([kv].map iv).toArray 3)) := (Below.refl _ _).alloc (Nat.le_refl _) _
  have s1 := k1.keep.size
  have h2 := h.below hb1
  have hx : PS (Ext F w (w1.alloc (.cells ([kv].map iv).toArray 3))) (w1.alloc (.cells ([kv].map iv).toArray 3)) g r (ns ++ t.flat ns.length) deep mo := h2.mono (fun k hk => by
    rcases hF1 k hk with h | h
    · exact .inl h
    · exact .inr ⟨h.1, by simp; omega⟩) (Ext.lt h0 (by simp; omega))
  have hd : NodeOk (Ext F w (w1.alloc (.cells ([kv].map iv).toArray 3))) (w1.alloc (.cells ([kv].map iv).toArray 3)) ⟨⟨5, [kv], mn, mxI mx, []⟩, some ⟨w1.heap.size, 0, none⟩, 1, none, 0⟩ :=
    ⟨RowT.new w1 3 ([kv].map iv), RowT.nil, fun a e => (by cases e; exact .inr ⟨s1, by simp⟩), fun a e => (by cases e)⟩
  refine (vNode ⟨⟨5, [kv], mn, mxI mx, []⟩, some ⟨w1.heap.size, 0, none⟩, 1, none, 0⟩ g _ r _ deep mo hx hd (by rw [List.length_append, flat_len]; exact hns)).mono ?_
  rintro e w2 ⟨rfl, h3, k3⟩
  have k2 := k1.trans (.of_below hb1 (Nat.le_of_lt h.lt))
  have s3 := k3.keep.size
  have s2 := k2.keep.size
  refine ⟨k2.trans k3, ?_, ?_⟩
  · rw [List.length_append, flat_len]; rfl
  · rw [rep_flat, hkv, ← List.append_assoc]
    refine h3.mono (fun k hk => ?_) (Ext.lt h0 (by omega))
    rcases hk with hk | hk
    · exact .inl hk
    · exact .inr ⟨hk.1, by omega⟩
set_option maxRecDepth 100000 in
set_option maxHeartbeats 16000000 in
theorem vItem (L : Nat) (hT : AtomC L) : ItemC L := by
  intro F g w rs ns deep most hL h hns hdp
  have hgw := h.lt
  have HF := Lib.hid h.hF
  have ha := hT F g w rs ns deep most hL h hns hdp
  have heq := itemF_eq rs
  obtain ⟨OUT, hOUT⟩ : ∃ OUT, itemF rs = OUT := ⟨_, rfl⟩
  rw [hOUT] at heq ⊢
  have HE := Lib.hid heq; have HA := Lib.hid ha
  clear heq hOUT ha
  go_enter Tryz.func147, Tryz.ntmps147
  go_wp2_with fail
  refine HA.out.mono ?_
  rintro e w2 ⟨k2, o2⟩
  have s2 := k2.keep.size
  cases ho : atomF rs with
  | none =>
    rw [ho] at o2
    obtain rfl : e = faulted := o2
    exact ⟨rfl, k2, by rw [HE.out, ho]; exact rfl⟩
  | some q =>
    obtain ⟨t, s1, d⟩ := q
    rw [ho] at o2
    obtain ⟨rfl, h2⟩ := o2
    have hcnt := (atomF_cnt ho).1
    have he := HE.out
    rw [ho] at he
    dsimp only at he
    have HE2 := Lib.hid he
    obtain ⟨kv, hkv⟩ : ∃ kv, ns.length + t.cnt - 1 = kv := ⟨_, rfl⟩
    rw [hkv]
    have Hkv := Lib.hid hkv
    obtain ⟨mo, hmo⟩ : ∃ mo, max most (deep + d) = mo := ⟨_, rfl⟩
    rw [hmo] at h2
    have hno : ∀ c, s1.head? ≠ some c → Calls Tryz.prog 122 #[.pointer (some ⟨g, 0, none⟩), .int .i32 (c : Nat)] w2 fun e w' => e = .returned (.bool false) ∧ w' = w2 := fun c hc => vNext_no c g w2 s1 _ _ _ h2 hc
    have Hno := Lib.hid hno
    have hrep : ∀ (F1 : Nat → Prop) (w1 : World) (r : List Nat) (mn : Nat) (mx : Option Nat) (mnv mxv : Int), mnv = (mn : Int) → mxv = mxI mx → PS F1 w1 g r (ns ++ t.flat ns.length) deep mo → (∀ k, F1 k → Ext F w w1 k) → PK g w w1 → OUT = some (.rep t mn mx, r, d) →
        Calls Tryz.prog 148 #[.pointer (some ⟨g, 0, none⟩), .agg #[.int .i64 5, .slice (some ⟨w1.heap.size, 0, none⟩) 1 1, .int .i64 mnv, .int .i64 mxv, .slice none 0 0]] (w1.alloc (.cells ([kv].map iv).toArray 3)) fun e w' => ∃ x : Int, e = .returned (.int .i64 x) ∧ PK g w w' ∧ OutA F OUT w g ns deep most (.returned (.int .i64 x)) w' :=
      fun F1 w1 r mn mx mnv mxv e1 e2 hp hf hk ho => (vRepNode t mn mx kv mnv mxv g w w1 r ns deep mo hkv e1 e2 hp hf HF.out hk (by omega)).mono fun e w' ⟨a1, a2, a3⟩ => ⟨_, a2, a1, by rw [ho]; exact ⟨rfl, by rw [hmo]; exact a3⟩⟩
    have HR := Lib.hid hrep
    clear hrep hno hkv he ho HE HA
    have H2 := Lib.hid h2; have K2 := Lib.hid k2; have Hmo := Lib.hid hmo
    clear h2 hmo
    by_cases c1 : s1.head? = some 42
    · obtain ⟨r, rfl⟩ : ∃ r, s1 = 42 :: r := by
        cases s1 with
        | nil => cases c1
        | cons x r => injection c1 with c1; exact ⟨r, by rw [c1]⟩
      go_wp2_with fail
      refine (vNext_yes 42 g w2 r _ _ _ H2.out).mono ?_
      rintro e w3 ⟨rfl, h3, k3⟩
      have hv := HR.out _ w3 r 0 none 0 (-1) rfl rfl h3 (fun k hk => hk.imp id fun h => ⟨h.1, by have := k3.keep.size; omega⟩) (K2.out.trans k3) (by rw [HE2.out]; rfl)
      have HV := Lib.hid hv
      clear hv
      go_wp2_with fail
      refine HV.out.mono ?_
      rintro e w9 ⟨x, rfl, k9, o9⟩
      have O9 := Lib.hid o9
      clear o9
      go_wp2
      go_ret
      exact ⟨k9, O9.out⟩
    by_cases c2 : s1.head? = some 43
    · obtain ⟨r, rfl⟩ : ∃ r, s1 = 43 :: r := by
        cases s1 with
        | nil => cases c2
        | cons x r => injection c2 with c2; exact ⟨r, by rw [c2]⟩
      go_wp2_with fail
      refine (Hno.out 42 (by simp)).mono ?_
      rintro e w3 ⟨rfl, hw⟩
      obtain rfl : w2 = w3 := hw.symm
      go_wp2_with fail
      refine (vNext_yes 43 g w2 r _ _ _ H2.out).mono ?_
      rintro e w3 ⟨rfl, h3, k3⟩
      have hv := HR.out _ w3 r 1 none 1 (-1) rfl rfl h3 (fun k hk => hk.imp id fun h => ⟨h.1, by have := k3.keep.size; omega⟩) (K2.out.trans k3) (by rw [HE2.out]; rfl)
      have HV := Lib.hid hv
      clear hv
      go_wp2_with fail
      refine HV.out.mono ?_
      rintro e w9 ⟨x, rfl, k9, o9⟩
      have O9 := Lib.hid o9
      clear o9
      go_wp2
      go_ret
      exact ⟨k9, O9.out⟩
    by_cases c3 : s1.head? = some 63
    · obtain ⟨r, rfl⟩ : ∃ r, s1 = 63 :: r := by
        cases s1 with
        | nil => cases c3
        | cons x r => injection c3 with c3; exact ⟨r, by rw [c3]⟩
      go_wp2_with fail
      refine (Hno.out 42 (by simp)).mono ?_
      rintro e w3 ⟨rfl, hw⟩
      obtain rfl : w2 = w3 := hw.symm
      go_wp2_with fail
      refine (Hno.out 43 (by simp)).mono ?_
      rintro e w3 ⟨rfl, hw⟩
      obtain rfl : w2 = w3 := hw.symm
      go_wp2_with fail
      refine (vNext_yes 63 g w2 r _ _ _ H2.out).mono ?_
      rintro e w3 ⟨rfl, h3, k3⟩
      have hv := HR.out _ w3 r 0 (some 1) 0 1 rfl rfl h3 (fun k hk => hk.imp id fun h => ⟨h.1, by have := k3.keep.size; omega⟩) (K2.out.trans k3) (by rw [HE2.out]; rfl)
      have HV := Lib.hid hv
      clear hv
      go_wp2_with fail
      refine HV.out.mono ?_
      rintro e w9 ⟨x, rfl, k9, o9⟩
      have O9 := Lib.hid o9
      clear o9
      go_wp2
      go_ret
      exact ⟨k9, O9.out⟩
    by_cases c4 : s1.head? = some 123
    · obtain ⟨r, rfl⟩ : ∃ r, s1 = 123 :: r := by
        cases s1 with
        | nil => cases c4
        | cons x r => injection c4 with c4; exact ⟨r, by rw [c4]⟩
      go_wp2_with fail
      refine (Hno.out 42 (by simp)).mono ?_
      rintro e w3 ⟨rfl, hw⟩
      obtain rfl : w2 = w3 := hw.symm
      go_wp2_with fail
      refine (Hno.out 43 (by simp)).mono ?_
      rintro e w3 ⟨rfl, hw⟩
      obtain rfl : w2 = w3 := hw.symm
      go_wp2_with fail
      refine (Hno.out 63 (by simp)).mono ?_
      rintro e w3 ⟨rfl, hw⟩
      obtain rfl : w2 = w3 := hw.symm
      go_wp2_with fail
      refine (vNext_yes 123 g w2 r _ _ _ H2.out).mono ?_
      rintro e w3 ⟨rfl, h3, k3⟩
      have k3' := K2.out.trans k3
      have hq : OUT = (quantR t (123 :: r)).map fun p => (p.1, p.2, d) := HE2.out
      have HQ := Lib.hid hq
      clear hq c1 c2 c3
      go_wp2_with fail
      refine (vDigit g w3 r _ _ _ h3).mono ?_
      rintro e w4 ⟨k4, o4⟩
      have k4' := k3'.trans k4
      cases hd1 : digR r with
      | none =>
        rw [hd1] at o4
        obtain rfl : e = faulted := o4
        exact ⟨rfl, k4', by rw [HQ.out, quantR, if_neg (by decide), if_neg (by decide), if_neg (by decide), if_pos rfl, hd1]; exact rfl⟩
      | some q1 =>
        obtain ⟨lo, s2⟩ := q1
        rw [hd1] at o4
        obtain ⟨rfl, h4⟩ := o4
        have hlo := (digR_len hd1).2
        have hv := vNext_any 44 g w4 s2 _ _ _ h4
        have hq2 : OUT = (if s2.head? = some 44 then match digR s2.tail with | none => none | some (hi, s3) => if lo ≤ hi ∧ s3.head? = some 125 then some (Re.rep t lo (some hi), s3.tail) else none else if s2.head? = some 125 then some (Re.rep t lo (some lo), s2.tail) else none).map fun p => (p.1, p.2, d) := by
          rw [HQ.out, quantR, if_neg (by decide), if_neg (by decide), if_neg (by decide), if_pos rfl, hd1]
          dsimp only
          by_cases hc : s2.head? = some 44
          · rw [if_pos hc, if_pos hc]; cases digR s2.tail <;> rfl
          · rw [if_neg hc, if_neg hc]
        have HQ2 := Lib.hid hq2
        clear hq2 hd1 HQ h4 h3
        by_cases hc : s2.head? = some 44
        · rw [if_pos hc, decide_eq_true hc] at hv
          have Hc := Lib.hid hc; clear hc
          go_wp2_with fail
          refine hv.mono ?_
          clear hv
          rintro e w5 ⟨rfl, h5, k5⟩
          go_wp2_with fail
          refine (vDigit g w5 s2.tail _ _ _ h5).mono ?_
          rintro e w6 ⟨k6, o6⟩
          have k6' := k4'.trans (k5.trans k6)
          cases hd2 : digR s2.tail with
          | none =>
            rw [hd2] at o6
            obtain rfl : e = faulted := o6
            exact ⟨rfl, k6', by rw [HQ2.out, if_pos Hc.out, hd2]; exact rfl⟩
          | some q2 =>
            obtain ⟨hi, s3⟩ := q2
            rw [hd2] at o6
            obtain ⟨rfl, h6⟩ := o6
            have hq3 : OUT = (if lo ≤ hi ∧ s3.head? = some 125 then some (Re.rep t lo (some hi), s3.tail) else none).map fun p => (p.1, p.2, d) := by
              rw [HQ2.out, if_pos Hc.out, hd2]
            have HQ3 := Lib.hid hq3
            clear hq3 hd2 h5
            by_cases hle : lo ≤ hi
            · have z1 : (lo : Int) ≤ (hi : Int) := by omega
              have z1' : decide ((lo : Int) ≤ (hi : Int)) = true := decide_eq_true z1
              have hv := vNext_any 125 g w6 s3 _ _ _ h6
              by_cases h7 : s3.head? = some 125
              · rw [if_pos h7, decide_eq_true h7] at hv
                have HO : Hid (OUT = some (.rep t lo (some hi), s3.tail, d)) := Lib.hid (by rw [HQ3.out, if_pos ⟨hle, h7⟩]; rfl)
                clear h7
                go_wp2_with fail
                refine hv.mono ?_
                clear hv
                rintro e w7 ⟨rfl, h7, k7⟩
                go_wp2_with fail
                refine (vMust_t _ rfl _).mono ?_
                rintro e w8 ⟨rfl, hw⟩
                obtain rfl : w7 = w8 := hw.symm
                have k7' := k6'.trans k7
                have s7 := (k3.trans (k4.trans (k5.trans (k6.trans k7)))).keep.size
                have hv := HR.out _ w7 s3.tail lo (some hi) lo hi rfl rfl h7 (fun k hk => hk.imp id fun h => ⟨h.1, by omega⟩) k7' HO.out
                have HV := Lib.hid hv
                clear hv
                go_wp2_with fail
                refine HV.out.mono ?_
                rintro e w9 ⟨x, rfl, k9, o9⟩
                have O9 := Lib.hid o9
                clear o9
                go_wp2
                go_ret
                exact ⟨k9, O9.out⟩
              · rw [if_neg h7, decide_eq_false h7] at hv
                have HO : Hid (OUT = none) := Lib.hid (by rw [HQ3.out, if_neg (fun h => h7 h.2)]; rfl)
                clear h7
                go_wp2_with fail
                refine hv.mono ?_
                clear hv
                rintro e w7 ⟨rfl, h7, k7⟩
                go_wp2_with fail
                refine (vMust_f _ rfl _).mono ?_
                rintro e w8 ⟨rfl, hw⟩
                obtain rfl : w7 = w8 := hw.symm
                exact ⟨rfl, k6'.trans k7, by rw [HO.out]; exact rfl⟩
            · have z1 : ¬ (lo : Int) ≤ (hi : Int) := by omega
              have z1' : decide ((lo : Int) ≤ (hi : Int)) = false := decide_eq_false z1
              have HO : Hid (OUT = none) := Lib.hid (by rw [HQ3.out, if_neg (fun h => hle h.1)]; rfl)
              go_wp2_with fail
              refine (vMust_f _ rfl _).mono ?_
              rintro e w8 ⟨rfl, hw⟩
              obtain rfl : w6 = w8 := hw.symm
              exact ⟨rfl, k6', by rw [HO.out]; exact rfl⟩
        · rw [if_neg hc, decide_eq_false hc] at hv
          have Hc := Lib.hid hc; clear hc
          go_wp2_with fail
          refine hv.mono ?_
          clear hv
          rintro e w6 ⟨rfl, h6, k6⟩
          have k6' := k4'.trans k6
          have z1 : (lo : Int) ≤ (lo : Int) := by omega
          have hv := vNext_any 125 g w6 s2 _ _ _ h6
          by_cases h7 : s2.head? = some 125
          · rw [if_pos h7, decide_eq_true h7] at hv
            have HO : Hid (OUT = some (.rep t lo (some lo), s2.tail, d)) := Lib.hid (by rw [HQ2.out, if_neg Hc.out, if_pos h7]; rfl)
            clear h7
            go_wp2_with fail
            refine hv.mono ?_
            clear hv
            rintro e w7 ⟨rfl, h7, k7⟩
            go_wp2_with fail
            refine (vMust_t _ rfl _).mono ?_
            rintro e w8 ⟨rfl, hw⟩
            obtain rfl : w7 = w8 := hw.symm
            have k7' := k6'.trans k7
            have s7 := (k3.trans (k4.trans (k6.trans k7))).keep.size
            have hv := HR.out _ w7 s2.tail lo (some lo) lo lo rfl rfl h7 (fun k hk => hk.imp id fun h => ⟨h.1, by omega⟩) k7' HO.out
            have HV := Lib.hid hv
            clear hv
            go_wp2_with fail
            refine HV.out.mono ?_
            rintro e w9 ⟨x, rfl, k9, o9⟩
            have O9 := Lib.hid o9
            clear o9
            go_wp2
            go_ret
            exact ⟨k9, O9.out⟩
          · rw [if_neg h7, decide_eq_false h7] at hv
            have HO : Hid (OUT = none) := Lib.hid (by rw [HQ2.out, if_neg Hc.out, if_neg h7]; rfl)
            clear h7
            go_wp2_with fail
            refine hv.mono ?_
            clear hv
            rintro e w7 ⟨rfl, h7, k7⟩
            go_wp2_with fail
            refine (vMust_f _ rfl _).mono ?_
            rintro e w8 ⟨rfl, hw⟩
            obtain rfl : w7 = w8 := hw.symm
            exact ⟨rfl, k6'.trans k7, by rw [HO.out]; exact rfl⟩
    have hq : OUT = some (t, s1, d) := by
      rw [HE2.out]
      cases s1 with
      | nil => rfl
      | cons x r =>
        have e1 : x ≠ 42 := fun e => c1 (by rw [e]; rfl)
        have e2 : x ≠ 43 := fun e => c2 (by rw [e]; rfl)
        have e3 : x ≠ 63 := fun e => c3 (by rw [e]; rfl)
        have e4 : x ≠ 123 := fun e => c4 (by rw [e]; rfl)
        rw [quantR, if_neg e1, if_neg e2, if_neg e3, if_neg e4]
        rfl
    have n1 := Hno.out 42 c1
    have n2 := Hno.out 43 c2
    have n3 := Hno.out 63 c3
    have n4 := Hno.out 123 c4
    have N1 := Lib.hid n1; have N2 := Lib.hid n2; have N3 := Lib.hid n3; have N4 := Lib.hid n4; have HQ := Lib.hid hq
    clear n1 n2 n3 n4 hq c1 c2 c3 c4
    go_wp2_with fail
    refine N1.out.mono ?_
    rintro e w3 ⟨rfl, hw⟩
    obtain rfl : w2 = w3 := hw.symm
    go_wp2_with fail
    refine N2.out.mono ?_
    rintro e w3 ⟨rfl, hw⟩
    obtain rfl : w2 = w3 := hw.symm
    go_wp2_with fail
    refine N3.out.mono ?_
    rintro e w3 ⟨rfl, hw⟩
    obtain rfl : w2 = w3 := hw.symm
    go_wp2_with fail
    refine N4.out.mono ?_
    rintro e w3 ⟨rfl, hw⟩
    obtain rfl : w2 = w3 := hw.symm
    go_wp2
    go_ret
    refine ⟨K2.out, ?_⟩
    rw [HQ.out]
    refine ⟨congrArg (fun x : Nat => Ending.returned (.int .i64 (x : Int))) Hkv.out.symm, ?_⟩
    rw [Hmo.out]
    exact H2.out
end Go.Proofs.YtecejnilajbdpaaGreatDoor

