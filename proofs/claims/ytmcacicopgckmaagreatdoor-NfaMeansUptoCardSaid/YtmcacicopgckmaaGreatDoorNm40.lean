import Derived.Test.YtmcacicopgckmaaGreatDoorNm39
/-! garnerref18: alt; all of it by recursion -/
namespace Go.Proofs.YtmcacicopgckmaaGreatDoor
open Go.RowKit Garner
def boolN : Value → Nat
  | .bool true => 1
  | _ => 0
set_option maxRecDepth 100000 in
set_option maxHeartbeats 16000000 in
theorem qAlt (L : Nat) (hT : QRowC L) : QAltC L := by
  intro F g N w rs ns deep most hL h hns hdp
  have hgw := h.lt
  have HF := Lib.hid h.hF
  have hlb := h.lb
  have hlen := h.len
  have hdm := h.dm
  obtain ⟨ANS, hANS⟩ : ∃ ANS, altF rs = ANS := ⟨_, rfl⟩
  rw [hANS]
  obtain ⟨M, hN⟩ : ∃ M, rs.length = M := ⟨_, rfl⟩
  rw [hN] at hL hns hdp hlen ⊢
  obtain ⟨KK, hKK⟩ : ∃ KK, 4 * M + 4 = KK := ⟨_, rfl⟩
  have hK1 : 4 * M + 4 ≤ KK := by omega
  rw [hKK]
  obtain ⟨OUT, hOUT⟩ : ∃ OUT, ANS.map (fun p => (manyR .alt p.1, p.2.1, p.2.2)) = OUT := ⟨_, rfl⟩
  rw [hOUT]
  have HN := Lib.hid hN; have HA := Lib.hid hANS; have HO := Lib.hid hOUT; have H := Lib.hid h
  clear hN hANS hKK hOUT h
  go_enter Tryz.func41, Tryz.ntmps41
  go_wp2
  go_loopw [3, 4] (fun v b wr => (∃ (ts : List Re) (s : List Nat) (d : Nat) (G : Nat → Prop), KidsQ F w g N ns deep most (ns.length + 4 * M + 1) v wr ts s d G ∧ s.length ≤ M ∧ ((b = .bool true ∧ Hid ((altF s).map (fun p => (ts ++ p.1, p.2.1, max d p.2.2)) = ANS) ∧ cnts ts + 4 * s.length ≤ 4 * M ∧ ts.length + s.length ≤ M) ∨ (b = .bool false ∧ ts ≠ [] ∧ Hid (ANS = some (ts, s, d))))) ∨ ∃ (n : Nat) (xs : List Int), KidsX w g n v wr xs ∧ n ≤ ns.length + 4 * M + 3 ∧ b = .bool false ∧ Hid (ANS = none)) (fun _ b wr => qLen N g wr + boolN b)
  case atStart =>
    refine .inl ⟨[], rs, 0, F, ⟨World.ownsRow_nil _ _ _ _, ?_, fun k hk => .inl hk, fun k hk => (by cases hk), .refl _ _, by rw [HN.out]; simp [cnts], by rw [HN.out]; simp; omega⟩, by rw [HN.out]; exact Nat.le_refl _, .inl ⟨rfl, Lib.hid ?_, by rw [HN.out]; simp [cnts], by rw [HN.out]; simp⟩⟩
    · rw [show max most (deep + 0) = most by omega]
      simpa [flats] using H.out
    · rw [HA.out]
      cases ANS with
      | none => rfl
      | some p => simp
  case round =>
    obtain ⟨wo, rfl⟩ : ∃ wo : World, wo = wr := ⟨_, rfl⟩
    rcases hrel with ⟨ts, s, d, G, hI, hsM, ⟨rfl, hans, hcn0, htl⟩ | ⟨rfl, hne, hans⟩⟩ | ⟨n, xs, hX, hn, rfl, hno⟩
    · obtain ⟨A3, c3, rfl, hc3⟩ := own_form hI.own
      have hlS := hI.ps.qLen
      have ha := hans.out
      rw [altF_eq] at ha
      have hi := hT G g N wo s (ns ++ flats ns.length ts) deep (max most (deep + d)) (by omega) hI.ps (by rw [List.length_append, flats_len]; omega) (by omega)
      have HlS := Lib.hid hlS; have HI := Lib.hid hI; have Ha := Lib.hid ha; have Hi := Lib.hid hi
      obtain ⟨c5, f5⟩ := hI.ps.cell5
      have hown := hI.own
      have hsz := hI.pk.keep.size
      clear hI hans hlS ha hi
      go_wp2_with fail
      refine Hi.out.mono ?_
      rintro e w4 ⟨k4, o4⟩
      have s4 := k4.keep.size
      have own4 : w4.ownsRow w.heap.size 3 1 (.slice A3 ts.length c3) ts.length ((roots ns.length ts).map iv) := k4.keep.own hown (by decide)
      have ha := Ha.out
      cases hit : rowF s with
      | none =>
        rw [hit] at o4 ha
        obtain ⟨x, n, rfl, hx4, hxn⟩ := o4
        have hno : ANS = none := ha.symm
        rw [List.length_append, flats_len] at hxn
        have HX4 := Lib.hid hx4; have K4 := Lib.hid k4; have HNO := Lib.hid hno
        clear ha hit hx4 k4 hno hown
        go_upto_region 4 with (at_builtin; refine wpList_app _ rfl intE rfl rfl (own4.alloc _) rfl (row_new w4 _ [_]) (by simp [Value.oneCell']) (by first | omega | (simp; omega)) (by simp; omega) ?_; intro v8 w8 own8 hg8 hb8 hx8)
        obtain ⟨e1, e2⟩ := kidsQ_bad x HI.out hgw HX4.out K4.out own8 hg8
        have E1 := Lib.hid e1
        clear e1 e2 own8 hg8 hb8 hx8 own4
        go_wp2_with fail
        refine (xIs 124 g n w8 E1.out.qx).mono ?_
        rintro e w9 ⟨rfl, hb9⟩
        have hx9 := E1.out.qx.below hb9
        have e3 : KidsX w g n v8 w9 ((roots ns.length ts).map (fun k : Nat => (k : Int)) ++ [x]) := ⟨own_below E1.out.own hb9, hx9, E1.out.pk.trans (.of_below hb9 (Nat.le_of_lt E1.out.qx.lt)), E1.out.ne⟩
        have l9 := hx9.qLen (N := N)
        have HE3 := Lib.hid e3; have HL9 := Lib.hid l9
        clear e3 l9 hx9
        go_wp2
        go_roundw
        case rel => exact .inr ⟨n, _, HE3.out, by omega, rfl, HNO⟩
        case measure => simp [boolN]; rw [HL9.out, HlS.out]; omega
      | some q =>
        obtain ⟨ts1, s1, d1⟩ := q
        rw [hit] at o4 ha
        obtain ⟨rfl, h4⟩ := o4
        dsimp only at ha h4
        have hcn := (rowF_cnt hit).1
        have hro := rowOf_cnt ts1
        have hll := rowF_len hit
        obtain ⟨kid, hkid⟩ : ∃ kid, (ns ++ flats ns.length ts).length + (rowOf ts1).cnt - 1 = kid := ⟨_, rfl⟩
        rw [hkid]
        have Hk := Lib.hid hkid; have Ha2 := Lib.hid ha; have H4 := Lib.hid h4; have K4 := Lib.hid k4
        clear ha h4 k4 hit hown hkid
        go_upto_region 4 with (at_builtin; refine wpList_app _ rfl intE rfl rfl (own4.alloc _) rfl (row_new w4 _ [_]) (by simp [Value.oneCell']) (by first | omega | (simp; omega)) (by simp; omega) ?_; intro v8 w8 own8 hg8 hb8 hx8)
        obtain ⟨e1, e2⟩ := kidsQ_next (t := rowOf ts1) (kid := kid) HI.out hgw H4.out K4.out Hk.out.symm own8 hg8 hx8 (by omega) (by omega)
        have hv := qIs_any 124 g N w8 s1 _ _ _ e1.ps
        have E1 := Lib.hid e1
        clear e1 e2 own8 hg8 hb8 hx8 own4
        by_cases hc : s1.head? = some 124
        · rw [if_pos hc, decide_eq_true hc] at hv
          have htl2 := tail_lt hc
          have hans2 : (altF s1.tail).map (fun p => ((ts ++ [rowOf ts1]) ++ p.1, p.2.1, max (max d d1) p.2.2)) = ANS := by
            rw [← Ha2.out, if_pos hc]
            cases altF s1.tail with
            | none => rfl
            | some p => simp [Nat.max_assoc]
          have HV := Lib.hid hv; have HA2 := Lib.hid hans2
          clear hv hans2 hc
          go_wp2_with fail
          refine HV.out.mono ?_
          rintro e w9 ⟨rfl, h9, k9⟩
          have e3 := kidsQ_keep E1.out h9 k9 (by omega)
          have l9 := h9.qLen
          have HE3 := Lib.hid e3; have HL9 := Lib.hid l9
          clear e3 l9 h9 k9
          go_wp2
          go_roundw
          case rel => exact .inl ⟨ts ++ [rowOf ts1], s1.tail, _, _, HE3.out, by omega, .inl ⟨rfl, HA2, by rw [cnts_app]; simp only [cnts]; omega, by rw [List.length_append]; show ts.length + 1 + _ ≤ _; omega⟩⟩
          case measure => simp [boolN]; rw [HL9.out, HlS.out]; omega
        · rw [if_neg hc, decide_eq_false hc] at hv
          have hans2 : ANS = some (ts ++ [rowOf ts1], s1, max d d1) := by rw [← Ha2.out, if_neg hc]; rfl
          have HV := Lib.hid hv; have HA2 := Lib.hid hans2
          clear hv hans2 hc
          go_wp2_with fail
          refine HV.out.mono ?_
          rintro e w9 ⟨rfl, h9, k9⟩
          have e3 := kidsQ_keep E1.out h9 k9 (Nat.le_refl _)
          have l9 := h9.qLen
          have HE3 := Lib.hid e3; have HL9 := Lib.hid l9
          clear e3 l9 h9 k9
          go_wp2
          go_roundw
          case rel => exact .inl ⟨ts ++ [rowOf ts1], s1, _, _, HE3.out, by omega, .inr ⟨rfl, by simp, HA2⟩⟩
          case measure => simp [boolN]; rw [HL9.out, HlS.out]; omega
    · obtain ⟨A3, c3, rfl, hc3⟩ := own_form hI.own
      have hout : OUT = some (manyR .alt ts, s, d) := by rw [← HO.out, hans.out]; rfl
      clear hans
      match ts, hne, hI, hout with
      | [t], _, hI2, hout =>
        have hv := qKidsOne KK hI2 HF.out
        have ho2 : OUT = some (t, s, d) := hout
        rw [← ho2] at hv
        obtain ⟨g3, rfl, hg3a, hg3b, -, -, hc0⟩ := own_at hI2.own (by simp)
        have c0 : wo.cell? ⟨g3, 0, none⟩ = some (.int .i64 ((ns.length + t.cnt - 1 : Nat) : Int)) := by
          rw [hc0 0 (by simp), roots_one]; rfl
        obtain ⟨kv, hkv⟩ : ∃ kv, ns.length + t.cnt - 1 = kv := ⟨_, rfl⟩
        rw [hkv] at hv c0
        have HV := Lib.hid hv
        clear hv ho2 hout hI2 hc0 hkv
        go_wp2
        go_ret
        exact ⟨HV.out.1, HV.out.2⟩
      | t :: u :: r, _, hI2, hout =>
        obtain ⟨m, hm⟩ : ∃ m, (t :: u :: r).length = m := ⟨_, rfl⟩
        have hm2 : 2 ≤ m := by rw [← hm]; simp
        have z7 : ((m : Int) == 1) = false := by simp; omega
        rw [hm] at hI2 ⊢
        have hv := qKidsNode KK 4 .alt (fun _ _ => rfl) (fun _ => rfl) hm.symm hI2 HF.out (by omega)
        have ho2 : OUT = some (.alt (t :: u :: r), s, d) := hout
        rw [← ho2] at hv
        have HV := Lib.hid hv
        clear hv ho2 hout hI2 hm
        go_wp2_with fail
        refine HV.out.mono ?_
        rintro e w9 ⟨x9, rfl, k9, o9⟩
        have O9 := Lib.hid o9
        clear o9
        go_wp2
        go_ret
        exact ⟨k9, O9.out⟩
    · have hout : OUT = none := by rw [← HO.out, hno.out]; rfl
      have HOU := Lib.hid hout
      obtain ⟨A3, c3, rfl, -⟩ := own_form hX.own
      have hq2 := hX.qx
      have own2 := hX.own
      have kq2 := hX.pk
      have hne := hX.ne
      obtain ⟨g3, hg3, -, -, -, -, -⟩ := own_at own2 (List.length_pos_iff.2 hne)
      subst hg3
      clear hX hout hno
      match xs, hne, own2 with
      | [x], _, own2 =>
        obtain ⟨g4, hg4, -, -, -, -, hc0⟩ := own_at own2 (by simp)
        cases hg4
        have c0 : wo.cell? ⟨g3, 0, none⟩ = some (.int .i64 x) := by rw [hc0 0 (by simp)]; rfl
        have HQ2 := Lib.hid hq2; have KQ2 := Lib.hid kq2
        clear hq2 kq2 own2 hc0
        go_wp2
        go_ret
        exact ⟨KQ2.out, by rw [HOU.out]; exact ⟨x, n, rfl, HQ2.out, by omega⟩⟩
      | x :: y :: r, _, own2 =>
        obtain ⟨m, hm⟩ : ∃ m, (x :: y :: r).length = m := ⟨_, rfl⟩
        have hm2 : 2 ≤ m := by rw [← hm]; simp
        have z7 : ((m : Int) == 1) = false := by simp; omega
        have hv := xNode 4 0 0 (some ⟨g3, 0, none⟩) m c3 none 0 0 g n wo hq2 (by omega)
        have HV := Lib.hid hv; have KQ2 := Lib.hid kq2
        rw [hm]
        clear hv hq2 kq2 own2 hm
        go_wp2_with fail
        refine HV.out.mono ?_
        rintro e w3 ⟨rfl, h3, k3⟩
        have H3 := Lib.hid h3; have K3 := Lib.hid k3
        clear h3 k3
        go_wp2
        go_ret
        exact ⟨KQ2.out.trans K3.out, by rw [HOU.out]; exact ⟨n, n + 1, rfl, H3.out, by omega⟩⟩
theorem allQ : ∀ L : Nat, QAltC L
  | 0 => qAlt 0 (qRow 0 (qItem 0 (qAtom 0 fun K hK => absurd hK (Nat.not_lt_zero K))))
  | L + 1 => qAlt (L + 1) (qRow (L + 1) (qItem (L + 1) (qAtom (L + 1) fun K hK F g N w rs ns deep most hL => allQ L F g N w rs ns deep most (by omega))))
end Go.Proofs.YtmcacicopgckmaaGreatDoor

