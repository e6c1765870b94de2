import Derived.Test.YtkojmgnbmnjmmaaDoorNl33
/-! rexp: alt; all of it by recursion -/
namespace Go.Proofs.YtkojmgnbmnjmmaaDoor
open Go.RowKit Garner
theorem kids_keep {F : Nat → Prop} {w wr w3 : World} {g : Nat} {ns : List NodeP} {deep most B : Nat} {v : Value} {ts : List Re} {s s' : List Nat} {d : Nat} {G : Nat → Prop} (hI : KidsI F w g ns deep most B v wr ts s d G) (h3 : PS G w3 g s' (ns ++ flats ns.length ts) deep (max most (deep + d))) (k3 : PK g wr w3) (hs : s'.length ≤ s.length) :
    KidsI F w g ns deep most B v w3 ts s' d G := by
  have := k3.keep.size
  have := hI.pk.keep.size
  refine ⟨k3.keep.own hI.own (by decide), h3, fun k hk => ?_, hI.gv, hI.pk.trans k3, by have := hI.cnt; omega, by have := hI.dl; omega⟩
  rcases hI.gF k hk with h | h
  · exact .inl h
  · exact .inr ⟨h.1, by omega⟩
theorem own_lit (w : World) (B : Nat) (e : TypeId) (x : Value) (hB : B ≤ w.heap.size) : (w.alloc (.cells #[x] e)).ownsRow B e 1 (.slice (some ⟨w.heap.size, 0, none⟩) 1 1) 1 [x] :=
  ⟨rfl, .inr ⟨w.heap.size, 1, #[x], rfl, hB, heap_alloc_new w _, Nat.le_refl _, by unfold maxLen; omega, rfl, rfl⟩⟩
set_option maxRecDepth 100000 in
set_option maxHeartbeats 16000000 in
theorem vAlt (L : Nat) (hT : RowC L) : AltC L := by
  intro F g w rs ns deep most hL h hns hdp
  have hgw := h.lt
  have HF := Lib.hid h.hF
  have hlb := h.lb
  have h1 := hT F g w rs ns deep most hL h hns hdp
  obtain ⟨ANS, hANS⟩ : ∃ ANS, altF rs = ANS := ⟨_, rfl⟩
  have hA := altF_eq rs
  rw [hANS] at hA ⊢
  obtain ⟨N, hN⟩ : ∃ N, rs.length = N := ⟨_, rfl⟩
  rw [hN] at hL hns hdp hlb
  have HN := Lib.hid hN; have HA := Lib.hid hA; have H1 := Lib.hid h1
  clear hN hANS hA h1
  go_enter Tryd.func36, Tryd.ntmps36
  go_wp2_with fail
  refine H1.out.mono ?_
  rintro e w2 ⟨k2, o2⟩
  have s2 := k2.keep.size
  have hA := HA.out
  cases hr : rowF rs with
  | none =>
    rw [hr] at o2 hA
    obtain rfl : e = faulted := o2
    exact ⟨rfl, k2, by rw [hA]; exact rfl⟩
  | some q =>
    obtain ⟨ts0, s1, d0⟩ := q
    rw [hr] at o2 hA
    obtain ⟨rfl, h2⟩ := o2
    dsimp only at hA h2
    have hcn := (rowF_cnt hr).1
    have hro := rowOf_cnt ts0
    have hll := rowF_len hr
    obtain ⟨kid, hkid⟩ : ∃ kid, ns.length + (rowOf ts0).cnt - 1 = kid := ⟨_, rfl⟩
    rw [hkid]
    have hb : Below w2.heap.size w2 (w2.alloc (.cells #[iv kid] 3)) := (Below.refl _ _).alloc (Nat.le_refl _) _
    have hsz : (w2.alloc (.cells #[iv kid] 3)).heap.size = w2.heap.size + 1 := by simp
    have hI0 : KidsI F w g ns deep most (ns.length + 4 * N + 1) (.slice (some ⟨w2.heap.size, 0, none⟩) 1 1) (w2.alloc (.cells #[iv kid] 3)) [rowOf ts0] s1 d0 (Ext F w w2) :=
      ⟨by rw [roots_one, hkid]; exact own_lit w2 _ _ _ s2, by rw [flats_one]; exact h2.below hb, fun k hk => hk.imp id fun h => ⟨h.1, by omega⟩, fun k hk hE => (by
        have hk : w2.heap.size = k := by simpa [Value.ownBlock] using hk
        have := Ext.lt HF.out s2 k hE
        omega), k2.trans (.of_below hb (Nat.le_of_lt h2.lt)), by rw [HN.out] at hcn; simp only [cnts]; omega, by rw [HN.out] at hll; simp; omega⟩
    have hI0l : s1.length ≤ N := by rw [← HN.out]; exact hll
    have hans0 : (if s1.head? = some 124 then (altF s1.tail).map (fun p => ([rowOf ts0] ++ p.1, p.2.1, max d0 p.2.2)) else some ([rowOf ts0], s1, d0)) = ANS := by
      rw [hA]
      split
      · cases altF s1.tail <;> rfl
      · rfl
    have HI0 := Lib.hid hI0; have HA0 := Lib.hid hans0
    clear hI0 hans0 hA hr h2 hkid hb hsz hcn hro hll k2 s2
    go_wp2
    go_loopw [3] (fun v wr => ∃ (ts : List Re) (s : List Nat) (d : Nat) (G : Nat → Prop), KidsI F w g ns deep most (ns.length + 4 * N + 1) v wr ts s d G ∧ Hid ((if s.head? = some 124 then (altF s.tail).map (fun p => (ts ++ p.1, p.2.1, max d p.2.2)) else some (ts, s, d)) = ANS) ∧ s.length ≤ N) (fun _ wr => psLen g wr)
    case atStart => exact ⟨[rowOf ts0], s1, d0, _, HI0.out, HA0, hI0l⟩
    case round =>
      obtain ⟨ts, s, d, G, hI, hans, hsN⟩ := hrel
      obtain ⟨wo, rfl⟩ : ∃ wo : World, wo = wr := ⟨_, rfl⟩
      obtain ⟨A3, c3, rfl, hc3⟩ := own_form hI.own
      have hlS := hI.ps.psLen
      have HlS := Lib.hid hlS; clear hlS
      have hv := vNext_any 124 g wo s _ _ _ hI.ps
      have HI := Lib.hid hI
      have hcnt := hI.cnt
      have hdl := hI.dl
      clear hI
      by_cases hc : s.head? = some 124
      · have hans1 := hans.out
        rw [if_pos hc] at hans1
        rw [if_pos hc, decide_eq_true hc] at hv
        have htl := tail_lt hc
        have Ha := Lib.hid hans1
        clear hans1 hans hc
        go_wp2_with fail
        refine hv.mono ?_
        clear hv
        rintro e w3 ⟨rfl, h3, k3⟩
        have hI3 := kids_keep HI.out h3 k3 (by omega)
        have hrow := hT G g w3 s.tail (ns ++ flats ns.length ts) deep (max most (deep + d)) (by omega) h3 (by rw [List.length_append, flats_len]; omega) (by omega)
        have HI3 := Lib.hid hI3; have Hrow := Lib.hid hrow
        have hown := hI3.own
        have s3 := hI3.pk.keep.size
        clear hI3 hrow h3 k3
        go_wp2_with fail
        refine Hrow.out.mono ?_
        rintro e w4 ⟨k4, o4⟩
        have ha := Ha.out
        rw [altF_eq] at ha
        cases hr : rowF s.tail with
        | none =>
          rw [hr] at o4 ha
          obtain rfl : e = faulted := o4
          exact ⟨rfl, HI3.out.pk.trans k4, by rw [← ha]; exact rfl⟩
        | some q =>
          obtain ⟨ts1, s1', d1⟩ := q
          rw [hr] at o4 ha
          obtain ⟨rfl, h4⟩ := o4
          dsimp only at ha h4
          have hcn := (rowF_cnt hr).1
          have hro := rowOf_cnt ts1
          have hll := rowF_len hr
          obtain ⟨kid, hkid⟩ : ∃ kid, (ns ++ flats ns.length ts).length + (rowOf ts1).cnt - 1 = kid := ⟨_, rfl⟩
          rw [hkid]
          have Hk := Lib.hid hkid
          have own4 : w4.ownsRow w.heap.size 3 1 (.slice A3 ts.length c3) ts.length ((roots ns.length ts).map iv) := k4.keep.own hown (by decide)
          have s4 := k4.keep.size
          have Hha := Lib.hid ha; have H4 := Lib.hid h4; have K4 := Lib.hid k4
          clear ha h4 k4 hr hown hkid
          go_wp2_with (at_builtin; refine wpList_app _ rfl intE rfl rfl (own4.alloc _) rfl (row_new w4 _ [_]) (by simp [Value.oneCell']) (by first | omega | (simp; omega)) (by simp; omega) ?_; intro v8 w8 own8 hg8 hb8 hx8)
          obtain ⟨e1, e2⟩ := kids_next (t := rowOf ts1) (kid := kid) HI3.out hgw H4.out K4.out Hk.out.symm own8 hg8 hx8 (by omega) (by omega)
          refine ⟨⟨ts ++ [rowOf ts1], s1', _, _, e1, Lib.hid ?_, by omega⟩, by rw [e2, HlS.out]; omega⟩
          rw [← Hha.out]
          split
          · cases altF s1'.tail with
            | none => rfl
            | some p => simp [Nat.max_assoc]
          · rfl
      · have hans1 := hans.out
        rw [if_neg hc] at hans1
        rw [if_neg hc, decide_eq_false hc] at hv
        have Ha := Lib.hid hans1
        clear hans1 hans hc
        go_wp2_with fail
        refine hv.mono ?_
        clear hv
        rintro e w3 ⟨rfl, h3, k3⟩
        have hI3 := kids_keep HI.out h3 k3 (Nat.le_refl _)
        have hm := vManyT 4 .alt (fun _ _ => rfl) (fun _ => rfl) hI3 HF.out (by omega)
        have Hm := Lib.hid hm
        obtain ⟨m, hm1⟩ : ∃ m, ts.length = m := ⟨_, rfl⟩
        rw [hm1] at Hm ⊢
        clear hm hI3 h3 k3 hm1
        go_wp2_with fail
        refine Hm.out.mono ?_
        rintro e w4 ⟨k4, o4⟩
        obtain ⟨rfl, h4⟩ := o4
        have H4 := Lib.hid h4
        clear h4
        go_wp2
        go_ret
        refine ⟨k4, ?_⟩
        rw [← Ha.out]
        exact ⟨rfl, H4.out⟩
theorem allC : ∀ L : Nat, AltC L
  | 0 => vAlt 0 (vRow 0 (vItem 0 (vAtom 0 fun K hK => absurd hK (Nat.not_lt_zero K))))
  | L + 1 => vAlt (L + 1) (vRow (L + 1) (vItem (L + 1) (vAtom (L + 1) fun K hK F g w rs ns deep most hL => allC L F g w rs ns deep most (by omega))))
end Go.Proofs.YtkojmgnbmnjmmaaDoor
