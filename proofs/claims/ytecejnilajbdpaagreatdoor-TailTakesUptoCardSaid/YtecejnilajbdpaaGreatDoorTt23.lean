import Derived.Test.YtecejnilajbdpaaGreatDoorTt18
/-! rexp: atom -/
namespace Go.Proofs.YtecejnilajbdpaaGreatDoor
open Go.RowKit Garner
theorem PS.cells {F : Nat → Prop} {w : World} {g : Nat} {rs : List Nat} {ns : List NodeP} {deep most : Nat} (h : PS F w g rs ns deep most) : w.cell? ⟨g, 2, none⟩ = some (.int .i64 (deep : Nat)) ∧ w.cell? ⟨g, 3, none⟩ = some (.int .i64 (most : Nat)) ∧ w.frozen? ⟨g, 2, none⟩ = false ∧ w.frozen? ⟨g, 3, none⟩ = false := by
  obtain ⟨A, c, O, m, hb, -⟩ := h.ex
  exact ⟨hb.cell 2, hb.cell 3, hb.frozen 2, hb.frozen 3⟩
theorem PS.drew {F : Nat → Prop} {w : World} {g : Nat} {rs : List Nat} {ns : List NodeP} {deep most : Nat} (h : PS F w g rs ns deep most) : PS F w.drew g rs ns deep most := h.below (Below.refl _ _).drew
set_option maxRecDepth 100000 in
set_option maxHeartbeats 16000000 in
theorem vAtom (L : Nat) (hA : ∀ K, K < L → AltC K) : AtomC L := by
  intro F g w rs ns deep most hL h hns hdp
  have hgw := h.lt
  have HF := Lib.hid h.hF
  have hdm := h.dm
  have hmb := h.mb
  go_enter Tryz.func172, Tryz.ntmps172
  cases rs with
  | nil =>
    go_wp2_with fail
    refine (vTake_nil g w ns deep most h).mono ?_
    rintro e w' ⟨rfl, rfl⟩
    exact ⟨rfl, .refl _ _, rfl⟩
  | cons a r =>
    have hb := h.rb a (by simp)
    have hl : r.length + 1 ≤ L := by simpa using hL
    have hns2 : ns.length + 4 * r.length ≤ 4996 := by simp at hns; omega
    have hdp2 : deep + 1 + r.length ≤ 500 := by simp at hdp; omega
    have hn9 : ns.length < 100000 := by omega
    have heq := atomF_eq a r
    obtain ⟨OUT, hOUT⟩ : ∃ OUT, atomF (a :: r) = OUT := ⟨_, rfl⟩
    rw [hOUT] at heq ⊢
    have HE := Lib.hid heq
    clear heq hOUT
    go_wp2_with fail
    refine (vTake a g w r ns deep most h).mono ?_
    rintro e w1 ⟨rfl, h1, k1⟩
    have s1 := k1.keep.size
    by_cases c1 : a = 40
    · subst c1
      have he := HE.out
      rw [if_pos rfl] at he
      have HE2 := Lib.hid he
      clear he
      obtain ⟨f2, f3, z2, z3⟩ := h1.cells
      go_upto_region 7 with fail
      obtain ⟨X, hX⟩ : ∃ X, X = w1.setCell ⟨g, 2, none⟩ (.int .i64 ((deep : Int) + 1)) := ⟨_, rfl⟩
      rw [← hX]
      have hX2 : X = w1.setCell ⟨g, 2, none⟩ (.int .i64 ((deep + 1 : Nat) : Int)) := hX
      obtain ⟨A, c, O, m, hbk, -⟩ := h1.ex
      have hb2 := hbk.set_ 2 (.int .i64 ((deep + 1 : Nat) : Int))
      rw [← hX2] at hb2
      have x2 : X.cell? ⟨g, 2, none⟩ = some (.int .i64 ((deep + 1 : Nat) : Int)) := hb2.cell 2
      have x3 : X.cell? ⟨g, 3, none⟩ = some (.int .i64 (most : Nat)) := hb2.cell 3
      have x4 : X.frozen? ⟨g, 3, none⟩ = false := hb2.frozen 3
      have sX : X.drew.cell? ⟨g, 2, none⟩ = some (.int .i64 ((deep + 1 : Nat) : Int)) ∧ X.drew.cell? ⟨g, 3, none⟩ = some (.int .i64 (most : Nat)) ∧ X.drew.frozen? ⟨g, 3, none⟩ = false := ⟨x2, x3, x4⟩
      obtain ⟨hB1, hB2⟩ := h1.setBoth (deep + 1) (max most (deep + 1)) (by omega) (by omega)
      rw [← hX2] at hB1 hB2
      have HB1 := Lib.hid hB1; have HB2 := Lib.hid hB2
      clear hX hX2 hb2 hbk hB1 hB2 f2 f3 z2 z3 x2 x3 x4
      refine wp_region_N (fun w' => w'.cell? ⟨g, 2, none⟩ = some (.int .i64 ((deep + 1 : Nat) : Int)) ∧ w'.cell? ⟨g, 3, none⟩ = some (.int .i64 (most : Nat)) ∧ w'.frozen? ⟨g, 3, none⟩ = false) 12 (by kernel_rfl) ?_
      apply wpAnyN_takeL 0 (by kernel_rfl) rfl (fun _ _ _ h => h) (by kernel_rfl) sX
      · intro w' hS'
        go_simp; exact ⟨rfl, rfl⟩
      (try simp only [Act.put]); (try simp only [List.setIfInBounds_toArray]); (try simp only [List.set])
      apply wpAnyN_takeL 1 (by kernel_rfl) rfl (fun _ _ _ h => h) (by kernel_rfl) sX
      · intro w' hS'
        go_simp; exact ⟨rfl, rfl⟩
      (try simp only [Act.put]); (try simp only [List.setIfInBounds_toArray]); (try simp only [List.set])
      apply wpAnyN_takeL 2 (by kernel_rfl) rfl (fun _ _ _ h => h) (by kernel_rfl) sX
      · intro w' hS'
        go_simp; exact ⟨rfl, rfl⟩
      (try simp only [Act.put]); (try simp only [List.setIfInBounds_toArray]); (try simp only [List.set])
      apply wpAnyN_takeL 3 (by kernel_rfl) rfl (fun _ _ _ h => h) (by kernel_rfl) sX
      · intro w' hS'
        go_simp; exact ⟨rfl, rfl⟩
      (try simp only [Act.put]); (try simp only [List.setIfInBounds_toArray]); (try simp only [List.set])
      apply wpAnyN_takeL 4 (v := (.int .i64 (most : Nat))) (by kernel_rfl) rfl (fun _ _ _ h => h) (by kernel_rfl) sX
      · intro w' hS'
        (have k1 := hS'.2.1; go_simp; exact ⟨rfl, rfl⟩)
      (try simp only [Act.put]); (try simp only [List.setIfInBounds_toArray]); (try simp only [List.set])
      apply wpAnyN_takeL 5 (by kernel_rfl) rfl (fun _ _ _ h => h) (by kernel_rfl) sX
      · intro w' hS'
        go_simp; exact ⟨rfl, rfl⟩
      (try simp only [Act.put]); (try simp only [List.setIfInBounds_toArray]); (try simp only [List.set])
      apply wpAnyN_takeL 6 (by kernel_rfl) rfl (fun _ _ _ h => h) (by kernel_rfl) sX
      · intro w' hS'
        go_simp; exact ⟨rfl, rfl⟩
      (try simp only [Act.put]); (try simp only [List.setIfInBounds_toArray]); (try simp only [List.set])
      apply wpAnyN_takeL 7 (by kernel_rfl) rfl (fun _ _ _ h => h) (by kernel_rfl) sX
      · intro w' hS'
        go_simp; exact ⟨rfl, rfl⟩
      (try simp only [Act.put]); (try simp only [List.setIfInBounds_toArray]); (try simp only [List.set])
      apply wpAnyN_takeL 8 (v := (.int .i64 ((deep + 1 : Nat) : Int))) (by kernel_rfl) rfl (fun _ _ _ h => h) (by kernel_rfl) sX
      · intro w' hS'
        (have k1 := hS'.1; go_simp; exact ⟨rfl, rfl⟩)
      (try simp only [Act.put]); (try simp only [List.setIfInBounds_toArray]); (try simp only [List.set])
      apply wpAnyN_takeL 9 (v := (.int .i64 ((max most (deep + 1) : Nat) : Int))) (by kernel_rfl) rfl (fun _ _ _ h => h) (by kernel_rfl) sX
      · intro w' hS'
        (go_simp; exact ⟨congrArg (Value.int .i64) (by omega), rfl⟩)
      (try simp only [Act.put]); (try simp only [List.setIfInBounds_toArray]); (try simp only [List.set])
      refine wpAnyN_runL 10 (by kernel_rfl) rfl (by kernel_rfl) (fun K hK => ?_)
      go_simp
      refine hK _ _ (fun _ => sX) ?_
      clear hK K
      (try simp only [Act.put]); (try simp only [List.setIfInBounds_toArray]); (try simp only [List.set])
      refine wpAnyN_runL 11 (by kernel_rfl) rfl (by kernel_rfl) (fun K hK => ?_)
      go_simp
      refine hK _ _ (fun _ => sX) ?_
      clear hK K
      (try simp only [Act.put]); (try simp only [List.setIfInBounds_toArray]); (try simp only [List.set])
      have x3 := sX.2.1
      have x4 := sX.2.2
      refine wpAnyN_runL 12 (by kernel_rfl) rfl (by kernel_rfl) (fun K hK => ?_)
      go_simp
      refine hK _ _ (fun h => absurd rfl h) ?_
      clear hK K x3 x4 sX
      (try simp only [Act.put])
      refine wpAnyN_done (by kernel_rfl) ?_ _
      have hps := HB1.out.drew
      have hpk := k1.trans HB2.out.drew
      obtain ⟨Y, hY⟩ : ∃ Y, Y = (X.setCell ⟨g, 3, none⟩ (.int .i64 ((max most (deep + 1) : Nat) : Int))).drew := ⟨_, rfl⟩
      rw [← hY] at hps hpk ⊢
      have ha := hA r.length (by omega) F g Y r ns (deep + 1) (max most (deep + 1)) (Nat.le_refl _) hps (by omega) hdp2
      have sY := hpk.keep.size
      have HK := Lib.hid hpk; have Ha := Lib.hid ha
      clear hY hps hpk ha HB1 HB2
      go_wp2_with fail
      refine Ha.out.mono ?_
      rintro e w2 ⟨k2, o2⟩
      have s2 := k2.keep.size
      cases ho : altF r with
      | none =>
        rw [ho] at o2
        obtain rfl : e = faulted := o2
        have he := HE2.out
        rw [ho] at he
        exact ⟨rfl, HK.out.trans k2, by rw [he]; exact rfl⟩
      | some q =>
        obtain ⟨ts, r2, d⟩ := q
        rw [ho] at o2
        obtain ⟨rfl, h2⟩ := o2
        have he := HE2.out
        rw [ho] at he
        dsimp only at he
        dsimp only at h2
        have hv := vNext_any 41 g w2 r2 _ _ _ h2
        have HE3 := Lib.hid he; have HK2 := Lib.hid (HK.out.trans k2)
        clear he h2 ho Ha HE2 HE
        obtain ⟨kv, hkv⟩ : ∃ kv, ns.length + (manyR Re.alt ts).cnt - 1 = kv := ⟨_, rfl⟩
        rw [hkv]
        have Hkv := Lib.hid hkv
        clear hkv
        by_cases hd : r2.head? = some 41
        · rw [if_pos hd, decide_eq_true hd] at hv
          have Hd := Lib.hid hd; clear hd
          go_wp2_with fail
          refine hv.mono ?_
          clear hv
          rintro e w3 ⟨rfl, h3, k3⟩
          go_wp2_with fail
          refine (vMust_t _ rfl _).mono ?_
          rintro e w4 ⟨rfl, hw⟩
          obtain rfl : w3 = w4 := hw.symm
          obtain ⟨f2, -, z2, -⟩ := h3.cells
          have w3' : IntKind.i64.wrap (((deep + 1 : Nat) : Int) - 1) = (deep : Int) := by rw [IntKind.wrap_i64]; omega
          obtain ⟨h5, k5⟩ := h3.setDeep deep (by omega)
          have s3 := k3.keep.size
          have s5 := k5.keep.size
          have H5 := Lib.hid h5; have K5 := Lib.hid (HK2.out.trans (k3.trans k5))
          clear h5 k5 h3
          go_wp2
          go_ret
          refine ⟨K5.out, ?_⟩
          have he := HE3.out
          rw [if_pos Hd.out] at he
          rw [he]
          refine ⟨congrArg (fun x : Nat => Ending.returned (.int .i64 (x : Int))) Hkv.out.symm, ?_⟩
          have h6 := H5.out
          rw [show max (max most (deep + 1)) (deep + 1 + d) = max most (deep + (d + 1)) by omega] at h6
          refine h6.mono (fun k hk => ?_) (Ext.lt HF.out (by omega))
          rcases hk with hk | hk
          · exact .inl hk
          · exact .inr ⟨by omega, by omega⟩
        · rw [if_neg hd, decide_eq_false hd] at hv
          have Hd := Lib.hid hd; clear hd
          go_wp2_with fail
          refine hv.mono ?_
          clear hv
          rintro e w3 ⟨rfl, h3, k3⟩
          go_wp2_with fail
          refine (vMust_f _ rfl _).mono ?_
          rintro e w4 ⟨rfl, hw⟩
          obtain rfl : w3 = w4 := hw.symm
          have he := HE3.out
          rw [if_neg Hd.out] at he
          exact ⟨rfl, HK2.out.trans k3, by rw [he]; exact rfl⟩
    by_cases c2 : a = 91
    · subst c2
      have he := HE.out
      rw [if_neg (by decide), if_pos rfl] at he
      have HE2 := Lib.hid he
      clear he
      go_wp2_with fail
      refine (vClass g w1 r ns deep most h1 hn9).mono ?_
      rintro e w3 ⟨k3, o3⟩
      have hA2 := outA_of_T (w0 := w) o3 hdm s1 HF.out (Nat.le_trans s1 k3.keep.size)
      have K3 := Lib.hid (k1.trans k3)
      cases hc : classR r with
      | none =>
        rw [hc] at o3
        obtain rfl : e = faulted := o3
        exact ⟨rfl, K3.out, by rw [HE2.out, hc]; exact rfl⟩
      | some q =>
        rw [hc] at o3 hA2
        obtain ⟨rfl, h3⟩ := o3
        have HA2 := Lib.hid hA2; have HC := Lib.hid hc
        clear hA2 h3 k3 hc
        go_wp2
        go_ret
        exact ⟨K3.out, by rw [HE2.out, HC.out]; exact HA2.out⟩
    by_cases c3 : a = 46
    · subst c3
      have he := HE.out
      rw [if_neg (by decide), if_neg (by decide), if_pos rfl] at he
      have HE2 := Lib.hid he
      have hb1 : Below w1.heap.size w1 (w1.alloc (.cells ([0, 9, 11, 1114111].map rv).toArray 21)) := (Below.refl _ _).alloc (Nat.le_refl _) _
      have hv := vSetNode (F := F) [0, 9, 11, 1114111] (some ⟨w1.heap.size, 0, none⟩) 4 4 g w (w1.alloc (.cells ([0, 9, 11, 1114111].map rv).toArray 21)) r ns deep most rfl (h1.below hb1) HF.out (k1.trans (.of_below hb1 (Nat.le_of_lt h1.lt))) (RowT.new w1 21 ([0, 9, 11, 1114111].map rv)) (fun a e => (by cases e; exact ⟨s1, by simp⟩)) hn9
      have HV := Lib.hid hv
      clear he hv hb1
      go_wp2_with fail
      refine HV.out.mono ?_
      rintro e w3 ⟨k3, o3⟩
      have hA2 := outA_of_T o3 hdm (Nat.le_refl _) HF.out k3.keep.size
      obtain ⟨rfl, h3⟩ := o3
      have HA2 := Lib.hid hA2; have K3 := Lib.hid k3
      clear hA2 h3 k3
      go_wp2
      go_ret
      exact ⟨K3.out, by rw [HE2.out]; exact HA2.out⟩
    by_cases c4 : a = 94
    · subst c4
      have he := HE.out
      rw [if_neg (by decide), if_neg (by decide), if_neg (by decide), if_pos rfl] at he
      have HE2 := Lib.hid he
      have hv := vBareNode (F := F) 6 .bgn (fun _ => rfl) rfl g w w1 r ns deep most h1 HF.out k1 hn9
      have HV := Lib.hid hv
      clear he hv
      go_wp2_with fail
      refine HV.out.mono ?_
      rintro e w3 ⟨k3, o3⟩
      have hA2 := outA_of_T o3 hdm (Nat.le_refl _) HF.out k3.keep.size
      obtain ⟨rfl, h3⟩ := o3
      have HA2 := Lib.hid hA2; have K3 := Lib.hid k3
      clear hA2 h3 k3
      go_wp2
      go_ret
      exact ⟨K3.out, by rw [HE2.out]; exact HA2.out⟩
    by_cases c5 : a = 36
    · subst c5
      have he := HE.out
      rw [if_neg (by decide), if_neg (by decide), if_neg (by decide), if_neg (by decide), if_pos rfl] at he
      have HE2 := Lib.hid he
      have hv := vBareNode (F := F) 7 .fin (fun _ => rfl) rfl g w w1 r ns deep most h1 HF.out k1 hn9
      have HV := Lib.hid hv
      clear he hv
      go_wp2_with fail
      refine HV.out.mono ?_
      rintro e w3 ⟨k3, o3⟩
      have hA2 := outA_of_T o3 hdm (Nat.le_refl _) HF.out k3.keep.size
      obtain ⟨rfl, h3⟩ := o3
      have HA2 := Lib.hid hA2; have K3 := Lib.hid k3
      clear hA2 h3 k3
      go_wp2
      go_ret
      exact ⟨K3.out, by rw [HE2.out]; exact HA2.out⟩
    by_cases c6 : a = 92
    · subst c6
      have he := HE.out
      rw [if_neg (by decide), if_neg (by decide), if_neg (by decide), if_neg (by decide), if_neg (by decide), if_pos rfl] at he
      have HE0 := Lib.hid he
      clear he
      go_wp2_with fail
      refine (vEsc g w1 r ns deep most h1).mono ?_
      rintro e w2 ⟨k2, o2⟩
      have s2 := k2.keep.size
      cases hc : escR r with
      | none =>
        rw [hc] at o2
        obtain rfl : e = faulted := o2
        exact ⟨rfl, k1.trans k2, by rw [HE0.out, hc]; exact rfl⟩
      | some q =>
        obtain ⟨m, r2⟩ := q
        rw [hc] at o2
        obtain ⟨A, c, rfl, hr, h2, hAA⟩ := o2
        have hv := vSetNode (F := F) m A c m.length g w w2 r2 ns deep most rfl h2 HF.out (k1.trans k2) hr (fun a e => ⟨Nat.le_trans s1 (hAA a e).1, (hAA a e).2⟩) hn9
        have he := HE0.out
        rw [hc] at he
        have HE2 : Hid (OUT = some (.set m, r2, 0)) := Lib.hid he
        have HV := Lib.hid hv
        obtain ⟨nm, hnm⟩ : ∃ nm, m.length = nm := ⟨_, rfl⟩
        rw [hnm] at HV ⊢
        clear he hv hc hAA hr h2 hnm
        go_wp2_with fail
        refine HV.out.mono ?_
        rintro e w3 ⟨k3, o3⟩
        have hA2 := outA_of_T o3 hdm (Nat.le_refl _) HF.out k3.keep.size
        obtain ⟨rfl, h3⟩ := o3
        have HA2 := Lib.hid hA2; have K3 := Lib.hid k3
        clear hA2 h3 k3
        go_wp2
        go_ret
        exact ⟨K3.out, by rw [HE2.out]; exact HA2.out⟩
    have z1 : ¬ (a : Int) = 40 := by omega
    have z2 : ¬ (a : Int) = 91 := by omega
    have z3 : ¬ (a : Int) = 46 := by omega
    have z4 : ¬ (a : Int) = 94 := by omega
    have z5 : ¬ (a : Int) = 36 := by omega
    have z6 : ¬ (a : Int) = 92 := by omega
    have cv := vConR litB a w1 (by decide) (by decide) (by decide) hb
    have em : a ∈ litB.data.toList.map UInt8.toNat ↔ a ∈ specR := Iff.rfl
    have he := HE.out
    rw [if_neg c1, if_neg c2, if_neg c3, if_neg c4, if_neg c5, if_neg c6] at he
    by_cases hm : a ∈ specR
    · rw [decide_eq_true (em.2 hm)] at cv
      rw [if_pos hm] at he
      have HE2 := Lib.hid he
      clear em hm c1 c2 c3 c4 c5 c6 he
      go_wp2_with fail
      refine cv.mono ?_
      clear cv
      rintro e w2 ⟨rfl, b2⟩
      go_wp2_with fail
      refine (vMust_f _ rfl _).mono ?_
      rintro e w' ⟨rfl, hw⟩
      obtain rfl : w2 = w' := hw.symm
      exact ⟨rfl, k1.trans (.of_below b2 (Nat.le_of_lt h1.lt)), by rw [HE2.out]; exact rfl⟩
    · rw [decide_eq_false (fun h => hm (em.1 h))] at cv
      rw [if_neg hm] at he
      have HE2 := Lib.hid he
      clear em hm c1 c2 c3 c4 c5 c6 he
      go_wp2_with fail
      refine cv.mono ?_
      clear cv
      rintro e w2 ⟨rfl, b2⟩
      have h2 := h1.below b2
      have hb1 : Below w2.heap.size w2 (w2.alloc (.cells ([a, a].map rv).toArray 21)) := (Below.refl _ _).alloc (Nat.le_refl _) _
      have hv := vSetNode (F := F) [a, a] (some ⟨w2.heap.size, 0, none⟩) 2 2 g w (w2.alloc (.cells ([a, a].map rv).toArray 21)) r ns deep most rfl (h2.below hb1) HF.out ((k1.trans (.of_below b2 (Nat.le_of_lt h1.lt))).trans (.of_below hb1 (Nat.le_of_lt h2.lt))) (RowT.new w2 21 ([a, a].map rv)) (fun x e => (by cases e; exact ⟨Nat.le_trans s1 b2.size, by simp⟩)) hn9
      have HV := Lib.hid hv
      clear hv hb1 h2
      go_wp2_with fail
      refine (vMust_t _ rfl _).mono ?_
      rintro e w' ⟨rfl, hw⟩
      obtain rfl : w2 = w' := hw.symm
      go_wp2_with fail
      refine HV.out.mono ?_
      rintro e w3 ⟨k3, o3⟩
      have hA2 := outA_of_T o3 hdm (Nat.le_refl _) HF.out k3.keep.size
      obtain ⟨rfl, h3⟩ := o3
      have HA2 := Lib.hid hA2; have K3 := Lib.hid k3
      clear hA2 h3 k3
      go_wp2
      go_ret
      exact ⟨K3.out, by rw [HE2.out]; exact HA2.out⟩
end Go.Proofs.YtecejnilajbdpaaGreatDoor

