import Derived.Test.YtecejnilajbdpaaGreatDoorTu26
/-! autom: rep without end -/
namespace Go.Proofs.YtecejnilajbdpaaGreatDoor
open Go.RowKit Garner
theorem repC_snoc (c : Nat → List InstP) (len : Nat) : ∀ (n p : Nat), repC c len (n + 1) p = repC c len n p ++ c (p + n * len)
  | 0, p => by simp [repC]
  | n + 1, p => by
    rw [repC, repC_snoc c len n (p + len), repC, List.append_assoc, show p + len + n * len = p + (n + 1) * len by rw [Nat.add_mul]; omega]
theorem set_mid {α : Type} (a : List α) (x y : α) (m : List α) {n : Nat} (h : a.length = n) : (a ++ x :: m).set n y = a ++ y :: m := by
  subst h
  rw [List.set_append, if_neg (Nat.lt_irrefl _), Nat.sub_self]; rfl
set_option maxRecDepth 100000 in
set_option maxHeartbeats 16000000 in
theorem vRepN {W0 : World} {A : Option Addr} {c : Nat} {ns : List NodeP} {k : Re} (hk : CodeC W0 A c ns k) (mn b : Nat) (hat : AtN ns b (k.flat b)) (hmn : mn ≤ 8) (kA : Option Addr) (kc : Nat) (sA : Option Addr) (sc : Nat) (w : World) (g : Nat) (ins : List InstP)
    (hkid : RowT W0 3 kA 1 [iv (b + k.cnt - 1)]) (hBg : W0.heap.size ≤ g) (hp : ProgIs W0 W0.heap.size (.slice A ns.length c) w g ins) (hb : Below W0.heap.size W0 w) (hsz : ins.length + (Re.rep k mn none).len ≤ 90000) :
    Calls Tryz.prog 129 #[.pointer (some ⟨g, 0, none⟩), .agg #[.int .i64 5, .slice kA 1 kc, .int .i64 (mn : Nat), .int .i64 (-1), .slice sA 0 sc]] w fun e w' => e = .returned (.tuple #[]) ∧ ProgIs W0 W0.heap.size (.slice A ns.length c) w' g (ins ++ (Re.rep k mn none).code ins.length) ∧ QK W0.heap.size w w' := by
  obtain ⟨N, hNs⟩ : ∃ N, ins.length = N := ⟨_, rfl⟩
  obtain ⟨len, hlen⟩ : ∃ len, k.len = len := ⟨_, rfl⟩
  obtain ⟨M, hM⟩ : ∃ M, N + mn * len = M := ⟨_, rfl⟩
  have hl1 : (Re.rep k mn none).len = mn * len + (len + 2) := by rw [← hlen]; rfl
  have hcode : ins ++ (Re.rep k mn none).code N = (ins ++ repC k.code len mn N) ++ (⟨1, M + 1, M + (len + 2), []⟩ :: (k.code (M + 1) ++ [⟨1, M, M, []⟩])) := by
    rw [← hM, ← hlen, List.append_assoc]; rfl
  have hr0 : ∀ j, (ins ++ repC k.code len j N).length = N + j * len := fun j => by
    rw [List.length_append, hNs, repC_len fun p => by rw [code_len, hlen]]
  obtain ⟨bk, ok, rfl, -⟩ := hkid.at_ (k := 0) (u := iv _) rfl
  rw [hl1, hNs] at hsz
  rw [hNs, hcode]
  obtain ⟨r, hr⟩ : ∃ r, b + k.cnt - 1 = r := ⟨_, rfl⟩
  have hck : ∀ wo : World, Below W0.heap.size W0 wo → wo.cell? ⟨bk, ok, none⟩ = some (.int .i64 (r : Nat)) := fun wo hW => by
    obtain ⟨b', o', e, h⟩ := (hkid.below hW).at_ (k := 0) (u := iv _) rfl
    cases e
    rw [hr] at h
    exact h
  have hcall : ∀ (wo : World) (X : List InstP), ProgIs W0 W0.heap.size (.slice A ns.length c) wo g X → Below W0.heap.size W0 wo → X.length + len ≤ 90000 → Calls Tryz.prog 93 #[.pointer (some ⟨g, 0, none⟩), .int .i64 (r : Nat)] wo fun e w' => e = .returned (.tuple #[]) ∧ ProgIs W0 W0.heap.size (.slice A ns.length c) w' g (X ++ k.code X.length) ∧ QK W0.heap.size wo w' := fun wo X h1 h2 h3 => by
    have := hk b wo g X hat hBg h1 h2 (by rw [hlen]; exact h3)
    rw [hr] at this
    exact this
  have hbX : Below w.heap.size w (w.alloc (.cells #[.int .i64 5, .slice (some ⟨bk, ok, none⟩) 1 kc, .int .i64 (mn : Nat), .int .i64 (-1), .slice sA 0 sc] 182)) := (Below.refl _ _).alloc (Nat.le_refl _) _
  obtain ⟨X, hX⟩ : ∃ X, X = w.alloc (.cells #[.int .i64 5, .slice (some ⟨bk, ok, none⟩) 1 kc, .int .i64 (mn : Nat), .int .i64 (-1), .slice sA 0 sc] 182) := ⟨_, rfl⟩
  have bX : Blk X w.heap.size 182 [.int .i64 5, .slice (some ⟨bk, ok, none⟩) 1 kc, .int .i64 (mn : Nat), .int .i64 (-1), .slice sA 0 sc] := by rw [hX]; exact Blk.new w _ _
  rw [← hX] at hbX
  have pX := hp.below hbX
  have qX := QK.of_below hbX hb.size
  have hWX : Below W0.heap.size W0 X := QK.from hb qX
  have x2 : X.cell? ⟨w.heap.size, 2, none⟩ = some (.int .i64 (mn : Nat)) := bX.cell 2
  have P0 := Lib.hid pX; have QX := Lib.hid qX; have HB := Lib.hid hb; have Hr0 := Lib.hid hr0; have Hck := Lib.hid hck; have Hcall := Lib.hid hcall; have BX := Lib.hid bX; have HM := Lib.hid hM; have Hsz := Lib.hid hsz; have HNs := Lib.hid hNs; have Hcl := Lib.hid (fun p : Nat => (show (k.code p).length = len by rw [code_len, hlen]))
  clear hl1 hcode hr0 hkid hck hcall hp pX hbX qX hb hWX bX hk hat hM hsz hNs hr hlen
  go_enter Tryz.func129, Tryz.ntmps129
  clear x2
  go_wp2
  rw [← hX]
  clear hX
  go_loopw [10] (fun i wr => ∃ j : Nat, j ≤ mn ∧ i = .int .i64 j ∧ Hid (ProgIs W0 W0.heap.size (.slice A ns.length c) wr g (ins ++ repC k.code len j N)) ∧ Hid (QK W0.heap.size X wr)) (fun i _ => mn - (intOf i).toNat)
  case atStart => exact ⟨0, Nat.zero_le _, rfl, Lib.hid (by simpa [repC] using P0.out), Lib.hid (.refl _ _)⟩
  case round =>
    obtain ⟨j, hj, rfl, hps, hq⟩ := hrel
    obtain ⟨wo, rfl⟩ : ∃ wo : World, wo = wr := ⟨_, rfl⟩
    have wk1 : IntKind.i64.wrap ((j : Int) + 1) = ((j + 1 : Nat) : Int) := by rw [IntKind.wrap_i64]; omega
    have hW : Below W0.heap.size W0 wo := QK.from (QK.from HB.out QX.out) hq.out
    have bo := hq.out.keep.blk BX.out (by decide)
    have y1 : wo.cell? ⟨w.heap.size, 1, none⟩ = some (.slice (some ⟨bk, ok, none⟩) 1 kc) := bo.cell 1
    have y3 : wo.cell? ⟨w.heap.size, 3, none⟩ = some (.int .i64 (-1)) := bo.cell 3
    have ckid := Hck.out wo hW
    by_cases hlt : j < mn
    · have hjl : j * len + len ≤ mn * len := by
        have := Nat.mul_le_mul_right len (show j + 1 ≤ mn by omega)
        rw [Nat.add_mul] at this; omega
      have hszz := Hsz.out
      have hl0 := Hr0.out j
      have hc := Hcall.out wo _ hps.out hW (by rw [hl0]; omega)
      rw [hl0, List.append_assoc, ← repC_snoc] at hc
      have HC := Lib.hid hc
      have z2 : (j : Int) < (mn : Int) := by omega
      clear hc hl0 hszz hjl hW bo
      go_wp2_with fail
      refine HC.out.mono ?_
      rintro e w2 ⟨rfl, p2, q2⟩
      have P2 := Lib.hid p2; have Q2 := Lib.hid q2
      clear p2 q2
      go_wp2
      go_roundw
      case rel => exact ⟨j + 1, by omega, rfl, P2, Lib.hid (hq.out.trans Q2.out)⟩
      case measure => simp [intOf]; omega
    · have z2 : ¬ (j : Int) < (mn : Int) := by omega
      obtain rfl : j = mn := by omega
      have hszz := Hsz.out
      have hl0 := Hr0.out j
      rw [HM.out] at hl0
      have hMM := HM.out
      obtain ⟨I1, hI1⟩ : ∃ I1, ins ++ repC k.code len j N = I1 := ⟨_, rfl⟩
      rw [hI1] at hps hl0
      have HI1 := Lib.hid hI1
      have hh := vHere _ g I1 hps.out
      have hsW := hW.size
      have he := vEmit ⟨⟨1, M + 1, 0, []⟩, none, 0⟩ wo g I1 hps.out hsW hBg (by exact RowT.nil) (by omega)
      rw [hl0] at hh he
      have wM : IntKind.i64.wrap ((M : Int) + 1) = ((M + 1 : Nat) : Int) := by rw [IntKind.wrap_i64]; omega
      have He := Lib.hid he; have HW := Lib.hid hW; have Hl0 := Lib.hid hl0; have Bo := Lib.hid bo
      clear he hW hI1 hl0 bo hszz hMM ckid
      go_wp2_with fail
      refine hh.mono ?_
      rintro e w1 ⟨rfl, rfl⟩
      go_wp2_with fail
      refine He.out.mono ?_
      rintro e w2 ⟨rfl, p2, q2⟩
      have hW2 := QK.from HW.out q2
      have b2 := q2.keep.blk Bo.out (by decide)
      have y12 : w2.cell? ⟨w.heap.size, 1, none⟩ = some (.slice (some ⟨bk, ok, none⟩) 1 kc) := b2.cell 1
      have ck2 := Hck.out w2 hW2
      have hl2 : (I1 ++ [(⟨1, M + 1, 0, []⟩ : InstP)]).length = M + 1 := by rw [List.length_append, Hl0.out]; rfl
      have hszz := Hsz.out
      have hMM := HM.out
      have hc := Hcall.out w2 _ p2 hW2 (by rw [hl2]; omega)
      rw [hl2] at hc
      have HC := Lib.hid hc; have Q2 := Lib.hid q2; have HW2 := Lib.hid hW2
      clear p2 q2 hc hl2 hW2 b2 hszz hMM
      go_wp2_with fail
      refine HC.out.mono ?_
      rintro e w3 ⟨rfl, p3, q3⟩
      have hW3 := QK.from HW2.out q3
      have hl3 : (I1 ++ [(⟨1, M + 1, 0, []⟩ : InstP)] ++ k.code (M + 1)).length = M + 1 + len := by rw [List.length_append, List.length_append, Hl0.out, Hcl.out]; rfl
      have e4 : I1 ++ [(⟨1, M + 1, 0, []⟩ : InstP)] ++ k.code (M + 1) ++ [⟨1, M, M, []⟩] = I1 ++ ((⟨1, M + 1, 0, []⟩ : InstP) :: (k.code (M + 1) ++ [⟨1, M, M, []⟩])) := by simp
      have hszz := Hsz.out
      have hMM := HM.out
      have hs3 := hW3.size
      have he := vEmit ⟨⟨1, M, M, []⟩, none, 0⟩ w3 g _ p3 hs3 hBg (by exact RowT.nil) (by rw [hl3]; omega)
      have f4 : (I1 ++ ((⟨1, M + 1, 0, []⟩ : InstP) :: (k.code (M + 1) ++ [⟨1, M, M, []⟩])))[M]? = some ⟨1, M + 1, 0, []⟩ := by
        rw [List.getElem?_append_right (by rw [Hl0.out]; exact Nat.le_refl _), Hl0.out, Nat.sub_self]; rfl
      have l4 : (I1 ++ ((⟨1, M + 1, 0, []⟩ : InstP) :: (k.code (M + 1) ++ [⟨1, M, M, []⟩]))).length = M + (len + 2) := by rw [← e4, List.length_append, hl3]; simp; omega
      rw [e4] at he
      have e5 := set_mid I1 (⟨1, M + 1, 0, []⟩ : InstP) ⟨1, M + 1, M + (len + 2), []⟩ (k.code (M + 1) ++ [⟨1, M, M, []⟩]) Hl0.out
      rw [← HI1.out] at e5
      obtain ⟨I4, hI4⟩ : ∃ I4, I1 ++ ((⟨1, M + 1, 0, []⟩ : InstP) :: (k.code (M + 1) ++ [⟨1, M, M, []⟩])) = I4 := ⟨_, rfl⟩
      rw [HI1.out] at e5
      rw [hI4] at he f4 l4 e5
      obtain ⟨N4, hN4⟩ : ∃ N4, M + (len + 2) = N4 := ⟨_, rfl⟩
      rw [hN4] at l4 e5
      rw [← HI1.out] at e5
      have He := Lib.hid he; have HW3 := Lib.hid hW3; have Q3 := Lib.hid q3; have E5 := Lib.hid e5; have F4 := Lib.hid f4; have L4 := Lib.hid l4; have HN4 := Lib.hid hN4
      clear he hW3 q3 p3 hl3 e4 e5 f4 l4 hI4 hN4 hszz hMM hs3
      go_wp2_with fail
      refine He.out.mono ?_
      rintro e w4 ⟨rfl, p4, q4⟩
      have Q4 := Lib.hid q4
      clear q4
      go_upto_region 9 with fail
      have pD : ProgIs W0 W0.heap.size (.slice A ns.length c) w4.drew g I4 := p4.below (Below.refl _ _).drew
      obtain ⟨gI, m, d1, -, d3, -, d5⟩ := pD.patch F4.out
      rw [L4.out] at d1 d5
      have z4 : (M : Int) < (N4 : Int) := by have := HN4.out; omega
      have sS : ProgIs W0 W0.heap.size (.slice A ns.length c) w4.drew g I4 ∧ w4.drew.cell? ⟨g, 1, none⟩ = some (.slice (some ⟨gI, 0, none⟩) N4 m) ∧ w4.drew.cell? ⟨gI, M * 4 + 2, none⟩ = some (.int .i64 (0 : Nat)) ∧ w4.drew.frozen? ⟨gI, M * 4 + 2, none⟩ = false := ⟨pD, d1, d3.1, d3.2⟩
      obtain ⟨p5, q5, -, -, -⟩ := d5 N4
      have P5 := Lib.hid p5; have Q5 := Lib.hid q5
      clear p5 q5 d5 p4 pD
      refine wp_region_N (fun w' => ProgIs W0 W0.heap.size (.slice A ns.length c) w' g I4 ∧ w'.cell? ⟨g, 1, none⟩ = some (.slice (some ⟨gI, 0, none⟩) N4 m) ∧ w'.cell? ⟨gI, M * 4 + 2, none⟩ = some (.int .i64 (0 : Nat)) ∧ w'.frozen? ⟨gI, M * 4 + 2, none⟩ = false) 9 (by kernel_rfl) ?_
      apply wpAnyN_takeT 0 (by kernel_rfl) rfl (fun _ _ _ h => h) (by kernel_rfl) sS
      · intro w' hS'
        go_simp; exact ⟨rfl, rfl⟩
      (try simp only [Act.put]); (try simp only [List.setIfInBounds_toArray]); (try simp only [List.set])
      apply wpAnyN_takeT 1 (by kernel_rfl) rfl (fun _ _ _ h => h) (by kernel_rfl) sS
      · intro w' hS'
        go_simp; exact ⟨rfl, rfl⟩
      (try simp only [Act.put]); (try simp only [List.setIfInBounds_toArray]); (try simp only [List.set])
      apply wpAnyN_takeT 2 (by kernel_rfl) rfl (fun _ _ _ h => h) (by kernel_rfl) sS
      · intro w' hS'
        go_simp; exact ⟨rfl, rfl⟩
      (try simp only [Act.put]); (try simp only [List.setIfInBounds_toArray]); (try simp only [List.set])
      apply wpAnyN_takeT 3 (v := (.slice (some ⟨gI, 0, none⟩) N4 m)) (by kernel_rfl) rfl (fun _ _ _ h => h) (by kernel_rfl) sS
      · intro w' hS'
        (have hk := hS'.2.1; go_simp; exact ⟨rfl, rfl⟩)
      (try simp only [Act.put]); (try simp only [List.setIfInBounds_toArray]); (try simp only [List.set])
      apply wpAnyN_takeT 4 (by kernel_rfl) rfl (fun _ _ _ h => h) (by kernel_rfl) sS
      · intro w' hS'
        go_simp; exact ⟨rfl, rfl⟩
      (try simp only [Act.put]); (try simp only [List.setIfInBounds_toArray]); (try simp only [List.set])
      apply wpAnyN_takeT 5 (by kernel_rfl) rfl (fun _ _ _ h => h) (by kernel_rfl) sS
      · intro w' hS'
        go_simp; exact ⟨rfl, rfl⟩
      (try simp only [Act.put]); (try simp only [List.setIfInBounds_toArray]); (try simp only [List.set])
      apply wpAnyN_takeT 6 (v := (.int .i64 (N4 : Nat))) (by kernel_rfl) rfl (fun _ _ _ h => h) (by kernel_rfl) sS
      · intro w' hS'
        (have hst := vHere w' g I4 hS'.1; rw [L4.out] at hst; go_simp; exact ⟨rfl, hst⟩)
      (try simp only [Act.put]); (try simp only [List.setIfInBounds_toArray]); (try simp only [List.set])
      apply wpAnyN_takeT 7 (v := (.pointer (some ⟨gI, M * 4, none⟩))) (by kernel_rfl) rfl (fun _ _ _ h => h) (by kernel_rfl) sS
      · intro w' hS'
        (go_simp; exact ⟨rfl, rfl⟩)
      (try simp only [Act.put]); (try simp only [List.setIfInBounds_toArray]); (try simp only [List.set])
      apply wpAnyN_takeT 8 (v := (.pointer (some ⟨gI, M * 4 + 2, none⟩))) (by kernel_rfl) rfl (fun _ _ _ h => h) (by kernel_rfl) sS
      · intro w' hS'
        (go_simp; exact ⟨rfl, rfl⟩)
      (try simp only [Act.put]); (try simp only [List.setIfInBounds_toArray]); (try simp only [List.set])
      have cs := sS.2.2.1
      have fs := sS.2.2.2
      refine wpAnyN_runL 9 (by kernel_rfl) rfl (by kernel_rfl) (fun K hK => ?_)
      go_simp
      refine hK _ _ (fun h => absurd rfl h) ?_
      clear hK K cs fs sS
      (try simp only [Act.put])
      refine wpAnyN_done (by kernel_rfl) ?_ _
      have hfin := P5.out
      have hy : (⟨1, M + 1, N4, []⟩ : InstP) = ⟨1, M + 1, M + (len + 2), []⟩ := by rw [HN4.out]
      rw [E5.out, hy, List.append_assoc] at hfin
      have hq5 := ((((QX.out.trans hq.out).trans Q2.out).trans Q3.out).trans Q4.out).trans ((QK.of_below (Below.refl _ _).drew (QK.from HW3.out Q4.out).size).trans Q5.out)
      have HF := Lib.hid hfin; have HQ := Lib.hid hq5
      clear hfin hq5
      go_wp2
      refine bodyPost_ret (results_none rfl _ _ _) rfl ?_
      exact ⟨rfl, HF.out, HQ.out⟩
end Go.Proofs.YtecejnilajbdpaaGreatDoor

