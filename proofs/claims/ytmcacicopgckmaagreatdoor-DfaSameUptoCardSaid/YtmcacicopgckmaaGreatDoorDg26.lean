import Derived.Test.YtmcacicopgckmaaGreatDoorDg25
import Derived.Test.YtmcacicopgckmaaGreatDoorDg23
import Derived.Test.YtmcacicopgckmaaGreatDoorDg24
/-! autom: rep without end -/
namespace Go.Proofs.YtmcacicopgckmaaGreatDoor
open Go.RowKit Garner
theorem repC_snoc (c : Nat → List InstP) (len : Nat) : ∀ (n p : Nat), repC c len (n + 1) p = repC c len n p ++ c (p + n * len)
  | 0, p => by simp [repC]
  | n + 1, p => by
    rw [repC, repC_snoc c len n (p + len), repC, List.append_assoc, show p + len + n * len = p + (n + 1) * len by rw [Nat.add_mul]; omega]
theorem set_mid {α : Type} (a : List α) (x y : α) (m : List α) {n : Nat} (h : a.length = n) : (a ++ x :: m).set n y = a ++ y :: m := by
  subst h
  rw [List.set_append, if_neg (Nat.lt_irrefl _), Nat.sub_self]; rfl
set_option maxRecDepth 100000 in
set_option maxHeartbeats 16000000 in
theorem vRepN {W0 : World} {A : Option Addr} {c : Nat} {ns : List NodeP} {k : Re} (hk : CodeC W0 A c ns k) (mn b : Nat) (hat : AtN ns b (k.flat b)) (hmn : mn ≤ 8) (kA : Option Addr) (kc : Nat) (sA : Option Addr) (sc : Nat) (w : World) (g : Nat) (ins : List InstP)
    (hkid : RowT W0 3 kA 1 [iv (b + k.cnt - 1)]) (hBg : W0.heap.size ≤ g) (hp : ProgIs W0 W0.heap.size (.slice A ns.length c) w g ins) (hb : Below W0.heap.size W0 w) (hsz : ins.length + (Re.rep k mn none).len ≤ 90000) :
    Calls Tryz.prog 99 #[.pointer (some ⟨g, 0, none⟩), .agg #[.int .i64 5, .slice kA 1 kc, .int .i64 (mn : Nat), .int .i64 (-1), .slice sA 0 sc]] w fun e w' => e = .returned (.tuple #[]) ∧ ProgIs W0 W0.heap.size (.slice A ns.length c) w' g (ins ++ (Re.rep k mn none).code ins.length) ∧ QK W0.heap.size w w' := by
  obtain ⟨N, hNs⟩ : ∃ N, ins.length = N := ⟨_, rfl⟩
  obtain ⟨len, hlen⟩ : ∃ len, k.len = len := ⟨_, rfl⟩
  obtain ⟨M, hM⟩ : ∃ M, N + mn * len = M := ⟨_, rfl⟩
  have hl1 : (Re.rep k mn none).len = mn * len + (len + 2) := by rw [← hlen]; rfl
  have hcode : ins ++ (Re.rep k mn none).code N = (ins ++ repC k.code len mn N) ++ (⟨1, M + 1, M + (len + 2), []⟩ :: (k.code (M + 1) ++ [⟨1, M, M, []⟩])) := by
    rw [← hM, ← hlen, List.append_assoc]; rfl
  have hr0 : ∀ j, (ins ++ repC k.code len j N).length = N + j * len := fun j => by
    rw [List.length_append, hNs, repC_len fun p => by rw [code_len, hlen]]
  obtain ⟨bk, ok, rfl, -⟩ := hkid.at_ (k := 0) (u := iv _) rfl
  rw [hl1, hNs] at hsz
  rw [hNs, hcode]
  obtain ⟨r, hr⟩ : ∃ r, b + k.cnt - 1 = r := ⟨_, rfl⟩
  have hck : ∀ wo : World, Below W0.heap.size W0 wo → wo.cell? ⟨bk, ok, none⟩ = some (.int .i64 (r : Nat)) := fun wo hW => by
    obtain ⟨b', o', e, h⟩ := (hkid.below hW).at_ (k := 0) (u := iv _) rfl
    cases e
    rw [hr] at h
    exact h
  have hcall : ∀ (wo : World) (X : List InstP), ProgIs W0 W0.heap.size (.slice A ns.length c) wo g X → Below W0.heap.size W0 wo → X.length + len ≤ 90000 → Calls Tryz.prog 64 #[.pointer (some ⟨g, 0, none⟩), .int .i64 (r : Nat)] wo fun e w' => e = .returned (.tuple #[]) ∧ ProgIs W0 W0.heap.size (.slice A ns.length c) w' g (X ++ k.code X.length) ∧ QK W0.heap.size wo w' := fun wo X h1 h2 h3 => by
    have := hk b wo g X hat hBg h1 h2 (by rw [hlen]; exact h3)
    rw [hr] at this
    exact this
  have hbX : Below w.heap.size w (w.alloc (.cells #[.int .i64 5, .slice (some ⟨bk, ok, none⟩) 1 kc, .int .i64 (mn : Nat), .int .i64 (-1), .slice sA 0 sc] 94)) := (Below.refl _ _).alloc (Nat.le_refl _) _
  obtain ⟨X, hX⟩ : ∃ X, X = w.alloc (.cells #[.int .i64 5, .slice (some ⟨bk, ok, none⟩) 1 kc, .int .i64 (mn : Nat), .int .i64 (-1), .slice sA 0 sc] 94) := ⟨_, rfl⟩
  have bX : Blk X w.heap.size 94 [.int .i64 5, .slice (some ⟨bk, ok, none⟩) 1 kc, .int .i64 (mn : Nat), .int .i64 (-1), .slice sA 0 sc] := by rw [hX]; exact Blk.new w _ _
  rw [← hX] at hbX
  have pX := hp.below hbX
  have qX := QK.of_below hbX hb.size
  have hWX : Below W0.heap.size W0 X := QK.from hb qX
  have x2 : X.cell? ⟨w.heap.size, 2, none⟩ = some (.int .i64 (mn : Nat)) := bX.cell 2
  have P0 := Lib.hid pX; have QX := Lib.hid qX; have HB := Lib.hid hb; have Hr0 := Lib.hid hr0; have Hck := Lib.hid hck; have Hcall := Lib.hid hcall; have BX := Lib.hid bX; have HM := Lib.hid hM; have Hsz := Lib.hid hsz; have HNs := Lib.hid hNs; have Hcl := Lib.hid (fun p : Nat => (show (k.code p).length = len by rw [code_len, hlen]))
  clear hl1 hcode hr0 hkid hck hcall hp pX hbX qX hb hWX bX hk hat hM hsz hNs hr hlen
  go_enter Tryz.func99, Tryz.ntmps99
  clear x2
  go_wp2
  rw [← hX]
  clear hX
  go_loopw [10] (fun i wr => ∃ j : Nat, j ≤ mn ∧ i = .int .i64 j ∧ Hid (ProgIs W0 W0.heap.size (.slice A ns.length c) wr g (ins ++ repC k.code len j N)) ∧ Hid (QK W0.heap.size X wr)) (fun i _ => mn - (intOf i).toNat)
  case atStart => exact ⟨0, Nat.zero_le _, rfl, Lib.hid (by simpa [repC] using P0.out), Lib.hid (.refl _ _)⟩
  case round =>
    obtain ⟨j, hj, rfl, hps, hq⟩ := hrel
    obtain ⟨wo, rfl⟩ : ∃ wo : World, wo = wr := ⟨_, rfl⟩
    have wk1 : IntKind.i64.wrap ((j : Int) + 1) = ((j + 1 : Nat) : Int) := by rw [IntKind.wrap_i64]; omega
    have hW : Below W0.heap.size W0 wo := QK.from (QK.from HB.out QX.out) hq.out
    have bo := hq.out.keep.blk BX.out (by decide)
    have y1 : wo.cell? ⟨w.heap.size, 1, none⟩ = some (.slice (some ⟨bk, ok, none⟩) 1 kc) := bo.cell 1
    have y3 : wo.cell? ⟨w.heap.size, 3, none⟩ = some (.int .i64 (-1)) := bo.cell 3
    have ckid := Hck.out wo hW
    by_cases hlt : j < mn
    · have hjl : j * len + len ≤ mn * len := by
        have := Nat.mul_le_mul_right len (show j + 1 ≤ mn by omega)
        rw [Nat.add_mul] at this; omega
      have hszz := Hsz.out
      have hl0 := Hr0.out j
      have hc := Hcall.out wo _ hps.out hW (by rw [hl0]; omega)
      rw [hl0, List.append_assoc, ← repC_snoc] at hc
      have HC := Lib.hid hc
      have z2 : (j : Int) < (mn : Int) := by omega
      clear hc hl0 hszz hjl hW bo
      go_wp2_with fail
      refine HC.out.mono ?_
      rintro e w2 ⟨rfl, p2, q2⟩
      have P2 := Lib.hid p2; have Q2 := Lib.hid q2
      clear p2 q2
      go_wp2
      go_roundw
      case rel => exact ⟨j + 1, by omega, rfl, P2, Lib.hid (hq.out.trans Q2.out)⟩
      case measure => simp [intOf]; omega
    · have z2 : ¬ (j : Int) < (mn : Int) := by omega
      obtain rfl : j = mn := by omega
      have hszz := Hsz.out
      have hl0 := Hr0.out j
      rw [HM.out] at hl0
      have hMM := HM.out
      obtain ⟨I1, hI1⟩ : ∃ I1, ins ++ repC k.code len j N = I1 := ⟨_, rfl⟩
      rw [hI1] at hps hl0
      have HI1 := Lib.hid hI1
      have hh := vHere _ g I1 hps.out
      have hsW := hW.size
      have he := vEmit ⟨⟨1, M + 1, 0, []⟩, none, 0⟩ wo g I1 hps.out hsW hBg (by exact RowT.nil) (by omega)
      rw [hl0] at hh he
      have wM : IntKind.i64.wrap ((M : Int) + 1) = ((M + 1 : Nat) : Int) := by rw [IntKind.wrap_i64]; omega
      have He := Lib.hid he; have HW := Lib.hid hW; have Hl0 := Lib.hid hl0; have Bo := Lib.hid bo
      clear he hW hI1 hl0 bo hszz hMM ckid
      go_wp2_with fail
      refine hh.mono ?_
      rintro e w1 ⟨rfl, rfl⟩
      go_wp2_with fail
      refine He.out.mono ?_
      rintro e w2 ⟨rfl, p2, q2⟩
      have hW2 := QK.from HW.out q2
      have b2 := q2.keep.blk Bo.out (by decide)
      have y12 : w2.cell? ⟨w.heap.size, 1, none⟩ = some (.slice (some ⟨bk, ok, none⟩) 1 kc) := b2.cell 1
      have ck2 := Hck.out w2 hW2
      have hl2 : (I1 ++ [(⟨1, M + 1, 0, []⟩ : InstP)]).length = M + 1 := by rw [List.length_append, Hl0.out]; rfl
      have hszz := Hsz.out
      have hMM := HM.out
      have hc := Hcall.out w2 _ p2 hW2 (by rw [hl2]; omega)
      rw [hl2] at hc
      have HC := Lib.hid hc; have Q2 := Lib.hid q2; have HW2 := Lib.hid hW2
      clear p2 q2 hc hl2 hW2 b2 hszz hMM
      go_wp2_with fail
      refine HC.out.mono ?_
      rintro e w3 ⟨rfl, p3, q3⟩
      have hW3 := QK.from HW2.out q3
      have hl3 : (I1 ++ [(⟨1, M + 1, 0, []⟩ : InstP)] ++ k.code (M + 1)).length = M + 1 + len := by rw [List.length_append, List.length_append, Hl0.out, Hcl.out]; rfl
      have e4 : I1 ++ [(⟨1, M + 1, 0, []⟩ : InstP)] ++ k.code (M + 1) ++ [⟨1, M, M, []⟩] = I1 ++ ((⟨1, M + 1, 0, []⟩ : InstP) :: (k.code (M + 1) ++ [⟨1, M, M, []⟩])) := by simp
      have hszz := Hsz.out
      have hMM := HM.out
      have hs3 := hW3.size
      have he := vEmit ⟨⟨1, M, M, []⟩, none, 0⟩ w3 g _ p3 hs3 hBg (by exact RowT.nil) (by rw [hl3]; omega)
      have f4 : (I1 ++ ((⟨1, M + 1, 0, []⟩ : InstP) :: (k.code (M + 1) ++ [⟨1, M, M, []⟩])))[M]? = some ⟨1, M + 1, 0, []⟩ := by
        rw [List.getElem?_append_right (by rw [Hl0.out]; exact Nat.le_refl _), Hl0.out, Nat.sub_self]; rfl
      have l4 : (I1 ++ ((⟨1, M + 1, 0, []⟩ : InstP) :: (k.code (M + 1) ++ [⟨1, M, M, []⟩]))).length = M + (len + 2) := by rw [← e4, List.length_append, hl3]; simp; omega
      rw [e4] at he
      have e5 := set_mid I1 (⟨1, M + 1, 0, []⟩ : InstP) ⟨1, M + 1, M + (len + 2), []⟩ (k.code (M + 1) ++ [⟨1, M, M, []⟩]) Hl0.out
      rw [← HI1.out] at e5
      obtain ⟨I4, hI4⟩ : ∃ I4, I1 ++ ((⟨1, M + 1, 0, []⟩ : InstP) :: (k.code (M + 1) ++ [⟨1, M, M, []⟩])) = I4 := ⟨_, rfl⟩
      rw [HI1.out] at e5
      rw [hI4] at he f4 l4 e5
      obtain ⟨N4, hN4⟩ : ∃ N4, M + (len + 2) = N4 := ⟨_, rfl⟩
      rw [hN4] at l4 e5
      rw [← HI1.out] at e5
      have He := Lib.hid he; have HW3 := Lib.hid hW3; have Q3 := Lib.hid q3; have E5 := Lib.hid e5; have F4 := Lib.hid f4; have L4 := Lib.hid l4; have HN4 := Lib.hid hN4
      clear he hW3 q3 p3 hl3 e4 e5 f4 l4 hI4 hN4 hszz hMM hs3
      go_wp2_with fail
      refine He.out.mono ?_
      rintro e w4 ⟨rfl, p4, q4⟩
      have Q4 := Lib.hid q4
      clear q4
      go_upto_region 9 with fail
      have pD : ProgIs W0 W0.heap.size (.slice A ns.length c) w4.drew g I4 := p4.below (Below.refl _ _).drew
      obtain ⟨gI, m, d1, -, d3, -, d5⟩ := pD.patch F4.out
      rw [L4.out] at d1 d5
      have z4 : (M : Int) < (N4 : Int) := by have := HN4.out; omega
      have sS : ProgIs W0 W0.heap.size (.slice A ns.length c) w4.drew g I4 ∧ w4.drew.cell? ⟨g, 1, none⟩ = some (.slice (some ⟨gI, 0, none⟩) N4 m) ∧ w4.drew.cell? ⟨gI, M * 4 + 2, none⟩ = some (.int .i64 (0 : Nat)) ∧ w4.drew.frozen? ⟨gI, M * 4 + 2, none⟩ = false := ⟨pD, d1, d3.1, d3.2⟩
      obtain ⟨p5, q5, -, -, -⟩ := d5 N4
      have P5 := Lib.hid p5; have Q5 := Lib.hid q5
      clear p5 q5 d5 p4 pD
      refine wp_region_N (fun w' => ProgIs W0 W0.heap.size (.slice A ns.length c) w' g I4 ∧ w'.cell? ⟨g, 1, none⟩ = some (.slice (some ⟨gI, 0, none⟩) N4 m) ∧ w'.cell? ⟨gI, M * 4 + 2, none⟩ = some (.int .i64 (0 : Nat)) ∧ w'.frozen? ⟨gI, M * 4 + 2, none⟩ = false) 9 (by kernel_rfl) ?_
      apply wpAnyN_takeT 0 (by kernel_rfl) rfl (fun _ _ _ h => h) (by kernel_rfl) sS
      · intro w' hS'
        go_simp; exact ⟨rfl, rfl⟩
      (try simp only [Act.put]); (try simp only [List.setIfInBounds_toArray]); (try simp only [List.set])
      apply wpAnyN_takeT 1 (by kernel_rfl) rfl (fun _ _ _ h => h) (by kernel_rfl) sS
      · intro w' hS'
        go_simp; exact ⟨rfl, rfl⟩
      (try simp only [Act.put]); (try simp only [List.setIfInBounds_toArray]); (try simp only [List.set])
      apply wpAnyN_takeT 2 (by kernel_rfl) rfl (fun _ _ _ h => h) (by kernel_rfl) sS
      · intro w' hS'
        go_simp; exact ⟨rfl, rfl⟩
      (try simp only [Act.put]); (try simp only [List.setIfInBounds_toArray]); (try simp only [List.set])
      apply wpAnyN_takeT 3 (v := (.slice (some ⟨gI, 0, none⟩) N4 m)) (by kernel_rfl) rfl (fun _ _ _ h => h) (by kernel_rfl) sS
      · intro w' hS'
        (have hk := hS'.2.1; go_simp; exact ⟨rfl, rfl⟩)
      (try simp only [Act.put]); (try simp only [List.setIfInBounds_toArray]); (try simp only [List.set])
      apply wpAnyN_takeT 4 (by kernel_rfl) rfl (fun _ _ _ h => h) (by kernel_rfl) sS
      · intro w' hS'
        go_simp; exact ⟨rfl, rfl⟩
      (try simp only [Act.put]); (try simp only [List.setIfInBounds_toArray]); (try simp only [List.set])
      apply wpAnyN_takeT 5 (by kernel_rfl) rfl (fun _ _ _ h => h) (by kernel_rfl) sS
      · intro w' hS'
        go_simp; exact ⟨rfl, rfl⟩
      (try simp only [Act.put]); (try simp only [List.setIfInBounds_toArray]); (try simp only [List.set])
      apply wpAnyN_takeT 6 (v := (.int .i64 (N4 : Nat))) (by kernel_rfl) rfl (fun _ _ _ h => h) (by kernel_rfl) sS
      · intro w' hS'
        (have hst := vHere w' g I4 hS'.1; rw [L4.out] at hst; go_simp; exact ⟨rfl, hst⟩)
      (try simp only [Act.put]); (try simp only [List.setIfInBounds_toArray]); (try simp only [List.set])
      apply wpAnyN_takeT 7 (v := (.pointer (some ⟨gI, M * 4, none⟩))) (by kernel_rfl) rfl (fun _ _ _ h => h) (by kernel_rfl) sS
      · intro w' hS'
        (go_simp; exact ⟨rfl, rfl⟩)
      (try simp only [Act.put]); (try simp only [List.setIfInBounds_toArray]); (try simp only [List.set])
      apply wpAnyN_takeT 8 (v := (.pointer (some ⟨gI, M * 4 + 2, none⟩))) (by kernel_rfl) rfl (fun _ _ _ h => h) (by kernel_rfl) sS
      · intro w' hS'
        (go_simp; exact ⟨rfl, rfl⟩)
      (try simp only [Act.put]); (try simp only [List.setIfInBounds_toArray]); (try simp only [List.set])
      have cs := sS.2.2.1
      have fs := sS.2.2.2
      refine wpAnyN_runL 9 (by kernel_rfl) rfl (by kernel_rfl) (fun K hK => ?_)
      go_simp
      refine hK _ _ (fun h => absurd rfl h) ?_
      clear hK K cs fs sS
      (try simp only [Act.put])
      refine wpAnyN_done (by kernel_rfl) ?_ _
      have hfin := P5.out
      have hy : (⟨1, M + 1, N4, []⟩ : InstP) = ⟨1, M + 1, M + (len + 2), []⟩ := by rw [HN4.out]
      rw [E5.out, hy, List.append_assoc] at hfin
      have hq5 := ((((QX.out.trans hq.out).trans Q2.out).trans Q3.out).trans Q4.out).trans ((QK.of_below (Below.refl _ _).drew (QK.from HW3.out Q4.out).size).trans Q5.out)
      have HF := Lib.hid hfin; have HQ := Lib.hid hq5
      clear hfin hq5
      go_wp2
      refine bodyPost_ret (results_none rfl _ _ _) rfl ?_
      exact ⟨rfl, HF.out, HQ.out⟩
end Go.Proofs.YtmcacicopgckmaaGreatDoor

/-! garnerref18: node, digit, in -/
namespace Go.Proofs.YtmcacicopgckmaaGreatDoor
open Go.RowKit Garner
section
variable {F : Nat → Prop}
set_option maxRecDepth 100000 in
set_option maxHeartbeats 8000000 in
/-- a node more, whatever it is -/
theorem nodeW (g N0 : Nat) (s : Value) (a de mo : Int) (bd : Bool) (O : Option Addr) (n m : Nat) (xs : List Value) (kk mn mx : Int) (kA : Option Addr) (kn kc : Nat) (sA : Option Addr) (sn sc : Nat) (w : World) (hN : N0 = n)
    (hb : Blk w g 66 [s, .int .i64 a, .slice O n m, .int .i64 de, .int .i64 mo, .bool bd]) (ho : w.ownsRow (g + 1) 94 5 (.slice O n m) n xs) (hn : n < 1000000000) :
    Calls Tryz.prog 69 #[.pointer (some ⟨g, 0, none⟩), .agg #[.int .i64 kk, .slice kA kn kc, .int .i64 mn, .int .i64 mx, .slice sA sn sc]] w fun e w' => e = .returned (.int .i64 (n : Nat)) ∧ QP g w w' ∧ ∃ O2 m2, Blk w' g 66 [s, .int .i64 a, .slice O2 (n + 1) m2, .int .i64 de, .int .i64 mo, .bool bd] ∧ w'.ownsRow (g + 1) 94 5 (.slice O2 (n + 1) m2) (n + 1) (xs ++ [.int .i64 kk, .slice kA kn kc, .int .i64 mn, .int .i64 mx, .slice sA sn sc]) := by
  have hg := hb.lt
  obtain ⟨CS, hCS⟩ : ∃ CS : List Value, CS = [.int .i64 kk, .slice kA kn kc, .int .i64 mn, .int .i64 mx, .slice sA sn sc] := ⟨_, rfl⟩
  obtain ⟨X, hX⟩ : ∃ X, X = w.alloc (.cells CS.toArray 94) := ⟨_, rfl⟩
  have hwX : Below w.heap.size w X := by rw [hX]; exact (Below.refl _ _).alloc (Nat.le_refl _) _
  have bX : Blk X w.heap.size 94 CS := by rw [hX]; exact Blk.new w _ _
  have bP := hb.below hwX hb.lt
  have oX := own_below ho hwX
  have hone : ∀ u ∈ CS, u.oneCell' = true := by rw [hCS]; simp [Value.oneCell']
  have hX' : X = w.alloc (.cells #[.int .i64 kk, .slice kA kn kc, .int .i64 mn, .int .i64 mx, .slice sA sn sc] 94) := by rw [hX, hCS]
  rw [hCS] at bX
  go_enter Tryz.func69, Tryz.ntmps69
  go_upto_region 1 with fail
  rw [← hX']
  clear hX' hX
  have sS : Blk X.drew g 66 [s, .int .i64 a, .slice O n m, .int .i64 de, .int .i64 mo, .bool bd] ∧ Blk X.drew w.heap.size 94 [.int .i64 kk, .slice kA kn kc, .int .i64 mn, .int .i64 mx, .slice sA sn sc] := ⟨bP, bX⟩
  refine wp_region_N (fun w' => Blk w' g 66 [s, .int .i64 a, .slice O n m, .int .i64 de, .int .i64 mo, .bool bd] ∧ Blk w' w.heap.size 94 [.int .i64 kk, .slice kA kn kc, .int .i64 mn, .int .i64 mx, .slice sA sn sc]) 10 (by kernel_rfl) ?_
  apply wpAnyN_takeL 0 (by kernel_rfl) rfl (fun _ _ _ h => h) (by kernel_rfl) sS
  · intro w' hS'
    go_simp; exact ⟨rfl, rfl⟩
  (try simp only [Act.put]); (try simp only [List.setIfInBounds_toArray]); (try simp only [List.set])
  apply wpAnyN_takeL 1 (by kernel_rfl) rfl (fun _ _ _ h => h) (by kernel_rfl) sS
  · intro w' hS'
    go_simp; exact ⟨rfl, rfl⟩
  (try simp only [Act.put]); (try simp only [List.setIfInBounds_toArray]); (try simp only [List.set])
  apply wpAnyN_takeL 2 (by kernel_rfl) rfl (fun _ _ _ h => h) (by kernel_rfl) sS
  · intro w' hS'
    go_simp; exact ⟨rfl, rfl⟩
  (try simp only [Act.put]); (try simp only [List.setIfInBounds_toArray]); (try simp only [List.set])
  apply wpAnyN_takeL 3 (by kernel_rfl) rfl (fun _ _ _ h => h) (by kernel_rfl) sS
  · intro w' hS'
    go_simp; exact ⟨rfl, rfl⟩
  (try simp only [Act.put]); (try simp only [List.setIfInBounds_toArray]); (try simp only [List.set])
  apply wpAnyN_takeL 4 (v := (.slice O n m)) (by kernel_rfl) rfl (fun _ _ _ h => h) (by kernel_rfl) sS
  · intro w' hS'
    (have hk : w'.cell? ⟨g, 2, none⟩ = some (.slice O n m) := hS'.1.cell 2; go_simp; exact ⟨rfl, rfl⟩)
  (try simp only [Act.put]); (try simp only [List.setIfInBounds_toArray]); (try simp only [List.set])
  apply wpAnyN_takeL 5 (v := (.agg #[.int .i64 kk, .slice kA kn kc, .int .i64 mn, .int .i64 mx, .slice sA sn sc])) (by kernel_rfl) rfl (fun _ _ _ h => h) (by kernel_rfl) sS
  · intro w' hS'
    (have k0 := hS'.2.cell 0; have k1 := hS'.2.cell 1; have k2 := hS'.2.cell 2; have k3 := hS'.2.cell 3; have k4 := hS'.2.cell 4; go_simp; exact ⟨rfl, rfl⟩)
  (try simp only [Act.put]); (try simp only [List.setIfInBounds_toArray]); (try simp only [List.set])
  refine wpAnyN_runL 6 (by kernel_rfl) rfl (by kernel_rfl) (fun K hK => ?_)
  go_simp
  obtain ⟨Y, hY⟩ : ∃ Y, Y = (X.alloc (.cells #[.int .i64 kk, .slice kA kn kc, .int .i64 mn, .int .i64 mx, .slice sA sn sc] 94)).drew := ⟨_, rfl⟩
  rw [← hY]
  have hXY : Below X.heap.size X Y := by rw [hY]; exact ((Below.refl _ _).alloc (Nat.le_refl _) _).drew
  have y1 := bP.below hXY bP.lt
  have y2 := Blk.below bX hXY bX.lt
  have y3 := own_below oX hXY
  have xrow : Row Y (X.heap.size + 1) 5 (some ⟨X.heap.size, 0, none⟩) 1 CS := by
    rw [hY, hCS]; exact (row_newN X 94 5 1 [.int .i64 kk, .slice kA kn kc, .int .i64 mn, .int .i64 mx, .slice sA sn sc] rfl).drew
  have hwY : Below w.heap.size w Y := hwX.trans (hXY.mono hwX.size)
  have sY := hwY.size
  clear hY oX bP bX
  have sT : Blk Y g 66 [s, .int .i64 a, .slice O n m, .int .i64 de, .int .i64 mo, .bool bd] ∧ Blk Y w.heap.size 94 [.int .i64 kk, .slice kA kn kc, .int .i64 mn, .int .i64 mx, .slice sA sn sc] := ⟨y1, y2⟩
  refine hK _ _ (fun _ => sT) ?_
  clear hK K
  (try simp only [Act.put]); (try simp only [List.setIfInBounds_toArray]); (try simp only [List.set])
  refine wpAnyN_runL 7 (by kernel_rfl) rfl (by kernel_rfl) (fun K hK => ?_)
  refine wp_app Y nodeE rfl rfl y3 rfl xrow hone (by omega) (by omega) ?_
  intro v W q hg6 hb6 hv6
  have hty := own_typed y3
  have nB : ∀ k cs t, Blk Y k t cs → t ≠ 94 → some k ≠ (Value.slice O n m).ownBlock := fun k cs t hk ht e => by
    obtain ⟨cs', t', z, h1, h2⟩ := hty k e.symm
    unfold Blk at hk
    rw [hk] at h1
    cases h1
    exact ht h2
  have z1 := y1.grown hg6 (nB _ _ _ y1 (by decide))
  have nZ : some w.heap.size ≠ (Value.slice O n m).ownBlock := fun e => by
    have h1 := (own_ge ho w.heap.size (by rw [← e]; simp)).2
    omega
  have z2 := y2.grown hg6 nZ
  have kW : KeepT PT8 w W := (KeepT.of_below hwY).trans (.grown hg6 fun k hk => by
    obtain ⟨cs, t, z, h1, h2⟩ := hty k hk
    exact ⟨cs, t, z, h1, by rw [h2]; simp⟩)
  have lW : Below g w W := (hwY.mono (by omega)).trans (hb6.mono (by omega))
  obtain ⟨O2, m2, rfl, -⟩ := own_form q
  have sU : Blk W g 66 [s, .int .i64 a, .slice O n m, .int .i64 de, .int .i64 mo, .bool bd] ∧ Blk W w.heap.size 94 [.int .i64 kk, .slice kA kn kc, .int .i64 mn, .int .i64 mx, .slice sA sn sc] := ⟨z1, z2⟩
  have cb : W.cell? ⟨g, 2, none⟩ = some (.slice O n m) := z1.cell 2
  have fb := z1.frozen 2
  refine hK _ _ (fun _ => sU) ?_
  clear hK K
  (try simp only [Act.put]); (try simp only [List.setIfInBounds_toArray]); (try simp only [List.set])
  refine wpAnyN_runL 8 (by kernel_rfl) rfl (by kernel_rfl) (fun K hK => ?_)
  go_simp
  refine hK _ _ (fun _ => sU) ?_
  clear hK K
  (try simp only [Act.put]); (try simp only [List.setIfInBounds_toArray]); (try simp only [List.set])
  refine wpAnyN_runL 9 (by kernel_rfl) rfl (by kernel_rfl) (fun K hK => ?_)
  go_simp
  refine hK _ _ (fun _ => sU) ?_
  clear hK K
  (try simp only [Act.put]); (try simp only [List.setIfInBounds_toArray]); (try simp only [List.set])
  refine wpAnyN_runL 10 (by kernel_rfl) rfl (by kernel_rfl) (fun K hK => ?_)
  go_simp
  refine hK _ _ (fun h => absurd rfl h) ?_
  clear hK K
  (try simp only [Act.put])
  refine wpAnyN_done (by kernel_rfl) ?_ _
  have e1 : IntKind.i64.wrap ((n : Int) + 1 - 1) = (n : Int) := by rw [IntKind.wrap_i64]; omega
  have b3 := z1.set_ 2 (.slice O2 (n + 1) m2)
  have k3 : KeepT PT8 w (W.setCell ⟨g, 2, none⟩ (.slice O2 (n + 1) m2)) := kW.setCell (p := ⟨g, 2, none⟩) z1 (by simp) _
  have l3 : Below g w (W.setCell ⟨g, 2, none⟩ (.slice O2 (n + 1) m2)) := lW.setCell (p := ⟨g, 2, none⟩) (Nat.le_refl _) _
  have o3 := own_but q ((But.refl [g] W).setCell (p := ⟨g, 2, none⟩) (by simp) (.slice O2 (n + 1) m2)) (fun k hk hm => by
    simp only [List.mem_singleton] at hm
    subst hm
    exact own_blk q z1 (by decide) (by rw [hk]; simp))
  rw [hCS] at o3
  have B3 := Lib.hid b3; have K3 := Lib.hid k3; have L3 := Lib.hid l3; have O3 := Lib.hid o3
  have kc := b3.cell 2
  clear b3 k3 l3 o3 kW lW z1 z2 sU q hty nB nZ
  go_wp2
  go_ret
  exact ⟨rfl, ⟨K3.out, L3.out⟩, O2, m2, B3.out, O3.out⟩
theorem qNode (d : NodeD) (g N : Nat) (w : World) (rs : List Nat) (ns : List NodeP) (deep most : Nat) (h : QS F w g N rs ns deep most) (hd : NodeOk F w d) (hn : ns.length < 100000) :
    Calls Tryz.prog 69 #[.pointer (some ⟨g, 0, none⟩), d.v] w fun e w' => e = .returned (.int .i64 (ns.length : Nat)) ∧ QS F w' g N rs (ns ++ [d.n]) deep most ∧ QP g w w' := by
  obtain ⟨A, c, O, m, rs0, p, h1, h2, h3, ⟨ds, hds, hown, hall⟩, h5⟩ := h.ex
  refine (nodeW g ns.length _ _ _ _ false O ns.length m _ _ _ _ _ _ _ _ _ _ w rfl h1 hown (by omega)).mono ?_
  rintro e w' ⟨rfl, hk, O2, m2, b2, o2⟩
  refine ⟨rfl, ⟨⟨A, c, O2, m2, rs0, p, ?_, h2.keep hk.keep (by decide), h3, ⟨ds ++ [d], by rw [List.map_append, hds]; rfl, ?_, ?_⟩, h5⟩, fun k hk' => Nat.lt_of_lt_of_le (h.hF k hk') hk.keep.size, h.dm, h.mb, by rw [List.length_append]; show ns.length + 1 ≤ _; omega, h.lb⟩, hk⟩
  · rw [List.length_append]; exact b2
  · rw [List.length_append, List.flatMap_append]
    have e : ([d] : List NodeD).flatMap NodeD.cells = d.cells := by simp
    rw [e]
    exact o2
  · intro x hx
    rcases List.mem_append.1 hx with hx | hx
    · exact (hall x hx).keep hk.keep (by decide) (by decide)
    · rw [List.mem_singleton.1 hx]; exact hd.keep hk.keep (by decide) (by decide)
theorem xNode (kk mn mx : Int) (kA : Option Addr) (kn kc : Nat) (sA : Option Addr) (sn sc : Nat) (g n : Nat) (w : World) (h : QX w g n) (hn : n < 1000000000) :
    Calls Tryz.prog 69 #[.pointer (some ⟨g, 0, none⟩), .agg #[.int .i64 kk, .slice kA kn kc, .int .i64 mn, .int .i64 mx, .slice sA sn sc]] w fun e w' => e = .returned (.int .i64 (n : Nat)) ∧ QX w' g (n + 1) ∧ QP g w w' := by
  obtain ⟨s, a, de, mo, O, m, xs, h1, h2, h3⟩ := h
  refine (nodeW g n s a de mo true O n m xs kk mn mx kA kn kc sA sn sc w rfl h1 h2 hn).mono ?_
  rintro e w' ⟨rfl, hk, O2, m2, b2, o2⟩
  exact ⟨rfl, ⟨s, a, de, mo, O2, m2, _, b2, o2, fun u hu => by
    rcases List.mem_append.1 hu with hu | hu
    · exact h3 u hu
    · simp at hu
      rcases hu with rfl | rfl | rfl | rfl | rfl <;> rfl⟩, hk⟩
set_option maxRecDepth 100000 in
set_option maxHeartbeats 8000000 in
/-- is a rune one of a text's? -/
theorem qIn (r : Int) (S : ByteArray) (l : Bs) (hS : S = ⟨l.toArray⟩) (w : World) (hl : l.length ≤ 100) :
    Calls Tryz.prog 131 #[.int .i32 r, .string S] w fun e w' => e = .returned (.bool (l.any fun c => decide ((c.toNat : Int) = r))) ∧ w' = w := by
  have hidx : ∀ k, k < l.length → ∀ z : Int, z = (k : Int) → (Instr.index 9 (.string S) (.int .i64 z)).run Tryz.prog w = .ok (.int .u8 (byteN l k : Nat)) w := fun k hk z hz => idx_byte (P := Tryz.prog) 9 Tryz.underlying9 S l hS z k hz hk w
  have zS : S.size = l.length := by rw [hS]; exact str_size l
  obtain ⟨ANS, hANS⟩ : ∃ ANS, (l.any fun c => decide ((c.toNat : Int) = r)) = ANS := ⟨_, rfl⟩
  obtain ⟨N, hN⟩ : ∃ N, l.length = N := ⟨_, rfl⟩
  rw [hN] at hl zS hidx
  rw [hANS]
  have HI := Lib.hid hidx; have HA := Lib.hid hANS; have HN := Lib.hid hN
  clear hidx hANS hN hS
  go_enter Tryz.func131, Tryz.ntmps131
  go_wp2
  go_loopw [5] (fun i wr => ∃ k : Nat, k ≤ N ∧ i = .int .i64 k ∧ Hid ((l.take k).any (fun c => decide ((c.toNat : Int) = r)) = false) ∧ wr = w) (fun i _ => N - (intOf i).toNat)
  case atStart => exact ⟨0, Nat.zero_le _, rfl, Lib.hid rfl, rfl⟩
  case round =>
    obtain ⟨k, hk, rfl, hno, hwr⟩ := hrel
    obtain rfl : w = wr := hwr.symm
    have wk1 : IntKind.i64.wrap ((k : Int) + 1) = ((k + 1 : Nat) : Int) := by rw [IntKind.wrap_i64]; omega
    by_cases hlt : k < N
    · have z1 : (k : Int) < (N : Int) := by omega
      obtain ⟨c, hc⟩ : ∃ c, l[k]? = some c := ⟨_, List.getElem?_eq_getElem (by rw [HN.out]; exact hlt)⟩
      have i1 := HI.out k hlt (k : Int) rfl
      have eb : byteN l k = c.toNat := by unfold byteN; rw [List.getD, hc]; rfl
      rw [eb] at i1
      have hcl := UInt8.toNat_lt c
      have w1 : IntKind.i32.wrap (c.toNat : Int) = (c.toNat : Int) := by rw [IntKind.wrap_i32]; omega
      have htk : (l.take (k + 1)).any (fun c => decide ((c.toNat : Int) = r)) = decide ((c.toNat : Int) = r) := by
        rw [List.take_add_one, hc, Option.toList_some, List.any_append, hno.out]; simp
      obtain ⟨q, hq⟩ : ∃ q, c.toNat = q := ⟨_, rfl⟩
      rw [hq] at i1 w1 htk hcl
      by_cases he : (q : Int) = r
      · have hans : ANS = true := by
          rw [← HA.out, List.any_eq_true]
          exact ⟨c, List.mem_of_getElem? hc, by rw [hq]; exact decide_eq_true he⟩
        have HAn := Lib.hid hans
        clear htk hc eb hq hno hans
        go_wp2
        go_ret
        exact ⟨by rw [HAn.out]; rfl, rfl⟩
      · rw [decide_eq_false he] at htk
        have HT := Lib.hid htk
        clear htk hc eb hq hno
        go_wp2
        go_roundw
        case rel => exact ⟨k + 1, by omega, by go_num, HT, by first | rfl | trivial⟩
        case measure => simp [intOf]; omega
    · obtain rfl : k = N := by omega
      have z1 : ¬ (k : Int) < (k : Int) := by omega
      have hans : ANS = false := by
        rw [← HA.out, ← hno.out, List.take_of_length_le (by rw [HN.out]; exact Nat.le_refl _)]
      have HAn := Lib.hid hans
      clear hno hans
      go_wp2
      go_ret
      exact ⟨by rw [HAn.out]; rfl, rfl⟩
end
end Go.Proofs.YtmcacicopgckmaaGreatDoor

