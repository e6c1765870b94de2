import Derived.Test.YtecejnilajbdpaaGreatDoorTz30
set_option maxRecDepth 100000
set_option maxHeartbeats 16000000
namespace Go.Proofs.YtecejnilajbdpaaGreatDoor
open Go.RowKit Garner
theorem altP_app : ∀ (a m : List Re) (p e : Nat), altP (a ++ m) p e = altP a p e ++ altP m (p + altPL a) e
 | [], m, p, e => by simp [altP, altPL]
 | u :: a, m, p, e => by
  have ih := altP_app a m (p + (u.len + 2)) e
  rw [show p + (u.len + 2) + altPL a = p + altPL (u :: a) by rw [altPL]; omega] at ih
  rw [List.cons_append, altP, ih, altP]
  simp
theorem outP_app : ∀ (a m : List Re) (p : Nat), outP (a ++ m) p = outP a p ++ outP m (p + altPL a)
 | [], m, p => by simp [outP, altPL]
 | u :: a, m, p => by
  have ih := outP_app a m (p + (u.len + 2))
  rw [show p + (u.len + 2) + altPL a = p + altPL (u :: a) by rw [altPL]; omega] at ih
  rw [List.cons_append, outP, ih, outP]; rfl
theorem vAltI {W0 : World} {A : Option Addr} {c : Nat} {ns : List NodeP} (l : List Re) (hne : l ≠ []) (hl : l.length ≤ 10000) (ih : ∀ t ∈ l, CodeC W0 A c ns t) (b : Nat) (hat : AtN ns b (flats b l)) (kA : Option Addr) (kl kc : Nat) (hkl : l.length = kl) (w : World) (g : Nat) (ins : List InstP)
  (hkids : RowT W0 3 kA kl ((roots b l).map iv)) (hBg : W0.heap.size ≤ g) (hp : ProgIs W0 W0.heap.size (.slice A ns.length c) w g ins) (hb : Below W0.heap.size W0 w) (hsz : ins.length + altLen l ≤ 90000) :
  Calls Tryz.prog 128 #[.pointer (some ⟨g, 0, none⟩), .slice kA kl kc] w fun e w' => e = .returned (.tuple #[]) ∧ ProgIs W0 W0.heap.size (.slice A ns.length c) w' g (ins ++ altC l ins.length (ins.length + altLen l)) ∧ QK W0.heap.size w w' := by
 obtain ⟨N, hNs⟩ : ∃ N, ins.length = N := ⟨_, rfl⟩
 obtain ⟨E, hE⟩ : ∃ E, N + altLen l = E := ⟨_, rfl⟩
 rw [hNs, hE] at hsz
 rw [hNs, hE]
 have hpos : 0 < kl := by rw [← hkl]; exact List.length_pos_iff.2 hne
 rw [hkl] at hl
 have hB0 := hb.size
 have HB0 := Lh hB0; have P0 := Lh hp; have HB := Lh hb; have Hk := Lh hkids; have Hat := Lh hat; have Hih := Lh ih; have Hkl := Lh hkl; have HNs := Lh hNs; have HE := Lh hE
 have wL : IntKind.i64.wrap ((kl : Int) - 1) = ((kl - 1 : Nat) : Int) := by rw [IntKind.wrap_i64]; omega
 clear hB0 hp hb hkids hat ih hkl hNs hE hne
 go_enter Tryz.func128, Tryz.ntmps128
 go_wp2
 go_loopw [4, 12] (fun v i wr => ∃ (j : Nat) (ts : List Re) (X : List InstP), j ≤ kl ∧ i = .int .i64 j ∧ wr.ownsRow w.heap.size 3 1 v ts.length ((outP ts N).map iv) ∧ Hid (ProgIs W0 W0.heap.size (.slice A ns.length c) wr g (ins ++ (altP ts N 0 ++ X))) ∧ Hid (QK W0.heap.size w wr) ∧ Hid ((j < kl → ts = l.take j ∧ X = []) ∧ (j = kl → ∃ t, l = ts ++ [t] ∧ X = t.code (N + altPL ts))) ∧ ts.length ≤ kl) (fun _ i _ => kl - (intOf i).toNat)
 case atStart => exact ⟨0, [], [], Nat.zero_le _, rfl, World.ownsRow_nil _ _ _ _, Lh (by simpa [altP] using P0.out), Lh (.refl _ _), Lh ⟨fun _ => ⟨rfl, rfl⟩, fun h => (by omega)⟩, Nat.zero_le _⟩
 obtain ⟨j, ts, X, hj, rfl, hown, hps, hq, hst, htl⟩ := hrel
 obtain ⟨wo, rfl⟩ : ∃ wo : World, wo = wr := ⟨_, rfl⟩
 obtain ⟨A3, c3, rfl, hc3⟩ := own_form hown
 obtain ⟨n3, hn3⟩ : ∃ n3, ts.length = n3 := ⟨_, rfl⟩
 have Hn3 := Lh hn3
 rw [hn3] at hown htl ⊢
 have wk1 := wS j (by omega)
 by_cases hlt : j < kl
 ·have z1 : (j : Int) < (kl : Int) := by omega
  obtain ⟨hts, rfl⟩ := hst.out.1 hlt
  obtain ⟨t, ht⟩ : ∃ t, l[j]? = some t := ⟨_, List.getElem?_eq_getElem (by rw [Hkl.out]; exact hlt)⟩
  have hW : Below W0.heap.size W0 wo := QK.from HB.out hq.out
  have hroot := kid_root ht b
  have hrow := Hk.out.below hW
  obtain ⟨bk, ok, rfl, ck0⟩ := hrow.at_ (k := j) (u := iv _) (by rw [List.getElem?_map, hroot]; rfl)
  obtain ⟨r, hr⟩ : ∃ r, b + cnts (l.take j) + t.cnt - 1 = r := ⟨_, rfl⟩
  rw [hr] at ck0
  have ckid : wo.cell? ⟨bk, ok + j, none⟩ = some (.int .i64 (r : Nat)) := ck0
  have hcall : ∀ (wx : World) (Y : List InstP), ProgIs W0 W0.heap.size (.slice A ns.length c) wx g Y → Below W0.heap.size W0 wx → Y.length + t.len ≤ 90000 → Calls Tryz.prog 93 #[.pointer (some ⟨g, 0, none⟩), .int .i64 (r : Nat)] wx fun e w' => e = .returned (.tuple #[]) ∧ ProgIs W0 W0.heap.size (.slice A ns.length c) w' g (Y ++ t.code Y.length) ∧ QK W0.heap.size wx w' := fun wx Y h1 h2 h3 => by
   have := Hih.out t (List.mem_of_getElem? ht) (b + cnts (l.take j)) wx g Y (kid_nodes ht Hat.out) hBg h1 h2 h3
   rw [hr] at this
   exact this
  have hps2 := hps.out
  rw [List.append_nil] at hps2
  have hl2 : (ins ++ altP ts N 0).length = N + altPL ts := by rw [List.length_append, altP_len, HNs.out]
  obtain ⟨a, m, el, hja, h3, h4⟩ := split_at ht
  have eta : ts = a := by rw [hts, h3]
  obtain ⟨P, hP⟩ : ∃ P, N + altPL ts = P := ⟨_, rfl⟩
  rw [hP] at hl2
  by_cases hlast : j < kl - 1
  ·have z2 : (j : Int) < ((kl - 1 : Nat) : Int) := by omega
   have hPE : P + (t.len + 2) ≤ E := by
    have hm : m ≠ [] := fun e => by
     have := congrArg List.length el
     rw [e, Hkl.out, List.length_append, hja] at this
     simp at this; omega
    rw [← HE.out, ← hP, el, eta]
    have : ∀ (a m : List Re), m ≠ [] → altPL a + (t.len + 2) ≤ altLen (a ++ t :: m) := fun a => by
     induction a with
     | nil => intro m hm; cases m with
      | nil => exact absurd rfl hm
      | cons u m => simp only [List.nil_append, altPL, altLen]; omega
     | cons u a ih => intro m hm; have := ih m hm; cases a with
      | nil => simp only [List.cons_append, List.nil_append, altPL, altLen] at this ⊢; omega
      | cons v a => simp only [List.cons_append, altPL, altLen] at this ⊢; omega
    have := this a m hm
    omega
   obtain ⟨len, hlen⟩ : ∃ len, t.len = len := ⟨_, rfl⟩
   have hcl := code_len t
   rw [hlen] at hPE hcl hcall
   obtain ⟨Q, hQ⟩ : ∃ Q, P + (len + 1) = Q := ⟨_, rfl⟩
   have hout : outP (ts ++ [t]) N = outP ts N ++ [Q] := by rw [outP_snoc, hP, hlen, hQ]
   have hnew : ∀ I2, ins ++ altP ts N 0 = I2 → ins ++ (altP (ts ++ [t]) N 0 ++ []) = I2 ++ ((⟨1, P + 1, P + (len + 2), []⟩ : InstP) :: (t.code (P + 1) ++ [⟨1, 0, 0, []⟩])) := fun I2 h => by rw [← h, altP_snoc, hP, hlen]; simp
   have htk : ts ++ [t] = l.take (j + 1) := by rw [h4, eta]
   obtain ⟨I2, hI2⟩ : ∃ I2, ins ++ altP ts N 0 = I2 := ⟨_, rfl⟩
   have hnew2 := hnew I2 hI2
   rw [hI2] at hps2 hl2
   have hh := vHere _ g I2 hps2
   have he := vEmit ⟨⟨1, P + 1, 0, []⟩, none, 0⟩ wo g I2 hps2 hW.size hBg (by exact RowT.nil) (by omega)
   rw [hl2] at hh he
   have wP := wS P (by omega)
   have hP0 : (0 : Int) ≤ (P : Int) := by omega
   have hnj : n3 = j := by rw [← Hn3.out, eta, hja]
   have He := Lh he; have HW := Lh hW; have Hl2 := Lh hl2; have Hcall := Lh hcall; have Hcl := Lh hcl; have HQ := Lh hQ; have Hout := Lh hout; have Hnew := Lh hnew2; have Htk := Lh htk; have HPE := Lh hPE; have Hnj := Lh hnj
   have hsX : w.heap.size ≤ wo.heap.size := hq.out.keep.size
   clear he hW hl2 hcall hcl hQ hout hnew hnew2 htk hPE hP hlen hI2 hps hps2 el h3 h4 eta hts hrow hroot ht hr ck0 hja hst hn3 hnj
   go_wp2_with fail
   refine hh.mono ?_
   rintro e w1 ⟨rfl, rfl⟩
   go_wp2_with fail
   refine He.out.mono ?_
   rintro e w2 ⟨rfl, p2, q2⟩
   have own2 := q2.keep.own hown (by decide)
   have hW2 := QK.from HW.out q2
   have l2 : (I2 ++ [(⟨1, P + 1, 0, []⟩ : InstP)]).length = P + 1 := by rw [List.length_append, Hl2.out]; rfl
   have hPE := HPE.out
   have hQ := HQ.out
   have hc := Hcall.out w2 _ p2 hW2 (by rw [l2]; omega)
   rw [l2] at hc
   have HC := Lh hc; have Q2 := Lh q2; have HW2 := Lh hW2; have L2 := Lh l2
   have hs2 := q2.keep.size
   clear p2 q2 hc l2 hW2 hown hPE hQ
   go_wp2_with fail
   refine HC.out.mono ?_
   rintro e w3 ⟨rfl, p3, q3⟩
   have own3 := q3.keep.own own2 (by decide)
   have hW3 := QK.from HW2.out q3
   have hPE := HPE.out
   have hQ := HQ.out
   have l3 : (I2 ++ [(⟨1, P + 1, 0, []⟩ : InstP)] ++ t.code (P + 1)).length = Q := by rw [List.length_append, L2.out, Hcl.out]; omega
   have he3 := vEmit ⟨⟨1, 0, 0, []⟩, none, 0⟩ w3 g _ p3 hW3.size hBg (by exact RowT.nil) (by rw [l3]; omega)
   rw [l3] at he3
   have e4 : I2 ++ [(⟨1, P + 1, 0, []⟩ : InstP)] ++ t.code (P + 1) ++ [⟨1, 0, 0, []⟩] = I2 ++ ((⟨1, P + 1, 0, []⟩ : InstP) :: (t.code (P + 1) ++ [⟨1, 0, 0, []⟩])) := by simp
   have l4 : (I2 ++ ((⟨1, P + 1, 0, []⟩ : InstP) :: (t.code (P + 1) ++ [⟨1, 0, 0, []⟩]))).length = P + (len + 2) := by rw [← e4, List.length_append, l3]; show Q + 1 = _; omega
   have f4 : (I2 ++ ((⟨1, P + 1, 0, []⟩ : InstP) :: (t.code (P + 1) ++ [⟨1, 0, 0, []⟩])))[P]? = some ⟨1, P + 1, 0, []⟩ := by
    rw [List.getElem?_append_right (by rw [Hl2.out]; exact Nat.le_refl _), Hl2.out, Nat.sub_self]; rfl
   have e5 := set_mid I2 (⟨1, P + 1, 0, []⟩ : InstP) ⟨1, P + 1, P + (len + 2), []⟩ (t.code (P + 1) ++ [⟨1, 0, 0, []⟩]) Hl2.out
   rw [e4] at he3
   rw [← Hnew.out] at e5
   obtain ⟨I4, hI4⟩ : ∃ I4, I2 ++ ((⟨1, P + 1, 0, []⟩ : InstP) :: (t.code (P + 1) ++ [⟨1, 0, 0, []⟩])) = I4 := ⟨_, rfl⟩
   rw [hI4] at he3 l4 f4 e5
   obtain ⟨N4, hN4⟩ : ∃ N4, P + (len + 2) = N4 := ⟨_, rfl⟩
   rw [hN4] at l4 e5
   have hPN : (P : Int) < (N4 : Int) := by omega
   have He3 := Lh he3; have HW3 := Lh hW3; have Q3 := Lh q3; have L4 := Lh l4; have F4 := Lh f4; have E5 := Lh e5
   have hs3 := q3.keep.size
   clear p3 q3 he3 hW3 l3 e4 l4 f4 e5 hI4 hN4 own2 hPE hQ
   go_wp2_with fail
   refine He3.out.mono ?_
   rintro e w4 ⟨rfl, p4, q4⟩
   have own4 := q4.keep.own own3 (by decide)
   have P4 := Lh p4; have Q4 := Lh q4
   have hs4 := q4.keep.size
   clear p4 q4 own3
   go_upto_region 10 with (at_builtin; refine wpList_app _ rfl intE rfl rfl (own4.alloc _) rfl (row_new w4 _ [_]) (by simp [Value.oneCell']) (by first | omega | (simp; omega)) (by simp; omega) ?_; intro v8 w8 own8 hg8 hb8 hx8)
   have bA : Below w4.heap.size w4 (w4.alloc (.cells #[iv Q] 3)) := (Below.refl _ _).alloc (Nat.le_refl _) _
   have p8 := (P4.out.below bA).grown (own4.alloc _) hg8
   have q8 := ((((hq.out.trans Q2.out).trans Q3.out).trans Q4.out).then_below ((bA.mono (by omega)).trans hb8) HB0.out)
   have hW8 : Below W0.heap.size W0 w8 := QK.from HB.out q8
   have own9 : w8.ownsRow w.heap.size 3 1 v8 (n3 + 1) ((outP (ts ++ [t]) N).map iv) := by
    rw [Hout.out, List.map_append]
    exact own8
   have pD : ProgIs W0 W0.heap.size (.slice A ns.length c) w8.drew g I4 := p8.below (Below.refl _ _).drew
   obtain ⟨gI, m4, d1, -, d3, -, d5⟩ := pD.patch F4.out
   rw [L4.out] at d1 d5
   have sS : ProgIs W0 W0.heap.size (.slice A ns.length c) w8.drew g I4 ∧ w8.drew.cell? ⟨g, 1, none⟩ = some (.slice (some ⟨gI, 0, none⟩) N4 m4) ∧ w8.drew.cell? ⟨gI, P * 4 + 2, none⟩ = some (.int .i64 (0 : Nat)) ∧ w8.drew.frozen? ⟨gI, P * 4 + 2, none⟩ = false := ⟨pD, d1, d3.1, d3.2⟩
   obtain ⟨p5, q5, -, -, -⟩ := d5 N4
   rw [E5.out] at p5
   have hq5 := q8.trans ((QK.of_below (Below.refl _ _).drew hW8.size).trans q5)
   have o5 := q5.keep.own (own_below own9 (Below.refl _ _).drew) (by decide)
   have P5 := Lh p5; have Q5 := Lh hq5; have O5 := Lh o5
   clear p5 q5 d5 pD hq5 o5 own9 own8 own4 hg8 hb8 hx8 p8 q8 hW8 bA d1 d3
   refine rgQ (fun w' => ProgIs W0 W0.heap.size (.slice A ns.length c) w' g I4 ∧ w'.cell? ⟨g, 1, none⟩ = some (.slice (some ⟨gI, 0, none⟩) N4 m4) ∧ w'.cell? ⟨gI, P * 4 + 2, none⟩ = some (.int .i64 (0 : Nat)) ∧ w'.frozen? ⟨gI, P * 4 + 2, none⟩ = false) 9 (by kernel_rfl) (fun _ _ d _ _ h => by cases d <;> exact h) fun qP => ?_
   apply tkT 0 (by kernel_rfl) rfl (fun _ _ _ h => h) (by kernel_rfl) sS
   ·intro w' hS'; go_simp; exact ⟨rfl, rfl⟩
   apply tkT 1 (by kernel_rfl) rfl (fun _ _ _ h => h) (by kernel_rfl) sS
   ·intro w' hS'; go_simp; exact ⟨rfl, rfl⟩
   apply tkT 2 (by kernel_rfl) rfl (fun _ _ _ h => h) (by kernel_rfl) sS
   ·intro w' hS'; go_simp; exact ⟨rfl, rfl⟩
   apply tkT 3 (v := (.slice (some ⟨gI, 0, none⟩) N4 m4)) (by kernel_rfl) rfl (fun _ _ _ h => h) (by kernel_rfl) sS
   ·intro w' hS'; have hk := hS'.2.1; go_simp; exact ⟨rfl, rfl⟩
   apply tkT 4 (by kernel_rfl) rfl (fun _ _ _ h => h) (by kernel_rfl) sS
   ·intro w' hS'; go_simp; exact ⟨rfl, rfl⟩
   apply tkT 5 (by kernel_rfl) rfl (fun _ _ _ h => h) (by kernel_rfl) sS
   ·intro w' hS'; go_simp; exact ⟨rfl, rfl⟩
   apply tkT 6 (v := (.int .i64 (N4 : Nat))) (by kernel_rfl) rfl (fun _ _ _ h => h) (by kernel_rfl) sS
   ·intro w' hS'
    (have hst := vHere w' g I4 hS'.1; rw [L4.out] at hst; go_simp; exact ⟨rfl, hst⟩)
   apply tkT 7 (v := (.pointer (some ⟨gI, P * 4, none⟩))) (by kernel_rfl) rfl (fun _ _ _ h => h) (by kernel_rfl) sS
   ·intro w' hS'
    (go_simp; exact ⟨rfl, rfl⟩)
   apply tkT 8 (v := (.pointer (some ⟨gI, P * 4 + 2, none⟩))) (by kernel_rfl) rfl (fun _ _ _ h => h) (by kernel_rfl) sS
   ·intro w' hS'
    (go_simp; exact ⟨rfl, rfl⟩)
   (try simp only [Act.put]); (try simp only [List.setIfInBounds_toArray]); (try simp only [List.set])
   have cs := sS.2.2.1
   have fs := sS.2.2.2
   refine rnL 9 (by kernel_rfl) rfl (by kernel_rfl) (fun K hK => ?_)
   go_simp
   refine hK _ _ (fun h => absurd rfl h) ?_
   clear hK K cs fs sS
   (try simp only [Act.put])
   refine dnL (by kernel_rfl) ?_ _
   have hl9 : (ts ++ [t]).length = n3 + 1 := by rw [List.length_append, Hn3.out]; rfl
   have Hl9 := Lh hl9
   clear hl9
   go_wp2
   go_roundw
   case rel => exact ⟨j + 1, ts ++ [t], [], by omega, rfl, by rw [Hl9.out]; exact O5.out, P5, Q5, Lh ⟨fun _ => ⟨Htk.out, rfl⟩, fun h => (by omega)⟩, by rw [Hl9.out]; have := Hnj.out; omega⟩
   case measure => simp [intOf]; omega
  have hjk : j + 1 = kl := by omega
  have z2 : ¬ (j : Int) < ((kl - 1 : Nat) : Int) := by omega
  have hm : m = [] := by
   have := congrArg List.length el
   rw [Hkl.out, List.length_append, hja, List.length_cons] at this
   exact List.eq_nil_of_length_eq_zero (by omega)
  have hlt3 : l = ts ++ [t] := by rw [eta, el, hm]
  have hPE : P + t.len = E := by rw [← HE.out, ← hP, hlt3, altLen_snoc]; omega
  have hc := hcall wo _ hps2 hW (by rw [hl2]; omega)
  rw [hl2, List.append_assoc] at hc
  have HC := Lh hc; have HL := Lh hlt3; have HP := Lh hP
  have htl2 : n3 + 1 ≤ kl := by rw [← Hn3.out, eta, hja]; omega
  clear hc hcall hps hps2 hlt3 hP hl2 el h3 h4 eta hts hrow hroot ht hm hW hr ck0 hja hst hn3
  go_wp2_with fail
  refine HC.out.mono ?_
  rintro e w2 ⟨rfl, p2, q2⟩
  have o2 := q2.keep.own hown (by decide)
  have P2 := Lh p2; have Q2 := Lh q2; have O2 := Lh o2
  clear p2 q2 o2 hown
  go_wp2
  go_roundw
  case rel => exact ⟨j + 1, ts, t.code P, by omega, by first | rfl | rw [hjk], by rw [Hn3.out]; exact O2.out, P2, Lh (hq.out.trans Q2.out), Lh ⟨fun h => (by omega), fun _ => ⟨t, HL.out, by rw [HP.out]⟩⟩, by rw [Hn3.out]; omega⟩
  case measure => simp [intOf]; omega
 obtain rfl : j = kl := by omega
 have z1 : ¬ (j : Int) < (j : Int) := by omega
 obtain ⟨t, hlt4, hX⟩ := hst.out.2 rfl
 have hn3j : n3 ≤ 10000 := by omega
 have lE : ∀ Y : List InstP, Y.length = altPL ts → (ins ++ (Y ++ X)).length = E := fun Y hY => by
  rw [List.length_append, List.length_append, hY, hX, code_len, HNs.out, ← HE.out, hlt4, altLen_snoc]
 have hfin : altC l N E = altP ts N E ++ X := by rw [hlt4, altC_snoc, hX]
 have hW : Below W0.heap.size W0 wo := QK.from HB.out hq.out
 have LE := Lh lE; have HFin := Lh hfin; have HW := Lh hW
 clear lE hfin hX hlt4 hst hW
 go_wp2
 go_loopw [51] (fun i wr => ∃ (a : Nat) (x m : List Re), a ≤ n3 ∧ i = .int .i64 a ∧ wr.ownsRow w.heap.size 3 1 (.slice A3 n3 c3) n3 ((outP ts N).map iv) ∧ Hid (ProgIs W0 W0.heap.size (.slice A ns.length c) wr g (ins ++ ((altP x N E ++ altP m (N + altPL x) 0) ++ X))) ∧ Hid (QK W0.heap.size w wr) ∧ Hid (ts = x ++ m) ∧ x.length = a) (fun i _ => n3 - (intOf i).toNat)
 case atStart => exact ⟨0, [], ts, Nat.zero_le _, rfl, hown, Lh (by simpa [altP, altPL] using hps.out), hq, Lh rfl, rfl⟩
 obtain ⟨a, x, m, ha, rfl, hown3, hps3, hq3, hxm, hxa⟩ := hrel
 obtain ⟨wu, rfl⟩ : ∃ wu : World, wu = wr := ⟨_, rfl⟩
 have wa1 := wS a (by omega)
 by_cases hlt3 : a < n3
 ·have z3 : (a : Int) < (n3 : Int) := by omega
  cases m with
  | nil => exact absurd (congrArg List.length hxm.out) (by rw [Hn3.out, List.append_nil, hxa]; omega)
  | cons u m =>
  obtain ⟨R, hR⟩ : ∃ R, N + altPL x = R := ⟨_, rfl⟩
  obtain ⟨Q, hQ⟩ : ∃ Q, R + (u.len + 1) = Q := ⟨_, rfl⟩
  obtain ⟨gF, e3, -, -, -, -, hcF⟩ := own_at hown3 (by omega)
  subst e3
  have cF : wu.cell? ⟨gF, a, none⟩ = some (.int .i64 (Q : Nat)) := by
   rw [hcF a (by omega), List.getElem?_map, hxm.out, outP_app, List.getElem?_append_right (by rw [outP_len]; omega), outP_len, hxa, Nat.sub_self, hR, outP, ← hQ]; first | done | rfl
  have e1 : ∀ z : InstP, ins ++ ((altP x N E ++ (⟨1, R + 1, R + (u.len + 2), []⟩ :: (u.code (R + 1) ++ (z :: altP m (R + (u.len + 2)) 0)))) ++ X) = (ins ++ altP x N E ++ (⟨1, R + 1, R + (u.len + 2), []⟩ :: u.code (R + 1))) ++ (z :: (altP m (R + (u.len + 2)) 0 ++ X)) := fun z => by simp
  have l1 : (ins ++ altP x N E ++ ((⟨1, R + 1, R + (u.len + 2), []⟩ : InstP) :: u.code (R + 1))).length = Q := by
   rw [List.length_append, List.length_append, List.length_cons, altP_len, code_len, HNs.out, ← hQ, ← hR]
  have hps4 := hps3.out
  rw [hR, altP, e1] at hps4
  have e6 : (ins ++ altP x N E ++ ((⟨1, R + 1, R + (u.len + 2), []⟩ : InstP) :: u.code (R + 1))) ++ (⟨1, E, E, []⟩ :: (altP m (R + (u.len + 2)) 0 ++ X)) = ins ++ ((altP (x ++ [u]) N E ++ altP m (N + altPL (x ++ [u])) 0) ++ X) := by
   rw [← e1, altP_snoc, hR, altPL_snoc, ← Nat.add_assoc N, hR]; simp
  have lE : ((ins ++ altP x N E ++ ((⟨1, R + 1, R + (u.len + 2), []⟩ : InstP) :: u.code (R + 1))) ++ (⟨1, 0, 0, []⟩ :: (altP m (R + (u.len + 2)) 0 ++ X))).length = E := by
   rw [← e1]
   refine LE.out _ ?_
   have h := altP_len (x ++ u :: m) N 0
   rw [altP_app, List.length_append, altP_len, altP_len] at h
   have h2 : altPL (u :: m) = (u.len + 2) + altPL m := rfl
   rw [hxm.out, List.length_append, altP_len, List.length_cons, List.length_append, List.length_cons, code_len, altP_len]
   omega
  have f4 : ((ins ++ altP x N E ++ ((⟨1, R + 1, R + (u.len + 2), []⟩ : InstP) :: u.code (R + 1))) ++ ((⟨1, 0, 0, []⟩ : InstP) :: (altP m (R + (u.len + 2)) 0 ++ X)))[Q]? = some ⟨1, 0, 0, []⟩ := by
   rw [List.getElem?_append_right (by rw [l1]; exact Nat.le_refl _), l1, Nat.sub_self]; rfl
  have e5 := set_mid (ins ++ altP x N E ++ ((⟨1, R + 1, R + (u.len + 2), []⟩ : InstP) :: u.code (R + 1))) (⟨1, 0, 0, []⟩ : InstP) ⟨1, E, 0, []⟩ (altP m (R + (u.len + 2)) 0 ++ X) l1
  have e5' := set_mid (ins ++ altP x N E ++ ((⟨1, R + 1, R + (u.len + 2), []⟩ : InstP) :: u.code (R + 1))) (⟨1, E, 0, []⟩ : InstP) ⟨1, E, E, []⟩ (altP m (R + (u.len + 2)) 0 ++ X) l1
  rw [e6] at e5'
  have hQE : Q < E := by rw [← lE, List.length_append, l1, List.length_cons]; omega
  have f4' : ((ins ++ altP x N E ++ ((⟨1, R + 1, R + (u.len + 2), []⟩ : InstP) :: u.code (R + 1))) ++ ((⟨1, E, 0, []⟩ : InstP) :: (altP m (R + (u.len + 2)) 0 ++ X)))[Q]? = some ⟨1, E, 0, []⟩ := by
   rw [List.getElem?_append_right (by rw [l1]; exact Nat.le_refl _), l1, Nat.sub_self]; rfl
  obtain ⟨I4, hI4⟩ : ∃ I4, (ins ++ altP x N E ++ ((⟨1, R + 1, R + (u.len + 2), []⟩ : InstP) :: u.code (R + 1))) ++ ((⟨1, 0, 0, []⟩ : InstP) :: (altP m (R + (u.len + 2)) 0 ++ X)) = I4 := ⟨_, rfl⟩
  obtain ⟨I5, hI5⟩ : ∃ I5, (ins ++ altP x N E ++ ((⟨1, R + 1, R + (u.len + 2), []⟩ : InstP) :: u.code (R + 1))) ++ ((⟨1, E, 0, []⟩ : InstP) :: (altP m (R + (u.len + 2)) 0 ++ X)) = I5 := ⟨_, rfl⟩
  rw [hI4] at lE f4 e5 hps4
  rw [hI5] at e5 e5' f4'
  have l5 : I5.length = E := by rw [← e5, List.length_set, lE]
  have hWu : Below W0.heap.size W0 wu := QK.from HB.out hq3.out
  have pD : ProgIs W0 W0.heap.size (.slice A ns.length c) wu.drew g I4 := hps4.below (Below.refl _ _).drew
  obtain ⟨gI, m4, d1, d2, d3, d4, -⟩ := pD.patch f4
  obtain ⟨pE, qE, dE1, dE2, dE3⟩ := d4 E
  rw [e5] at pE
  obtain ⟨gI', m5, g1, -, -, -, g5⟩ := pE.patch f4'
  rw [dE1, lE, l5] at g1
  injection g1 with g1
  injection g1 with g1 _ g2
  injection g1 with g1
  injection g1 with g1
  subst g1
  rw [lE] at d1 dE1
  obtain ⟨pF, qF, -⟩ := g5 E
  rw [e5'] at pF
  have z4 : (Q : Int) < (E : Int) := by omega
  have S1 : (∃ I', ProgIs W0 W0.heap.size (.slice A ns.length c) wu.drew g I' ∧ I'.length = E) ∧ wu.drew.cell? ⟨g, 1, none⟩ = some (.slice (some ⟨gI, 0, none⟩) E m4) := ⟨⟨I4, pD, lE⟩, d1⟩
  have S2 : (∃ I', ProgIs W0 W0.heap.size (.slice A ns.length c) (wu.drew.setCell ⟨gI, Q * 4 + 1, none⟩ (.int .i64 (E : Nat))) g I' ∧ I'.length = E) ∧ (wu.drew.setCell ⟨gI, Q * 4 + 1, none⟩ (.int .i64 (E : Nat))).cell? ⟨g, 1, none⟩ = some (.slice (some ⟨gI, 0, none⟩) E m4) := ⟨⟨I5, pE, l5⟩, dE1⟩
  have hq5 := hq3.out.trans (((QK.of_below (Below.refl _ _).drew hWu.size).trans qE).trans qF)
  have o5 := qF.keep.own (qE.keep.own (own_below hown3 (Below.refl _ _).drew) (by decide)) (by decide)
  have P5 := Lh pF; have Q5 := Lh hq5; have O5 := Lh o5; have SS2 := Lh S2
  clear pF qF g5 pE qE d4 pD hps4 hps3 e5 e5' e6 e1 f4 f4' lE l1 l5 hI4 hI5 hWu hq5 o5 hcF hown3 hR hQ S2 dE1
  go_upto_region 15 with fail
  refine rgQ (fun w' => (∃ I', ProgIs W0 W0.heap.size (.slice A ns.length c) w' g I' ∧ I'.length = E) ∧ w'.cell? ⟨g, 1, none⟩ = some (.slice (some ⟨gI, 0, none⟩) E m4)) 19 (by kernel_rfl) (fun _ _ d _ _ h => by cases d <;> exact h) fun qP => ?_
  apply tkT 0 (by kernel_rfl) rfl (fun _ _ _ h => h) (by kernel_rfl) S1
  ·intro w' hS'; go_simp; exact ⟨rfl, rfl⟩
  apply tkT 1 (by kernel_rfl) rfl (fun _ _ _ h => h) (by kernel_rfl) S1
  ·intro w' hS'; go_simp; exact ⟨rfl, rfl⟩
  apply tkT 2 (by kernel_rfl) rfl (fun _ _ _ h => h) (by kernel_rfl) S1
  ·intro w' hS'; go_simp; exact ⟨rfl, rfl⟩
  apply tkT 3 (v := (.slice (some ⟨gI, 0, none⟩) E m4)) (by kernel_rfl) rfl (fun _ _ _ h => h) (by kernel_rfl) S1
  ·intro w' hS'; have hk := hS'.2; go_simp; exact ⟨rfl, rfl⟩
  apply tkT 4 (by kernel_rfl) rfl (fun _ _ _ h => h) (by kernel_rfl) S1
  ·intro w' hS'; go_simp; exact ⟨rfl, rfl⟩
  apply tkT 5 (by kernel_rfl) rfl (fun _ _ _ h => h) (by kernel_rfl) S1
  ·intro w' hS'; go_simp; exact ⟨rfl, rfl⟩
  apply tkT 6 (by kernel_rfl) rfl (fun _ _ _ h => h) (by kernel_rfl) S1
  ·intro w' hS'; go_simp; exact ⟨rfl, rfl⟩
  apply tkT 7 (by kernel_rfl) rfl (fun _ _ _ h => h) (by kernel_rfl) S1
  ·intro w' hS'; go_simp; exact ⟨rfl, rfl⟩
  apply tkT 8 (v := (.slice (some ⟨gI, 0, none⟩) E m4)) (by kernel_rfl) rfl (fun _ _ _ h => h) (by kernel_rfl) S1
  ·intro w' hS'; have hk := hS'.2; go_simp; exact ⟨rfl, rfl⟩
  apply tkT 9 (by kernel_rfl) rfl (fun _ _ _ h => h) (by kernel_rfl) S1
  ·intro w' hS'; go_simp; exact ⟨rfl, rfl⟩
  apply tkT 10 (by kernel_rfl) rfl (fun _ _ _ h => h) (by kernel_rfl) S1
  ·intro w' hS'; go_simp; exact ⟨rfl, rfl⟩
  apply tkT 11 (v := (.int .i64 (E : Nat))) (by kernel_rfl) rfl (fun _ _ _ h => h) (by kernel_rfl) S1
  ·intro w' hS'
   (obtain ⟨⟨I', h1, h2⟩, -⟩ := hS'; have hst := vHere w' g I' h1; rw [h2] at hst; go_simp; exact ⟨rfl, hst⟩)
  apply tkT 12 (by kernel_rfl) rfl (fun _ _ _ h => h) (by kernel_rfl) S1
  ·intro w' hS'; go_simp; exact ⟨rfl, rfl⟩
  apply tkT 13 (v := (.int .i64 (E : Nat))) (by kernel_rfl) rfl (fun _ _ _ h => h) (by kernel_rfl) S1
  ·intro w' hS'
   (obtain ⟨⟨I', h1, h2⟩, -⟩ := hS'; have hst := vHere w' g I' h1; rw [h2] at hst; go_simp; exact ⟨rfl, hst⟩)
  apply tkT 14 (v := (.pointer (some ⟨gI, Q * 4, none⟩))) (by kernel_rfl) rfl (fun _ _ _ h => h) (by kernel_rfl) S1
  ·intro w' hS'
   (go_simp; exact ⟨rfl, rfl⟩)
  apply tkT 15 (v := (.pointer (some ⟨gI, Q * 4 + 1, none⟩))) (by kernel_rfl) rfl (fun _ _ _ h => h) (by kernel_rfl) S1
  ·intro w' hS'
   (go_simp; exact ⟨rfl, rfl⟩)
  (try simp only [Act.put]); (try simp only [List.setIfInBounds_toArray]); (try simp only [List.set])
  have cs := d2.1
  have fs := d2.2
  refine rnL 16 (by kernel_rfl) rfl (by kernel_rfl) (fun K hK => ?_)
  go_simp
  refine hK _ _ (fun _ => SS2.out) ?_
  clear hK K
  (try simp only [Act.put])
  have S3 := SS2.out
  apply tkT 17 (v := (.pointer (some ⟨gI, Q * 4, none⟩))) (by kernel_rfl) rfl (fun _ _ _ h => h) (by kernel_rfl) S3
  ·intro w' hS'
   (go_simp; exact ⟨rfl, rfl⟩)
  apply tkT 18 (v := (.pointer (some ⟨gI, Q * 4 + 2, none⟩))) (by kernel_rfl) rfl (fun _ _ _ h => h) (by kernel_rfl) S3
  ·intro w' hS'
   (go_simp; exact ⟨rfl, rfl⟩)
  (try simp only [Act.put]); (try simp only [List.setIfInBounds_toArray]); (try simp only [List.set])
  have cs2 : wu.cell? ⟨gI, Q * 4 + 2, none⟩ = some (.int .i64 (0 : Nat)) := d3.1
  have fs2 : wu.frozen? ⟨gI, Q * 4 + 2, none⟩ = false := d3.2
  clear cs fs
  refine rnL 19 (by kernel_rfl) rfl (by kernel_rfl) (fun K hK => ?_)
  go_simp
  refine hK _ _ (fun h => absurd rfl h) ?_
  clear hK K cs2 fs2 S1 S3 SS2 d1 d2 d3 dE2 dE3
  (try simp only [Act.put])
  refine dnL (by kernel_rfl) ?_ _
  go_wp2
  go_roundw
  case rel => exact ⟨a + 1, x ++ [u], m, by omega, rfl, O5.out, P5, Q5, Lh (by rw [hxm.out]; simp), by rw [List.length_append, hxa]; rfl⟩
  case measure => simp [intOf]; omega
 have z3 : ¬ (a : Int) < (n3 : Int) := by omega
 have hm : m = [] := by
  have := congrArg List.length hxm.out
  rw [List.length_append, Hn3.out, hxa] at this
  exact List.eq_nil_of_length_eq_zero (by omega)
 have hx : x = ts := by rw [hxm.out, hm, List.append_nil]
 have hpf := hps3.out
 rw [hm, hx, altP, List.append_nil, ← HFin.out] at hpf
 have HF := Lh hpf
 clear hpf hps3 hown3 hm hx
 go_wp2
 go_end0
 exact ⟨rfl, HF.out, hq3.out⟩
end Go.Proofs.YtecejnilajbdpaaGreatDoor
