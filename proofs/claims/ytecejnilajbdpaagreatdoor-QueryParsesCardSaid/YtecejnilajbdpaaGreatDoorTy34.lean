import Derived.Test.YtecejnilajbdpaaGreatDoorTy33
import Derived.Test.YtecejnilajbdpaaGreatDoorTy20
import Derived.Test.YtecejnilajbdpaaGreatDoorTy29
namespace Go.Proofs.YtecejnilajbdpaaGreatDoor
open Go.RowKit Garner
set_option maxRecDepth 100000 in
set_option maxHeartbeats 8000000 in
theorem vHasI (l : List Nat) (k n : Nat) (hl : l.length = n) (h2 : n = 2 * k) (hn : n ≤ 100000) (A : Option Addr) (c x : Nat) (w : World) (hr : RowT w 21 A n (l.map rv)) :
  Calls Tryz.prog 96 #[.slice A n c, .int .i32 x] w fun e w' => e = .returned (.bool (hasR l x)) ∧ w' = w := by
 obtain ⟨ANS, hA⟩ : ∃ ANS, hasR l x = ANS := ⟨_, rfl⟩
 rw [hA]
 have HA := Lh hA; have Hl := Lh hl; have Hr := Lh hr; have H2 := Lh h2
 clear hA hl hr h2
 go_enter Tryz.func96, Tryz.ntmps96
 go_wp2
 go_loopw [5] (fun i wr => ∃ j : Nat, j ≤ k ∧ i = .int .i64 (2 * j : Nat) ∧ Hid (hasR (l.drop (2 * j)) x = ANS) ∧ wr = w) (fun i _ => 2 * k - (intOf i).toNat)
 case atStart => exact ⟨0, Nat.zero_le _, rfl, Lh (by simpa using HA.out), rfl⟩
 case round =>
  obtain ⟨j, hj, rfl, hans, rfl⟩ := hrel
  obtain ⟨J, hJ⟩ : ∃ J, 2 * j = J := ⟨_, rfl⟩
  have h2k := H2.out
  rw [hJ] at hans ⊢
  have wj2 : IntKind.i64.wrap ((J : Int) + 2) = ((J + 2 : Nat) : Int) := by rw [IntKind.wrap_i64]; omega
  have wj1 : IntKind.i64.wrap ((J : Int) + 1) = ((J + 1 : Nat) : Int) := by rw [IntKind.wrap_i64]; omega
  by_cases hlt : j < k
  ·have z1 : (J : Int) < (n : Int) := by omega
   have z2 : ((J + 1 : Nat) : Int) < (n : Int) := by omega
   obtain ⟨a, ha⟩ : ∃ a, l[J]? = some a := ⟨_, List.getElem?_eq_getElem (by rw [Hl.out]; omega)⟩
   obtain ⟨b, hb⟩ : ∃ b, l[J + 1]? = some b := ⟨_, List.getElem?_eq_getElem (by rw [Hl.out]; omega)⟩
   obtain ⟨bk, ok, rfl, ca⟩ := Hr.out.at_ (k := J) (u := rv a) (by rw [List.getElem?_map, ha]; rfl)
   obtain ⟨bk', ok', e, cb⟩ := Hr.out.at_ (k := J + 1) (u := rv b) (by rw [List.getElem?_map, hb]; rfl)
   cases e
   have ca1 : wr.cell? ⟨bk, ok + J, none⟩ = some (.int .i32 (a : Nat)) := ca
   have cb1 : wr.cell? ⟨bk, ok + (J + 1), none⟩ = some (.int .i32 (b : Nat)) := cb
   have hd : l.drop J = a :: b :: l.drop (J + 2) := by
    obtain ⟨h1, e1⟩ := List.getElem?_eq_some_iff.1 ha
    obtain ⟨h3, e3⟩ := List.getElem?_eq_some_iff.1 hb
    rw [List.drop_eq_getElem_cons h1, List.drop_eq_getElem_cons h3, e1, e3]
   have hx := hans.out
   rw [hd, hasR] at hx
   have Hx := Lh hx
   clear ca cb hd ha hb hx hans
   by_cases h1 : a ≤ x
   ·by_cases h3 : x ≤ b
    ·have q1 : (a : Int) ≤ (x : Int) := by omega
     have q2 : (x : Int) ≤ (b : Int) := by omega
     have e : ANS = true := by rw [← Hx.out]; simp [h1, h3]
     subst e
     go_wp2_with fail
     go_ret
     exact ⟨rfl, rfl⟩
    ·have q1 : (a : Int) ≤ (x : Int) := by omega
     have q2 : ¬ (x : Int) ≤ (b : Int) := by omega
     have e : Hid (hasR (l.drop (J + 2)) x = ANS) := Lh (by rw [← Hx.out]; simp [h3])
     go_wp2_with fail
     go_roundw
     case rel => exact ⟨j + 1, by omega, by rw [show 2 * (j + 1) = J + 2 by omega]; rfl, by rw [show 2 * (j + 1) = J + 2 by omega]; exact e, by first | rfl | trivial⟩
     case measure => simp [intOf]; omega
   ·have q1 : ¬ (a : Int) ≤ (x : Int) := by omega
    have e : Hid (hasR (l.drop (J + 2)) x = ANS) := Lh (by rw [← Hx.out]; simp [h1])
    go_wp2_with fail
    go_roundw
    case rel => exact ⟨j + 1, by omega, by rw [show 2 * (j + 1) = J + 2 by omega]; rfl, by rw [show 2 * (j + 1) = J + 2 by omega]; exact e, by first | rfl | trivial⟩
    case measure => simp [intOf]; omega
  ·have z1 : ¬ (J : Int) < (n : Int) := by omega
   have e : ANS = false := by
    rw [← hans.out, List.drop_eq_nil_of_le (by rw [Hl.out]; omega)]; rfl
   subst e
   go_wp2_with fail
   go_ret
   exact ⟨rfl, rfl⟩
end Go.Proofs.YtecejnilajbdpaaGreatDoor
namespace Garner
open Go
theorem sizesGo_pre (ns : List NodeP) (k : Nat) (hk : k ≤ ns.length) {i : Nat} (hi : i < k) : (sizesGo [] (ns.take k)).getD i 0 = (sizesGo [] ns).getD i 0 := by
 have h : ∀ (l : List NodeP) (S : List Nat), i < S.length → (sizesGo S l).getD i 0 = S.getD i 0 := by
  intro l
  induction l with
  | nil => intro S _; rfl
  | cons n l ih =>
   intro S hS
   show (sizesGo (S ++ [nodeSize S n]) l).getD i 0 = _
   rw [ih _ (by simp; omega), List.getD_eq_getElem?_getD, List.getElem?_append_left hS, ← List.getD_eq_getElem?_getD]
 conv => rhs; rw [← List.take_append_drop k ns, sizesGo_app]
 exact (h (ns.drop k) _ (by rw [sizesGo_len, List.length_take]; simp; omega)).symm
end Garner
namespace Go.Proofs.YtecejnilajbdpaaGreatDoor
open Go.RowKit Garner
set_option maxRecDepth 100000 in
set_option maxHeartbeats 16000000 in
theorem qSize {F : Nat → Prop} (B : Nat) (A : Option Addr) (c N : Nat) (ns : List NodeP) (w : World) (hN : ns.length = N) (h : NodesIs F w B (.slice A N c) ns) (hlen : N ≤ 10000) (hwf : WfN ns) (hlim : ∀ n ∈ ns, NodeLim n) : ∀ M k : Nat, k < M → k < N →
  Calls Tryz.prog 82 #[.slice A N c, .int .i64 (k : Nat)] w fun e w' => e = .returned (.int .i64 (((sizesGo [] ns).getD k 0 : Nat) : Int)) ∧ w' = w := by
 have HN := Lh hN; have HH := Lh h; have Hwf := Lh hwf; have Hlim := Lh hlim
 clear hN h hwf hlim
 intro M
 induction M with
 | zero => intro k hk; omega
 | succ M ih =>
  intro k hkM hkN
  obtain ⟨ds, hds, hown0, hok⟩ := HH.out
  rw [HN.out] at hown0
  obtain ⟨gN, rfl, -, hgN, -, -, hcell⟩ := own_at hown0 (by omega)
  obtain ⟨d, hd⟩ : ∃ d, ds[k]? = some d := ⟨_, List.getElem?_eq_getElem (by have e1 := HN.out; have e2 := congrArg List.length hds; rw [List.length_map] at e2; omega)⟩
  have hnk : ns[k]? = some d.n := by rw [← hds, List.getElem?_map, hd]; rfl
  have hlm := Hlim.out d.n (List.mem_of_getElem? hnk)
  have hdo := hok d (List.mem_of_getElem? hd)
  have hw := Hwf.out k d.n hnk
  have cc : ∀ j, j < 5 → w.cell? ⟨gN, k * 5 + j, none⟩ = d.cells[j]? := fun j hj => by
   rw [hcell (k * 5 + j) (by omega), cells_at hd j hj]
  have c0 : w.cell? ⟨gN, k * 5, none⟩ = some (.int .i64 (d.n.kind : Nat)) := cc 0 (by omega)
  have c1 : w.cell? ⟨gN, k * 5 + 1, none⟩ = some (.slice d.kA d.n.kids.length d.kc) := cc 1 (by omega)
  have c2 : w.cell? ⟨gN, k * 5 + 2, none⟩ = some (.int .i64 (d.n.mn : Nat)) := cc 2 (by omega)
  have c3 : w.cell? ⟨gN, k * 5 + 3, none⟩ = some (.int .i64 d.n.mx) := cc 3 (by omega)
  obtain ⟨S, hS⟩ : ∃ S, sizesGo [] (ns.take k) = S := ⟨_, rfl⟩
  have hans : (sizesGo [] ns).getD k 0 = kidsSize (nodeTimes d.n) S d.n.kids := by
   rw [← sizesGo_pre ns (k + 1) (by rw [HN.out]; omega) (Nat.lt_succ_self k), sizes_take hnk, hS]
   have hSl : S.length = k := by rw [← hS, sizesGo_len, List.length_take, HN.out]; simp; omega
   rw [List.getD_eq_getElem?_getD, List.getElem?_append_right (by rw [hSl]; exact Nat.le_refl _), hSl, Nat.sub_self]
   rfl
  have hrec : ∀ kid, kid < k → Calls Tryz.prog 82 #[.slice (some ⟨gN, 0, none⟩) N c, .int .i64 (kid : Nat)] w fun e w' => e = .returned (.int .i64 ((S.getD kid 0 : Nat) : Int)) ∧ w' = w := fun kid hkid => by
   have := ih kid (by omega) (by omega)
   rwa [← sizesGo_pre ns k (by rw [HN.out]; omega) hkid, hS] at this
  have hSb : ∀ i, S.getD i 0 ≤ 2000 := fun i => by
   rw [List.getD_eq_getElem?_getD]
   cases hi : S[i]? with
   | none => simp
   | some y => exact sizes_le (ns.take k) [] (by simp) y (by rw [hS]; exact List.mem_of_getElem? hi)
  obtain ⟨ANS, hANS⟩ : ∃ ANS, (sizesGo [] ns).getD k 0 = ANS := ⟨_, rfl⟩
  rw [hANS] at hans ⊢
  obtain ⟨l1, l2, l3, l4, l5⟩ := hlm
  obtain ⟨T, hT⟩ : ∃ T, nodeTimes d.n = T := ⟨_, rfl⟩
  rw [hT] at hans
  unfold nodeTimes at hT
  have hdk := hdo.kids
  obtain ⟨ks, hks⟩ : ∃ ks, d.n.kids = ks := ⟨_, rfl⟩
  obtain ⟨kd, hkd⟩ : ∃ kd, d.n.kind = kd := ⟨_, rfl⟩
  obtain ⟨mn, hmn⟩ : ∃ mn, d.n.mn = mn := ⟨_, rfl⟩
  obtain ⟨mx, hmx⟩ : ∃ mx, d.n.mx = mx := ⟨_, rfl⟩
  obtain ⟨KA, hKA⟩ : ∃ KA, d.kA = KA := ⟨_, rfl⟩
  obtain ⟨kc, hkc⟩ : ∃ kc, d.kc = kc := ⟨_, rfl⟩
  rw [hks] at hans hw c1 hdk l5
  rw [hkd] at c0 l1 hT; rw [hmn] at c2 l2 hT; rw [hmx] at c3 l3 l4 hT; rw [hKA, hkc] at c1; rw [hKA] at hdk
  obtain ⟨kl, hkl⟩ : ∃ kl, ks.length = kl := ⟨_, rfl⟩
  rw [hkl] at c1 hdk l5
  have hT9 : T ≤ 9 := by
   rw [← hT]; split
   ·split <;> omega
   ·omega
  have Hans := Lh hans; have Hrec := Lh hrec; have HSb := Lh hSb; have HT := Lh hT; have Hdk := Lh hdk; have Hw := Lh hw; have Hkl := Lh hkl
  have z1 : (k : Int) < (N : Int) := by omega
  clear hans hrec hSb hT hdk hw hkl hkd hmn hmx hKA hkc hks hANS hS cc hcell hown0 hok hds hd hnk hdo ih
  go_enter Tryz.func82, Tryz.ntmps82
  go_wp2
  go_loopw [5, 6] (fun v i wr => ∃ j a : Nat, j ≤ kl ∧ v = .int .i64 a ∧ i = .int .i64 j ∧ a ≤ 2000 ∧ Hid (a = kidsSize T S (ks.take j)) ∧ wr = w) (fun _ i _ => kl - (intOf i).toNat)
  case atStart => exact ⟨0, 1, Nat.zero_le _, rfl, rfl, by omega, Lh rfl, rfl⟩
  case round =>
   obtain ⟨j, a, hj, rfl, rfl, ha2, haa, hwr⟩ := hrel
   obtain rfl : w = wr := hwr.symm
   by_cases hjl : j < kl
   ·obtain ⟨kid, hkid⟩ : ∃ kid, ks[j]? = some kid := ⟨_, List.getElem?_eq_getElem (by rw [Hkl.out]; exact hjl)⟩
    have hkk := Hw.out kid (List.mem_of_getElem? hkid)
    obtain ⟨y, hy⟩ : ∃ y, S.getD kid 0 = y := ⟨_, rfl⟩
    have hy2 := HSb.out kid
    have hr := Hrec.out kid hkk
    rw [hy] at hr hy2
    obtain ⟨bk, ok, rfl, ck0⟩ := Hdk.out.at_ (k := j) (u := iv kid) (by rw [List.getElem?_map, hkid]; rfl)
    have ckid : w.cell? ⟨bk, ok + j, none⟩ = some (.int .i64 (kid : Nat)) := ck0
    clear ck0
    have z2 : (j : Int) < (kl : Int) := by omega
    have wj1 : IntKind.i64.wrap ((j : Int) + 1) = ((j + 1 : Nat) : Int) := by rw [IntKind.wrap_i64]; omega
    have hTy : T * y ≤ 18000 := by
     have := Nat.mul_le_mul hT9 hy2
     omega
    have hstep := kids_take T S hkid
    rw [← haa.out, hy] at hstep
    obtain ⟨Q, hQ⟩ : ∃ Q, T * y = Q := ⟨_, rfl⟩
    have wm0 : (T : Int) * (y : Int) = (Q : Int) := by rw [← hQ, Int.natCast_mul]
    rw [hQ] at hstep hTy
    have wa : IntKind.i64.wrap ((a : Int) + (Q : Int)) = (a : Int) + (Q : Int) := by rw [IntKind.wrap_i64]; omega
    have wq : IntKind.i64.wrap (Q : Int) = (Q : Int) := by rw [IntKind.wrap_i64]; omega
    have Hst := Lh hstep; have Hr := Lh hr; have Hm0 := Lh wm0
    clear hstep hy hkid haa wm0 hQ hr
    have hsplit : (∃ mxn : Nat, kd = 5 ∧ mx = (mxn : Int) ∧ 1 < mxn ∧ T = mxn) ∨ (kd = 5 ∧ mx < 0 ∧ 0 < mn ∧ T = mn + 1) ∨ (T = 1 ∧ (kd ≠ 5 ∨ (kd = 5 ∧ ¬ mx > 1 ∧ (¬ mx < 0 ∨ (mx < 0 ∧ mn = 0))))) := by
     have ht := HT.out
     by_cases h5 : kd = 5
     ·rw [if_pos h5] at ht
      by_cases hm : mx < 0
      ·rw [if_pos hm] at ht
       by_cases h0 : mn = 0
       ·exact .inr (.inr ⟨by omega, .inr ⟨h5, by omega, .inr ⟨hm, h0⟩⟩⟩)
       ·exact .inr (.inl ⟨h5, hm, by omega, ht.symm⟩)
      ·rw [if_neg hm] at ht
       by_cases h1 : mx > 1
       ·exact .inl ⟨mx.toNat, h5, by omega, by omega, by omega⟩
       ·exact .inr (.inr ⟨by omega, .inr ⟨h5, h1, .inl hm⟩⟩)
     ·rw [if_neg h5] at ht
      exact .inr (.inr ⟨ht.symm, .inl h5⟩)
    have wmn : IntKind.i64.wrap ((mn : Int) + 1) = (mn : Int) + 1 := by rw [IntKind.wrap_i64]; omega
    have hfini : ∀ (b : Nat), b = min 2000 (a + Q) → ∃ j' a' : Nat, j' ≤ kl ∧ Value.int .i64 (b : Nat) = .int .i64 (a' : Nat) ∧ Value.int .i64 ((j + 1 : Nat) : Int) = .int .i64 (j' : Nat) ∧ a' ≤ 2000 ∧ Hid (a' = kidsSize T S (ks.take j')) ∧ w = w := fun b hb => ⟨j + 1, b, hjl, rfl, rfl, by omega, Lh (by rw [hb, Hst.out]), rfl⟩
    have Hfin := Lh hfini
    clear hfini
    rcases hsplit with ⟨mxn, rfl, rfl, hx1, rfl⟩ | ⟨rfl, hm0, hn0, rfl⟩ | ⟨rfl, hh⟩
    ·have x1 : (1 : Int) < (T : Int) := by omega
     have x2 : ¬ (T : Int) < 0 := by omega
     have wm : (T : Int) * (y : Int) = (Q : Int) := Hm0.out
     have HM := Lh wm
     clear wm
     by_cases hb : 2000 < a + Q
     ·have zb : (2000 : Int) < (a : Int) + (Q : Int) := by omega
      go_wp2_with fail
      refine Hr.out.mono ?_
      rintro e w2 ⟨rfl, hw2⟩
      obtain rfl : w = w2 := hw2.symm
      have wm := HM.out
      go_wp2
      go_roundw
      case rel => exact Hfin.out 2000 (by omega)
      case measure => simp [intOf]; omega
     ·have zb : ¬ (2000 : Int) < (a : Int) + (Q : Int) := by omega
      go_wp2_with fail
      refine Hr.out.mono ?_
      rintro e w2 ⟨rfl, hw2⟩
      obtain rfl : w = w2 := hw2.symm
      have wm := HM.out
      go_wp2
      go_roundw
      case rel => exact Hfin.out (a + Q) (by omega)
      case measure => simp [intOf]; omega
    ·have x1 : ¬ (1 : Int) < mx := by omega
     have x2 : (0 : Int) < (mn : Int) := by omega
     have wm : ((mn : Int) + 1) * (y : Int) = (Q : Int) := by have := Hm0.out; rwa [Int.natCast_add] at this
     have HM := Lh wm
     clear wm
     by_cases hb : 2000 < a + Q
     ·have zb : (2000 : Int) < (a : Int) + (Q : Int) := by omega
      go_wp2_with fail
      refine Hr.out.mono ?_
      rintro e w2 ⟨rfl, hw2⟩
      obtain rfl : w = w2 := hw2.symm
      have wm := HM.out
      go_wp2
      go_roundw
      case rel => exact Hfin.out 2000 (by omega)
      case measure => simp [intOf]; omega
     ·have zb : ¬ (2000 : Int) < (a : Int) + (Q : Int) := by omega
      go_wp2_with fail
      refine Hr.out.mono ?_
      rintro e w2 ⟨rfl, hw2⟩
      obtain rfl : w = w2 := hw2.symm
      have wm := HM.out
      go_wp2
      go_roundw
      case rel => exact Hfin.out (a + Q) (by omega)
      case measure => simp [intOf]; omega
    ·have hyq : y = Q := by have := Hm0.out; simp at this; omega
     subst hyq
     rcases hh with h5 | ⟨h5, h1, h2 | ⟨hmn, h2⟩⟩
     ·have x0 : ((kd : Int) == 5) = false := by simp; omega
      by_cases hb : 2000 < a + y
      ·have zb : (2000 : Int) < (a : Int) + (y : Int) := by omega
       go_wp2_with fail
       refine Hr.out.mono ?_
       rintro e w2 ⟨rfl, hw2⟩
       obtain rfl : w = w2 := hw2.symm
       go_wp2
       go_roundw
       case rel => exact Hfin.out 2000 (by omega)
       case measure => simp [intOf]; omega
      ·have zb : ¬ (2000 : Int) < (a : Int) + (y : Int) := by omega
       go_wp2_with fail
       refine Hr.out.mono ?_
       rintro e w2 ⟨rfl, hw2⟩
       obtain rfl : w = w2 := hw2.symm
       go_wp2
       go_roundw
       case rel => exact Hfin.out (a + y) (by omega)
       case measure => simp [intOf]; omega
     ·subst h5
      have x1 : ¬ (1 : Int) < mx := by omega
      by_cases hb : 2000 < a + y
      ·have zb : (2000 : Int) < (a : Int) + (y : Int) := by omega
       go_wp2_with fail
       refine Hr.out.mono ?_
       rintro e w2 ⟨rfl, hw2⟩
       obtain rfl : w = w2 := hw2.symm
       go_wp2
       go_roundw
       case rel => exact Hfin.out 2000 (by omega)
       case measure => simp [intOf]; omega
      ·have zb : ¬ (2000 : Int) < (a : Int) + (y : Int) := by omega
       go_wp2_with fail
       refine Hr.out.mono ?_
       rintro e w2 ⟨rfl, hw2⟩
       obtain rfl : w = w2 := hw2.symm
       go_wp2
       go_roundw
       case rel => exact Hfin.out (a + y) (by omega)
       case measure => simp [intOf]; omega
     ·subst h5
      subst h2
      have x1 : ¬ (1 : Int) < mx := by omega
      by_cases hb : 2000 < a + y
      ·have zb : (2000 : Int) < (a : Int) + (y : Int) := by omega
       go_wp2_with fail
       refine Hr.out.mono ?_
       rintro e w2 ⟨rfl, hw2⟩
       obtain rfl : w = w2 := hw2.symm
       go_wp2
       go_roundw
       case rel => exact Hfin.out 2000 (by omega)
       case measure => simp [intOf]; omega
      ·have zb : ¬ (2000 : Int) < (a : Int) + (y : Int) := by omega
       go_wp2_with fail
       refine Hr.out.mono ?_
       rintro e w2 ⟨rfl, hw2⟩
       obtain rfl : w = w2 := hw2.symm
       go_wp2
       go_roundw
       case rel => exact Hfin.out (a + y) (by omega)
       case measure => simp [intOf]; omega
   ·have z2 : ¬ (j : Int) < (kl : Int) := by omega
    have hfin : a = ANS := by
     rw [haa.out, Hans.out, List.take_of_length_le (by rw [Hkl.out]; omega)]
    have HF := Lh hfin
    clear hfin haa
    go_wp2
    go_ret
    exact ⟨by rw [HF.out]; rfl, rfl⟩
end Go.Proofs.YtecejnilajbdpaaGreatDoor
namespace Garner
open Go
theorem dec_pos (l : Bs) (p : Nat) (h : p < l.length) : 1 ≤ (Utf8.decode ⟨l.toArray⟩ p).2 ∧ (Utf8.decode ⟨l.toArray⟩ p).1 ≤ 1114111 ∧ runesP (l.drop p) = (Utf8.decode ⟨l.toArray⟩ p).1 :: runesP (l.drop (p + (Utf8.decode ⟨l.toArray⟩ p).2)) ∧ Lib.validD (l.drop p) = (if (Utf8.decode ⟨l.toArray⟩ p).1 = 65533 ∧ (Utf8.decode ⟨l.toArray⟩ p).2 = 1 then false else Lib.validD (l.drop (p + (Utf8.decode ⟨l.toArray⟩ p).2))) := by
 have hd := Lib.decodeL_drop ⟨l.toArray⟩ p
 have e : (⟨l.toArray⟩ : ByteArray).data.toList = l := by simp
 rw [e] at hd
 have hne : l.drop p ≠ [] := fun e => by
  have := congrArg List.length e
  rw [List.length_drop] at this
  simp only [List.length_nil] at this
  omega
 refine ⟨by rw [← hd]; exact Lib.decodeL_width _, by rw [← hd]; exact Lib.decodeL_rune _, by rw [runes_step hne, hd, List.drop_drop], ?_⟩
 rw [Lib.validD_step _ hne, hd, List.drop_drop]
end Garner
namespace Go.Proofs.YtecejnilajbdpaaGreatDoor
open Go.RowKit Garner
def RunesAt (w0 : World) (l : Bs) (N : Nat) (v ok i : Value) (wr : World) : Prop := ∃ (p : Nat) (ov : Bool) (out : List Nat), p ≤ N ∧ i = .int .i64 p ∧ ok = .bool ov ∧ Hid (runesP l = out ++ runesP (l.drop p)) ∧ Hid (Lib.validD l = (ov && Lib.validD (l.drop p))) ∧ Hid (wr.ownsRow w0.heap.size 21 1 v out.length (out.map rv)) ∧ Hid (Below w0.heap.size w0 wr) ∧ out.length ≤ p
set_option maxRecDepth 100000 in
set_option maxHeartbeats 8000000 in
theorem vRunes (S : ByteArray) (l : Bs) (hS : S = ⟨l.toArray⟩) (w : World) (hl : l.length ≤ 1000000000000) :
  Calls Tryz.prog 49 #[.string S] w fun e w' => ∃ v, e = .returned (.tuple #[v, .bool (Lib.validD l)]) ∧ w'.ownsRow w.heap.size 21 1 v (runesP l).length ((runesP l).map rv) ∧ Below w.heap.size w w' := by
 have zS : S.size = l.length := by rw [hS]; exact str_size l
 obtain ⟨N, hN⟩ : ∃ N, l.length = N := ⟨_, rfl⟩
 have HS := Lh hS; have HN := Lh hN
 rw [hN] at zS hl
 clear hS hN
 go_enter Tryz.func49, Tryz.ntmps49
 go_wp2
 go_loopw [4, 5, 6] (fun v ok i wr => RunesAt w l N v ok i wr) (fun _ _ i _ => N - (intOf i).toNat)
 case atStart => exact ⟨0, true, [], Nat.zero_le _, rfl, rfl, Lh rfl, Lh rfl, Lh (World.ownsRow_nil _ _ _ _), Lh (Below.refl _ _), Nat.le_refl _⟩
 case round =>
  obtain ⟨p, ov, out, hp, rfl, rfl, hr, hv, hown, hbw, hol⟩ := hrel
  obtain ⟨wo, rfl⟩ : ∃ wo : World, wo = wr := ⟨_, rfl⟩
  obtain ⟨A3, c3, rfl, -⟩ := own_form hown.out
  obtain ⟨n3, hn3⟩ : ∃ n3, out.length = n3 := ⟨_, rfl⟩
  rw [hn3] at hown hol ⊢
  have Hn3 := Lh hn3
  clear hn3
  have hso := hbw.out.size
  by_cases hlt : p < N
  ·have z1 : (p : Int) < (N : Int) := by omega
   have hplen : p < l.length := by rw [HN.out]; exact hlt
   obtain ⟨d1, d2, d3, d4⟩ := dec_pos l p hplen
   have h1 := vOne S l HS.out p wo hplen (by rw [HN.out]; omega)
   have hdn : p + (Utf8.decode ⟨l.toArray⟩ p).2 ≤ N := by
    have hd := Lib.decodeL_drop ⟨l.toArray⟩ p
    have e : (⟨l.toArray⟩ : ByteArray).data.toList = l := by simp
    rw [e] at hd
    have hne : l.drop p ≠ [] := fun e => by
     have := congrArg List.length e
     rw [List.length_drop] at this
     simp only [List.length_nil] at this
     omega
    have := Lib.decodeL_le (l.drop p) hne
    rw [hd, List.length_drop, HN.out] at this
    omega
   obtain ⟨r, hrr⟩ : ∃ r, (Utf8.decode ⟨l.toArray⟩ p).1 = r := ⟨_, rfl⟩
   obtain ⟨q, hq⟩ : ∃ q, (Utf8.decode ⟨l.toArray⟩ p).2 = q := ⟨_, rfl⟩
   rw [hrr, hq] at h1 d3 d4
   rw [hrr] at d2
   rw [hq] at d1 hdn
   have wq : IntKind.i64.wrap ((p : Int) + (q : Int)) = ((p + q : Nat) : Int) := by rw [IntKind.wrap_i64]; omega
   have H1 := Lh h1
   have hr2 : runesP l = (out ++ [r]) ++ runesP (l.drop (p + q)) := by rw [hr.out, d3]; simp
   have Hr2 := Lh hr2; have D4 := Lh d4; have Hv := Lh hv.out; have Hbw := Lh hbw.out; have Hown := Lh hown.out
   clear h1 hr2 d3 d4 hr hv hbw hown hrr hq hplen
   go_wp2_with fail
   refine H1.out.mono ?_
   rintro e w1 ⟨rfl, hz⟩
   obtain rfl : wo = w1 := hz.symm
   clear H1
   go_upto_region 7 with (at_builtin; refine wpList_app _ rfl runeE rfl rfl (Hown.out.alloc _) rfl (row_new wo _ [_]) (by simp [Value.oneCell']) (by first | omega | (simp; omega)) (by simp; omega) ?_; intro v8 w8 own8 hg8 hb8 hx8)
   have hb9 : Below w.heap.size w w8 := (Hbw.out.alloc hso _).trans hb8
   have O8 := Lh own8; have B9 := Lh hb9
   clear own8 hg8 hb8 hx8 hb9
   have hcase : (q = 1 ∧ r = 65533) ∨ (q = 1 ∧ r ≠ 65533) ∨ q ≠ 1 := by omega
   rcases hcase with ⟨rfl, rfl⟩ | ⟨rfl, hr3⟩ | hq1
   ·have hv2 : Lib.validD l = (false && Lib.validD (l.drop (p + 1))) := by rw [Hv.out, D4.out, if_pos ⟨rfl, rfl⟩]; simp
    have HV2 := Lh hv2
    clear hv2
    go_wp2
    go_roundw
    case rel => exact ⟨p + 1, false, out ++ [65533], hdn, by first | rfl | go_num, rfl, Hr2, HV2, Lh (by rw [List.length_append, Hn3.out, List.map_append]; exact O8.out), B9, by rw [List.length_append, Hn3.out]; show n3 + 1 ≤ _; omega⟩
    case measure => simp [intOf]; omega
   ·have zr : ¬ (r : Int) = 65533 := by omega
    have hv2 : Lib.validD l = (ov && Lib.validD (l.drop (p + 1))) := by rw [Hv.out, D4.out, if_neg (fun h => hr3 h.1)]
    have HV2 := Lh hv2
    clear hv2 hr3
    go_wp2
    go_roundw
    case rel => exact ⟨p + 1, ov, out ++ [r], hdn, by first | rfl | go_num, rfl, Hr2, HV2, Lh (by rw [List.length_append, Hn3.out, List.map_append]; exact O8.out), B9, by rw [List.length_append, Hn3.out]; show n3 + 1 ≤ _; omega⟩
    case measure => simp [intOf]; omega
   ·have zq : ¬ (q : Int) = 1 := by omega
    have hv2 : Lib.validD l = (ov && Lib.validD (l.drop (p + q))) := by rw [Hv.out, D4.out, if_neg (fun h => hq1 h.2)]
    have HV2 := Lh hv2
    clear hv2 hq1
    go_wp2
    go_roundw
    case rel => exact ⟨p + q, ov, out ++ [r], hdn, by first | rfl | go_num, rfl, Hr2, HV2, Lh (by rw [List.length_append, Hn3.out, List.map_append]; exact O8.out), B9, by rw [List.length_append, Hn3.out]; show n3 + 1 ≤ _; omega⟩
    case measure => simp [intOf]; omega
  ·obtain rfl : p = N := by omega
   have z1 : ¬ (p : Int) < (p : Int) := by omega
   have hdr : l.drop p = [] := List.drop_eq_nil_of_le (by rw [HN.out]; exact Nat.le_refl _)
   have hr1 := hr.out
   have hv1 := hv.out
   rw [hdr, runes_nil, List.append_nil] at hr1
   rw [hdr, Lib.validD_nil, Bool.and_true] at hv1
   have HO := Lh hown.out; have HB := Lh hbw.out; have HR := Lh hr1; have HVv := Lh hv1
   clear hr1 hv1 hr hv hdr hown hbw
   go_wp2_with fail
   go_ret2
   exact ⟨_, by rw [HVv.out]; rfl, by rw [HR.out, Hn3.out]; exact HO.out, HB.out⟩
set_option maxRecDepth 100000 in
set_option maxHeartbeats 16000000 in
theorem qParse (l : Bs) (w : World) (hl : l.length ≤ 9223372036854775807) :
  Calls Tryz.prog 56 #[str l] w fun e w' => Below w.heap.size w w' ∧ OutP (rexpP l) w e w' := by
 have hsz := str_size l
 obtain ⟨OUT, hOUT⟩ : ∃ OUT, rexpP l = OUT := ⟨_, rfl⟩
 have hx := hOUT
 unfold rexpP at hx
 rw [hOUT]
 have HX := Lh hx
 clear hx hOUT
 go_enter Tryz.func56, Tryz.ntmps56
 by_cases h128 : 128 < l.length
 ·have hx := HX.out
  rw [if_pos h128] at hx
  have HX2 := Lh hx
  have z1 : (128 : Int) < (l.length : Int) := by omega
  clear hx
  go_wp2
  go_ret2
  exact ⟨Below.refl _ _, by rw [← HX2.out]; exact rfl⟩
 ·have hl2 : l.length ≤ 128 := by omega
  have hx := HX.out
  rw [if_neg h128] at hx
  have z1 : ¬ (128 : Int) < (l.length : Int) := by omega
  have hv := vRunes ⟨l.toArray⟩ l rfl w (by omega)
  cases hval : Lib.validD l with
  | false =>
   rw [hval] at hv
   rw [if_pos hval] at hx
   have HX2 := Lh hx; have Hv := Lh hv
   clear hx hv hval
   go_wp2_with fail
   refine Hv.out.mono ?_
   rintro e w2 ⟨v, rfl, -, b2⟩
   go_wp2
   go_ret2
   exact ⟨b2, by rw [← HX2.out]; exact rfl⟩
  | true =>
   rw [hval] at hv
   rw [if_neg (by rw [hval]; decide)] at hx
   have HX2 := Lh hx; have Hv := Lh hv
   clear hx hv hval
   go_wp2_with fail
   refine Hv.out.mono ?_
   rintro e w2 ⟨v, rfl, hown, b2⟩
   obtain ⟨A, c, rfl, -⟩ := own_form hown
   have hrl := runes_len _ l (Nat.le_refl _)
   obtain ⟨n, hn⟩ : ∃ n, (runesP l).length = n := ⟨_, rfl⟩
   have hr2 := RowT.of_own hown
   have hlt := hown.lt
   rw [hn] at hr2 hrl hlt ⊢
   have s2 := b2.size
   obtain ⟨w4, hw4⟩ : ∃ w4, w4 = w2.alloc (.cells #[.slice A n c, .int .i64 0, .slice none 0 0, .int .i64 0, .int .i64 0, .bool false] 132) := ⟨_, rfl⟩
   have b4 : Below w2.heap.size w2 w4 := by rw [hw4]; exact (Below.refl _ _).alloc (Nat.le_refl _) _
   have hbk : Blk w4 w2.heap.size 132 [.slice A n c, .int .i64 0, .slice none 0 0, .int .i64 0, .int .i64 0, .bool false] := by
    rw [hw4]; exact Blk.new w2 _ _
   have hs4 : w4.heap.size = w2.heap.size + 1 := by rw [hw4]; simp
   have hqs : QS (fun k => w.heap.size ≤ k ∧ k < w2.heap.size) w4 w2.heap.size n (runesP l) [] 0 0 := by
    refine ⟨⟨A, c, none, 0, runesP l, 0, hbk, hr2.below b4, fun a e => hlt a.block (by rw [e]; rfl), ⟨[], rfl, World.ownsRow_nil _ _ _ _, by simp⟩, by simp, Nat.zero_le _, hn, runes_le _ l (Nat.le_refl _)⟩, fun k hk => by omega, Nat.le_refl _, by omega, by simp, by omega⟩
   have ha := allQ (runesP l).length _ w2.heap.size n w4 (runesP l) [] 0 0 (Nat.le_refl _) hqs (by simp; omega) (by omega)
   have hw24 : Below w.heap.size w w4 := b2.trans (b4.mono s2)
   have HA := Lh ha; have Hn := Lh hn; have Hw4 := Lh hw4
   clear ha hn hw4 hbk hr2 hlt hown
   go_wp2_with fail
   rw [← Hw4.out]
   refine HA.out.mono ?_
   rintro e w5 ⟨k5, o5⟩
   have hw5 := hw24.trans (k5.low.mono s2)
   cases hal : altF (runesP l) with
   | none =>
    rw [hal] at o5
    obtain ⟨x, m, rfl, hx5, -⟩ := o5
    obtain ⟨c5, f5⟩ := hx5.cell5
    have hrd : readR (runesP l) = .error 40 := by
     unfold readR
     rw [show altsR (4 * (runesP l).length + 4) (runesP l) = none from hal]
    have hOUT := HX2.out
    rw [hrd] at hOUT
    have HX3 := Lh hOUT
    clear hrd hOUT hal hx5 HA k5
    go_wp2
    go_ret2
    exact ⟨hw5, by rw [← HX3.out]; exact rfl⟩
   | some q =>
    obtain ⟨ts, r, d⟩ := q
    rw [hal] at o5
    obtain ⟨rfl, h5⟩ := o5
    dsimp only at h5
    rw [show max 0 (0 + d) = d by omega, List.nil_append] at h5
    have hrd : readR (runesP l) = if r ≠ [] then .error 40 else if 16 < d then .error 9 else if 1000 < (manyR .alt ts).size then .error 3 else .ok (manyR .alt ts) := by
     unfold readR
     rw [show altsR (4 * (runesP l).length + 4) (runesP l) = some (ts, r, d) from hal]
    have hOUT := HX2.out
    rw [hrd] at hOUT
    obtain ⟨A5, c5, O5, m5, rs0, p, hb5, hr5, hA5, hn5, hdr, hpn, hrs0, -⟩ := h5.ex
    have hcn := (altF_cnt hal).1
    have hlim : (manyR .alt ts).lim := many_lim (mk := .alt) (fun _ => rfl) ((parse_lim _).1 hal)
    obtain ⟨t, ht⟩ : ∃ t, manyR .alt ts = t := ⟨_, rfl⟩
    rw [ht] at hb5 hn5 hOUT hlim
    have htc : t.cnt ≤ cnts ts + 1 := by rw [← ht]; exact many_cnt .alt (fun _ => rfl) ts
    obtain ⟨N, hN⟩ : ∃ N, (t.flat 0).length = N := ⟨_, rfl⟩
    have e0 : ([] : List NodeP).length = 0 := rfl
    rw [e0] at hb5 hn5
    rw [hN] at hb5 hn5
    have hNc : N = t.cnt := by rw [← hN, flat_len]
    have hcp := cnt_pos t
    have g1 : w5.cell? ⟨w2.heap.size, 1, none⟩ = some (.int .i64 (p : Nat)) := hb5.cell 1
    have g2 : w5.cell? ⟨w2.heap.size, 2, none⟩ = some (.slice O5 N m5) := hb5.cell 2
    have g4 : w5.cell? ⟨w2.heap.size, 4, none⟩ = some (.int .i64 (d : Nat)) := hb5.cell 4
    have g5 : w5.cell? ⟨w2.heap.size, 5, none⟩ = some (.bool false) := hb5.cell 5
    have HX3 := Lh hOUT; have Hn5 := Lh hn5
    have hrp : r = [] ↔ p = n := by
     rw [hdr, List.drop_eq_nil_iff, hrs0]; omega
    have Hrp := Lh hrp
    have hN4 : N ≤ 10000 := by have := Hn.out; omega
    obtain ⟨x, hxs, hsz2⟩ : ∃ x : Nat, (1000 < x ↔ 1000 < t.size) ∧ Calls Tryz.prog 82 #[.slice O5 N m5, .int .i64 ((N - 1 : Nat) : Int)] w5 fun e w' => e = .returned (.int .i64 (x : Nat)) ∧ w' = w5 := by
     refine ⟨(sizesGo [] (t.flat 0)).getD (N - 1) 0, ?_, qSize _ O5 m5 N (t.flat 0) w5 hN hn5 hN4 (fun i n hn k hk => by have := wf_flat t 0 i n hn k hk; omega) (fun n hn => (flat_lim t 0 hlim n hn).mono (by omega)) (N - 1 + 1) (N - 1) (Nat.lt_succ_self _) (by omega)⟩
     have h1 := size_root t
     rw [List.getLast?_eq_getElem?, sizesGo_len, hN] at h1
     rw [List.getD_eq_getElem?_getD, show N - 1 = ([] : List Nat).length + N - 1 by simp, h1, Option.getD_some]
     omega
    have hroot : ([] : List NodeP).length + (manyR Re.alt ts).cnt - 1 = N - 1 := by rw [ht, hNc]; simp
    rw [hroot]
    have Hsz := Lh hsz2; have Hxs := Lh hxs
    have s5 := k5.low.size
    have hS5 : NodesIs (fun k => w.heap.size ≤ k ∧ k < w5.heap.size) w5 w.heap.size (.slice O5 N m5) (t.flat 0) := hn5.weak (by omega) (fun k hk => by
     rcases hk with hk | hk
     ·exact ⟨hk.1, by omega⟩
     ·exact ⟨by omega, hk.2⟩)
    have HS5 := Lh hS5
    clear hsz2 hxs hS5 hroot hn5 hb5 hr5 hOUT hrd hal hrp hlim h5 hdr hpn hrs0 hcn htc hNc hN ht e0 HA k5 hA5
    by_cases hp : p = n
    ·have hq1 : ((p : Int) != (n : Int)) = false := by simp; omega
     have hr0 : r = [] := Hrp.out.2 hp
     have hx3 := HX3.out
     rw [if_neg (fun e => e hr0)] at hx3
     have HX4 := Lh hx3
     clear hx3 hr0 hp
     by_cases h16 : 16 < d
     ·have z16 : (16 : Int) < (d : Int) := by omega
      have hx4 := HX4.out
      rw [if_pos h16] at hx4
      have HX5 := Lh hx4
      clear hx4
      go_wp2
      go_ret2
      exact ⟨hw5, by rw [← HX5.out]; exact rfl⟩
     ·have z16 : ¬ (16 : Int) < (d : Int) := by omega
      have hx4 := HX4.out
      rw [if_neg h16] at hx4
      have HX5 := Lh hx4
      clear hx4
      go_wp2_with fail
      refine Hsz.out.mono ?_
      rintro e w6 ⟨rfl, hw6⟩
      obtain rfl : w5 = w6 := hw6.symm
      by_cases hbig : 1000 < x
      ·have zb : (1000 : Int) < (x : Int) := by omega
       have hx5 := HX5.out
       rw [if_pos (Hxs.out.1 hbig)] at hx5
       have HX6 := Lh hx5
       clear hx5
       go_wp2
       go_ret2
       exact ⟨hw5, by rw [← HX6.out]; exact rfl⟩
      ·have zb : ¬ (1000 : Int) < (x : Int) := by omega
       have hx5 := HX5.out
       rw [if_neg (fun h => hbig (Hxs.out.2 h))] at hx5
       have HX6 := Lh hx5
       clear hx5
       go_wp2
       go_ret2
       exact ⟨hw5, by rw [← HX6.out]; exact ⟨_, rfl, HS5.out⟩⟩
    ·have hq1 : ((p : Int) != (n : Int)) = true := by simp; omega
     have hx3 := HX3.out
     rw [if_pos (fun e => hp (Hrp.out.1 e))] at hx3
     have HX4 := Lh hx3
     clear hx3 hp
     go_wp2
     go_ret2
     exact ⟨hw5, by rw [← HX4.out]; exact rfl⟩
end Go.Proofs.YtecejnilajbdpaaGreatDoor
