import Derived.Test.YtecejnilajbdpaaGreatDoorTz33
set_option maxRecDepth 100000
set_option maxHeartbeats 16000000
namespace Garner
open Go
theorem sizesGo_pre (ns : List NodeP) (k : Nat) (hk : k ≤ ns.length) {i : Nat} (hi : i < k) : (sizesGo [] (ns.take k)).getD i 0 = (sizesGo [] ns).getD i 0 := by
 have h : ∀ (l : List NodeP) (S : List Nat), i < S.length → (sizesGo S l).getD i 0 = S.getD i 0 := by
  intro l
  induction l with
  | nil => intro S _; rfl
  | cons n l ih =>
   intro S hS
   show (sizesGo (S ++ [nodeSize S n]) l).getD i 0 = _
   rw [ih _ (by simp; omega), List.getD_eq_getElem?_getD, List.getElem?_append_left hS, ← List.getD_eq_getElem?_getD]
 conv => rhs; rw [← List.take_append_drop k ns, sizesGo_app]
 exact (h (ns.drop k) _ (by rw [sizesGo_len, List.length_take]; simp; omega)).symm
end Garner
namespace Go.Proofs.YtecejnilajbdpaaGreatDoor
open Go.RowKit Garner
theorem qSize {F : Nat → Prop} (B : Nat) (A : Option Addr) (c N : Nat) (ns : List NodeP) (w : World) (hN : ns.length = N) (h : NodesIs F w B (.slice A N c) ns) (hlen : N ≤ 10000) (hwf : WfN ns) (hlim : ∀ n ∈ ns, NodeLim n) : ∀ M k : Nat, k < M → k < N →
  Calls Tryz.prog 82 #[.slice A N c, .int .i64 (k : Nat)] w fun e w' => e = .returned (.int .i64 (((sizesGo [] ns).getD k 0 : Nat) : Int)) ∧ w' = w := by
 have HN := Lh hN; have HH := Lh h; have Hwf := Lh hwf; have Hlim := Lh hlim
 clear hN h hwf hlim
 intro M
 induction M with
 | zero => intro k hk; omega
 | succ M ih =>
  intro k hkM hkN
  obtain ⟨ds, hds, hown0, hok⟩ := HH.out
  rw [HN.out] at hown0
  obtain ⟨gN, rfl, -, hgN, -, -, hcell⟩ := own_at hown0 (by omega)
  obtain ⟨d, hd⟩ : ∃ d, ds[k]? = some d := ⟨_, List.getElem?_eq_getElem (by have e1 := HN.out; have e2 := congrArg List.length hds; rw [List.length_map] at e2; omega)⟩
  have hnk : ns[k]? = some d.n := by rw [← hds, List.getElem?_map, hd]; rfl
  have hlm := Hlim.out d.n (List.mem_of_getElem? hnk)
  have hdo := hok d (List.mem_of_getElem? hd)
  have hw := Hwf.out k d.n hnk
  have cc : ∀ j, j < 5 → w.cell? ⟨gN, k * 5 + j, none⟩ = d.cells[j]? := fun j hj => by
   rw [hcell (k * 5 + j) (by omega), cells_at hd j hj]
  have c0 : w.cell? ⟨gN, k * 5, none⟩ = some (.int .i64 (d.n.kind : Nat)) := cc 0 (by omega)
  have c1 : w.cell? ⟨gN, k * 5 + 1, none⟩ = some (.slice d.kA d.n.kids.length d.kc) := cc 1 (by omega)
  have c2 : w.cell? ⟨gN, k * 5 + 2, none⟩ = some (.int .i64 (d.n.mn : Nat)) := cc 2 (by omega)
  have c3 : w.cell? ⟨gN, k * 5 + 3, none⟩ = some (.int .i64 d.n.mx) := cc 3 (by omega)
  obtain ⟨S, hS⟩ : ∃ S, sizesGo [] (ns.take k) = S := ⟨_, rfl⟩
  have hans : (sizesGo [] ns).getD k 0 = kidsSize (nodeTimes d.n) S d.n.kids := by
   rw [← sizesGo_pre ns (k + 1) (by rw [HN.out]; omega) (Nat.lt_succ_self k), sizes_take hnk, hS]
   have hSl : S.length = k := by rw [← hS, sizesGo_len, List.length_take, HN.out]; simp; omega
   rw [List.getD_eq_getElem?_getD, List.getElem?_append_right (by rw [hSl]; exact Nat.le_refl _), hSl, Nat.sub_self]
   rfl
  have hrec : ∀ kid, kid < k → Calls Tryz.prog 82 #[.slice (some ⟨gN, 0, none⟩) N c, .int .i64 (kid : Nat)] w fun e w' => e = .returned (.int .i64 ((S.getD kid 0 : Nat) : Int)) ∧ w' = w := fun kid hkid => by
   have := ih kid (by omega) (by omega)
   rwa [← sizesGo_pre ns k (by rw [HN.out]; omega) hkid, hS] at this
  have hSb : ∀ i, S.getD i 0 ≤ 2000 := fun i => by
   rw [List.getD_eq_getElem?_getD]
   cases hi : S[i]? with
   | none => simp
   | some y => exact sizes_le (ns.take k) [] (by simp) y (by rw [hS]; exact List.mem_of_getElem? hi)
  obtain ⟨ANS, hANS⟩ : ∃ ANS, (sizesGo [] ns).getD k 0 = ANS := ⟨_, rfl⟩
  rw [hANS] at hans ⊢
  obtain ⟨l1, l2, l3, l4, l5⟩ := hlm
  obtain ⟨T, hT⟩ : ∃ T, nodeTimes d.n = T := ⟨_, rfl⟩
  rw [hT] at hans
  unfold nodeTimes at hT
  have hdk := hdo.kids
  obtain ⟨ks, hks⟩ : ∃ ks, d.n.kids = ks := ⟨_, rfl⟩
  obtain ⟨kd, hkd⟩ : ∃ kd, d.n.kind = kd := ⟨_, rfl⟩
  obtain ⟨mn, hmn⟩ : ∃ mn, d.n.mn = mn := ⟨_, rfl⟩
  obtain ⟨mx, hmx⟩ : ∃ mx, d.n.mx = mx := ⟨_, rfl⟩
  obtain ⟨KA, hKA⟩ : ∃ KA, d.kA = KA := ⟨_, rfl⟩
  obtain ⟨kc, hkc⟩ : ∃ kc, d.kc = kc := ⟨_, rfl⟩
  rw [hks] at hans hw c1 hdk l5
  rw [hkd] at c0 l1 hT; rw [hmn] at c2 l2 hT; rw [hmx] at c3 l3 l4 hT; rw [hKA, hkc] at c1; rw [hKA] at hdk
  obtain ⟨kl, hkl⟩ : ∃ kl, ks.length = kl := ⟨_, rfl⟩
  rw [hkl] at c1 hdk l5
  have hT9 : T ≤ 9 := by
   rw [← hT]; split
   ·split <;> omega
   omega
  have Hans := Lh hans; have Hrec := Lh hrec; have HSb := Lh hSb; have HT := Lh hT; have Hdk := Lh hdk; have Hw := Lh hw; have Hkl := Lh hkl
  have z1 : (k : Int) < (N : Int) := by omega
  clear hans hrec hSb hT hdk hw hkl hkd hmn hmx hKA hkc hks hANS hS cc hcell hown0 hok hds hd hnk hdo ih
  go_enter Tryz.func82, Tryz.ntmps82
  go_wp2
  go_loopw [5, 6] (fun v i wr => ∃ j a : Nat, j ≤ kl ∧ v = .int .i64 a ∧ i = .int .i64 j ∧ a ≤ 2000 ∧ Hid (a = kidsSize T S (ks.take j)) ∧ wr = w) (fun _ i _ => kl - (intOf i).toNat)
  case atStart => exact ⟨0, 1, Nat.zero_le _, rfl, rfl, by omega, Lh rfl, rfl⟩
  obtain ⟨j, a, hj, rfl, rfl, ha2, haa, hwr⟩ := hrel
  obtain rfl : w = wr := hwr.symm
  by_cases hjl : j < kl
  ·obtain ⟨kid, hkid⟩ : ∃ kid, ks[j]? = some kid := ⟨_, List.getElem?_eq_getElem (by rw [Hkl.out]; exact hjl)⟩
   have hkk := Hw.out kid (List.mem_of_getElem? hkid)
   obtain ⟨y, hy⟩ : ∃ y, S.getD kid 0 = y := ⟨_, rfl⟩
   have hy2 := HSb.out kid
   have hr := Hrec.out kid hkk
   rw [hy] at hr hy2
   obtain ⟨bk, ok, rfl, ck0⟩ := Hdk.out.at_ (k := j) (u := iv kid) (by rw [List.getElem?_map, hkid]; rfl)
   have ckid : w.cell? ⟨bk, ok + j, none⟩ = some (.int .i64 (kid : Nat)) := ck0
   clear ck0
   have z2 : (j : Int) < (kl : Int) := by omega
   have wj1 := wS j (by omega)
   have hTy : T * y ≤ 18000 := by
    have := Nat.mul_le_mul hT9 hy2
    omega
   have hstep := kids_take T S hkid
   rw [← haa.out, hy] at hstep
   obtain ⟨Q, hQ⟩ : ∃ Q, T * y = Q := ⟨_, rfl⟩
   have wm0 : (T : Int) * (y : Int) = (Q : Int) := by rw [← hQ, Int.natCast_mul]
   rw [hQ] at hstep hTy
   have wa : IntKind.i64.wrap ((a : Int) + (Q : Int)) = (a : Int) + (Q : Int) := by rw [IntKind.wrap_i64]; omega
   have wq : IntKind.i64.wrap (Q : Int) = (Q : Int) := by rw [IntKind.wrap_i64]; omega
   have Hst := Lh hstep; have Hr := Lh hr; have Hm0 := Lh wm0
   clear hstep hy hkid haa wm0 hQ hr
   have hsplit : (∃ mxn : Nat, kd = 5 ∧ mx = (mxn : Int) ∧ 1 < mxn ∧ T = mxn) ∨ (kd = 5 ∧ mx < 0 ∧ 0 < mn ∧ T = mn + 1) ∨ (T = 1 ∧ (kd ≠ 5 ∨ (kd = 5 ∧ ¬ mx > 1 ∧ (¬ mx < 0 ∨ (mx < 0 ∧ mn = 0))))) := by
    have ht := HT.out
    by_cases h5 : kd = 5
    ·rw [if_pos h5] at ht
     by_cases hm : mx < 0
     ·rw [if_pos hm] at ht
      by_cases h0 : mn = 0
      ·exact .inr (.inr ⟨by omega, .inr ⟨h5, by omega, .inr ⟨hm, h0⟩⟩⟩)
      exact .inr (.inl ⟨h5, hm, by omega, ht.symm⟩)
     rw [if_neg hm] at ht
     by_cases h1 : mx > 1
     ·exact .inl ⟨mx.toNat, h5, by omega, by omega, by omega⟩
     exact .inr (.inr ⟨by omega, .inr ⟨h5, h1, .inl hm⟩⟩)
    rw [if_neg h5] at ht
    exact .inr (.inr ⟨ht.symm, .inl h5⟩)
   have wmn : IntKind.i64.wrap ((mn : Int) + 1) = (mn : Int) + 1 := by rw [IntKind.wrap_i64]; omega
   have hfini : ∀ (b : Nat), b = min 2000 (a + Q) → ∃ j' a' : Nat, j' ≤ kl ∧ Value.int .i64 (b : Nat) = .int .i64 (a' : Nat) ∧ Value.int .i64 ((j + 1 : Nat) : Int) = .int .i64 (j' : Nat) ∧ a' ≤ 2000 ∧ Hid (a' = kidsSize T S (ks.take j')) ∧ w = w := fun b hb => ⟨j + 1, b, hjl, rfl, rfl, by omega, Lh (by rw [hb, Hst.out]), rfl⟩
   have Hfin := Lh hfini
   clear hfini
   rcases hsplit with ⟨mxn, rfl, rfl, hx1, rfl⟩ | ⟨rfl, hm0, hn0, rfl⟩ | ⟨rfl, hh⟩
   ·have x1 : (1 : Int) < (T : Int) := by omega
    have x2 : ¬ (T : Int) < 0 := by omega
    have wm : (T : Int) * (y : Int) = (Q : Int) := Hm0.out
    have HM := Lh wm
    clear wm
    by_cases hb : 2000 < a + Q
    ·have zb : (2000 : Int) < (a : Int) + (Q : Int) := by omega
     go_wp2_with fail
     refine Hr.out.mono ?_
     rintro e w2 ⟨rfl, hw2⟩
     obtain rfl : w = w2 := hw2.symm
     have wm := HM.out
     go_wp2
     go_roundw
     case rel => exact Hfin.out 2000 (by omega)
     case measure => simp [intOf]; omega
    have zb : ¬ (2000 : Int) < (a : Int) + (Q : Int) := by omega
    go_wp2_with fail
    refine Hr.out.mono ?_
    rintro e w2 ⟨rfl, hw2⟩
    obtain rfl : w = w2 := hw2.symm
    have wm := HM.out
    go_wp2
    go_roundw
    case rel => exact Hfin.out (a + Q) (by omega)
    case measure => simp [intOf]; omega
   ·have x1 : ¬ (1 : Int) < mx := by omega
    have x2 : (0 : Int) < (mn : Int) := by omega
    have wm : ((mn : Int) + 1) * (y : Int) = (Q : Int) := by have := Hm0.out; rwa [Int.natCast_add] at this
    have HM := Lh wm
    clear wm
    by_cases hb : 2000 < a + Q
    ·have zb : (2000 : Int) < (a : Int) + (Q : Int) := by omega
     go_wp2_with fail
     refine Hr.out.mono ?_
     rintro e w2 ⟨rfl, hw2⟩
     obtain rfl : w = w2 := hw2.symm
     have wm := HM.out
     go_wp2
     go_roundw
     case rel => exact Hfin.out 2000 (by omega)
     case measure => simp [intOf]; omega
    have zb : ¬ (2000 : Int) < (a : Int) + (Q : Int) := by omega
    go_wp2_with fail
    refine Hr.out.mono ?_
    rintro e w2 ⟨rfl, hw2⟩
    obtain rfl : w = w2 := hw2.symm
    have wm := HM.out
    go_wp2
    go_roundw
    case rel => exact Hfin.out (a + Q) (by omega)
    case measure => simp [intOf]; omega
   have hyq : y = Q := by have := Hm0.out; simp at this; omega
   subst hyq
   rcases hh with h5 | ⟨h5, h1, h2 | ⟨hmn, h2⟩⟩
   ·have x0 : ((kd : Int) == 5) = false := by simp; omega
    by_cases hb : 2000 < a + y
    ·have zb : (2000 : Int) < (a : Int) + (y : Int) := by omega
     go_wp2_with fail
     refine Hr.out.mono ?_
     rintro e w2 ⟨rfl, hw2⟩
     obtain rfl : w = w2 := hw2.symm
     go_wp2
     go_roundw
     case rel => exact Hfin.out 2000 (by omega)
     case measure => simp [intOf]; omega
    have zb : ¬ (2000 : Int) < (a : Int) + (y : Int) := by omega
    go_wp2_with fail
    refine Hr.out.mono ?_
    rintro e w2 ⟨rfl, hw2⟩
    obtain rfl : w = w2 := hw2.symm
    go_wp2
    go_roundw
    case rel => exact Hfin.out (a + y) (by omega)
    case measure => simp [intOf]; omega
   ·subst h5
    have x1 : ¬ (1 : Int) < mx := by omega
    by_cases hb : 2000 < a + y
    ·have zb : (2000 : Int) < (a : Int) + (y : Int) := by omega
     go_wp2_with fail
     refine Hr.out.mono ?_
     rintro e w2 ⟨rfl, hw2⟩
     obtain rfl : w = w2 := hw2.symm
     go_wp2
     go_roundw
     case rel => exact Hfin.out 2000 (by omega)
     case measure => simp [intOf]; omega
    have zb : ¬ (2000 : Int) < (a : Int) + (y : Int) := by omega
    go_wp2_with fail
    refine Hr.out.mono ?_
    rintro e w2 ⟨rfl, hw2⟩
    obtain rfl : w = w2 := hw2.symm
    go_wp2
    go_roundw
    case rel => exact Hfin.out (a + y) (by omega)
    case measure => simp [intOf]; omega
   subst h5
   subst h2
   have x1 : ¬ (1 : Int) < mx := by omega
   by_cases hb : 2000 < a + y
   ·have zb : (2000 : Int) < (a : Int) + (y : Int) := by omega
    go_wp2_with fail
    refine Hr.out.mono ?_
    rintro e w2 ⟨rfl, hw2⟩
    obtain rfl : w = w2 := hw2.symm
    go_wp2
    go_roundw
    case rel => exact Hfin.out 2000 (by omega)
    case measure => simp [intOf]; omega
   have zb : ¬ (2000 : Int) < (a : Int) + (y : Int) := by omega
   go_wp2_with fail
   refine Hr.out.mono ?_
   rintro e w2 ⟨rfl, hw2⟩
   obtain rfl : w = w2 := hw2.symm
   go_wp2
   go_roundw
   case rel => exact Hfin.out (a + y) (by omega)
   case measure => simp [intOf]; omega
  have z2 : ¬ (j : Int) < (kl : Int) := by omega
  have hfin : a = ANS := by
   rw [haa.out, Hans.out, List.take_of_length_le (by rw [Hkl.out]; omega)]
  have HF := Lh hfin
  clear hfin haa
  go_wp2
  go_ret
  exact ⟨by rw [HF.out]; rfl, rfl⟩
theorem qParse (l : Bs) (w : World) (hl : l.length ≤ 9223372036854775807) :
  Calls Tryz.prog 56 #[str l] w fun e w' => Below w.heap.size w w' ∧ OutP (rexpP l) w e w' := by
 have hsz := str_size l
 obtain ⟨OUT, hOUT⟩ : ∃ OUT, rexpP l = OUT := ⟨_, rfl⟩
 have hx := hOUT
 unfold rexpP at hx
 rw [hOUT]
 have HX := Lh hx
 clear hx hOUT
 go_enter Tryz.func56, Tryz.ntmps56
 by_cases h128 : 128 < l.length
 ·have hx := HX.out
  rw [if_pos h128] at hx
  have HX2 := Lh hx
  have z1 : (128 : Int) < (l.length : Int) := by omega
  clear hx
  go_wp2
  go_ret2
  exact ⟨Below.refl _ _, by rw [← HX2.out]; exact rfl⟩
 have hl2 : l.length ≤ 128 := by omega
 have hx := HX.out
 rw [if_neg h128] at hx
 have z1 : ¬ (128 : Int) < (l.length : Int) := by omega
 have hv := vRunes ⟨l.toArray⟩ l rfl w (by omega)
 cases hval : Lib.validD l with
 | false =>
  rw [hval] at hv
  rw [if_pos hval] at hx
  have HX2 := Lh hx; have Hv := Lh hv
  clear hx hv hval
  go_wp2_with fail
  refine Hv.out.mono ?_
  rintro e w2 ⟨v, rfl, -, b2⟩
  go_wp2
  go_ret2
  exact ⟨b2, by rw [← HX2.out]; exact rfl⟩
 | true =>
  rw [hval] at hv
  rw [if_neg (by rw [hval]; decide)] at hx
  have HX2 := Lh hx; have Hv := Lh hv
  clear hx hv hval
  go_wp2_with fail
  refine Hv.out.mono ?_
  rintro e w2 ⟨v, rfl, hown, b2⟩
  obtain ⟨A, c, rfl, -⟩ := own_form hown
  have hrl := runes_len _ l (Nat.le_refl _)
  obtain ⟨n, hn⟩ : ∃ n, (runesP l).length = n := ⟨_, rfl⟩
  have hr2 := RowT.of_own hown
  have hlt := hown.lt
  rw [hn] at hr2 hrl hlt ⊢
  have s2 := b2.size
  obtain ⟨w4, hw4⟩ : ∃ w4, w4 = w2.alloc (.cells #[.slice A n c, .int .i64 0, .slice none 0 0, .int .i64 0, .int .i64 0, .bool false] 132) := ⟨_, rfl⟩
  have b4 : Below w2.heap.size w2 w4 := by rw [hw4]; exact (Below.refl _ _).alloc (Nat.le_refl _) _
  have hbk : Blk w4 w2.heap.size 132 [.slice A n c, .int .i64 0, .slice none 0 0, .int .i64 0, .int .i64 0, .bool false] := by
   rw [hw4]; exact Blk.new w2 _ _
  have hs4 : w4.heap.size = w2.heap.size + 1 := by rw [hw4]; simp
  have hqs : QS (fun k => w.heap.size ≤ k ∧ k < w2.heap.size) w4 w2.heap.size n (runesP l) [] 0 0 := by
   refine ⟨⟨A, c, none, 0, runesP l, 0, hbk, hr2.below b4, fun a e => hlt a.block (by rw [e]; rfl), ⟨[], rfl, World.ownsRow_nil _ _ _ _, by simp⟩, by simp, Nat.zero_le _, hn, runes_le _ l (Nat.le_refl _)⟩, fun k hk => by omega, Nat.le_refl _, by omega, by simp, by omega⟩
  have ha := allQ (runesP l).length _ w2.heap.size n w4 (runesP l) [] 0 0 (Nat.le_refl _) hqs (by simp; omega) (by omega)
  have hw24 : Below w.heap.size w w4 := b2.trans (b4.mono s2)
  have HA := Lh ha; have Hn := Lh hn; have Hw4 := Lh hw4
  clear ha hn hw4 hbk hr2 hlt hown
  go_wp2_with fail
  rw [← Hw4.out]
  refine HA.out.mono ?_
  rintro e w5 ⟨k5, o5⟩
  have hw5 := hw24.trans (k5.low.mono s2)
  cases hal : altF (runesP l) with
  | none =>
   rw [hal] at o5
   obtain ⟨x, m, rfl, hx5, -⟩ := o5
   obtain ⟨c5, f5⟩ := hx5.cell5
   have hrd : readR (runesP l) = .error 40 := by
    unfold readR
    rw [show altsR (4 * (runesP l).length + 4) (runesP l) = none from hal]
   have hOUT := HX2.out
   rw [hrd] at hOUT
   have HX3 := Lh hOUT
   clear hrd hOUT hal hx5 HA k5
   go_wp2
   go_ret2
   exact ⟨hw5, by rw [← HX3.out]; exact rfl⟩
  | some q =>
   obtain ⟨ts, r, d⟩ := q
   rw [hal] at o5
   obtain ⟨rfl, h5⟩ := o5
   dsimp only at h5
   rw [show max 0 (0 + d) = d by omega, List.nil_append] at h5
   have hrd : readR (runesP l) = if r ≠ [] then .error 40 else if 16 < d then .error 9 else if 1000 < (manyR .alt ts).size then .error 3 else .ok (manyR .alt ts) := by
    unfold readR
    rw [show altsR (4 * (runesP l).length + 4) (runesP l) = some (ts, r, d) from hal]
   have hOUT := HX2.out
   rw [hrd] at hOUT
   obtain ⟨A5, c5, O5, m5, rs0, p, hb5, hr5, hA5, hn5, hdr, hpn, hrs0, -⟩ := h5.ex
   have hcn := (altF_cnt hal).1
   have hlim : (manyR .alt ts).lim := many_lim (mk := .alt) (fun _ => rfl) ((parse_lim _).1 hal)
   obtain ⟨t, ht⟩ : ∃ t, manyR .alt ts = t := ⟨_, rfl⟩
   rw [ht] at hb5 hn5 hOUT hlim
   have htc : t.cnt ≤ cnts ts + 1 := by rw [← ht]; exact many_cnt .alt (fun _ => rfl) ts
   obtain ⟨N, hN⟩ : ∃ N, (t.flat 0).length = N := ⟨_, rfl⟩
   have e0 : ([] : List NodeP).length = 0 := rfl
   rw [e0] at hb5 hn5
   rw [hN] at hb5 hn5
   have hNc : N = t.cnt := by rw [← hN, flat_len]
   have hcp := cnt_pos t
   have g1 : w5.cell? ⟨w2.heap.size, 1, none⟩ = some (.int .i64 (p : Nat)) := hb5.cell 1
   have g2 : w5.cell? ⟨w2.heap.size, 2, none⟩ = some (.slice O5 N m5) := hb5.cell 2
   have g4 : w5.cell? ⟨w2.heap.size, 4, none⟩ = some (.int .i64 (d : Nat)) := hb5.cell 4
   have g5 : w5.cell? ⟨w2.heap.size, 5, none⟩ = some (.bool false) := hb5.cell 5
   have HX3 := Lh hOUT; have Hn5 := Lh hn5
   have hrp : r = [] ↔ p = n := by
    rw [hdr, List.drop_eq_nil_iff, hrs0]; omega
   have Hrp := Lh hrp
   have hN4 : N ≤ 10000 := by have := Hn.out; omega
   obtain ⟨x, hxs, hsz2⟩ : ∃ x : Nat, (1000 < x ↔ 1000 < t.size) ∧ Calls Tryz.prog 82 #[.slice O5 N m5, .int .i64 ((N - 1 : Nat) : Int)] w5 fun e w' => e = .returned (.int .i64 (x : Nat)) ∧ w' = w5 := by
    refine ⟨(sizesGo [] (t.flat 0)).getD (N - 1) 0, ?_, qSize _ O5 m5 N (t.flat 0) w5 hN hn5 hN4 (fun i n hn k hk => by have := wf_flat t 0 i n hn k hk; omega) (fun n hn => (flat_lim t 0 hlim n hn).mono (by omega)) (N - 1 + 1) (N - 1) (Nat.lt_succ_self _) (by omega)⟩
    have h1 := size_root t
    rw [List.getLast?_eq_getElem?, sizesGo_len, hN] at h1
    rw [List.getD_eq_getElem?_getD, show N - 1 = ([] : List Nat).length + N - 1 by simp, h1, Option.getD_some]
    omega
   have hroot : ([] : List NodeP).length + (manyR Re.alt ts).cnt - 1 = N - 1 := by rw [ht, hNc]; simp
   rw [hroot]
   have Hsz := Lh hsz2; have Hxs := Lh hxs
   have s5 := k5.low.size
   have hS5 : NodesIs (fun k => w.heap.size ≤ k ∧ k < w5.heap.size) w5 w.heap.size (.slice O5 N m5) (t.flat 0) := hn5.weak (by omega) (fun k hk => by
    rcases hk with hk | hk
    ·exact ⟨hk.1, by omega⟩
    exact ⟨by omega, hk.2⟩)
   have HS5 := Lh hS5
   clear hsz2 hxs hS5 hroot hn5 hb5 hr5 hOUT hrd hal hrp hlim h5 hdr hpn hrs0 hcn htc hNc hN ht e0 HA k5 hA5
   by_cases hp : p = n
   ·have hq1 : ((p : Int) != (n : Int)) = false := by simp; omega
    have hr0 : r = [] := Hrp.out.2 hp
    have hx3 := HX3.out
    rw [if_neg (fun e => e hr0)] at hx3
    have HX4 := Lh hx3
    clear hx3 hr0 hp
    by_cases h16 : 16 < d
    ·have z16 : (16 : Int) < (d : Int) := by omega
     have hx4 := HX4.out
     rw [if_pos h16] at hx4
     have HX5 := Lh hx4
     clear hx4
     go_wp2
     go_ret2
     exact ⟨hw5, by rw [← HX5.out]; exact rfl⟩
    have z16 : ¬ (16 : Int) < (d : Int) := by omega
    have hx4 := HX4.out
    rw [if_neg h16] at hx4
    have HX5 := Lh hx4
    clear hx4
    go_wp2_with fail
    refine Hsz.out.mono ?_
    rintro e w6 ⟨rfl, hw6⟩
    obtain rfl : w5 = w6 := hw6.symm
    by_cases hbig : 1000 < x
    ·have zb : (1000 : Int) < (x : Int) := by omega
     have hx5 := HX5.out
     rw [if_pos (Hxs.out.1 hbig)] at hx5
     have HX6 := Lh hx5
     clear hx5
     go_wp2
     go_ret2
     exact ⟨hw5, by rw [← HX6.out]; exact rfl⟩
    have zb : ¬ (1000 : Int) < (x : Int) := by omega
    have hx5 := HX5.out
    rw [if_neg (fun h => hbig (Hxs.out.2 h))] at hx5
    have HX6 := Lh hx5
    clear hx5
    go_wp2
    go_ret2
    exact ⟨hw5, by rw [← HX6.out]; exact ⟨_, rfl, HS5.out⟩⟩
   have hq1 : ((p : Int) != (n : Int)) = true := by simp; omega
   have hx3 := HX3.out
   rw [if_pos (fun e => hp (Hrp.out.1 e))] at hx3
   have HX4 := Lh hx3
   clear hx3 hp
   go_wp2
   go_ret2
   exact ⟨hw5, by rw [← HX4.out]; exact rfl⟩
end Go.Proofs.YtecejnilajbdpaaGreatDoor
namespace Garner
open Go
def orB (a b : List Bool) : List Bool := List.zipWith (fun x y => x || y) a b
theorem orB_len {a b : List Bool} (h : b.length = a.length) : (orB a b).length = a.length := by
 unfold orB; rw [List.length_zipWith, h, Nat.min_self]
theorem orB_at {a b : List Bool} {k : Nat} {x y : Bool} (h1 : a[k]? = some x) (h2 : b[k]? = some y) : (orB a b)[k]? = some (x || y) := by
 unfold orB; rw [List.getElem?_zipWith, h1, h2]
theorem take_set {l : List Bool} {k n : Nat} {x : Bool} (h : l[k]? = some x) (hk : k < n) : (l.take k ++ List.replicate (n - k) false).set k x = l.take (k + 1) ++ List.replicate (n - (k + 1)) false := by
 obtain ⟨h1, h2⟩ := List.getElem?_eq_some_iff.1 h
 have hl : (l.take k).length = k := by rw [List.length_take]; omega
 rw [List.set_append, if_neg (by omega), hl, Nat.sub_self, show n - k = (n - (k + 1)) + 1 by omega, List.replicate_succ, List.set_cons_zero, List.take_succ_eq_append_getElem h1, h2, List.append_assoc]
 rfl
end Garner
namespace Go.Proofs.YtecejnilajbdpaaGreatDoor
open Go.RowKit Garner
theorem boolE : Elem Tryz.prog 153 4 (.bool false) 1 1 := ⟨Tryz.underlying153, by kernel_rfl, rfl, by omega, by omega⟩
theorem mkBools (n : Nat) (u : World) (hn : n ≤ 2000000) : ∃ w', (Instr.makeSlice 153 (.int .i64 n) (.int .i64 n)).run Tryz.prog u = .ok (.slice (some ⟨u.heap.size, 0, none⟩) n n) w' ∧
  w'.ownsRow u.heap.size 4 1 (.slice (some ⟨u.heap.size, 0, none⟩) n n) n ((List.replicate n false).map Value.bool) ∧ Below u.heap.size u w' := by
 obtain ⟨i, hi, hz, hsz, hby⟩ : ∃ i, Tryz.prog.info? 4 = some i ∧ i.zero = some (.bool false) ∧ i.size = 1 ∧ i.bytes = 1 := by
  have h := boolE.info
  cases hi : Tryz.prog.info? 4 with
  | none => rw [hi] at h; cases h
  | some i => rw [hi] at h; simp at h; exact ⟨i, rfl, h.1, h.2.1, h.2.2⟩
 obtain ⟨w', h1, h2, h3⟩ := run_make_full (P := Tryz.prog) u u.heap.size 153 4 i _ 1 boolE.slice hi hz hsz .i64 .i64 n (by rw [hby]; omega) (by unfold maxLen; omega) (Nat.le_refl _)
 refine ⟨w', h1, ?_, (But.grown (S := []) h3 (by simp)).below (Nat.le_refl _) (by simp)⟩
 have e : (madeCells (Value.bool false).cells (n * 1)).toList = (List.replicate n false).map Value.bool := by
  rw [Nat.mul_one, List.map_replicate]
  apply List.ext_getElem
  ·simp [madeCells]
  intro k h1 h2
  simp [madeCells, Nat.mod_one, Value.cells]
 rw [← e]; exact h2
theorem wJoin (a b : List Bool) (A B : Option Addr) (c c' n : Nat) (w : World) (ha : a.length = n) (hb : b.length = n) (hn : n ≤ 2000000) (ra : RowT w 4 A n (a.map Value.bool)) (rb : RowT w 4 B n (b.map Value.bool)) :
  Calls Tryz.prog 125 #[.slice A n c, .slice B n c'] w fun e w' => ∃ C c2, e = .returned (.slice C n c2) ∧ w'.ownsRow w.heap.size 4 1 (.slice C n c2) n ((orB a b).map Value.bool) ∧ Below w.heap.size w w' := by
 obtain ⟨R, hR⟩ : ∃ R, orB a b = R := ⟨_, rfl⟩
 have hRl : R.length = n := by rw [← hR, orB_len (hb.trans ha.symm), ha]
 obtain ⟨w1, hmk, own1, b1⟩ := mkBools n w hn
 have HR := Lh hR; have HRl := Lh hRl; have Ha := Lh ha; have Hb := Lh hb
 have s1 := b1.size
 rw [hR]
 clear hR hRl ha hb
 go_enter Tryz.func125, Tryz.ntmps125
 go_wp2
 go_loopw [6] (fun i wr => ∃ k : Nat, k ≤ n ∧ i = .int .i64 k ∧ wr.ownsRow w.heap.size 4 1 (.slice (some ⟨w.heap.size, 0, none⟩) n n) n ((R.take k ++ List.replicate (n - k) false).map Value.bool) ∧ Below w.heap.size w wr) (fun i _ => n - (intOf i).toNat)
 case atStart => exact ⟨0, Nat.zero_le _, rfl, by simpa using own1, b1⟩
 obtain ⟨k, hk, rfl, hown, hbel⟩ := hrel
 obtain ⟨wo, rfl⟩ : ∃ wo : World, wo = wr := ⟨_, rfl⟩
 have wk1 := wS k (by omega)
 by_cases hlt : k < n
 ·have z1 : (k : Int) < (n : Int) := by omega
  obtain ⟨x, hx⟩ : ∃ x, a[k]? = some x := ⟨_, List.getElem?_eq_getElem (by rw [Ha.out]; exact hlt)⟩
  obtain ⟨y, hy⟩ : ∃ y, b[k]? = some y := ⟨_, List.getElem?_eq_getElem (by rw [Hb.out]; exact hlt)⟩
  have hxy : R[k]? = some (x || y) := by rw [← HR.out]; exact orB_at hx hy
  have hset := take_set hxy hlt
  obtain ⟨ba, oa, rfl, ca⟩ := (ra.below hbel).at_ (k := k) (u := .bool x) (by rw [List.getElem?_map, hx]; rfl)
  obtain ⟨bb, ob, rfl, cb⟩ := (rb.below hbel).at_ (k := k) (u := .bool y) (by rw [List.getElem?_map, hy]; rfl)
  have oY := own_setQ (j := k) (u := .bool (x || y)) hown
  rw [show ((R.take k ++ List.replicate (n - k) false).map Value.bool).set k (.bool (x || y)) = (R.take (k + 1) ++ List.replicate (n - (k + 1)) false).map Value.bool by rw [← hset, List.map_set]] at oY
  have ck := hown.cellAt k (by omega)
  obtain ⟨u0, hu0⟩ : ∃ u0, wo.cell? ⟨w.heap.size, k, none⟩ = some u0 := by
   rw [ck]
   exact ⟨_, List.getElem?_eq_getElem (by simp [HRl.out]; omega)⟩
  have fk := hown.frozenAt k
  have OY := Lh oY
  have hbY := hbel.setCell (p := ⟨w.heap.size, k, none⟩) (Nat.le_refl _) (.bool (x || y))
  have HBY := Lh hbY
  clear hset hxy hx hy oY ck hbY
  cases x with
  | true =>
   go_wp2
   go_roundw
   case rel => exact ⟨k + 1, by omega, rfl, OY.out, HBY.out⟩
   case measure => simp [intOf]; omega
  | false =>
   go_wp2
   go_roundw
   case rel => exact ⟨k + 1, by omega, rfl, by have := OY.out; rwa [Bool.false_or] at this, by have := HBY.out; rwa [Bool.false_or] at this⟩
   case measure => simp [intOf]; omega
 obtain rfl : k = n := by omega
 have z1 : ¬ (k : Int) < (k : Int) := by omega
 have hfin : R.take k ++ List.replicate (k - k) false = R := by rw [Nat.sub_self, List.take_of_length_le (by rw [HRl.out]; exact Nat.le_refl _)]; simp
 rw [hfin] at hown
 clear hfin
 go_wp2
 go_ret
 exact ⟨_, _, rfl, hown, hbel⟩
theorem wSame (a b : List Bool) (A B : Option Addr) (c c' n : Nat) (w : World) (ha : a.length = n) (hb : b.length = n) (hn : n ≤ 2000000) (ra : RowT w 4 A n (a.map Value.bool)) (rb : RowT w 4 B n (b.map Value.bool)) :
  Calls Tryz.prog 149 #[.slice A n c, .slice B n c'] w fun e w' => e = .returned (.bool (decide (a = b))) ∧ Below w.heap.size w w' := by
 obtain ⟨ANS, hANS⟩ : ∃ ANS, decide (a = b) = ANS := ⟨_, rfl⟩
 rw [hANS]
 have HA := Lh hANS; have Ha := Lh ha; have Hb := Lh hb
 clear hANS ha hb
 go_enter Tryz.func149, Tryz.ntmps149
 go_wp2
 go_loopw [5] (fun i wr => ∃ k : Nat, k ≤ n ∧ i = .int .i64 k ∧ Hid (a.take k = b.take k) ∧ Below w.heap.size w wr) (fun i _ => n - (intOf i).toNat)
 case atStart => exact ⟨0, Nat.zero_le _, rfl, Lh rfl, Below.refl _ _⟩
 obtain ⟨k, hk, rfl, heq, hbel⟩ := hrel
 obtain ⟨wo, rfl⟩ : ∃ wo : World, wo = wr := ⟨_, rfl⟩
 have wk1 := wS k (by omega)
 by_cases hlt : k < n
 ·have z1 : (k : Int) < (n : Int) := by omega
  obtain ⟨x, hx⟩ : ∃ x, a[k]? = some x := ⟨_, List.getElem?_eq_getElem (by rw [Ha.out]; exact hlt)⟩
  obtain ⟨y, hy⟩ : ∃ y, b[k]? = some y := ⟨_, List.getElem?_eq_getElem (by rw [Hb.out]; exact hlt)⟩
  obtain ⟨ba, oa, rfl, ca⟩ := (ra.below hbel).at_ (k := k) (u := .bool x) (by rw [List.getElem?_map, hx]; rfl)
  obtain ⟨bb, ob, rfl, cb⟩ := (rb.below hbel).at_ (k := k) (u := .bool y) (by rw [List.getElem?_map, hy]; rfl)
  by_cases hxy : x = y
  ·subst hxy
   have hnext : a.take (k + 1) = b.take (k + 1) := by
    rw [List.take_add_one, List.take_add_one, hx, hy, heq.out]
   have HN := Lh hnext
   clear hnext hx hy heq
   cases x
   all_goals
    go_upto_region 4 with fail
    go_quiet (fail)
    go_wp2
    go_roundw
    case rel => exact ⟨k + 1, by omega, rfl, HN, belowN hbel _⟩
    case measure => simp [intOf]; omega
  have hans : ANS = false := by
   rw [← HA.out]
   refine decide_eq_false fun e => hxy ?_
   rw [e, hy] at hx
   injection hx with hx
   exact hx.symm
  have HAn := Lh hans
  clear hans hx hy heq
  cases x <;> cases y <;> first | exact absurd rfl hxy | skip
  all_goals
   clear hxy
   go_upto_region 4 with fail
   go_quiet (fail)
   go_wp2
   go_ret
   exact ⟨by rw [HAn.out]; rfl, belowN hbel _⟩
 obtain rfl : k = n := by omega
 have z1 : ¬ (k : Int) < (k : Int) := by omega
 have hans : ANS = true := by
  rw [← HA.out]
  refine decide_eq_true ?_
  have := heq.out
  rwa [List.take_of_length_le (by rw [Ha.out]; exact Nat.le_refl _), List.take_of_length_le (by rw [Hb.out]; exact Nat.le_refl _)] at this
 have HAn := Lh hans
 clear hans heq
 go_wp2
 go_ret
 exact ⟨by rw [HAn.out]; rfl, hbel⟩
end Go.Proofs.YtecejnilajbdpaaGreatDoor
