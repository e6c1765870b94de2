import Derived.Test.YtecejnilajbdpaaGreatDoorTz50
set_option maxRecDepth 100000
set_option maxHeartbeats 16000000
namespace Garner
def mxV : Option Nat → Int
 | none => -1
 | some q => ((q : Nat) : Int)
end Garner
namespace Go.Proofs.YtecejnilajbdpaaGreatDoor
open Go.RowKit Garner
section
variable {W0 : World} {A : Option Addr} {c : Nat} {ns : List NodeP} {SA : Option Addr} {sc : Nat} {s : List Nat} {n m : Nat}
structure TimesAt (w X wr : World) (n m mn q : Nat) (R : Nat → Nat → Prop) (P : Nat → Prop) (C : Option Addr) (D : Option Addr) (d2 : Nat) (M G : List Bool) : Prop where
 now : RowT wr 4 C m (M.map Value.bool)
 nowP : IsP M n (imgP n (iterR R q) P)
 all : wr.ownsRow w.heap.size 4 1 (.slice D m d2) m (G.map Value.bool)
 allP : IsP G n (betP n R P mn q)
 low : Below X.heap.size X wr
theorem wTimes (E : EIn W0 A c ns SA s n m) (t : Re) (hc : EndsC W0 A c ns SA sc s n m t) (b : Nat) (hat : AtN ns b (t.flat b)) (mn : Nat) (mx : Option Nat) (hmn : mn ≤ 8) (hmx : ∀ q, mx = some q → mn ≤ q ∧ q ≤ 8) (w : World) (kA : Option Addr) (kc : Nat) (sA : Option Addr) (sc2 : Nat) (FA : Option Addr) (fc : Nat) (L : List Bool) (P : Nat → Prop) (hb : Below W0.heap.size W0 w) (hF : RowT w 4 FA m (L.map Value.bool)) (hP : IsP L n P) (hk : RowT w 3 kA 1 [iv (b + t.cnt - 1)]) :
  Calls Tryz.prog 126 #[.slice A ns.length c, .agg #[.int .i64 5, .slice kA 1 kc, .int .i64 (mn : Nat), .int .i64 (mxV mx), .slice sA 0 sc2], .slice SA n sc, .slice FA m fc] w fun e w' => EndsO w n m (imgP n ((Re.rep t mn mx).M s) P) e w' := by
 obtain ⟨mxI, hmI⟩ : ∃ mxI : Int, mxV mx = mxI := ⟨_, rfl⟩
 rw [hmI]
 obtain ⟨N, hNl⟩ : ∃ N, ns.length = N := ⟨_, rfl⟩
 rw [hNl]
 obtain ⟨X, hX⟩ : ∃ X, X = w.alloc (.cells #[.int .i64 5, .slice kA 1 kc, .int .i64 (mn : Nat), .int .i64 mxI, .slice sA 0 sc2] 182) := ⟨_, rfl⟩
 have hwX : Below w.heap.size w X := by rw [hX]; exact (Below.refl _ _).alloc (Nat.le_refl _) _
 have bX : Blk X w.heap.size 182 [.int .i64 5, .slice kA 1 kc, .int .i64 (mn : Nat), .int .i64 mxI, .slice sA 0 sc2] := by rw [hX]; exact Blk.new w _ _
 have hlt1 := bX.lt
 have x1 : X.cell? ⟨w.heap.size, 1, none⟩ = some (.slice kA 1 kc) := bX.cell 1
 have x2 : X.cell? ⟨w.heap.size, 2, none⟩ = some (.int .i64 (mn : Nat)) := bX.cell 2
 have x3 : X.cell? ⟨w.heap.size, 3, none⟩ = some (.int .i64 mxI) := bX.cell 3
 obtain ⟨bk, ok, rfl, ck0⟩ := hk.at_ (k := 0) (u := iv _) rfl
 obtain ⟨r, hr⟩ : ∃ r, b + t.cnt - 1 = r := ⟨_, rfl⟩
 have hR : ∀ {i j}, t.M s i j → i ≤ n → i ≤ j ∧ j ≤ n := fun h hi => by
  have := E.len
  subst this
  exact M_le t h hi
 have hbk : bk < w.heap.size := by
  obtain ⟨b', o', cs, z, e, hh, -⟩ := hk.2 (by omega)
  cases e
  exact (Array.getElem?_eq_some_iff.1 hh).1
 have hcalls : ∀ (wo : World) (C : Option Addr) (c2 : Nat) (M : List Bool) (Q : Nat → Prop), Below X.heap.size X wo → RowT wo 4 C m (M.map Value.bool) → IsP M n Q → Calls Tryz.prog 92 #[.slice A N c, .int .i64 (r : Nat), .slice SA n sc, .slice C m c2] wo fun e w' => EndsO wo n m (imgP n (t.M s) Q) e w' := fun wo C c2 M Q h1 h2 h3 => by
  have := hc b wo C c2 M Q hat (hb.trans ((hwX.trans (h1.mono hwX.size)).mono hb.size)) h2 h3
  rwa [hr, hNl] at this
 have hcells : ∀ wo, Below X.heap.size X wo → wo.cell? ⟨w.heap.size, 1, none⟩ = some (.slice (some ⟨bk, ok, none⟩) 1 kc) ∧ wo.cell? ⟨w.heap.size, 2, none⟩ = some (.int .i64 (mn : Nat)) ∧ wo.cell? ⟨w.heap.size, 3, none⟩ = some (.int .i64 mxI) ∧ wo.cell? ⟨bk, ok, none⟩ = some (.int .i64 (r : Nat)) := fun wo h => by
  refine ⟨?_, ?_, ?_, ?_⟩
  ·rw [h.cell (p := ⟨w.heap.size, 1, none⟩) hlt1]; exact x1
  ·rw [h.cell (p := ⟨w.heap.size, 2, none⟩) hlt1]; exact x2
  ·rw [h.cell (p := ⟨w.heap.size, 3, none⟩) hlt1]; exact x3
  rw [(hwX.trans (h.mono hwX.size)).cell (p := ⟨bk, ok, none⟩) hbk, ← hr]; exact ck0
 have hm := E.m_
 have hsm := E.small
 have hwX2 := hwX.size
 have HC := Lh hcalls; have HCells := Lh hcells; have HwX := Lh hwX; have HF := Lh (hF.below hwX); have HP := Lh hP; have HM := Lh hm; have HMx := Lh hmx; have HMI := Lh hmI; have HR : Hid (∀ {i j}, t.M s i j → i ≤ n → i ≤ j ∧ j ≤ n) := Lh hR; have HS := Lh E.len; have HwX2 := Lh hwX2
 clear hc hcalls hcells hwX hF hP hm hmx hmI hR bX x1 x2 x3 hlt1 ck0 hr hat hb hk hNl hbk E hwX2
 go_enter Tryz.func126, Tryz.ntmps126
 go_upto_region 1 with fail
 rw [← hX]
 clear hX
 go_wp2
 go_loopw [9, 10] (fun v i wr => ∃ (q : Nat) (C : Option Addr) (c2 : Nat) (M : List Bool), q ≤ mn ∧ i = .int .i64 q ∧ v = .slice C m c2 ∧ Hid (RowT wr 4 C m (M.map Value.bool)) ∧ Hid (Below X.heap.size X wr) ∧ Hid (IsP M n (imgP n (iterR (t.M s) q) P))) (fun _ i _ => mn - (intOf i).toNat)
 case atStart => exact ⟨0, FA, fc, L, Nat.zero_le _, rfl, rfl, HF, Lh (Below.refl _ _), Lh (HP.out.congr fun j hj => (img_zero hj).symm)⟩
 obtain ⟨q, C, c2, M, hq, rfl, rfl, hO, hbw, hP1⟩ := hrel
 obtain ⟨wo, rfl⟩ : ∃ wo : World, wo = wr := ⟨_, rfl⟩
 have wk1 := wS q (by omega)
 obtain ⟨y1, y2, y3, y4⟩ := HCells.out wo hbw.out
 by_cases hlt : q < mn
 ·have z2 : (q : Int) < (mn : Int) := by omega
  have hc := HC.out wo C c2 M _ hbw.out hO.out hP1.out
  have HC1 := Lh hc
  clear hc
  go_wp2_with fail
  refine HC1.out.mono ?_
  rintro e w3 ⟨C3, c3, M3, rfl, o3, b3, i3⟩
  have O3 := Lh (RowT.of_own o3); have B3 := Lh (hbw.out.trans (b3.mono hbw.out.size)); have I3 := Lh (i3.congr fun j _ => (img_succ HR.out q j).symm)
  clear o3 b3 i3
  go_wp2
  go_roundw
  case rel => exact ⟨q + 1, C3, c3, M3, by omega, by first | rfl | go_num, rfl, O3, B3, I3⟩
  case measure => simp [intOf]; omega
 obtain rfl : q = mn := by omega
 have z2 : ¬ (q : Int) < (q : Int) := by omega
 have hj := wJoin M M C C c2 c2 m wo (by rw [hP1.out.1]; exact HM.out) (by rw [hP1.out.1]; exact HM.out) (by have := HM.out; omega) hO.out hO.out
 have HJ := Lh hj
 clear hj
 go_wp2_with fail
 refine HJ.out.mono ?_
 rintro e w4 ⟨D, d2, rfl, o4, b4⟩
 obtain ⟨z1, z2', z3, z4⟩ := HCells.out w4 (hbw.out.trans (b4.mono hbw.out.size))
 have hT : TimesAt w X w4 n m q q (t.M s) P C D d2 M (orB M M) := ⟨hO.out.below b4, hP1.out, own_mono o4 (Nat.le_trans HwX2.out hbw.out.size), (hP1.out.orB hP1.out).congr fun j _ => by
  rw [bet_self]; exact ⟨fun h => h.elim id id, .inl⟩, hbw.out.trans (b4.mono hbw.out.size)⟩
 have HT := Lh hT
 clear hT o4 b4 y1 y2 y3 y4 hP1 hO hbw HJ
 cases mx with
 | none =>
  obtain rfl : (-1 : Int) = mxI := HMI.out
  go_wp2
  go_loopw [9, 11, 12] (fun v u i wr => ∃ (p : Nat) (C : Option Addr) (c2 : Nat) (D : Option Addr) (d2 : Nat) (M G : List Bool), q ≤ p ∧ p ≤ q + trues G ∧ i = .int .i64 p ∧ v = .slice C m c2 ∧ u = .slice D m d2 ∧ Hid (TimesAt w X wr n m q p (t.M s) P C D d2 M G)) (fun _ _ i _ => q + m + 1 - (intOf i).toNat)
  case atStart => exact ⟨q, C, c2, D, d2, M, _, Nat.le_refl _, Nat.le_add_right _ _, rfl, rfl, rfl, HT⟩
  obtain ⟨p, C, c2, D, d2, M, G, hqp, hpG, rfl, rfl, rfl, hT⟩ := hrel
  obtain ⟨wo, rfl⟩ : ∃ wo : World, wo = wr := ⟨_, rfl⟩
  have hGm : trues G ≤ m := by
   have h1 := trues_le G
   rw [hT.out.allP.1, HM.out] at h1
   exact h1
  have wk2 : IntKind.i64.wrap ((p : Int) + 1) = ((p + 1 : Nat) : Int) := by rw [IntKind.wrap_i64]; have := HM.out; omega
  obtain ⟨y1, y2, y3, y4⟩ := HCells.out wo hT.out.low
  have hc := HC.out wo C c2 M _ hT.out.low hT.out.now hT.out.nowP
  have HC1 := Lh hc
  clear hc z1 z2' z3 z4
  go_wp2_with fail
  refine HC1.out.mono ?_
  rintro e w5 ⟨C5, c5, M5, rfl, o5, b5, i5⟩
  have i5' := i5.congr fun j _ => (img_succ HR.out p j).symm
  have oG := own_below hT.out.all b5
  have hj := wJoin G M5 D C5 d2 c5 m w5 (by rw [hT.out.allP.1]; exact HM.out) (by rw [i5.1]; exact HM.out) (by have := HM.out; omega) (RowT.of_own oG) (RowT.of_own o5)
  have hb5 := hT.out.low.trans (b5.mono hT.out.low.size)
  have HJ := Lh hj; have O5 := Lh o5; have I5 := Lh i5'; have HB5 := Lh hb5; have OG := Lh oG; have HGM := Lh hGm
  clear hj o5 i5 i5' hb5 b5 oG y1 y2 y3 y4 HC1 hGm
  go_wp2_with fail
  refine HJ.out.mono ?_
  rintro e w6 ⟨D6, d6, rfl, o6, b6⟩
  have hb6 := HB5.out.trans (b6.mono HB5.out.size)
  obtain ⟨y1, y2, y3, y4⟩ := HCells.out w6 hb6
  have hlen := hT.out.allP.1
  have hMl := I5.out.1
  have hor := (hT.out.allP.orB I5.out).congr fun j _ => (bet_succ hqp j).symm
  have hs := wSame (orB G M5) G D6 D d6 d2 m w6 (by rw [hor.1]; exact HM.out) (by rw [hlen]; exact HM.out) (by have := HM.out; omega) (RowT.of_own o6) (RowT.of_own (own_below OG.out b6))
  have hrow5 := (RowT.of_own O5.out).below b6
  have oG6 := own_below OG.out b6
  obtain ⟨eq, heq⟩ : ∃ eq, decide (orB G M5 = G) = eq := ⟨_, rfl⟩
  rw [heq] at hs
  have HSm := Lh hs; have HB6 := Lh hb6; have HOr := Lh hor; have HEq := Lh heq; have O6 := Lh (own_mono o6 (Nat.le_trans HwX2.out HB5.out.size)); have HR5 := Lh hrow5; have OG6 := Lh oG6; have HMl := Lh hMl; have HLen := Lh hlen
  clear hs hb6 hor heq o6 b6 hrow5 oG6 hlen hMl HJ
  go_wp2_with fail
  refine HSm.out.mono ?_
  rintro e w7 ⟨rfl, b7⟩
  have hb7 := HB6.out.trans (b7.mono HB6.out.size)
  have HB7 := Lh hb7; have B7 := Lh b7
  clear hb7 b7 HSm y1 y2 y3 y4
  cases eq with
  | true =>
   have he := of_decide_eq_true HEq.out
   have hans : IsP G n (imgP n ((Re.rep t q none).M s) P) := hT.out.allP.congr fun j hj => (img_repN HS.out hqp P (fun j hj h => by
    have h1 := (HOr.out.eq_iff hT.out.allP).1 he j hj
    exact h1.1 ((bet_succ hqp j).2 (.inr h))) j hj).symm
   have HA := Lh hans; have OA := Lh (own_below OG6.out B7.out); have HBf := Lh (HwX.out.trans (HB7.out.mono HwX2.out))
   clear hans he hT
   go_wp2
   go_ret
   exact ⟨_, _, _, rfl, OA.out, HBf.out, HA.out⟩
  | false =>
   have hne := of_decide_eq_false HEq.out
   have htr := trues_or G M5 (by rw [HMl.out, HLen.out]) hne
   have hT2 : TimesAt w X w7 n m q (p + 1) (t.M s) P C5 D6 d6 M5 (orB G M5) := ⟨HR5.out.below B7.out, I5.out, own_below O6.out B7.out, HOr.out, HB7.out⟩
   have HT2 := Lh hT2
   clear hT2 hne hT
   have hm2 := HGM.out
   go_wp2
   go_roundw
   case rel => exact ⟨p + 1, C5, c5, D6, d6, M5, _, by omega, by omega, by first | rfl | go_num, rfl, rfl, HT2⟩
   case measure => simp [intOf]; omega
 | some M0 =>
  obtain rfl : ((M0 : Nat) : Int) = mxI := HMI.out
  obtain ⟨hM1, hM2⟩ := HMx.out M0 rfl
  have zz : ¬ (M0 : Int) < 0 := by omega
  go_wp2
  go_loopw [9, 11, 12] (fun v u i wr => ∃ (p : Nat) (C : Option Addr) (c2 : Nat) (D : Option Addr) (d2 : Nat) (M G : List Bool), q ≤ p ∧ p ≤ M0 ∧ i = .int .i64 p ∧ v = .slice C m c2 ∧ u = .slice D m d2 ∧ Hid (TimesAt w X wr n m q p (t.M s) P C D d2 M G)) (fun _ _ i _ => M0 - (intOf i).toNat)
  case atStart => exact ⟨q, C, c2, D, d2, M, _, Nat.le_refl _, hM1, rfl, rfl, rfl, HT⟩
  obtain ⟨p, C, c2, D, d2, M, G, hqp, hpG, rfl, rfl, rfl, hT⟩ := hrel
  obtain ⟨wo, rfl⟩ : ∃ wo : World, wo = wr := ⟨_, rfl⟩
  have wk2 := wS p (by omega)
  obtain ⟨y1, y2, y3, y4⟩ := HCells.out wo hT.out.low
  by_cases hpl : p < M0
  ·have z5 : (p : Int) < (M0 : Int) := by omega
   have hc := HC.out wo C c2 M _ hT.out.low hT.out.now hT.out.nowP
   have HC1 := Lh hc
   clear hc z1 z2' z3 z4
   go_wp2_with fail
   refine HC1.out.mono ?_
   rintro e w5 ⟨C5, c5, M5, rfl, o5, b5, i5⟩
   have i5' := i5.congr fun j _ => (img_succ HR.out p j).symm
   have oG := own_below hT.out.all b5
   have hj := wJoin G M5 D C5 d2 c5 m w5 (by rw [hT.out.allP.1]; exact HM.out) (by rw [i5.1]; exact HM.out) (by have := HM.out; omega) (RowT.of_own oG) (RowT.of_own o5)
   have hb5 := hT.out.low.trans (b5.mono hT.out.low.size)
   have HJ := Lh hj; have O5 := Lh o5; have I5 := Lh i5'; have HB5 := Lh hb5
   clear hj o5 i5 i5' hb5 b5 oG y1 y2 y3 y4 HC1
   go_wp2_with fail
   refine HJ.out.mono ?_
   rintro e w6 ⟨D6, d6, rfl, o6, b6⟩
   have hb6 := HB5.out.trans (b6.mono HB5.out.size)
   obtain ⟨y1, y2, y3, y4⟩ := HCells.out w6 hb6
   have hT2 : TimesAt w X w6 n m q (p + 1) (t.M s) P C5 D6 d6 M5 (orB G M5) := ⟨(RowT.of_own O5.out).below b6, I5.out, own_mono o6 (Nat.le_trans HwX2.out HB5.out.size), (hT.out.allP.orB I5.out).congr fun j _ => (bet_succ hqp j).symm, hb6⟩
   have HT2 := Lh hT2
   clear hT2 hT o6 b6 hb6 HJ
   go_wp2
   go_roundw
   case rel => exact ⟨p + 1, C5, c5, D6, d6, M5, _, by omega, by omega, by first | rfl | go_num, rfl, rfl, HT2⟩
   case measure => simp [intOf]; omega
  obtain rfl : p = M0 := by omega
  have z5 : ¬ (p : Int) < (p : Int) := by omega
  have hans : IsP G n (imgP n ((Re.rep t q (some p)).M s) P) := hT.out.allP.congr fun j _ => (img_rep P j).symm
  have HA := Lh hans; have OA := Lh hT.out.all; have HBf := Lh (HwX.out.trans (hT.out.low.mono HwX2.out))
  clear hans hT
  go_wp2
  go_ret
  exact ⟨_, _, _, rfl, OA.out, HBf.out, HA.out⟩
end
end Go.Proofs.YtecejnilajbdpaaGreatDoor
namespace Garner
open Go
theorem cnt_mem {t : Re} : ∀ {l : List Re}, t ∈ l → t.cnt ≤ cnts l
 | u :: l, h => by
  rcases List.mem_cons.1 h with rfl | h
  ·simp [cnts]
  have := cnt_mem h
  simp [cnts]; omega
theorem cnts_length : ∀ l : List Re, l.length ≤ cnts l
 | [] => Nat.le_refl _
 | t :: l => by
  have h1 := cnts_length l
  have h2 := cnt_pos t
  simp only [List.length_cons, cnts]; omega
theorem oks_mem {t : Re} : ∀ {l : List Re}, oks l → t ∈ l → t.ok
 | u :: l, ho, h => by
  rcases List.mem_cons.1 h with rfl | h
  ·exact ho.1
  exact oks_mem ho.2 h
theorem lims_mem {t : Re} : ∀ {l : List Re}, lims l → t ∈ l → t.lim
 | u :: l, ho, h => by
  rcases List.mem_cons.1 h with rfl | h
  ·exact ho.1
  exact lims_mem ho.2 h
mutual
theorem flat_sets {d : Nat} : ∀ (t : Re) (b : Nat), t.evs d → ∀ nd ∈ t.flat b, nd.set.length ≤ d
 | .emp, b, _, nd, h => by rw [List.mem_singleton.1 h]; exact Nat.zero_le _
 | .set l, b, hv, nd, h => by rw [List.mem_singleton.1 h]; exact hv.1
 | .seq l, b, hv, nd, h => by
  rcases List.mem_append.1 h with h | h
  ·exact flats_sets l b hv nd h
  rw [List.mem_singleton.1 h]; exact Nat.zero_le _
 | .alt l, b, hv, nd, h => by
  rcases List.mem_append.1 h with h | h
  ·exact flats_sets l b hv nd h
  rw [List.mem_singleton.1 h]; exact Nat.zero_le _
 | .rep k mn mx, b, hv, nd, h => by
  rcases List.mem_append.1 h with h | h
  ·exact flat_sets k b hv nd h
  rw [List.mem_singleton.1 h]; exact Nat.zero_le _
 | .bgn, b, _, nd, h => by rw [List.mem_singleton.1 h]; exact Nat.zero_le _
 | .fin, b, _, nd, h => by rw [List.mem_singleton.1 h]; exact Nat.zero_le _
theorem flats_sets {d : Nat} : ∀ (l : List Re) (b : Nat), evss d l → ∀ nd ∈ flats b l, nd.set.length ≤ d
 | [], b, _, nd, h => by cases h
 | t :: ts, b, hv, nd, h => by
  rcases List.mem_append.1 h with h | h
  ·exact flat_sets t b hv.1 nd h
  exact flats_sets ts _ hv.2 nd h
end
structure GoodE (t : Re) : Prop where
 ok : t.ok
 lim : t.lim
 cnt : t.cnt ≤ 10000
 evs : t.evs 2000
theorem rexp_goodE {l : Bs} {t : Re} (h : rexpP l = .ok t) : GoodE t := by
 unfold rexpP at h
 split at h
 ·cases h
 split at h
 ·cases h
 rename_i hl _
 have hr := runes_len _ l (Nat.le_refl _)
 have hg := read_good (by omega) h
 obtain ⟨ts, d, h1, rfl, -⟩ := read_lim h
 exact ⟨hg.ok, hg.lim, hg.cnt, many_evs (mk := .alt) (fun _ => rfl) ((parse_evs _).1 (by omega) h1)⟩
end Garner
namespace Go.Proofs.YtecejnilajbdpaaGreatDoor
open Go.RowKit Garner
section
variable {W0 : World} {A : Option Addr} {c : Nat} {ns : List NodeP} {SA : Option Addr} {sc : Nat} {s : List Nat} {n m : Nat}
theorem ends_rep (E : EIn W0 A c ns SA s n m) (t : Re) (mn : Nat) (mx : Option Nat) (ih : EndsC W0 A c ns SA sc s n m t) (hmn : mn ≤ 8) (hmx : ∀ q, mx = some q → mn ≤ q ∧ q ≤ 8) : EndsC W0 A c ns SA sc s n m (.rep t mn mx) := by
 intro b w FA fc L P hat hb hF hP
 have hk := last_at (t := .rep t mn mx) (l := t.flat b) rfl (by rw [flat_len]; rfl) hat
 have hk' := List.mem_of_getElem? hk
 obtain ⟨k, hk0⟩ : ∃ k, b + (Re.cnt (.rep t mn mx)) - 1 = k := ⟨_, rfl⟩
 rw [hk0] at hk ⊢
 obtain ⟨gN, kA, kc, sA, sc2, w1, X, rfl, hkl, hmk, d0, d1, d2, d3, d4, eX, hwX, bX, hlw, bO, rK, rS⟩ := ends_pre E hk hb
 have hm := E.m_
 have hsm := E.small
 have hsl := E.len
 obtain ⟨N, hNl⟩ : ∃ N, ns.length = N := ⟨_, rfl⟩
 rw [hNl] at hkl ⊢
 have z1 : (k : Int) < (N : Int) := by omega
 have wm : IntKind.i64.wrap ((n : Int) + 1) = (m : Int) := by rw [IntKind.wrap_i64]; omega
 have k0 : w1.cell? ⟨gN, k * 5, none⟩ = some (.int .i64 5) := d0
 have k1 : w1.cell? ⟨gN, k * 5 + 1, none⟩ = some (.slice kA 1 kc) := d1
 have k2 : w1.cell? ⟨gN, k * 5 + 2, none⟩ = some (.int .i64 mn) := d2
 have k3 : w1.cell? ⟨gN, k * 5 + 3, none⟩ = some (.int .i64 (mxV mx)) := by cases mx <;> exact d3
 have k4 : w1.cell? ⟨gN, k * 5 + 4, none⟩ = some (.slice sA 0 sc2) := d4
 have hX : X = w1.alloc (.cells #[.int .i64 5, .slice kA 1 kc, .int .i64 mn, .int .i64 (mxV mx), .slice sA 0 sc2] 182) := by cases mx <;> exact eX
 have x1 : X.cell? ⟨w1.heap.size, 1, none⟩ = some (.slice kA 1 kc) := bX.cell 1
 have x4 : X.cell? ⟨w1.heap.size, 4, none⟩ = some (.slice sA 0 sc2) := bX.cell 4
 have x2 : X.cell? ⟨w1.heap.size, 2, none⟩ = some (.int .i64 mn) := bX.cell 2
 have x3 : X.cell? ⟨w1.heap.size, 3, none⟩ = some (.int .i64 (mxV mx)) := by cases mx <;> exact bX.cell 3
 have x0 : X.cell? ⟨w1.heap.size, 0, none⟩ = some (.int .i64 5) := bX.cell 0
 have HwX := Lh hwX; have BO := Lh bO; have HP := Lh hP; have HM := Lh hm; have BX := Lh bX; have HF := Lh hF; have RK := Lh rK; have RS := Lh rS; have HLW := Lh hlw; have HAT := Lh hat; have HB := Lh hb
 clear hwX bO hP hm bX hF rK rS d0 d1 d2 d3 d4 eX hk hlw hat hk0 hb
 have hkids : RowT X 3 kA 1 [iv (b + t.cnt - 1)] := RK.out.below HwX.out
 have hat2 : AtN ns b (t.flat b) := AtN.left (m := [_]) HAT.out
 have ht := wTimes E t ih b hat2 mn mx hmn hmx X kA kc sA sc2 FA fc L P (HB.out.trans (HwX.out.mono HB.out.size)) (HF.out.below HwX.out) HP.out hkids
 rw [hNl] at ht
 obtain ⟨mv, hmv⟩ : ∃ mv, mxV mx = mv := ⟨_, rfl⟩
 rw [hmv] at ht k3 hX x3
 have HT := Lh ht; have HNl := Lh hNl
 clear hkids hat2 ht hNl ih E hmn hmx hmv hsl HAT RK RS
 go_enter Tryz.func92, Tryz.ntmps92
 go_upto_region 3 with fail
 rw [← hX]
 clear hX k0 k1 k2 k3 k4 hmk
 go_wp2_with fail
 refine HT.out.mono ?_
 rintro e w3 ⟨C3, c3, M3, rfl, o3, b3, i3⟩
 have O3 := Lh (own_mono o3 HwX.out.size); have B3 := Lh (HwX.out.trans (b3.mono HwX.out.size)); have I3 := Lh i3
 clear o3 b3 i3
 go_wp2
 go_ret
 exact ⟨_, _, _, rfl, O3.out, B3.out, I3.out⟩
theorem endsAll (E : EIn W0 A c ns SA s n m) : ∀ (q : Nat) (t : Re), t.cnt ≤ q → t.cnt ≤ 10000 → t.ok → t.lim → EndsC W0 A c ns SA sc s n m t := by
 intro q
 induction q with
 | zero => intro t hq; have := cnt_pos t; omega
 | succ q ih =>
  intro t hq hb ho hl
  cases t with
  | emp => exact ends_emp E
  | set l => exact ends_set E l
  | bgn => exact ends_bgn E
  | fin => exact ends_fin E
  | seq l =>
   have e : (Re.seq l).cnt = cnts l + 1 := rfl
   have h2 := cnts_length l
   exact ends_seq E l (fun t ht => by have := cnt_mem ht; exact ih t (by omega) (by omega) (oks_mem ho ht) (lims_mem hl ht)) (by omega)
  | alt l =>
   have e : (Re.alt l).cnt = cnts l + 1 := rfl
   have h2 := cnts_length l
   exact ends_alt E l (fun t ht => by have := cnt_mem ht; exact ih t (by omega) (by omega) (oks_mem ho.2 ht) (lims_mem hl ht)) (by omega)
  | rep k mn mx =>
   have e : (Re.rep k mn mx).cnt = k.cnt + 1 := rfl
   exact ends_rep E k mn mx (ih k (by omega) (by omega) ho.1 hl.1) hl.2.1 fun p hp => ⟨ho.2 p hp, hl.2.2 p hp⟩
end
theorem EIn.of {t : Re} (hg : GoodE t) {F : Nat → Prop} {W0 w : World} {B0 : Nat} {A : Option Addr} {c : Nat} (hN : NodesIs F W0 B0 (.slice A (t.flat 0).length c) (t.flat 0)) (hb : Below W0.heap.size W0 w) {SA : Option Addr} {s : List Nat} {n m : Nat} (hr : RowT w 21 SA n (s.map rv)) (hn : s.length = n) (hm : n + 1 = m) (hs : n ≤ 1500000) : EIn w A c (t.flat 0) SA s n m :=
 ⟨⟨F, B0, hN.keep (T := []) (.of_below hb) (by simp) (by simp) (by simp)⟩, by rw [flat_len]; exact hg.cnt, hr, hn, hm, hs, fun nd h => by have := flat_sets t 0 hg.evs nd h; omega⟩
theorem wWhole (t : Re) (hg : GoodE t) {F : Nat → Prop} {W0 : World} {B0 : Nat} {A : Option Addr} {c : Nat} (hN : NodesIs F W0 B0 (.slice A (t.flat 0).length c) (t.flat 0)) (S : ByteArray) (l : Bs) (hS : S = ⟨l.toArray⟩) (hl : l.length ≤ 1500000) (w : World) (hb : Below W0.heap.size W0 w) :
  Calls Tryz.prog 63 #[.slice A (t.flat 0).length c, .string S] w fun e w' => e = .returned (.bool (wholeB t (runesP l))) ∧ Below w.heap.size w w' := by
 have hv := vRunes S l hS w (by omega)
 have hrl := runes_len _ l (Nat.le_refl _)
 obtain ⟨N, hNl⟩ : ∃ N, (t.flat 0).length = N := ⟨_, rfl⟩
 have hNc : N = t.cnt := by rw [← hNl, flat_len]
 have hcp := cnt_pos t
 have HV := Lh hv; have HN := Lh hN; have HNl := Lh hNl; have HB := Lh hb; have HNc := Lh hNc
 have hN9 : N ≤ 10000 := by rw [hNc]; exact hg.cnt
 have wN : IntKind.i64.wrap ((N : Int) - 1) = ((N - 1 : Nat) : Int) := by rw [IntKind.wrap_i64]; omega
 rw [hNl]
 clear hv hN hNl hb hS hNc
 go_enter Tryz.func63, Tryz.ntmps63
 go_wp2_with fail
 refine HV.out.mono ?_
 rintro e w1 ⟨v, rfl, o1, b1⟩
 obtain ⟨SA, sc, rfl, -⟩ := own_form o1
 obtain ⟨s, hs⟩ : ∃ s, runesP l = s := ⟨_, rfl⟩
 rw [hs] at o1 hrl ⊢
 obtain ⟨n, hn⟩ : ∃ n, s.length = n := ⟨_, rfl⟩
 rw [hn] at o1 hrl ⊢
 obtain ⟨m, hm⟩ : ∃ m, n + 1 = m := ⟨_, rfl⟩
 have wm : IntKind.i64.wrap ((n : Int) + 1) = (m : Int) := by rw [IntKind.wrap_i64]; omega
 obtain ⟨w2, hmk, o2, b2⟩ := mkBools m w1 (by omega)
 have bO := own_blkW o2
 have cb : w2.cell? ⟨w1.heap.size, 0, none⟩ = some (.bool false) := by rw [bO.cell 0, ← hm]; simp [List.replicate_succ]
 have fb := bO.frozen 0
 have z0 : (0 : Int) < (m : Int) := by omega
 have z9 : (n : Int) < (m : Int) := by omega
 have hb01 := HB.out.trans (b1.mono HB.out.size)
 have b3 := b2.setCell (p := ⟨w1.heap.size, 0, none⟩) (Nat.le_refl _) (.bool true)
 have o3 := (bO.set_ 0 (.bool true)).own (B := w1.heap.size) (n := m) (Nat.le_refl _) (by simp) (by unfold maxLen; omega)
 rw [show ((List.replicate m false).map Value.bool).set 0 (.bool true) = ((List.replicate (n + 1) false).set 0 true).map Value.bool by rw [hm, List.map_set]] at o3
 have E := EIn.of hg HN.out hb01 (RowT.of_own o1) hn hm (by omega)
 have hc := endsAll (sc := sc) E t.cnt t (Nat.le_refl _) hg.cnt hg.ok hg.lim 0 _ _ m _ _ (fun k nd h => by rw [Nat.zero_add]; exact h) b3 (RowT.of_own o3) (IsP.set_at n 0 (Nat.zero_le _) true)
 rw [HNl.out, Nat.zero_add, ← HNc.out] at hc
 have HC := Lh hc; have HBB := Lh (b1.trans (b3.mono b1.size)); have Hn := Lh hn; have Hs := Lh hs
 clear hc b3 o3 bO b2 o2 hb01 o1 b1 HV E hn hm hs
 go_wp2_with fail
 refine HC.out.mono ?_
 rintro e w4 ⟨C4, c4, M4, rfl, o4, b4, i4⟩
 obtain ⟨x, hx, hxP⟩ := i4.at_ (Nat.le_refl n)
 have hans : wholeB t s = x := by
  rw [Bool.eq_iff_iff, whole_iff, hxP, Hn.out]
  exact ⟨fun h => ⟨0, Nat.zero_le _, ⟨rfl, by first | rfl | trivial⟩, h⟩, fun ⟨i, _, ⟨h1, _⟩, h2⟩ => by subst h1; exact h2⟩
 obtain ⟨ba, oa, rfl, ca⟩ := (RowT.of_own o4).at_ (k := n) (u := .bool x) (by rw [List.getElem?_map, hx]; rfl)
 have HA := Lh hans; have HBf := Lh (HBB.out.trans (b4.mono HBB.out.size))
 clear hans hx hxP o4 b4 i4 HC
 go_wp2
 go_ret
 exact ⟨by rw [Hs.out, HA.out]; rfl, HBf.out⟩
theorem wPart (t : Re) (hg : GoodE t) {F : Nat → Prop} {W0 : World} {B0 : Nat} {A : Option Addr} {c : Nat} (hN : NodesIs F W0 B0 (.slice A (t.flat 0).length c) (t.flat 0)) (S : ByteArray) (l : Bs) (hS : S = ⟨l.toArray⟩) (hl : l.length ≤ 1500000) (w : World) (hb : Below W0.heap.size W0 w) :
  Calls Tryz.prog 65 #[.slice A (t.flat 0).length c, .string S] w fun e w' => e = .returned (.bool (partB t (runesP l))) ∧ Below w.heap.size w w' := by
 have hv := vRunes S l hS w (by omega)
 have hrl := runes_len _ l (Nat.le_refl _)
 obtain ⟨N, hNl⟩ : ∃ N, (t.flat 0).length = N := ⟨_, rfl⟩
 have hNc : N = t.cnt := by rw [← hNl, flat_len]
 have hcp := cnt_pos t
 have HV := Lh hv; have HN := Lh hN; have HNl := Lh hNl; have HB := Lh hb; have HNc := Lh hNc
 have hN9 : N ≤ 10000 := by rw [hNc]; exact hg.cnt
 have wN : IntKind.i64.wrap ((N : Int) - 1) = ((N - 1 : Nat) : Int) := by rw [IntKind.wrap_i64]; omega
 obtain ⟨ANS, hA⟩ : ∃ ANS, partB t (runesP l) = ANS := ⟨_, rfl⟩
 rw [hNl, hA]
 have HA := Lh hA
 clear hv hN hNl hb hS hNc hA
 go_enter Tryz.func65, Tryz.ntmps65
 go_wp2_with fail
 refine HV.out.mono ?_
 rintro e w1 ⟨v, rfl, o1, b1⟩
 obtain ⟨SA, sc, rfl, -⟩ := own_form o1
 obtain ⟨s, hs⟩ : ∃ s, runesP l = s := ⟨_, rfl⟩
 rw [hs] at o1 hrl ⊢
 obtain ⟨n, hn⟩ : ∃ n, s.length = n := ⟨_, rfl⟩
 rw [hn] at o1 hrl ⊢
 obtain ⟨m, hm⟩ : ∃ m, n + 1 = m := ⟨_, rfl⟩
 have wm : IntKind.i64.wrap ((n : Int) + 1) = (m : Int) := by rw [IntKind.wrap_i64]; omega
 obtain ⟨w2, hmk, o2, b2⟩ := mkBools m w1 (by omega)
 have bO := own_blkW o2
 have hm9 : m ≤ 1500001 := by omega
 have B1 := Lh b1; have O1 := Lh o1; have Hn := Lh hn; have Hs := Lh hs; have Hm := Lh hm; have BO := Lh bO; have B2 := Lh b2
 clear b1 o1 hn hs hm bO b2 o2 HV
 go_wp2
 go_loopw [8] (fun i wr => ∃ q : Nat, q ≤ m ∧ i = .int .i64 q ∧ Hid (Blk wr w1.heap.size 4 ((List.replicate q true ++ List.replicate (m - q) false).map Value.bool)) ∧ Hid (Below w1.heap.size w1 wr)) (fun i _ => m - (intOf i).toNat)
 case atStart => exact ⟨0, Nat.zero_le _, rfl, Lh (by simpa using BO.out), B2⟩
 obtain ⟨q, hq, rfl, hO, hbw⟩ := hrel
 obtain ⟨wo, rfl⟩ : ∃ wo : World, wo = wr := ⟨_, rfl⟩
 have wk1 := wS q (by omega)
 by_cases hlt : q < m
 ·have z2 : (q : Int) < (m : Int) := by omega
  have cb : wo.cell? ⟨w1.heap.size, q, none⟩ = some (.bool false) := by
   rw [hO.out.cell q, List.getElem?_map, List.getElem?_append_right (by rw [List.length_replicate]; exact Nat.le_refl _), List.length_replicate, Nat.sub_self, List.getElem?_replicate, if_pos (by omega)]; rfl
  have fb := hO.out.frozen q
  have hO2 := hO.out.set_ q (.bool true)
  rw [← List.map_set, show (List.replicate q true ++ List.replicate (m - q) false).set q true = List.replicate (q + 1) true ++ List.replicate (m - (q + 1)) false by
   rw [List.set_append, if_neg (by rw [List.length_replicate]; omega), List.length_replicate, Nat.sub_self, show m - q = (m - (q + 1)) + 1 by omega, List.replicate_succ, List.set_cons_zero, List.replicate_succ']
   simp] at hO2
  have HO2 := Lh hO2; have HB2 := Lh (hbw.out.setCell (p := ⟨w1.heap.size, q, none⟩) (Nat.le_refl _) (.bool true))
  clear hO2
  go_wp2
  go_roundw
  case rel => exact ⟨q + 1, by omega, by first | rfl | go_num, HO2, HB2⟩
  case measure => simp [intOf]; omega
 obtain rfl : q = m := by omega
 have z2 : ¬ (q : Int) < (q : Int) := by omega
 have hO3 := hO.out
 rw [Nat.sub_self, List.replicate_zero, List.append_nil] at hO3
 have o3 := hO3.own (B := w1.heap.size) (n := q) (Nat.le_refl _) (by simp) (by unfold maxLen; omega)
 have E := EIn.of hg HN.out (HB.out.trans (B1.out.mono HB.out.size)) (RowT.of_own O1.out) Hn.out Hm.out (by omega)
 have hc := endsAll (sc := sc) E t.cnt t (Nat.le_refl _) hg.cnt hg.ok hg.lim 0 _ _ q _ (fun _ => True) (fun k nd h => by rw [Nat.zero_add]; exact h) hbw.out (RowT.of_own o3) (by rw [← Hm.out]; exact IsP.all n)
 rw [HNl.out, Nat.zero_add, ← HNc.out] at hc
 have HC := Lh hc; have HBB := Lh (B1.out.trans (hbw.out.mono B1.out.size))
 clear hc o3 hO3 E hO hbw
 go_wp2_with fail
 refine HC.out.mono ?_
 rintro e w4 ⟨C4, c4, M4, rfl, o4, b4, i4⟩
 have R4 := Lh (RowT.of_own o4); have I4 := Lh i4; have HBf := Lh (HBB.out.trans (b4.mono HBB.out.size))
 clear o4 b4 i4 HC
 go_wp2
 go_loopw [10] (fun i wr => ∃ p : Nat, p ≤ q ∧ i = .int .i64 p ∧ wr = w4 ∧ Hid (∀ j, j < p → ¬ imgP n (t.M s) (fun _ => True) j)) (fun i _ => q - (intOf i).toNat)
 case atStart => exact ⟨0, Nat.zero_le _, rfl, rfl, Lh fun j hj => absurd hj (Nat.not_lt_zero j)⟩
 obtain ⟨p, hp, rfl, hwr, hno⟩ := hrel
 obtain rfl : w4 = wr := hwr.symm
 have wk1 := wS p (by omega)
 by_cases hlt : p < q
 ·have z2 : (p : Int) < (q : Int) := by omega
  obtain ⟨x, hx, hxP⟩ := I4.out.at_ (k := p) (by have := Hm.out; omega)
  obtain ⟨ba, oa, rfl, ca⟩ := R4.out.at_ (k := p) (u := .bool x) (by rw [List.getElem?_map, hx]; rfl)
  cases x with
  | true =>
   have hans : ANS = true := by
    rw [← HA.out, Hs.out, part_iff]
    obtain ⟨i, h1, -, h2⟩ := hxP.1 rfl
    exact ⟨i, p, by rw [Hn.out]; exact h1, h2⟩
   have HA2 := Lh hans
   clear hans hx hxP
   go_wp2
   go_ret
   exact ⟨by rw [HA2.out]; rfl, HBf.out⟩
  | false =>
   have hno2 : Hid (∀ j, j < p + 1 → ¬ imgP n (t.M s) (fun _ => True) j) := Lh fun j hj h => by
    by_cases e : j = p
    ·subst e
     have := hxP.2 h
     cases this
    exact hno.out j (by omega) h
   clear hx hxP hno
   go_wp2
   go_roundw
   case rel => exact ⟨p + 1, by omega, by first | rfl | go_num, by first | rfl | trivial, hno2⟩
   case measure => simp [intOf]; omega
 obtain rfl : p = q := by omega
 have z2 : ¬ (p : Int) < (p : Int) := by omega
 have hans : ANS = false := by
  cases hb : ANS with
  | false => rfl
  | true =>
   exfalso
   have h1 := HA.out
   rw [hb, Hs.out, part_iff] at h1
   obtain ⟨i, j, h2, h3⟩ := h1
   have h4 := (M_le t h3 h2).2
   rw [Hn.out] at h2 h4
   exact hno.out j (by have := Hm.out; omega) ⟨i, h2, trivial, h3⟩
 have HA2 := Lh hans
 clear hans hno
 go_wp2
 go_ret
 exact ⟨by rw [HA2.out]; rfl, HBf.out⟩
end Go.Proofs.YtecejnilajbdpaaGreatDoor
