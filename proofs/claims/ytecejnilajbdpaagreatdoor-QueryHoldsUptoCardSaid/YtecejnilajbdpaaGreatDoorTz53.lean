import Derived.Test.YtecejnilajbdpaaGreatDoorTz48
import Derived.Test.YtecejnilajbdpaaGreatDoorTz52
set_option maxRecDepth 100000
set_option maxHeartbeats 64000000
namespace Go.Proofs.YtecejnilajbdpaaGreatDoor
open Go.RowKit Go.Shelf Garner
theorem wQueryHolds (q : QueryP) (rs : List RecD) (MA FA A : Option Addr) (nm nf cm cf n c : Nat) (w : World) (hL : Lt w) (hq : QueryAt w MA nm FA nf q) (hnm : nm ≤ 140737488355328) (hnf : nf ≤ 140737488355328) (hsm : ∀ m ∈ q.ms, m.name.length ≤ 10000000 ∧ m.val.length ≤ 10000000) (hsf : ∀ f ∈ q.fs, f.text.length ≤ 10000000) (hr : RecsAt w A n rs) (hline : ∀ d ∈ rs, d.r.line.length < 4294967281) (hsr : ∀ d ∈ rs, d.r.line.length ≤ 1500000 ∧ ∀ x ∈ d.r.labels, x.2.length ≤ 1500000) (hn : n ≤ 1048576) :
  Calls Tryz.prog 7 #[.agg #[.slice MA nm cm, .slice FA nf cf], .slice A n c] w fun e w' => e = .returned (.bool true) ∧ Below w.heap.size w w' := by
 obtain ⟨X, hX⟩ : ∃ X, X = w.alloc (.cells #[.slice MA nm cm, .slice FA nf cf] 25) := ⟨_, rfl⟩
 have hwX : Below w.heap.size w X := by rw [hX]; exact (Below.refl _ _).alloc (Nat.le_refl _) _
 have bX : Blk X w.heap.size 25 [.slice MA nm cm, .slice FA nf cf] := by rw [hX]; exact Blk.new w _ _
 have haw := awake24 X (hL.below hwX)
 obtain ⟨ck, hck⟩ : ∃ ck, checkQ q = ck := ⟨_, rfl⟩
 have hsp : ∀ f ∈ partsQ q, f.text.length ≤ 1000000000000 := by
  intro f hf
  rcases List.mem_append.1 hf with h | h
  ·obtain ⟨m, hm, rfl⟩ := List.mem_map.1 h
   have := (hsm m hm).2
   show m.val.length ≤ _
   omega
  have := hsf f h; omega
 have hgc : ∀ wx, Below w.heap.size w wx → Calls Tryz.prog 29 #[.agg #[.slice MA nm cm, .slice FA nf cf]] wx fun e w' => e = .returned (.int .i64 (ck : Nat)) ∧ Below wx.heap.size wx w' := fun wx h => by rw [← hck]; exact gCheck q MA FA nm nf cm cf wx (hq.below h) hsp hnm hnf
 have hvc : ∀ wx, Below w.heap.size w wx → Calls Tryz.prog 31 #[.agg #[.slice MA nm cm, .slice FA nf cf]] wx fun e w' => e = .returned (.int .i64 (ck : Nat)) ∧ Below wx.heap.size wx w' := fun wx h => by rw [← hck]; exact vCheck q MA FA nm nf cm cf wx (hL.below h) (hq.below h) (by omega) (by omega)
 have hvp := fun (wx : World) (h : Below w.heap.size w wx) => vQPrint q MA FA nm nf cm cf wx (hL.below h) (hq.below h) hnm hnf hsm hsf
 have hvn := fun (wx : World) (h : Below w.heap.size w wx) => vQNew q MA FA nm nf cm cf wx (hL.below h) (hq.below h) hnm hnf
 have HGc := Lh hgc; have HVc := Lh hvc; have HVp := Lh hvp; have HVn := Lh hvn; have HQ := Lh hq; have HwX := Lh hwX; have BX := Lh bX; have HAw := Lh haw; have HL := Lh hL; have HR := Lh hr; have HLine := Lh hline; have Hck := Lh hck; have HSr := Lh hsr; have HSm := Lh hsm; have HSf := Lh hsf
 clear hgc hvc hvp hvn hq hwX bX haw hL hr hline hsp hck hsr hsm hsf
 go_enter Tryz.func7, Tryz.ntmps7
 go_upto_region 1 with fail
 rw [← hX]
 clear hX
 go_wp2_with fail
 refine HAw.out.mono ?_
 rintro e w1 ⟨rfl, hb1⟩
 have hw1 := HwX.out.trans (hb1.mono HwX.out.size)
 have bx1 := BX.out.below hb1 BX.out.lt
 have x0 : w1.cell? ⟨w.heap.size, 0, none⟩ = some (.slice MA nm cm) := bx1.cell 0
 have x1 : w1.cell? ⟨w.heap.size, 1, none⟩ = some (.slice FA nf cf) := bx1.cell 1
 have HC := Lh (HGc.out w1 hw1); have HW1 := Lh hw1; have BX1 := Lh bx1
 clear hw1 bx1 hb1 HAw BX HwX
 go_wp2_with fail
 refine HC.out.mono ?_
 rintro e w2 ⟨rfl, hb2⟩
 have hw2 := HW1.out.trans (hb2.mono HW1.out.size)
 have bx2 := BX1.out.below hb2 BX1.out.lt
 clear x0 x1
 have x0 : w2.cell? ⟨w.heap.size, 0, none⟩ = some (.slice MA nm cm) := bx2.cell 0
 have x1 : w2.cell? ⟨w.heap.size, 1, none⟩ = some (.slice FA nf cf) := bx2.cell 1
 have hp := HVp.out w2 hw2
 unfold QPrintO at hp
 rw [Hck.out] at hp
 obtain ⟨PS, hPS⟩ : ∃ PS : ByteArray, PS = ⟨(if ck = 0 then printP q else []).toArray⟩ := ⟨_, rfl⟩
 rw [show str (if ck = 0 then printP q else []) = .string PS by rw [hPS] <;> rfl] at hp
 have HP := Lh hp; have HW2 := Lh hw2; have BX2 := Lh bx2; have HPS := Lh hPS
 clear hw2 bx2 hb2 hp hPS HC HW1 BX1
 go_wp2_with fail
 refine HP.out.mono ?_
 rintro e w3 ⟨rfl, hb3⟩
 have hw3 := HW2.out.trans (hb3.mono HW2.out.size)
 have bx3 := BX2.out.below hb3 BX2.out.lt
 clear x0 x1
 have x0 : w3.cell? ⟨w.heap.size, 0, none⟩ = some (.slice MA nm cm) := bx3.cell 0
 have x1 : w3.cell? ⟨w.heap.size, 1, none⟩ = some (.slice FA nf cf) := bx3.cell 1
 have hn3 := HVn.out w3 hw3
 rw [Hck.out] at hn3
 have HN := Lh hn3; have HW3 := Lh hw3; have BX3 := Lh bx3
 clear hw3 bx3 hb3 hn3 HP HW2 BX2
 go_wp2_with fail
 refine HN.out.mono ?_
 rintro e w4 ⟨hb4, hc⟩
 have hw4 := HW3.out.trans (hb4.mono HW3.out.size)
 have bx4 := BX3.out.below hb4 BX3.out.lt
 clear x0 x1
 have x0 : w4.cell? ⟨w.heap.size, 0, none⟩ = some (.slice MA nm cm) := bx4.cell 0
 have x1 : w4.cell? ⟨w.heap.size, 1, none⟩ = some (.slice FA nf cf) := bx4.cell 1
 have HC := Lh (HVc.out w4 hw4); have HW4 := Lh hw4; have BX4 := Lh bx4
 clear hw4 bx4 hb4 HN HW3 BX3
 have zkk : ((ck : Int) == (ck : Int)) = true := by simp
 rcases hc with ⟨hck0, g, v1, v2, P, Q, pv, rfl, hF, hpl⟩ | ⟨hne, rfl⟩
 ·subst hck0
  have HF : Hid (FilAt w3.heap.size w4 g q) := Lh ⟨v1, v2, P, Q, pv, hF, hpl⟩
  clear hF hpl
  have hPS2 := HPS.out
  rw [if_pos rfl] at hPS2
  have HPS2 := Lh hPS2
  clear hPS2
  go_wp2_with fail
  refine HC.out.mono ?_
  rintro e w5 ⟨rfl, hb5⟩
  have hw5 := HW4.out.trans (hb5.mono HW4.out.size)
  have bx5 := BX4.out.below hb5 BX4.out.lt
  clear x0 x1
  have x0 : w5.cell? ⟨w.heap.size, 0, none⟩ = some (.slice MA nm cm) := bx5.cell 0
  have x1 : w5.cell? ⟨w.heap.size, 1, none⟩ = some (.slice FA nf cf) := bx5.cell 1
  have hf5 := HF.out.below hb5
  have hpr := gPrint q MA FA nm nf cm cf w5 (HQ.out.below hw5) Hck.out HSm.out HSf.out
  rw [show strB (printP q) = .string PS by rw [HPS2.out] <;> rfl] at hpr
  have HPr := Lh hpr; have HW5 := Lh hw5; have BX5 := Lh bx5; have HF5 := Lh hf5
  clear hpr hw5 bx5 hf5 hb5 HC HW4 BX4 HF
  go_wp2_with fail
  refine HPr.out.mono ?_
  rintro e w6 ⟨rfl, hb6⟩
  have zss : (PS.toList == PS.toList) = true := by simp
  have hw6 := HW5.out.trans (hb6.mono HW5.out.size)
  have bx6 := BX5.out.below hb6 BX5.out.lt
  have hf6 := HF5.out.below hb6
  have HW6 := Lh hw6; have BX6 := Lh bx6; have HF6 := Lh hf6
  have H0 : Hid (Below w6.heap.size w6 w6) := Lh (Below.refl _ _)
  clear hw6 bx6 hf6 hb6 x0 x1 HPr HW5 BX5 HF5
  go_wp2
  clear zss zkk
  have HW := HW6
  clear HW6
  go_loopw [10] (fun i wr => ∃ k : Nat, k ≤ n ∧ i = .int .i64 k ∧ Hid (Below w6.heap.size w6 wr)) (fun i _ => n - (intOf i).toNat)
  case atStart => exact ⟨0, Nat.zero_le _, rfl, H0⟩
  clear H0
  obtain ⟨k, hk, rfl, hst⟩ := hrel
  obtain ⟨wo, rfl⟩ : ∃ wo : World, wo = wr := ⟨_, rfl⟩
  have wk1 := wS k (by omega)
  by_cases hlt : k < n
  ·have z1 : (k : Int) < (n : Int) := by omega
   obtain ⟨d, hd⟩ : ∃ d, rs[k]? = some d := ⟨_, List.getElem?_eq_getElem (by rw [HR.out.len]; exact hlt)⟩
   obtain ⟨b, off, rfl, hc⟩ := rec_cells HR.out.row hd hlt
   have hmem := List.mem_of_getElem? hd
   have hlab := HR.out.lab d hmem
   have hfew := HR.out.few d hmem
   have hl4 := HLine.out d hmem
   obtain ⟨hs1, hs2⟩ := HSr.out d hmem
   obtain ⟨ln, hln⟩ : ∃ ln, d.r.labels.length = ln := ⟨_, rfl⟩
   rw [hln] at hlab hfew hc
   obtain ⟨LA, hLA⟩ : ∃ LA, d.A = LA := ⟨_, rfl⟩
   obtain ⟨lc, hlc⟩ : ∃ lc, d.c = lc := ⟨_, rfl⟩
   obtain ⟨tv, htv⟩ : ∃ tv, d.r.time = tv := ⟨_, rfl⟩
   obtain ⟨sv, hsv⟩ : ∃ sv, d.r.seq = sv := ⟨_, rfl⟩
   rw [hLA] at hlab hc
   rw [hlc, htv, hsv] at hc
   obtain ⟨R, eR, -⟩ := str_form d.r.line
   rw [eR] at hc
   have hcw : ∀ wx, Below w6.heap.size w6 wx → wx.cell? ⟨b, off + k * 4, none⟩ = some (.int .i64 tv) ∧ wx.cell? ⟨b, off + k * 4 + 1, none⟩ = some (.int .u64 sv) ∧ wx.cell? ⟨b, off + k * 4 + 2, none⟩ = some (.slice LA ln lc) ∧ wx.cell? ⟨b, off + k * 4 + 3, none⟩ = some (.string R) := fun wx h => hc wx (HW.out.trans (h.mono HW.out.size))
   obtain ⟨AN, hAN⟩ : ∃ AN, holdsQ q d.r = AN := ⟨_, rfl⟩
   obtain ⟨h16, -⟩ := check_zero Hck.out
   have hha : ∀ u, Below w6.heap.size w6 u → Calls Tryz.prog 23 #[.pointer (some ⟨g, 0, none⟩), .agg #[.int .i64 tv, .int .u64 sv, .slice LA ln lc, .string R]] u fun e w' => e = .returned (.bool AN) ∧ Below u.heap.size u w' := fun u hu => by
    have h := vQHolds q d.r w3.heap.size g LA ln lc tv sv u (HL.out.below (HW.out.trans (hu.mono HW.out.size))) (HF6.out.below hu) (by omega) (by omega) ((hlab.below (HW.out.trans (hu.mono HW.out.size))).more (HW.out.trans (hu.mono HW.out.size)).size) hln (by omega) hl4
    rw [hAN, eR] at h
    exact h
   have hhb : ∀ u, Below w6.heap.size w6 u → Calls Tryz.prog 33 #[.agg #[.slice MA nm cm, .slice FA nf cf], .agg #[.int .i64 tv, .int .u64 sv, .slice LA ln lc, .string R]] u fun e w' => e = .returned (.bool AN) ∧ Below u.heap.size u w' := fun u hu => by
    have h := gHolds q d.r MA FA LA nm nf cm cf ln lc tv sv u Hck.out (HQ.out.below (HW.out.trans (hu.mono HW.out.size))) ((hlab.below (HW.out.trans (hu.mono HW.out.size))).more (HW.out.trans (hu.mono HW.out.size)).size) hln (by omega) hs1 hs2
    rw [hAN, eR] at h
    exact h
   have hkq : ∀ u, Below w6.heap.size w6 u → u.cell? ⟨w.heap.size, 0, none⟩ = some (.slice MA nm cm) ∧ u.cell? ⟨w.heap.size, 1, none⟩ = some (.slice FA nf cf) := fun u hu => ⟨(BX6.out.below hu BX6.out.lt).cell 0, (BX6.out.below hu BX6.out.lt).cell 1⟩
   have HHa := Lh hha; have HHb := Lh hhb; have HKq := Lh hkq; have HCw := Lh hcw
   clear hha hhb hkq hcw hc hmem hlab hfew hl4 hs1 hs2 hln hLA hlc htv hsv eR hAN h16 hd
   go_upto_region 13 with fail
   have hT : Below w6.heap.size w6 wo.drew := hst.out.trans ((Below.refl _ _).drew.mono hst.out.size)
   refine rgQ (fun w' => Below w6.heap.size w6 w') 100 (by kernel_rfl) (fun _ _ d _ _ h => by cases d <;> exact h) fun qP => ?_
   apply tkq 0 (by kernel_rfl) rfl qP hT
   ·intro w' hS'; go_simp; exact ⟨rfl, rfl⟩
   apply tkq 1 (by kernel_rfl) rfl qP hT
   ·intro w' hS'; go_simp; exact ⟨rfl, rfl⟩
   apply tkq 2 (by kernel_rfl) rfl qP hT
   ·intro w' hS'; go_simp; exact ⟨rfl, rfl⟩
   apply tkq 3 (by kernel_rfl) rfl qP hT
   ·intro w' hS'; go_simp; exact ⟨rfl, rfl⟩
   apply tkq 4 (v := (.agg #[.int .i64 tv, .int .u64 sv, .slice LA ln lc, .string R])) (by kernel_rfl) rfl qP hT
   ·intro w' hS'; obtain ⟨k0, k1, k2, k3⟩ := HCw.out w' hS'; go_simp; exact ⟨rfl, rfl⟩
   apply tkq 6 (by kernel_rfl) rfl qP hT
   ·intro w' hS'; go_simp; exact ⟨rfl, rfl⟩
   apply tkq 7 (by kernel_rfl) rfl qP hT
   ·intro w' hS'; go_simp; exact ⟨rfl, rfl⟩
   (try simp only [Act.put]); (try simp only [List.setIfInBounds_toArray]); (try simp only [List.set])
   refine rnL 5 (by kernel_rfl) rfl (by kernel_rfl) (fun K hK => ?_)
   go_simp
   refine (HHa.out _ hT).mono ?_
   rintro e w7 ⟨rfl, hb7⟩
   have h7 := hT.trans (hb7.mono hT.size)
   refine hK _ _ (fun _ => h7) ?_
   clear hK K
   (try simp only [Act.put])
   apply tkq 8 (by kernel_rfl) rfl qP h7
   ·intro w' hS'; go_simp; exact ⟨rfl, rfl⟩
   apply tkq 9 (v := (.agg #[.slice MA nm cm, .slice FA nf cf])) (by kernel_rfl) rfl qP h7
   ·intro w' hS'; obtain ⟨k0, k1⟩ := HKq.out w' hS'; go_simp; exact ⟨rfl, rfl⟩
   apply tkq 10 (by kernel_rfl) rfl qP h7
   ·intro w' hS'; go_simp; exact ⟨rfl, rfl⟩
   apply tkq 11 (by kernel_rfl) rfl qP h7
   ·intro w' hS'; go_simp; exact ⟨rfl, rfl⟩
   apply tkq 12 (by kernel_rfl) rfl qP h7
   ·intro w' hS'; go_simp; exact ⟨rfl, rfl⟩
   apply tkq 13 (v := (.agg #[.int .i64 tv, .int .u64 sv, .slice LA ln lc, .string R])) (by kernel_rfl) rfl qP h7
   ·intro w' hS'; obtain ⟨k0, k1, k2, k3⟩ := HCw.out w' hS'; go_simp; exact ⟨rfl, rfl⟩
   (try simp only [Act.put]); (try simp only [List.setIfInBounds_toArray]); (try simp only [List.set])
   refine rnL 14 (by kernel_rfl) rfl (by kernel_rfl) (fun K hK => ?_)
   go_simp
   refine (HHb.out _ h7).mono ?_
   rintro e w8 ⟨rfl, hb8⟩
   have h8 := h7.trans (hb8.mono h7.size)
   refine hK _ _ (fun _ => h8) ?_
   clear hK K
   (try simp only [Act.put])
   apply tkq 15 (by kernel_rfl) rfl qP h8
   ·intro w' hS'; go_simp; exact ⟨rfl, rfl⟩
   apply tkq 16 (by kernel_rfl) rfl qP h8
   ·intro w' hS'; go_simp; exact ⟨rfl, rfl⟩
   (try simp only [Act.put]); (try simp only [List.setIfInBounds_toArray]); (try simp only [List.set])
   refine dnL (by kernel_rfl) ?_ _
   have H8 := Lh h8
   clear hT h7 h8 hb7 hb8
   have hx : (AN != AN) = false := by cases AN <;> rfl
   (try rw [hx])
   go_wp2
   go_roundw
   case rel => exact ⟨k + 1, by omega, by first | rfl | go_num, H8⟩
   case measure => simp [intOf]; omega
  obtain rfl : k = n := by omega
  have z1 : ¬ (k : Int) < (k : Int) := by omega
  have hw7 := HW.out.trans (hst.out.mono HW.out.size)
  have H7 := Lh hw7
  clear hw7 hst
  go_wp2
  go_ret
  exact ⟨rfl, H7.out⟩
 have zk : ((ck : Int) == 0) = false := beq_eq_false_iff_ne.2 (by omega)
 have zk2 : ¬ (ck : Int) = 0 := by omega
 have zk3 : ((ck : Int) != 0) = true := by simp; omega
 have hPS2 := HPS.out
 rw [if_neg hne] at hPS2
 have hPS3 : PS = ⟨#[]⟩ := hPS2
 subst hPS3
 clear hPS2
 go_wp2_with fail
 refine HC.out.mono ?_
 rintro e w5 ⟨rfl, hb5⟩
 have hw5 := HW4.out.trans (hb5.mono HW4.out.size)
 have bx5 := BX4.out.below hb5 BX4.out.lt
 have HW := Lh hw5
 have H0 : Hid (Below w5.heap.size w5 w5) := Lh (Below.refl _ _)
 clear hw5 bx5 hb5 x0 x1 HC HW4 BX4 HPS
 go_wp2
 clear zkk
 go_loopw [10] (fun i wr => ∃ k : Nat, k ≤ n ∧ i = .int .i64 k ∧ Hid (Below w5.heap.size w5 wr)) (fun i _ => n - (intOf i).toNat)
 case atStart => exact ⟨0, Nat.zero_le _, rfl, H0⟩
 clear H0
 obtain ⟨k, hk, rfl, hst⟩ := hrel
 obtain ⟨wo, rfl⟩ : ∃ wo : World, wo = wr := ⟨_, rfl⟩
 have wk1 := wS k (by omega)
 by_cases hlt : k < n
 ·have z1 : (k : Int) < (n : Int) := by omega
  obtain ⟨d, hd⟩ : ∃ d, rs[k]? = some d := ⟨_, List.getElem?_eq_getElem (by rw [HR.out.len]; exact hlt)⟩
  obtain ⟨b, off, rfl, hc⟩ := rec_cells HR.out.row hd hlt
  have hmem := List.mem_of_getElem? hd
  have hlab := HR.out.lab d hmem
  have hfew := HR.out.few d hmem
  have hl4 := HLine.out d hmem
  obtain ⟨hs1, hs2⟩ := HSr.out d hmem
  obtain ⟨ln, hln⟩ : ∃ ln, d.r.labels.length = ln := ⟨_, rfl⟩
  rw [hln] at hlab hfew hc
  obtain ⟨LA, hLA⟩ : ∃ LA, d.A = LA := ⟨_, rfl⟩
  obtain ⟨lc, hlc⟩ : ∃ lc, d.c = lc := ⟨_, rfl⟩
  obtain ⟨tv, htv⟩ : ∃ tv, d.r.time = tv := ⟨_, rfl⟩
  obtain ⟨sv, hsv⟩ : ∃ sv, d.r.seq = sv := ⟨_, rfl⟩
  rw [hLA] at hlab hc
  rw [hlc, htv, hsv] at hc
  obtain ⟨R, eR, -⟩ := str_form d.r.line
  rw [eR] at hc
  have hcw : ∀ wx, Below w5.heap.size w5 wx → wx.cell? ⟨b, off + k * 4, none⟩ = some (.int .i64 tv) ∧ wx.cell? ⟨b, off + k * 4 + 1, none⟩ = some (.int .u64 sv) ∧ wx.cell? ⟨b, off + k * 4 + 2, none⟩ = some (.slice LA ln lc) ∧ wx.cell? ⟨b, off + k * 4 + 3, none⟩ = some (.string R) := fun wx h => hc wx (HW.out.trans (h.mono HW.out.size))
  have hha : ∀ u, Calls Tryz.prog 23 #[.pointer none, .agg #[.int .i64 tv, .int .u64 sv, .slice LA ln lc, .string R]] u fun e w' => e = .returned (.bool false) ∧ Below u.heap.size u w' := fun u => qHoldsNil tv sv LA ln lc R u
  have HHa := Lh hha; have HCw := Lh hcw
  clear hha hcw hc hmem hlab hfew hl4 hs1 hs2 hln hLA hlc htv hsv eR hd
  go_upto_region 13 with fail
  have hT : Below w5.heap.size w5 wo.drew := hst.out.trans ((Below.refl _ _).drew.mono hst.out.size)
  refine rgQ (fun w' => Below w5.heap.size w5 w') 100 (by kernel_rfl) (fun _ _ d _ _ h => by cases d <;> exact h) fun qP => ?_
  apply tkq 0 (by kernel_rfl) rfl qP hT
  ·intro w' hS'; go_simp; exact ⟨rfl, rfl⟩
  apply tkq 1 (by kernel_rfl) rfl qP hT
  ·intro w' hS'; go_simp; exact ⟨rfl, rfl⟩
  apply tkq 2 (by kernel_rfl) rfl qP hT
  ·intro w' hS'; go_simp; exact ⟨rfl, rfl⟩
  apply tkq 3 (by kernel_rfl) rfl qP hT
  ·intro w' hS'; go_simp; exact ⟨rfl, rfl⟩
  apply tkq 4 (v := (.agg #[.int .i64 tv, .int .u64 sv, .slice LA ln lc, .string R])) (by kernel_rfl) rfl qP hT
  ·intro w' hS'; obtain ⟨k0, k1, k2, k3⟩ := HCw.out w' hS'; go_simp; exact ⟨rfl, rfl⟩
  apply tkq 6 (by kernel_rfl) rfl qP hT
  ·intro w' hS'; go_simp; exact ⟨rfl, rfl⟩
  apply tkq 7 (v := (.bool false)) (by kernel_rfl) rfl qP hT
  ·intro w' hS'
   (go_simp; (try rw [zk]); exact ⟨rfl, rfl⟩)
  (try simp only [Act.put]); (try simp only [List.setIfInBounds_toArray]); (try simp only [List.set])
  refine rnL 5 (by kernel_rfl) rfl (by kernel_rfl) (fun K hK => ?_)
  go_simp
  refine (HHa.out _).mono ?_
  rintro e w7 ⟨rfl, hb7⟩
  have h7 := hT.trans (hb7.mono hT.size)
  refine hK _ _ (fun _ => h7) ?_
  clear hK K
  (try simp only [Act.put])
  apply tkq 8 (by kernel_rfl) rfl qP h7
  ·intro w' hS'; go_simp; exact ⟨rfl, rfl⟩
  refine skq 9 (by kernel_rfl) rfl qP h7 ?_
  refine skq 10 (by kernel_rfl) rfl qP h7 ?_
  refine skq 11 (by kernel_rfl) rfl qP h7 ?_
  refine skq 12 (by kernel_rfl) rfl qP h7 ?_
  refine skq 13 (by kernel_rfl) rfl qP h7 ?_
  refine skq 14 (by kernel_rfl) rfl qP h7 ?_
  apply tkq 15 (by kernel_rfl) rfl qP h7
  ·intro w' hS'; go_simp; exact ⟨rfl, rfl⟩
  apply tkq 16 (by kernel_rfl) rfl qP h7
  ·intro w' hS'; go_simp; exact ⟨rfl, rfl⟩
  (try simp only [Act.put]); (try simp only [List.setIfInBounds_toArray]); (try simp only [List.set])
  refine dnL (by kernel_rfl) ?_ _
  have H8 := Lh h7
  clear hT h7 hb7
  go_wp2
  go_roundw
  case rel => exact ⟨k + 1, by omega, by first | rfl | go_num, H8⟩
  case measure => simp [intOf]; omega
 obtain rfl : k = n := by omega
 have z1 : ¬ (k : Int) < (k : Int) := by omega
 have hw7 := HW.out.trans (hst.out.mono HW.out.size)
 have H7 := Lh hw7
 clear hw7 hst
 go_wp2
 go_ret
 exact ⟨rfl, H7.out⟩
end Go.Proofs.YtecejnilajbdpaaGreatDoor
