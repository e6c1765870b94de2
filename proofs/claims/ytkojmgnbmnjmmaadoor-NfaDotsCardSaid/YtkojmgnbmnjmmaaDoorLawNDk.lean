import Derived.Test.YtkojmgnbmnjmmaaDoorNcRow
/-! NfaDots: the walk -/
namespace Go.Proofs.YtkojmgnbmnjmmaaDoor
open Go.RowKit Garner
set_option maxRecDepth 100000 in
set_option maxHeartbeats 32000000 in
theorem lawND (S : ByteArray) (s : Bs) (m : Nat) (hS : S = ⟨s.toArray⟩) (hm : m ≤ 255) (w : World) (hL : Lt w) (b1 : s.length ≤ 140737488355328) :
    Calls Tryd.prog 9 #[.string S, .int .u8 m] w fun e w' => e = .returned (.bool true) ∧ Below w.heap.size w w' := by
  have h1 := vAwake19 w hL
  obtain ⟨k, hk⟩ : ∃ k, m % 12 = k := ⟨_, rfl⟩
  have hk12 : k < 12 := by omega
  have r1 : (m : Int).tmod 12 = (k : Int) := by rw [Int.tmod_eq_emod_of_nonneg (by omega)]; omega
  clear hk
  have HS := Lib.hid hS; have HL := Lib.hid hL; have H1 := Lib.hid h1
  clear h1 hS hL
  go_enter Tryd.func9, Tryd.ntmps9
  go_wp2_with fail
  refine H1.out.mono ?_
  rintro e w1 ⟨rfl, hb1⟩
  have HB1 := Lib.hid hb1
  clear hb1
  go_wp2
  go_loopw [6, 7] (fun v i wr => ∃ (j : Nat) (D : ByteArray), j ≤ k ∧ i = .int .i64 j ∧ v = .string D ∧ Hid (D = ⟨(dotsB j).toArray⟩) ∧ D.size = j ∧ wr = w1) (fun _ i _ => k - (intOf i).toNat)
  case atStart => exact ⟨0, _, Nat.zero_le _, rfl, rfl, Lib.hid rfl, rfl, rfl⟩
  case round =>
    obtain ⟨j, D, hj, rfl, rfl, hD, hDs, hwr⟩ := hrel
    obtain rfl : w1 = wr := hwr.symm
    have wj1 : IntKind.i64.wrap ((j : Int) + 1) = ((j + 1 : Nat) : Int) := by rw [IntKind.wrap_i64]; omega
    by_cases hlt : j < k
    · have z1 : (j : Int) < (k : Int) := by omega
      obtain ⟨D2, d2, e2, s2⟩ := cat2 (B := ⟨#[46]⟩) (b := [46]) hD.out rfl
      rw [dotsB_snoc] at e2
      have HD2 := Lib.hid e2
      have s3 : D2.size = j + 1 := by rw [s2, dotsB_len]; rfl
      have zD : D.size ≤ 1000 := by omega
      have S3 := Lib.hid s3
      clear e2 s2 s3 hDs
      go_wp2
      go_roundw
      case rel => exact ⟨j + 1, D2, by omega, by go_num, rfl, HD2, S3.out, by first | rfl | trivial⟩
      case measure => simp [intOf]; omega
    · obtain rfl : j = k := by omega
      have z1 : ¬ (j : Int) < (j : Int) := by omega
      have zD : D.size ≤ 1000 := by omega
      obtain ⟨P1, p1, f1, y1⟩ := cat2 (A := ⟨#[94]⟩) (a := [94]) rfl hD.out
      obtain ⟨P2, p2, f2, y2⟩ := cat2 (B := ⟨#[36]⟩) (b := [36]) f1 rfl
      obtain ⟨R1, r1', g1, x1⟩ := cat2 (B := ⟨#[46, 42]⟩) (b := [46, 42]) hD.out rfl
      have zP1 : P1.size ≤ 1000 := by rw [y1]; simp [dotsB_len]; omega
      have h2 := vNewOk (dotsB j) D hD.out _ (dots_parseA j (by omega)) w1 (HL.out.below HB1.out)
      have hf2 : P2 = ⟨(94 :: (dotsB j ++ [36])).toArray⟩ := by rw [f2]; simp
      have HP2 := Lib.hid hf2; have HR1 := Lib.hid g1; have H2 := Lib.hid h2
      clear f1 f2 g1 y1 y2 x1 hf2 h2 hDs
      obtain ⟨rs, hrs⟩ : ∃ rs, runesP s = rs := ⟨_, rfl⟩
      have hle : ∀ r ∈ rs, r ≤ 1114111 := by rw [← hrs]; exact runes_le _ s (Nat.le_refl _)
      have hpl := plain_iff s
      rw [hrs] at hpl
      obtain ⟨pl, hpl2⟩ : ∃ pl, (!Lib.contains s [10]) = pl := ⟨_, rfl⟩
      rw [hpl2] at hpl
      obtain ⟨a1, a2, a3, a4⟩ := dots_answers hle j pl hpl
      obtain ⟨N, hN⟩ : ∃ N, rs.length = N := ⟨_, rfl⟩
      rw [hN] at a1 a2 a3 a4
      have hNs : N ≤ 140737488355328 := by rw [← hN, ← hrs]; exact Nat.le_trans (runes_len _ s (Nat.le_refl _)) b1
      have HA1 := Lib.hid a1; have HA2 := Lib.hid a2; have HA3 := Lib.hid a3; have HA4 := Lib.hid a4; have Hpl := Lib.hid hpl2; have Hrs := Lib.hid hrs; have HN := Lib.hid hN
      clear a1 a2 a3 a4 hpl hpl2 hrs hle hN
      go_wp2_with fail
      refine H2.out.mono ?_
      rintro e w2 ⟨ba, rfl, hb2, hma⟩
      have hw2 := HB1.out.trans (hb2.mono HB1.out.size)
      have h3 := vNewOk _ P2 HP2.out _ (dots_parseB j (by omega)) w2 (HL.out.below hw2)
      have H3 := Lib.hid h3; have HW2 := Lib.hid hw2; have MA := Lib.hid hma
      clear h3 hw2 hma hb2
      go_wp2_with fail
      refine H3.out.mono ?_
      rintro e w3 ⟨bb, rfl, hb3, hmb⟩
      have hw3 := HW2.out.trans (hb3.mono HW2.out.size)
      have hma3 := MA.out.below hb3
      have h4 := vNewOk _ R1 HR1.out _ (dots_parseC j (by omega)) w3 (HL.out.below hw3)
      have H4 := Lib.hid h4; have HW3 := Lib.hid hw3; have MA3 := Lib.hid hma3; have MB3 := Lib.hid hmb
      clear h4 hw3 hma3 hmb hb3 MA
      go_wp2_with fail
      refine H4.out.mono ?_
      rintro e w4 ⟨bc, rfl, hb4, hmc⟩
      have hw4 := HW3.out.trans (hb4.mono HW3.out.size)
      have hma4 := MA3.out.below hb4
      have hmb4 := MB3.out.below hb4
      have hH := vHas1 s S HS.out 10 w4
      have HW4 := Lib.hid hw4; have MA4 := Lib.hid hma4; have MB4 := Lib.hid hmb4; have MC4 := Lib.hid hmc; have HH := Lib.hid hH
      clear hw4 hma4 hmb4 hmc hb4 hH MA3 MB3 H2 H3 H4
      go_wp2_with fail
      refine HH.out.mono ?_
      rintro e wz ⟨rfl, hz⟩
      obtain rfl : w4 = wz := hz.symm
      have hc := vCount s w4 (by omega)
      rw [Hrs.out, HN.out, str, ← HS.out] at hc
      obtain ⟨hc0, hcc⟩ : ∃ x, Lib.contains s [10] = x := ⟨_, rfl⟩
      rw [hcc]
      have hpl3 := Hpl.out
      rw [hcc] at hpl3
      have HC := Lib.hid hc
      clear hc hcc hz
      go_wp2_with fail
      refine HC.out.mono ?_
      rintro e w5 ⟨rfl, hb5⟩
      have hw5 := HW4.out.trans (hb5.mono HW4.out.size)
      have aW := (MA4.out.below hb5).wholeA HS.out
      have aP := (MA4.out.below hb5).partA HS.out
      have bP := (MB4.out.below hb5).partA HS.out
      have cW := (MC4.out.below hb5).wholeA HS.out
      rw [Hrs.out, HA1.out] at aW
      rw [Hrs.out] at aP
      rw [Hrs.out, HA2.out] at bP
      rw [Hrs.out, HA3.out] at cW
      have r0 : Below w5.heap.size w5 w5 := Below.refl _ _
      have HW5 := Lib.hid hw5
      have key : ∀ (x y z : Bool), (pl && decide (N = j)) = x → (pl && decide (j ≤ N)) = y → (pl = true → decide (j ≤ N) = z) → Hid (WholeA w5 ba S x) ∧ Hid (PartA w5 bb S x) ∧ Hid (WholeA w5 bc S y) ∧ (pl = true → Hid (PartA w5 ba S z)) := fun x y z hx hy hz => by
        rw [hx] at aW bP
        rw [hy] at cW
        exact ⟨aW, bP, cW, fun h => by rw [HA4.out h, hz h] at aP; exact aP⟩
      clear aW aP bP cW hw5 hb5
      cases pl with
      | false =>
        obtain rfl : hc0 = true := by simpa using hpl3
        obtain ⟨k1, k2, k3, -⟩ := key false false false rfl rfl (fun h => by cases h)
        clear key hpl3
        go_wp2_with (first | (with_reducible refine (k1.out _ (by assumption)).mono ?_; rintro e wy ⟨rfl, hby⟩) | (with_reducible refine (k2.out _ (by assumption)).mono ?_; rintro e wy ⟨rfl, hby⟩) | (with_reducible refine (k3.out _ (by assumption)).mono ?_; rintro e wy ⟨rfl, hby⟩))
        go_ret
        refine ⟨rfl, HW5.out.trans (Below.mono (?_ : Below w5.heap.size w5 _) HW5.out.size)⟩
        assumption
      | true =>
        obtain rfl : hc0 = false := by simpa using hpl3
        rcases Nat.lt_trichotomy N j with hlt2 | heq | hgt
        · obtain ⟨k1, k2, k3, k4⟩ := key false false false (by simp; omega) (by simp; omega) (fun _ => by simp; omega)
          have k5 := k4 rfl
          have z4 : ¬ (N : Int) = (j : Int) := by omega
          have z5 : ¬ (j : Int) ≤ (N : Int) := by omega
          have z6 : ((N : Int) == (j : Int)) = false := by simp; omega
          have z7 : decide (j ≤ N) = false := by simp; omega
          clear key hpl3 k4
          go_wp2_with (first | (with_reducible refine (k1.out _ (by assumption)).mono ?_; rintro e wy ⟨rfl, hby⟩) | (with_reducible refine (k2.out _ (by assumption)).mono ?_; rintro e wy ⟨rfl, hby⟩) | (with_reducible refine (k3.out _ (by assumption)).mono ?_; rintro e wy ⟨rfl, hby⟩) | (with_reducible refine (k5.out _ (by assumption)).mono ?_; rintro e wy ⟨rfl, hby⟩))
          go_ret
          refine ⟨rfl, HW5.out.trans (Below.mono (?_ : Below w5.heap.size w5 _) HW5.out.size)⟩
          assumption
        · obtain ⟨k1, k2, k3, k4⟩ := key true true true (by simp; omega) (by simp; omega) (fun _ => by simp; omega)
          have k5 := k4 rfl
          have z4 : (N : Int) = (j : Int) := by omega
          have z5 : (j : Int) ≤ (N : Int) := by omega
          clear key hpl3 k4 heq
          go_wp2_with (first | (with_reducible refine (k1.out _ (by assumption)).mono ?_; rintro e wy ⟨rfl, hby⟩) | (with_reducible refine (k2.out _ (by assumption)).mono ?_; rintro e wy ⟨rfl, hby⟩) | (with_reducible refine (k3.out _ (by assumption)).mono ?_; rintro e wy ⟨rfl, hby⟩) | (with_reducible refine (k5.out _ (by assumption)).mono ?_; rintro e wy ⟨rfl, hby⟩))
          go_ret
          refine ⟨rfl, HW5.out.trans (Below.mono (?_ : Below w5.heap.size w5 _) HW5.out.size)⟩
          assumption
        · obtain ⟨k1, k2, k3, k4⟩ := key false true true (by simp; omega) (by simp; omega) (fun _ => by simp; omega)
          have k5 := k4 rfl
          have z4 : ¬ (N : Int) = (j : Int) := by omega
          have z5 : (j : Int) ≤ (N : Int) := by omega
          have z6 : ((N : Int) == (j : Int)) = false := by simp; omega
          have z7 : decide (j ≤ N) = true := by simp; omega
          clear key hpl3 k4
          go_wp2_with (first | (with_reducible refine (k1.out _ (by assumption)).mono ?_; rintro e wy ⟨rfl, hby⟩) | (with_reducible refine (k2.out _ (by assumption)).mono ?_; rintro e wy ⟨rfl, hby⟩) | (with_reducible refine (k3.out _ (by assumption)).mono ?_; rintro e wy ⟨rfl, hby⟩) | (with_reducible refine (k5.out _ (by assumption)).mono ?_; rintro e wy ⟨rfl, hby⟩))
          go_ret
          refine ⟨rfl, HW5.out.trans (Below.mono (?_ : Below w5.heap.size w5 _) HW5.out.size)⟩
          assumption
end Go.Proofs.YtkojmgnbmnjmmaaDoor
