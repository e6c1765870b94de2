import Derived.Test.YtecejnilajbdpaaGreatDoorTu50
import Derived.Test.YtecejnilajbdpaaGreatDoorTu48
/-! QueryLimits: the law walked -/
namespace Garner
open Go
theorem limM_next (k : Nat) : (limM (k + 1)).ms.flatMap MatP.cells = (limM k).ms.flatMap MatP.cells ++ [.string ⟨#[97]⟩, .int .i64 1, .string ⟨#[]⟩] := by
  show (List.replicate (k + 1) aM).flatMap MatP.cells = _
  rw [List.replicate_succ', List.flatMap_append]
  rfl
theorem limF_next (k : Nat) : (limF (k + 1)).fs.flatMap FilP.cells = (limF k).fs.flatMap FilP.cells ++ [.int .i64 1, .string ⟨#[120]⟩] := by
  show (List.replicate (k + 1) xF).flatMap FilP.cells = _
  rw [List.replicate_succ', List.flatMap_append]
  rfl
theorem limM_size (k : Nat) : (limM k).ms.length = k ∧ (limM k).fs.length = 0 := by simp [limM]
theorem limF_size (k : Nat) : (limF k).fs.length = k ∧ (limF k).ms.length = 0 := by simp [limF]
end Garner
namespace Go.Proofs.YtecejnilajbdpaaGreatDoor
open Go.RowKit Go.Shelf Garner
theorem limM_at {w : World} {B k c : Nat} {A : Option Addr} (h : w.ownsRow B 69 3 (.slice A k c) k ((limM k).ms.flatMap MatP.cells)) : QueryAt w A k none 0 (limM k) :=
  ⟨.of_own h, Row.none_, (limM_size k).1, (limM_size k).2, fun m hm => by rw [(List.mem_replicate.1 hm).2]; decide, by simp [limM]⟩
theorem limF_at {w : World} {B k c : Nat} {A : Option Addr} (h : w.ownsRow B 71 2 (.slice A k c) k ((limF k).fs.flatMap FilP.cells)) : QueryAt w none 0 A k (limF k) :=
  ⟨Row.none_, .of_own h, (limF_size k).2, (limF_size k).1, by simp [limF], fun m hm => by rw [(List.mem_replicate.1 hm).2]; decide⟩
def szOf : Value → Nat
  | .string T => T.size
  | _ => 0
structure LmS (w0 wr : World) (qb k : Nat) : Prop where
  be : Below w0.heap.size w0 wr
  ex : ∃ A c, Blk wr qb 25 [.slice A k c, .slice none 0 0] ∧ wr.ownsRow w0.heap.size 69 3 (.slice A k c) k ((limM k).ms.flatMap MatP.cells)
structure LfS (w0 wr : World) (pb k : Nat) : Prop where
  be : Below w0.heap.size w0 wr
  ex : ∃ A c, Blk wr pb 25 [.slice none 0 0, .slice A k c] ∧ wr.ownsRow w0.heap.size 71 2 (.slice A k c) k ((limF k).fs.flatMap FilP.cells)
set_option maxRecDepth 100000 in
set_option maxHeartbeats 64000000 in
theorem wQueryLimits (n m : Nat) (w : World) (hL : Lt w) (hn : n < 256) (hm : m < 256) :
    Calls Tryz.prog 10 #[.int .u8 n, .int .u8 m] w fun e w' => e = .returned (.bool true) ∧ Below w.heap.size w w' := by
  have haw := awake24 w hL
  have HAw := Lib.hid haw; have HL := Lib.hid hL
  clear haw hL
  go_enter Tryz.func10, Tryz.ntmps10
  go_wp2_with fail
  refine HAw.out.mono ?_
  rintro e w1 ⟨rfl, hb1⟩
  have HB1 := Lib.hid hb1
  clear hb1 HAw
  go_upto_region 4 with fail
  obtain ⟨K, hK, hK1, hK2⟩ : ∃ K : Nat, (14 + (n : Int) % 4) = (K : Int) ∧ 14 ≤ K ∧ K ≤ 17 := ⟨14 + n % 4, by omega, by omega, by omega⟩
  rw [hK]
  clear hK hn
  obtain ⟨X, hX⟩ : ∃ X, X = w1.alloc (.cells #[.slice none 0 0, .slice none 0 0] 25) := ⟨_, rfl⟩
  have bX : Below w1.heap.size w1 X := by rw [hX]; exact (Below.refl _ _).alloc (Nat.le_refl _) _
  have kX : Blk X w1.heap.size 25 [.slice none 0 0, .slice none 0 0] := by rw [hX]; exact Blk.new w1 _ _
  have hwX := HB1.out.trans (bX.mono HB1.out.size)
  have hqw : w.heap.size ≤ w1.heap.size := HB1.out.size
  obtain ⟨qb, hqb⟩ : ∃ qb, w1.heap.size = qb := ⟨_, rfl⟩
  rw [hqb] at kX hqw
  have H0 : Hid (LmS w X qb 0) := Lib.hid ⟨hwX, none, 0, kX, World.ownsRow_nil _ _ _ _⟩
  have Hqw := Lib.hid hqw
  clear bX kX hwX HB1 hqw
  go_upto_region 6 with fail
  rw [← hX]
  (try rw [hqb])
  clear hX hqb
  go_wp2
  go_loopw [6, 8] (fun v i wr => ∃ (j : Nat) (T : ByteArray), j ≤ K ∧ i = .int .i64 j ∧ v = .string T ∧ Hid (T = ⟨(limS j).toArray⟩) ∧ Hid (LmS w wr qb j)) (fun _ i _ => K - (intOf i).toNat)
  case atStart => exact ⟨0, ⟨#[123]⟩, Nat.zero_le _, rfl, rfl, Lib.hid rfl, H0⟩
  case round =>
    clear H0
    obtain ⟨j, T, hj, rfl, rfl, HT, hst⟩ := hrel
    obtain ⟨wo, rfl⟩ : ∃ wo : World, wo = wr := ⟨_, rfl⟩
    have wk1 : IntKind.i64.wrap ((j : Int) + 1) = ((j + 1 : Nat) : Int) := by rw [IntKind.wrap_i64]; omega
    have zT : T.size ≤ 100 := by rw [HT.out, str_size]; have := limS_len j; omega
    by_cases hlt : j < K
    · have z1 : (j : Int) < (K : Int) := by omega
      obtain ⟨A, c, kq, ow⟩ := hst.out.ex
      have q0 : wo.cell? ⟨qb, 0, none⟩ = some (.slice A j c) := kq.cell 0
      have hsz : w.heap.size ≤ wo.heap.size := hst.out.be.size
      have KQ := Lib.hid kq; have OW := Lib.hid ow; have HBe := Lib.hid hst.out.be
      clear kq ow hst
      obtain ⟨T1, hT1⟩ : ∃ T1 : ByteArray, T1 = ⟨(limS (j + 1)).toArray⟩ := ⟨_, rfl⟩
      have hstep : ∀ T0 : ByteArray, (j = 0 ∧ T0 = T) ∨ (0 < j ∧ T0 = T ++ ⟨#[44]⟩) → T0 ++ ⟨#[97, 61, 34, 34]⟩ = T1 := by
        rintro T0 (⟨rfl, rfl⟩ | ⟨h0, rfl⟩)
        · rw [HT.out, hT1]; exact bytes_app _ _
        · rw [HT.out, hT1, show (⟨(limS j).toArray⟩ : ByteArray) ++ ⟨#[44]⟩ = ⟨(limS j ++ [44]).toArray⟩ from bytes_app _ _]
          exact (bytes_app (limS j ++ [44]) [97, 61, 34, 34]).trans (by rw [limS_next j h0])
      have HT1 := Lib.hid hT1; have HStep := Lib.hid hstep
      clear hT1 hstep
      by_cases hj0 : j = 0
      · have he := HStep.out T (.inl ⟨hj0, rfl⟩)
        have HE := Lib.hid he
        have z0 : ¬ (0 : Int) < (j : Int) := by omega
        have Hj0 := Lib.hid hj0
        clear he hj0
        go_upto_region 12 with fail
        rw [HE.out]
        go_wp2_with (at_builtin; refine wpList_app _ rfl matE rfl rfl (OW.out.alloc _) rfl (row_newN wo 69 3 1 [_, _, _] rfl) (by simp [Value.oneCell']) (by omega) (by simp; omega) ?_; intro v8 w8 own8 hg8 hb8 hx8; obtain ⟨V8, vc8, rfl, -⟩ := own_form own8; have qk8 := (KQ.out.alloc _).appq (OW.out.alloc _) (by decide) hg8; have q8 := qk8.cell 0; have qf8 := qk8.frozen 0)
        have hS2 : LmS w (w8.setCell ⟨qb, 0, none⟩ (.slice V8 (j + 1) vc8)) qb (j + 1) := by
          refine ⟨((HBe.out.alloc hsz _).trans hb8).setCell (by have := Hqw.out; show w.heap.size ≤ qb; omega) _, V8, vc8, qk8.set_ 0 _, ?_⟩
          have kq2 : KeepM [25] w8 (w8.setCell ⟨qb, 0, none⟩ (.slice V8 (j + 1) vc8)) := KeepM.setCell (.refl _ w8) (p := ⟨qb, 0, none⟩) (show w8.heap[qb]? = _ from qk8) (by simp) _
          refine kq2.own ?_ (by decide)
          rw [limM_next]
          exact own8
        have HS2 := Lib.hid hS2
        clear hS2 own8 hg8 hb8 hx8 q0
        go_wp2
        go_roundw
        case rel => exact ⟨j + 1, T1, by omega, by first | rfl | go_num, rfl, HT1, HS2⟩
        case measure => simp [intOf]; omega
      · have he := HStep.out (T ++ ⟨#[44]⟩) (.inr ⟨by omega, rfl⟩)
        have HE := Lib.hid he
        have z0 : (0 : Int) < (j : Int) := by omega
        clear he hj0
        go_upto_region 12 with fail
        rw [HE.out]
        go_wp2_with (at_builtin; refine wpList_app _ rfl matE rfl rfl (OW.out.alloc _) rfl (row_newN wo 69 3 1 [_, _, _] rfl) (by simp [Value.oneCell']) (by omega) (by simp; omega) ?_; intro v8 w8 own8 hg8 hb8 hx8; obtain ⟨V8, vc8, rfl, -⟩ := own_form own8; have qk8 := (KQ.out.alloc _).appq (OW.out.alloc _) (by decide) hg8; have q8 := qk8.cell 0; have qf8 := qk8.frozen 0)
        have hS2 : LmS w (w8.setCell ⟨qb, 0, none⟩ (.slice V8 (j + 1) vc8)) qb (j + 1) := by
          refine ⟨((HBe.out.alloc hsz _).trans hb8).setCell (by have := Hqw.out; show w.heap.size ≤ qb; omega) _, V8, vc8, qk8.set_ 0 _, ?_⟩
          have kq2 : KeepM [25] w8 (w8.setCell ⟨qb, 0, none⟩ (.slice V8 (j + 1) vc8)) := KeepM.setCell (.refl _ w8) (p := ⟨qb, 0, none⟩) (show w8.heap[qb]? = _ from qk8) (by simp) _
          refine kq2.own ?_ (by decide)
          rw [limM_next]
          exact own8
        have HS2 := Lib.hid hS2
        clear hS2 own8 hg8 hb8 hx8 q0
        go_wp2
        go_roundw
        case rel => exact ⟨j + 1, T1, by omega, by first | rfl | go_num, rfl, HT1, HS2⟩
        case measure => simp [intOf]; omega
    · obtain rfl : j = K := by omega
      have z1 : ¬ (j : Int) < (j : Int) := by omega
      obtain ⟨A, c, kq, ow⟩ := hst.out.ex
      obtain ⟨T1, hT1⟩ : ∃ T1 : ByteArray, T1 = ⟨(limS j ++ [125]).toArray⟩ := ⟨_, rfl⟩
      have he : T ++ ⟨#[125]⟩ = T1 := by rw [HT.out, hT1]; exact bytes_app _ _
      have HT1 := Lib.hid hT1; have HE := Lib.hid he; have KQ := Lib.hid kq; have OW := Lib.hid ow; have HBe := Lib.hid hst.out.be
      clear hT1 he kq ow hst
      go_upto_region 14 with fail
      rw [HE.out]
      clear HE HT zT
      obtain ⟨Y, hY⟩ : ∃ Y, Y = wo.alloc (.cells #[.slice none 0 0, .slice none 0 0] 25) := ⟨_, rfl⟩
      have bY : Below wo.heap.size wo Y := by rw [hY]; exact (Below.refl _ _).alloc (Nat.le_refl _) _
      have kY : Blk Y wo.heap.size 25 [.slice none 0 0, .slice none 0 0] := by rw [hY]; exact Blk.new wo _ _
      have hwY := HBe.out.trans (bY.mono HBe.out.size)
      have kqY := KQ.out.below bY KQ.out.lt
      have owY := own_below OW.out bY
      have hpw : w.heap.size ≤ wo.heap.size := HBe.out.size
      have hqp : qb < wo.heap.size := KQ.out.lt
      obtain ⟨pb, hpb⟩ : ∃ pb, wo.heap.size = pb := ⟨_, rfl⟩
      rw [hpb] at kY hpw hqp
      have H0 : Hid (LfS w Y pb 0 ∧ Blk Y qb 25 [.slice A j c, .slice none 0 0] ∧ Y.ownsRow w.heap.size 69 3 (.slice A j c) j ((limM j).ms.flatMap MatP.cells)) := Lib.hid ⟨⟨hwY, none, 0, kY, World.ownsRow_nil _ _ _ _⟩, kqY, owY⟩
      have Hpw := Lib.hid hpw; have Hqp := Lib.hid hqp
      clear bY kY hwY kqY owY hpw hqp KQ OW HBe
      go_upto_region 16 with fail
      rw [← hY]
      (try rw [hpb])
      clear hY hpb
      go_wp2
      go_loopw [9, 11] (fun v i wr => ∃ (k : Nat) (T : ByteArray), k ≤ j ∧ i = .int .i64 k ∧ v = .string T ∧ Hid (T = ⟨(limT k).toArray⟩) ∧ Hid (LfS w wr pb k ∧ Blk wr qb 25 [.slice A j c, .slice none 0 0] ∧ wr.ownsRow w.heap.size 69 3 (.slice A j c) j ((limM j).ms.flatMap MatP.cells))) (fun _ i _ => j - (intOf i).toNat)
      case atStart => exact ⟨0, ⟨#[123, 125]⟩, Nat.zero_le _, rfl, rfl, Lib.hid rfl, H0⟩
      case round =>
        clear H0
        clear z1 wk1
        obtain ⟨k, T, hk, rfl, rfl, HT, hst⟩ := hrel
        obtain ⟨wo, rfl⟩ : ∃ wo : World, wo = wr := ⟨_, rfl⟩
        have wk1 : IntKind.i64.wrap ((k : Int) + 1) = ((k + 1 : Nat) : Int) := by rw [IntKind.wrap_i64]; omega
        have zT : T.size ≤ 100 := by rw [HT.out, str_size, limT_len]; omega
        by_cases hlt2 : k < j
        · have z2 : (k : Int) < (j : Int) := by omega
          obtain ⟨FA, fc, kp, ow⟩ := hst.out.1.ex
          have q1 : wo.cell? ⟨pb, 1, none⟩ = some (.slice FA k fc) := kp.cell 1
          have hsz : w.heap.size ≤ wo.heap.size := hst.out.1.be.size
          have KP := Lib.hid kp; have OW := Lib.hid ow; have HBe := Lib.hid hst.out.1.be; have KQ := Lib.hid hst.out.2.1; have OM := Lib.hid hst.out.2.2
          clear kp ow hst
          obtain ⟨T2, hT2⟩ : ∃ T2 : ByteArray, T2 = ⟨(limT (k + 1)).toArray⟩ := ⟨_, rfl⟩
          have he : T ++ ⟨#[124, 61, 34, 120, 34]⟩ = T2 := by rw [HT.out, hT2]; exact (bytes_app (limT k) [124, 61, 34, 120, 34]).trans (by rw [limT_next])
          have HT2 := Lib.hid hT2; have HE := Lib.hid he
          clear hT2 he
          go_upto_region 20 with fail
          rw [HE.out]
          go_wp2_with (at_builtin; refine wpList_app _ rfl filE rfl rfl (OW.out.alloc _) rfl (row_newN wo 71 2 1 [_, _] rfl) (by simp [Value.oneCell']) (by omega) (by simp; omega) ?_; intro v8 w8 own8 hg8 hb8 hx8; obtain ⟨V8, vc8, rfl, -⟩ := own_form own8; have qk8 := (KP.out.alloc _).appq (OW.out.alloc _) (by decide) hg8; have q8 := qk8.cell 1; have qf8 := qk8.frozen 1)
          have hS2 : LfS w (w8.setCell ⟨pb, 1, none⟩ (.slice V8 (k + 1) vc8)) pb (k + 1) ∧ Blk (w8.setCell ⟨pb, 1, none⟩ (.slice V8 (k + 1) vc8)) qb 25 [.slice A j c, .slice none 0 0] ∧ (w8.setCell ⟨pb, 1, none⟩ (.slice V8 (k + 1) vc8)).ownsRow w.heap.size 69 3 (.slice A j c) j ((limM j).ms.flatMap MatP.cells) := by
            have kq2 : KeepM [25] w8 (w8.setCell ⟨pb, 1, none⟩ (.slice V8 (k + 1) vc8)) := KeepM.setCell (.refl _ w8) (p := ⟨pb, 1, none⟩) (show w8.heap[pb]? = _ from qk8) (by simp) _
            refine ⟨⟨((HBe.out.alloc hsz _).trans hb8).setCell (by have := Hpw.out; show w.heap.size ≤ pb; omega) _, V8, vc8, qk8.set_ 1 _, kq2.own ?_ (by decide)⟩, ((KQ.out.alloc _).appq (OW.out.alloc _) (by decide) hg8).far (by have := Hqp.out; show qb ≠ pb; omega) _, kq2.own (own_grownD (OM.out.alloc _) (OW.out.alloc _) (by decide) hg8) (by decide)⟩
            rw [limF_next]
            exact own8
          have HS2 := Lib.hid hS2
          clear hS2 own8 hg8 hb8 hx8 q1
          go_wp2
          go_roundw
          case rel => exact ⟨k + 1, T2, by omega, by first | rfl | go_num, rfl, HT2, HS2⟩
          case measure => simp [intOf]; omega
        · obtain rfl : k = j := by omega
          have z2 : ¬ (k : Int) < (k : Int) := by omega
          obtain ⟨FA, fc, kp, ow⟩ := hst.out.1.ex
          have hbe := hst.out.1.be
          have KP := Lib.hid kp; have OW := Lib.hid ow; have KQ := Lib.hid hst.out.2.1; have OM := Lib.hid hst.out.2.2
          have hp1 := vQParse (limS k ++ [125]) wo (HL.out.below hbe) (by have := limS_len k; rw [List.length_append, List.length_singleton]; omega)
          rw [show str (limS k ++ [125]) = .string T1 by rw [HT1.out] <;> rfl] at hp1
          have HP1 := Lib.hid hp1; have HBe := Lib.hid hbe
          clear kp ow hst hbe hp1
          go_wp2_with fail
          refine HP1.out.mono ?_
          rintro e wa ⟨V1, V2, qa, ka, rfl, hba, o1, o2, sm, sf, hct, hca⟩
          have hwa := HBe.out.trans (hba.mono HBe.out.size)
          have hpa := limM_parse k 0
          rw [List.replicate_zero, List.append_nil, Nat.add_zero, if_neg (by have := limS_len k; rw [List.length_append, List.length_singleton]; omega)] at hpa
          have hqa : (k ≤ 16 → ka = 0 ∧ qa = limM k) ∧ (16 < k → ka = 3) := by
            refine ⟨fun h => ?_, fun h => ?_⟩
            · rw [if_neg (by omega)] at hpa
              rcases hca with ⟨h1, h2⟩ | ⟨h1, h2, -⟩
              · rw [hpa] at h2; injection h2 with h2; exact ⟨h1, h2.symm⟩
              · rw [hpa] at h2; cases h2
            · rw [if_pos h] at hpa
              rcases hca with ⟨h1, h2⟩ | ⟨h1, h2, -⟩
              · rw [hpa] at h2; cases h2
              · rw [hpa] at h2; injection h2 with h2; exact h2.symm
          obtain ⟨na, hna⟩ : ∃ na, qa.ms.length = na := ⟨_, rfl⟩
          obtain ⟨ma, hma⟩ : ∃ ma, qa.fs.length = ma := ⟨_, rfl⟩
          rw [hna] at o1
          rw [hma] at o2
          obtain ⟨MA, mc, rfl, -⟩ := own_form o1
          obtain ⟨MF, mfc, rfl, -⟩ := own_form o2
          obtain ⟨X2, hX2⟩ : ∃ X2, X2 = wa.alloc (.cells #[.slice MA na mc, .slice MF ma mfc] 25) := ⟨_, rfl⟩
          have bX2 : Below wa.heap.size wa X2 := by rw [hX2]; exact (Below.refl _ _).alloc (Nat.le_refl _) _
          have kX2 : Blk X2 wa.heap.size 25 [.slice MA na mc, .slice MF ma mfc] := by rw [hX2]; exact Blk.new wa _ _
          have hqA : QueryAt wa MA na MF ma qa := ⟨.of_own o1, .of_own o2, hna, hma, fun m hm => by have := sm m hm; omega, fun f hf => by have := sf f hf; omega⟩
          have hoX := hba.trans (bX2.mono hba.size)
          have hwX2 := hwa.trans (bX2.mono hwa.size)
          have kp2 := KP.out.below hoX KP.out.lt
          have kq2 := KQ.out.below hoX KQ.out.lt
          have om2 := own_below OM.out hoX
          have ow2 := own_below OW.out hoX
          obtain ⟨ab, hab⟩ : ∃ ab, wa.heap.size = ab := ⟨_, rfl⟩
          have habw : w.heap.size ≤ ab := by rw [← hab]; exact hwa.size
          have habq : qb < ab := by rw [← hab]; exact Nat.lt_of_lt_of_le KQ.out.lt hba.size
          have HabQ := Lib.hid habq
          clear habq
          rw [hab] at kX2
          have hp2 := vQParse (limT k) X2 (HL.out.below hwX2) (by rw [limT_len]; omega)
          rw [show str (limT k) = .string T by rw [HT.out] <;> rfl] at hp2
          have HP2 := Lib.hid hp2; have HQa := Lib.hid hqa; have HQA := Lib.hid (hqA.below bX2); have KA := Lib.hid kX2; have KP2 := Lib.hid kp2; have KQ2 := Lib.hid kq2; have OM2 := Lib.hid om2; have OW2 := Lib.hid ow2; have HW2 := Lib.hid hwX2; have Hab := Lib.hid habw; have Hct := Lib.hid hct; have Hna := Lib.hid hna; have Hma := Lib.hid hma
          clear hp2 hqa hqA kX2 kp2 kq2 om2 ow2 hwX2 habw hct hna hma hba o1 o2 sm sf hca hwa hpa bX2 hoX HP1 KP KQ OM OW HBe
          go_upto_region 22 with fail
          rw [← hX2]
          (try rw [hab])
          clear hX2 hab
          go_wp2_with fail
          refine HP2.out.mono ?_
          rintro e wb ⟨V1, V2, qc, kc, rfl, hbb, o1, o2, sm, sf, hct, hcc⟩
          have hwb := HW2.out.trans (hbb.mono HW2.out.size)
          have hpc := limF_parse k
          rw [if_neg (by omega)] at hpc
          have hqc : (k ≤ 16 → kc = 0 ∧ qc = limF k) ∧ (16 < k → kc = 3) := by
            refine ⟨fun h => ?_, fun h => ?_⟩
            · rw [if_neg (by omega)] at hpc
              rcases hcc with ⟨h1, h2⟩ | ⟨h1, h2, -⟩
              · rw [hpc] at h2; injection h2 with h2; exact ⟨h1, h2.symm⟩
              · rw [hpc] at h2; cases h2
            · rw [if_pos h] at hpc
              rcases hcc with ⟨h1, h2⟩ | ⟨h1, h2, -⟩
              · rw [hpc] at h2; cases h2
              · rw [hpc] at h2; injection h2 with h2; exact h2.symm
          obtain ⟨nc, hnc⟩ : ∃ nc, qc.ms.length = nc := ⟨_, rfl⟩
          obtain ⟨mc2, hmc⟩ : ∃ mc2, qc.fs.length = mc2 := ⟨_, rfl⟩
          rw [hnc] at o1
          rw [hmc] at o2
          obtain ⟨CA, cc, rfl, -⟩ := own_form o1
          obtain ⟨CF, cfc, rfl, -⟩ := own_form o2
          obtain ⟨X3, hX3⟩ : ∃ X3, X3 = wb.alloc (.cells #[.slice CA nc cc, .slice CF mc2 cfc] 25) := ⟨_, rfl⟩
          have bX3 : Below wb.heap.size wb X3 := by rw [hX3]; exact (Below.refl _ _).alloc (Nat.le_refl _) _
          have kX3 : Blk X3 wb.heap.size 25 [.slice CA nc cc, .slice CF mc2 cfc] := by rw [hX3]; exact Blk.new wb _ _
          have hqC : QueryAt wb CA nc CF mc2 qc := ⟨.of_own o1, .of_own o2, hnc, hmc, fun m hm => by have := sm m hm; omega, fun f hf => by have := sf f hf; omega⟩
          have hoX := hbb.trans (bX3.mono hbb.size)
          have hwX3 := hwb.trans (bX3.mono hwb.size)
          have ka3 := KA.out.below hoX KA.out.lt
          have kp3 := KP2.out.below hoX KP2.out.lt
          have kq3 := KQ2.out.below hoX KQ2.out.lt
          have om3 := own_below OM2.out hoX
          have ow3 := own_below OW2.out hoX
          have hqa3 := HQA.out.below hoX
          obtain ⟨bb, hbbe⟩ : ∃ bb, wb.heap.size = bb := ⟨_, rfl⟩
          rw [hbbe] at kX3
          have HQc := Lib.hid hqc; have HQC := Lib.hid (hqC.below bX3); have KB := Lib.hid kX3; have KA3 := Lib.hid ka3; have KP3 := Lib.hid kp3; have KQ3 := Lib.hid kq3; have OM3 := Lib.hid om3; have OW3 := Lib.hid ow3; have HW3 := Lib.hid hwX3; have HQA3 := Lib.hid hqa3; have Hct2 := Lib.hid hct; have Hnc := Lib.hid hnc; have Hmc := Lib.hid hmc
          clear hqc hqC kX3 ka3 kp3 kq3 om3 ow3 hwX3 hqa3 hct hnc hmc hbb o1 o2 sm sf hcc hwb hpc bX3 hoX HP2 HQA KA KP2 KQ2 OM2 OW2 HW2
          go_upto_region 23 with fail
          rw [← hX3]
          (try rw [hbbe])
          clear hX3 hbbe
          have q0 : X3.cell? ⟨qb, 0, none⟩ = some (.slice A k c) := KQ3.out.cell 0
          have q1 : X3.cell? ⟨qb, 1, none⟩ = some (.slice none 0 0) := KQ3.out.cell 1
          have p0 : X3.cell? ⟨pb, 0, none⟩ = some (.slice none 0 0) := KP3.out.cell 0
          have p1 : X3.cell? ⟨pb, 1, none⟩ = some (.slice FA k fc) := KP3.out.cell 1
          have hqM := limM_at OM3.out
          have hqF := limF_at OW3.out
          have HQM := Lib.hid hqM; have HQF := Lib.hid hqF
          clear hqM hqF
          by_cases h16 : 16 < k
          · have z3 : (16 : Int) < (k : Int) := by omega
            have e1 := HQa.out.2 h16
            have e2 := HQc.out.2 h16
            subst e1
            subst e2
            have hc1 := vCheck (limM k) A none k 0 c 0 X3 (HL.out.below HW3.out) HQM.out (by omega) (by omega)
            rw [limM_check, if_pos h16] at hc1
            have HC1 := Lib.hid hc1
            clear hc1
            go_wp2_with fail
            refine HC1.out.mono ?_
            rintro e w4 ⟨rfl, hb4⟩
            have hw4 := HW3.out.trans (hb4.mono HW3.out.size)
            have kp4 := KP3.out.below hb4 KP3.out.lt
            clear q0 q1 p0 p1
            have p0 : w4.cell? ⟨pb, 0, none⟩ = some (.slice none 0 0) := kp4.cell 0
            have p1 : w4.cell? ⟨pb, 1, none⟩ = some (.slice FA k fc) := kp4.cell 1
            have hc2 := vCheck (limF k) none FA 0 k 0 fc w4 (HL.out.below hw4) (HQF.out.below hb4) (by omega) (by omega)
            rw [limF_check, if_pos h16] at hc2
            have HC2 := Lib.hid hc2; have HW4 := Lib.hid hw4
            clear hc2 hw4 kp4 hb4
            go_wp2_with fail
            refine HC2.out.mono ?_
            rintro e w5 ⟨rfl, hb5⟩
            have H5 := Lib.hid (HW4.out.trans (hb5.mono HW4.out.size))
            clear hb5 p0 p1
            go_wp2
            go_ret
            exact ⟨rfl, H5.out⟩
          · have z3 : ¬ (16 : Int) < (k : Int) := by omega
            obtain ⟨e1, e2⟩ := HQa.out.1 (by omega)
            obtain ⟨e3, e4⟩ := HQc.out.1 (by omega)
            subst e1; subst e2; subst e3; subst e4
            have a0 : X3.cell? ⟨ab, 0, none⟩ = some (.slice MA na mc) := KA3.out.cell 0
            have a1 : X3.cell? ⟨ab, 1, none⟩ = some (.slice MF ma mfc) := KA3.out.cell 1
            have hs1 := gSame (limM k) (limM k) MA MF A none na ma mc mfc k 0 c 0 X3 HQA3.out HQM.out (by have := Hct.out; have := Hna.out; omega) (by have := Hct.out; have := Hma.out; omega)
            have HS1 := Lib.hid hs1
            clear hs1
            go_wp2_with fail
            refine HS1.out.mono ?_
            rintro e w4 hO
            obtain ⟨b, rfl, hb, hb4⟩ := hO
            obtain rfl : b = true := hb.2 rfl
            have hw4 := HW3.out.trans (hb4.mono HW3.out.size)
            have kp4 := KP3.out.below hb4 KP3.out.lt
            have kb4 := KB.out.below hb4 KB.out.lt
            have kq4 := KQ3.out.below hb4 KQ3.out.lt
            have ka4 := KA3.out.below hb4 KA3.out.lt
            clear q0 q1 p0 p1 a0 a1
            have p0 : w4.cell? ⟨pb, 0, none⟩ = some (.slice none 0 0) := kp4.cell 0
            have p1 : w4.cell? ⟨pb, 1, none⟩ = some (.slice FA k fc) := kp4.cell 1
            have b0 : w4.cell? ⟨bb, 0, none⟩ = some (.slice CA nc cc) := kb4.cell 0
            have b1 : w4.cell? ⟨bb, 1, none⟩ = some (.slice CF mc2 cfc) := kb4.cell 1
            have hs2 := gSame (limF k) (limF k) CA CF none FA nc mc2 cc cfc 0 k 0 fc w4 (HQC.out.below hb4) (HQF.out.below hb4) (by have := Hct2.out; have := Hnc.out; omega) (by have := Hct2.out; have := Hmc.out; omega)
            have HS2 := Lib.hid hs2; have HW4 := Lib.hid hw4; have KQ4 := Lib.hid kq4; have KA4 := Lib.hid ka4; have OM4 := Lib.hid (own_below OM3.out hb4)
            clear hs2 hw4 kp4 kb4 kq4 ka4 hb hb4 HS1
            go_wp2_with fail
            refine HS2.out.mono ?_
            rintro e w5 hO
            obtain ⟨b, rfl, hb, hb5⟩ := hO
            obtain rfl : b = true := hb.2 rfl
            have hw5 := HW4.out.trans (hb5.mono HW4.out.size)
            have kq5 := KQ4.out.below hb5 KQ4.out.lt
            have ka5 := KA4.out.below hb5 KA4.out.lt
            have HW5 := Lib.hid hw5; have KQ5 := Lib.hid kq5; have KA5 := Lib.hid ka5; have OM5 := Lib.hid (own_below OM4.out hb5)
            clear hw5 kq5 ka5 hb hb5 p0 p1 b0 b1 HS2 KQ4 KA4 OM4 HW4
            obtain ⟨L0, hL0⟩ : ∃ L0, (limS k ++ [125]).length = L0 := ⟨_, rfl⟩
            have hL082 : L0 ≤ 82 := by have := limS_len k; rw [← hL0, List.length_append, List.length_singleton]; omega
            have HL0 := Lib.hid hL0
            have zT1 : T1.size = L0 := by rw [HT1.out, str_size, hL0]
            have HzT1 := Lib.hid zT1
            clear hL0 zT1
            obtain ⟨TT, hTT, hTT1, hTT2⟩ : ∃ TT : Nat, (511 + (m : Int) % 3) = (TT : Int) ∧ 511 ≤ TT ∧ TT ≤ 513 := ⟨511 + m % 3, by omega, by omega, by omega⟩
            have HTT := Lib.hid hTT
            clear hTT
            go_wp2
            go_loopw [6] (fun v wr => ∃ (jj Z : Nat) (T : ByteArray), v = .string T ∧ Hid (T = ⟨((limS k ++ [125]) ++ List.replicate jj 32).toArray⟩) ∧ Hid (Z = L0 + jj) ∧ T.size = Z ∧ Z ≤ TT ∧ wr = w5) (fun v _ => 600 - szOf v)
            case atStart => exact ⟨0, L0, T1, rfl, Lib.hid (by rw [HT1.out, List.replicate_zero, List.append_nil]), Lib.hid rfl, HzT1.out, by omega, rfl⟩
            case round =>
              obtain ⟨jj, Z, T5, rfl, HT5, HZ, zT5, hZ, hwr⟩ := hrel
              obtain rfl : w5 = wr := hwr.symm
              by_cases hz : Z < TT
              · have z5 : (Z : Int) < 511 + (m : Int) % 3 := by rw [HTT.out]; omega
                have he : T5 ++ ⟨#[32]⟩ = ⟨((limS k ++ [125]) ++ List.replicate (jj + 1) 32).toArray⟩ := by
                  rw [HT5.out, List.replicate_succ', ← List.append_assoc]
                  exact bytes_app _ _
                have hsz : (T5 ++ ⟨#[32]⟩).size = Z + 1 := by rw [ByteArray.size_append, zT5]; rfl
                have HE := Lib.hid he; have HSz := Lib.hid hsz
                clear he hsz
                go_wp2
                go_roundw
                case rel => exact ⟨jj + 1, Z + 1, _, rfl, HE, Lib.hid (by have := HZ.out; omega), HSz.out, by omega, (by first | rfl | trivial)⟩
                case measure => simp only [szOf]; have h := HSz.out; omega
              · have z5 : ¬ (Z : Int) < 511 + (m : Int) % 3 := by rw [HTT.out]; omega
                have hpa := limM_parse k jj
                rw [HL0.out, ← HZ.out] at hpa
                have hp := vQParse ((limS k ++ [125]) ++ List.replicate jj 32) w5 (HL.out.below HW5.out) (by rw [List.length_append, HL0.out, List.length_replicate]; have := HZ.out; omega)
                rw [show str ((limS k ++ [125]) ++ List.replicate jj 32) = .string T5 by rw [HT5.out] <;> rfl] at hp
                have HP := Lib.hid hp; have HPa := Lib.hid hpa
                clear hp hpa
                go_wp2_with fail
                refine HP.out.mono ?_
                rintro e w6 ⟨V1, V2, qe, ke, rfl, hb6, o1, o2, sm, sf, hct, hce⟩
                have hw6 := HW5.out.trans (hb6.mono HW5.out.size)
                have ka6 := KA5.out.below hb6 KA5.out.lt
                have kq6 := KQ5.out.below hb6 KQ5.out.lt
                have om6 := own_below OM5.out hb6
                by_cases h512 : 512 < Z
                · have hpa := HPa.out
                  rw [if_pos h512] at hpa
                  obtain ⟨rfl, rfl, rfl, rfl⟩ : ke = 4 ∧ qe = ⟨[], []⟩ ∧ V1 = .slice none 0 0 ∧ V2 = .slice none 0 0 := by
                    rcases hce with ⟨h1, h2⟩ | ⟨h1, h2, h3, h4, h5⟩
                    · rw [hpa] at h2; cases h2
                    · rw [hpa] at h2; injection h2 with h2; exact ⟨h2.symm, h3, h4, h5⟩
                  obtain ⟨W, hW⟩ : ∃ W, W = (w6.setCell ⟨ab, 0, none⟩ (.slice none 0 0)).setCell ⟨ab, 1, none⟩ (.slice none 0 0) := ⟨_, rfl⟩
                  have bW : But [ab] w6 W := by rw [hW]; exact ((But.refl _ _).setCell (by simp) _).setCell (by simp) _
                  have kW : Blk W ab 25 [.slice none 0 0, .slice none 0 0] := by rw [hW]; exact (ka6.set_ 0 _).set_ 1 _
                  have hwW := hw6.trans (bW.below hw6.size fun x hx => by rw [List.mem_singleton] at hx; rw [hx]; exact Hab.out)
                  have a0 : w6.cell? ⟨ab, 0, none⟩ = some (.slice MA na mc) := ka6.cell 0
                  have a1 : w6.cell? ⟨ab, 1, none⟩ = some (.slice MF ma mfc) := ka6.cell 1
                  have af0 := ka6.frozen 0
                  have af1 := ka6.frozen 1
                  have hs := gSame ⟨[], []⟩ ⟨[], []⟩ none none none none 0 0 0 0 0 0 0 0 W ⟨Row.none_, Row.none_, rfl, rfl, by simp, by simp⟩ ⟨Row.none_, Row.none_, rfl, rfl, by simp, by simp⟩ (by omega) (by omega)
                  have z6 : (512 : Int) < (Z : Int) := by omega
                  have w0c : W.cell? ⟨ab, 0, none⟩ = some (.slice none 0 0) := kW.cell 0
                  have w1c : W.cell? ⟨ab, 1, none⟩ = some (.slice none 0 0) := kW.cell 1
                  have HS := Lib.hid hs; have HwW := Lib.hid hwW
                  clear hs hwW kW bW ka6 kq6 om6 hw6 hb6 o1 o2 sm sf hct hce hpa
                  go_upto_region 30 with fail
                  rw [← hW]
                  clear hW a0 a1 af0 af1
                  go_wp2_with fail
                  refine HS.out.mono ?_
                  rintro e w7 hO
                  obtain ⟨b, rfl, hb, hb7⟩ := hO
                  obtain rfl : b = true := hb.2 rfl
                  have H7 := Lib.hid (HwW.out.trans (hb7.mono HwW.out.size))
                  clear hb hb7 w0c w1c
                  go_wp2
                  go_ret
                  exact ⟨rfl, H7.out⟩
                · have hpa := HPa.out
                  rw [if_neg h512, if_neg (by omega)] at hpa
                  obtain ⟨rfl, rfl⟩ : ke = 0 ∧ qe = limM k := by
                    rcases hce with ⟨h1, h2⟩ | ⟨h1, h2, -⟩
                    · rw [hpa] at h2; injection h2 with h2; exact ⟨h1, h2.symm⟩
                    · rw [hpa] at h2; cases h2
                  obtain ⟨ne, hne⟩ : ∃ ne, (limM k).ms.length = ne := ⟨_, rfl⟩
                  obtain ⟨me, hme⟩ : ∃ me, (limM k).fs.length = me := ⟨_, rfl⟩
                  rw [hne] at o1
                  rw [hme] at o2
                  obtain ⟨EA, ec, rfl, -⟩ := own_form o1
                  obtain ⟨EF, efc, rfl, -⟩ := own_form o2
                  obtain ⟨W, hW⟩ : ∃ W, W = (w6.setCell ⟨ab, 0, none⟩ (.slice EA ne ec)).setCell ⟨ab, 1, none⟩ (.slice EF me efc) := ⟨_, rfl⟩
                  have bW : But [ab] w6 W := by rw [hW]; exact ((But.refl _ _).setCell (by simp) _).setCell (by simp) _
                  have kq1 : KeepM [25] w6 W := by rw [hW]; exact KeepM.setCell (KeepM.setCell (.refl _ w6) (p := ⟨ab, 0, none⟩) (show w6.heap[ab]? = _ from ka6) (by simp) _) (p := ⟨ab, 1, none⟩) (show (w6.setCell ⟨ab, 0, none⟩ (.slice EA ne ec)).heap[ab]? = _ from ka6.set_ 0 _) (by simp) _
                  have kW : Blk W ab 25 [.slice EA ne ec, .slice EF me efc] := by rw [hW]; exact (ka6.set_ 0 _).set_ 1 _
                  have hwW := hw6.trans (bW.below hw6.size fun x hx => by rw [List.mem_singleton] at hx; rw [hx]; exact Hab.out)
                  have a0 : w6.cell? ⟨ab, 0, none⟩ = some (.slice MA na mc) := ka6.cell 0
                  have a1 : w6.cell? ⟨ab, 1, none⟩ = some (.slice MF ma mfc) := ka6.cell 1
                  have af0 := ka6.frozen 0
                  have af1 := ka6.frozen 1
                  have hqW : QueryAt W EA ne EF me (limM k) := by
                    refine ⟨(Row.of_own (kq1.own o1 (by decide))).more (Nat.le_refl _), (Row.of_own (kq1.own o2 (by decide))).more (Nat.le_refl _), hne, hme, fun m hm => ?_, fun f hf => ?_⟩
                    · have := sm m hm; omega
                    · have := sf f hf; omega
                  have hqmW : QueryAt W A k none 0 (limM k) := limM_at (kq1.own om6 (by decide))
                  have hs := gSame (limM k) (limM k) EA EF A none ne me ec efc k 0 c 0 W hqW hqmW (by rw [← hne, (limM_size k).1]; omega) (by rw [← hme, (limM_size k).2]; omega)
                  have z6 : ¬ (512 : Int) < (Z : Int) := by omega
                  have w0c : W.cell? ⟨ab, 0, none⟩ = some (.slice EA ne ec) := kW.cell 0
                  have w1c : W.cell? ⟨ab, 1, none⟩ = some (.slice EF me efc) := kW.cell 1
                  have kqW := kq6.but bW (by have := HabQ.out; simp; omega)
                  have y0 : W.cell? ⟨qb, 0, none⟩ = some (.slice A k c) := kqW.cell 0
                  have y1 : W.cell? ⟨qb, 1, none⟩ = some (.slice none 0 0) := kqW.cell 1
                  have HS := Lib.hid hs; have HwW := Lib.hid hwW
                  clear hs hwW kW bW ka6 kq6 om6 hw6 hb6 o1 o2 sm sf hct hce hpa kq1 hqW hqmW kqW hne hme
                  go_upto_region 30 with fail
                  rw [← hW]
                  clear hW a0 a1 af0 af1
                  go_wp2_with fail
                  refine HS.out.mono ?_
                  rintro e w7 hO
                  obtain ⟨b, rfl, hb, hb7⟩ := hO
                  obtain rfl : b = true := hb.2 rfl
                  have H7 := Lib.hid (HwW.out.trans (hb7.mono HwW.out.size))
                  clear hb hb7 w0c w1c y0 y1
                  go_wp2
                  go_ret
                  exact ⟨rfl, H7.out⟩
end Go.Proofs.YtecejnilajbdpaaGreatDoor

