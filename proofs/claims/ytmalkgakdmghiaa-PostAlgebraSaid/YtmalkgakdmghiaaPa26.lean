import Derived.Test.YtmalkgakdmghiaaPa23
import Derived.Test.YtmalkgakdmghiaaPa15
/-! slices.Sort at []uint64, 5: breakPatterns (printed by gen_sd5.py) -/
namespace Garner
open Go Go.Sort
def bpSt (a L M idx : Nat) (d0 : Array Nat) : Nat → UInt64 × Array Nat
  | 0 => (UInt64.ofNat L, d0)
  | t + 1 => breakStep a L M (bpSt a L M idx d0 t) (idx + t)
end Garner
namespace Go.Proofs.Ytmalkgakdmghiaa
open Go.RowKit Go.Sort Garner

/-- the row, and the random number's box -/
structure SrtX (w : World) (B g n c : Nat) (d : Array Nat) (q : Nat) (r : UInt64) : Prop where
  row : Srt w B g n c d
  box : Blk w q 84 [.int .u64 (r.toNat : Nat)]
theorem SrtX.ne {w : World} {B g n c q : Nat} {d : Array Nat} {r : UInt64} (h : SrtX w B g n c d q r) : q ≠ g := fun e => own_blk h.row.own h.box (by decide) (by rw [e]; simp [Value.ownBlock])
theorem SrtX.drew {w : World} {B g n c q : Nat} {d : Array Nat} {r : UInt64} (h : SrtX w B g n c d q r) : SrtX w.drew B g n c d q r := ⟨h.row.drew, h.box⟩
theorem SrtX.set {w : World} {B g n c q : Nat} {d : Array Nat} {r : UInt64} (h : SrtX w B g n c d q r) (r' : UInt64) : SrtX ((w.setCell ⟨q, 0, none⟩ (.int .u64 (r'.toNat : Nat))).drewN 3) B g n c d q r' :=
  ⟨⟨h.row.sz, ownsRow_setCell_other h.row.own (a := ⟨q, 0, none⟩) (fun e => h.ne (by simpa [Value.ownBlock] using e.symm)) _⟩, h.box.set_ 0 _⟩
theorem SrtX.swp {w : World} {B g n c q i j : Nat} {d : Array Nat} {r : UInt64} (h : SrtX w B g n c d q r) : SrtX ((w.setCell ⟨g, i, none⟩ (.int .u64 ((d[j]! : Nat) : Int))).setCell ⟨g, j, none⟩ (.int .u64 ((d[i]! : Nat) : Int))) B g n c (Sort.swp d i j) q r :=
  ⟨h.row.swp, (h.box.far (p := ⟨g, i, none⟩) h.ne _).far (p := ⟨g, j, none⟩) h.ne _⟩

set_option maxRecDepth 100000 in
set_option maxHeartbeats 16000000 in
theorem vBreak (d0 : Array Nat) (B g n c a b : Nat) (w : World) (h0 : Srt w B g n c d0) (hab : a + 8 ≤ b) (hb : b ≤ n) (hn : n ≤ 140737488355328) :
    Calls Try.prog 45 #[.slice (some ⟨g, 0, none⟩) n c, .int .i64 a, .int .i64 b] w fun e w' => e = .returned (.tuple #[]) ∧ Srt w' B g n c (breakPatterns d0 a b) ∧ But [w.heap.size, g] w w' := by
  obtain ⟨L, hL⟩ : ∃ L, L = b - a := ⟨_, rfl⟩
  obtain ⟨M, hM⟩ : ∃ M : Nat, M = 1 <<< bitsLen L := ⟨_, rfl⟩
  have hM1 : 1 ≤ M := by rw [hM, Nat.one_shiftLeft]; exact Nat.two_pow_pos _
  have hM2 : M ≤ 2 * L := by rw [hM, Nat.one_shiftLeft]; exact two_pow_bitsLen_le (by omega)
  obtain ⟨l4, hl4⟩ : ∃ l4, l4 = L / 4 := ⟨_, rfl⟩
  obtain ⟨idx, hidx⟩ : ∃ idx, idx = a + (L / 4) * 2 - 1 := ⟨_, rfl⟩
  obtain ⟨top, htop⟩ : ∃ top, top = a + 2 * l4 := ⟨_, rfl⟩
  have hti : top = idx + 1 := by omega
  have w1 : IntKind.i64.wrap ((b : Int) - (a : Int)) = (L : Int) := by rw [IntKind.wrap_i64]; omega
  have w2 : IntKind.i64.wrap ((L : Int) / 4) = (l4 : Int) := by rw [IntKind.wrap_i64]; omega
  have w4 : IntKind.i64.wrap ((l4 : Int) * 2) = ((2 * l4 : Nat) : Int) := by rw [IntKind.wrap_i64]; omega
  have w5 : IntKind.i64.wrap ((a : Int) + 2 * (l4 : Int)) = (top : Int) := by rw [IntKind.wrap_i64]; omega
  have w6 : IntKind.i64.wrap ((top : Int) - 1) = (idx : Int) := by rw [IntKind.wrap_i64]; omega
  have w7 : IntKind.i64.wrap ((top : Int) + 1) = ((idx + 2 : Nat) : Int) := by rw [IntKind.wrap_i64]; omega
  have w8 : IntKind.u64.wrap (L : Int) = (L : Int) := by rw [IntKind.wrap_u64]; omega
  have wM : IntKind.u64.wrap ((M : Int) - 1) = ((M - 1 : Nat) : Int) := by rw [IntKind.wrap_u64]; omega
  have hl8 : (8 : Int) ≤ (L : Int) := by omega
  have hfin : (bpSt a L M idx d0 3).2 = breakPatterns d0 a b := by
    unfold breakPatterns
    simp only
    rw [← hL, if_pos (show L ≥ 8 by omega), ← hM, ← hidx]
    rfl
  have hNP : ∀ w, Calls Try.prog 54 #[.int .i64 (L : Int)] w fun e w' => e = .returned (.int .u64 (M : Int)) ∧ w' = w := by rw [hM]; exact fun w => AnyF.nextPowerOfTwo Try.ePow L (by omega) w
  obtain ⟨q, hq⟩ : ∃ q, q = w.heap.size := ⟨_, rfl⟩
  obtain ⟨wB, hwB⟩ : ∃ wB, wB = w.alloc (.cells #[.int .u64 (L : Int)] 84) := ⟨_, rfl⟩
  have hLN : (UInt64.ofNat L).toNat = L := by simp; omega
  have hSX : SrtX wB B g n c d0 q (UInt64.ofNat L) := by
    rw [hwB]
    exact ⟨⟨h0.sz, h0.own.alloc _⟩, by rw [hq, hLN]; exact Blk.new w 84 [.int .u64 (L : Int)]⟩
  have hbB : But [q, g] w wB := by rw [hwB]; exact (But.refl _ _).alloc _
  rw [← hq]
  have HwB := Lib.hid hwB; clear hwB
  have Hq := Lib.hid hq; clear hq
  have Hfin := Lib.hid hfin; clear hfin
  have HNP := Lib.hid hNP; clear hNP
  have HM := Lib.hid hM; clear hM
  have HL := Lib.hid hL; clear hL
  have Hl4 := Lib.hid hl4; clear hl4
  have Hidx := Lib.hid hidx; clear hidx
  have Htop := Lib.hid htop; clear htop
  have Hti := Lib.hid hti; clear hti
  have hib : a ≤ idx ∧ idx + 3 ≤ n ∧ a + L ≤ n := by have := Hidx.out; have := HL.out; omega
  have HLN := Lib.hid hLN; clear hLN
  go_enter Try.func45, Try.ntmps45
  go_wp2_with fail
  rw [← Hq.out, ← HwB.out]
  refine (HNP.out wB).mono ?_
  rintro e w1 ⟨rfl, rfl⟩
  go_wp2
  go_loopw [9] (fun vi wr => ∃ (t : Nat) (r : UInt64) (d : Array Nat), t ≤ 3 ∧ vi = .int .i64 ((idx + t : Nat) : Int) ∧ SrtX wr B g n c d q r ∧ Hid ((r, d) = bpSt a L M idx d0 t) ∧ But [q, g] w wr) (fun vi _ => idx + 3 - (intOf vi).toNat)
  case atStart => exact ⟨0, _, d0, by omega, by simp, hSX, Lib.hid rfl, hbB⟩
  case round =>
    obtain ⟨t, r, d, ht, rfl, hd, hst, hbut⟩ := hrel
    obtain ⟨wo, rfl⟩ : ∃ wo : World, wo = wr := ⟨_, rfl⟩
    obtain ⟨ix, hix⟩ : ∃ ix, ix = idx + t := ⟨_, rfl⟩
    rw [← hix]
    by_cases ht3 : t = 3
    · subst ht3
      have lx : ¬ (ix : Int) ≤ ((idx + 2 : Nat) : Int) := by omega
      have lx' : ¬ (ix : Int) ≤ (idx : Int) + 2 := by omega
      have Hix := Lib.hid hix; clear hix
      go_wp2
      go_end0
      refine ⟨rfl, ?_, hbut⟩
      rw [← Hfin.out, ← hst.out]; exact hd.row
    · have lx : (ix : Int) ≤ ((idx + 2 : Nat) : Int) := by omega
      have lx' : (ix : Int) ≤ (idx : Int) + 2 := by omega
      have lxn : (ix : Int) < (n : Int) := by omega
      have wx : IntKind.i64.wrap ((ix : Int) + 1) = ((ix + 1 : Nat) : Int) := by rw [IntKind.wrap_i64]; omega
      have Hix := Lib.hid hix; clear hix
      obtain ⟨R', hR'⟩ : ∃ R' : Nat, R' = (xorNext r).toNat := ⟨_, rfl⟩
      have lR' : R' < 18446744073709551616 := by rw [hR']; exact (xorNext r).toNat_lt
      obtain ⟨O, hO⟩ : ∃ O : Nat, O = R' &&& (M - 1) := ⟨_, rfl⟩
      have lO : O ≤ M - 1 := by rw [hO]; exact Nat.and_le_right
      have eAnd : bits .and .u64 (R' : Int) ((M - 1 : Nat) : Int) = (O : Int) := by rw [bits_and_u64_nat _ _ lR' (by omega), hO]
      have eAnd' : bits .and .u64 (R' : Int) ((M : Int) - 1) = (O : Int) := by rw [show ((M : Int) - 1) = ((M - 1 : Nat) : Int) by omega]; exact eAnd
      have wO : IntKind.i64.wrap (O : Int) = (O : Int) := by rw [IntKind.wrap_i64]; omega
      have hoo : ∀ z, z = (if O ≥ L then O - L else O) → z = (if (xorNext r).toNat &&& (M - 1) ≥ L then ((xorNext r).toNat &&& (M - 1)) - L else (xorNext r).toNat &&& (M - 1)) := fun z h => by rw [h, hO, hR']
      have Hoo0 := Lib.hid hoo; clear hoo
      have hNext : Calls Try.prog 55 #[.pointer (some ⟨q, 0, none⟩)] wo fun e w' => e = .returned (.int .u64 (R' : Int)) ∧ w' = (wo.setCell ⟨q, 0, none⟩ (.int .u64 (R' : Int))).drewN 3 := by
        rw [hR', xorNext_toNat]
        exact AnyF.xorshift_Next Try.eXor q 0 r.toNat r.toNat_lt wo (hd.box.cell 0) (hd.box.frozen 0)
      obtain ⟨wp, hwp⟩ : ∃ wp, wp = (wo.setCell ⟨q, 0, none⟩ (.int .u64 (R' : Int))).drewN 3 := ⟨_, rfl⟩
      have hd4 : SrtX wp B g n c d q (xorNext r) := by rw [hwp, hR']; exact hd.set (xorNext r)
      have hbutp : But [q, g] w wp := by
        have h9 := hbut.setCell (p := ⟨q, 0, none⟩) (by simp) (.int .u64 (R' : Int))
        rw [hwp]; exact ⟨h9.os, h9.tape, h9.output, h9.size, h9.block⟩
      rw [← hwp] at hNext
      have HNext := Lib.hid hNext; clear hNext
      have Hwp := Lib.hid hwp; clear hwp
      have HR' := Lib.hid hR'; clear hR'
      have HO := Lib.hid hO; clear hO
      go_wp2_with fail
      refine HNext.out.mono ?_
      rintro e wz ⟨rfl, hwz⟩
      obtain rfl : wp = wz := hwz.symm
      by_cases hOL : L ≤ O
      · have hOL' : (L : Int) ≤ (O : Int) := by omega
        obtain ⟨oo, hoo⟩ : ∃ oo, oo = O - L := ⟨_, rfl⟩
        have wS : IntKind.i64.wrap ((O : Int) - (L : Int)) = (oo : Int) := by rw [IntKind.wrap_i64]; omega
        have hool : oo < L := by omega
        have Hoo := Lib.hid (Hoo0.out oo (by rw [if_pos hOL]; exact hoo)); clear hoo
        go_upto_region 10 with fail
        obtain ⟨i3, hi3⟩ : ∃ i3, i3 = a + oo := ⟨_, rfl⟩
        have w9 : IntKind.i64.wrap ((a : Int) + (oo : Int)) = (i3 : Int) := by rw [IntKind.wrap_i64]; omega
        have l3 : (i3 : Int) < (n : Int) := by omega
        obtain ⟨x, hx⟩ : ∃ x, x = d[ix]! := ⟨_, rfl⟩
        obtain ⟨y, hy⟩ : ∃ y, y = d[i3]! := ⟨_, rfl⟩
        have ca : wp.cell? ⟨g, ix, none⟩ = some (.int .u64 (x : Int)) := by rw [hx]; exact hd4.row.cell (by omega)
        have cb : wp.cell? ⟨g, i3, none⟩ = some (.int .u64 (y : Int)) := by rw [hy]; exact hd4.row.cell (by omega)
        have fa := hd4.row.frozen ix
        have fb := hd4.row.frozen i3
        by_cases hne : ix = i3
        · have hxy : x = y := by rw [hx, hy, hne]
          subst hne
          subst hxy
          have Hx := Lib.hid hx; clear hx
          have Hy := Lib.hid hy; clear hy cb fb
          have Hi3 := Lib.hid hi3; clear hi3
          refine wp_region_N (fun _ => True) 100 (by kernel_rfl) ?_
          apply wpAnyN_takeL 0 (by kernel_rfl) rfl (fun _ _ _ h => h) (by kernel_rfl) trivial
          · intro w' hS'
            go_simp; exact ⟨rfl, rfl⟩
          (try simp only [Act.put]); (try simp only [List.setIfInBounds_toArray]); (try simp only [List.set])
          apply wpAnyN_takeL 1 (by kernel_rfl) rfl (fun _ _ _ h => h) (by kernel_rfl) trivial
          · intro w' hS'
            go_simp; exact ⟨rfl, rfl⟩
          (try simp only [Act.put]); (try simp only [List.setIfInBounds_toArray]); (try simp only [List.set])
          apply wpAnyN_takeL 2 (by kernel_rfl) rfl (fun _ _ _ h => h) (by kernel_rfl) trivial
          · intro w' hS'
            go_simp; exact ⟨rfl, rfl⟩
          (try simp only [Act.put]); (try simp only [List.setIfInBounds_toArray]); (try simp only [List.set])
          apply wpAnyN_takeL 3 (by kernel_rfl) rfl (fun _ _ _ h => h) (by kernel_rfl) trivial
          · intro w' hS'
            go_simp; exact ⟨rfl, rfl⟩
          (try simp only [Act.put]); (try simp only [List.setIfInBounds_toArray]); (try simp only [List.set])
          apply wpAnyN_takeL 4 (by kernel_rfl) rfl (fun _ _ _ h => h) (by kernel_rfl) trivial
          · intro w' hS'
            go_simp; exact ⟨rfl, rfl⟩
          (try simp only [Act.put]); (try simp only [List.setIfInBounds_toArray]); (try simp only [List.set])
          apply wpAnyN_takeL 5 (by kernel_rfl) rfl (fun _ _ _ h => h) (by kernel_rfl) trivial
          · intro w' hS'
            go_simp; exact ⟨rfl, rfl⟩
          (try simp only [Act.put]); (try simp only [List.setIfInBounds_toArray]); (try simp only [List.set])
          apply wpAnyN_takeL 6 (by kernel_rfl) rfl (fun _ _ _ h => h) (by kernel_rfl) trivial
          · intro w' hS'
            go_simp; exact ⟨rfl, rfl⟩
          (try simp only [Act.put]); (try simp only [List.setIfInBounds_toArray]); (try simp only [List.set])
          apply wpAnyN_takeL 7 (by kernel_rfl) rfl (fun _ _ _ h => h) (by kernel_rfl) trivial
          · intro w' hS'
            go_simp; exact ⟨rfl, rfl⟩
          (try simp only [Act.put]); (try simp only [List.setIfInBounds_toArray]); (try simp only [List.set])
          apply wpAnyN_takeL 8 (by kernel_rfl) rfl (fun _ _ _ h => h) (by kernel_rfl) trivial
          · intro w' hS'
            go_simp; exact ⟨rfl, rfl⟩
          (try simp only [Act.put]); (try simp only [List.setIfInBounds_toArray]); (try simp only [List.set])
          apply wpAnyN_takeL 9 (by kernel_rfl) rfl (fun _ _ _ h => h) (by kernel_rfl) trivial
          · intro w' hS'
            go_simp; exact ⟨rfl, rfl⟩
          (try simp only [Act.put]); (try simp only [List.setIfInBounds_toArray]); (try simp only [List.set])
          apply wpAnyN_takeL 10 (by kernel_rfl) rfl (fun _ _ _ h => h) (by kernel_rfl) trivial
          · intro w' hS'
            go_simp; exact ⟨rfl, rfl⟩
          (try simp only [Act.put]); (try simp only [List.setIfInBounds_toArray]); (try simp only [List.set])
          apply wpAnyN_takeL 12 (by kernel_rfl) rfl (fun _ _ _ h => h) (by kernel_rfl) trivial
          · intro w' hS'
            go_simp; exact ⟨rfl, rfl⟩
          (try simp only [Act.put]); (try simp only [List.setIfInBounds_toArray]); (try simp only [List.set])
          apply wpAnyN_takeL 13 (by kernel_rfl) rfl (fun _ _ _ h => h) (by kernel_rfl) trivial
          · intro w' hS'
            go_simp; exact ⟨rfl, rfl⟩
          (try simp only [Act.put]); (try simp only [List.setIfInBounds_toArray]); (try simp only [List.set])
          apply wpAnyN_takeL 14 (by kernel_rfl) rfl (fun _ _ _ h => h) (by kernel_rfl) trivial
          · intro w' hS'
            go_simp; exact ⟨rfl, rfl⟩
          (try simp only [Act.put]); (try simp only [List.setIfInBounds_toArray]); (try simp only [List.set])
          refine wpAnyN_two 11 15 (by kernel_rfl) rfl (by kernel_rfl) rfl (by kernel_rfl) (fun K hK => ?_) (fun K hK => ?_)
          · go_simp
            refine hK _ _ (fun _ => trivial) ?_
            clear hK K
            (try simp only [Act.put]); (try simp only [List.setIfInBounds_toArray]); (try simp only [List.set])
            refine wpAnyN_runL 15 (by kernel_rfl) rfl (by kernel_rfl) (fun K hK => ?_)
            go_simp
            refine hK _ _ (fun _ => trivial) ?_
            clear hK K
            (try simp only [Act.put]); (try simp only [List.setIfInBounds_toArray]); (try simp only [List.set])
            refine wpAnyN_runL 16 (by kernel_rfl) rfl (by kernel_rfl) (fun K hK => ?_)
            go_simp
            refine hK _ _ (fun _ => trivial) ?_
            clear hK K
            (try simp only [Act.put]); (try simp only [List.setIfInBounds_toArray]); (try simp only [List.set])
            refine wpAnyN_runL 17 (by kernel_rfl) rfl (by kernel_rfl) (fun K hK => ?_)
            go_simp
            refine hK _ _ (fun _ => trivial) ?_
            clear hK K
            (try simp only [Act.put]); (try simp only [List.setIfInBounds_toArray]); (try simp only [List.set])
            refine wpAnyN_runL 18 (by kernel_rfl) rfl (by kernel_rfl) (fun K hK => ?_)
            go_simp
            refine hK _ _ (fun _ => trivial) ?_
            clear hK K
            (try simp only [Act.put]); (try simp only [List.setIfInBounds_toArray]); (try simp only [List.set])
            refine wpAnyN_runL 19 (by kernel_rfl) rfl (by kernel_rfl) (fun K hK => ?_)
            go_simp
            refine hK _ _ (fun _ => trivial) ?_
            clear hK K
            (try simp only [Act.put]); (try simp only [List.setIfInBounds_toArray]); (try simp only [List.set])
            refine wpAnyN_done (by kernel_rfl) ?_ _
            obtain ⟨w5, hw5⟩ : ∃ w5, w5 = (wp.setCell ⟨g, ix, none⟩ (.int .u64 (x : Int))).setCell ⟨g, ix, none⟩ (.int .u64 (x : Int)) := ⟨_, rfl⟩
            have hd5 : SrtX w5.drew B g n c (Sort.swp d ix ix) q (xorNext r) := by rw [hw5, Hx.out]; exact (hd4.swp).drew
            have hbut5 : But [q, g] w w5.drew := by rw [hw5]; exact ((hbutp.setCell (p := ⟨g, ix, none⟩) (by simp) _).setCell (p := ⟨g, ix, none⟩) (by simp) _).drew
            have Hw5 := Lib.hid hw5; clear hw5
            go_wp2_with fail
            rw [← Hw5.out]
            refine ⟨⟨t + 1, xorNext r, _, by omega, by have := Hix.out; simp; omega, hd5, Lib.hid ?_, hbut5⟩, by simp [intOf]; omega⟩
            rw [bpSt, ← hst.out]
            show _ = (xorNext r, Sort.swp d (idx + t) (a + _))
            rw [← Hoo.out, ← Hi3.out, ← Hix.out]
          · go_simp
            refine hK _ _ (fun _ => trivial) ?_
            clear hK K
            (try simp only [Act.put]); (try simp only [List.setIfInBounds_toArray]); (try simp only [List.set])
            refine wpAnyN_runL 11 (by kernel_rfl) rfl (by kernel_rfl) (fun K hK => ?_)
            go_simp
            refine hK _ _ (fun _ => trivial) ?_
            clear hK K
            (try simp only [Act.put]); (try simp only [List.setIfInBounds_toArray]); (try simp only [List.set])
            refine wpAnyN_runL 16 (by kernel_rfl) rfl (by kernel_rfl) (fun K hK => ?_)
            go_simp
            refine hK _ _ (fun _ => trivial) ?_
            clear hK K
            (try simp only [Act.put]); (try simp only [List.setIfInBounds_toArray]); (try simp only [List.set])
            refine wpAnyN_runL 17 (by kernel_rfl) rfl (by kernel_rfl) (fun K hK => ?_)
            go_simp
            refine hK _ _ (fun _ => trivial) ?_
            clear hK K
            (try simp only [Act.put]); (try simp only [List.setIfInBounds_toArray]); (try simp only [List.set])
            refine wpAnyN_runL 18 (by kernel_rfl) rfl (by kernel_rfl) (fun K hK => ?_)
            go_simp
            refine hK _ _ (fun _ => trivial) ?_
            clear hK K
            (try simp only [Act.put]); (try simp only [List.setIfInBounds_toArray]); (try simp only [List.set])
            refine wpAnyN_runL 19 (by kernel_rfl) rfl (by kernel_rfl) (fun K hK => ?_)
            go_simp
            refine hK _ _ (fun _ => trivial) ?_
            clear hK K
            (try simp only [Act.put]); (try simp only [List.setIfInBounds_toArray]); (try simp only [List.set])
            refine wpAnyN_done (by kernel_rfl) ?_ _
            obtain ⟨w5, hw5⟩ : ∃ w5, w5 = (wp.setCell ⟨g, ix, none⟩ (.int .u64 (x : Int))).setCell ⟨g, ix, none⟩ (.int .u64 (x : Int)) := ⟨_, rfl⟩
            have hd5 : SrtX w5.drew B g n c (Sort.swp d ix ix) q (xorNext r) := by rw [hw5, Hx.out]; exact (hd4.swp).drew
            have hbut5 : But [q, g] w w5.drew := by rw [hw5]; exact ((hbutp.setCell (p := ⟨g, ix, none⟩) (by simp) _).setCell (p := ⟨g, ix, none⟩) (by simp) _).drew
            have Hw5 := Lib.hid hw5; clear hw5
            go_wp2_with fail
            rw [← Hw5.out]
            refine ⟨⟨t + 1, xorNext r, _, by omega, by have := Hix.out; simp; omega, hd5, Lib.hid ?_, hbut5⟩, by simp [intOf]; omega⟩
            rw [bpSt, ← hst.out]
            show _ = (xorNext r, Sort.swp d (idx + t) (a + _))
            rw [← Hoo.out, ← Hi3.out, ← Hix.out]
        · have Hx := Lib.hid hx; clear hx
          have Hy := Lib.hid hy; clear hy
          have Hi3 := Lib.hid hi3; clear hi3
          refine wp_region_N (fun _ => True) 100 (by kernel_rfl) ?_
          apply wpAnyN_takeL 0 (by kernel_rfl) rfl (fun _ _ _ h => h) (by kernel_rfl) trivial
          · intro w' hS'
            go_simp; exact ⟨rfl, rfl⟩
          (try simp only [Act.put]); (try simp only [List.setIfInBounds_toArray]); (try simp only [List.set])
          apply wpAnyN_takeL 1 (by kernel_rfl) rfl (fun _ _ _ h => h) (by kernel_rfl) trivial
          · intro w' hS'
            go_simp; exact ⟨rfl, rfl⟩
          (try simp only [Act.put]); (try simp only [List.setIfInBounds_toArray]); (try simp only [List.set])
          apply wpAnyN_takeL 2 (by kernel_rfl) rfl (fun _ _ _ h => h) (by kernel_rfl) trivial
          · intro w' hS'
            go_simp; exact ⟨rfl, rfl⟩
          (try simp only [Act.put]); (try simp only [List.setIfInBounds_toArray]); (try simp only [List.set])
          apply wpAnyN_takeL 3 (by kernel_rfl) rfl (fun _ _ _ h => h) (by kernel_rfl) trivial
          · intro w' hS'
            go_simp; exact ⟨rfl, rfl⟩
          (try simp only [Act.put]); (try simp only [List.setIfInBounds_toArray]); (try simp only [List.set])
          apply wpAnyN_takeL 4 (by kernel_rfl) rfl (fun _ _ _ h => h) (by kernel_rfl) trivial
          · intro w' hS'
            go_simp; exact ⟨rfl, rfl⟩
          (try simp only [Act.put]); (try simp only [List.setIfInBounds_toArray]); (try simp only [List.set])
          apply wpAnyN_takeL 5 (by kernel_rfl) rfl (fun _ _ _ h => h) (by kernel_rfl) trivial
          · intro w' hS'
            go_simp; exact ⟨rfl, rfl⟩
          (try simp only [Act.put]); (try simp only [List.setIfInBounds_toArray]); (try simp only [List.set])
          apply wpAnyN_takeL 6 (by kernel_rfl) rfl (fun _ _ _ h => h) (by kernel_rfl) trivial
          · intro w' hS'
            go_simp; exact ⟨rfl, rfl⟩
          (try simp only [Act.put]); (try simp only [List.setIfInBounds_toArray]); (try simp only [List.set])
          apply wpAnyN_takeL 7 (by kernel_rfl) rfl (fun _ _ _ h => h) (by kernel_rfl) trivial
          · intro w' hS'
            go_simp; exact ⟨rfl, rfl⟩
          (try simp only [Act.put]); (try simp only [List.setIfInBounds_toArray]); (try simp only [List.set])
          apply wpAnyN_takeL 8 (by kernel_rfl) rfl (fun _ _ _ h => h) (by kernel_rfl) trivial
          · intro w' hS'
            go_simp; exact ⟨rfl, rfl⟩
          (try simp only [Act.put]); (try simp only [List.setIfInBounds_toArray]); (try simp only [List.set])
          apply wpAnyN_takeL 9 (by kernel_rfl) rfl (fun _ _ _ h => h) (by kernel_rfl) trivial
          · intro w' hS'
            go_simp; exact ⟨rfl, rfl⟩
          (try simp only [Act.put]); (try simp only [List.setIfInBounds_toArray]); (try simp only [List.set])
          apply wpAnyN_takeL 10 (by kernel_rfl) rfl (fun _ _ _ h => h) (by kernel_rfl) trivial
          · intro w' hS'
            go_simp; exact ⟨rfl, rfl⟩
          (try simp only [Act.put]); (try simp only [List.setIfInBounds_toArray]); (try simp only [List.set])
          apply wpAnyN_takeL 12 (by kernel_rfl) rfl (fun _ _ _ h => h) (by kernel_rfl) trivial
          · intro w' hS'
            go_simp; exact ⟨rfl, rfl⟩
          (try simp only [Act.put]); (try simp only [List.setIfInBounds_toArray]); (try simp only [List.set])
          apply wpAnyN_takeL 13 (by kernel_rfl) rfl (fun _ _ _ h => h) (by kernel_rfl) trivial
          · intro w' hS'
            go_simp; exact ⟨rfl, rfl⟩
          (try simp only [Act.put]); (try simp only [List.setIfInBounds_toArray]); (try simp only [List.set])
          apply wpAnyN_takeL 14 (by kernel_rfl) rfl (fun _ _ _ h => h) (by kernel_rfl) trivial
          · intro w' hS'
            go_simp; exact ⟨rfl, rfl⟩
          (try simp only [Act.put]); (try simp only [List.setIfInBounds_toArray]); (try simp only [List.set])
          refine wpAnyN_two 11 15 (by kernel_rfl) rfl (by kernel_rfl) rfl (by kernel_rfl) (fun K hK => ?_) (fun K hK => ?_)
          · go_simp
            refine hK _ _ (fun _ => trivial) ?_
            clear hK K
            (try simp only [Act.put]); (try simp only [List.setIfInBounds_toArray]); (try simp only [List.set])
            refine wpAnyN_runL 15 (by kernel_rfl) rfl (by kernel_rfl) (fun K hK => ?_)
            go_simp
            refine hK _ _ (fun _ => trivial) ?_
            clear hK K
            (try simp only [Act.put]); (try simp only [List.setIfInBounds_toArray]); (try simp only [List.set])
            refine wpAnyN_runL 16 (by kernel_rfl) rfl (by kernel_rfl) (fun K hK => ?_)
            go_simp
            refine hK _ _ (fun _ => trivial) ?_
            clear hK K
            (try simp only [Act.put]); (try simp only [List.setIfInBounds_toArray]); (try simp only [List.set])
            refine wpAnyN_runL 17 (by kernel_rfl) rfl (by kernel_rfl) (fun K hK => ?_)
            go_simp
            refine hK _ _ (fun _ => trivial) ?_
            clear hK K
            (try simp only [Act.put]); (try simp only [List.setIfInBounds_toArray]); (try simp only [List.set])
            refine wpAnyN_runL 18 (by kernel_rfl) rfl (by kernel_rfl) (fun K hK => ?_)
            go_simp
            refine hK _ _ (fun _ => trivial) ?_
            clear hK K
            (try simp only [Act.put]); (try simp only [List.setIfInBounds_toArray]); (try simp only [List.set])
            refine wpAnyN_runL 19 (by kernel_rfl) rfl (by kernel_rfl) (fun K hK => ?_)
            go_simp
            refine hK _ _ (fun _ => trivial) ?_
            clear hK K
            (try simp only [Act.put]); (try simp only [List.setIfInBounds_toArray]); (try simp only [List.set])
            refine wpAnyN_done (by kernel_rfl) ?_ _
            obtain ⟨w5, hw5⟩ : ∃ w5, w5 = (wp.setCell ⟨g, ix, none⟩ (.int .u64 (y : Int))).setCell ⟨g, i3, none⟩ (.int .u64 (x : Int)) := ⟨_, rfl⟩
            have hd5 : SrtX w5.drew B g n c (Sort.swp d ix i3) q (xorNext r) := by rw [hw5, Hx.out, Hy.out]; exact (hd4.swp).drew
            have hbut5 : But [q, g] w w5.drew := by rw [hw5]; exact ((hbutp.setCell (p := ⟨g, ix, none⟩) (by simp) _).setCell (p := ⟨g, i3, none⟩) (by simp) _).drew
            have Hw5 := Lib.hid hw5; clear hw5
            go_wp2_with fail
            rw [← Hw5.out]
            refine ⟨⟨t + 1, xorNext r, _, by omega, by have := Hix.out; simp; omega, hd5, Lib.hid ?_, hbut5⟩, by simp [intOf]; omega⟩
            rw [bpSt, ← hst.out]
            show _ = (xorNext r, Sort.swp d (idx + t) (a + _))
            rw [← Hoo.out, ← Hi3.out, ← Hix.out]
          · go_simp
            refine hK _ _ (fun _ => trivial) ?_
            clear hK K
            (try simp only [Act.put]); (try simp only [List.setIfInBounds_toArray]); (try simp only [List.set])
            refine wpAnyN_runL 11 (by kernel_rfl) rfl (by kernel_rfl) (fun K hK => ?_)
            go_simp
            refine hK _ _ (fun _ => trivial) ?_
            clear hK K
            (try simp only [Act.put]); (try simp only [List.setIfInBounds_toArray]); (try simp only [List.set])
            refine wpAnyN_runL 16 (by kernel_rfl) rfl (by kernel_rfl) (fun K hK => ?_)
            go_simp
            refine hK _ _ (fun _ => trivial) ?_
            clear hK K
            (try simp only [Act.put]); (try simp only [List.setIfInBounds_toArray]); (try simp only [List.set])
            refine wpAnyN_runL 17 (by kernel_rfl) rfl (by kernel_rfl) (fun K hK => ?_)
            go_simp
            refine hK _ _ (fun _ => trivial) ?_
            clear hK K
            (try simp only [Act.put]); (try simp only [List.setIfInBounds_toArray]); (try simp only [List.set])
            refine wpAnyN_runL 18 (by kernel_rfl) rfl (by kernel_rfl) (fun K hK => ?_)
            go_simp
            refine hK _ _ (fun _ => trivial) ?_
            clear hK K
            (try simp only [Act.put]); (try simp only [List.setIfInBounds_toArray]); (try simp only [List.set])
            refine wpAnyN_runL 19 (by kernel_rfl) rfl (by kernel_rfl) (fun K hK => ?_)
            go_simp
            refine hK _ _ (fun _ => trivial) ?_
            clear hK K
            (try simp only [Act.put]); (try simp only [List.setIfInBounds_toArray]); (try simp only [List.set])
            refine wpAnyN_done (by kernel_rfl) ?_ _
            obtain ⟨w5, hw5⟩ : ∃ w5, w5 = (wp.setCell ⟨g, ix, none⟩ (.int .u64 (y : Int))).setCell ⟨g, i3, none⟩ (.int .u64 (x : Int)) := ⟨_, rfl⟩
            have hd5 : SrtX w5.drew B g n c (Sort.swp d ix i3) q (xorNext r) := by rw [hw5, Hx.out, Hy.out]; exact (hd4.swp).drew
            have hbut5 : But [q, g] w w5.drew := by rw [hw5]; exact ((hbutp.setCell (p := ⟨g, ix, none⟩) (by simp) _).setCell (p := ⟨g, i3, none⟩) (by simp) _).drew
            have Hw5 := Lib.hid hw5; clear hw5
            go_wp2_with fail
            rw [← Hw5.out]
            refine ⟨⟨t + 1, xorNext r, _, by omega, by have := Hix.out; simp; omega, hd5, Lib.hid ?_, hbut5⟩, by simp [intOf]; omega⟩
            rw [bpSt, ← hst.out]
            show _ = (xorNext r, Sort.swp d (idx + t) (a + _))
            rw [← Hoo.out, ← Hi3.out, ← Hix.out]
      · have hOL' : ¬ (L : Int) ≤ (O : Int) := by omega
        obtain ⟨oo, hoo⟩ : ∃ oo, oo = O := ⟨_, rfl⟩
        have Hoo := Lib.hid (Hoo0.out oo (by rw [if_neg hOL]; exact hoo))
        subst hoo
        have hool : oo < L := by omega
        go_upto_region 10 with fail
        obtain ⟨i3, hi3⟩ : ∃ i3, i3 = a + oo := ⟨_, rfl⟩
        have w9 : IntKind.i64.wrap ((a : Int) + (oo : Int)) = (i3 : Int) := by rw [IntKind.wrap_i64]; omega
        have l3 : (i3 : Int) < (n : Int) := by omega
        obtain ⟨x, hx⟩ : ∃ x, x = d[ix]! := ⟨_, rfl⟩
        obtain ⟨y, hy⟩ : ∃ y, y = d[i3]! := ⟨_, rfl⟩
        have ca : wp.cell? ⟨g, ix, none⟩ = some (.int .u64 (x : Int)) := by rw [hx]; exact hd4.row.cell (by omega)
        have cb : wp.cell? ⟨g, i3, none⟩ = some (.int .u64 (y : Int)) := by rw [hy]; exact hd4.row.cell (by omega)
        have fa := hd4.row.frozen ix
        have fb := hd4.row.frozen i3
        by_cases hne : ix = i3
        · have hxy : x = y := by rw [hx, hy, hne]
          subst hne
          subst hxy
          have Hx := Lib.hid hx; clear hx
          have Hy := Lib.hid hy; clear hy cb fb
          have Hi3 := Lib.hid hi3; clear hi3
          refine wp_region_N (fun _ => True) 100 (by kernel_rfl) ?_
          apply wpAnyN_takeL 0 (by kernel_rfl) rfl (fun _ _ _ h => h) (by kernel_rfl) trivial
          · intro w' hS'
            go_simp; exact ⟨rfl, rfl⟩
          (try simp only [Act.put]); (try simp only [List.setIfInBounds_toArray]); (try simp only [List.set])
          apply wpAnyN_takeL 1 (by kernel_rfl) rfl (fun _ _ _ h => h) (by kernel_rfl) trivial
          · intro w' hS'
            go_simp; exact ⟨rfl, rfl⟩
          (try simp only [Act.put]); (try simp only [List.setIfInBounds_toArray]); (try simp only [List.set])
          apply wpAnyN_takeL 2 (by kernel_rfl) rfl (fun _ _ _ h => h) (by kernel_rfl) trivial
          · intro w' hS'
            go_simp; exact ⟨rfl, rfl⟩
          (try simp only [Act.put]); (try simp only [List.setIfInBounds_toArray]); (try simp only [List.set])
          apply wpAnyN_takeL 3 (by kernel_rfl) rfl (fun _ _ _ h => h) (by kernel_rfl) trivial
          · intro w' hS'
            go_simp; exact ⟨rfl, rfl⟩
          (try simp only [Act.put]); (try simp only [List.setIfInBounds_toArray]); (try simp only [List.set])
          apply wpAnyN_takeL 4 (by kernel_rfl) rfl (fun _ _ _ h => h) (by kernel_rfl) trivial
          · intro w' hS'
            go_simp; exact ⟨rfl, rfl⟩
          (try simp only [Act.put]); (try simp only [List.setIfInBounds_toArray]); (try simp only [List.set])
          apply wpAnyN_takeL 5 (by kernel_rfl) rfl (fun _ _ _ h => h) (by kernel_rfl) trivial
          · intro w' hS'
            go_simp; exact ⟨rfl, rfl⟩
          (try simp only [Act.put]); (try simp only [List.setIfInBounds_toArray]); (try simp only [List.set])
          apply wpAnyN_takeL 6 (by kernel_rfl) rfl (fun _ _ _ h => h) (by kernel_rfl) trivial
          · intro w' hS'
            go_simp; exact ⟨rfl, rfl⟩
          (try simp only [Act.put]); (try simp only [List.setIfInBounds_toArray]); (try simp only [List.set])
          apply wpAnyN_takeL 7 (by kernel_rfl) rfl (fun _ _ _ h => h) (by kernel_rfl) trivial
          · intro w' hS'
            go_simp; exact ⟨rfl, rfl⟩
          (try simp only [Act.put]); (try simp only [List.setIfInBounds_toArray]); (try simp only [List.set])
          apply wpAnyN_takeL 8 (by kernel_rfl) rfl (fun _ _ _ h => h) (by kernel_rfl) trivial
          · intro w' hS'
            go_simp; exact ⟨rfl, rfl⟩
          (try simp only [Act.put]); (try simp only [List.setIfInBounds_toArray]); (try simp only [List.set])
          apply wpAnyN_takeL 9 (by kernel_rfl) rfl (fun _ _ _ h => h) (by kernel_rfl) trivial
          · intro w' hS'
            go_simp; exact ⟨rfl, rfl⟩
          (try simp only [Act.put]); (try simp only [List.setIfInBounds_toArray]); (try simp only [List.set])
          apply wpAnyN_takeL 10 (by kernel_rfl) rfl (fun _ _ _ h => h) (by kernel_rfl) trivial
          · intro w' hS'
            go_simp; exact ⟨rfl, rfl⟩
          (try simp only [Act.put]); (try simp only [List.setIfInBounds_toArray]); (try simp only [List.set])
          apply wpAnyN_takeL 12 (by kernel_rfl) rfl (fun _ _ _ h => h) (by kernel_rfl) trivial
          · intro w' hS'
            go_simp; exact ⟨rfl, rfl⟩
          (try simp only [Act.put]); (try simp only [List.setIfInBounds_toArray]); (try simp only [List.set])
          apply wpAnyN_takeL 13 (by kernel_rfl) rfl (fun _ _ _ h => h) (by kernel_rfl) trivial
          · intro w' hS'
            go_simp; exact ⟨rfl, rfl⟩
          (try simp only [Act.put]); (try simp only [List.setIfInBounds_toArray]); (try simp only [List.set])
          apply wpAnyN_takeL 14 (by kernel_rfl) rfl (fun _ _ _ h => h) (by kernel_rfl) trivial
          · intro w' hS'
            go_simp; exact ⟨rfl, rfl⟩
          (try simp only [Act.put]); (try simp only [List.setIfInBounds_toArray]); (try simp only [List.set])
          refine wpAnyN_two 11 15 (by kernel_rfl) rfl (by kernel_rfl) rfl (by kernel_rfl) (fun K hK => ?_) (fun K hK => ?_)
          · go_simp
            refine hK _ _ (fun _ => trivial) ?_
            clear hK K
            (try simp only [Act.put]); (try simp only [List.setIfInBounds_toArray]); (try simp only [List.set])
            refine wpAnyN_runL 15 (by kernel_rfl) rfl (by kernel_rfl) (fun K hK => ?_)
            go_simp
            refine hK _ _ (fun _ => trivial) ?_
            clear hK K
            (try simp only [Act.put]); (try simp only [List.setIfInBounds_toArray]); (try simp only [List.set])
            refine wpAnyN_runL 16 (by kernel_rfl) rfl (by kernel_rfl) (fun K hK => ?_)
            go_simp
            refine hK _ _ (fun _ => trivial) ?_
            clear hK K
            (try simp only [Act.put]); (try simp only [List.setIfInBounds_toArray]); (try simp only [List.set])
            refine wpAnyN_runL 17 (by kernel_rfl) rfl (by kernel_rfl) (fun K hK => ?_)
            go_simp
            refine hK _ _ (fun _ => trivial) ?_
            clear hK K
            (try simp only [Act.put]); (try simp only [List.setIfInBounds_toArray]); (try simp only [List.set])
            refine wpAnyN_runL 18 (by kernel_rfl) rfl (by kernel_rfl) (fun K hK => ?_)
            go_simp
            refine hK _ _ (fun _ => trivial) ?_
            clear hK K
            (try simp only [Act.put]); (try simp only [List.setIfInBounds_toArray]); (try simp only [List.set])
            refine wpAnyN_runL 19 (by kernel_rfl) rfl (by kernel_rfl) (fun K hK => ?_)
            go_simp
            refine hK _ _ (fun _ => trivial) ?_
            clear hK K
            (try simp only [Act.put]); (try simp only [List.setIfInBounds_toArray]); (try simp only [List.set])
            refine wpAnyN_done (by kernel_rfl) ?_ _
            obtain ⟨w5, hw5⟩ : ∃ w5, w5 = (wp.setCell ⟨g, ix, none⟩ (.int .u64 (x : Int))).setCell ⟨g, ix, none⟩ (.int .u64 (x : Int)) := ⟨_, rfl⟩
            have hd5 : SrtX w5.drew B g n c (Sort.swp d ix ix) q (xorNext r) := by rw [hw5, Hx.out]; exact (hd4.swp).drew
            have hbut5 : But [q, g] w w5.drew := by rw [hw5]; exact ((hbutp.setCell (p := ⟨g, ix, none⟩) (by simp) _).setCell (p := ⟨g, ix, none⟩) (by simp) _).drew
            have Hw5 := Lib.hid hw5; clear hw5
            go_wp2_with fail
            rw [← Hw5.out]
            refine ⟨⟨t + 1, xorNext r, _, by omega, by have := Hix.out; simp; omega, hd5, Lib.hid ?_, hbut5⟩, by simp [intOf]; omega⟩
            rw [bpSt, ← hst.out]
            show _ = (xorNext r, Sort.swp d (idx + t) (a + _))
            rw [← Hoo.out, ← Hi3.out, ← Hix.out]
          · go_simp
            refine hK _ _ (fun _ => trivial) ?_
            clear hK K
            (try simp only [Act.put]); (try simp only [List.setIfInBounds_toArray]); (try simp only [List.set])
            refine wpAnyN_runL 11 (by kernel_rfl) rfl (by kernel_rfl) (fun K hK => ?_)
            go_simp
            refine hK _ _ (fun _ => trivial) ?_
            clear hK K
            (try simp only [Act.put]); (try simp only [List.setIfInBounds_toArray]); (try simp only [List.set])
            refine wpAnyN_runL 16 (by kernel_rfl) rfl (by kernel_rfl) (fun K hK => ?_)
            go_simp
            refine hK _ _ (fun _ => trivial) ?_
            clear hK K
            (try simp only [Act.put]); (try simp only [List.setIfInBounds_toArray]); (try simp only [List.set])
            refine wpAnyN_runL 17 (by kernel_rfl) rfl (by kernel_rfl) (fun K hK => ?_)
            go_simp
            refine hK _ _ (fun _ => trivial) ?_
            clear hK K
            (try simp only [Act.put]); (try simp only [List.setIfInBounds_toArray]); (try simp only [List.set])
            refine wpAnyN_runL 18 (by kernel_rfl) rfl (by kernel_rfl) (fun K hK => ?_)
            go_simp
            refine hK _ _ (fun _ => trivial) ?_
            clear hK K
            (try simp only [Act.put]); (try simp only [List.setIfInBounds_toArray]); (try simp only [List.set])
            refine wpAnyN_runL 19 (by kernel_rfl) rfl (by kernel_rfl) (fun K hK => ?_)
            go_simp
            refine hK _ _ (fun _ => trivial) ?_
            clear hK K
            (try simp only [Act.put]); (try simp only [List.setIfInBounds_toArray]); (try simp only [List.set])
            refine wpAnyN_done (by kernel_rfl) ?_ _
            obtain ⟨w5, hw5⟩ : ∃ w5, w5 = (wp.setCell ⟨g, ix, none⟩ (.int .u64 (x : Int))).setCell ⟨g, ix, none⟩ (.int .u64 (x : Int)) := ⟨_, rfl⟩
            have hd5 : SrtX w5.drew B g n c (Sort.swp d ix ix) q (xorNext r) := by rw [hw5, Hx.out]; exact (hd4.swp).drew
            have hbut5 : But [q, g] w w5.drew := by rw [hw5]; exact ((hbutp.setCell (p := ⟨g, ix, none⟩) (by simp) _).setCell (p := ⟨g, ix, none⟩) (by simp) _).drew
            have Hw5 := Lib.hid hw5; clear hw5
            go_wp2_with fail
            rw [← Hw5.out]
            refine ⟨⟨t + 1, xorNext r, _, by omega, by have := Hix.out; simp; omega, hd5, Lib.hid ?_, hbut5⟩, by simp [intOf]; omega⟩
            rw [bpSt, ← hst.out]
            show _ = (xorNext r, Sort.swp d (idx + t) (a + _))
            rw [← Hoo.out, ← Hi3.out, ← Hix.out]
        · have Hx := Lib.hid hx; clear hx
          have Hy := Lib.hid hy; clear hy
          have Hi3 := Lib.hid hi3; clear hi3
          refine wp_region_N (fun _ => True) 100 (by kernel_rfl) ?_
          apply wpAnyN_takeL 0 (by kernel_rfl) rfl (fun _ _ _ h => h) (by kernel_rfl) trivial
          · intro w' hS'
            go_simp; exact ⟨rfl, rfl⟩
          (try simp only [Act.put]); (try simp only [List.setIfInBounds_toArray]); (try simp only [List.set])
          apply wpAnyN_takeL 1 (by kernel_rfl) rfl (fun _ _ _ h => h) (by kernel_rfl) trivial
          · intro w' hS'
            go_simp; exact ⟨rfl, rfl⟩
          (try simp only [Act.put]); (try simp only [List.setIfInBounds_toArray]); (try simp only [List.set])
          apply wpAnyN_takeL 2 (by kernel_rfl) rfl (fun _ _ _ h => h) (by kernel_rfl) trivial
          · intro w' hS'
            go_simp; exact ⟨rfl, rfl⟩
          (try simp only [Act.put]); (try simp only [List.setIfInBounds_toArray]); (try simp only [List.set])
          apply wpAnyN_takeL 3 (by kernel_rfl) rfl (fun _ _ _ h => h) (by kernel_rfl) trivial
          · intro w' hS'
            go_simp; exact ⟨rfl, rfl⟩
          (try simp only [Act.put]); (try simp only [List.setIfInBounds_toArray]); (try simp only [List.set])
          apply wpAnyN_takeL 4 (by kernel_rfl) rfl (fun _ _ _ h => h) (by kernel_rfl) trivial
          · intro w' hS'
            go_simp; exact ⟨rfl, rfl⟩
          (try simp only [Act.put]); (try simp only [List.setIfInBounds_toArray]); (try simp only [List.set])
          apply wpAnyN_takeL 5 (by kernel_rfl) rfl (fun _ _ _ h => h) (by kernel_rfl) trivial
          · intro w' hS'
            go_simp; exact ⟨rfl, rfl⟩
          (try simp only [Act.put]); (try simp only [List.setIfInBounds_toArray]); (try simp only [List.set])
          apply wpAnyN_takeL 6 (by kernel_rfl) rfl (fun _ _ _ h => h) (by kernel_rfl) trivial
          · intro w' hS'
            go_simp; exact ⟨rfl, rfl⟩
          (try simp only [Act.put]); (try simp only [List.setIfInBounds_toArray]); (try simp only [List.set])
          apply wpAnyN_takeL 7 (by kernel_rfl) rfl (fun _ _ _ h => h) (by kernel_rfl) trivial
          · intro w' hS'
            go_simp; exact ⟨rfl, rfl⟩
          (try simp only [Act.put]); (try simp only [List.setIfInBounds_toArray]); (try simp only [List.set])
          apply wpAnyN_takeL 8 (by kernel_rfl) rfl (fun _ _ _ h => h) (by kernel_rfl) trivial
          · intro w' hS'
            go_simp; exact ⟨rfl, rfl⟩
          (try simp only [Act.put]); (try simp only [List.setIfInBounds_toArray]); (try simp only [List.set])
          apply wpAnyN_takeL 9 (by kernel_rfl) rfl (fun _ _ _ h => h) (by kernel_rfl) trivial
          · intro w' hS'
            go_simp; exact ⟨rfl, rfl⟩
          (try simp only [Act.put]); (try simp only [List.setIfInBounds_toArray]); (try simp only [List.set])
          apply wpAnyN_takeL 10 (by kernel_rfl) rfl (fun _ _ _ h => h) (by kernel_rfl) trivial
          · intro w' hS'
            go_simp; exact ⟨rfl, rfl⟩
          (try simp only [Act.put]); (try simp only [List.setIfInBounds_toArray]); (try simp only [List.set])
          apply wpAnyN_takeL 12 (by kernel_rfl) rfl (fun _ _ _ h => h) (by kernel_rfl) trivial
          · intro w' hS'
            go_simp; exact ⟨rfl, rfl⟩
          (try simp only [Act.put]); (try simp only [List.setIfInBounds_toArray]); (try simp only [List.set])
          apply wpAnyN_takeL 13 (by kernel_rfl) rfl (fun _ _ _ h => h) (by kernel_rfl) trivial
          · intro w' hS'
            go_simp; exact ⟨rfl, rfl⟩
          (try simp only [Act.put]); (try simp only [List.setIfInBounds_toArray]); (try simp only [List.set])
          apply wpAnyN_takeL 14 (by kernel_rfl) rfl (fun _ _ _ h => h) (by kernel_rfl) trivial
          · intro w' hS'
            go_simp; exact ⟨rfl, rfl⟩
          (try simp only [Act.put]); (try simp only [List.setIfInBounds_toArray]); (try simp only [List.set])
          refine wpAnyN_two 11 15 (by kernel_rfl) rfl (by kernel_rfl) rfl (by kernel_rfl) (fun K hK => ?_) (fun K hK => ?_)
          · go_simp
            refine hK _ _ (fun _ => trivial) ?_
            clear hK K
            (try simp only [Act.put]); (try simp only [List.setIfInBounds_toArray]); (try simp only [List.set])
            refine wpAnyN_runL 15 (by kernel_rfl) rfl (by kernel_rfl) (fun K hK => ?_)
            go_simp
            refine hK _ _ (fun _ => trivial) ?_
            clear hK K
            (try simp only [Act.put]); (try simp only [List.setIfInBounds_toArray]); (try simp only [List.set])
            refine wpAnyN_runL 16 (by kernel_rfl) rfl (by kernel_rfl) (fun K hK => ?_)
            go_simp
            refine hK _ _ (fun _ => trivial) ?_
            clear hK K
            (try simp only [Act.put]); (try simp only [List.setIfInBounds_toArray]); (try simp only [List.set])
            refine wpAnyN_runL 17 (by kernel_rfl) rfl (by kernel_rfl) (fun K hK => ?_)
            go_simp
            refine hK _ _ (fun _ => trivial) ?_
            clear hK K
            (try simp only [Act.put]); (try simp only [List.setIfInBounds_toArray]); (try simp only [List.set])
            refine wpAnyN_runL 18 (by kernel_rfl) rfl (by kernel_rfl) (fun K hK => ?_)
            go_simp
            refine hK _ _ (fun _ => trivial) ?_
            clear hK K
            (try simp only [Act.put]); (try simp only [List.setIfInBounds_toArray]); (try simp only [List.set])
            refine wpAnyN_runL 19 (by kernel_rfl) rfl (by kernel_rfl) (fun K hK => ?_)
            go_simp
            refine hK _ _ (fun _ => trivial) ?_
            clear hK K
            (try simp only [Act.put]); (try simp only [List.setIfInBounds_toArray]); (try simp only [List.set])
            refine wpAnyN_done (by kernel_rfl) ?_ _
            obtain ⟨w5, hw5⟩ : ∃ w5, w5 = (wp.setCell ⟨g, ix, none⟩ (.int .u64 (y : Int))).setCell ⟨g, i3, none⟩ (.int .u64 (x : Int)) := ⟨_, rfl⟩
            have hd5 : SrtX w5.drew B g n c (Sort.swp d ix i3) q (xorNext r) := by rw [hw5, Hx.out, Hy.out]; exact (hd4.swp).drew
            have hbut5 : But [q, g] w w5.drew := by rw [hw5]; exact ((hbutp.setCell (p := ⟨g, ix, none⟩) (by simp) _).setCell (p := ⟨g, i3, none⟩) (by simp) _).drew
            have Hw5 := Lib.hid hw5; clear hw5
            go_wp2_with fail
            rw [← Hw5.out]
            refine ⟨⟨t + 1, xorNext r, _, by omega, by have := Hix.out; simp; omega, hd5, Lib.hid ?_, hbut5⟩, by simp [intOf]; omega⟩
            rw [bpSt, ← hst.out]
            show _ = (xorNext r, Sort.swp d (idx + t) (a + _))
            rw [← Hoo.out, ← Hi3.out, ← Hix.out]
          · go_simp
            refine hK _ _ (fun _ => trivial) ?_
            clear hK K
            (try simp only [Act.put]); (try simp only [List.setIfInBounds_toArray]); (try simp only [List.set])
            refine wpAnyN_runL 11 (by kernel_rfl) rfl (by kernel_rfl) (fun K hK => ?_)
            go_simp
            refine hK _ _ (fun _ => trivial) ?_
            clear hK K
            (try simp only [Act.put]); (try simp only [List.setIfInBounds_toArray]); (try simp only [List.set])
            refine wpAnyN_runL 16 (by kernel_rfl) rfl (by kernel_rfl) (fun K hK => ?_)
            go_simp
            refine hK _ _ (fun _ => trivial) ?_
            clear hK K
            (try simp only [Act.put]); (try simp only [List.setIfInBounds_toArray]); (try simp only [List.set])
            refine wpAnyN_runL 17 (by kernel_rfl) rfl (by kernel_rfl) (fun K hK => ?_)
            go_simp
            refine hK _ _ (fun _ => trivial) ?_
            clear hK K
            (try simp only [Act.put]); (try simp only [List.setIfInBounds_toArray]); (try simp only [List.set])
            refine wpAnyN_runL 18 (by kernel_rfl) rfl (by kernel_rfl) (fun K hK => ?_)
            go_simp
            refine hK _ _ (fun _ => trivial) ?_
            clear hK K
            (try simp only [Act.put]); (try simp only [List.setIfInBounds_toArray]); (try simp only [List.set])
            refine wpAnyN_runL 19 (by kernel_rfl) rfl (by kernel_rfl) (fun K hK => ?_)
            go_simp
            refine hK _ _ (fun _ => trivial) ?_
            clear hK K
            (try simp only [Act.put]); (try simp only [List.setIfInBounds_toArray]); (try simp only [List.set])
            refine wpAnyN_done (by kernel_rfl) ?_ _
            obtain ⟨w5, hw5⟩ : ∃ w5, w5 = (wp.setCell ⟨g, ix, none⟩ (.int .u64 (y : Int))).setCell ⟨g, i3, none⟩ (.int .u64 (x : Int)) := ⟨_, rfl⟩
            have hd5 : SrtX w5.drew B g n c (Sort.swp d ix i3) q (xorNext r) := by rw [hw5, Hx.out, Hy.out]; exact (hd4.swp).drew
            have hbut5 : But [q, g] w w5.drew := by rw [hw5]; exact ((hbutp.setCell (p := ⟨g, ix, none⟩) (by simp) _).setCell (p := ⟨g, i3, none⟩) (by simp) _).drew
            have Hw5 := Lib.hid hw5; clear hw5
            go_wp2_with fail
            rw [← Hw5.out]
            refine ⟨⟨t + 1, xorNext r, _, by omega, by have := Hix.out; simp; omega, hd5, Lib.hid ?_, hbut5⟩, by simp [intOf]; omega⟩
            rw [bpSt, ← hst.out]
            show _ = (xorNext r, Sort.swp d (idx + t) (a + _))
            rw [← Hoo.out, ← Hi3.out, ← Hix.out]
end Go.Proofs.Ytmalkgakdmghiaa
