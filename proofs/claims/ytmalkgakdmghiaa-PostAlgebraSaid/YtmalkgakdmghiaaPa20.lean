import Derived.Test.YtmalkgakdmghiaaPa19
/-! layer 3: rest, Unpack -/
namespace Go.Proofs.Ytmalkgakdmghiaa
open Go.RowKit Garner

/-- a row of uint64 of the call's own -/
abbrev OwnU (w : World) (B : Nat) (v : Value) (l : List Nat) : Prop := w.ownsRow B 31 1 v l.length (l.map u64v)
theorem ownU_snoc {w : World} {B : Nat} {v : Value} {l : List Nat} {n : Nat} (h : w.ownsRow B 31 1 v (l.length + 1) (l.map u64v ++ [.int .u64 (n : Int)])) : OwnU w B v (l ++ [n]) := by
  simpa [OwnU, u64v] using h

set_option maxRecDepth 100000 in
set_option maxHeartbeats 4000000 in
theorem vRest (l : List Nat) (A : Option Addr) (c B base n M : Nat) (bd : Bs) (w : World) (v0 : Value) (zt : Int) (h2 : 2 ≤ l.length) (hl : l.length ≤ 65536) (hr : risingB l = true) (hn : ∀ n ∈ l, n < 18446744073709551616)
    (hown : OwnU w base v0 (l.take 1)) (hb : Bytes w B A bd.length bd) (hB : B ≤ base) (hbase : base ≤ w.heap.size) (hbd : bd = bodyN l) (hM : M = maxBits (gapsN l)) (hnl : n = l.length - 1) :
    Calls Try.prog 41 #[v0, .slice A bd.length c, .int .i64 n, .int .i64 M, .int .i64 zt] w fun e w' => ∃ v, e = .returned (.tuple #[v, .int .i64 zt, .int .i64 0]) ∧ OwnU w' base v l ∧ Below base w w' := by
  have hM64 : M ≤ 64 := by rw [hM]; exact maxBits_le64 fun d hd => gap_lt hn hd
  have hNs : bd.length = (n * M + 7) / 8 := by rw [hbd, bodyN_len, hnl, hM]; rfl
  have hnM : n * M ≤ 65536 * 64 := Nat.mul_le_mul (by omega) hM64
  have hnn : n ≤ 65536 := by omega
  have Hn := Lib.hid hn; clear hn
  have Hr := Lib.hid hr; clear hr
  have HM := Lib.hid hM; clear hM
  have Hbd := Lib.hid hbd; clear hbd
  have HNs := Lib.hid hNs; clear hNs
  have Hnl := Lib.hid hnl; clear hnl
  have HnM := Lib.hid hnM; clear hnM
  go_enter Try.func41, Try.ntmps41
  go_wp2_with fail
  go_loopw [0, 13, 18] (fun v m i wr => ∃ k : Nat, k ≤ n ∧ i = .int .i64 k ∧ m = .int .i64 (maxBits ((gapsN l).take k) : Nat) ∧ OwnU wr base v (l.take (k + 1)) ∧ Below base w wr) (fun _ _ i _ => n - (intOf i).toNat)
  case atStart => exact ⟨0, by omega, rfl, rfl, hown, Below.refl _ _⟩
  case round =>
    obtain ⟨k, hk, rfl, rfl, own, hbel⟩ := hrel
    obtain ⟨wo, rfl⟩ : ∃ wo : World, wo = wr := ⟨_, rfl⟩
    have hb' := hb.below (hbel.mono hB)
    have sB := hbel.size
    by_cases hlt : k < n
    · have hkl : k + 1 < l.length := by have := Hnl.out; omega
      obtain ⟨m, hm⟩ : ∃ m : Nat, m = k * M := ⟨_, rfl⟩
      have hmM : m + M ≤ 8 * bd.length := by
        have h1 : (k + 1) * M ≤ n * M := Nat.mul_le_mul_right _ hlt
        rw [Nat.add_mul, Nat.one_mul] at h1
        have := HNs.out; omega
      have w1 : IntKind.i64.wrap ((k : Int) * (M : Int)) = (m : Int) := by
        have : m ≤ 65536 * 64 := by rw [hm]; exact Nat.mul_le_mul (by omega) hM64
        rw [show (k : Int) * (M : Int) = ((k * M : Nat) : Int) by simp, ← hm, IntKind.wrap_i64]; omega
      have Hm := Lib.hid hm; clear hm
      have HmM := Lib.hid hmM; clear hmM
      have own' : wo.ownsRow base 31 1 u0 (k + 1) ((l.take (k + 1)).map u64v) := by
        have := own
        unfold OwnU at this
        rwa [List.length_take, Nat.min_eq_left (by omega)] at this
      obtain ⟨A0, k0, rfl, hk0⟩ := own_form own'
      obtain ⟨q, rfl, hqB, hq, -, -, hcell⟩ := own_at own' (by omega)
      obtain ⟨x, hx⟩ : ∃ x, x = l[k]?.getD 0 := ⟨_, rfl⟩
      obtain ⟨y, hy⟩ : ∃ y, y = l[k + 1]?.getD 0 := ⟨_, rfl⟩
      have c0 : wo.cell? ⟨q, k, none⟩ = some (.int .u64 (x : Int)) := by
        rw [hcell k (by omega), List.getElem?_map, List.getElem?_take, if_pos (by omega), hx, List.getElem?_eq_getElem (by omega)]; rfl
      have hxy : x < y := by
        have := rising_at Hr.out k hkl
        rw [hx, hy, List.getElem?_eq_getElem (by omega), List.getElem?_eq_getElem hkl]
        exact this
      have hy64 : (y : Int) < 18446744073709551616 := by
        have := Hn.out y (by rw [hy, List.getElem?_eq_getElem (by omega)]; exact List.getElem_mem _)
        omega
      obtain ⟨g, hg⟩ : ∃ g : Nat, g = y - x - 1 := ⟨_, rfl⟩
      obtain ⟨s, hs⟩ : ∃ s : Nat, s = x + g := ⟨_, rfl⟩
      have hget : getN bd m M = g := by
        rw [Hbd.out, Hm.out, HM.out, body_get Hn.out hkl, hg, hx, hy, List.getElem?_eq_getElem (show k < l.length by omega), List.getElem?_eq_getElem hkl]; rfl
      have u1 : IntKind.u64.wrap ((x : Int) + (g : Int)) = (s : Int) := by rw [IntKind.wrap_u64]; omega
      have u2 : IntKind.u64.wrap ((s : Int) + 1) = (y : Int) := by rw [IntKind.wrap_u64]; omega
      have u3 : ¬ (y : Int) ≤ (x : Int) := by omega
      have u4 : ¬ (g : Int) = 18446744073709551615 := by omega
      have gB : (g : Int) ≤ 18446744073709551615 := by omega
      have GB := Lib.hid gB; clear gB
      have Hx := Lib.hid hx; clear hx
      have Hy := Lib.hid hy; clear hy
      have Hg := Lib.hid hg; clear hg
      have Hs := Lib.hid hs; clear hs
      have Hxy := Lib.hid (And.intro hxy hy64); clear hxy hy64
      clear hcell
      go_wp2_with fail
      refine (vPkGet bd A c B _ m M _ _ rfl rfl hb' hM64 HmM.out (by have := HNs.out; have := HnM.out; omega)).mono ?_
      rintro e w2 ⟨rfl, hw2⟩
      obtain rfl : wo = w2 := hw2.symm
      rw [hget]
      clear hw2 hget
      have k1 : (0 : Int) ≤ (k : Int) := by omega
      have k2 : (k : Int) < ((k + 1 : Nat) : Int) := by omega
      go_wp2_with fail
      · rename_i hno
        exact absurd hno fun h => h.elim (fun h => by omega) fun h => u4 (eq_of_beq h)
      refine (Try.bits_Len64 (g : Int) wo (by omega) GB.out).mono ?_
      rintro e w2 ⟨rfl, hw2⟩
      obtain rfl : wo = w2 := hw2.symm
      clear hw2
      rw [Int.toNat_natCast]
      go_wp2_with (at_builtin; refine wpList_app _ rfl u64E rfl rfl (own'.alloc _) rfl (row_new wo _ [_]) (by simp [Value.oneCell']) (by simp; omega) (by simp; omega) ?_; intro v3 w3 own3 _ hbb3 _)
      go_roundw
      case rel =>
        have hx := Hx.out; have hy := Hy.out; have hg := Hg.out
        have hgap : (gapsN l)[k]? = some g := by
          rw [gapsN_at l k hkl, hg, hx, hy, List.getElem?_eq_getElem (show k < l.length by omega), List.getElem?_eq_getElem hkl]; rfl
        obtain ⟨hj1, hj2⟩ := List.getElem?_eq_some_iff.1 hgap
        refine ⟨k + 1, by omega, by simp, ?_, ?_, (hbel.alloc (by omega) _).trans hbb3⟩
        · rw [maxBits_take hj1, hj2]
          congr 1; omega
        · rw [List.take_succ_eq_append_getElem hkl, show l[k + 1] = y by rw [hy, List.getElem?_eq_getElem hkl]; rfl]
          apply ownU_snoc
          rw [List.length_take, Nat.min_eq_left (by omega)]
          exact own3
      case measure => simp [intOf]; omega
    · have hkn : k = n := by omega
      have hmb : maxBits ((gapsN l).take k) = M := by
        rw [List.take_of_length_le (by rw [gapsN_len]; have := Hnl.out; omega)]; exact HM.out.symm
      rw [hmb, hkn]
      obtain ⟨m, hm⟩ : ∃ m : Nat, m = n * M := ⟨_, rfl⟩
      have hmM : m ≤ 65536 * 64 := by rw [hm]; exact HnM.out
      have hN8 : bd.length = (m + 7) / 8 := by rw [hm]; exact HNs.out
      obtain ⟨r, hr⟩ : ∃ r : Nat, r = bd.length * 8 - m := ⟨_, rfl⟩
      have w1 : IntKind.i64.wrap ((n : Int) * (M : Int)) = (m : Int) := by
        rw [show (n : Int) * (M : Int) = ((n * M : Nat) : Int) by simp, ← hm, IntKind.wrap_i64]; omega
      obtain ⟨N, hN⟩ : ∃ N : Nat, N = bd.length * 8 := ⟨_, rfl⟩
      have w2 : IntKind.i64.wrap ((bd.length : Int) * 8) = (N : Int) := by rw [IntKind.wrap_i64]; omega
      have w3 : IntKind.i64.wrap ((N : Int) - (m : Int)) = (r : Int) := by rw [IntKind.wrap_i64]; omega
      have hz : getN bd m r = 0 := by rw [Hbd.out, hm, Hnl.out, HM.out]; exact body_rest Hn.out r
      have Hfacts := Lib.hid (And.intro hN8 (And.intro hr (And.intro hN hmM))); clear hN8 hr hN hmM
      have Hm := Lib.hid hm; clear hm
      have Hz := Lib.hid hz; clear hz
      go_wp2_with fail
      refine (vPkGet bd A c B _ m r _ _ rfl rfl hb' (by have := Hfacts.out; omega) (by have := Hfacts.out; omega) (by have := Hfacts.out; omega)).mono ?_
      rintro e w5 ⟨rfl, hw5⟩
      obtain rfl : wo = w5 := hw5.symm
      rw [Hz.out]
      go_wp2
      go_ret3
      refine ⟨_, rfl, ?_, hbel⟩
      rw [List.take_of_length_le (by have := Hnl.out; omega)] at own
      exact own
end Go.Proofs.Ytmalkgakdmghiaa
