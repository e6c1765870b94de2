import Derived.Test.YtmalkgakdmghiaaPa36
import Derived.Test.YtmalkgakdmghiaaPa20
import Derived.Test.YtmalkgakdmghiaaPa37
/-! slices at []uint64: of no element: Compact, IndexFunc, DeleteFunc -/
namespace Go.Proofs.Ytmalkgakdmghiaa
open Go.RowKit Go.Shelf Go.Lib Go.Sort Garner

theorem vCompact0 (A : Option Addr) (c : Nat) (w : World) :
    Calls Try.prog 28 #[.slice A 0 c] w fun e w' => e = .returned (.slice A 0 c) ∧ Below w.heap.size w w' := by
  go_enter Try.func28, Try.ntmps28
  go_wp2
  go_ret
  exact ⟨rfl, Below.refl _ _⟩
theorem vIndex0 (A : Option Addr) (c : Nat) (f : Value) (w : World) :
    Calls Try.prog 35 #[.slice A 0 c, f] w fun e w' => e = .returned (.int .i64 (-1)) ∧ Below w.heap.size w w' := by
  go_enter Try.func35, Try.ntmps35
  go_wp2
  refine wp_loop_rounds 1 ?_
  rw [rounds_succ]
  go_wp2
  go_ret
  exact ⟨rfl, Below.refl _ _⟩
theorem vDel0 (A : Option Addr) (c : Nat) (f : Value) (w : World) :
    Calls Try.prog 23 #[.slice A 0 c, f] w fun e w' => e = .returned (.slice A 0 c) ∧ Below w.heap.size w w' := by
  go_enter Try.func23, Try.ntmps23
  go_wp2_with fail
  refine (vIndex0 A c f w).mono ?_
  rintro e w1 ⟨rfl, hb1⟩
  go_wp2
  go_ret
  exact ⟨rfl, hb1⟩
end Go.Proofs.Ytmalkgakdmghiaa
/-! layer 3: Unpack -/
namespace Go.Proofs.Ytmalkgakdmghiaa
open Go.RowKit Garner

theorem ownU_lit (w : World) (B x : Nat) (h : B ≤ w.heap.size) : OwnU (w.alloc (.cells #[.int .u64 (x : Int)] 31)) B (.slice (some ⟨w.heap.size, 0, none⟩) 1 1) [x] :=
  ⟨by simp, .inr ⟨w.heap.size, 1, #[.int .u64 (x : Int)], rfl, h, Go.heap_alloc_new _ _, Nat.le_refl _, by simp [maxLen], by simp, by simp [u64v]⟩⟩
theorem take_one {l : List Nat} (h : 0 < l.length) : l.take 1 = [l[0]?.getD 0] := by
  match l, h with
  | x :: _, _ => rfl

set_option maxRecDepth 100000 in
set_option maxHeartbeats 4000000 in
theorem vUnpack (l : List Nat) (pre bb : Bs) (A : Option Addr) (c B : Nat) (w : World) (hbb : bb = pre ++ packB l) (h0 : l ≠ []) (hl : l.length ≤ 65536) (hr : risingB l = true) (hn : ∀ n ∈ l, n < 18446744073709551616)
    (hb : Bytes w B A bb.length bb) (hc : bb.length ≤ c) (hB : B ≤ w.heap.size) (hbl : bb.length ≤ 140737488355328) (zp : Int) (hzp : zp = (pre.length : Int)) :
    Calls Try.prog 34 #[.slice A bb.length c, .int .i64 zp] w fun e w' => ∃ v, e = .returned (.tuple #[v, .int .i64 bb.length, .int .i64 0]) ∧ OwnU w' w.heap.size v l ∧ Below w.heap.size w w' := by
  subst hzp
  have hl1 : 0 < l.length := List.length_pos_iff.2 h0
  obtain ⟨x0, hx0⟩ : ∃ x0, x0 = l[0]?.getD 0 := ⟨_, rfl⟩
  have hx64 : x0 < 18446744073709551616 := hn x0 (by rw [hx0, List.getElem?_eq_getElem (by omega)]; exact List.getElem_mem _)
  obtain ⟨n1, hn1⟩ : ∃ n1, n1 = pre.length + (put1 l.length).length := ⟨_, rfl⟩
  obtain ⟨n2, hn2⟩ : ∃ n2, n2 = n1 + (put1 x0).length := ⟨_, rfl⟩
  obtain ⟨tl, htl, htl1⟩ : ∃ tl : Bs, bb = pre ++ (put1 l.length ++ (put1 x0 ++ tl)) ∧ (l.length = 1 → tl = []) ∧ (2 ≤ l.length → tl = UInt8.ofNat (maxBits (gapsN l)) :: bodyN l) := by
    by_cases h1 : l.length = 1
    · exact ⟨[], by rw [hbb, packB_one h1, ← hx0, List.append_nil], fun _ => rfl, fun h => absurd h (by omega)⟩
    · exact ⟨_, by rw [hbb, packB_two (by omega), ← hx0, List.append_assoc, List.append_assoc]; simp, fun h => absurd h h1, fun _ => rfl⟩
  have hg1 : vget bb pre.length = .ok (l.length, n1) := by rw [htl, hn1]; exact vget_put1 _ _ _ (by omega)
  have hg2 : vget bb n1 = .ok (x0, n2) := by
    rw [htl, ← List.append_assoc, hn2, hn1, ← List.length_append]
    exact vget_put1 _ _ _ hx64
  have hlen : bb.length = n2 + tl.length := by rw [htl, hn2, hn1]; simp; omega
  have hi0 : pre.length ≤ bb.length := by omega
  have hi1 : n1 ≤ bb.length := by omega
  have Hn := Lib.hid hn; clear hn
  have Hx := Lib.hid hx0; clear hx0
  have Htl := Lib.hid htl; clear htl
  have Htl1 := Lib.hid htl1; clear htl1
  have Hn1 := Lib.hid hn1; clear hn1
  have Hn2 := Lib.hid hn2; clear hn2
  have Hbb := Lib.hid hbb; clear hbb
  have Hx64 := Lib.hid hx64; clear hx64
  have Hg1 := Lib.hid hg1; clear hg1
  have Hg2 := Lib.hid hg2; clear hg2
  have Hlen := Lib.hid hlen; clear hlen
  have z0 : ¬ (65536 : Int) < (l.length : Int) := by omega
  have z1 : ¬ (l.length : Int) = 0 := by omega
  go_enter Try.func34, Try.ntmps34
  go_wp2_with fail
  refine (vGet bb A c B w pre.length hb hc hi0 hbl).mono ?_
  rintro e w1 ⟨rfl, rfl⟩
  rw [Hg1.out]
  unfold vgetV
  go_wp2_with fail
  refine (vGet bb A c B w n1 hb hc hi1 hbl).mono ?_
  rintro e w1 ⟨rfl, rfl⟩
  rw [Hg2.out]
  unfold vgetV
  by_cases h1 : l.length = 1
  · have h1' : (l.length : Int) = 1 := by omega
    go_wp2
    go_ret3
    have e2 : bb.length = n2 := by have := Hlen.out; rw [Htl1.out.1 h1] at this; simpa using this
    have e3 : l = [x0] := by rw [Hx.out, ← take_one hl1, List.take_of_length_le (by omega)]
    refine ⟨.slice (some ⟨w.heap.size, 0, none⟩) 1 1, by rw [e2]; rfl, ?_, (Below.refl _ _).alloc (Nat.le_refl _) _⟩
    rw [e3]
    exact ownU_lit w _ x0 (Nat.le_refl _)
  · have h2 : 2 ≤ l.length := by omega
    have htl : tl = UInt8.ofNat (maxBits (gapsN l)) :: bodyN l := Htl1.out.2 h2
    obtain ⟨M, hM⟩ : ∃ M, M = maxBits (gapsN l) := ⟨_, rfl⟩
    obtain ⟨bd, hbd⟩ : ∃ bd, bd = bodyN l := ⟨_, rfl⟩
    have hM64 : M ≤ 64 := by rw [hM]; exact maxBits_le64 fun d hd => gap_lt Hn.out hd
    have hNs : bd.length = szN (l.length - 1) M := by rw [hbd, bodyN_len, hM]
    have hlen2 : bb.length = n2 + 1 + bd.length := by rw [Hlen.out, htl, hbd]; simp; omega
    obtain ⟨b, off, rfl, hbB, hcell⟩ := hb.at_ (k := n2) (by omega)
    have hpre : bb = (pre ++ put1 l.length ++ put1 x0) ++ UInt8.ofNat M :: bd := by rw [Htl.out, htl, hM, hbd]; simp
    have hprl : (pre ++ put1 l.length ++ put1 x0).length = n2 := by rw [Hn2.out, Hn1.out]; simp; omega
    have c0 : (w.alloc (.cells #[.int .u64 (x0 : Int)] 31)).cell? ⟨b, off + n2, none⟩ = some (.int .u8 (M : Int)) := by
      rw [World.cell?_alloc_lt w _ _ (by show b < _; omega), hcell n2 (by simp; omega), List.getElem_map]
      have e : bb[n2]'(by omega) = UInt8.ofNat M := by
        have h5 : bb[n2]? = some (UInt8.ofNat M) := by rw [hpre, List.getElem?_append_right (by omega), hprl, Nat.sub_self]; rfl
        rw [List.getElem?_eq_getElem (by omega)] at h5
        exact Option.some.inj h5
      rw [e]; unfold bv; rw [ofNat_toNat (by omega)]
    have hbdB : ∀ AA, (0 < bd.length → AA = some ⟨b, off + (n2 + 1), none⟩) → Bytes (w.alloc (.cells #[.int .u64 (x0 : Int)] 31)) B AA bd.length bd := fun AA hAA => by
      by_cases hz : bd.length = 0
      · have : bd = [] := List.eq_nil_of_length_eq_zero hz
        subst this
        exact ⟨rfl, fun h => absurd h (by simp)⟩
      · rw [hAA (by omega)]
        have h6 := (hb.alloc hB (.cells #[.int .u64 (x0 : Int)] 31)).cut (lo := n2 + 1) (hi := bb.length) (by omega) (Nat.le_refl _) rfl
        have e7 : ((bb.map bv).drop (n2 + 1)).take (bb.length - (n2 + 1)) = bd.map bv := by
          have h8 : ∀ (P : Bs), P.length = n2 → (((P ++ UInt8.ofNat M :: bd).map bv).drop (n2 + 1)).take ((P ++ UInt8.ofNat M :: bd).length - (n2 + 1)) = bd.map bv := fun P hP => by
            subst hP
            rw [List.take_of_length_le (by simp)]
            simp [List.drop_append]
          rw [hpre]
          exact h8 _ hprl
        rw [e7, show bb.length - (n2 + 1) = bd.length by omega] at h6
        exact h6
    have HbdB := Lib.hid hbdB; clear hbdB
    have HM := Lib.hid hM; clear hM
    have Hbd := Lib.hid hbd; clear hbd
    have HNs := Lib.hid hNs; clear hNs
    have Hpre := Lib.hid hpre; clear hpre
    have Hprl := Lib.hid hprl; clear hprl
    clear hcell htl
    obtain ⟨n3, hn3⟩ : ∃ n3, n3 = n2 + 1 := ⟨_, rfl⟩
    have w1 : IntKind.i64.wrap ((n2 : Int) + 1) = (n3 : Int) := by rw [IntKind.wrap_i64]; omega
    have w2 : IntKind.i64.wrap ((n3 : Int) + (bd.length : Int)) = (bb.length : Int) := by rw [IntKind.wrap_i64]; omega
    have d6 : (0 : Int) ≤ (n3 : Int) := by omega
    have d7 : (n3 : Int) ≤ (bb.length : Int) := by omega
    have d8 : (bb.length : Int) ≤ (c : Int) := by omega
    have d9 : bb.length - n3 = bd.length := by omega
    have Hn3 := Lib.hid hn3; clear hn3
    have d1 : ¬ (n2 : Int) = (bb.length : Int) := by omega
    have d2 : (0 : Int) ≤ (n2 : Int) := by omega
    have d3 : (n2 : Int) < (bb.length : Int) := by omega
    have d4 : ¬ (64 : Int) < (M : Int) := by omega
    have d5 : ¬ (l.length : Int) = 1 := by omega
    have Hlen2 := Lib.hid hlen2; clear hlen2
    go_wp2_with fail
    refine (vPkSize (l.length - 1) M _ _ _ (by omega) rfl (by omega) hM64).mono ?_
    rintro e w5 ⟨rfl, hw5⟩
    rw [← HNs.out]
    obtain ⟨AA, hAA⟩ : ∃ AA, (if c = n3 then some (⟨b, off, none⟩ : Addr) else some ⟨b, off + n3, none⟩) = AA := ⟨_, rfl⟩
    go_wp2_with fail
    have e9 : ((l.length : Int) - 1) = ((l.length - 1 : Nat) : Int) := by omega
    rw [e9]
    have hown : OwnU (w.alloc (.cells #[.int .u64 (x0 : Int)] 31)) w.heap.size (.slice (some ⟨w.heap.size, 0, none⟩) 1 1) (l.take 1) := by
      rw [take_one hl1, ← Hx.out]
      exact ownU_lit w _ x0 (Nat.le_refl _)
    have hbb' := HbdB.out AA fun h => by
      rw [← hAA, if_neg (by omega), Hn3.out]
    refine (vRest l AA (c - n3) B w.heap.size (l.length - 1) M bd _ _ _ h2 hl hr Hn.out hown hbb' hB (by simp) Hbd.out HM.out rfl).mono ?_
    rintro e w6 ⟨v6, rfl, own6, hb6⟩
    go_wp2
    go_ret3
    exact ⟨v6, rfl, own6, ((Below.refl _ _).alloc (Nat.le_refl _) _).trans hb6⟩
end Go.Proofs.Ytmalkgakdmghiaa
