import Derived.Test.YtmddgimadlmacaaAwake5
import Derived.Test.YtmddgimadlmacaaDiskO
import Derived.Test.YtmddgimadlmacaaPieces
namespace Go.Proofs.Ytmddgimadlmacaa
open Go.RowKit Garner

abbrev nF : Bs := [102]
theorem dcF : dmay [nmS nF] false = 0 := by kernel_rfl
def fsC (k : Nat) (all : Bs) (sy : Nat) : List (Bs × FileD) := if k = 0 then [] else [(nF, (all, sy))]
theorem dc1 (ps : List ByS) {k : Nat} (hk : k < ps.length) (sy : Nat) (hs : k = 0 → sy = 0) : aAppend nF ps[k].data ⟨fsC k (catN ps k) sy, false, false, -1⟩ = (0, ⟨fsC (k + 1) (catN ps (k + 1)) sy, false, false, -1⟩) := by
  rw [ap_up _ _ _ _ dcF]
  have e : aput nF ((fget nF (fsC k (catN ps k) sy)).1 ++ ps[k].data, (fget nF (fsC k (catN ps k) sy)).2) (fsC k (catN ps k) sy) = fsC (k + 1) (catN ps (k + 1)) sy := by
    unfold fsC
    rw [if_neg (Nat.succ_ne_zero k), catN_succ hk]
    by_cases h0 : k = 0
    · subst h0
      rw [if_pos rfl, catN_zero, hs rfl]
      rfl
    · rw [if_neg h0]
      rfl
  rw [e]
  rfl
theorem dc1l (ps : List ByS) {k : Nat} (sy : Nat) : (fget nF (fsC k (catN ps k) sy)).1.length ≤ (catN ps k).length := by
  unfold fsC
  split
  · simp [fget, aget]
  · exact Nat.le_refl _
theorem dc2 (all : Bs) (sy : Nat) (k : Nat) (hk : 0 < k) : aSync nF ⟨fsC k all sy, false, false, -1⟩ = (0, ⟨fsC k all all.length, false, false, -1⟩) := by
  unfold fsC
  rw [if_neg (by omega), if_neg (by omega), sy_up _ _ _ (all, sy) dcF rfl]
  rfl
theorem dc3 (all : Bs) (sy : Nat) : aSync nF ⟨fsC 0 all sy, false, false, -1⟩ = (21, ⟨[], false, false, -1⟩) := by
  unfold aSync; rw [if_neg (by rw [dcF]; decide)]; rfl
theorem dc4 (keep : Int) (all : Bs) (sy : Nat) (k : Nat) (hk : 0 < k) : aRestart [keep] ⟨fsC k all sy, false, false, -1⟩ = ⟨[(nF, cutD [keep] 0 (all, sy))], false, false, -1⟩ := by
  unfold aRestart fsC
  rw [if_neg (by omega), rst_one]
theorem dc5 (f : FileD) : aRead nF ⟨[(nF, f)], false, false, -1⟩ = (f.1, 0) := by
  unfold aRead; rw [if_neg (by rw [dcF]; decide)]; rfl
theorem dc6 (f : Bs) : aRestart [0] ⟨[(nF, (f, f.length))], false, false, -1⟩ = ⟨[(nF, (f, f.length))], false, false, -1⟩ := by
  unfold aRestart
  rw [rst_one, cut_full]
theorem dc7 {keep : Int} {all : Bs} {sy : Nat} (h : sy ≤ all.length) : ((keptN [keep] 0 (all, sy) : Nat) : Int) = (sy : Int) + min (max keep 0) ((all.length : Int) - (sy : Int)) ∧ keptN [keep] 0 (all, sy) ≤ all.length := by
  simp only [keptN, List.getElem?_cons_zero]
  omega
structure S21 (A5 A8 : Option Addr) (n : Nat) (t : Bs) (B0 : Nat) (w' : World) : Prop where
  a : Bytes w' B0 A5 n t
  b : Bytes w' B0 A8 n t
theorem row_take2 {w : World} {B n k : Nat} {A : Option Addr} {l : Bs} (h : Bytes w B A n l) (hk : k ≤ n) (hl : l.length = n) : Bytes w B A k (l.take k) := by
  refine ⟨by simp; omega, fun h0 => ?_⟩
  obtain ⟨b, off, e, hb, hc⟩ := h.2 (by omega)
  refine ⟨b, off, e, hb, fun j u hu => hc j u ?_⟩
  rw [List.map_take, List.getElem?_take] at hu
  split at hu
  · exact hu
  · cases hu
set_option maxRecDepth 100000 in
set_option maxHeartbeats 4000000 in
theorem lawDC (ps : List ByS) (A0 : Option Addr) (c0 : Nat) (bs : List Bool) (A1 : Option Addr) (c1 B : Nat) (keep : Int) (w : World) (h0 : Pieces w B A0 ps) (h1 : Row w B 1 A1 bs.length (bs.map Value.bool)) (hB : B ≤ w.heap.size)
    (hsum : sumLen ps ≤ 1048576) (hpl : ps.length ≤ 1048576) (hk : in64 keep) :
    Calls Try.prog 5 #[.slice A0 ps.length c0, .slice A1 bs.length c1, .int .i64 keep] w fun e w' => e = .returned (.bool true) ∧ Below w.heap.size w w' := by
  obtain ⟨kl, kh⟩ := hk
  go_enter Try.func5, Try.ntmps5
  go_wp2_with fail
  refine (vAwake5 w).mono ?_
  rintro e w0 ⟨rfl, hb0⟩
  go_wp2_with fail
  refine (aNew_calls w.heap.size w0 hb0.size).mono ?_
  rintro e w1 ⟨g, mp, rfl, hd1, hb1, hgl, hml⟩
  have hb01 := hb0.trans (hb1.mono hb0.size)
  have hgw : w.heap.size ≤ g ∧ w.heap.size ≤ mp := ⟨hd1.hg, hd1.hm⟩
  clear hb0 hb1 hgl hml
  have hd1' := hd1.o
  go_wp2_with fail
  go_loopw [8, 9, 10] (fun v8 v9 i wr => ∃ (k sy : Nat) (O : Nat → Prop), k ≤ ps.length ∧ i = .int .i64 k ∧ OwnB wr w.heap.size v8 (catN ps k) ∧ v9 = .int .i64 sy ∧ sy ≤ (catN ps k).length ∧ Hid (k = 0 → sy = 0) ∧
      (∀ b, O b → w.heap.size ≤ b ∧ b ∉ v8.ownBlock.toList) ∧ DiskO O wr g mp ⟨fsC k (catN ps k) sy, false, false, -1⟩ ∧ Below w.heap.size w wr) (fun _ _ i _ => ps.length - (intOf i).toNat)
  case atStart => exact ⟨0, 0, fun b => w.heap.size ≤ b, by omega, rfl, World.ownsRow_nil _ _ _ _, rfl, by simp [catN], fun _ => rfl, fun b hb => ⟨hb, by simp [Value.ownBlock]⟩, hd1', hb01⟩
  case round =>
    clear hd1 hd1' hb01
    obtain ⟨k, sy, O, hk, rfl, hown, rfl, hsy, hs0, hO, hd, hb⟩ := hrel
    obtain ⟨wo, rfl⟩ : ∃ wo : World, wo = wr := ⟨_, rfl⟩
    by_cases hlt : (k : Int) < ps.length
    · have hkl : k < ps.length := by omega
      obtain ⟨bp, offp, rfl, hbp, hcp⟩ := (h0.below (hb.mono hB)).at_ hkl
      have hpk := (h0.below (hb.mono hB)).all _ (List.getElem_mem hkl)
      have hls := len_le_sum hkl
      have hap := dc1 ps hkl sy hs0.out
      have hfl := dc1l ps (k := k) sy
      obtain ⟨pk, hpke⟩ : ∃ p, p = ps[k] := ⟨_, rfl⟩
      rw [← hpke] at hcp hpk hls hap
      have Hcat : Hid (catN ps (k + 1) = catN ps k ++ pk.data) := by show _ = _; rw [catN_succ hkl, hpke]
      have Hap := Lib.hid hap; clear hap hpke
      go_wp2_with fail
      refine (oAppend_calls nF pk.data pk.A pk.c B g mp _ O wo hd hpk.row (Nat.le_trans hB hb.size) (by show (fget nF (fsC k (catN ps k) sy)).1.length + _ ≤ _; omega)).mono ?_
      rintro e w2 ⟨rfl, hd2, hb2⟩
      rw [Hap.out] at hd2 ⊢
      have hb02 : Below w.heap.size w w2 := hb.trans (hb2.below hb.size (fun q hq => by simp only [List.mem_cons, List.not_mem_nil, or_false] at hq; omega))
      have hne := hd.ne_own hown (by decide)
      have hown2 : OwnB w2 w.heap.size _ (catN ps k) := own_but hown hb2 (fun q hq hm => by simp only [List.mem_cons, List.not_mem_nil, or_false] at hm; rcases hm with rfl | rfl <;> simp [hq] at hne)
      have hge := own_ge hown
      have hO2 : ∀ b, (O b ∨ wo.heap.size ≤ b) → w.heap.size ≤ b ∧ b ∉ (Value.ownBlock _).toList := fun b hb' => by
        rcases hb' with h | h
        · exact hO b h
        · exact ⟨by have := hb.size; omega, fun hm => by have := (hge b hm).2; omega⟩
      have hc2 : w2.cell? ⟨bp, offp + k, none⟩ = some (.slice pk.A pk.data.length pk.c) := (hb2.cell (p := ⟨bp, offp + k, none⟩) (by show bp < _; have := hb.size; omega) (by simp only [List.mem_cons, List.not_mem_nil, or_false]; omega)).trans hcp
      have hpk2 : Bytes w2 B pk.A pk.data.length pk.data := hpk.row.below (hb2.below (Nat.le_trans hB hb.size) (fun q hq => by simp only [List.mem_cons, List.not_mem_nil, or_false] at hq; omega))
      clear hd hb hb2 hne hge hown hcp hpk
      go_upto_region 12 with (at_builtin; refine wpList_app _ rfl bytesE rfl rfl hown2 rfl hpk2 (bv_one _) (by omega) hb02.size ?_; intro v3 w3 hown3 hg3 hb3 hx3)
      have hg3' : w2.grownBy w3 (Value.ownBlock u8) := hg3
      have hx3' : v3.ownBlock = Value.ownBlock u8 ∨ v3.ownBlock = some w2.heap.size := hx3
      have hbut : But (Value.ownBlock u8).toList w2 w3 := But.grown hg3' (fun q hq => by rw [hq]; simp)
      have hne := hd2.ne_own hown2 (by decide)
      have hd3 := hd2.lt.but hbut hne.1 hne.2 (fun b hb' _ => (hO2 b hb'.1).2)
      have hO3 : ∀ b, ((O b ∨ wo.heap.size ≤ b) ∧ b < w2.heap.size) → w.heap.size ≤ b ∧ b ∉ v3.ownBlock.toList := fun b hb' => by
        refine ⟨(hO2 b hb'.1).1, fun hm => ?_⟩
        rcases hx3' with h | h
        · rw [h] at hm; exact (hO2 b hb'.1).2 hm
        · rw [h] at hm; simp at hm; omega
      have hown3' : OwnB w3 w.heap.size v3 (catN ps (k + 1)) := by rw [Hcat.out]; simpa [OwnB] using hown3
      have hb03 := hb02.trans hb3
      have hlen3 : (catN ps (k + 1)).length = (catN ps k).length + pk.data.length := by rw [Hcat.out, List.length_append]
      have hsy3 : sy ≤ (catN ps (k + 1)).length := by omega
      have Hl3 := Lib.hid hlen3
      clear hlen3 hd2 hown2 hbut hne hx3 hx3' hg3 hg3' hown3 hpk2 hc2 hO2 hO hfl hls hb02 hb3
      obtain ⟨A3, c3, rfl, _⟩ := own_form hown3'
      by_cases hkb : k < bs.length
      · obtain ⟨bb, offb, rfl, hbb, hcb⟩ := (h1.below (hb03.mono hB)).at_ (k := k) hkb
        have hcb' : w3.cell? ⟨bb, offb + k, none⟩ = some (.bool bs[k]) := by rw [hcb k (by simpa using hkb)]; simp
        have hkb' : (k : Int) < bs.length := by omega
        clear hcb
        cases hbk : bs[k] with
        | true =>
          rw [hbk] at hcb'
          clear hbk
          go_wp2_with fail
          refine (oSync_calls nF g mp _ _ _ hd3).mono ?_
          rintro e w4 ⟨rfl, hd4, hb4⟩
          rw [dc2 _ _ _ (by omega)] at hd4 ⊢
          have hb04 := hb03.trans (hb4.below hb03.size (fun q hq => by simp only [List.mem_cons, List.not_mem_nil, or_false] at hq; omega))
          have hne := hd3.ne_own hown3' (by decide)
          have hown4 : OwnB w4 w.heap.size _ (catN ps (k + 1)) := own_but hown3' hb4 (fun q hq hm => by simp only [List.mem_cons, List.not_mem_nil, or_false] at hm; rcases hm with rfl | rfl <;> simp [hq] at hne)
          have hlt3 := own_ge hown3'
          have hO4 : ∀ b, (((O b ∨ wo.heap.size ≤ b) ∧ b < w2.heap.size) ∨ w3.heap.size ≤ b) → w.heap.size ≤ b ∧ b ∉ (Value.slice A3 (catN ps (k + 1)).length c3).ownBlock.toList := fun b hb' => by
            rcases hb' with h | h
            · exact hO3 b h
            · exact ⟨by have := hb03.size; omega, fun hm => by have := (hlt3 b hm).2; omega⟩
          clear hd3 hown3' hb03 hb4 hne hlt3 hO3 hcb'
          go_wp2
          go_roundw
          case rel =>
            first
              | exact ⟨k + 1, (catN ps (k + 1)).length, _, by omega, by go_num, hown4, rfl, Nat.le_refl _, fun h => absurd h (by omega), hO4, hd4, hb04⟩
              | ((repeat apply Exists.intro); exact ⟨⟨k + 1, (catN ps (k + 1)).length, _, by omega, by go_num, hown4, rfl, Nat.le_refl _, fun h => absurd h (by omega), hO4, hd4, hb04⟩, rfl⟩)
          case measure => simp [intOf]; omega
        | false =>
          rw [hbk] at hcb'
          clear hbk
          go_wp2
          go_roundw
          case rel =>
            first
              | exact ⟨k + 1, sy, _, by omega, by go_num, hown3', rfl, hsy3, fun h => absurd h (by omega), hO3, hd3, hb03⟩
              | ((repeat apply Exists.intro); exact ⟨⟨k + 1, sy, _, by omega, by go_num, hown3', rfl, hsy3, fun h => absurd h (by omega), hO3, hd3, hb03⟩, rfl⟩)
          case measure => simp [intOf]; omega
      · have hkb' : ¬ (k : Int) < bs.length := by omega
        go_wp2
        go_roundw
        case rel =>
          first
            | exact ⟨k + 1, sy, _, by omega, by go_num, hown3', rfl, hsy3, fun h => absurd h (by omega), hO3, hd3, hb03⟩
            | ((repeat apply Exists.intro); exact ⟨⟨k + 1, sy, _, by omega, by go_num, hown3', rfl, hsy3, fun h => absurd h (by omega), hO3, hd3, hb03⟩, rfl⟩)
        case measure => simp [intOf]; omega
    · obtain rfl : k = ps.length := by omega
      obtain ⟨all, hall⟩ : ∃ l, l = catN ps ps.length := ⟨_, rfl⟩
      have halen : all.length ≤ 1048576 := by rw [hall]; have := catN_len ps ps.length; omega
      rw [← hall] at hown hsy hd
      clear hall
      obtain ⟨A8, c8, rfl, hc8⟩ := own_form hown
      by_cases hz : ps.length = 0
      · have hz' : ((ps.length : Int) == 0) = true := by rw [beq_iff_eq]; omega
        rw [hz] at hd
        go_wp2_with fail
        refine (oSync_calls nF g mp _ _ _ hd).mono ?_
        rintro e w4 ⟨rfl, hd4, hb4⟩
        rw [dc3]
        have hb04 := hb.trans (hb4.below hb.size (fun q hq => by simp only [List.mem_cons, List.not_mem_nil, or_false] at hq; omega))
        go_wp2
        go_ret
        exact ⟨rfl, hb04⟩
      · have hz' : ((ps.length : Int) == 0) = false := by rw [beq_eq_false_iff_ne]; omega
        have hbX : Below wo.heap.size wo (wo.alloc (.cells #[.int .i64 keep] 3)) := (Below.refl _ _).alloc (Nat.le_refl _) _
        have hltg := hd.ltg
        have hwo : w.heap.size ≤ (wo.alloc (.cells #[.int .i64 keep] 3)).heap.size := by have := hb.size; simp; omega
        go_wp2_with fail
        refine (oRestart_calls (some ⟨wo.heap.size, 0, none⟩) 1 g mp _ _ _ [keep] (hd.below hbX) ((row_new wo 3 [.int .i64 keep]).more (by simp)) (fun _ b off e => by simp only [Option.some.injEq, Addr.mk.injEq, and_true] at e; omega) (by simp) (by simp only [List.mem_cons, List.not_mem_nil, or_false]; rintro q rfl; exact ⟨kl, kh⟩) (by unfold fsC; rw [if_neg hz]; simp)).mono ?_
        rintro e w4 ⟨rfl, hd4, hb4⟩
        rw [dc4 _ _ _ _ (by omega)] at hd4
        have hsub : ∀ q ∈ [g, mp], w.heap.size ≤ q := fun q hq => by simp only [List.mem_cons, List.not_mem_nil, or_false] at hq; omega
        have hb04 := (hb.trans (hbX.mono hb.size)).trans (hb4.below (by have := hb.size; simp; omega) hsub)
        have hne := (hd.below hbX).ne_own (own_below hown hbX) (by decide)
        have hown4 : OwnB w4 w.heap.size (.slice A8 all.length c8) all := own_but (own_below hown hbX) hb4 (fun q hq hm => by simp only [List.mem_cons, List.not_mem_nil, or_false] at hm; rcases hm with rfl | rfl <;> simp [hq] at hne)
        obtain ⟨hn1, hn2⟩ := dc7 (keep := keep) hsy
        obtain ⟨n, hn⟩ : ∃ n, n = keptN [keep] 0 (all, sy) := ⟨_, rfl⟩
        have hcut : cutD [keep] 0 (all, sy) = (all.take n, n) := by unfold cutD; rw [hn]
        rw [← hn] at hn1 hn2
        rw [hcut] at hd4
        clear hn hcut hd hown hne hb hbX hb4
        have htl : (all.take n).length = n := by rw [List.length_take]; omega
        go_wp2_with fail
        have hda := hd4.a (base := w.heap.size) (fun b hb' => by
          rcases hb' with h | h
          · exact (hO b h).1
          · exact Nat.le_trans hwo h) hgw.1 hgw.2 hb04.size
        obtain ⟨t, ht⟩ : ∃ t, t = all.take n := ⟨_, rfl⟩
        have htake : Bytes w4 w4.heap.size A8 n t := by rw [ht]; exact row_take2 (Row.of_own hown4) hn2 rfl
        rw [← ht] at htl hda
        clear ht hO hd4
        refine (aRead_calls nF w.heap.size g mp _ _ hda).mono ?_
        rintro e w5 ⟨A5, c5, rfl, own5, hb5⟩
        rw [dc5] at own5 ⊢
        have hd5 := hda.below hb5
        have hb05 := hb04.trans (hb5.mono hb04.size)
        have htake5 : Bytes w5 w5.heap.size A8 n t := (htake.below hb5).more hb5.size
        have hA5 : ∀ q ∈ (Value.slice A5 n c5).ownBlock.toList, q ∉ [g, mp] := fun q hq hm => by
          have h1 := (own_ge own5 q (by simp only [htl]; exact hq)).1
          have h2 := hda.lt
          simp only [List.mem_cons, List.not_mem_nil, or_false] at hm; omega
        have own5' : Bytes w5 w5.heap.size A5 n t := by
          have h := Row.of_own own5
          simp only at h
          rw [htl] at h
          exact h
        have wq1 : IntKind.i64.wrap ((all.length : Int) - (sy : Int)) = (all.length : Int) - (sy : Int) := IntWalk.i64_in _ ⟨by omega, by omega⟩
        have wq2 : IntKind.i64.wrap ((sy : Int) + min (max keep 0) ((all.length : Int) - (sy : Int))) = (n : Int) := by rw [IntWalk.i64_in _ ⟨by omega, by omega⟩, hn1]
        have wq3 : (sy : Int) + min (max keep 0) ((all.length : Int) - (sy : Int)) = (n : Int) := hn1.symm
        clear hn1 hda hb04 hown4 hb5 htake own5
        go_wp2_with fail
        clear wq1 wq2 wq3
        have hnc : n ≤ c8 := by omega
        have hcv5 : ∀ w' : World, S21 A5 A8 n t w5.heap.size w' → ∀ c', (convert 26 9 (.slice A5 n c')).run Try.prog w' = .ok (.string ⟨t.toArray⟩) w' := fun w' h c' => run_str h.a
        have hcv8 : ∀ w' : World, S21 A5 A8 n t w5.heap.size w' → ∀ c', (convert 26 9 (.slice A8 n c')).run Try.prog w' = .ok (.string ⟨t.toArray⟩) w' := fun w' h c' => run_str h.b
        have hS0 : S21 A5 A8 n t w5.heap.size w5.drew := ⟨own5'.drew, htake5.drew⟩
        refine wp_region_N (S21 A5 A8 n t w5.heap.size) 100 (by kernel_rfl) ?_
        apply wpAnyN_takeL 0 (by kernel_rfl) rfl (fun _ _ _ h => h) (by kernel_rfl) hS0
        · intro w' hS'
          go_simp; exact ⟨rfl, rfl⟩
        (try simp only [Act.put]); (try simp only [List.setIfInBounds_toArray]); (try simp only [List.set])
        apply wpAnyN_takeL 1 (by kernel_rfl) rfl (fun _ _ _ h => h) (by kernel_rfl) hS0
        · intro w' hS'
          go_simp; exact ⟨rfl, rfl⟩
        (try simp only [Act.put]); (try simp only [List.setIfInBounds_toArray]); (try simp only [List.set])
        apply wpAnyN_takeL 2 (by kernel_rfl) rfl (fun _ _ _ h => h) (by kernel_rfl) hS0
        · intro w' hS'
          go_simp; exact ⟨rfl, rfl⟩
        (try simp only [Act.put]); (try simp only [List.setIfInBounds_toArray]); (try simp only [List.set])
        apply wpAnyN_takeL 3 (by kernel_rfl) rfl (fun _ _ _ h => h) (by kernel_rfl) hS0
        · intro w' hS'
          go_simp; exact ⟨rfl, rfl⟩
        (try simp only [Act.put]); (try simp only [List.setIfInBounds_toArray]); (try simp only [List.set])
        apply wpAnyN_takeL 4 (by kernel_rfl) rfl (fun _ _ _ h => h) (by kernel_rfl) hS0
        · intro w' hS'
          go_simp; exact ⟨rfl, rfl⟩
        (try simp only [Act.put]); (try simp only [List.setIfInBounds_toArray]); (try simp only [List.set])
        apply wpAnyN_takeL 5 (by kernel_rfl) rfl (fun _ _ _ h => h) (by kernel_rfl) hS0
        · intro w' hS'
          go_simp; exact ⟨rfl, rfl⟩
        (try simp only [Act.put]); (try simp only [List.setIfInBounds_toArray]); (try simp only [List.set])
        apply wpAnyN_takeL 6 (by kernel_rfl) rfl (fun _ _ _ h => h) (by kernel_rfl) hS0
        · intro w' hS'
          go_simp; exact ⟨rfl, rfl⟩
        (try simp only [Act.put]); (try simp only [List.setIfInBounds_toArray]); (try simp only [List.set])
        apply wpAnyN_takeL 7 (by kernel_rfl) rfl (fun _ _ _ h => h) (by kernel_rfl) hS0
        · intro w' hS'
          go_simp; exact ⟨rfl, rfl⟩
        (try simp only [Act.put]); (try simp only [List.setIfInBounds_toArray]); (try simp only [List.set])
        apply wpAnyN_takeL 8 (by kernel_rfl) rfl (fun _ _ _ h => h) (by kernel_rfl) hS0
        · intro w' hS'
          go_simp; exact ⟨rfl, rfl⟩
        (try simp only [Act.put]); (try simp only [List.setIfInBounds_toArray]); (try simp only [List.set])
        apply wpAnyN_takeL 9 (by kernel_rfl) rfl (fun _ _ _ h => h) (by kernel_rfl) hS0
        · intro w' hS'
          go_simp; exact ⟨rfl, rfl⟩
        (try simp only [Act.put]); (try simp only [List.setIfInBounds_toArray]); (try simp only [List.set])
        apply wpAnyN_takeL 10 (by kernel_rfl) rfl (fun _ _ _ h => h) (by kernel_rfl) hS0
        · intro w' hS'
          go_simp; exact ⟨rfl, rfl⟩
        (try simp only [Act.put]); (try simp only [List.setIfInBounds_toArray]); (try simp only [List.set])
        refine wpAnyN_done (by kernel_rfl) ?_ _
        clear hcv5 hcv8
        have hdd := hd5.below (Below.refl w5.heap.size w5).drew
        have hb06 : Below w.heap.size w w5.drew := hb05.drew
        have own6' : Bytes w5.drew w5.heap.size A5 n t := own5'.drew
        have hbX : Below w5.heap.size w5.drew (w5.alloc (.cells #[.int .i64 0] 3)).drew := ((Below.refl w5.heap.size w5.drew).alloc (Nat.le_refl _) _)
        have hlt5 := hd5.lt
        go_wp2_with fail
        refine (aRestart_calls (some ⟨w5.heap.size, 0, none⟩) 1 w.heap.size g mp _ _ [0] (hdd.below hbX) ((Row.drew (row_new w5 3 [.int .i64 0])).more (by simp)) (fun _ b off e => by simp only [Option.some.injEq, Addr.mk.injEq, and_true] at e; omega) (by simp) (by simp [in64]) (by simp)).mono ?_
        rintro e w7 ⟨rfl, hd7, hb7⟩
        have e7 : aRestart [0] ⟨[(nF, (t, n))], false, false, -1⟩ = ⟨[(nF, (t, n))], false, false, -1⟩ := by
          have := dc6 t
          rw [htl] at this
          exact this
        rw [e7] at hd7
        have hbXw := hb06.trans (hbX.mono hb06.size)
        have hb07 := hbXw.trans ((hdd.below hbX).down hb7)
        have own7 : Bytes w7 w5.heap.size A5 n t := by
          have h1' : Bytes (w5.alloc (.cells #[.int .i64 0] 3)).drew w5.heap.size A5 n t := own6'.below hbX
          refine ⟨h1'.1, fun h0 => ?_⟩
          obtain ⟨b, off, e, hb', hc⟩ := h1'.2 h0
          refine ⟨b, off, e, hb', fun j u hu => (hb7.cell (p := ⟨b, off + j, none⟩) (Nat.lt_of_lt_of_le hb' hbX.size) (fun hm => ?_)).trans (hc j u hu)⟩
          exact hA5 b (by rw [e]; simp [Value.ownBlock]) hm
        have hs57 : w5.heap.size ≤ w7.heap.size := Nat.le_trans hbX.size hb7.size
        clear hdd hbX hbXw hb06 hd5 hb05 hb7 e7
        go_wp2_with fail
        refine (aRead_calls nF w.heap.size g mp _ _ hd7).mono ?_
        rintro e w8 ⟨A14, c14, rfl, own8, hb8⟩
        rw [dc5] at own8 ⊢
        have hb08 := hb07.trans (hb8.mono hb07.size)
        have own8' : Bytes w8 w8.heap.size A14 n t := by
          have h := Row.of_own own8
          simp only at h
          rw [htl] at h
          exact h
        have own7' := own7.below (hb8.mono hs57)
        have hcv14 : ∀ c', (convert 26 9 (.slice A14 n c')).run Try.prog w8 = .ok (.string ⟨t.toArray⟩) w8 := fun c' => run_str own8'
        have hcv5 : ∀ c', (convert 26 9 (.slice A5 n c')).run Try.prog w8 = .ok (.string ⟨t.toArray⟩) w8 := fun c' => run_str own7'
        clear own8 hd7 hb07 hb8
        go_wp2
        go_ret
        exact ⟨rfl, hb08⟩
end Go.Proofs.Ytmddgimadlmacaa
