import Derived.Test.YtmcacicopgckmaaGreatDoorDg46
import Derived.Test.YtmcacicopgckmaaGreatDoorDg42
/-! dfa: Whole, Part, Reset; awake -/
namespace Go.Proofs.YtmcacicopgckmaaGreatDoor
open Go.RowKit Garner
section
variable {B0 : Nat} {w w' : World} {c : Nat} {t : Re} {lim : Nat} {d : CacheD}
theorem CacheIs.mono {B1 : Nat} (h : CacheIs B0 w c t lim d) (hB : B1 ≤ B0) : CacheIs B1 w c t lim d :=
  ⟨h.blk, h.prog, h.good, own_mono h.own hB, h.rows, h.mapN, h.mapE, h.ne, h.gc, h.few, by have := h.low; omega⟩
end
set_option maxRecDepth 100000 in
set_option maxHeartbeats 8000000 in
theorem vDWhole (B0 c : Nat) (t : Re) (lim : Nat) (d : CacheD) (S : ByteArray) (l : Bs) (hS : S = ⟨l.toArray⟩) (w : World) (hc : CacheIs B0 w c t lim d) (hT : TabW B0 w) :
    Calls Tryz.prog 26 #[.pointer (some ⟨c, 0, none⟩), .string S] w fun e w' => e = .returned (.bool (wholeB t (runesP l))) ∧ ∃ d', CacheIs B0 w' c t lim d' ∧ CStep c w d w' d' ∧ (0 < lim → 0 < d'.ds.length) := by
  have h := vRun B0 c t lim d S l hS false w hc hT
  have HR := Lib.hid h
  clear h hc hT hS
  go_enter Tryz.func26, Tryz.ntmps26
  go_wp2_with fail
  refine HR.out.mono ?_
  rintro e w1 ⟨rfl, d1, h1, h2, h3⟩
  have H1 := Lib.hid h1; have H2 := Lib.hid h2; have H3 := Lib.hid h3
  clear h1 h2 h3 HR
  go_wp2
  go_ret
  exact ⟨rfl, d1, H1.out, H2.out, H3.out⟩
set_option maxRecDepth 100000 in
set_option maxHeartbeats 8000000 in
theorem vDPart (B0 c : Nat) (t : Re) (lim : Nat) (d : CacheD) (S : ByteArray) (l : Bs) (hS : S = ⟨l.toArray⟩) (w : World) (hc : CacheIs B0 w c t lim d) (hT : TabW B0 w) :
    Calls Tryz.prog 27 #[.pointer (some ⟨c, 0, none⟩), .string S] w fun e w' => e = .returned (.bool (partB t (runesP l))) ∧ ∃ d', CacheIs B0 w' c t lim d' ∧ CStep c w d w' d' ∧ (0 < lim → 0 < d'.ds.length) := by
  have h := vRun B0 c t lim d S l hS true w hc hT
  have HR := Lib.hid h
  clear h hc hT hS
  go_enter Tryz.func27, Tryz.ntmps27
  go_wp2_with fail
  refine HR.out.mono ?_
  rintro e w1 ⟨rfl, d1, h1, h2, h3⟩
  have H1 := Lib.hid h1; have H2 := Lib.hid h2; have H3 := Lib.hid h3
  clear h1 h2 h3 HR
  go_wp2
  go_ret
  exact ⟨rfl, d1, H1.out, H2.out, H3.out⟩
theorem vReset (B0 c : Nat) (t : Re) (lim : Nat) (d : CacheD) (w : World) (hc : CacheIs B0 w c t lim d) :
    Calls Tryz.prog 24 #[.pointer (some ⟨c, 0, none⟩)] w fun e w' => e = .returned (.tuple #[]) ∧ ∃ d', CacheIs B0 w' c t lim d' ∧ d'.ds = [] ∧ But (d.S c) w w' ∧ KeepM TC w w' ∧ ∀ k ∈ d'.S c, k ∈ d.S c ∨ w.heap.size ≤ k :=
  (vReset0 B0 c d.g lim t _ _ _ w hc.blk hc.prog hc.good hc.gc.lb hc.low.1).mono fun e w' ⟨h1, h2, h3, d', h4, h5, h6⟩ => ⟨h1, d', h4, h5, h2.mono (by simp [CacheD.S]), h3, fun k hk => by
    rcases h6 k hk with rfl | h
    · exact .inl (by simp [CacheD.S])
    · exact .inr h⟩
set_option maxRecDepth 100000 in
set_option maxHeartbeats 16000000 in
theorem vAwake20 (w : World) (hL : Lt w) (hT : TabW w.heap.size w) : Calls Tryz.prog 21 #[] w fun e w' => e = .returned (.bool true) ∧ Below w.heap.size w w' := by
  have h1 := vDNew [97, 42, 98] ⟨#[97, 42, 98]⟩ rfl 2 w hL (by decide)
  rw [aw_ok] at h1
  have H1 := Lib.hid h1; have HL := Lib.hid hL; have HT := Lib.hid hT
  clear h1 hL hT
  go_enter Tryz.func21, Tryz.ntmps21
  go_wp2_with fail
  refine H1.out.mono ?_
  rintro e w1 ⟨p1, k1, rfl, hb1, hn1⟩
  unfold NewDK at hn1
  rw [if_neg (by omega)] at hn1
  obtain ⟨rfl, c, m, d1, hm, rfl, hc1, -⟩ := hn1
  obtain rfl : m = 2 := by omega
  have h2 := vDNew [97] ⟨#[97]⟩ rfl 33 w1 (HL.out.below hb1) (by decide)
  have H2 := Lib.hid h2; have HB1 := Lib.hid hb1; have HC1 := Lib.hid hc1
  clear h2 hb1 hc1 hm
  go_wp2_with fail
  refine H2.out.mono ?_
  rintro e w2 ⟨p2, k2, rfl, hb2, hn2⟩
  unfold NewDK at hn2
  rw [if_pos (by omega)] at hn2
  obtain ⟨rfl, rfl⟩ := hn2
  have hw2 := HB1.out.trans (hb2.mono HB1.out.size)
  have hc2 := HC1.out.below hb2
  have h3 := vDWhole w.heap.size c awT 2 d1 ⟨#[97, 97, 98]⟩ [97, 97, 98] rfl w2 hc2 (HT.out.on hw2)
  rw [aw_r1, aw_whole] at h3
  have H3 := Lib.hid h3; have HB2 := Lib.hid hw2; have HC2 := Lib.hid hc2
  clear h3 hw2 hc2 hb2
  go_wp2_with fail
  refine H3.out.mono ?_
  rintro e w3 ⟨rfl, d3, hc3, hs3, -⟩
  have hw3 := HB2.out.trans (hs3.low HC2.out)
  have h4 := vDWhole w.heap.size c awT 2 d3 ⟨#[97, 98, 120]⟩ [97, 98, 120] rfl w3 hc3 (HT.out.on hw3)
  rw [aw_r2, aw_not] at h4
  have H4 := Lib.hid h4; have HB3 := Lib.hid hw3; have HC3 := Lib.hid hc3
  clear h4 hw3 hc3 hs3
  go_wp2_with fail
  refine H4.out.mono ?_
  rintro e w4 ⟨rfl, d4, hc4, hs4, -⟩
  have hw4 := HB3.out.trans (hs4.low HC3.out)
  have h5 := vDPart w.heap.size c awT 2 d4 ⟨#[120, 97, 98, 121]⟩ [120, 97, 98, 121] rfl w4 hc4 (HT.out.on hw4)
  rw [aw_r3, aw_part] at h5
  have H5 := Lib.hid h5; have HB4 := Lib.hid hw4; have HC4 := Lib.hid hc4
  clear h5 hw4 hc4 hs4
  go_wp2_with fail
  refine H5.out.mono ?_
  rintro e w5 ⟨rfl, d5, hc5, hs5, hp5⟩
  have hw5 := HB4.out.trans (hs5.low HC4.out)
  have hl5 := hc5.gc.len
  rw [List.length_map] at hl5
  have hp5 := hp5 (by decide)
  have h6 : ∀ wx, wx = w5 → _ := fun wx hx => hx ▸ vStates w.heap.size c awT 2 d5 w5 hc5
  obtain ⟨M, hM⟩ : ∃ M, d5.ds.length = M := ⟨_, rfl⟩
  rw [hM] at h6 hl5 hp5
  have H6 := Lib.hid h6; have HB5 := Lib.hid hw5
  clear h6 hw5 hc5 hs5 hM
  have z1 : (1 : Int) ≤ (M : Int) := by omega
  have z2 : (M : Int) ≤ 2 := by omega
  go_wp2_with (with_reducible refine (H6.out _ rfl).mono ?_; rintro e wy ⟨rfl, hz⟩; obtain rfl : w5 = wy := hz.symm)
  go_ret
  exact ⟨rfl, HB5.out⟩
end Go.Proofs.YtmcacicopgckmaaGreatDoor

