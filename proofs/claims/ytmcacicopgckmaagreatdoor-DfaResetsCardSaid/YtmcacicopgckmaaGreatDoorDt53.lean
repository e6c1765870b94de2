import Derived.Test.YtmcacicopgckmaaGreatDoorDt52
import Derived.Test.YtmcacicopgckmaaGreatDoorDt47
/-! dfa: Whole, Part, Reset; awake -/
namespace Go.Proofs.YtmcacicopgckmaaGreatDoor
open Go.RowKit Garner
section
variable {B0 : Nat} {w w' : World} {c : Nat} {t : Re} {lim : Nat} {d : CacheD}
theorem CacheIs.mono {B1 : Nat} (h : CacheIs B0 w c t lim d) (hB : B1 ≤ B0) : CacheIs B1 w c t lim d :=
  ⟨h.blk, h.prog, h.good, own_mono h.own hB, h.rows, h.mapN, h.mapE, h.ne, h.gc, h.few, by have := h.low; omega⟩
end
set_option maxRecDepth 100000 in
set_option maxHeartbeats 8000000 in
theorem vDWhole (B0 c : Nat) (t : Re) (lim : Nat) (d : CacheD) (S : ByteArray) (l : Bs) (hS : S = ⟨l.toArray⟩) (w : World) (hc : CacheIs B0 w c t lim d) (hT : TabW B0 w) :
    Calls Tryz.prog 26 #[.pointer (some ⟨c, 0, none⟩), .string S] w fun e w' => e = .returned (.bool (wholeB t (runesP l))) ∧ ∃ d', CacheIs B0 w' c t lim d' ∧ CStep c w d w' d' ∧ (0 < lim → 0 < d'.ds.length) := by
  have h := vRun B0 c t lim d S l hS false w hc hT
  have HR := Lib.hid h
  clear h hc hT hS
  go_enter Tryz.func26, Tryz.ntmps26
  go_wp2_with fail
  refine HR.out.mono ?_
  rintro e w1 ⟨rfl, d1, h1, h2, h3⟩
  have H1 := Lib.hid h1; have H2 := Lib.hid h2; have H3 := Lib.hid h3
  clear h1 h2 h3 HR
  go_wp2
  go_ret
  exact ⟨rfl, d1, H1.out, H2.out, H3.out⟩
set_option maxRecDepth 100000 in
set_option maxHeartbeats 8000000 in
theorem vDPart (B0 c : Nat) (t : Re) (lim : Nat) (d : CacheD) (S : ByteArray) (l : Bs) (hS : S = ⟨l.toArray⟩) (w : World) (hc : CacheIs B0 w c t lim d) (hT : TabW B0 w) :
    Calls Tryz.prog 27 #[.pointer (some ⟨c, 0, none⟩), .string S] w fun e w' => e = .returned (.bool (partB t (runesP l))) ∧ ∃ d', CacheIs B0 w' c t lim d' ∧ CStep c w d w' d' ∧ (0 < lim → 0 < d'.ds.length) := by
  have h := vRun B0 c t lim d S l hS true w hc hT
  have HR := Lib.hid h
  clear h hc hT hS
  go_enter Tryz.func27, Tryz.ntmps27
  go_wp2_with fail
  refine HR.out.mono ?_
  rintro e w1 ⟨rfl, d1, h1, h2, h3⟩
  have H1 := Lib.hid h1; have H2 := Lib.hid h2; have H3 := Lib.hid h3
  clear h1 h2 h3 HR
  go_wp2
  go_ret
  exact ⟨rfl, d1, H1.out, H2.out, H3.out⟩
theorem vReset (B0 c : Nat) (t : Re) (lim : Nat) (d : CacheD) (w : World) (hc : CacheIs B0 w c t lim d) :
    Calls Tryz.prog 24 #[.pointer (some ⟨c, 0, none⟩)] w fun e w' => e = .returned (.tuple #[]) ∧ ∃ d', CacheIs B0 w' c t lim d' ∧ d'.ds = [] ∧ But (d.S c) w w' ∧ KeepM TC w w' ∧ ∀ k ∈ d'.S c, k ∈ d.S c ∨ w.heap.size ≤ k :=
  (vReset0 B0 c d.g lim t _ _ _ w hc.blk hc.prog hc.good hc.gc.lb hc.low.1).mono fun e w' ⟨h1, h2, h3, d', h4, h5, h6⟩ => ⟨h1, d', h4, h5, h2.mono (by simp [CacheD.S]), h3, fun k hk => by
    rcases h6 k hk with rfl | h
    · exact .inl (by simp [CacheD.S])
    · exact .inr h⟩
set_option maxRecDepth 100000 in
set_option maxHeartbeats 16000000 in
theorem vAwake20 (w : World) (hL : Lt w) (hT : TabW w.heap.size w) : Calls Tryz.prog 21 #[] w fun e w' => e = .returned (.bool true) ∧ Below w.heap.size w w' := by
  have h1 := vDNew [97, 42, 98] ⟨#[97, 42, 98]⟩ rfl 2 w hL (by decide)
  rw [aw_ok] at h1
  have H1 := Lib.hid h1; have HL := Lib.hid hL; have HT := Lib.hid hT
  clear h1 hL hT
  go_enter Tryz.func21, Tryz.ntmps21
  go_wp2_with fail
  refine H1.out.mono ?_
  rintro e w1 ⟨p1, k1, rfl, hb1, hn1⟩
  unfold NewDK at hn1
  rw [if_neg (by omega)] at hn1
  obtain ⟨rfl, c, m, d1, hm, rfl, hc1, -⟩ := hn1
  obtain rfl : m = 2 := by omega
  have h2 := vDNew [97] ⟨#[97]⟩ rfl 33 w1 (HL.out.below hb1) (by decide)
  have H2 := Lib.hid h2; have HB1 := Lib.hid hb1; have HC1 := Lib.hid hc1
  clear h2 hb1 hc1 hm
  go_wp2_with fail
  refine H2.out.mono ?_
  rintro e w2 ⟨p2, k2, rfl, hb2, hn2⟩
  unfold NewDK at hn2
  rw [if_pos (by omega)] at hn2
  obtain ⟨rfl, rfl⟩ := hn2
  have hw2 := HB1.out.trans (hb2.mono HB1.out.size)
  have hc2 := HC1.out.below hb2
  have h3 := vDWhole w.heap.size c awT 2 d1 ⟨#[97, 97, 98]⟩ [97, 97, 98] rfl w2 hc2 (HT.out.on hw2)
  rw [aw_r1, aw_whole] at h3
  have H3 := Lib.hid h3; have HB2 := Lib.hid hw2; have HC2 := Lib.hid hc2
  clear h3 hw2 hc2 hb2
  go_wp2_with fail
  refine H3.out.mono ?_
  rintro e w3 ⟨rfl, d3, hc3, hs3, -⟩
  have hw3 := HB2.out.trans (hs3.low HC2.out)
  have h4 := vDWhole w.heap.size c awT 2 d3 ⟨#[97, 98, 120]⟩ [97, 98, 120] rfl w3 hc3 (HT.out.on hw3)
  rw [aw_r2, aw_not] at h4
  have H4 := Lib.hid h4; have HB3 := Lib.hid hw3; have HC3 := Lib.hid hc3
  clear h4 hw3 hc3 hs3
  go_wp2_with fail
  refine H4.out.mono ?_
  rintro e w4 ⟨rfl, d4, hc4, hs4, -⟩
  have hw4 := HB3.out.trans (hs4.low HC3.out)
  have h5 := vDPart w.heap.size c awT 2 d4 ⟨#[120, 97, 98, 121]⟩ [120, 97, 98, 121] rfl w4 hc4 (HT.out.on hw4)
  rw [aw_r3, aw_part] at h5
  have H5 := Lib.hid h5; have HB4 := Lib.hid hw4; have HC4 := Lib.hid hc4
  clear h5 hw4 hc4 hs4
  go_wp2_with fail
  refine H5.out.mono ?_
  rintro e w5 ⟨rfl, d5, hc5, hs5, hp5⟩
  have hw5 := HB4.out.trans (hs5.low HC4.out)
  have hl5 := hc5.gc.len
  rw [List.length_map] at hl5
  have hp5 := hp5 (by decide)
  have h6 : ∀ wx, wx = w5 → _ := fun wx hx => hx ▸ vStates w.heap.size c awT 2 d5 w5 hc5
  obtain ⟨M, hM⟩ : ∃ M, d5.ds.length = M := ⟨_, rfl⟩
  rw [hM] at h6 hl5 hp5
  have H6 := Lib.hid h6; have HB5 := Lib.hid hw5
  clear h6 hw5 hc5 hs5 hM
  have z1 : (1 : Int) ≤ (M : Int) := by omega
  have z2 : (M : Int) ≤ 2 := by omega
  go_wp2_with (with_reducible refine (H6.out _ rfl).mono ?_; rintro e wy ⟨rfl, hz⟩; obtain rfl : w5 = wy := hz.symm)
  go_ret
  exact ⟨rfl, HB5.out⟩
end Go.Proofs.YtmcacicopgckmaaGreatDoor
/-! DfaResets: the walk -/
namespace Go.Proofs.YtmcacicopgckmaaGreatDoor
open Go.RowKit Garner
theorem MatIs.keepM {w w' : World} {b : Nat} {t : Re} (h : MatIs w b t) (hk : KeepM TC w w') : MatIs w' b t := by
  obtain ⟨W0, B, L, g, h1, h2, h3, h4⟩ := h
  exact ⟨w', B, L, g, hk.blk h1 (by decide), (h2.self h3).selfM hk (by decide) (by decide) (by decide), Below.refl _ _, h4⟩
/-- two caches and a matcher of one tree -/
structure Res3 (w0 w : World) (ca cb bm : Nat) (t : Re) (k : Nat) (da db : CacheD) : Prop where
  a : CacheIs w0.heap.size w ca t k da
  b : CacheIs w0.heap.size w cb t k db
  m : MatIs w bm t
  dis : ∀ x ∈ da.S ca, x ∉ db.S cb
  low : Below w0.heap.size w0 w
section
variable {w0 w w' : World} {ca cb bm : Nat} {t : Re} {k : Nat} {da db d' : CacheD}
theorem Res3.below (h : Res3 w0 w ca cb bm t k da db) (hb : Below w.heap.size w w') : Res3 w0 w' ca cb bm t k da db :=
  ⟨h.a.below hb, h.b.below hb, h.m.below hb, h.dis, h.low.trans (hb.mono h.low.size)⟩
theorem Res3.chgA (h : Res3 w0 w ca cb bm t k da db) (hc : CacheIs w0.heap.size w' ca t k d') (hb : But (da.S ca) w w') (hk : KeepM TC w w') (hs : ∀ x ∈ d'.S ca, x ∈ da.S ca ∨ w.heap.size ≤ x) : Res3 w0 w' ca cb bm t k d' db :=
  ⟨hc, h.b.other hb hk fun x hx hm => h.dis x hm hx, h.m.keepM hk, fun x hx hm => by
    rcases hs x hx with h1 | h1
    · exact h.dis x h1 hm
    · have := (h.b.mem x hm).2; omega, h.low.trans (hb.below h.low.size fun x hx => (h.a.mem x hx).1)⟩
theorem Res3.chgB (h : Res3 w0 w ca cb bm t k da db) (hc : CacheIs w0.heap.size w' cb t k d') (hb : But (db.S cb) w w') (hk : KeepM TC w w') (hs : ∀ x ∈ d'.S cb, x ∈ db.S cb ∨ w.heap.size ≤ x) : Res3 w0 w' ca cb bm t k da d' :=
  ⟨h.a.other hb hk h.dis, hc, h.m.keepM hk, fun x hx hm => by
    rcases hs x hm with h1 | h1
    · exact h.dis x hx h1
    · have := (h.a.mem x hx).2; omega, h.low.trans (hb.below h.low.size fun x hx => (h.b.mem x hx).1)⟩
end
set_option maxRecDepth 100000 in
set_option maxHeartbeats 64000000 in
theorem lawDT (S : ByteArray) (s : Bs) (ls : List ByteArray) (A : Option Addr) (n c B m8 : Nat) (hS : S = ⟨s.toArray⟩) (hn : ls.length = n) (w : World) (hr : Row w B 1 A n (ls.map Value.string)) (hB : B ≤ w.heap.size) (hL : Lt w) (hT : TabW w.heap.size w) (b1 : s.length ≤ 140737488355328) (b3 : n ≤ 140737488355328) (hm8 : m8 < 256) :
    Calls Tryz.prog 7 #[.string S, .slice A n c, .int .u8 (m8 : Nat)] w fun e w' => e = .returned (.bool true) ∧ Below w.heap.size w w' := by
  have h1 := vAwake20 w hL hT
  obtain ⟨k, hk⟩ : ∃ k, m8 % 33 = k := ⟨_, rfl⟩
  have hk33 : k ≤ 32 := by omega
  have wk : ((m8 : Int)) % 33 = (k : Int) := by omega
  have HS := Lib.hid hS; have HL := Lib.hid hL; have H1 := Lib.hid h1; have Hn := Lib.hid hn; have HR := Lib.hid hr; have HT := Lib.hid hT
  clear h1 hS hL hn hr hT hk
  go_enter Tryz.func7, Tryz.ntmps7
  go_wp2_with fail
  refine H1.out.mono ?_
  rintro e w1 ⟨rfl, hb1⟩
  have h2 := vDNew s S HS.out (k : Int) w1 (HL.out.below hb1) (by omega)
  have H2 := Lib.hid h2; have HW1 := Lib.hid hb1
  clear h2 hb1
  go_wp2_with fail
  refine H2.out.mono ?_
  rintro e w2 ⟨pa, ka, rfl, hb2, hna⟩
  have hw2 := HW1.out.trans (hb2.mono HW1.out.size)
  have h3 := vDNew s S HS.out (k : Int) w2 (HL.out.below hw2) (by omega)
  have H3 := Lib.hid h3; have HW2 := Lib.hid hw2; have HNa := Lib.hid hna
  clear h3 hb2 hna hw2
  go_wp2_with fail
  refine H3.out.mono ?_
  rintro e w3 ⟨pb, kb, rfl, hb3, hnb⟩
  have hw3 := HW2.out.trans (hb3.mono HW2.out.size)
  have h4 := vNewA s S HS.out w3 (HL.out.below hw3) (by omega)
  have H4 := Lib.hid h4; have HW3 := Lib.hid hw3; have HNb := Lib.hid hnb; have HB3 := Lib.hid hb3
  clear h4 hb3 hnb hw3
  go_wp2_with fail
  refine H4.out.mono ?_
  rintro e w4 ⟨pm, km, rfl, hb4, hnm⟩
  have hw4 := HW3.out.trans (hb4.mono HW3.out.size)
  have hna := HNa.out
  have hnb := HNb.out
  unfold NewDK at hna hnb
  rw [if_neg (by omega)] at hna hnb
  have he := fun q => @err_pos s q
  cases hx : rexpP s with
  | error q =>
    rw [hx] at hna hnb hnm
    obtain ⟨rfl, e1, hq1, hq2⟩ := hna
    obtain ⟨rfl, e2, -, -⟩ := hnb
    obtain ⟨rfl, e3, -, -⟩ := hnm
    have z1 : ¬ (ka : Int) = 0 := by omega
    obtain rfl : kb = ka := by omega
    obtain rfl : km = kb := by omega
    clear e1 e2 e3
    have HW4 := Lib.hid hw4
    clear hx he hw4 hb4 HNa HNb HB3
    go_wp2
    go_loopw [14] (fun i wr => ∃ j : Nat, j ≤ n ∧ i = .int .i64 j ∧ wr = w4) (fun i _ => n - (intOf i).toNat)
    case atStart => exact ⟨0, Nat.zero_le _, rfl, rfl⟩
    case round =>
      obtain ⟨j, hj, rfl, hwr⟩ := hrel
      obtain rfl : w4 = wr := hwr.symm
      by_cases hlt : j < n
      · have z2 : (j : Int) < (n : Int) := by omega
        go_wp2_with fail
        go_ret
        exact ⟨rfl, HW4.out⟩
      · have z2 : ¬ (j : Int) < (n : Int) := by omega
        go_wp2_with fail
        go_ret
        exact ⟨rfl, HW4.out⟩
  | ok t =>
    rw [hx] at hna hnb hnm
    obtain ⟨rfl, ca, ma, da, hma, rfl, hca, hda⟩ := hna
    obtain ⟨rfl, cb, mb, db, hmb, rfl, hcb, hdb⟩ := hnb
    obtain ⟨rfl, bm, rfl, hmm⟩ := hnm
    obtain rfl : ma = k := by omega
    obtain rfl : mb = ma := by omega
    have s1 := HW1.out.size
    have s2 := HW2.out.size
    have hres : Res3 w w4 ca cb bm t mb da db := ⟨((hca.below HB3.out).below hb4).mono s1, (hcb.below hb4).mono s2, hmm, fun x hx hm => by
      have h5 := (hca.mem x hx).2
      have h6 := (hcb.mem x hm).1
      omega, hw4⟩
    have HRes := Lib.hid hres; have Hdb := Lib.hid hdb
    clear hres hca hcb hmm hdb hx he hw4 hb4 HNa HNb HB3 hma hmb hda
    go_wp2
    go_loopw [14] (fun i wr => ∃ (j : Nat) (da db : CacheD), j ≤ n ∧ i = .int .i64 j ∧ Hid (Res3 w wr ca cb bm t mb da db) ∧ Hid (db.ds = [])) (fun i _ => n - (intOf i).toNat)
    case atStart => exact ⟨0, da, db, Nat.zero_le _, rfl, HRes, Hdb⟩
    case round =>
      obtain ⟨j, da, db, hj, rfl, hres, hdb⟩ := hrel
      have wj1 : IntKind.i64.wrap ((j : Int) + 1) = ((j + 1 : Nat) : Int) := by rw [IntKind.wrap_i64]; omega
      by_cases hlt : j < n
      · have z2 : (j : Int) < (n : Int) := by omega
        obtain ⟨x, hx⟩ : ∃ x, ls[j]? = some x := ⟨_, List.getElem?_eq_getElem (by rw [Hn.out]; exact hlt)⟩
        obtain ⟨b, off, rfl, hbB, hcell⟩ := HR.out.2 (by omega)
        have cx0 := hcell j (.string x) (by rw [List.getElem?_map, hx]; rfl)
        have cxx : ∀ wq, Below w.heap.size w wq → wq.cell? ⟨b, off + j, none⟩ = some (.string x) := fun wq hq => by
          rw [hq.cell (p := ⟨b, off + j, none⟩) (by show b < _; omega)]; exact cx0
        obtain ⟨xl, hxl⟩ : ∃ xl : Bs, x.data.toList = xl := ⟨_, rfl⟩
        have ex2 : x = ⟨xl.toArray⟩ := by rw [← hxl]
        obtain ⟨px, hpx⟩ : ∃ px, partB t (runesP xl) = px := ⟨_, rfl⟩
        obtain ⟨wy, hwy⟩ : ∃ wy, wholeB t (runesP xl) = wy := ⟨_, rfl⟩
        have c1 := cxx wr hres.out.low
        have p1 := vDPart _ ca t mb da x xl ex2 wr hres.out.a (HT.out.on hres.out.low)
        rw [hpx] at p1
        have P1 := Lib.hid p1; have CXX := Lib.hid cxx; have Hpx := Lib.hid hpx; have Hwy := Lib.hid hwy; have Ex2 := Lib.hid ex2
        clear p1 cxx hpx hwy ex2 hxl hcell cx0 hx
        go_wp2_with fail
        refine P1.out.mono ?_
        rintro e v1 ⟨rfl, da1, hc1, hs1, -⟩
        have r1 := hres.out.chgA hc1 hs1.but hs1.keep hs1.sub
        have c2 := CXX.out v1 r1.low
        have p2 := vDWhole _ ca t mb da1 x xl Ex2.out v1 r1.a (HT.out.on r1.low)
        rw [Hwy.out] at p2
        have P2 := Lib.hid p2; have R1 := Lib.hid r1
        clear p2 r1 hc1 hs1 c1 P1 hres
        go_wp2_with fail
        refine P2.out.mono ?_
        rintro e v2 ⟨rfl, da2, hc2, hs2, -⟩
        have r2 := R1.out.chgA hc2 hs2.but hs2.keep hs2.sub
        have c3 := CXX.out v2 r2.low
        obtain ⟨M, hM⟩ : ∃ M, da2.ds.length = M := ⟨_, rfl⟩
        have hMk := r2.a.gc.len
        rw [List.length_map, hM] at hMk
        have p3 := vStates _ ca t mb da2 v2 r2.a
        have p4 := vStates _ cb t mb db v2 r2.b
        rw [hM] at p3
        rw [hdb.out] at p4
        have P3 := Lib.hid p3; have P4 := Lib.hid p4; have R2 := Lib.hid r2; have HM := Lib.hid hM
        clear p3 p4 r2 hc2 hs2 c2 P2 R1 hM
        have z3 : ¬ (M : Int) > (mb : Int) := by omega
        go_wp2_with fail
        with_reducible refine P3.out.mono ?_
        rintro e wy1 ⟨rfl, hz⟩
        obtain rfl : v2 = wy1 := hz.symm
        go_wp2_with fail
        with_reducible refine P4.out.mono ?_
        rintro e wy1 ⟨rfl, hz⟩
        obtain rfl : v2 = wy1 := hz.symm
        have p5 := vDPart _ cb t mb db x xl Ex2.out v2 R2.out.b (HT.out.on R2.out.low)
        rw [Hpx.out] at p5
        have P5 := Lib.hid p5
        clear p5
        go_wp2_with fail
        refine P5.out.mono ?_
        rintro e v3 ⟨rfl, db3, hc3, hs3, -⟩
        have r3 := R2.out.chgB hc3 hs3.but hs3.keep hs3.sub
        have c4 := CXX.out v3 r3.low
        have p6 := vDWhole _ cb t mb db3 x xl Ex2.out v3 r3.b (HT.out.on r3.low)
        rw [Hwy.out] at p6
        have P6 := Lib.hid p6; have R3 := Lib.hid r3
        clear p6 r3 hc3 hs3 c3 P5
        go_wp2_with fail
        refine P6.out.mono ?_
        rintro e v4 ⟨rfl, db4, hc4, hs4, -⟩
        have r4 := R3.out.chgB hc4 hs4.but hs4.keep hs4.sub
        have c5 := CXX.out v4 r4.low
        have p7 := r4.m.partA Ex2.out v4 (Below.refl _ _)
        rw [Hpx.out] at p7
        have P7 := Lib.hid p7; have R4 := Lib.hid r4
        clear p7 r4 hc4 hs4 c4 P6 R3
        go_wp2_with fail
        with_reducible refine P7.out.mono ?_
        rintro e v5 ⟨rfl, hb5⟩
        have r5 := R4.out.below hb5
        have c6 := CXX.out v5 r5.low
        have p8 := r5.m.wholeA Ex2.out v5 (Below.refl _ _)
        rw [Hwy.out] at p8
        have P8 := Lib.hid p8; have R5 := Lib.hid r5
        clear p8 r5 hb5 c5 P7 R4
        go_wp2_with fail
        with_reducible refine P8.out.mono ?_
        rintro e v6 ⟨rfl, hb6⟩
        have r6 := R5.out.below hb6
        have p9 := vStates _ ca t mb da2 v6 r6.a
        rw [HM.out] at p9
        have p10 := vReset _ cb t mb db4 v6 r6.b
        have P9 := Lib.hid p9; have P10 := Lib.hid p10; have R6 := Lib.hid r6
        clear p9 p10 r6 hb6 c6 P8 R5
        go_wp2_with fail
        with_reducible refine P9.out.mono ?_
        rintro e wy1 ⟨rfl, hz⟩
        obtain rfl : v6 = wy1 := hz.symm
        go_wp2_with fail
        refine P10.out.mono ?_
        rintro e v7 ⟨rfl, db7, hc7, hd7, hbu7, hke7, hsu7⟩
        have r7 := R6.out.chgB hc7 hbu7 hke7 hsu7
        have R7 := Lib.hid r7; have D7 := Lib.hid hd7
        clear r7 hc7 hd7 hbu7 hke7 hsu7 P9 P10 R6
        go_wp2
        go_roundw
        case rel => exact ⟨j + 1, da2, db7, by omega, by go_num, R7, D7⟩
        case measure => simp [intOf]; omega
      · have z2 : ¬ (j : Int) < (n : Int) := by omega
        go_wp2_with fail
        go_ret
        exact ⟨rfl, hres.out.low⟩
end Go.Proofs.YtmcacicopgckmaaGreatDoor
