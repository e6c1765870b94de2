import Derived.Test.YtcjapjnhejenaaaDoorLawHK
import Derived.Test.YtcjapjnhejenaaaDoorHtT
import Derived.Test.YtcjapjnhejenaaaDoorHtU
/-! HttpLimits: the walk -/
namespace Garner
open Go
def padZ (k : Nat) : Bs := List.replicate k 121 ++ List.replicate (2017 - k) 0
end Garner
namespace Go.Proofs.YtcjapjnhejenaaaDoor
open Go.RowKit Go.Shelf Garner

theorem padZ_set {k : Nat} (h : k < 2017) : ((padZ k).map bv).set k (.int .u8 121) = (padZ (k + 1)).map bv := by
  unfold padZ
  obtain ⟨m, hm⟩ : ∃ m, 2017 - k = m + 1 := ⟨2017 - k - 1, by omega⟩
  rw [hm, show 2017 - (k + 1) = m by omega, List.map_append, List.map_append, List.set_append_right _ _ (by simp), List.length_map, List.length_replicate, Nat.sub_self, List.replicate_succ, List.map_cons, List.set_cons_zero, List.replicate_succ', List.map_append, List.append_assoc]
  rfl
theorem mkZ (n : Nat) (u : World) (hn : n ≤ 10000) : ∃ w', (Instr.makeSlice 22 (.int .i64 n) (.int .i64 n)).run Tryd.prog u = .ok (.slice (some ⟨u.heap.size, 0, none⟩) n n) w' ∧
    w'.ownsRow u.heap.size 5 1 (.slice (some ⟨u.heap.size, 0, none⟩) n n) n ((List.replicate n (0 : UInt8)).map bv) ∧ Below u.heap.size u w' := by
  obtain ⟨i, hi, hz, hsz, hby⟩ : ∃ i, Tryd.prog.info? 5 = some i ∧ i.zero = some (.int .u8 0) ∧ i.size = 1 ∧ i.bytes = 1 := by
    have h := bytesE.info
    cases hi : Tryd.prog.info? 5 with
    | none => rw [hi] at h; cases h
    | some i => rw [hi] at h; simp at h; exact ⟨i, rfl, h.1, h.2.1, h.2.2⟩
  obtain ⟨w', h1, h2, h3⟩ := run_make_full (P := Tryd.prog) u u.heap.size 22 5 i _ 1 bytesE.slice hi hz hsz .i64 .i64 n (by rw [hby]; omega) (by unfold maxLen; omega) (Nat.le_refl _)
  refine ⟨w', h1, ?_, (But.grown (S := []) h3 (by simp)).below (Nat.le_refl _) (by simp)⟩
  have e : (madeCells (Value.int .u8 0).cells (n * 1)).toList = (List.replicate n (0 : UInt8)).map bv := by
    rw [Nat.mul_one, List.map_replicate]
    apply List.ext_getElem
    · simp [madeCells]
    · intro k h1 h2
      simp [madeCells, Value.cells, bv, Nat.mod_one]
  rw [← e]; exact h2
theorem long_cat : (⟨#[71, 69, 84, 32, 47, 32, 72, 84, 84, 80, 47, 49, 46, 49, 13, 10, 72, 111, 115, 116, 58, 32, 120, 13, 10, 88, 58]⟩ ++ ⟨(padZ 2017).toArray⟩ : ByteArray) = ⟨longL.toArray⟩ := by
  have h : longL = [71, 69, 84, 32, 47, 32, 72, 84, 84, 80, 47, 49, 46, 49, 13, 10, 72, 111, 115, 116, 58, 32, 120, 13, 10, 88, 58] ++ List.replicate 2017 121 := rfl
  have h2 : padZ 2017 = List.replicate 2017 121 := by
    unfold padZ
    rw [Nat.sub_self, List.replicate_zero, List.append_nil]
  rw [h, h2]
  generalize List.replicate 2017 (121 : UInt8) = r
  apply ByteArray.ext
  simp
theorem cat_str (lg : ByteArray) (l m : Bs) (h : lg = ⟨l.toArray⟩) (N : Nat) (hN : l.length + m.length = N) : ∃ s : ByteArray, lg ++ ⟨m.toArray⟩ = s ∧ s.data.toList = l ++ m ∧ s.size = N := by
  refine ⟨⟨(l ++ m).toArray⟩, ?_, by simp, by rw [str_size, List.length_append]; exact hN⟩
  rw [h]
  apply ByteArray.ext
  simp
def startP : Bs := [80, 79, 83, 84, 32, 47, 32, 72, 84, 84, 80, 47, 49, 46, 49, 13, 10, 72, 111, 115, 116, 58, 32, 120, 13, 10, 67, 111, 110, 116, 101, 110, 116, 45, 76, 101, 110, 103, 116, 104, 58, 32]
theorem post_cat (d : Nat) (z : Bs) : startP ++ decP d ++ crlf2 ++ z = postH d ++ (crlf ++ z) := by
  simp [startP, postH, hdP, postL, hostL, lenL, lenName, crlf, crlf2]
/-- a post's text, as the walk makes it -/
theorem post_str (d : Nat) (hd : d ≤ 100000) : ∃ dv g1 g2 : ByteArray, dv = ⟨(decP d).toArray⟩ ∧ (⟨#[80, 79, 83, 84, 32, 47, 32, 72, 84, 84, 80, 47, 49, 46, 49, 13, 10, 72, 111, 115, 116, 58, 32, 120, 13, 10, 67, 111, 110, 116, 101, 110, 116, 45, 76, 101, 110, 103, 116, 104, 58, 32]⟩ ++ dv : ByteArray) = g1 ∧ g1 ++ ⟨#[13, 10, 13, 10]⟩ = g2 ∧ dv.size ≤ 10 ∧ g1.size ≤ 100 ∧ g2.size ≤ 100 ∧ g2 = ⟨(startP ++ decP d ++ crlf2).toArray⟩ := by
  have hl := decP_len 5 d (by omega)
  refine ⟨_, ⟨(startP ++ decP d).toArray⟩, ⟨(startP ++ decP d ++ crlf2).toArray⟩, rfl, ?_, ?_, by rw [str_size]; omega, by rw [str_size]; simp [startP]; omega, by rw [str_size]; simp [startP, crlf2]; omega, rfl⟩
  · apply ByteArray.ext; simp [startP]
  · apply ByteArray.ext; simp [crlf2]
theorem sParse (s : ByteArray) (N : Nat) (u : World) (hL : Lt u) (hs : s.size = N) (hN : N ≤ 100000) (ls : Bs) (hd : s.data.toList = ls) :
    ∃ c u1, (convert 9 22 (.string s)).run Tryd.prog u = .ok (.slice (some ⟨u.heap.size, 0, none⟩) N c) u1 ∧ Below u.heap.size u u1 ∧
      Calls Tryd.prog 9 #[.slice (some ⟨u.heap.size, 0, none⟩) N c] u1 fun e w' => ∃ (x0 x1 : ByteArray) (A2 : Option Addr) (n2 c2 : Nat) (A3 : Option Addr) (n3 c3 : Nat), e = .returned (.tuple #[.agg #[.string x0, .string x1, .slice A2 n2 c2, .slice A3 n3 c3], .int .i64 (nOf (parseP ls)), .int .i64 (eOf (parseP ls))]) ∧ Below u.heap.size u w' := by
  obtain ⟨c, u1, h1, h2, h3, h4, h5⟩ := conv_bytes s u
  have hlen : ls.length = N := by rw [← hd, ← hs, Lib.size_eq]
  rw [hs] at h1 h4 h5
  rw [hd] at h5
  refine ⟨c, u1, h1, h2, ?_⟩
  have hp := oParse ls (some ⟨u.heap.size, 0, none⟩) c (u.heap.size + 1) u1 (hL.below h2) (by rw [hlen]; exact h5) (by omega) (by omega) (fun e => by cases e) (by omega)
  rw [hlen] at hp
  refine hp.mono ?_
  rintro e w' ⟨x0, x1, A2, n2, c2, A3, n3, c3, he, -, hb⟩
  exact ⟨x0, x1, A2, n2, c2, A3, n3, c3, he, h2.trans (hb.mono h2.size)⟩
set_option maxRecDepth 100000 in
set_option maxHeartbeats 8000000 in
theorem lawHL (n more : Nat) (w : World) (hL : Lt w) (hn : n < 65536) (hm : more < 256) :
    Calls Tryd.prog 5 #[.int .u16 n, .int .u8 more] w fun e w' => e = .returned (.bool true) ∧ Below w.heap.size w w' := by
  go_enter Tryd.func5, Tryd.ntmps5
  go_wp2_with fail
  refine (awake26 w hL).mono ?_
  rintro e w1 ⟨rfl, hb1⟩
  have s1 := hb1.size
  obtain ⟨w2, hmk, own2, hb2⟩ := mkZ 2017 w1 (by omega)
  have hmk : (Instr.makeSlice 22 (.int .i64 2017) (.int .i64 2017)).run Tryd.prog w1 = .ok (.slice (some ⟨w1.heap.size, 0, none⟩) 2017 2017) w2 := hmk
  have hbw2 := hb1.trans (hb2.mono s1)
  have own2 : w2.ownsRow w.heap.size 5 1 (.slice (some ⟨w1.heap.size, 0, none⟩) 2017 2017) 2017 ((padZ 0).map bv) := own_mono own2 s1
  have s2 := hbw2.size
  clear hb2
  go_wp2
  go_loopw [7] (fun i wr => ∃ (k : Nat), k ≤ 2017 ∧ i = .int .i64 k ∧ wr.ownsRow w.heap.size 5 1 (.slice (some ⟨w1.heap.size, 0, none⟩) 2017 2017) 2017 ((padZ k).map bv) ∧ Below w.heap.size w wr) (fun i _ => 2017 - (intOf i).toNat)
  case atStart => exact ⟨0, by omega, rfl, own2, hbw2⟩
  case round =>
    obtain ⟨k, hk, rfl, own1, hbr⟩ := hrel
    obtain ⟨wo, rfl⟩ : ∃ wo : World, wo = wr := ⟨_, rfl⟩
    by_cases hlt : k < 2017
    · have lt1 : (k : Int) < 2017 := by omega
      have w1' : IntKind.i64.wrap ((k : Int) + 1) = (k : Int) + 1 := by rw [IntKind.wrap_i64]; omega
      obtain ⟨g', hg', -, hg6, -, -, hcell⟩ := own_at own1 (by omega)
      cases hg'
      have hxl : ((padZ k).map bv).length = 2017 := by have := own1.1; omega
      have ck : wo.cell? ⟨w1.heap.size, k, none⟩ = some (((padZ k).map bv)[k]'(by omega)) := by rw [hcell k (by omega), List.getElem?_eq_getElem (by omega)]
      have fk := own1.frozenAt k
      have oS := own_setC (j := k) (u := .int .u8 121) own1
      rw [padZ_set hlt] at oS
      have OS := Lib.hid oS
      clear hcell oS
      go_wp2
      exact ⟨⟨k + 1, by omega, by simp, OS.out, hbr.setCell (p := ⟨w1.heap.size, k, none⟩) (by show w.heap.size ≤ w1.heap.size; omega) _⟩, by simp [intOf]; omega⟩
    · obtain rfl : k = 2017 := by omega
      have lt1 : ¬ (2017 : Int) < 2017 := by omega
      have sr := hbr.size
      have st1 := run_str (c := 2017) (l := padZ 2017) (Row.of_own own1)
      obtain ⟨pv, hpv⟩ : ∃ pv : ByteArray, pv = ⟨(padZ 2017).toArray⟩ := ⟨_, rfl⟩
      have hps : pv.size = 2017 := by rw [hpv, str_size]; simp [padZ]
      obtain ⟨lg, hlg⟩ : ∃ lg : ByteArray, lg = ⟨longL.toArray⟩ := ⟨_, rfl⟩
      have es0 : (⟨#[71, 69, 84, 32, 47, 32, 72, 84, 84, 80, 47, 49, 46, 49, 13, 10, 72, 111, 115, 116, 58, 32, 120, 13, 10, 88, 58]⟩ ++ pv : ByteArray) = lg := by
        rw [hpv, hlg]; exact long_cat
      have hgs : lg.size = 2044 := by rw [hlg, str_size]; exact long_len
      rw [← hpv] at st1
      clear hpv own1
      obtain ⟨l1, es1, hd1, z1⟩ := cat_str lg longL crlf2 hlg 2048 (by rw [long_len]; rfl)
      obtain ⟨l2, es2, hd2, z2⟩ := cat_str lg longL (121 :: crlf2) hlg 2049 (by rw [long_len]; rfl)
      obtain ⟨l3, es3, hd3, z3⟩ := cat_str lg longL (List.replicate 4 121) hlg 2048 (by rw [long_len]; rfl)
      obtain ⟨l4, es4, hd4, z4⟩ := cat_str lg longL (List.replicate 3 121) hlg 2047 (by rw [long_len]; rfl)
      have es1 : (lg ++ ⟨#[13, 10, 13, 10]⟩ : ByteArray) = l1 := es1
      have es2 : (lg ++ ⟨#[121, 13, 10, 13, 10]⟩ : ByteArray) = l2 := es2
      have es3 : (lg ++ ⟨#[121, 121, 121, 121]⟩ : ByteArray) = l3 := es3
      have es4 : (lg ++ ⟨#[121, 121, 121]⟩ : ByteArray) = l4 := es4
      clear hlg
      obtain ⟨W1, hW1⟩ : ∃ W, W = wo := ⟨_, rfl⟩
      have hbW1 : Below w.heap.size w W1 := by rw [hW1]; exact hbr
      subst hW1
      obtain ⟨q, hq⟩ := lim1
      have e1 : eOf (parseP (longL ++ crlf2)) = 0 := by rw [hq]; rfl
      have n1 : nOf (parseP (longL ++ crlf2)) = 2048 := by rw [hq]; rfl
      have e2 : eOf (parseP (longL ++ (121 :: crlf2))) = 61 := by rw [lim2]; rfl
      have e3 : eOf (parseP (longL ++ List.replicate 4 121)) = 61 := by rw [lim34]; rfl
      have e4 : eOf (parseP (longL ++ List.replicate 3 121)) = 5 := by rw [lim34]; rfl
      have E1 := Lib.hid e1; have N1 := Lib.hid n1; have E2 := Lib.hid e2; have E3 := Lib.hid e3; have E4 := Lib.hid e4
      clear hq e1 n1 e2 e3 e4
      obtain ⟨d1, V1, k1, -, hp1⟩ := sParse l1 2048 W1 (hL.below hbW1) z1 (by omega) _ hd1
      simp only [E1.out, N1.out] at hp1
      go_wp2_with fail
      refine hp1.mono ?_
      rintro e U1 ⟨x0, x1, A2, n2, c2, A3, n3, c3, rfl, hb⟩
      obtain ⟨W2, hW⟩ : ∃ W, W = U1.alloc (.cells #[.string x0, .string x1, .slice A2 n2 c2, .slice A3 n3 c3] 26) := ⟨_, rfl⟩
      have hbW2 : Below w.heap.size w W2 := by rw [hW]; exact (hbW1.trans (hb.mono hbW1.size)).alloc (hbW1.trans (hb.mono hbW1.size)).size _
      go_upto_region 11 with fail
      rw [← hW]
      clear hW hb hp1 k1
      obtain ⟨d2, V2, k2, -, hp2⟩ := sParse l2 2049 W2 (hL.below hbW2) z2 (by omega) _ hd2
      simp only [E2.out] at hp2
      go_wp2_with fail
      refine hp2.mono ?_
      rintro e U2 ⟨x0, x1, A2, n2, c2, A3, n3, c3, rfl, hb⟩
      obtain ⟨W3, hW⟩ : ∃ W, W = U2.alloc (.cells #[.string x0, .string x1, .slice A2 n2 c2, .slice A3 n3 c3] 26) := ⟨_, rfl⟩
      have hbW3 : Below w.heap.size w W3 := by rw [hW]; exact (hbW2.trans (hb.mono hbW2.size)).alloc (hbW2.trans (hb.mono hbW2.size)).size _
      go_upto_region 12 with fail
      rw [← hW]
      clear hW hb hp2 k2
      obtain ⟨d3, V3, k3, -, hp3⟩ := sParse l3 2048 W3 (hL.below hbW3) z3 (by omega) _ hd3
      simp only [E3.out] at hp3
      go_wp2_with fail
      refine hp3.mono ?_
      rintro e U3 ⟨x0, x1, A2, n2, c2, A3, n3, c3, rfl, hb⟩
      obtain ⟨W4, hW⟩ : ∃ W, W = U3.alloc (.cells #[.string x0, .string x1, .slice A2 n2 c2, .slice A3 n3 c3] 26) := ⟨_, rfl⟩
      have hbW4 : Below w.heap.size w W4 := by rw [hW]; exact (hbW3.trans (hb.mono hbW3.size)).alloc (hbW3.trans (hb.mono hbW3.size)).size _
      go_upto_region 13 with fail
      rw [← hW]
      clear hW hb hp3 k3
      obtain ⟨d4, V4, k4, -, hp4⟩ := sParse l4 2047 W4 (hL.below hbW4) z4 (by omega) _ hd4
      simp only [E4.out] at hp4
      go_wp2_with fail
      refine hp4.mono ?_
      rintro e U4 ⟨x0, x1, A2, n2, c2, A3, n3, c3, rfl, hb⟩
      obtain ⟨W5, hW⟩ : ∃ W, W = U4.alloc (.cells #[.string x0, .string x1, .slice A2 n2 c2, .slice A3 n3 c3] 26) := ⟨_, rfl⟩
      have hbW5 : Below w.heap.size w W5 := by rw [hW]; exact (hbW4.trans (hb.mono hbW4.size)).alloc (hbW4.trans (hb.mono hbW4.size)).size _
      go_upto_region 14 with fail
      rw [← hW]
      clear hW hb hp4 k4
      clear es0 es1 es2 es3 es4 hd1 hd2 hd3 hd4 z1 z2 z3 z4 st1 hps hgs
      obtain ⟨r, hr⟩ : ∃ r, more % 2 = r := ⟨_, rfl⟩
      have hr2 : r < 2 := by omega
      obtain ⟨kk, hkk⟩ : ∃ kk : Nat, kk = 8192 + r := ⟨_, rfl⟩
      have q1 : (more : Int).tmod 2 = (r : Int) := by rw [Int.tmod_eq_emod_of_nonneg (by omega)]; omega
      have q2 : IntKind.u8.wrap (r : Int) = (r : Int) := by simp [IntKind.wrap, IntKind.bits, IntKind.signed]; omega
      have q3 : IntKind.i64.wrap (r : Int) = (r : Int) := by rw [IntKind.wrap_i64]; omega
      have q4 : 8192 + (r : Int) = (kk : Int) := by omega
      have q5 : IntKind.i64.wrap (kk : Int) = (kk : Int) := by rw [IntKind.wrap_i64]; omega
      have Hr := Lib.hid hr; clear hr
      have Hkk := Lib.hid hkk; clear hkk
      have hk1 : 8192 ≤ kk := by have := Hkk.out; omega
      have hk2 : kk ≤ 8193 := by have := Hkk.out; omega
      obtain ⟨w6, hmk6, own6, hb6⟩ := mkZ kk W5 (by omega)
      have hbw6 := hbW5.trans (hb6.mono hbW5.size)
      clear hb6
      obtain ⟨dv, g1, g2, hdv, es5, es6, y1, y2, y3, hg2⟩ := post_str kk (by omega)
      obtain ⟨bz, hbz⟩ : ∃ bz : ByteArray, bz = ⟨(List.replicate kk (0 : UInt8)).toArray⟩ := ⟨_, rfl⟩
      have y4 : bz.size = kk := by rw [hbz, str_size, List.length_replicate]
      have y6 : ¬ 9223372036854775807 < 42 + dv.size := by omega
      have y7 : ¬ 9223372036854775807 < g1.size + 4 := by omega
      have y8 : ¬ 9223372036854775807 < g2.size + kk := by omega
      obtain ⟨g3, es7, hd5, y5⟩ := cat_str g2 _ (List.replicate kk (0 : UInt8)) hg2 _ rfl
      rw [← hbz] at es7
      rw [post_cat] at hd5
      obtain ⟨nn, hnn⟩ : ∃ nn, (startP ++ decP kk ++ crlf2).length + (List.replicate kk (0 : UInt8)).length = nn := ⟨_, rfl⟩
      have hnn2 : nn ≤ 100000 := by
        have hl := decP_len 5 kk (by omega)
        rw [← hnn]; simp [startP, crlf2]; omega
      rw [hnn] at y5
      have cdec : ∀ u, Calls Tryd.prog 12 #[.int .i64 kk] u fun e w' => e = .returned (.string dv) ∧ w' = u := fun u => by
        rw [hdv]; exact vDecimal kk u (by omega)
      have rowZ := Row.of_own own6
      have e5 := lim5 kk (by omega) (List.replicate kk 0) (by simp)
      obtain ⟨x5, hx5⟩ : ∃ x5, eOf (parseP (postH kk ++ (crlf ++ List.replicate kk 0))) = x5 := ⟨_, rfl⟩
      rw [hx5] at e5
      have E5 := Lib.hid e5; clear e5
      have rS0 : Below w6.heap.size w6 w6.drew := (Below.refl _ _).drew
      obtain ⟨d5, V5, k5, hk5, hp5⟩ := sParse g3 nn w6.drew (hL.below hbw6.drew) y5 hnn2 _ hd5
      rw [hx5] at hp5
      have hbz' : ∀ u, Below w6.heap.size w6 u → (convert 22 9 (.slice (some ⟨W5.heap.size, 0, none⟩) kk kk)).run Tryd.prog u = .ok (.string bz) u := fun u hu => by
        rw [hbz]; exact run_str (l := List.replicate kk (0 : UInt8)) (rowZ.below hu)
      clear hnn hdv hg2 hbz hd5 hx5 rowZ own6
      go_upto_region 19 with fail
      refine wp_region_N (fun w' => Below w6.heap.size w6 w') 100 (by kernel_rfl) ?_
      apply wpAnyN_takeL 0 (by kernel_rfl) rfl (fun _ _ _ h => h) (by kernel_rfl) rS0
      · intro w' hS'
        go_simp; exact ⟨rfl, rfl⟩
      (try simp only [Act.put]); (try simp only [List.setIfInBounds_toArray]); (try simp only [List.set])
      apply wpAnyN_takeL 1 (by kernel_rfl) rfl (fun _ _ _ h => h) (by kernel_rfl) rS0
      · intro w' hS'
        go_simp; exact ⟨rfl, rfl⟩
      (try simp only [Act.put]); (try simp only [List.setIfInBounds_toArray]); (try simp only [List.set])
      apply wpAnyN_takeL 2 (v := (.string dv)) (by kernel_rfl) rfl (fun _ _ _ h => h) (by kernel_rfl) rS0
      · intro w' hS'
        (go_simp; exact ⟨rfl, cdec _⟩)
      (try simp only [Act.put]); (try simp only [List.setIfInBounds_toArray]); (try simp only [List.set])
      apply wpAnyN_takeL 3 (by kernel_rfl) rfl (fun _ _ _ h => h) (by kernel_rfl) rS0
      · intro w' hS'
        go_simp; exact ⟨rfl, rfl⟩
      (try simp only [Act.put]); (try simp only [List.setIfInBounds_toArray]); (try simp only [List.set])
      apply wpAnyN_takeL 4 (by kernel_rfl) rfl (fun _ _ _ h => h) (by kernel_rfl) rS0
      · intro w' hS'
        go_simp; exact ⟨rfl, rfl⟩
      (try simp only [Act.put]); (try simp only [List.setIfInBounds_toArray]); (try simp only [List.set])
      apply wpAnyN_takeL 5 (by kernel_rfl) rfl (fun _ _ _ h => h) (by kernel_rfl) rS0
      · intro w' hS'
        go_simp; exact ⟨rfl, rfl⟩
      (try simp only [Act.put]); (try simp only [List.setIfInBounds_toArray]); (try simp only [List.set])
      apply wpAnyN_takeL 6 (v := (.string bz)) (by kernel_rfl) rfl (fun _ _ _ h => h) (by kernel_rfl) rS0
      · intro w' hS'
        (have hst := hbz' _ hS'; go_simp; exact ⟨rfl, rfl⟩)
      (try simp only [Act.put]); (try simp only [List.setIfInBounds_toArray]); (try simp only [List.set])
      apply wpAnyN_takeL 7 (by kernel_rfl) rfl (fun _ _ _ h => h) (by kernel_rfl) rS0
      · intro w' hS'
        go_simp; exact ⟨rfl, rfl⟩
      (try simp only [Act.put]); (try simp only [List.setIfInBounds_toArray]); (try simp only [List.set])
      refine wpAnyN_runL 8 (by kernel_rfl) rfl (by kernel_rfl) (fun K hK => ?_)
      go_simp
      have rS1 : Below w6.heap.size w6 V5 := rS0.trans hk5
      refine hK _ _ (fun _ => rS1) ?_
      clear hK K
      (try simp only [Act.put]); (try simp only [List.setIfInBounds_toArray]); (try simp only [List.set])
      refine wpAnyN_runL 9 (by kernel_rfl) rfl (by kernel_rfl) (fun K hK => ?_)
      go_simp
      refine hp5.mono ?_
      rintro e U5 ⟨x0, x1, A2, n2, c2, A3, n3, c3, rfl, hb⟩
      have rS2 : Below w6.heap.size w6 U5 := rS0.trans hb
      refine hK _ _ (fun _ => rS2) ?_
      clear hK K
      (try simp only [Act.put]); (try simp only [List.setIfInBounds_toArray]); (try simp only [List.set])
      apply wpAnyN_takeL 10 (by kernel_rfl) rfl (fun _ _ _ h => h) (by kernel_rfl) rS2
      · intro w' hS'
        go_simp; exact ⟨rfl, rfl⟩
      (try simp only [Act.put]); (try simp only [List.setIfInBounds_toArray]); (try simp only [List.set])
      apply wpAnyN_takeL 11 (by kernel_rfl) rfl (fun _ _ _ h => h) (by kernel_rfl) rS2
      · intro w' hS'
        go_simp; exact ⟨rfl, rfl⟩
      (try simp only [Act.put]); (try simp only [List.setIfInBounds_toArray]); (try simp only [List.set])
      apply wpAnyN_takeL 12 (by kernel_rfl) rfl (fun _ _ _ h => h) (by kernel_rfl) rS2
      · intro w' hS'
        go_simp; exact ⟨rfl, rfl⟩
      (try simp only [Act.put]); (try simp only [List.setIfInBounds_toArray]); (try simp only [List.set])
      apply wpAnyN_takeL 13 (by kernel_rfl) rfl (fun _ _ _ h => h) (by kernel_rfl) rS2
      · intro w' hS'
        go_simp; exact ⟨rfl, rfl⟩
      (try simp only [Act.put]); (try simp only [List.setIfInBounds_toArray]); (try simp only [List.set])
      apply wpAnyN_takeL 14 (by kernel_rfl) rfl (fun _ _ _ h => h) (by kernel_rfl) rS2
      · intro w' hS'
        go_simp; exact ⟨rfl, rfl⟩
      (try simp only [Act.put]); (try simp only [List.setIfInBounds_toArray]); (try simp only [List.set])
      refine wpAnyN_done (by kernel_rfl) ?_ _
      have hbU5 := hbw6.trans (rS2.mono hbw6.size)
      clear es5 es6 es7 k5 hp5 hk5 cdec hbz' y6 y7 y8 y4 rS1 rS2 rS0 hb y5
      obtain ⟨m2, hm2⟩ : ∃ m2 : Nat, m2 = 8193 + n := ⟨_, rfl⟩
      have p1 : IntKind.i64.wrap (n : Int) = (n : Int) := by rw [IntKind.wrap_i64]; omega
      have p2 : 8193 + (n : Int) = (m2 : Int) := by omega
      have p3 : IntKind.i64.wrap (m2 : Int) = (m2 : Int) := by rw [IntKind.wrap_i64]; omega
      have hm8 : 8192 < m2 := by omega
      have hm9 : m2 ≤ 100000 := by omega
      clear hm2
      obtain ⟨dv2, h1, h2, hdv2, es8, es9, t1, t2, t3, hh2⟩ := post_str m2 hm9
      have t6 : ¬ 9223372036854775807 < 42 + dv2.size := by omega
      have t7 : ¬ 9223372036854775807 < h1.size + 4 := by omega
      have cdec2 : Calls Tryd.prog 12 #[.int .i64 m2] U5 fun e w' => e = .returned (.string dv2) ∧ w' = U5 := by
        rw [hdv2]; exact vDecimal m2 U5 (by omega)
      have hd6 : h2.data.toList = postH m2 ++ (crlf ++ []) := by
        rw [hh2, ← post_cat]; simp
      obtain ⟨n2', hn2'⟩ : ∃ n2', h2.size = n2' := ⟨_, rfl⟩
      obtain ⟨d6, V6, k6, -, hp6⟩ := sParse h2 n2' U5 (hL.below hbU5) hn2' (by omega) _ hd6
      have e6 := lim6 m2 hm9 hm8 []
      simp only [e6] at hp6
      clear e6 hd6 hn2' hh2 hdv2
      go_wp2_with fail
      refine cdec2.mono ?_
      rintro e w' ⟨rfl, hw'⟩
      obtain rfl : U5 = w' := hw'.symm
      go_wp2_with fail
      refine hp6.mono ?_
      rintro e U6 ⟨v0, v1, B2, m2', f2, B3, m3, f3, rfl, hb6⟩
      have hbU6 := hbU5.trans (hb6.mono hbU5.size)
      clear hp6 k6 cdec2 es8 es9 t6 t7
      have hx := E5.out
      by_cases hkk : kk = 8192
      · rw [if_neg (by omega)] at hx
        subst hx
        subst hkk
        go_wp2
        go_ret
        exact ⟨rfl, hbU6⟩
      · have hk3 : kk = 8193 := by omega
        rw [if_pos (by omega)] at hx
        subst hx
        subst hk3
        go_wp2
        go_ret
        exact ⟨rfl, hbU6⟩
end Go.Proofs.YtcjapjnhejenaaaDoor
