import Derived.Test.YtcjapjnhejenaaaDoorHtO
/-! HttpPrefix: the walk -/
namespace Garner
theorem nOf_ok (q : ReqP) (n : Nat) : nOf (.ok (q, n)) = n := rfl
theorem eOf_ok (q : ReqP) (n : Nat) : eOf (.ok (q, n)) = 0 := rfl
theorem nOf_err (e : Nat) : nOf (.error e) = 0 := rfl
theorem eOf_err (e : Nat) : eOf (.error e) = e := rfl
theorem ne5 {P : Except Nat (ReqP × Nat)} (h : eOf P ≠ 5) : P ≠ .error 5 := fun e => h (by rw [e]; rfl)
theorem pre_app {b : Bs} (m : Bs) (h : eOf (parseP b) ≠ 5) : parseP (b ++ m) = parseP b := parseP_app m (ne5 h)
theorem pre_cut {b : Bs} {k : Nat} (h : eOf (parseP (b.take k)) ≠ 5) : parseP (b.take k) = parseP b := by
  have := parseP_app (b.drop k) (ne5 h)
  rw [List.take_append_drop] at this
  exact this.symm
end Garner
namespace Go.Proofs.YtcjapjnhejenaaaDoor
open Go.RowKit Go.Shelf Garner

theorem parse_ok0 {w : World} {B : Nat} {rv : Value} {tz x : Nat} {P : Except Nat (ReqP × Nat)} (h : ParseIs w B rv tz x P) (h0 : eOf P = 0) : ∃ q n, P = .ok (q, n) := by
  cases P with
  | error e =>
    obtain ⟨h1, h2, -⟩ := h
    have : e = 0 := h0
    omega
  | ok p => exact ⟨p.1, p.2, rfl⟩
theorem qParse (b : Bs) (A : Option Addr) (c B : Nat) (w : World) (hL : Lt w) (hr : Bytes w B A b.length b) (hB : B ≤ w.heap.size) (hc : b.length ≤ c) (hA : A = none → c = 0) (hl : b.length < 4294967281) :
    Calls Tryd.prog 9 #[.slice A b.length c] w fun e w' => ∃ rv, (∃ (x0 x1 : ByteArray) (A2 : Option Addr) (n2 c2 : Nat) (A3 : Option Addr) (n3 c3 : Nat), rv = .agg #[.string x0, .string x1, .slice A2 n2 c2, .slice A3 n3 c3]) ∧ e = .returned (.tuple #[rv, .int .i64 (nOf (parseP b)), .int .i64 (eOf (parseP b))]) ∧
      ReqR w' rv (reqOf (parseP b)) ∧ (eOf (parseP b) = 0 → ∃ q n, parseP b = .ok (q, n)) ∧ Below w.heap.size w w' := by
  refine (vParse b A c B w hL hr hB hc hA hl).mono ?_
  rintro e w' ⟨rv, tz, x, rfl, hp, hb⟩
  have h0 := parse_ok0 hp
  obtain ⟨hq, rfl, rfl⟩ := parseR hp
  have hq2 := hq
  obtain ⟨A', c', Av, cv, rfl, -, -, -⟩ := hq2
  exact ⟨_, ⟨_, _, _, _, _, _, _, _, rfl⟩, rfl, hq, h0, hb⟩

theorem cut_at (cut : Int) (n : Nat) (hn : n ≤ 4000000) : ∃ k : Nat, k ≤ n ∧ wrap64 ((IntKind.u64.wrap cut).tmod ((n : Int) + 1)) = (k : Int) := by
  have h0 : 0 ≤ IntKind.u64.wrap cut := by rw [IntKind.wrap_u64]; omega
  have h1 : (IntKind.u64.wrap cut).tmod ((n : Int) + 1) = IntKind.u64.wrap cut % ((n : Int) + 1) := Int.tmod_eq_emod_of_nonneg h0
  have h2 := Int.emod_nonneg (IntKind.u64.wrap cut) (show (n : Int) + 1 ≠ 0 by omega)
  have h3 := Int.emod_lt_of_pos (IntKind.u64.wrap cut) (show (0 : Int) < (n : Int) + 1 by omega)
  rw [h1]
  generalize IntKind.u64.wrap cut % ((n : Int) + 1) = x at h2 h3
  refine ⟨x.toNat, by omega, ?_⟩
  unfold wrap64
  omega
theorem take_row {w : World} {B k : Nat} {A : Option Addr} {b y : Bs} (h : Bytes w B A b.length b) (hy : y = b.take k) (hk : k ≤ b.length) : Bytes w B A y.length y := by
  subst hy
  refine ⟨by simp, fun hp => ?_⟩
  obtain ⟨g, off, e, hg, hc⟩ := h.2 (by simp at hp; omega)
  refine ⟨g, off, e, hg, fun j u hu => hc j u ?_⟩
  rw [List.map_take, List.getElem?_take] at hu
  split at hu
  · exact hu
  · cases hu
theorem all_shape {w : World} {B : Nat} {v : Value} {b m z : Bs} (hz : z = b ++ m) (h : w.ownsRow B 5 1 v (0 + b.length + m.length) ([] ++ b.map bv ++ m.map bv)) : ∃ A c, v = .slice A z.length c ∧ Bytes w w.heap.size A z.length z ∧ z.length ≤ c ∧ (A = none → c = 0) := by
  have h' : OwnB w B v z := by subst hz; simpa [OwnB] using h
  obtain ⟨A, c, rfl, hb⟩ := OwnB.shape h'
  refine ⟨A, c, rfl, hb, ?_⟩
  obtain ⟨-, ⟨h1, h2⟩ | ⟨g, cap, cur, h1, -, -, h3, -⟩⟩ := h'
  · injection h1 with e1 e2 e3
    exact ⟨by omega, fun _ => e3⟩
  · injection h1 with e1 e2 e3
    exact ⟨by omega, fun e => by rw [e] at e1; cases e1⟩
set_option maxRecDepth 100000 in
set_option maxHeartbeats 8000000 in
theorem lawHP (b more : Bs) (cut : Int) (A0 A1 : Option Addr) (c0 c1 B : Nat) (w : World) (hL : Lt w) (h0 : Bytes w B A0 b.length b) (h1 : Bytes w B A1 more.length more) (hB : B ≤ w.heap.size) (hc : b.length ≤ c0) (hA : A0 = none → c0 = 0) (hl : b.length + more.length ≤ 4000000) :
    Calls Tryd.prog 3 #[.slice A0 b.length c0, .slice A1 more.length c1, .int .i64 cut] w fun e w' => e = .returned (.bool true) ∧ Below w.heap.size w w' := by
  obtain ⟨P, hP⟩ : ∃ P, parseP b = P := ⟨_, rfl⟩
  obtain ⟨Q, hQ⟩ : ∃ Q, parseP (b ++ more) = Q := ⟨_, rfl⟩
  have hPQ : eOf P ≠ 5 → Q = P := fun h => by rw [← hP, ← hQ]; exact pre_app more (by rw [hP]; exact h)
  go_enter Tryd.func3, Tryd.ntmps3
  go_wp2_with fail
  refine (awake26 w hL).mono ?_
  rintro e w1 ⟨rfl, hb1⟩
  have s1 := hb1.size
  go_wp2_with fail
  have hp := qParse b A0 c0 B w1 (hL.below hb1) (h0.below (hb1.mono hB)) (Nat.le_trans hB s1) hc hA (by omega)
  rw [hP] at hp
  refine hp.mono ?_
  rintro e w2 ⟨rv, ⟨x0, x1, A2, n2, c2, A3, n3, c3, hrv⟩, rfl, hr, hok, hb2⟩
  have hb2' := hb1.trans (hb2.mono s1)
  have s2 := hb2'.size
  rw [hrv] at hr ⊢
  obtain ⟨Y, hY⟩ : ∃ Y, Y = w2.alloc (.cells #[.string x0, .string x1, .slice A2 n2 c2, .slice A3 n3 c3] 26) := ⟨_, rfl⟩
  have hYs : Y.heap.size = w2.heap.size + 1 := by rw [hY]; simp
  have hbY : Below w.heap.size w Y := by rw [hY]; exact hb2'.alloc s2 _
  have bR : Blk Y w2.heap.size 26 [.string x0, .string x1, .slice A2 n2 c2, .slice A3 n3 c3] := by rw [hY]; exact Blk.new w2 _ _
  have hrY : ReqR Y (.agg #[.string x0, .string x1, .slice A2 n2 c2, .slice A3 n3 c3]) (reqOf P) := hr.below (by rw [hY]; exact (Below.refl _ _).alloc (Nat.le_refl _) _)
  go_upto_region 5 with fail
  rw [← hY]
  clear hY hr hp hb2
  obtain ⟨z, hz⟩ : ∃ z, z = b ++ more := ⟨_, rfl⟩
  have hzl : z.length = b.length + more.length := by rw [hz]; simp
  rw [← hz] at hQ
  have h0Y := h0.below (hbY.mono hB)
  go_wp2_with (first
    | (at_builtin; refine wpList_app _ rfl bytesE rfl rfl (World.ownsRow_nil Y Y.heap.size _ _) rfl h0Y (bv_one _) (by omega) (Nat.le_refl _) ?_; intro v3 w3 own3 _ hb3 _; have h1Y := (h1.below (hbY.mono hB)).below (hb3.mono (Nat.le_trans hB hbY.size)))
    | (at_builtin; refine wpList_app _ rfl bytesE rfl rfl own3 rfl h1Y (bv_one _) (by omega) hb3.size ?_; intro v4 w4 own4 _ hb4 _; obtain ⟨A4, c4, rfl, hr4, hc4, hA4⟩ := all_shape hz own4; clear own4 own3 h1Y h0Y))
  have hbw4 := hbY.trans ((hb3.trans hb4).mono hbY.size)
  have hY4 := hb3.trans hb4
  have s4 := hbw4.size
  have hp4 := qParse z A4 c4 w4.heap.size w4 (hL.below hbw4) hr4 (Nat.le_refl _) hc4 hA4 (by omega)
  rw [hzl, hQ] at hp4
  refine hp4.mono ?_
  rintro e w5 ⟨rw, ⟨y0, y1, B2, m2, d2, B3, m3, d3, hrw⟩, rfl, hs, hok5, hb5⟩
  have hbw5 := hbw4.trans (hb5.mono s4)
  have hY5 := hY4.trans (hb5.mono hY4.size)
  have s5 := hbw5.size
  rw [hrw] at hs ⊢
  obtain ⟨Z, hZ⟩ : ∃ Z, Z = w5.alloc (.cells #[.string y0, .string y1, .slice B2 m2 d2, .slice B3 m3 d3] 26) := ⟨_, rfl⟩
  have hZs : Z.heap.size = w5.heap.size + 1 := by rw [hZ]; simp
  have hbZ : Below w.heap.size w Z := by rw [hZ]; exact hbw5.alloc s5 _
  have hYZ : Below Y.heap.size Y Z := by rw [hZ]; exact hY5.alloc hY5.size _
  have bS : Blk Z w5.heap.size 26 [.string y0, .string y1, .slice B2 m2 d2, .slice B3 m3 d3] := by rw [hZ]; exact Blk.new w5 _ _
  have hsZ : ReqR Z (.agg #[.string y0, .string y1, .slice B2 m2 d2, .slice B3 m3 d3]) (reqOf Q) := hs.below (by rw [hZ]; exact (Below.refl _ _).alloc (Nat.le_refl _) _)
  have bRZ := bR.below hYZ bR.lt
  have hrZ := hrY.below hYZ
  go_upto_region 7 with fail
  rw [← hZ]
  clear hZ hs hp4 hb5 hr4 hok5 hb3 hb4 hY4 hY5 bR hrY
  go_cut [54] (fun s9 wx => s9 = .bool false ∧ Below Z.heap.size Z wx)
  case first =>
    have r0 : Z.cell? ⟨w2.heap.size, 0, none⟩ = some (.string x0) := bRZ.cell 0
    have r1 : Z.cell? ⟨w2.heap.size, 1, none⟩ = some (.string x1) := bRZ.cell 1
    have r2 : Z.cell? ⟨w2.heap.size, 2, none⟩ = some (.slice A2 n2 c2) := bRZ.cell 2
    have r3 : Z.cell? ⟨w2.heap.size, 3, none⟩ = some (.slice A3 n3 c3) := bRZ.cell 3
    have t0 : Z.cell? ⟨w5.heap.size, 0, none⟩ = some (.string y0) := bS.cell 0
    have t1 : Z.cell? ⟨w5.heap.size, 1, none⟩ = some (.string y1) := bS.cell 1
    have t2 : Z.cell? ⟨w5.heap.size, 2, none⟩ = some (.slice B2 m2 d2) := bS.cell 2
    have t3 : Z.cell? ⟨w5.heap.size, 3, none⟩ = some (.slice B3 m3 d3) := bS.cell 3
    have hzZ := Lib.hid hZs
    have hyY := Lib.hid hYs
    clear hZs hYs hzl hok hP hQ hz
    by_cases h5 : eOf P = 5
    · have z1 : (eOf P : Int) = 5 := by omega
      have z2 : ((eOf P : Int) != 5) = false := by simp [z1]
      clear hPQ h5
      go_wp2_with fail
      go_meet
      exact ⟨rfl, Below.refl _ _⟩
    · obtain rfl := hPQ h5
      have z1 : ¬ (eOf Q : Int) = 5 := by omega
      have z2 : ((eOf Q : Int) != 5) = true := by simp [z1]
      have hc := vSameR _ _ _ Z hrZ hsZ
      clear hPQ h5
      go_wp2_with fail
      refine hc.mono ?_
      rintro e W5 ⟨rfl, hb6⟩
      go_wp2_with fail
      go_meet
      exact ⟨rfl, hb6⟩
  case rest =>
  obtain ⟨rfl, hbC⟩ := hcut
  obtain ⟨k, hkn, hk⟩ := cut_at cut b.length (by omega)
  have y1 : (0 : Int) ≤ (k : Int) := by omega
  have y2 : (k : Int) ≤ (c0 : Int) := by omega
  have hzZ := Lib.hid hZs
  have hyY := Lib.hid hYs
  clear hZs hYs hPQ hQ hz hzl
  go_wp2_with fail
  have hbc := hbZ.trans (hbC.mono hbZ.size)
  have sc := hbc.size
  obtain ⟨y, hy⟩ : ∃ y, y = b.take k := ⟨_, rfl⟩
  have hyl : y.length = k := by rw [hy, List.length_take]; omega
  obtain ⟨R, hR⟩ : ∃ R, parseP y = R := ⟨_, rfl⟩
  have hRP : eOf R ≠ 5 → R = P := fun h => by rw [← hR, ← hP, hy]; exact pre_cut (by rw [← hy, hR]; exact h)
  have hp7 := qParse y A0 c0 B wc (hL.below hbc) (take_row (h0.below (hbc.mono hB)) hy hkn) (Nat.le_trans hB sc) (by omega) hA (by omega)
  rw [hyl, hR] at hp7
  refine hp7.mono ?_
  rintro e w7 ⟨rt, ⟨u0, u1, C2, p2, f2, C3, p3, f3, hrt⟩, rfl, ht, -, hb7⟩
  have hb7' := hbc.trans (hb7.mono sc)
  have hZ7 := hbC.trans (hb7.mono hbC.size)
  have s7 := hb7'.size
  rw [hrt] at ht ⊢
  obtain ⟨T, hT⟩ : ∃ T, T = w7.alloc (.cells #[.string u0, .string u1, .slice C2 p2 f2, .slice C3 p3 f3] 26) := ⟨_, rfl⟩
  have hTs : Hid (T.heap.size = w7.heap.size + 1) := Lib.hid (by rw [hT]; simp)
  have hbT : Below w.heap.size w T := by rw [hT]; exact hb7'.alloc s7 _
  have hZT : Below Z.heap.size Z T := by rw [hT]; exact hZ7.alloc hZ7.size _
  have bT : Blk T w7.heap.size 26 [.string u0, .string u1, .slice C2 p2 f2, .slice C3 p3 f3] := by rw [hT]; exact Blk.new w7 _ _
  have htT : ReqR T (.agg #[.string u0, .string u1, .slice C2 p2 f2, .slice C3 p3 f3]) (reqOf R) := ht.below (by rw [hT]; exact (Below.refl _ _).alloc (Nat.le_refl _) _)
  have bRT := bRZ.below hZT bRZ.lt
  have hrT := hrZ.below hZT
  go_upto_region 11 with fail
  rw [← hT]
  clear hT ht hp7 hb7 bRZ hrZ bS hsZ hZ7
  go_cut [88] (fun s9 wx => s9 = .bool false ∧ Below T.heap.size T wx)
  case first =>
    have r0 : T.cell? ⟨w2.heap.size, 0, none⟩ = some (.string x0) := bRT.cell 0
    have r1 : T.cell? ⟨w2.heap.size, 1, none⟩ = some (.string x1) := bRT.cell 1
    have r2 : T.cell? ⟨w2.heap.size, 2, none⟩ = some (.slice A2 n2 c2) := bRT.cell 2
    have r3 : T.cell? ⟨w2.heap.size, 3, none⟩ = some (.slice A3 n3 c3) := bRT.cell 3
    have t0 : T.cell? ⟨w7.heap.size, 0, none⟩ = some (.string u0) := bT.cell 0
    have t1 : T.cell? ⟨w7.heap.size, 1, none⟩ = some (.string u1) := bT.cell 1
    have t2 : T.cell? ⟨w7.heap.size, 2, none⟩ = some (.slice C2 p2 f2) := bT.cell 2
    have t3 : T.cell? ⟨w7.heap.size, 3, none⟩ = some (.slice C3 p3 f3) := bT.cell 3
    clear hok hP hR hy hyl hk
    by_cases h5 : eOf R = 5
    · have z1 : (eOf R : Int) = 5 := by omega
      have z2 : ((eOf R : Int) != 5) = false := by simp [z1]
      clear hRP h5
      go_wp2_with fail
      go_meet
      exact ⟨rfl, Below.refl _ _⟩
    · obtain rfl := hRP h5
      have z1 : ¬ (eOf R : Int) = 5 := by omega
      have z2 : ((eOf R : Int) != 5) = true := by simp [z1]
      have hc := vSameR _ _ _ T htT hrT
      clear hRP h5
      go_wp2_with fail
      refine hc.mono ?_
      rintro e W5 ⟨rfl, hb6⟩
      go_wp2_with fail
      go_meet
      exact ⟨rfl, hb6⟩
  case rest =>
  obtain ⟨rfl, hbD⟩ := hcut
  have bRD := bRT.below hbD bRT.lt
  have hrD := hrT.below hbD
  have hbd := hbT.trans (hbD.mono hbT.size)
  clear hbD hbT hbC hZT
  by_cases he : eOf P = 0
  · obtain ⟨q, n, rfl⟩ := hok he
    obtain ⟨hn0, hnb⟩ := parseP_ok hP
    have hcut := parseP_cut hP k
    rw [← hy, hR] at hcut
    clear hok hP hR hy hyl hk hRP he
    have z1 : ¬ (n : Int) ≤ 0 := by omega
    have z2 : (0 : Int) < (n : Int) := by omega
    have z3 : (n : Int) ≤ (b.length : Int) := by omega
    by_cases hkn2 : n ≤ k
    · rw [if_pos hkn2] at hcut
      subst hcut
      simp only [nOf_ok, eOf_ok]
      have z4 : (n : Int) ≤ (k : Int) := by omega
      have z5 : ¬ (k : Int) < (n : Int) := by omega
      go_wp2
      go_ret
      exact ⟨by first | rfl | (simp; omega), hbd⟩
    · rw [if_neg hkn2] at hcut
      subst hcut
      simp only [nOf_ok, eOf_ok, nOf_err, eOf_err]
      have z4 : ¬ (n : Int) ≤ (k : Int) := by omega
      have z5 : (k : Int) < (n : Int) := by omega
      go_wp2
      go_ret
      exact ⟨by first | rfl | (simp; omega), hbd⟩
  · obtain ⟨e, rfl⟩ : ∃ e, P = .error e := by
      cases P with
      | error e => exact ⟨e, rfl⟩
      | ok p => exact absurd rfl he
    have z1 : ¬ (e : Int) = 0 := by have : ¬ e = 0 := he; omega
    simp only [nOf_err, eOf_err]
    have hc := vSameR _ _ _ wc hrD (zeroR wc)
    have r0 : wc.cell? ⟨w2.heap.size, 0, none⟩ = some (.string x0) := bRD.cell 0
    have r1 : wc.cell? ⟨w2.heap.size, 1, none⟩ = some (.string x1) := bRD.cell 1
    have r2 : wc.cell? ⟨w2.heap.size, 2, none⟩ = some (.slice A2 n2 c2) := bRD.cell 2
    have r3 : wc.cell? ⟨w2.heap.size, 3, none⟩ = some (.slice A3 n3 c3) := bRD.cell 3
    clear hok hP hR hy hyl hk hRP he
    go_wp2_with fail
    refine hc.mono ?_
    rintro e W9 ⟨rfl, hb9⟩
    go_wp2
    go_ret
    exact ⟨rfl, hbd.trans (hb9.mono hbd.size)⟩
end Go.Proofs.YtcjapjnhejenaaaDoor
