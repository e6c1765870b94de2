import Derived.Test.YtcjapjnhejenaaaDoorLawHP
/-! HttpKeeps: the walk -/
namespace Go.Proofs.YtcjapjnhejenaaaDoor
open Go.RowKit Go.Shelf Garner

theorem own_setC {w : World} {B : Nat} {e : TypeId} {sz n c q j : Nat} {xs : List Value} {u : Value} (h : w.ownsRow B e sz (.slice (some ⟨q, 0, none⟩) n c) n xs) : (w.setCell ⟨q, j, none⟩ u).ownsRow B e sz (.slice (some ⟨q, 0, none⟩) n c) n (xs.set j u) := by
  obtain ⟨h1, h2⟩ := h
  refine ⟨by rw [List.length_set]; exact h1, ?_⟩
  rcases h2 with ⟨e1, _⟩ | ⟨g, cap, cur, e1, hB, hh, hc, hm, hs, hp⟩
  · cases e1
  · injection e1 with e2 e3 e4
    simp only [Option.some.injEq, Addr.mk.injEq, and_true] at e2
    subst e2; subst e4
    refine Or.inr ⟨q, c, cur.set! j u, rfl, hB, ?_, hc, hm, by simpa using hs, ?_⟩
    · simp [World.setCell, Array.getElem?_modify, hh]
    · simp only [Array.set!_eq_setIfInBounds, Array.toList_setIfInBounds, List.take_set, hp]
theorem room_shape {w : World} {B : Nat} {v : Value} {b : Bs} (h : w.ownsRow B 5 1 v (0 + b.length + 3) ([] ++ b.map bv ++ [.int .u8 1, .int .u8 2, .int .u8 3])) :
    ∃ g c, v = .slice (some ⟨g, 0, none⟩) (b.length + 3) c ∧ B ≤ g ∧ g < w.heap.size ∧ b.length + 3 ≤ c ∧ w.ownsRow B 5 1 (.slice (some ⟨g, 0, none⟩) (b.length + 3) c) (b.length + 3) ((b ++ [1, 2, 3]).map bv) := by
  rw [Nat.zero_add, List.nil_append] at h
  obtain ⟨A, c, rfl, -⟩ := own_form h
  obtain ⟨g, rfl, h1, h2, h3, -, -⟩ := own_at h (by omega)
  refine ⟨g, c, rfl, h1, h2, h3, ?_⟩
  rw [List.map_append]
  exact h
theorem pre_row {w : World} {B g c : Nat} {b : Bs} (h : w.ownsRow B 5 1 (.slice (some ⟨g, 0, none⟩) (b.length + 3) c) (b.length + 3) ((b ++ [1, 2, 3]).map bv)) : Bytes w w.heap.size (some ⟨g, 0, none⟩) b.length b := by
  have e : (b ++ [1, 2, 3]).length = b.length + 3 := by simp
  exact take_row (k := b.length) (b := b ++ [1, 2, 3]) (by rw [e]; exact Row.of_own h) (by simp) (by simp)
theorem chunks_len : ∀ {fuel : Nat} {r out body : Bs} {at_ tz : Nat}, out.length ≤ 8192 → chunksP fuel r out at_ = .ok (body, tz) → body.length ≤ 8192
  | 0, _, _, _, _, _, _, h => by cases h
  | fuel + 1, r, out, body, at_, tz, ho, h => by
    unfold chunksP at h
    split at h
    · cases h
    · dsimp only at h
      split at h
      · cases h
      · split at h
        · cases h
        · split at h
          · cases h
          · split at h
            · injection h with h; injection h with h1 h2
              rw [← h1]; exact ho
            · refine chunks_len ?_ h
              rw [List.length_append, List.length_take]; omega
theorem parse_body (b : Bs) : (reqOf (parseP b)).body.length ≤ 8192 := by
  cases hp : parseP b with
  | error e => exact Nat.zero_le _
  | ok p =>
    unfold parseP at hp
    split at hp
    · cases hp
    · dsimp only at hp
      split at hp
      · cases hp
      · split at hp
        · cases hp
        · split at hp
          · cases hp
          · rename_i heq
            injection hp with hp
            subst hp
            show List.length _ ≤ _
            unfold bodyP at heq
            split at heq
            · exact chunks_len (Nat.zero_le _) heq
            · unfold plainP at heq
              split at heq
              · cases heq
              · split at heq
                · cases heq
                · injection heq with heq; injection heq with h1 h2
                  rw [← h1]
                  simp only [reqOf, List.length_take]; omega
/-- a request that reads as q, in blocks from B on -/
def ReqO (w : World) (B : Nat) (rv : Value) (q : ReqP) : Prop := ∃ A c Av cv, rv = .agg #[str q.method, str q.path, .slice A q.query.length c, .slice Av q.body.length cv] ∧ OwnP w B (.slice A q.query.length c) q.query ∧ OwnB w B (.slice Av q.body.length cv) q.body ∧ q.query.length ≤ 9223372036854775807
theorem ReqO.toR {w : World} {B : Nat} {rv : Value} {q : ReqP} (h : ReqO w B rv q) : ReqR w rv q := by
  obtain ⟨A, c, Av, cv, e, h1, h2, h3⟩ := h
  exact ⟨A, c, Av, cv, e, Row.of_own h1, Row.of_own h2, h3⟩
theorem ReqO.but {w w' : World} {B : Nat} {rv : Value} {q : ReqP} {S : List Nat} (h : ReqO w B rv q) (hb : But S w w') (hS : ∀ g ∈ S, g < B) : ReqO w' B rv q := by
  obtain ⟨A, c, Av, cv, e, h1, h2, h3⟩ := h
  exact ⟨A, c, Av, cv, e, own_but h1 hb fun g hg hs => by have := (own_ge h1 g (by simp [hg])).1; have := hS g hs; omega, own_but h2 hb fun g hg hs => by have := (own_ge h2 g (by simp [hg])).1; have := hS g hs; omega, h3⟩
theorem ReqO.bodyRow {w : World} {B : Nat} {x0 x1 : ByteArray} {A2 A3 : Option Addr} {n2 c2 n3 c3 : Nat} {q : ReqP} (h : ReqO w B (.agg #[.string x0, .string x1, .slice A2 n2 c2, .slice A3 n3 c3]) q) : ∃ ys, n3 = q.body.length ∧ w.ownsRow B 5 1 (.slice A3 n3 c3) n3 ys := by
  obtain ⟨A, c, Av, cv, e, -, h2, -⟩ := h
  cases e
  exact ⟨_, rfl, h2⟩
theorem parseO {w : World} {B : Nat} {rv : Value} {tz x : Nat} {P : Except Nat (ReqP × Nat)} (h : ParseIs w B rv tz x P) : ReqO w B rv (reqOf P) ∧ tz = nOf P ∧ x = eOf P := by
  cases P with
  | error e =>
    obtain ⟨h1, -, h2, rfl⟩ := h
    exact ⟨⟨none, 0, none, 0, rfl, World.ownsRow_nil _ _ _ _, World.ownsRow_nil _ _ _ _, Nat.zero_le _⟩, h2, h1.symm⟩
  | ok p =>
    obtain ⟨q, n⟩ := p
    obtain ⟨h1, h2, A, c, v, rfl, hq, hv⟩ := h
    have hv2 := hv
    obtain ⟨Av, cv, rfl, hrow⟩ := OwnB.shape hv
    refine ⟨⟨A, c, Av, cv, rfl, hq, hv2, ?_⟩, h2, h1⟩
    rcases Nat.eq_zero_or_pos q.query.length with h0 | h0
    · show q.query.length ≤ _; omega
    · obtain ⟨g, -, -, -, hc1, hc2, -⟩ := own_at hq h0
      show q.query.length ≤ _
      simp only [maxLen] at hc2
      omega
theorem oParse (b : Bs) (A : Option Addr) (c B : Nat) (w : World) (hL : Lt w) (hr : Bytes w B A b.length b) (hB : B ≤ w.heap.size) (hc : b.length ≤ c) (hA : A = none → c = 0) (hl : b.length < 4294967281) :
    Calls Tryd.prog 9 #[.slice A b.length c] w fun e w' => ∃ (x0 x1 : ByteArray) (A2 : Option Addr) (n2 c2 : Nat) (A3 : Option Addr) (n3 c3 : Nat), e = .returned (.tuple #[.agg #[.string x0, .string x1, .slice A2 n2 c2, .slice A3 n3 c3], .int .i64 (nOf (parseP b)), .int .i64 (eOf (parseP b))]) ∧
      ReqO w' w.heap.size (.agg #[.string x0, .string x1, .slice A2 n2 c2, .slice A3 n3 c3]) (reqOf (parseP b)) ∧ Below w.heap.size w w' := by
  refine (vParse b A c B w hL hr hB hc hA hl).mono ?_
  rintro e w' ⟨rv, tz, x, rfl, hp, hb⟩
  obtain ⟨hq, rfl, rfl⟩ := parseO hp
  have hq2 := hq
  obtain ⟨A', c', Av, cv, rfl, -, -, -⟩ := hq2
  exact ⟨_, _, _, _, _, _, _, _, rfl, hq, hb⟩

set_option maxRecDepth 100000 in
set_option maxHeartbeats 8000000 in
theorem lawHK (b : Bs) (A0 : Option Addr) (c0 B : Nat) (w : World) (hL : Lt w) (h0 : Bytes w B A0 b.length b) (hB : B ≤ w.heap.size) (hl : b.length ≤ 4000000) :
    Calls Tryd.prog 6 #[.slice A0 b.length c0] w fun e w' => e = .returned (.bool true) ∧ Below w.heap.size w w' := by
  obtain ⟨P, hP⟩ : ∃ P, parseP b = P := ⟨_, rfl⟩
  go_enter Tryd.func6, Tryd.ntmps6
  go_wp2_with fail
  refine (awake26 w hL).mono ?_
  rintro e w1 ⟨rfl, hb1⟩
  have s1 := hb1.size
  have h01 := h0.below (hb1.mono hB)
  go_wp2_with (first
    | (at_builtin; refine wpList_app _ rfl bytesE rfl rfl (own_empty (B := w.heap.size) (heap_alloc_new w1 _) s1) rfl (h01.alloc (Nat.le_trans hB s1) _) (bv_one _) (by omega) (by simp; omega) ?_; intro v3 w3 own3 _ hb3 _)
    | (at_builtin; refine wpList_app _ rfl bytesE rfl rfl (own3.alloc _) rfl (row_new w3 _ [_, _, _]) (by simp [Value.oneCell']) (by first | omega | (simp; omega)) (by have := hb3.size; simp at this ⊢; omega) ?_; intro v4 w4 own4 _ hb4 _; obtain ⟨g, c4, rfl, hg1, hg2, hc4, own4⟩ := room_shape own4; clear own3))
  have hbw3 : Below w.heap.size w w3 := (hb1.alloc s1 _).trans hb3
  have hbw4 : Below w.heap.size w w4 := (hbw3.alloc hbw3.size _).trans hb4
  have s4 := hbw4.size
  have rowR := pre_row own4
  have y1 : (0 : Int) ≤ (b.length : Int) := by omega
  have y2 : (b.length : Int) ≤ (c4 : Int) := by omega
  clear hb3 hb4 hbw3
  go_wp2_with fail
  have hp1 := oParse b (some ⟨g, 0, none⟩) c4 w4.heap.size w4 (hL.below hbw4) rowR (Nat.le_refl _) (by omega) (fun h => by cases h) (by omega)
  rw [hP] at hp1
  refine hp1.mono ?_
  rintro e w5 ⟨x0, x1, A2, n2, c2, A3, n3, c3, rfl, hr, hb5⟩
  obtain ⟨Y, hY⟩ : ∃ Y, Y = w5.alloc (.cells #[.string x0, .string x1, .slice A2 n2 c2, .slice A3 n3 c3] 26) := ⟨_, rfl⟩
  have hYs : Hid (Y.heap.size = w5.heap.size + 1) := Lib.hid (by rw [hY]; simp)
  have h4Y : Below w4.heap.size w4 Y := by rw [hY]; exact hb5.alloc hb5.size _
  have hbY := hbw4.trans (h4Y.mono s4)
  have bR : Blk Y w5.heap.size 26 [.string x0, .string x1, .slice A2 n2 c2, .slice A3 n3 c3] := by rw [hY]; exact Blk.new w5 _ _
  have hrY : ReqO Y w4.heap.size (.agg #[.string x0, .string x1, .slice A2 n2 c2, .slice A3 n3 c3]) (reqOf P) := hr.but (S := []) (by rw [hY]; exact (But.refl _ _).alloc _) (by simp)
  have s5 := hb5.size
  obtain ⟨ys, hn3, ownY⟩ := hrY.bodyRow
  have hbd8 : n3 ≤ 8192 := by rw [hn3, ← hP]; exact parse_body b
  clear hn3
  have hS := own_ge ownY
  have hRS := own_blk ownY bR (by decide)
  go_upto_region 5 with fail
  rw [← hY]
  clear hY hr hp1 hb5
  have rowY := rowR.below h4Y
  go_wp2_with fail
  have hp2 := oParse b (some ⟨g, 0, none⟩) c4 w4.heap.size Y (hL.below hbY) rowY h4Y.size (by omega) (fun h => by cases h) (by omega)
  rw [hP] at hp2
  refine hp2.mono ?_
  rintro e w6 ⟨u0, u1, B2, m2, d2, B3, m3, d3, rfl, hs, hb6⟩
  obtain ⟨Z, hZ⟩ : ∃ Z, Z = w6.alloc (.cells #[.string u0, .string u1, .slice B2 m2 d2, .slice B3 m3 d3] 26) := ⟨_, rfl⟩
  have hZs : Hid (Z.heap.size = w6.heap.size + 1) := Lib.hid (by rw [hZ]; simp)
  have hYZ : Below Y.heap.size Y Z := by rw [hZ]; exact hb6.alloc hb6.size _
  have hbZ := hbY.trans (hYZ.mono hbY.size)
  have h4Z := h4Y.trans (hYZ.mono h4Y.size)
  have bS : Blk Z w6.heap.size 26 [.string u0, .string u1, .slice B2 m2 d2, .slice B3 m3 d3] := by rw [hZ]; exact Blk.new w6 _ _
  have hsZ : ReqO Z Y.heap.size (.agg #[.string u0, .string u1, .slice B2 m2 d2, .slice B3 m3 d3]) (reqOf P) := hs.but (S := []) (by rw [hZ]; exact (But.refl _ _).alloc _) (by simp)
  have hrZ := hrY.but (S := []) (But.of_below hYZ) (by simp)
  have bRZ := bR.below hYZ bR.lt
  have s6 := hb6.size
  have ownZ := own_below own4 h4Z
  have st1 := run_str (c := c4) (l := b ++ [1, 2, 3]) (Row.of_own ownZ)
  obtain ⟨sv, hsv⟩ : ∃ sv : ByteArray, sv = ⟨(b ++ [1, 2, 3]).toArray⟩ := ⟨_, rfl⟩
  have es : (⟨b.toArray⟩ ++ ⟨#[1, 2, 3]⟩ : ByteArray) = sv := by rw [hsv]; apply ByteArray.ext; simp
  rw [← hsv] at st1
  clear hsv
  have st2 := run_str (c := c0) (h0.below (hbZ.mono hB))
  go_upto_region 6 with fail
  rw [← hZ]
  clear hZ hs hp2 hb6 rowR rowY bR hrY own4 h01
  have ownBd := own_below ownY hYZ
  go_wp2
  go_loopw [10] (fun i wr => ∃ (k : Nat) (xs : List Value), k ≤ b.length + 3 ∧ i = .int .i64 k ∧ wr.ownsRow w.heap.size 5 1 (.slice (some ⟨g, 0, none⟩) (b.length + 3) c4) (b.length + 3) xs ∧ But [g] Z wr) (fun i _ => (b.length + 3) - (intOf i).toNat)
  case atStart => exact ⟨0, _, by omega, rfl, ownZ, But.refl _ _⟩
  case round =>
    obtain ⟨k, xs, hk, rfl, own1, hbu⟩ := hrel
    obtain ⟨wo, rfl⟩ : ∃ wo : World, wo = wr := ⟨_, rfl⟩
    by_cases hlt : k < b.length + 3
    · have lt1 : (k : Int) < (b.length : Int) + 3 := by omega
      have w1' : IntKind.i64.wrap ((k : Int) + 1) = (k : Int) + 1 := by rw [IntKind.wrap_i64]; omega
      obtain ⟨g', hg', -, hg6, -, -, hcell⟩ := own_at own1 (by omega)
      cases hg'
      have hxl : xs.length = b.length + 3 := by have := own1.1; omega
      have ck : wo.cell? ⟨g, k, none⟩ = some (xs[k]'(by omega)) := by rw [hcell k (by omega), List.getElem?_eq_getElem (by omega)]
      have fk := own1.frozenAt k
      clear hcell
      go_wp2
      exact ⟨⟨k + 1, _, by omega, by simp, own_setC own1, hbu.setCell (p := ⟨g, k, none⟩) (by simp) _⟩, by simp [intOf]; omega⟩
    · have lt1 : ¬ (k : Int) < (b.length : Int) + 3 := by omega
      clear own1
      have hgr : g < w5.heap.size := by omega
      have bR2 := bRZ.but hbu (by simp; omega)
      have hgY : g < Y.heap.size := by have := hYs.out; omega
      have bS2 := bS.but hbu (by have := hYZ.size; have := hZs.out; simp; omega)
      have hs2 := hsZ.but hbu (by simp; exact hgY)
      have hSS := own_blk ownBd bS (by decide)
      have ownB2 := own_but ownBd hbu (fun g' hg' hm => by have := (hS g' (by simp [hg'])).1; simp at hm; omega)
      have hbo : Below w.heap.size w wo := hbZ.trans (hbu.below hbZ.size (by simp; exact hg1))
      have hZo := hbu.size
      have h4Zs := h4Z.size
      clear bS hsZ bRZ ownZ hbu ownBd ownY
      go_wp2
      go_loopw [11] (fun i wr => ∃ (k : Nat) (xs : List Value), k ≤ n3 ∧ i = .int .i64 k ∧ wr.ownsRow w4.heap.size 5 1 (.slice A3 n3 c3) n3 xs ∧ But (Value.slice A3 n3 c3).ownBlock.toList wo wr) (fun i _ => n3 - (intOf i).toNat)
      case atStart => exact ⟨0, _, by omega, rfl, ownB2, But.refl _ _⟩
      case round =>
        obtain ⟨k2, xs2, hk2, rfl, own2, hbv⟩ := hrel
        obtain ⟨wp, rfl⟩ : ∃ wp : World, wp = wr := ⟨_, rfl⟩
        have bR3 := bR2.but hbv hRS
        have r3 : wp.cell? ⟨w5.heap.size, 3, none⟩ = some (.slice A3 n3 c3) := bR3.cell 3
        by_cases hlt2 : k2 < n3
        · have lt2 : (k2 : Int) < (n3 : Int) := by omega
          have w2' : IntKind.i64.wrap ((k2 : Int) + 1) = (k2 : Int) + 1 := by rw [IntKind.wrap_i64]; omega
          obtain ⟨g2, hg2', -, -, -, -, hcell⟩ := own_at own2 (by omega)
          subst hg2'
          have hxl : xs2.length = n3 := by have := own2.1; omega
          have ck : wp.cell? ⟨g2, k2, none⟩ = some (xs2[k2]'(by omega)) := by rw [hcell k2 (by omega), List.getElem?_eq_getElem (by omega)]
          have fk := own2.frozenAt k2
          clear hcell
          go_wp2
          exact ⟨⟨k2 + 1, _, by omega, by simp, own_setC own2, hbv.setCell (p := ⟨g2, k2, none⟩) (by simp [Value.ownBlock]) _⟩, by simp [intOf]; omega⟩
        · have lt2 : ¬ (k2 : Int) < (n3 : Int) := by omega
          have bS3 := bS2.but hbv hSS
          have hs3 := hs2.but hbv (fun x hx => (hS x hx).2)
          have hbp : Below w.heap.size w wp := hbo.trans (hbv.below hbo.size (fun x hx => by have := (hS x hx).1; omega))
          have h0p := h0.below (hbp.mono hB)
          have hpB := hbp.size
          have hp4 : w4.heap.size ≤ wp.heap.size := by have := hbv.size; omega
          go_wp2_with (first
            | (at_builtin; refine wpList_app _ rfl bytesE rfl rfl (own2.alloc _) rfl (row_new wp _ [_, _, _]) (by simp [Value.oneCell']) (by first | omega | (simp; omega)) (by simp; omega) ?_; intro v7 w7 own7 hg7 hb7 _; obtain ⟨A7, c7, rfl, -⟩ := own_form own7; have h07 : Bytes w7 B A0 b.length b := (h0p.alloc (by omega) _).below (hb7.mono (by omega)))
            | (at_builtin; refine wpList_app _ rfl bytesE rfl rfl (own_empty (B := w7.heap.size) (heap_alloc_new w7 _) (Nat.le_refl _)) rfl (h07.alloc (by have := hb7.size; simp at this; omega) _) (bv_one _) (by omega) (by simp) ?_; intro v8 w8 own8 _ hb8 _; obtain ⟨A8, c8, rfl, hr8, hc8, hA8⟩ := all_shape (b := b) (m := []) (z := b) (by simp) (by simpa using own8)))
          have hb7p : But (Value.slice A3 n3 c3).ownBlock.toList wp w7 := ((But.refl _ _).alloc _).trans (But.grown (row := (Value.slice A3 n3 c3).ownBlock) hg7 (fun k hk => by simp [hk]))
          have h78 : Below w7.heap.size w7 w8 := ((Below.refl _ _).alloc (Nat.le_refl _) _).trans hb8
          have hb7 : Below w.heap.size w w7 := hbp.trans (hb7p.below hbp.size (fun x hx => by have := (hS x hx).1; omega))
          have hbw8 := hb7.trans (h78.mono hb7.size)
          have e8 : But (Value.slice A3 n3 c3).ownBlock.toList wp w8 := hb7p.trans (But.of_below h78)
          have bR8 := bR3.but e8 hRS
          have bS8 := bS3.but e8 hSS
          have hs8 := hs3.but e8 (fun x hx => (hS x hx).2)
          clear hb7p h78 e8 hg7 own2 own7 own8 hb8 r3 h07 h0p bR3 bS3 hs3 bR2 bS2 hs2
          have hp3 := oParse b A8 c8 w8.heap.size w8 (hL.below hbw8) hr8 (Nat.le_refl _) hc8 hA8 (by omega)
          rw [hP] at hp3
          refine hp3.mono ?_
          rintro e w9 ⟨v0, v1, C2, p2, f2, C3, p3, f3, rfl, ht, hb9⟩
          obtain ⟨T, hT⟩ : ∃ T, T = w9.alloc (.cells #[.string v0, .string v1, .slice C2 p2 f2, .slice C3 p3 f3] 26) := ⟨_, rfl⟩
          have hTs : Hid (T.heap.size = w9.heap.size + 1) := Lib.hid (by rw [hT]; simp)
          have h8T : Below w8.heap.size w8 T := by rw [hT]; exact hb9.alloc hb9.size _
          have hbT := hbw8.trans (h8T.mono hbw8.size)
          have bT : Blk T w9.heap.size 26 [.string v0, .string v1, .slice C2 p2 f2, .slice C3 p3 f3] := by rw [hT]; exact Blk.new w9 _ _
          have htT := (ht.but (S := []) (w' := T) (by rw [hT]; exact (But.refl _ _).alloc _) (by simp)).toR
          have bRT := bR8.below h8T bR8.lt
          have bST := bS8.below h8T bS8.lt
          have hsT := (hs8.but (S := []) (But.of_below h8T) (by simp)).toR
          have hcs := vSameR _ _ _ T hsT htT
          have r0 : T.cell? ⟨w5.heap.size, 3, none⟩ = some (.slice A3 n3 c3) := bRT.cell 3
          have q0 : T.cell? ⟨w6.heap.size, 0, none⟩ = some (.string u0) := bST.cell 0
          have q1 : T.cell? ⟨w6.heap.size, 1, none⟩ = some (.string u1) := bST.cell 1
          have q2 : T.cell? ⟨w6.heap.size, 2, none⟩ = some (.slice B2 m2 d2) := bST.cell 2
          have q3 : T.cell? ⟨w6.heap.size, 3, none⟩ = some (.slice B3 m3 d3) := bST.cell 3
          have t0 : T.cell? ⟨w9.heap.size, 0, none⟩ = some (.string v0) := bT.cell 0
          have t1 : T.cell? ⟨w9.heap.size, 1, none⟩ = some (.string v1) := bT.cell 1
          have t2 : T.cell? ⟨w9.heap.size, 2, none⟩ = some (.slice C2 p2 f2) := bT.cell 2
          have t3 : T.cell? ⟨w9.heap.size, 3, none⟩ = some (.slice C3 p3 f3) := bT.cell 3
          have w3' : IntKind.i64.wrap ((n3 : Int) + 3) = (n3 : Int) + 3 := by rw [IntKind.wrap_i64]; omega
          go_upto_region 18 with fail
          rw [← hT]
          clear hT ht hp3 hb9 bR8 bS8 hs8 hP
          go_wp2_with fail
          refine hcs.mono ?_
          rintro e W9 ⟨rfl, hb10⟩
          go_wp2
          go_ret
          exact ⟨rfl, hbT.trans (hb10.mono hbT.size)⟩
end Go.Proofs.YtcjapjnhejenaaaDoor
