import Derived.Test.YtcjapjnhejenaaaDoorHtN
/-! http: what Parse answers, as data; Same of equal requests; awake (printed by gen_hto.py) -/
namespace Garner
def reqOf : Except Nat (ReqP × Nat) → ReqP
  | .error _ => noReq
  | .ok (q, _) => q
def nOf : Except Nat (ReqP × Nat) → Nat
  | .error _ => 0
  | .ok (_, n) => n
def eOf : Except Nat (ReqP × Nat) → Nat
  | .error e => e
  | .ok _ => 0
def awkA : Bs := [71, 69, 84, 32, 47, 113, 117, 101, 114, 121, 63, 113, 61, 37, 55, 66, 37, 55, 68, 38, 108, 105, 109, 105, 116, 61, 53, 32, 72, 84, 84, 80, 47, 49, 46, 49, 13, 10, 72, 111, 115, 116, 58, 32, 120, 13, 10, 13, 10, 109, 111, 114, 101]
def awkB : Bs := [71, 69, 84, 32, 47, 32, 72, 84, 84, 80, 47, 49, 46, 49, 13, 10, 13, 10]
def awkC : Bs := [71, 69, 84, 32, 47, 32, 72, 84, 84, 80]
set_option maxRecDepth 100000 in
theorem awkA_ok : parseP awkA = .ok (⟨[71, 69, 84], [47, 113, 117, 101, 114, 121], [([113], [123, 125]), ([108, 105, 109, 105, 116], [53])], []⟩, 49) := by kernel_rfl
set_option maxRecDepth 100000 in
theorem awkB_no : parseP awkB = .error 60 := by kernel_rfl
set_option maxRecDepth 100000 in
theorem awkC_no : parseP awkC = .error 5 := by kernel_rfl
end Garner
namespace Go.Proofs.YtcjapjnhejenaaaDoor
open Go.RowKit Go.Shelf Garner

/-- a request that reads as q -/
def ReqR (w : World) (rv : Value) (q : ReqP) : Prop := ∃ A c Av cv, rv = .agg #[str q.method, str q.path, .slice A q.query.length c, .slice Av q.body.length cv] ∧ Row w w.heap.size 2 A q.query.length (pairCells q.query) ∧ Bytes w w.heap.size Av q.body.length q.body ∧ q.query.length ≤ 9223372036854775807
theorem ReqR.below {w w' : World} {rv : Value} {q : ReqP} (h : ReqR w rv q) (hb : Below w.heap.size w w') : ReqR w' rv q := by
  obtain ⟨A, c, Av, cv, e, h1, h2, h3⟩ := h
  exact ⟨A, c, Av, cv, e, (h1.below hb).more hb.size, (h2.below hb).more hb.size, h3⟩
theorem parseR {w : World} {B : Nat} {rv : Value} {tz x : Nat} {P : Except Nat (ReqP × Nat)} (h : ParseIs w B rv tz x P) : ReqR w rv (reqOf P) ∧ tz = nOf P ∧ x = eOf P := by
  cases P with
  | error e =>
    obtain ⟨h1, -, h2, rfl⟩ := h
    exact ⟨⟨none, 0, none, 0, rfl, ⟨rfl, fun h => absurd h (Nat.lt_irrefl 0)⟩, ⟨rfl, fun h => absurd h (Nat.lt_irrefl 0)⟩, Nat.zero_le _⟩, h2, h1.symm⟩
  | ok p =>
    obtain ⟨q, n⟩ := p
    obtain ⟨h1, h2, A, c, v, rfl, hq, hv⟩ := h
    obtain ⟨Av, cv, rfl, hrow⟩ := OwnB.shape hv
    refine ⟨⟨A, c, Av, cv, rfl, Row.of_own hq, hrow, ?_⟩, h2, h1⟩
    rcases Nat.eq_zero_or_pos q.query.length with h0 | h0
    · show q.query.length ≤ _; omega
    · obtain ⟨g, -, -, -, hc1, hc2, -⟩ := own_at hq h0
      show q.query.length ≤ _
      simp only [maxLen] at hc2
      omega
theorem zeroR (w : World) : ReqR w zeroReq noReq := ⟨none, 0, none, 0, rfl, ⟨rfl, fun h => absurd h (Nat.lt_irrefl 0)⟩, ⟨rfl, fun h => absurd h (Nat.lt_irrefl 0)⟩, Nat.zero_le _⟩
theorem pairCells_at : ∀ {l : List (Bs × Bs)} {k : Nat} {p : Bs × Bs}, l[k]? = some p → (pairCells l)[2 * k]? = some (str p.1) ∧ (pairCells l)[2 * k + 1]? = some (str p.2)
  | x :: l, 0, p, h => by
    simp at h; subst h
    exact ⟨rfl, rfl⟩
  | x :: l, k + 1, p, h => by
    have := pairCells_at (l := l) (k := k) (p := p) (by simpa using h)
    exact this
/-- Parse, by what it reads as -/
theorem pParse (b : Bs) (A : Option Addr) (c B : Nat) (w : World) (hL : Lt w) (hr : Bytes w B A b.length b) (hB : B ≤ w.heap.size) (hc : b.length ≤ c) (hA : A = none → c = 0) (hl : b.length < 4294967281) :
    Calls Tryd.prog 9 #[.slice A b.length c] w fun e w' => ∃ q2 A' c' Av cv, e = .returned (.tuple #[.agg #[str (reqOf (parseP b)).method, str (reqOf (parseP b)).path, .slice A' q2 c', .slice Av (reqOf (parseP b)).body.length cv], .int .i64 (nOf (parseP b)), .int .i64 (eOf (parseP b))]) ∧
      q2 = (reqOf (parseP b)).query.length ∧ ReqR w' (.agg #[str (reqOf (parseP b)).method, str (reqOf (parseP b)).path, .slice A' q2 c', .slice Av (reqOf (parseP b)).body.length cv]) (reqOf (parseP b)) ∧ Below w.heap.size w w' := by
  refine (vParse b A c B w hL hr hB hc hA hl).mono ?_
  rintro e w' ⟨rv, tz, x, rfl, hp, hb⟩
  obtain ⟨hq, rfl, rfl⟩ := parseR hp
  have hq2 := hq
  obtain ⟨A', c', Av, cv, rfl, -, -, -⟩ := hq2
  exact ⟨_, A', c', Av, cv, rfl, rfl, hq, hb⟩

set_option maxRecDepth 100000 in
set_option maxHeartbeats 4000000 in
/-- Same, of two that read as one request -/
theorem vSameR (x y : Value) (q : ReqP) (w : World) (hx : ReqR w x q) (hy : ReqR w y q) :
    Calls Tryd.prog 10 #[x, y] w fun e w' => e = .returned (.bool true) ∧ Below w.heap.size w w' := by
  obtain ⟨A, c, Av, cv, rfl, hr, hb, hql⟩ := hx
  obtain ⟨A', c', Av', cv', rfl, hr', hb', -⟩ := hy
  obtain ⟨n, hn⟩ : ∃ n, q.query.length = n := ⟨_, rfl⟩
  obtain ⟨m, hm⟩ : ∃ m, q.body.length = m := ⟨_, rfl⟩
  rw [hn] at hr hr' hql ⊢
  rw [hm] at hb hb' ⊢
  obtain ⟨X, hX⟩ : ∃ X, X = (w.alloc (.cells #[str q.method, str q.path, .slice A n c, .slice Av m cv] 26)).alloc (.cells #[str q.method, str q.path, .slice A' n c', .slice Av' m cv'] 26) := ⟨_, rfl⟩
  have hbX : Below w.heap.size w X := by rw [hX]; exact ((Below.refl _ _).alloc (Nat.le_refl _) _).alloc (by simp) _
  have b1 : Blk X w.heap.size 26 [str q.method, str q.path, .slice A n c, .slice Av m cv] := by rw [hX]; exact (Blk.new w _ _).alloc _
  have b2 : Blk X (w.heap.size + 1) 26 [str q.method, str q.path, .slice A' n c', .slice Av' m cv'] := by
    have := Blk.new (w.alloc (.cells #[str q.method, str q.path, .slice A n c, .slice Av m cv] 26)) 26 [str q.method, str q.path, .slice A' n c', .slice Av' m cv']
    rw [World.size_alloc] at this
    rw [hX]; exact this
  have s1 := run_str (c := cv) (hb.below hbX)
  have s2 := run_str (c := cv') (hb'.below hbX)
  have hrX := hr.below hbX
  have hrX' := hr'.below hbX
  have c0 : X.cell? ⟨w.heap.size, 0, none⟩ = some (str q.method) := b1.cell 0
  have c1 : X.cell? ⟨w.heap.size, 1, none⟩ = some (str q.path) := b1.cell 1
  have c2 : X.cell? ⟨w.heap.size, 2, none⟩ = some (.slice A n c) := b1.cell 2
  have c3 : X.cell? ⟨w.heap.size, 3, none⟩ = some (.slice Av m cv) := b1.cell 3
  have d0 : X.cell? ⟨w.heap.size + 1, 0, none⟩ = some (str q.method) := b2.cell 0
  have d1 : X.cell? ⟨w.heap.size + 1, 1, none⟩ = some (str q.path) := b2.cell 1
  have d2 : X.cell? ⟨w.heap.size + 1, 2, none⟩ = some (.slice A' n c') := b2.cell 2
  have d3 : X.cell? ⟨w.heap.size + 1, 3, none⟩ = some (.slice Av' m cv') := b2.cell 3
  go_enter Tryd.func10, Tryd.ntmps10
  go_upto_region 1 with fail
  rw [← hX]
  clear hX
  go_wp2
  go_loopw [5] (fun i wr => ∃ k : Nat, k ≤ n ∧ i = .int .i64 k ∧ Below X.heap.size X wr) (fun i _ => n - (intOf i).toNat)
  case atStart => exact ⟨0, Nat.zero_le _, rfl, Below.refl _ _⟩
  case round =>
    obtain ⟨k, hk, rfl, hbr⟩ := hrel
    obtain ⟨wo, rfl⟩ : ∃ wo : World, wo = wr := ⟨_, rfl⟩
    have e2 : wo.cell? ⟨w.heap.size, 2, none⟩ = some (.slice A n c) := (b1.below hbr b1.lt).cell 2
    have f2 : wo.cell? ⟨w.heap.size + 1, 2, none⟩ = some (.slice A' n c') := (b2.below hbr b2.lt).cell 2
    by_cases hlt : k < n
    · have z1 : (k : Int) < (n : Int) := by omega
      have w1 : IntKind.i64.wrap ((k : Int) + 1) = (k : Int) + 1 := by rw [IntKind.wrap_i64]; omega
      obtain ⟨b, off, rfl, hbk, hcc⟩ := (hrX.below (hbr.mono hbX.size)).2 (by omega)
      obtain ⟨b', off', rfl, hbk', hcc'⟩ := (hrX'.below (hbr.mono hbX.size)).2 (by omega)
      obtain ⟨p, hp⟩ : ∃ p, q.query[k]? = some p := ⟨_, List.getElem?_eq_getElem (by omega)⟩
      obtain ⟨hp1, hp2⟩ := pairCells_at hp
      have k0 := hcc _ _ hp1
      have k1 := hcc _ _ hp2
      have k0' := hcc' _ _ hp1
      have k1' := hcc' _ _ hp2
      rw [Nat.mul_comm 2 k] at k0 k1 k0' k1'
      rw [← Nat.add_assoc] at k1 k1'
      clear hcc hcc' hp1 hp2
      go_upto_region 6 with fail
      go_region
      all_goals go_wp2
      exact ⟨⟨k + 1, by omega, by simp, hbr.drew⟩, by simp [intOf]; omega⟩
    · have z1 : ¬ (k : Int) < (n : Int) := by omega
      go_wp2
      go_ret
      exact ⟨rfl, hbX.trans (hbr.mono hbX.size)⟩

/-- bytes of a constant: the row that the walk lays -/
theorem const_row (w : World) (l : Bs) (z : Nat × Nat) : Bytes (w.alloc (.cells (l.map bv).toArray 5 z)) (w.heap.size + 1) (some ⟨w.heap.size, 0, none⟩) l.length l := by
  refine ⟨by simp, fun _ => ⟨w.heap.size, 0, rfl, by omega, fun j u hu => ?_⟩⟩
  have h := heap_alloc_new w (.cells (l.map bv).toArray 5 z)
  simp only [World.cell?, h]
  simpa using hu
set_option maxRecDepth 100000 in
set_option maxHeartbeats 8000000 in
theorem awake26 (w : World) (hL : Lt w) : Calls Tryd.prog 8 #[] w fun e w' => e = .returned (.bool true) ∧ Below w.heap.size w w' := by
  have kc := fun (u : World) (C : Array Value) (n c : Nat) => Lib.run_convert_bytes_const (P := Tryd.prog) u 22 5 C n c Tryd.underlying22 Tryd.underlying5
  have p1 := fun (u : World) (hu : Below w.heap.size w u) => (pParse awkA (some ⟨u.heap.size, 0, none⟩) awkA.length (u.heap.size + 1) (u.alloc (.cells (awkA.map bv).toArray 5 (awkA.length, awkA.length + 1))) (hL.below (hu.alloc hu.size _)) (const_row u awkA _) (by simp) (Nat.le_refl _) (fun h => by cases h) (by decide)).mono (R' := fun e w' => ∃ A c Av cv, e = .returned (.tuple #[.agg #[str [71, 69, 84], str [47, 113, 117, 101, 114, 121], .slice A 2 c, .slice Av 0 cv], .int .i64 49, .int .i64 0]) ∧ (∃ b off, A = some ⟨b, off, none⟩ ∧ b < w'.heap.size ∧ w'.cell? ⟨b, off + 1, none⟩ = some (.string { data := #[123, 125] })) ∧ Below w.heap.size w w') (by
    rintro e w' ⟨q2, A, c, Av, cv, rfl, hq2, hr, hb⟩
    rw [awkA_ok] at hq2 hr ⊢
    obtain rfl : q2 = 2 := hq2
    obtain ⟨A', c', Av', cv', e, hrow, -, -⟩ := hr
    cases e
    refine ⟨_, _, _, _, rfl, ?_, (hu.alloc hu.size _).trans (hb.mono (by simp; have := hu.size; omega))⟩
    obtain ⟨b, off, hA, hbk, hc⟩ := hrow.2 (by decide)
    exact ⟨b, off, hA, hbk, hc 1 _ rfl⟩)
  have p2 := fun (l : Bs) (x : Nat) (hl : parseP l = .error x) (hl2 : l.length < 100) (u : World) (g : Nat) (hg : g = u.heap.size) (hu : Below w.heap.size w u) => (pParse l (some ⟨g, 0, none⟩) l.length (u.heap.size + 1) (u.alloc (.cells (l.map bv).toArray 5 (l.length, l.length + 1))) (hL.below (hu.alloc hu.size _)) (show Bytes _ (u.heap.size + 1) (some ⟨g, 0, none⟩) _ _ from by rw [hg]; exact const_row u l _) (by simp) (Nat.le_refl _) (fun h => by cases h) (by omega)).mono (R' := fun e w' => ∃ A c Av cv, e = .returned (.tuple #[.agg #[str [], str [], .slice A 0 c, .slice Av 0 cv], .int .i64 0, .int .i64 x]) ∧ Below u.heap.size u w') (by
    rintro e w' ⟨q2, A, c, Av, cv, rfl, hq2, hr, hb⟩
    rw [hl] at hq2 hr ⊢
    obtain rfl : q2 = 0 := hq2
    exact ⟨_, _, _, _, rfl, ((Below.refl _ _).alloc (Nat.le_refl _) _).trans (hb.mono (by simp))⟩)
  have P1 := Lib.hid p1; clear p1
  have P2 := Lib.hid p2; clear p2
  go_enter Tryd.func8, Tryd.ntmps8
  go_wp2_with fail
  refine (P1.out w (Below.refl _ _)).mono ?_
  rintro e W1 ⟨A, c, Av, cv, rfl, ⟨b, off, rfl, hbk, hc⟩, hb1⟩
  have kc1 : ∀ (v : World) (o : Obj) (C : Array Value) (n c : Nat), (convert 22 22 (.slice (some ⟨v.heap.size + 1, 0, none⟩) n c)).run Tryd.prog ((v.alloc o).alloc (.cells C 5)) = .ok (.slice (some ⟨v.heap.size + 1, 0, none⟩) n c) ((v.alloc o).alloc (.cells C 5 (C.size, C.size + 1))) := fun v o C n c => by
    have := kc (v.alloc o) C n c
    rwa [World.size_alloc] at this
  have s1 := hb1.size
  go_wp2_with fail
  refine (P2.out awkB 60 awkB_no (by decide) _ (W1.heap.size + 1) (by simp) (hb1.alloc s1 _)).mono ?_
  rintro e W2 ⟨A2, c2, Av2, cv2, rfl, hb2⟩
  obtain ⟨Y, hY⟩ : ∃ Y, Y = W1.alloc (.cells #[.string { data := #[71, 69, 84] }, .string { data := #[47, 113, 117, 101, 114, 121] }, .slice (some ⟨b, off, none⟩) 2 c, .slice Av 0 cv] 26) := ⟨_, rfl⟩
  have bQ : Blk Y W1.heap.size 26 [.string { data := #[71, 69, 84] }, .string { data := #[47, 113, 117, 101, 114, 121] }, .slice (some ⟨b, off, none⟩) 2 c, .slice Av 0 cv] := by rw [hY]; exact Blk.new W1 _ _
  have hcY : Y.cell? ⟨b, off + 1, none⟩ = some (.string { data := #[123, 125] }) := by rw [hY, World.cell?_alloc_lt W1 _ _ hbk]; exact hc
  have hbY : Below w.heap.size w Y := by rw [hY]; exact hb1.alloc s1 _
  have hYs : Y.heap.size = W1.heap.size + 1 := by rw [hY]; simp
  have hb2' : Below Y.heap.size Y W2 := by rw [hY]; exact hb2
  clear hY hb2
  have bQ2 := bQ.below hb2' bQ.lt
  have hc2 : W2.cell? ⟨b, off + 1, none⟩ = some (.string { data := #[123, 125] }) := by rw [hb2'.cell (p := ⟨b, off + 1, none⟩) (by show b < _; omega)]; exact hcY
  have hbW2 := hbY.trans (hb2'.mono hbY.size)
  have s2 := hbW2.size
  go_wp2_with fail
  refine (P2.out awkC 5 awkC_no (by decide) _ (W2.heap.size + 1) (by simp) (hbW2.alloc s2 _)).mono ?_
  rintro e W3 ⟨A3, c3, Av3, cv3, rfl, hb3⟩
  have hb3' : Below W2.heap.size W2 W3 := ((Below.refl _ _).alloc (Nat.le_refl _) _).trans (hb3.mono (by simp))
  have bQ3 := bQ2.below hb3' bQ2.lt
  have hbW3 := hbW2.trans (hb3'.mono s2)
  have hlt2 : b < W2.heap.size := by have := hb2'.size; omega
  have hc3 : W3.cell? ⟨b, off + 1, none⟩ = some (.string { data := #[123, 125] }) := by rw [hb3'.cell (p := ⟨b, off + 1, none⟩) hlt2]; exact hc2
  have q0 : ∀ o, (W3.alloc o).cell? ⟨W1.heap.size, 0, none⟩ = some (.string { data := #[71, 69, 84] }) := fun o => (bQ3.alloc o).cell 0
  have q1 : ∀ o, (W3.alloc o).cell? ⟨W1.heap.size, 1, none⟩ = some (.string { data := #[47, 113, 117, 101, 114, 121] }) := fun o => (bQ3.alloc o).cell 1
  have q2 : ∀ o, (W3.alloc o).cell? ⟨W1.heap.size, 2, none⟩ = some (.slice (some ⟨b, off, none⟩) 2 c) := fun o => (bQ3.alloc o).cell 2
  have q3 : ∀ o, (W3.alloc o).cell? ⟨b, off + 1, none⟩ = some (.string { data := #[123, 125] }) := fun o => by rw [World.cell?_alloc_lt W3 _ _ (by have := hb3'.size; show b < _; omega)]; exact hc3
  clear hcY hc2 hc bQ bQ2 hb2' hb3
  go_wp2
  go_ret
  exact ⟨rfl, hbW3.alloc hbW3.size _⟩
end Go.Proofs.YtcjapjnhejenaaaDoor
