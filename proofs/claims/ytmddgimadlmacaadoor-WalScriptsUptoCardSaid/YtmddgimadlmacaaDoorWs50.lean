import Derived.Test.YtmddgimadlmacaaDoorWs49
/-! layer 10: one call on both logs, on both disks -/
namespace Go.Proofs.YtmddgimadlmacaaDoor
open Go.RowKit Garner

structure Env (w0 : World) : Prop where
  tab : TabP w0
  idx : (Tryd.prog.globalNamed "internal/strconv.uint64pow10").getD 0 < w0.heap.size
inductive GoodW (N : Nat) (w0 w : World) (g mp gr : Nat) : Value → Value → Prop
  | nil {d b : AD} (u : UU w0 w g mp gr d b) (s : Sim d b) (t : BdT N b.fs) : GoodW N w0 w g mp gr (.pointer none) (.pointer none)
  | both {gl rl : Nat} {L : WL} {d b : AD} (h1 : LogAt w g gl L) (h2 : RLog w gr rl L) (hlo : w0.heap.size ≤ gl ∧ w0.heap.size ≤ rl) (hk : LokW L) (u : UU w0 w g mp gr d b) (s : Sim d b) (t : BdT N b.fs) : GoodW N w0 w g mp gr (.pointer (some ⟨gl, 0, none⟩)) (.pointer (some ⟨rl, 0, none⟩))
section
variable {w0 w w1 X : World} {g mp gr gl rl fb N : Nat} {d d' b b' : AD} {lv rv : Value} {L : WL}
theorem GoodW.bw (h : GoodW N w0 w g mp gr lv rv) : Below w0.heap.size w0 w := by cases h with | nil u => exact u.b | both _ _ _ _ u => exact u.b
theorem GoodW.below (h : GoodW N w0 w g mp gr lv rv) (hb : Below w.heap.size w X) : GoodW N w0 X g mp gr lv rv := by
  cases h with
  | nil u s t => exact .nil (u.below hb) s t
  | both h1 h2 h3 h4 u s t => exact .both (h1.below hb h1.lt) (h2.below hb h2.lt) h3 h4 (u.below hb) s t
theorem GoodW.more (h : GoodW N w0 w g mp gr lv rv) : GoodW (N + 1) w0 w g mp gr lv rv := by
  cases h with
  | nil u s t => exact .nil u s t.mono
  | both h1 h2 h3 h4 u s t => exact .both h1 h2 h3 h4 u s t.mono
theorem GoodW.of (u : UU w0 w g mp gr d b) (l : ∃ lo : Option WL, Logs w0 w g gr lv rv (lo.map fun L => (L, L)) ∧ ∀ L, lo = some L → LokW L) (s : Sim d b) (t : BdT N b.fs) : GoodW N w0 w g mp gr lv rv := by
  obtain ⟨lo, l, hk⟩ := l
  cases lo with
  | none => cases l; exact .nil u s t
  | some L =>
    generalize hx : (some L).map (fun L => (L, L)) = x at l
    cases l with
    | nil => cases hx
    | both h1 h2 h3 =>
      simp only [Option.map_some, Option.some.injEq, Prod.mk.injEq] at hx
      obtain ⟨rfl, rfl⟩ := hx
      exact .both h1 h2 h3 (hk L rfl) u s t
theorem GoodW.to (h : GoodW N w0 w g mp gr lv rv) : ∃ d b, UU w0 w g mp gr d b ∧ (∃ lo : Option WL, Logs w0 w g gr lv rv (lo.map fun L => (L, L)) ∧ ∀ L, lo = some L → LokW L) ∧ Sim d b ∧ BdT N b.fs := by
  cases h with
  | nil u s t => exact ⟨_, _, u, ⟨none, .nil, by simp⟩, s, t⟩
  | @both gl rl L d b h1 h2 h3 h4 u s t => exact ⟨_, _, u, ⟨some L, .both h1 h2 h3, fun L' e => by cases e; exact h4⟩, s, t⟩
theorem box_p {bx : Nat} {cs : List Value} (hu : UU w0 w g mp gr d b) (hx : Blk w bx 58 cs) : bx ≠ g ∧ bx ≠ mp := by
  obtain ⟨es, h1, _⟩ := hu.d.ex
  refine ⟨fun e => (hx.ne_ h1.blk (by decide)) e, fun e => ?_⟩
  subst e
  obtain ⟨_, _, hm1, _⟩ := h1.map
  unfold Blk at hx
  rw [hm1] at hx; cases hx
theorem box_p2 {bx : Nat} {cs : List Value} (hu : UU w0 w g mp gr d b) (hx : Blk w bx 58 cs) (hb : But [g, mp] w w1) : Blk w1 bx 58 cs := by
  have := box_p hu hx
  exact hx.but hb (by simp only [List.mem_cons, List.not_mem_nil, or_false]; omega)
theorem box_p3 {bx : Nat} {cs : List Value} (hu : UU w0 w g mp gr d b) (hx : Blk w bx 58 cs) (h1 : LogAt w g gl L) (hb : But [g, mp, gl] w w1) : Blk w1 bx 58 cs := by
  have := box_p hu hx
  have h2 : bx ≠ gl := hx.ne_ h1 (by decide)
  exact hx.but hb (by simp only [List.mem_cons, List.not_mem_nil, or_false]; omega)
/-- one call of the program, then the same of the document -/
def PairPost (bx : Nat) (cs : List Value) (N : Nat) (w0 : World) (g mp gr : Nat) (lv rv : Value) (C : World → (Ending → World → Prop) → Prop) (e : Ending) (w1 : World) : Prop :=
  ∃ r : Nat, e = .returned (.int .i64 r) ∧ Blk w1 bx 58 cs ∧ Below w0.heap.size w0 w1 ∧ ∀ X, Below w1.heap.size w1 X → C X fun e2 w2 => e2 = .returned (.int .i64 r) ∧ GoodW (N + 1) w0 w2 g mp gr lv rv
/-- the same for calls without results -/
def PairPost0 (bx : Nat) (cs : List Value) (N : Nat) (w0 : World) (g mp gr : Nat) (lv rv : Value) (C : World → (Ending → World → Prop) → Prop) (e : Ending) (w1 : World) : Prop :=
  e = .returned (.tuple #[]) ∧ Blk w1 bx 58 cs ∧ Below w0.heap.size w0 w1 ∧ ∀ X, Below w1.heap.size w1 X → C X fun e2 w2 => e2 = .returned (.tuple #[]) ∧ GoodW (N + 1) w0 w2 g mp gr lv rv
theorem BdT.bds (h : BdT N b.fs) (hN : N ≤ 1048576) : (b.fs.length + 1) * 48 ≤ 140737488355328 ∧ b.fs.length * 48 ≤ 140737488355328 ∧ b.fs.length ≤ 140737488355328 ∧ b.fs.length * 16 ≤ 140737488351232 := by
  have := h.len; omega
theorem Env.nms (he : Env w0) (hb : Below w0.heap.size w0 w) {m : Nat} (hm : m ≤ 1000000000) : Nms w0.heap.size w m := (nms_all he.tab he.idx m hm).below hb
theorem Sim.fget_eq (h : Sim d b) (nm : Bs) : fget nm d.fs = fget nm b.fs := by unfold fget; rw [h.get]
theorem pair_app (p : Bs) (A : Option Addr) (c : Nat) (he : Env w0) (h : GoodW N w0 w g mp gr lv rv) (hN : N ≤ 1048576) (hr : Bytes w0 w0.heap.size A p.length p) (hl : p.length ≤ 1048576) {bx : Nat} {cs : List Value} (hx : Blk w bx 58 cs) :
    Calls Tryd.prog 14 #[lv, .slice A p.length c] w (PairPost bx cs N w0 g mp gr lv rv fun X Q => Calls Tryd.prog 23 #[rv, .slice A p.length c] X Q) := by
  cases h with
  | nil u s t =>
    refine (pLogAppendNil A _ c w).mono fun e w1 ⟨h1, h2⟩ => ⟨2, h1, by rw [h2]; exact hx, by rw [h2]; exact u.b, fun X hX => ?_⟩
    subst h2
    exact (qLogAppendNil A _ c X).mono fun e2 w2 ⟨h3, h4⟩ => ⟨h3, by rw [h4]; exact .nil (u.below hX) s t.mono⟩
  | @both gl rl L d b h1 h2 h3 h4 u s t =>
    obtain ⟨s1, s2, s3⟩ := s.wapp p L
    refine (vLogApp w0.heap.size g mp gl d L w p A c w0.heap.size u.d h1 h4.2.1 (he.nms u.b h4.2.2) (hr.below u.b) u.b.size (by omega) (by rw [s.fget_eq]; have := t.get hN (walNm L.n); omega)).mono ?_
    rintro e w1 ⟨e1, hd, hk, hb⟩
    obtain ⟨u1, k2⟩ := u.p3 h1 h2 h3.1 hd hb
    refine ⟨_, e1, box_p3 u hx h1 hb, u1.b, fun X hX => ?_⟩
    have u2 := u1.below hX
    have j1 := Blk.below hk hX hk.lt
    have j2 := Blk.below k2 hX k2.lt
    obtain ⟨fb, hfb, hq⟩ := u2.q3 j1 j2 h3.2
    refine (rLogApp gr fb rl b L X p A c w0.heap.size hfb j2 h4.2.1 h4.2.2 (hr.below u2.b) u2.b.size (by omega) (t.bds hN).1 (by have := t.get hN (walNm L.n); omega)).mono ?_
    rintro e2 w2 ⟨e3, ⟨fb', hr', hf'⟩, hk', hb'⟩
    obtain ⟨u3, j3⟩ := hq w2 fb' _ hr' hf' hb'
    refine ⟨by rw [e3, s1], ?_⟩
    have hbt : BdT (N + 1) (rApp p L b).2.2.fs := by
      unfold rApp
      split
      · exact t.mono
      · exact t.app s.asc _ _ (Nat.le_trans (frB_le (by omega)) (by omega))
    have hL : (rApp p L b).2.1.first = L.first ∧ (rApp p L b).2.1.n = L.n := by
      unfold rApp
      split <;> exact ⟨rfl, rfl⟩
    have j3' : LogAt w2 g gl (rApp p L b).2.1 := by rw [← s2]; exact j3
    exact .both j3' hk' h3 ⟨by rw [hL.1]; exact h4.1, by rw [hL.2]; exact h4.2.1, by rw [hL.2]; exact h4.2.2⟩ u3 s3 hbt
theorem pair_sync (he : Env w0) (h : GoodW N w0 w g mp gr lv rv) (hN : N ≤ 1048576) {bx : Nat} {cs : List Value} (hx : Blk w bx 58 cs) :
    Calls Tryd.prog 24 #[lv] w (PairPost bx cs N w0 g mp gr lv rv fun X Q => Calls Tryd.prog 25 #[rv] X Q) := by
  cases h with
  | nil u s t =>
    refine (pLogSyncNil w).mono fun e w1 ⟨h1, h2⟩ => ⟨2, h1, by rw [h2]; exact hx, by rw [h2]; exact u.b, fun X hX => ?_⟩
    subst h2
    exact (qLogSyncNil X).mono fun e2 w2 ⟨h3, h4⟩ => ⟨h3, by rw [h4]; exact .nil (u.below hX) s t.mono⟩
  | @both gl rl L d b h1 h2 h3 h4 u s t =>
    obtain ⟨s1, s2⟩ := s.wsync L
    refine (vLogSync w0.heap.size g mp gl d L w u.d h1 h4.2.1 (he.nms u.b h4.2.2)).mono ?_
    rintro e w1 ⟨e1, hd, hk, hb⟩
    obtain ⟨u1, k2⟩ := u.p3 h1 h2 h3.1 hd hb
    refine ⟨_, e1, box_p3 u hx h1 hb, u1.b, fun X hX => ?_⟩
    have u2 := u1.below hX
    have j1 := Blk.below hk hX hk.lt
    have j2 := Blk.below k2 hX k2.lt
    obtain ⟨fb, hfb, hq⟩ := u2.q3 j1 j2 h3.2
    refine (rLogSync gr fb rl b L X hfb j2 h4.2.1 h4.2.2 (t.bds hN).2.2.1).mono ?_
    rintro e2 w2 ⟨e3, ⟨fb', hr', hf'⟩, hk', hb'⟩
    obtain ⟨u3, j3⟩ := hq w2 fb' _ hr' hf' (hb'.mono (by simp +contextual))
    refine ⟨by rw [e3, s1], ?_⟩
    have hbt : BdT (N + 1) (rSyn L b).2.fs := by
      unfold rSyn
      split
      · exact t.sync s.asc _
      · exact t.mono
    exact .both j3 hk' h3 h4 u3 s2 hbt
theorem pair_rot (h : GoodW N w0 w g mp gr lv rv) {bx : Nat} {cs : List Value} (hx : Blk w bx 58 cs) :
    Calls Tryd.prog 16 #[lv] w (PairPost bx cs N w0 g mp gr lv rv fun X Q => Calls Tryd.prog 26 #[rv] X Q) := by
  cases h with
  | nil u s t =>
    refine (pLogRotateNil w).mono fun e w1 ⟨h1, h2⟩ => ⟨2, h1, by rw [h2]; exact hx, by rw [h2]; exact u.b, fun X hX => ?_⟩
    subst h2
    exact (qLogRotateNil X).mono fun e2 w2 ⟨h3, h4⟩ => ⟨h3, by rw [h4]; exact .nil (u.below hX) s t.mono⟩
  | @both gl rl L d b h1 h2 h3 h4 u s t =>
    refine (vLogRot w0.heap.size g mp gl d L w u.d h1 h4.2.2).mono ?_
    rintro e w1 ⟨e1, hd, hk, hb⟩
    obtain ⟨u1, k2⟩ := u.p3 h1 h2 h3.1 hd (hb.mono (by simp +contextual))
    refine ⟨_, e1, box_p3 u hx h1 (hb.mono (by simp +contextual)), u1.b, fun X hX => ?_⟩
    have u2 := u1.below hX
    have j1 := Blk.below hk hX hk.lt
    have j2 := Blk.below k2 hX k2.lt
    obtain ⟨fb, hfb, hq⟩ := u2.q3 j1 j2 h3.2
    refine (rLogRot gr fb rl b L X hfb j2 h4.2.2).mono ?_
    rintro e2 w2 ⟨e3, ⟨fb', hr', hf'⟩, hk', hb'⟩
    obtain ⟨u3, j3⟩ := hq w2 fb' _ hr' hf' (hb'.mono (by simp +contextual))
    refine ⟨e3, ?_⟩
    have hL : LokW (wRot L).2 := by
      obtain ⟨a1, a2, a3⟩ := h4
      unfold wRot
      split
      · exact ⟨a1, a2, a3⟩
      · split
        · exact ⟨a1, by show 1 ≤ L.n + 1; omega, by show L.n + 1 ≤ _; omega⟩
        · exact ⟨a1, a2, a3⟩
    exact .both j3 hk' h3 hL u3 s t.mono
theorem drop_lok : ∀ (k : Nat) (L : WL) (b : AD), LokW L → LokW (wDrop k L b).2.1
  | 0, _, _, h => h
  | k + 1, L, b, h => by
    rw [wDrop]
    split
    · exact h
    · exact drop_lok k _ _ ⟨by show 1 ≤ L.first + 1; omega, h.2⟩
theorem pair_drop (n : Int) (he : Env w0) (h : GoodW N w0 w g mp gr lv rv) (hN : N ≤ 1048576) {bx : Nat} {cs : List Value} (hx : Blk w bx 58 cs) :
    Calls Tryd.prog 17 #[lv, .int .i64 n] w (PairPost bx cs N w0 g mp gr lv rv fun X Q => Calls Tryd.prog 27 #[rv, .int .i64 n] X Q) := by
  cases h with
  | nil u s t =>
    refine (pLogDropNil n w).mono fun e w1 ⟨h1, h2⟩ => ⟨2, h1, by rw [h2]; exact hx, by rw [h2]; exact u.b, fun X hX => ?_⟩
    subst h2
    exact (qLogDropNil n X).mono fun e2 w2 ⟨h3, h4⟩ => ⟨h3, by rw [h4]; exact .nil (u.below hX) s t.mono⟩
  | @both gl rl L d b h1 h2 h3 h4 u s t =>
    obtain ⟨s1, s2, s3⟩ := Sim.wdrop (min n L.n - L.first).toNat L s
    refine (vLogDrop w0.heap.size g mp gl d L w n u.d h1 h3.1 h4.1 h4.2.2 (he.nms u.b h4.2.2) _ rfl).mono ?_
    rintro e w1 ⟨e1, hd, hk, hb⟩
    obtain ⟨u1, k2⟩ := u.p3 h1 h2 h3.1 hd hb
    refine ⟨_, e1, box_p3 u hx h1 hb, u1.b, fun X hX => ?_⟩
    have u2 := u1.below hX
    have j1 := Blk.below hk hX hk.lt
    have j2 := Blk.below k2 hX k2.lt
    obtain ⟨fb, hfb, hq⟩ := u2.q3 j1 j2 h3.2
    refine (rLogDrop gr fb rl b L X n hfb j2 h4.1 h4.2.2 (t.bds hN).2.1 _ rfl).mono ?_
    rintro e2 w2 ⟨e3, ⟨fb', hr', hf'⟩, hk', hb'⟩
    obtain ⟨u3, j3⟩ := hq w2 fb' _ hr' hf' hb'
    refine ⟨by rw [e3, s1], ?_⟩
    have j3' : LogAt w2 g gl (wDrop (min n L.n - L.first).toNat L b).2.1 := by rw [← s2]; exact j3
    exact .both j3' hk' h3 (drop_lok _ L b h4) u3 s3 (BdT.drop _ L t).mono
theorem pair_fill (x : Bool) (h : GoodW N w0 w g mp gr lv rv) {bx : Nat} {cs : List Value} (hx : Blk w bx 58 cs) :
    Calls Tryd.prog 28 #[.pointer (some ⟨g, 0, none⟩), .bool x] w (PairPost0 bx cs N w0 g mp gr lv rv fun X Q => Calls Tryd.prog 29 #[.pointer (some ⟨gr, 0, none⟩), .bool x] X Q) := by
  obtain ⟨d, b, u, ⟨lo, l, hk⟩, s, t⟩ := h.to
  refine (aFill_calls _ g mp d w x u.d).mono ?_
  rintro e w1 ⟨e1, hd, hb⟩
  have u1 := u.p hd hb
  have l1 := l.p u hb
  refine ⟨e1, box_p2 u hx hb, u1.b, fun X hX => ?_⟩
  have u2 := u1.below hX
  obtain ⟨fb, r1, r2, r3, r4⟩ := u2.fbx (l1.below hX)
  refine (bFill_calls gr fb b X x r1).mono ?_
  rintro e2 w2 ⟨e3, hr, hb2⟩
  have hb3 : But [gr, fb] X w2 := hb2.mono (by simp +contextual)
  exact ⟨e3, GoodW.of (u2.q r1 r2 r3 hr (Or.inl rfl) hb3) ⟨lo, r4 w2 hb3, hk⟩ (s.fill x) t.mono⟩
theorem pair_arm (n : Int) (hn : in64 n) (h : GoodW N w0 w g mp gr lv rv) {bx : Nat} {cs : List Value} (hx : Blk w bx 58 cs) :
    Calls Tryd.prog 30 #[.pointer (some ⟨g, 0, none⟩), .int .i64 n] w (PairPost0 bx cs N w0 g mp gr lv rv fun X Q => Calls Tryd.prog 31 #[.pointer (some ⟨gr, 0, none⟩), .int .i64 n] X Q) := by
  obtain ⟨d, b, u, ⟨lo, l, hk⟩, s, t⟩ := h.to
  refine (aArm_calls _ g mp d w n hn.1 hn.2 u.d).mono ?_
  rintro e w1 ⟨e1, hd, hb⟩
  have u1 := u.p hd hb
  have l1 := l.p u hb
  refine ⟨e1, box_p2 u hx hb, u1.b, fun X hX => ?_⟩
  have u2 := u1.below hX
  obtain ⟨fb, r1, r2, r3, r4⟩ := u2.fbx (l1.below hX)
  refine (bArm_calls gr fb b X n hn.2 r1).mono ?_
  rintro e2 w2 ⟨e3, hr, hb2⟩
  have hb3 : But [gr, fb] X w2 := hb2.mono (by simp +contextual)
  exact ⟨e3, GoodW.of (u2.q r1 r2 r3 hr (Or.inl rfl) hb3) ⟨lo, r4 w2 hb3, hk⟩ (s.arm n) (t.arm n).mono⟩
theorem pair_rst (keep : List Int) (A : Option Addr) (c : Nat) (h : GoodW N w0 w g mp gr lv rv) (hN : N ≤ 1048576) (hkl : keep.length ≤ 140737488355328) (hkr : ∀ k ∈ keep, in64 k)
    {w' : World} (hw' : Below w.heap.size w w') (hr : Row w' w'.heap.size 1 A keep.length (keep.map (Value.int .i64))) (hA : 0 < keep.length → ∀ k off, A = some ⟨k, off, none⟩ → k < w0.heap.size ∨ w.heap.size ≤ k) (bx : Nat) (cs : List Value) :
    Calls Tryd.prog 32 #[.pointer (some ⟨g, 0, none⟩), .slice A keep.length c] w' fun e w1 => e = .returned (.tuple #[]) ∧ Below w0.heap.size w0 w1 ∧ (Blk w' bx 58 cs → Blk w1 bx 58 cs) ∧ ∀ X (A' : Option Addr) (c' : Nat), Below w1.heap.size w1 X → Row X X.heap.size 1 A' keep.length (keep.map (Value.int .i64)) → (0 < keep.length → ∀ k off, A' = some ⟨k, off, none⟩ → k < w0.heap.size ∨ w1.heap.size ≤ k) →
      Calls Tryd.prog 33 #[.pointer (some ⟨gr, 0, none⟩), .slice A' keep.length c'] X fun e2 w2 => e2 = .returned (.tuple #[]) ∧ GoodW N w0 w2 g mp gr lv rv ∧ (Blk w1 bx 58 cs → Blk w2 bx 58 cs) := by
  obtain ⟨d, b, u0, ⟨lo, l0, hk⟩, s, t⟩ := h.to
  have u := u0.below hw'
  have l := l0.below hw'
  have hlt := u0.d.lt
  have e1 := u.d.hg; have e2 := u.d.hm
  refine (aRestart_calls A c _ g mp d w' keep u.d hr (fun h0 k off e => by have := hA h0 k off e; omega) hkl hkr (by rw [s.len]; exact (t.bds hN).2.2.2)).mono ?_
  rintro e w1 ⟨e1, hd, hb⟩
  have u1 := u.p hd hb
  have l1 := l.p u hb
  refine ⟨e1, u1.b, fun hx => box_p2 u hx hb, fun X A' c' hX hr' hA' => ?_⟩
  obtain ⟨fb0, p1, p2, p3, p4⟩ := u1.fbx l1
  have hpick : ∃ fb1, RefD w1 gr fb1 b ∧ (fb1 = fb0 ∨ fb1 = gr) ∧ (Blk w1 bx 58 cs → fb1 ≠ bx ∧ gr ≠ bx) := by
    by_cases hx : Blk w1 bx 58 cs
    · obtain ⟨fb, q1, c1, n1, m1⟩ := p1.pick hx (by decide) (by decide)
      exact ⟨fb, q1, c1, fun _ => ⟨n1, m1⟩⟩
    · exact ⟨fb0, p1, Or.inl rfl, fun h => absurd h hx⟩
  obtain ⟨fb, r1, c1, n1⟩ := hpick
  have hlo0 := u1.lo
  have r2 : ∀ k ∈ [g, mp], k ∉ [gr, fb] := fun k hk hm => by
    have := p2 k hk
    simp only [List.mem_cons, List.not_mem_nil, or_false] at hm this
    omega
  have r3 : w0.heap.size ≤ fb := by omega
  have r4 : ∀ w2, But [gr, fb] w1 w2 → Logs w0 w2 g gr lv rv _ := fun w2 hb => p4 w2 (hb.mono (fun k hk => by simp only [List.mem_cons, List.not_mem_nil, or_false] at hk ⊢; omega))
  have hlt1 := r1.lts
  have hlo := u1.lo
  have u2 := u1.below hX
  refine (bRestart_calls gr fb b X keep A' c' hr' (fun h0 k off e => by have := hA' h0 k off e; omega) hkl hkr (r1.below hX) (t.bds hN).2.2.1).mono ?_
  rintro e2 w2 ⟨e3, hr2, hb2⟩
  have l2 := r4 w2 ((But.of_below hX).trans hb2)
  exact ⟨e3, GoodW.of (u2.q (r1.below hX) r2 r3 hr2 (Or.inl rfl) hb2) ⟨lo, l2, hk⟩ (s.restart keep) (t.restart keep), fun hx => (hx.below hX hx.lt).but hb2 (by have := n1 hx; simp only [List.mem_cons, List.not_mem_nil, or_false]; omega)⟩
theorem pair_raw (nm p : Bs) (A : Option Addr) (c : Nat) (hnm : (nmS nm).size ≤ 140737488355328) (h : GoodW N w0 w g mp gr lv rv) (hN : N ≤ 1048576) (hr : Bytes w0 w0.heap.size A p.length p) (hl : p.length ≤ 1048576) {bx : Nat} {cs : List Value} (hx : Blk w bx 58 cs) :
    Calls Tryd.prog 10 #[.pointer (some ⟨g, 0, none⟩), .string (nmS nm), .slice A p.length c] w (PairPost bx cs N w0 g mp gr lv rv fun X Q => Blk X bx 58 cs → Calls Tryd.prog 34 #[.pointer (some ⟨gr, 0, none⟩), .string (nmS nm), .slice A p.length c] X fun e2 w2 => Q e2 w2 ∧ Blk w2 bx 58 cs) := by
  obtain ⟨d, b, u, ⟨lo, l, hk⟩, s, t⟩ := h.to
  obtain ⟨s1, s2⟩ := s.append nm p
  have hg := t.get hN nm
  refine (aAppend_calls nm p A c w0.heap.size _ g mp d w u.d (hr.below u.b) u.b.size (by rw [s.fget_eq]; omega)).mono ?_
  rintro e w1 ⟨e1, hd, hb⟩
  have u1 := u.p hd hb
  have l1 := l.p u hb
  refine ⟨_, e1, box_p2 u hx hb, u1.b, fun X hX hxX => ?_⟩
  have u2 := u1.below hX
  obtain ⟨fb0, p1, p2, p3, p4⟩ := u2.fbx (l1.below hX)
  obtain ⟨fb, r1, c1, n1, m1⟩ := p1.pick hxX (by decide) (by decide)
  have hlo := u2.lo
  have r2 : ∀ k ∈ [g, mp], k ∉ [gr, fb] := fun k hk hm => by
    have := p2 k hk
    simp only [List.mem_cons, List.not_mem_nil, or_false] at hm this
    omega
  have r3 : w0.heap.size ≤ fb := by omega
  have r4 : ∀ w1, But [gr, fb] X w1 → Logs w0 w1 g gr lv rv _ := fun w1 hb => p4 w1 (hb.mono (fun k hk => by simp only [List.mem_cons, List.not_mem_nil, or_false] at hk ⊢; omega))
  refine (bAppend_calls nm p A c w0.heap.size gr fb b X _ r1.o hnm (t.bds hN).1 (hr.below u2.b) u2.b.size (by omega)).mono ?_
  rintro e2 w2 ⟨e3, fb', hr2, hf, hb2⟩
  refine ⟨⟨by rw [e3, s1], GoodW.of (u2.q r1 r2 r3 hr2.toD hf hb2) ⟨lo, r4 w2 hb2, hk⟩ s2 (t.app s.asc nm p hl)⟩, hxX.but hb2 (by simp only [List.mem_cons, List.not_mem_nil, or_false]; omega)⟩
theorem pair_del (nm : Bs) (hnm : (nmS nm).size ≤ 140737488355328) (h : GoodW N w0 w g mp gr lv rv) (hN : N ≤ 1048576) {bx : Nat} {cs : List Value} (hx : Blk w bx 58 cs) :
    Calls Tryd.prog 35 #[.pointer (some ⟨g, 0, none⟩), .string (nmS nm)] w (PairPost bx cs N w0 g mp gr lv rv fun X Q => Calls Tryd.prog 36 #[.pointer (some ⟨gr, 0, none⟩), .string (nmS nm)] X Q) := by
  obtain ⟨d, b, u, ⟨lo, l, hk⟩, s, t⟩ := h.to
  obtain ⟨s1, s2⟩ := s.delete nm
  refine (aDelete_calls nm _ g mp d w u.d).mono ?_
  rintro e w1 ⟨e1, hd, hb⟩
  have u1 := u.p hd hb
  have l1 := l.p u hb
  refine ⟨_, e1, box_p2 u hx hb, u1.b, fun X hX => ?_⟩
  have u2 := u1.below hX
  obtain ⟨fb, r1, r2, r3, r4⟩ := u2.fbx (l1.below hX)
  refine (bDelete_calls nm gr fb b X r1 hnm (t.bds hN).2.1).mono ?_
  rintro e2 w2 ⟨e3, fb', hr2, hf, hb2⟩
  exact ⟨by rw [e3, s1], GoodW.of (u2.q r1 r2 r3 hr2 hf hb2) ⟨lo, r4 w2 hb2, hk⟩ s2 (t.delete nm).mono⟩
end
end Go.Proofs.YtmddgimadlmacaaDoor
