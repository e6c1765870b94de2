import Derived.Test.YtmddgimadlmacaaDoorWs50
/-! layer 10: Open of both -/
namespace Go.Proofs.YtmddgimadlmacaaDoor
open Go.RowKit Garner

set_option maxRecDepth 100000 in
set_option maxHeartbeats 1000000 in
theorem pOpenBad (g : Nat) (n : Int) (w : World) (h : n < 1 ∨ 1000000000 < n) : Calls Tryd.prog 11 #[.pointer (some ⟨g, 0, none⟩), .int .i64 n] w fun e w' => e = .returned (.tuple #[.pointer none, .slice none 0 0, .int .i64 1]) ∧ w' = w := by
  by_cases h1 : n < 1
  · have d1 : decide (n < 1) = true := decide_eq_true h1
    clear h
    go_enter Tryd.func11, Tryd.ntmps11
    go_wp2
    go_ret3
    exact ⟨rfl, rfl⟩
  · have d1 : decide (n < 1) = false := decide_eq_false h1
    have d2 : decide (n > 1000000000) = true := decide_eq_true (by omega)
    clear h
    go_enter Tryd.func11, Tryd.ntmps11
    go_wp2
    go_ret3
    exact ⟨rfl, rfl⟩
set_option maxRecDepth 100000 in
set_option maxHeartbeats 1000000 in
theorem qOpenBad (g : Nat) (n : Int) (w : World) (h : n < 1 ∨ 1000000000 < n) : Calls Tryd.prog 22 #[.pointer (some ⟨g, 0, none⟩), .int .i64 n] w fun e w' => e = .returned (.tuple #[.pointer none, .slice none 0 0, .int .i64 1]) ∧ w' = w := by
  by_cases h1 : n < 1
  · have d1 : decide (n < 1) = true := decide_eq_true h1
    clear h
    go_enter Tryd.func22, Tryd.ntmps22
    go_wp2
    go_ret3
    exact ⟨rfl, rfl⟩
  · have d1 : decide (n < 1) = false := decide_eq_false h1
    have d2 : decide (n > 1000000000) = true := decide_eq_true (by omega)
    clear h
    go_enter Tryd.func22, Tryd.ntmps22
    go_wp2
    go_ret3
    exact ⟨rfl, rfl⟩
theorem scan_lt (d : AD) : ∀ (f n : Nat), (wScan d f n).1 = 0 → (wScan d f n).2.1 < n + f
  | 0, n, h => by simp [wScan] at h
  | f + 1, n, h => by
    rw [wScan] at h ⊢
    split
    · show n < _; omega
    · rename_i h1
      rw [if_neg h1] at h
      split
      · rename_i h2
        rw [if_pos h2] at h
        exact absurd h h2
      · rename_i h2
        rw [if_neg h2] at h
        have := scan_lt d f (n + 1) h
        show (wScan d f (n + 1)).2.1 < _
        omega
section
variable {w0 w : World} {g mp gr N : Nat} {lv rv : Value}
def OpenP (N : Nat) (w0 w : World) (g mp gr : Nat) (first : Int) (e : Ending) (w1 : World) : Prop :=
  ∃ lv' A c ps, ∃ a : Nat, e = .returned (.tuple #[lv', .slice A ps.length c, .int .i64 a]) ∧ Rds w1 A ps ∧ ps.length ≤ 140737488355328 ∧ Below w.heap.size w w1 ∧ ∀ X, Below w1.heap.size w1 X →
    Calls Tryd.prog 22 #[.pointer (some ⟨gr, 0, none⟩), .int .i64 first] X fun e2 w2 => ∃ rv' A2 c2 qs, e2 = .returned (.tuple #[rv', .slice A2 qs.length c2, .int .i64 a]) ∧ Rds w2 A2 qs ∧ eqN ps qs = true ∧ Below X.heap.size X w2 ∧ GoodW N w0 w2 g mp gr lv' rv' ∧ ((lv' = .pointer none ∧ rv' = .pointer none) ∨ ∃ x y, lv' = .pointer (some x) ∧ rv' = .pointer (some y))
theorem Rds.none_ (w : World) : Rds w none [] := ⟨Row.none_, by simp⟩
theorem pair_open (first : Int) (he : Env w0) (h : GoodW N w0 w g mp gr lv rv) (hN : N ≤ 1048576) :
    Calls Tryd.prog 11 #[.pointer (some ⟨g, 0, none⟩), .int .i64 first] w (OpenP N w0 w g mp gr first) := by
  obtain ⟨d, b, u, _, s, t⟩ := h.to
  clear h
  by_cases hf : 1 ≤ first ∧ first ≤ 1000000000
  · obtain ⟨m, rfl⟩ : ∃ m : Nat, first = m := ⟨first.toNat, by omega⟩
    have hlen := t.open_ hN s.asc m
    refine (vOpen3 m w0.heap.size g mp d w u.d (by omega) (by omega) (wOpen m b) (s.wopen m).symm (he.nms u.b (Nat.le_refl _)) hlen).mono ?_
    rintro e w1 ⟨hb1, hp⟩
    have u1 := u.below hb1
    rcases hp with ⟨h0, e1⟩ | ⟨h0, gl, v, ps, e1, hgl, hk, hpay, hpd⟩
    · refine ⟨.pointer none, none, 0, [], (wOpen m b).1, e1, Rds.none_ _, by simp, hb1, fun X hX => ?_⟩
      have u2 := u1.below hX
      obtain ⟨fb, r1, _, _⟩ := u2.r
      refine (rOpen m gr fb b X r1 (t.bds hN).2.2.1 (by omega) (by omega) (wOpen m b) rfl hlen).mono ?_
      rintro e2 w2 ⟨hb2, hq⟩
      rcases hq with ⟨_, e3⟩ | ⟨h1, _⟩
      · exact ⟨_, none, 0, [], e3, Rds.none_ _, rfl, hb2, .nil (u2.below hb2) s t, Or.inl ⟨rfl, rfl⟩⟩
      · exact absurd h1 h0
    · obtain ⟨A, c, rfl, _⟩ := own_form hpay.own
      have hl : ps.length = (wOpen m b).2.2.length := by rw [← hpd, List.length_map]
      refine ⟨.pointer (some ⟨gl, 0, none⟩), A, c, ps, 0, e1, hpay.rds, by omega, hb1, fun X hX => ?_⟩
      have u2 := u1.below hX
      obtain ⟨fb, r1, _, _⟩ := u2.r
      refine (rOpen m gr fb b X r1 (t.bds hN).2.2.1 (by omega) (by omega) (wOpen m b) rfl hlen).mono ?_
      rintro e2 w2 ⟨hb2, hq⟩
      rcases hq with ⟨h1, _⟩ | ⟨_, rl, v2, qs, e3, hrl, hk2, hpay2, hqd⟩
      · exact absurd h0 h1
      · obtain ⟨A2, c2, rfl, _⟩ := own_form hpay2.own
        have hn := scan_lt b (1000000001 - m) m h0
        have hge := wOpen_ge m b
        have hs := u.b.size; have hs2 := u2.b.size
        refine ⟨_, A2, c2, qs, e3, hpay2.rds, decide_eq_true (by rw [hpd, hqd]), hb2, .both (L := ⟨m, (wOpen m b).2.1, false⟩) ((hk.below hX hk.lt).below hb2 (Blk.below hk hX hk.lt).lt) hk2 ⟨by omega, by omega⟩ ⟨by show 1 ≤ m; omega, by show 1 ≤ (wOpen m b).2.1; omega, ?_⟩ (u2.below hb2) s t, Or.inr ⟨_, _, rfl, rfl⟩⟩
        show (wScan b (1000000001 - m) m).2.1 ≤ 1000000000
        omega
  · refine (pOpenBad g first w (by omega)).mono ?_
    rintro e w1 ⟨e1, rfl⟩
    refine ⟨.pointer none, none, 0, [], 1, e1, Rds.none_ _, by simp, Below.refl _ _, fun X hX => ?_⟩
    refine (qOpenBad gr first X (by omega)).mono ?_
    rintro e2 w2 ⟨e3, rfl⟩
    exact ⟨_, none, 0, [], e3, Rds.none_ _, rfl, Below.refl _ _, .nil (u.below hX) s t, Or.inl ⟨rfl, rfl⟩⟩
/-- the numbers are alike -/
theorem num_p (h : GoodW N w0 w g mp gr (.pointer none) rv) : rv = .pointer none := by cases h; rfl
end
end Go.Proofs.YtmddgimadlmacaaDoor
