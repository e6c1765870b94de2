import Derived.Test.YtmddgimadlmacaaDoorWs34
/-! the document's disk: changes -/
namespace Go.Proofs.YtmddgimadlmacaaDoor
open Go.RowKit Garner

theorem chg_same (a : ByteArray) (dn : Bool) (left : Int) : chgD [a, a] dn left = chgD [a] dn left ∧ chgL [a, a] dn left = chgL [a] dn left := by
  unfold chgD chgL; rw [dmay_same]; exact ⟨rfl, rfl⟩
theorem nzR {k : Nat} (h : k ≠ 0) : ((k : Int) != 0) = true := by rw [bne_iff_ne]; omega
/-- a cell of the row written -/
theorem own_set {w : World} {B : Nat} {e : TypeId} {sz n c q j : Nat} {xs : List Value} {u : Value} (h : w.ownsRow B e sz (.slice (some ⟨q, 0, none⟩) n c) n xs) : (w.setCell ⟨q, j, none⟩ u).ownsRow B e sz (.slice (some ⟨q, 0, none⟩) n c) n (xs.set j u) := by
  obtain ⟨h1, h2⟩ := h
  refine ⟨by rw [List.length_set]; exact h1, ?_⟩
  rcases h2 with ⟨e1, _⟩ | ⟨g, cap, cur, e1, hB, hh, hc, hm, hs, hp⟩
  · cases e1
  · injection e1 with e2 e3 e4
    simp only [Option.some.injEq, Addr.mk.injEq, and_true] at e2
    subst e2; subst e4
    refine Or.inr ⟨q, c, cur.set! j u, rfl, hB, ?_, hc, hm, by simpa using hs, ?_⟩
    · simp [World.setCell, Array.getElem?_modify, hh]
    · simp only [Array.set!_eq_setIfInBounds, Array.toList_setIfInBounds, List.take_set, hp]
section
variable (nm nm2 : Bs) (g fb : Nat) (rs : Files) (fl dn : Bool) (left : Int) (w : World)
set_option maxRecDepth 100000 in
set_option maxHeartbeats 2000000 in
theorem rfSync_no (h : RefT w g fb rs fl dn left) (hl : (nmS nm).size ≤ 140737488355328) (h0 : dmay [nmS nm] dn ≠ 0) :
    Calls Tryd.prog 51 #[.pointer (some ⟨g, 0, none⟩), .string (nmS nm)] w fun e w' => e = .returned (.int .i64 (dmay [nmS nm] dn)) ∧ RefT w' g fb rs fl dn left ∧ But [g] w w' := by
  have hne := nzR h0
  have E1 := Lib.hid (chgL_no (left := left) h0); have E2 := Lib.hid (chgD_no (left := left) h0)
  clear h0
  go_enter Tryd.func51, Tryd.ntmps51
  go_wp2_with fail
  refine (rfChange (nmS nm) (nmS nm) hl hl h).mono ?_
  rintro e w1 ⟨rfl, h1, hb1⟩
  rw [dmay_same] at ⊢
  rw [(chg_same (nmS nm) dn left).1, (chg_same (nmS nm) dn left).2] at h1
  rw [E1.out, E2.out] at h1
  go_wp2
  go_ret
  exact ⟨rfl, h1, hb1⟩
set_option maxRecDepth 100000 in
set_option maxHeartbeats 2000000 in
theorem rfSync_none (h : RefT w g fb rs fl dn left) (hl : (nmS nm).size ≤ 140737488355328) (hrl : rs.length ≤ 140737488355328) (h0 : dmay [nmS nm] dn = 0) (hok : (rfind nm rs).2 = false) :
    Calls Tryd.prog 51 #[.pointer (some ⟨g, 0, none⟩), .string (nmS nm)] w fun e w' => e = .returned (.int .i64 21) ∧ RefT w' g fb rs fl (chgD [nmS nm] dn left) (chgL [nmS nm] dn left) ∧ But [g] w w' := by
  have Hok := Lib.hid hok
  clear hok
  have Hne := Lib.hid (show ((dmay [nmS nm] dn : Nat) : Int) = 0 by omega)
  clear h0
  go_enter Tryd.func51, Tryd.ntmps51
  go_wp2_with fail
  refine (rfChange (nmS nm) (nmS nm) hl hl h).mono ?_
  rintro e w1 ⟨rfl, h1, hb1⟩
  rw [dmay_same] at ⊢
  rw [(chg_same (nmS nm) dn left).1, (chg_same (nmS nm) dn left).2] at h1
  rw [Hne.out]
  obtain ⟨dn1, hdn1⟩ : ∃ x, x = chgD [nmS nm] dn left := ⟨_, rfl⟩
  obtain ⟨left1, hleft1⟩ : ∃ x, x = chgL [nmS nm] dn left := ⟨_, rfl⟩
  rw [← hdn1, ← hleft1] at h1
  have Hdn := Lib.hid hdn1; have Hleft := Lib.hid hleft1
  clear hdn1 hleft1 h
  obtain ⟨A, c, k1, hr1, _, _⟩ := h1.ex
  go_wp2_with fail
  refine (rFind nm g rs A c fl dn1 left1 w1 k1 hr1 hrl).mono ?_
  rintro e w2 ⟨rfl, rfl⟩
  clear k1 hr1
  rw [Hok.out]
  go_wp2
  go_ret
  rw [← Hdn.out, ← Hleft.out]
  exact ⟨rfl, h1, hb1⟩
set_option maxRecDepth 100000 in
set_option maxHeartbeats 2000000 in
theorem rfDelete_no (h : RefT w g fb rs fl dn left) (hl : (nmS nm).size ≤ 140737488355328) (h0 : dmay [nmS nm] dn ≠ 0) :
    Calls Tryd.prog 36 #[.pointer (some ⟨g, 0, none⟩), .string (nmS nm)] w fun e w' => e = .returned (.int .i64 (dmay [nmS nm] dn)) ∧ RefT w' g fb rs fl dn left ∧ But [g] w w' := by
  have hne := nzR h0
  have E1 := Lib.hid (chgL_no (left := left) h0); have E2 := Lib.hid (chgD_no (left := left) h0)
  clear h0
  go_enter Tryd.func36, Tryd.ntmps36
  go_wp2_with fail
  refine (rfChange (nmS nm) (nmS nm) hl hl h).mono ?_
  rintro e w1 ⟨rfl, h1, hb1⟩
  rw [dmay_same] at ⊢
  rw [(chg_same (nmS nm) dn left).1, (chg_same (nmS nm) dn left).2] at h1
  rw [E1.out, E2.out] at h1
  go_wp2
  go_ret
  exact ⟨rfl, h1, hb1⟩
set_option maxRecDepth 100000 in
set_option maxHeartbeats 2000000 in
theorem rfDelete_none (h : RefT w g fb rs fl dn left) (hl : (nmS nm).size ≤ 140737488355328) (hrl : rs.length ≤ 140737488355328) (h0 : dmay [nmS nm] dn = 0) (hok : (rfind nm rs).2 = false) :
    Calls Tryd.prog 36 #[.pointer (some ⟨g, 0, none⟩), .string (nmS nm)] w fun e w' => e = .returned (.int .i64 21) ∧ RefT w' g fb rs fl (chgD [nmS nm] dn left) (chgL [nmS nm] dn left) ∧ But [g] w w' := by
  have Hok := Lib.hid hok
  clear hok
  have Hne := Lib.hid (show ((dmay [nmS nm] dn : Nat) : Int) = 0 by omega)
  clear h0
  go_enter Tryd.func36, Tryd.ntmps36
  go_wp2_with fail
  refine (rfChange (nmS nm) (nmS nm) hl hl h).mono ?_
  rintro e w1 ⟨rfl, h1, hb1⟩
  rw [dmay_same] at ⊢
  rw [(chg_same (nmS nm) dn left).1, (chg_same (nmS nm) dn left).2] at h1
  rw [Hne.out]
  obtain ⟨dn1, hdn1⟩ : ∃ x, x = chgD [nmS nm] dn left := ⟨_, rfl⟩
  obtain ⟨left1, hleft1⟩ : ∃ x, x = chgL [nmS nm] dn left := ⟨_, rfl⟩
  rw [← hdn1, ← hleft1] at h1
  have Hdn := Lib.hid hdn1; have Hleft := Lib.hid hleft1
  clear hdn1 hleft1 h
  obtain ⟨A, c, k1, hr1, _, _⟩ := h1.ex
  go_wp2_with fail
  refine (rFind nm g rs A c fl dn1 left1 w1 k1 hr1 hrl).mono ?_
  rintro e w2 ⟨rfl, rfl⟩
  clear k1 hr1
  rw [Hok.out]
  go_wp2
  go_ret
  rw [← Hdn.out, ← Hleft.out]
  exact ⟨rfl, h1, hb1⟩
set_option maxRecDepth 100000 in
set_option maxHeartbeats 2000000 in
theorem rfDelete_ok (h : RefT w g fb rs fl dn left) (hl : (nmS nm).size ≤ 140737488355328) (hrl : rs.length * 48 ≤ 140737488355328) (h0 : dmay [nmS nm] dn = 0) (hok : (rfind nm rs).2 = true) :
    Calls Tryd.prog 36 #[.pointer (some ⟨g, 0, none⟩), .string (nmS nm)] w fun e w' => e = .returned (.int .i64 0) ∧ ∃ fb', RefT w' g fb' (adel nm rs) fl (chgD [nmS nm] dn left) (chgL [nmS nm] dn left) ∧ (fb' = g ∨ w.heap.size ≤ fb') ∧ But [g] w w' := by
  have Hok := Lib.hid hok
  have hlt := rfind_lt hok
  have Hdel := Lib.hid (rfind_del nm rs hok)
  clear hok
  have Hne := Lib.hid (show ((dmay [nmS nm] dn : Nat) : Int) = 0 by omega)
  clear h0
  go_enter Tryd.func36, Tryd.ntmps36
  go_wp2_with fail
  refine (rfChange (nmS nm) (nmS nm) hl hl h).mono ?_
  rintro e w1 ⟨rfl, h1, hb1⟩
  rw [dmay_same] at ⊢
  rw [(chg_same (nmS nm) dn left).1, (chg_same (nmS nm) dn left).2] at h1
  rw [Hne.out]
  obtain ⟨dn1, hdn1⟩ : ∃ x, x = chgD [nmS nm] dn left := ⟨_, rfl⟩
  obtain ⟨left1, hleft1⟩ : ∃ x, x = chgL [nmS nm] dn left := ⟨_, rfl⟩
  rw [← hdn1, ← hleft1] at h1
  have Hdn := Lib.hid hdn1; have Hleft := Lib.hid hleft1
  clear hdn1 hleft1 h
  obtain ⟨A, c, k1, hr1, _, _⟩ := h1.ex
  go_wp2_with fail
  refine (rFind nm g rs A c fl dn1 left1 w1 k1 hr1 (by omega)).mono ?_
  rintro e w2 ⟨rfl, rfl⟩
  clear k1 hr1
  rw [Hok.out]
  obtain ⟨i, hi⟩ : ∃ i, i = (rfind nm rs).1 := ⟨_, rfl⟩
  rw [← hi] at hlt Hdel ⊢
  clear hi
  go_wp2_with fail
  refine (rTake i g fb rs fl dn1 left1 _ w2 h1 hlt hrl).mono ?_
  rintro e w3 ⟨rfl, fb', h3, hfb, hb3⟩
  rw [Hdel.out] at h3
  have hs := hb1.size
  go_wp2
  go_ret
  rw [← Hdn.out, ← Hleft.out]
  exact ⟨rfl, fb', h3, hfb.imp id (fun h => by omega), hb1.trans hb3⟩
set_option maxRecDepth 100000 in
set_option maxHeartbeats 2000000 in
theorem rfAppend_no (V : Value) (h : RefT w g fb rs fl dn left) (hl : (nmS nm).size ≤ 140737488355328) (h0 : dmay [nmS nm] dn ≠ 0) :
    Calls Tryd.prog 34 #[.pointer (some ⟨g, 0, none⟩), .string (nmS nm), V] w fun e w' => e = .returned (.int .i64 (dmay [nmS nm] dn)) ∧ RefT w' g fb rs fl dn left ∧ But [g] w w' := by
  have hne := nzR h0
  have E1 := Lib.hid (chgL_no (left := left) h0); have E2 := Lib.hid (chgD_no (left := left) h0)
  clear h0
  go_enter Tryd.func34, Tryd.ntmps34
  go_wp2_with fail
  refine (rfChange (nmS nm) (nmS nm) hl hl h).mono ?_
  rintro e w1 ⟨rfl, h1, hb1⟩
  rw [dmay_same] at ⊢
  rw [(chg_same (nmS nm) dn left).1, (chg_same (nmS nm) dn left).2] at h1
  rw [E1.out, E2.out] at h1
  go_wp2
  go_ret
  exact ⟨rfl, h1, hb1⟩
set_option maxRecDepth 100000 in
set_option maxHeartbeats 2000000 in
theorem rfAppend_full (V : Value) (h : RefT w g fb rs fl dn left) (hl : (nmS nm).size ≤ 140737488355328) (hf : fl = true) (h0 : dmay [nmS nm] dn = 0) :
    Calls Tryd.prog 34 #[.pointer (some ⟨g, 0, none⟩), .string (nmS nm), V] w fun e w' => e = .returned (.int .i64 20) ∧ RefT w' g fb rs fl (chgD [nmS nm] dn left) (chgL [nmS nm] dn left) ∧ But [g] w w' := by
  subst hf
  have Hne := Lib.hid (show ((dmay [nmS nm] dn : Nat) : Int) = 0 by omega)
  clear h0
  go_enter Tryd.func34, Tryd.ntmps34
  go_wp2_with fail
  refine (rfChange (nmS nm) (nmS nm) hl hl h).mono ?_
  rintro e w1 ⟨rfl, h1, hb1⟩
  rw [dmay_same] at ⊢
  rw [(chg_same (nmS nm) dn left).1, (chg_same (nmS nm) dn left).2] at h1
  rw [Hne.out]
  obtain ⟨dn1, hdn1⟩ : ∃ x, x = chgD [nmS nm] dn left := ⟨_, rfl⟩
  obtain ⟨left1, hleft1⟩ : ∃ x, x = chgL [nmS nm] dn left := ⟨_, rfl⟩
  rw [← hdn1, ← hleft1] at h1
  have Hdn := Lib.hid hdn1; have Hleft := Lib.hid hleft1
  clear hdn1 hleft1 h
  obtain ⟨A, c, k1, hr1, _, _⟩ := h1.ex
  have c1 := k1.cell 1
  clear k1 hr1
  go_wp2
  go_ret
  rw [← Hdn.out, ← Hleft.out]
  exact ⟨rfl, h1, hb1⟩
end
end Go.Proofs.YtmddgimadlmacaaDoor
