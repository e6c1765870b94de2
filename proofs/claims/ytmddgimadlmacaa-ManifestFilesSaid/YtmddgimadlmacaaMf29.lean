import Derived.Test.YtmddgimadlmacaaMf28
import Derived.Test.YtmddgimadlmacaaMf14
/-! the document's disk: changes -/
namespace Go.Proofs.Ytmddgimadlmacaa
open Go.RowKit Garner

theorem chg_same (a : ByteArray) (dn : Bool) (left : Int) : chgD [a, a] dn left = chgD [a] dn left ∧ chgL [a, a] dn left = chgL [a] dn left := by
  unfold chgD chgL; rw [dmay_same]; exact ⟨rfl, rfl⟩
theorem nzR {k : Nat} (h : k ≠ 0) : ((k : Int) != 0) = true := by rw [bne_iff_ne]; omega
/-- a cell of the row written -/
theorem own_set {w : World} {B : Nat} {e : TypeId} {sz n c q j : Nat} {xs : List Value} {u : Value} (h : w.ownsRow B e sz (.slice (some ⟨q, 0, none⟩) n c) n xs) : (w.setCell ⟨q, j, none⟩ u).ownsRow B e sz (.slice (some ⟨q, 0, none⟩) n c) n (xs.set j u) := by
  obtain ⟨h1, h2⟩ := h
  refine ⟨by rw [List.length_set]; exact h1, ?_⟩
  rcases h2 with ⟨e1, _⟩ | ⟨g, cap, cur, e1, hB, hh, hc, hm, hs, hp⟩
  · cases e1
  · injection e1 with e2 e3 e4
    simp only [Option.some.injEq, Addr.mk.injEq, and_true] at e2
    subst e2; subst e4
    refine Or.inr ⟨q, c, cur.set! j u, rfl, hB, ?_, hc, hm, by simpa using hs, ?_⟩
    · simp [World.setCell, Array.getElem?_modify, hh]
    · simp only [Array.set!_eq_setIfInBounds, Array.toList_setIfInBounds, List.take_set, hp]
section
variable (nm nm2 : Bs) (g fb : Nat) (rs : Files) (fl dn : Bool) (left : Int) (w : World)
set_option maxRecDepth 100000 in
set_option maxHeartbeats 2000000 in
theorem rfSync_no (h : RefT w g fb rs fl dn left) (hl : (nmS nm).size ≤ 140737488355328) (h0 : dmay [nmS nm] dn ≠ 0) :
    Calls Try.prog 68 #[.pointer (some ⟨g, 0, none⟩), .string (nmS nm)] w fun e w' => e = .returned (.int .i64 (dmay [nmS nm] dn)) ∧ RefT w' g fb rs fl dn left ∧ But [g] w w' := by
  have hne := nzR h0
  have E1 := Lib.hid (chgL_no (left := left) h0); have E2 := Lib.hid (chgD_no (left := left) h0)
  clear h0
  go_enter Try.func68, Try.ntmps68
  go_wp2_with fail
  refine (rfChange (nmS nm) (nmS nm) hl hl h).mono ?_
  rintro e w1 ⟨rfl, h1, hb1⟩
  rw [dmay_same] at ⊢
  rw [(chg_same (nmS nm) dn left).1, (chg_same (nmS nm) dn left).2] at h1
  rw [E1.out, E2.out] at h1
  go_wp2
  go_ret
  exact ⟨rfl, h1, hb1⟩
set_option maxRecDepth 100000 in
set_option maxHeartbeats 2000000 in
theorem rfSync_none (h : RefT w g fb rs fl dn left) (hl : (nmS nm).size ≤ 140737488355328) (hrl : rs.length ≤ 140737488355328) (h0 : dmay [nmS nm] dn = 0) (hok : (rfind nm rs).2 = false) :
    Calls Try.prog 68 #[.pointer (some ⟨g, 0, none⟩), .string (nmS nm)] w fun e w' => e = .returned (.int .i64 21) ∧ RefT w' g fb rs fl (chgD [nmS nm] dn left) (chgL [nmS nm] dn left) ∧ But [g] w w' := by
  have Hok := Lib.hid hok
  clear hok
  have Hne := Lib.hid (show ((dmay [nmS nm] dn : Nat) : Int) = 0 by omega)
  clear h0
  go_enter Try.func68, Try.ntmps68
  go_wp2_with fail
  refine (rfChange (nmS nm) (nmS nm) hl hl h).mono ?_
  rintro e w1 ⟨rfl, h1, hb1⟩
  rw [dmay_same] at ⊢
  rw [(chg_same (nmS nm) dn left).1, (chg_same (nmS nm) dn left).2] at h1
  rw [Hne.out]
  obtain ⟨dn1, hdn1⟩ : ∃ x, x = chgD [nmS nm] dn left := ⟨_, rfl⟩
  obtain ⟨left1, hleft1⟩ : ∃ x, x = chgL [nmS nm] dn left := ⟨_, rfl⟩
  rw [← hdn1, ← hleft1] at h1
  have Hdn := Lib.hid hdn1; have Hleft := Lib.hid hleft1
  clear hdn1 hleft1 h
  obtain ⟨A, c, k1, hr1, _, _⟩ := h1.ex
  go_wp2_with fail
  refine (rFind nm g rs A c fl dn1 left1 w1 k1 hr1 hrl).mono ?_
  rintro e w2 ⟨rfl, rfl⟩
  clear k1 hr1
  rw [Hok.out]
  go_wp2
  go_ret
  rw [← Hdn.out, ← Hleft.out]
  exact ⟨rfl, h1, hb1⟩
set_option maxRecDepth 100000 in
set_option maxHeartbeats 2000000 in
theorem rfDelete_no (h : RefT w g fb rs fl dn left) (hl : (nmS nm).size ≤ 140737488355328) (h0 : dmay [nmS nm] dn ≠ 0) :
    Calls Try.prog 70 #[.pointer (some ⟨g, 0, none⟩), .string (nmS nm)] w fun e w' => e = .returned (.int .i64 (dmay [nmS nm] dn)) ∧ RefT w' g fb rs fl dn left ∧ But [g] w w' := by
  have hne := nzR h0
  have E1 := Lib.hid (chgL_no (left := left) h0); have E2 := Lib.hid (chgD_no (left := left) h0)
  clear h0
  go_enter Try.func70, Try.ntmps70
  go_wp2_with fail
  refine (rfChange (nmS nm) (nmS nm) hl hl h).mono ?_
  rintro e w1 ⟨rfl, h1, hb1⟩
  rw [dmay_same] at ⊢
  rw [(chg_same (nmS nm) dn left).1, (chg_same (nmS nm) dn left).2] at h1
  rw [E1.out, E2.out] at h1
  go_wp2
  go_ret
  exact ⟨rfl, h1, hb1⟩
set_option maxRecDepth 100000 in
set_option maxHeartbeats 2000000 in
theorem rfDelete_none (h : RefT w g fb rs fl dn left) (hl : (nmS nm).size ≤ 140737488355328) (hrl : rs.length ≤ 140737488355328) (h0 : dmay [nmS nm] dn = 0) (hok : (rfind nm rs).2 = false) :
    Calls Try.prog 70 #[.pointer (some ⟨g, 0, none⟩), .string (nmS nm)] w fun e w' => e = .returned (.int .i64 21) ∧ RefT w' g fb rs fl (chgD [nmS nm] dn left) (chgL [nmS nm] dn left) ∧ But [g] w w' := by
  have Hok := Lib.hid hok
  clear hok
  have Hne := Lib.hid (show ((dmay [nmS nm] dn : Nat) : Int) = 0 by omega)
  clear h0
  go_enter Try.func70, Try.ntmps70
  go_wp2_with fail
  refine (rfChange (nmS nm) (nmS nm) hl hl h).mono ?_
  rintro e w1 ⟨rfl, h1, hb1⟩
  rw [dmay_same] at ⊢
  rw [(chg_same (nmS nm) dn left).1, (chg_same (nmS nm) dn left).2] at h1
  rw [Hne.out]
  obtain ⟨dn1, hdn1⟩ : ∃ x, x = chgD [nmS nm] dn left := ⟨_, rfl⟩
  obtain ⟨left1, hleft1⟩ : ∃ x, x = chgL [nmS nm] dn left := ⟨_, rfl⟩
  rw [← hdn1, ← hleft1] at h1
  have Hdn := Lib.hid hdn1; have Hleft := Lib.hid hleft1
  clear hdn1 hleft1 h
  obtain ⟨A, c, k1, hr1, _, _⟩ := h1.ex
  go_wp2_with fail
  refine (rFind nm g rs A c fl dn1 left1 w1 k1 hr1 hrl).mono ?_
  rintro e w2 ⟨rfl, rfl⟩
  clear k1 hr1
  rw [Hok.out]
  go_wp2
  go_ret
  rw [← Hdn.out, ← Hleft.out]
  exact ⟨rfl, h1, hb1⟩
set_option maxRecDepth 100000 in
set_option maxHeartbeats 2000000 in
theorem rfDelete_ok (h : RefT w g fb rs fl dn left) (hl : (nmS nm).size ≤ 140737488355328) (hrl : rs.length * 48 ≤ 140737488355328) (h0 : dmay [nmS nm] dn = 0) (hok : (rfind nm rs).2 = true) :
    Calls Try.prog 70 #[.pointer (some ⟨g, 0, none⟩), .string (nmS nm)] w fun e w' => e = .returned (.int .i64 0) ∧ ∃ fb', RefT w' g fb' (adel nm rs) fl (chgD [nmS nm] dn left) (chgL [nmS nm] dn left) ∧ (fb' = g ∨ w.heap.size ≤ fb') ∧ But [g] w w' := by
  have Hok := Lib.hid hok
  have hlt := rfind_lt hok
  have Hdel := Lib.hid (rfind_del nm rs hok)
  clear hok
  have Hne := Lib.hid (show ((dmay [nmS nm] dn : Nat) : Int) = 0 by omega)
  clear h0
  go_enter Try.func70, Try.ntmps70
  go_wp2_with fail
  refine (rfChange (nmS nm) (nmS nm) hl hl h).mono ?_
  rintro e w1 ⟨rfl, h1, hb1⟩
  rw [dmay_same] at ⊢
  rw [(chg_same (nmS nm) dn left).1, (chg_same (nmS nm) dn left).2] at h1
  rw [Hne.out]
  obtain ⟨dn1, hdn1⟩ : ∃ x, x = chgD [nmS nm] dn left := ⟨_, rfl⟩
  obtain ⟨left1, hleft1⟩ : ∃ x, x = chgL [nmS nm] dn left := ⟨_, rfl⟩
  rw [← hdn1, ← hleft1] at h1
  have Hdn := Lib.hid hdn1; have Hleft := Lib.hid hleft1
  clear hdn1 hleft1 h
  obtain ⟨A, c, k1, hr1, _, _⟩ := h1.ex
  go_wp2_with fail
  refine (rFind nm g rs A c fl dn1 left1 w1 k1 hr1 (by omega)).mono ?_
  rintro e w2 ⟨rfl, rfl⟩
  clear k1 hr1
  rw [Hok.out]
  obtain ⟨i, hi⟩ : ∃ i, i = (rfind nm rs).1 := ⟨_, rfl⟩
  rw [← hi] at hlt Hdel ⊢
  clear hi
  go_wp2_with fail
  refine (rTake i g fb rs fl dn1 left1 _ w2 h1 hlt hrl).mono ?_
  rintro e w3 ⟨rfl, fb', h3, hfb, hb3⟩
  rw [Hdel.out] at h3
  have hs := hb1.size
  go_wp2
  go_ret
  rw [← Hdn.out, ← Hleft.out]
  exact ⟨rfl, fb', h3, hfb.imp id (fun h => by omega), hb1.trans hb3⟩
set_option maxRecDepth 100000 in
set_option maxHeartbeats 2000000 in
theorem rfRename_no (h : RefT w g fb rs fl dn left) (hl : (nmS nm).size ≤ 140737488355328) (hl2 : (nmS nm2).size ≤ 140737488355328) (h0 : dmay [nmS nm, nmS nm2] dn ≠ 0) :
    Calls Try.prog 69 #[.pointer (some ⟨g, 0, none⟩), .string (nmS nm), .string (nmS nm2)] w fun e w' => e = .returned (.int .i64 (dmay [nmS nm, nmS nm2] dn)) ∧ RefT w' g fb rs fl dn left ∧ But [g] w w' := by
  have hne := nzR h0
  have E1 := Lib.hid (chgL_no (left := left) h0); have E2 := Lib.hid (chgD_no (left := left) h0)
  clear h0
  go_enter Try.func69, Try.ntmps69
  go_wp2_with fail
  refine (rfChange (nmS nm) (nmS nm2) hl hl2 h).mono ?_
  rintro e w1 ⟨rfl, h1, hb1⟩
  rw [E1.out, E2.out] at h1
  go_wp2
  go_ret
  exact ⟨rfl, h1, hb1⟩
set_option maxRecDepth 100000 in
set_option maxHeartbeats 2000000 in
theorem rfRename_none (h : RefT w g fb rs fl dn left) (hl : (nmS nm).size ≤ 140737488355328) (hl2 : (nmS nm2).size ≤ 140737488355328) (hrl : rs.length ≤ 140737488355328) (h0 : dmay [nmS nm, nmS nm2] dn = 0) (hok : (rfind nm rs).2 = false) :
    Calls Try.prog 69 #[.pointer (some ⟨g, 0, none⟩), .string (nmS nm), .string (nmS nm2)] w fun e w' => e = .returned (.int .i64 21) ∧ RefT w' g fb rs fl (chgD [nmS nm, nmS nm2] dn left) (chgL [nmS nm, nmS nm2] dn left) ∧ But [g] w w' := by
  have Hok := Lib.hid hok
  clear hok
  have Hne := Lib.hid (show ((dmay [nmS nm, nmS nm2] dn : Nat) : Int) = 0 by omega)
  clear h0
  go_enter Try.func69, Try.ntmps69
  go_wp2_with fail
  refine (rfChange (nmS nm) (nmS nm2) hl hl2 h).mono ?_
  rintro e w1 ⟨rfl, h1, hb1⟩
  rw [Hne.out]
  obtain ⟨dn1, hdn1⟩ : ∃ x, x = chgD [nmS nm, nmS nm2] dn left := ⟨_, rfl⟩
  obtain ⟨left1, hleft1⟩ : ∃ x, x = chgL [nmS nm, nmS nm2] dn left := ⟨_, rfl⟩
  rw [← hdn1, ← hleft1] at h1
  have Hdn := Lib.hid hdn1; have Hleft := Lib.hid hleft1
  clear hdn1 hleft1 h
  obtain ⟨A, c, k1, hr1, _, _⟩ := h1.ex
  go_wp2_with fail
  refine (rFind nm g rs A c fl dn1 left1 w1 k1 hr1 hrl).mono ?_
  rintro e w2 ⟨rfl, rfl⟩
  clear k1 hr1
  rw [Hok.out]
  go_wp2
  go_ret
  rw [← Hdn.out, ← Hleft.out]
  exact ⟨rfl, h1, hb1⟩
set_option maxRecDepth 100000 in
set_option maxHeartbeats 2000000 in
theorem rfAppend_no (V : Value) (h : RefT w g fb rs fl dn left) (hl : (nmS nm).size ≤ 140737488355328) (h0 : dmay [nmS nm] dn ≠ 0) :
    Calls Try.prog 67 #[.pointer (some ⟨g, 0, none⟩), .string (nmS nm), V] w fun e w' => e = .returned (.int .i64 (dmay [nmS nm] dn)) ∧ RefT w' g fb rs fl dn left ∧ But [g] w w' := by
  have hne := nzR h0
  have E1 := Lib.hid (chgL_no (left := left) h0); have E2 := Lib.hid (chgD_no (left := left) h0)
  clear h0
  go_enter Try.func67, Try.ntmps67
  go_wp2_with fail
  refine (rfChange (nmS nm) (nmS nm) hl hl h).mono ?_
  rintro e w1 ⟨rfl, h1, hb1⟩
  rw [dmay_same] at ⊢
  rw [(chg_same (nmS nm) dn left).1, (chg_same (nmS nm) dn left).2] at h1
  rw [E1.out, E2.out] at h1
  go_wp2
  go_ret
  exact ⟨rfl, h1, hb1⟩
set_option maxRecDepth 100000 in
set_option maxHeartbeats 2000000 in
theorem rfAppend_full (V : Value) (h : RefT w g fb rs fl dn left) (hl : (nmS nm).size ≤ 140737488355328) (hf : fl = true) (h0 : dmay [nmS nm] dn = 0) :
    Calls Try.prog 67 #[.pointer (some ⟨g, 0, none⟩), .string (nmS nm), V] w fun e w' => e = .returned (.int .i64 20) ∧ RefT w' g fb rs fl (chgD [nmS nm] dn left) (chgL [nmS nm] dn left) ∧ But [g] w w' := by
  subst hf
  have Hne := Lib.hid (show ((dmay [nmS nm] dn : Nat) : Int) = 0 by omega)
  clear h0
  go_enter Try.func67, Try.ntmps67
  go_wp2_with fail
  refine (rfChange (nmS nm) (nmS nm) hl hl h).mono ?_
  rintro e w1 ⟨rfl, h1, hb1⟩
  rw [dmay_same] at ⊢
  rw [(chg_same (nmS nm) dn left).1, (chg_same (nmS nm) dn left).2] at h1
  rw [Hne.out]
  obtain ⟨dn1, hdn1⟩ : ∃ x, x = chgD [nmS nm] dn left := ⟨_, rfl⟩
  obtain ⟨left1, hleft1⟩ : ∃ x, x = chgL [nmS nm] dn left := ⟨_, rfl⟩
  rw [← hdn1, ← hleft1] at h1
  have Hdn := Lib.hid hdn1; have Hleft := Lib.hid hleft1
  clear hdn1 hleft1 h
  obtain ⟨A, c, k1, hr1, _, _⟩ := h1.ex
  have c1 := k1.cell 1
  clear k1 hr1
  go_wp2
  go_ret
  rw [← Hdn.out, ← Hleft.out]
  exact ⟨rfl, h1, hb1⟩
end
end Go.Proofs.Ytmddgimadlmacaa
/-! the document's disk: files written in place -/
namespace Go.Proofs.Ytmddgimadlmacaa
open Go.RowKit Garner

theorem rfCells_set2 (v : Value) : ∀ (rs : Files) (i : Nat) (hi : i < rs.length) (e' : FileE), rfV (rs[i].1, e') = (rfV rs[i]).set 2 v → (rfCells rs).set (i * 3 + 2) v = rfCells (rs.set i (rs[i].1, e'))
  | s :: l, 0, _, e', h => by
    have h1 : rfCells (s :: l) = rfV s ++ rfCells l := rfl
    have h2 : rfCells ((s :: l).set 0 ((s :: l)[0].1, e')) = rfV (s.1, e') ++ rfCells l := rfl
    have h3 : rfV (s.1, e') = (rfV s).set 2 v := h
    rw [h1, h2, h3, List.set_append_left _ _ (by simp [rfV])]
  | s :: l, i + 1, hi, e', h => by
    have h1 : rfCells (s :: l) = rfV s ++ rfCells l := rfl
    have ih := rfCells_set2 v l i (by simpa using hi) e' h
    have h2 : rfCells ((s :: l).set (i + 1) ((s :: l)[i + 1].1, e')) = rfV s ++ rfCells (l.set i ((l[i]'(by simpa using hi)).1, e')) := rfl
    rw [h1, h2, ← ih, List.set_append_right _ _ (by simp [rfV]; omega)]
    congr 2
    simp [rfV]; omega
theorem asc_keys {ν ν' : Type} {l : List (Bs × ν)} {l' : List (Bs × ν')} (h : Asc l) (hk : l'.map (·.1) = l.map (·.1)) : Asc l' := by
  unfold Asc at h ⊢
  have h1 : (l.map (·.1)).Pairwise (· < ·) := List.pairwise_map.2 h
  rw [← hk] at h1
  exact List.pairwise_map.1 h1
theorem keys_set {ν : Type} {l : List (Bs × ν)} {i : Nat} (hi : i < l.length) (v : ν) : (l.set i (l[i].1, v)).map (·.1) = l.map (·.1) := by
  rw [List.map_set]
  have : l[i].1 = (l.map (·.1))[i]'(by simpa using hi) := by simp
  rw [this, List.set_getElem_self]
section
variable {w w' : World} {g fb : Nat} {rs rs' : Files} {fl dn : Bool} {left : Int} {c : Nat}
theorem RefIs.fbne (h : RefT w g fb rs fl dn left) (hl : 0 < rs.length) : fb ≠ g := by
  obtain ⟨A, c, h1, h2, h3⟩ := h.own
  rcases h2.2 with ⟨e, h0⟩ | ⟨q, cap, cur, e, _, hh, _⟩
  · omega
  · injection e with e1 _ _
    subst e1
    obtain rfl := h3 q rfl
    intro e
    subst e
    unfold Blk at h1
    rw [h1] at hh
    injection hh with hh
    injection hh with _ hh _
    exact absurd hh (by decide)
/-- the row written in place -/
theorem RefIs.rows (h : RefT w g fb rs fl dn left) (hl : 0 < rs.length) (hc : w.cell? ⟨g, 0, none⟩ = some (.slice (some ⟨fb, 0, none⟩) rs.length c)) (hb : But [fb] w w') (hown : w'.ownsRow 0 107 3 (.slice (some ⟨fb, 0, none⟩) rs.length c) rs.length (rfCells rs')) (hlen : rs'.length = rs.length) (hk : rs'.map (·.1) = rs.map (·.1)) (hf : ∀ p ∈ rs', FileOk (fun _ => True) w' p.2) : RefT w' g fb rs' fl dn left := by
  obtain ⟨A, c', h1, h2, h3⟩ := h.own
  have e := h1.cell 0
  rw [hc] at e
  simp only [List.getElem?_cons_zero, Option.some.injEq, Value.slice.injEq, true_and] at e
  obtain ⟨rfl, rfl⟩ := e
  have hne := h.fbne hl
  have hnb := NB.own hown (by decide) fb (by simp [Value.ownBlock])
  refine ⟨⟨_, c, by rw [hlen]; exact h1.but hb (by simp only [List.mem_cons, List.not_mem_nil, or_false]; exact fun e => hne e.symm), by rw [hlen]; exact hown, by rw [hlen]; exact h3⟩, hf, asc_keys h.asc hk, h.lo, h.hi, hnb, Nat.lt_of_lt_of_le h.lt hb.size⟩
/-- how many bytes of a file are synced -/
theorem RefIs.setSyn (h : RefT w g fb rs fl dn left) {i : Nat} (hi : i < rs.length) (s : Nat) (hs : s ≤ rs[i].2.data.length) : RefT (w.setCell ⟨fb, i * 3 + 2, none⟩ (.int .i64 s)) g fb (rs.set i (rs[i].1, ⟨rs[i].2.A, rs[i].2.c, rs[i].2.data, s⟩)) fl dn left := by
  obtain ⟨A, c', h1, h2, h3⟩ := h.own
  obtain ⟨c, d0, _⟩ := h.at_ hi
  have e := h1.cell 0
  rw [d0] at e
  simp only [List.getElem?_cons_zero, Option.some.injEq, Value.slice.injEq, true_and] at e
  obtain ⟨rfl, rfl⟩ := e
  have hb : But [fb] w (w.setCell ⟨fb, i * 3 + 2, none⟩ (.int .i64 s)) := (But.refl _ _).setCell (by simp) _
  have hown := own_set (j := i * 3 + 2) (u := .int .i64 s) h2
  rw [rfCells_set2 (.int .i64 s) rs i hi ⟨rs[i].2.A, rs[i].2.c, rs[i].2.data, s⟩ rfl] at hown
  refine h.rows (by omega) d0 hb hown (by rw [List.length_set]) (keys_set hi _) (fun p hp => ?_)
  have hnb : ∀ k ∈ [fb], NB w k ∨ w.heap.size ≤ k := fun k hk => by simp only [List.mem_cons, List.not_mem_nil, or_false] at hk; subst hk; exact Or.inl h.nb
  rcases List.mem_or_eq_of_mem_set hp with hp | rfl
  · exact (h.files p hp).butT hb hnb
  · have hf := (h.files _ (List.getElem_mem hi)).butT hb hnb
    exact ⟨hf.row, hf.own, hf.cap, hs, hf.len, hf.typ⟩
end
theorem sput_at {ν : Type} {nm : Bs} {l : List (Bs × ν)} (hok : (rfind nm l).2 = true) (v : ν) : sput nm v l = l.set (rfind nm l).1 (nm, v) := by
  have hlt := rfind_lt hok
  unfold sput
  rw [hok, if_pos rfl]
  conv => rhs; rw [List.set_eq_take_append_cons_drop, if_pos hlt]
section
variable (nm : Bs) (g fb : Nat) (rs : Files) (fl dn : Bool) (left : Int) (w : World)
set_option maxRecDepth 100000 in
set_option maxHeartbeats 4000000 in
theorem rfSync_ok (h : RefT w g fb rs fl dn left) (hl : (nmS nm).size ≤ 140737488355328) (hrl : rs.length ≤ 140737488355328) (h0 : dmay [nmS nm] dn = 0) (hok : (rfind nm rs).2 = true) :
    Calls Try.prog 68 #[.pointer (some ⟨g, 0, none⟩), .string (nmS nm)] w fun e w' => e = .returned (.int .i64 0) ∧ ∃ old rs', aget nm rs = some old ∧ RefT w' g fb rs' fl (chgD [nmS nm] dn left) (chgL [nmS nm] dn left) ∧ rs' = sput nm ⟨old.A, old.c, old.data, old.data.length⟩ rs ∧ But [g, fb] w w' := by
  obtain ⟨old, hag, hat⟩ := rfind_get nm rs hok
  have hlt := rfind_lt hok
  have hfe : rs[(rfind nm rs).1] = (nm, old) := by rw [List.getElem?_eq_getElem hlt] at hat; exact Option.some.inj hat
  have Hsp := Lib.hid (sput_at hok (⟨old.A, old.c, old.data, old.data.length⟩ : FileE))
  have Hag := Lib.hid hag; have Hok := Lib.hid hok
  clear hag hat hok
  have Hne := Lib.hid (show ((dmay [nmS nm] dn : Nat) : Int) = 0 by omega)
  clear h0
  go_enter Try.func68, Try.ntmps68
  go_wp2_with fail
  refine (rfChange (nmS nm) (nmS nm) hl hl h).mono ?_
  rintro e w1 ⟨rfl, h1, hb1⟩
  rw [dmay_same] at ⊢
  rw [(chg_same (nmS nm) dn left).1, (chg_same (nmS nm) dn left).2] at h1
  rw [Hne.out]
  obtain ⟨dn1, hdn1⟩ : ∃ x, x = chgD [nmS nm] dn left := ⟨_, rfl⟩
  obtain ⟨left1, hleft1⟩ : ∃ x, x = chgL [nmS nm] dn left := ⟨_, rfl⟩
  rw [← hdn1, ← hleft1] at h1
  have Hdn := Lib.hid hdn1; have Hleft := Lib.hid hleft1
  clear hdn1 hleft1 h
  obtain ⟨A, c, k1, hr1, _, _⟩ := h1.ex
  go_wp2_with fail
  refine (rFind nm g rs A c fl dn1 left1 w1 k1 hr1 hrl).mono ?_
  rintro e w2 ⟨rfl, rfl⟩
  clear k1 hr1
  rw [Hok.out]
  obtain ⟨i, hi⟩ : ∃ i, i = (rfind nm rs).1 := ⟨_, rfl⟩
  have hfe' : ∃ hlt' : i < rs.length, rs[i] = (nm, old) := by subst hi; exact ⟨hlt, hfe⟩
  rw [← hi] at hlt Hsp ⊢
  clear hi hfe
  obtain ⟨_, hfe⟩ := hfe'
  obtain ⟨c', d0, hcc, _, d1, d2, f2⟩ := h1.at_ hlt
  have hres := h1.setSyn hlt old.data.length (by rw [hfe]; exact Nat.le_refl _)
  rw [hfe] at d1 d2 hres
  have hlt' : (i : Int) < (rs.length : Int) := by omega
  have hw2 := h1.glt.1
  have hfb := h1.lt
  go_upto_region 7 with fail
  have y0 : ∀ w', Below w2.heap.size w2 w' → w'.cell? ⟨g, 0, none⟩ = some (.slice (some ⟨fb, 0, none⟩) rs.length c') := fun w' h => (h.cell (p := ⟨g, 0, none⟩) hw2).trans d0
  have y1 : ∀ w', Below w2.heap.size w2 w' → w'.cell? ⟨fb, i * 3 + 1, none⟩ = some (.slice old.A old.data.length old.c) := fun w' h => (h.cell (p := ⟨fb, i * 3 + 1, none⟩) hfb).trans d1
  have hS0 : Below w2.heap.size w2 w2.drew := (Below.refl _ _).drew
  have d2' : w2.drew.cell? ⟨fb, i * 3 + 2, none⟩ = some (.int .i64 old.synced) := d2
  have f2' : w2.drew.frozen? ⟨fb, i * 3 + 2, none⟩ = false := f2 _
  have hiw : (0 : Int) ≤ (i : Int) := by omega
  refine wp_region_N (fun w' => Below w2.heap.size w2 w') 16 (by kernel_rfl) ?_
  apply wpAnyN_takeL 0 (by kernel_rfl) rfl (fun _ _ _ h => h) (by kernel_rfl) hS0
  · intro w' hS'
    go_simp; exact ⟨rfl, rfl⟩
  (try simp only [Act.put]); (try simp only [List.setIfInBounds_toArray]); (try simp only [List.set])
  apply wpAnyN_takeL 1 (by kernel_rfl) rfl (fun _ _ _ h => h) (by kernel_rfl) hS0
  · intro w' hS'
    go_simp; exact ⟨rfl, rfl⟩
  (try simp only [Act.put]); (try simp only [List.setIfInBounds_toArray]); (try simp only [List.set])
  apply wpAnyN_takeL 2 (by kernel_rfl) rfl (fun _ _ _ h => h) (by kernel_rfl) hS0
  · intro w' hS'
    go_simp; exact ⟨rfl, rfl⟩
  (try simp only [Act.put]); (try simp only [List.setIfInBounds_toArray]); (try simp only [List.set])
  apply wpAnyN_takeL 3 (by kernel_rfl) rfl (fun _ _ _ h => h) (by kernel_rfl) hS0
  · intro w' hS'
    go_simp; exact ⟨rfl, rfl⟩
  (try simp only [Act.put]); (try simp only [List.setIfInBounds_toArray]); (try simp only [List.set])
  apply wpAnyN_takeL 4 (by kernel_rfl) rfl (fun _ _ _ h => h) (by kernel_rfl) hS0
  · intro w' hS'
    go_simp; exact ⟨rfl, rfl⟩
  (try simp only [Act.put]); (try simp only [List.setIfInBounds_toArray]); (try simp only [List.set])
  apply wpAnyN_takeL 5 (by kernel_rfl) rfl (fun _ _ _ h => h) (by kernel_rfl) hS0
  · intro w' hS'
    go_simp; exact ⟨rfl, rfl⟩
  (try simp only [Act.put]); (try simp only [List.setIfInBounds_toArray]); (try simp only [List.set])
  apply wpAnyN_takeL 6 (by kernel_rfl) rfl (fun _ _ _ h => h) (by kernel_rfl) hS0
  · intro w' hS'
    go_simp; exact ⟨rfl, rfl⟩
  (try simp only [Act.put]); (try simp only [List.setIfInBounds_toArray]); (try simp only [List.set])
  apply wpAnyN_takeL 7 (by kernel_rfl) rfl (fun _ _ _ h => h) (by kernel_rfl) hS0
  · intro w' hS'
    go_simp; exact ⟨rfl, rfl⟩
  (try simp only [Act.put]); (try simp only [List.setIfInBounds_toArray]); (try simp only [List.set])
  apply wpAnyN_takeL 8 (by kernel_rfl) rfl (fun _ _ _ h => h) (by kernel_rfl) hS0
  · intro w' hS'
    go_simp; exact ⟨rfl, rfl⟩
  (try simp only [Act.put]); (try simp only [List.setIfInBounds_toArray]); (try simp only [List.set])
  apply wpAnyN_takeL 9 (by kernel_rfl) rfl (fun _ _ _ h => h) (by kernel_rfl) hS0
  · intro w' hS'
    go_simp; exact ⟨rfl, rfl⟩
  (try simp only [Act.put]); (try simp only [List.setIfInBounds_toArray]); (try simp only [List.set])
  apply wpAnyN_takeL 10 (by kernel_rfl) rfl (fun _ _ _ h => h) (by kernel_rfl) hS0
  · intro w' hS'
    go_simp; exact ⟨rfl, rfl⟩
  (try simp only [Act.put]); (try simp only [List.setIfInBounds_toArray]); (try simp only [List.set])
  apply wpAnyN_takeL 11 (by kernel_rfl) rfl (fun _ _ _ h => h) (by kernel_rfl) hS0
  · intro w' hS'
    go_simp; exact ⟨rfl, rfl⟩
  (try simp only [Act.put]); (try simp only [List.setIfInBounds_toArray]); (try simp only [List.set])
  apply wpAnyN_takeL 12 (by kernel_rfl) rfl (fun _ _ _ h => h) (by kernel_rfl) hS0
  · intro w' hS'
    go_simp; exact ⟨rfl, rfl⟩
  (try simp only [Act.put]); (try simp only [List.setIfInBounds_toArray]); (try simp only [List.set])
  apply wpAnyN_takeL 13 (by kernel_rfl) rfl (fun _ _ _ h => h) (by kernel_rfl) hS0
  · intro w' hS'
    go_simp; exact ⟨rfl, rfl⟩
  (try simp only [Act.put]); (try simp only [List.setIfInBounds_toArray]); (try simp only [List.set])
  refine wpAnyN_runL 14 (by kernel_rfl) rfl (by kernel_rfl) (fun K hK => ?_)
  go_simp
  refine hK _ _ (fun _ => hS0) ?_
  clear hK K
  (try simp only [Act.put]); (try simp only [List.setIfInBounds_toArray]); (try simp only [List.set])
  refine wpAnyN_runL 15 (by kernel_rfl) rfl (by kernel_rfl) (fun K hK => ?_)
  go_simp
  refine hK _ _ (fun _ => hS0) ?_
  clear hK K
  (try simp only [Act.put]); (try simp only [List.setIfInBounds_toArray]); (try simp only [List.set])
  refine wpAnyN_runL 16 (by kernel_rfl) rfl (by kernel_rfl) (fun K hK => ?_)
  go_simp
  refine hK _ _ (fun h => absurd rfl h) ?_
  clear hK K
  (try simp only [Act.put])
  refine wpAnyN_done (by kernel_rfl) ?_ _
  go_wp2
  go_ret
  rw [← Hdn.out, ← Hleft.out, Hag.out]
  have hset : But [fb] w2 (w2.setCell ⟨fb, i * 3 + 2, none⟩ (.int .i64 old.data.length)) := (But.refl _ _).setCell (by simp) _
  have hb12 : But [g, fb] w (w2.setCell ⟨fb, i * 3 + 2, none⟩ (.int .i64 old.data.length)).drew := ((But.two1 hb1).trans (But.two2 hset)).trans (But.of_below (Below.refl _ _).drew)
  exact ⟨rfl, old, _, rfl, hres.below (Below.refl _ _).drew, Hsp.out.symm, hb12⟩
set_option maxRecDepth 100000 in
set_option maxHeartbeats 4000000 in
theorem rfRename_ok (nm2 : Bs) (h : RefT w g fb rs fl dn left) (hl : (nmS nm).size ≤ 140737488355328) (hl2 : (nmS nm2).size ≤ 140737488355328) (hrl : (rs.length + 1) * 48 ≤ 140737488355328) (h0 : dmay [nmS nm, nmS nm2] dn = 0) (hok : (rfind nm rs).2 = true) :
    Calls Try.prog 69 #[.pointer (some ⟨g, 0, none⟩), .string (nmS nm), .string (nmS nm2)] w fun e w' => e = .returned (.int .i64 0) ∧ ∃ old fb', aget nm rs = some old ∧ RefT w' g fb' (sput nm2 old (adel nm rs)) fl (chgD [nmS nm, nmS nm2] dn left) (chgL [nmS nm, nmS nm2] dn left) ∧ (fb' = g ∨ w.heap.size ≤ fb') ∧ But [g] w w' := by
  obtain ⟨old, hag, hat⟩ := rfind_get nm rs hok
  have hlt := rfind_lt hok
  have hfe : rs[(rfind nm rs).1] = (nm, old) := by rw [List.getElem?_eq_getElem hlt] at hat; exact Option.some.inj hat
  have Hdel := Lib.hid (rfind_del nm rs hok)
  have Hag := Lib.hid hag; have Hok := Lib.hid hok
  clear hag hat hok
  have Hne := Lib.hid (show ((dmay [nmS nm, nmS nm2] dn : Nat) : Int) = 0 by omega)
  clear h0
  go_enter Try.func69, Try.ntmps69
  go_wp2_with fail
  refine (rfChange (nmS nm) (nmS nm2) hl hl2 h).mono ?_
  rintro e w1 ⟨rfl, h1, hb1⟩
  rw [Hne.out]
  obtain ⟨dn1, hdn1⟩ : ∃ x, x = chgD [nmS nm, nmS nm2] dn left := ⟨_, rfl⟩
  obtain ⟨left1, hleft1⟩ : ∃ x, x = chgL [nmS nm, nmS nm2] dn left := ⟨_, rfl⟩
  rw [← hdn1, ← hleft1] at h1
  have Hdn := Lib.hid hdn1; have Hleft := Lib.hid hleft1
  clear hdn1 hleft1 h
  obtain ⟨A, c, k1, hr1, _, _⟩ := h1.ex
  go_wp2_with fail
  refine (rFind nm g rs A c fl dn1 left1 w1 k1 hr1 (by omega)).mono ?_
  rintro e w2 ⟨rfl, rfl⟩
  clear k1 hr1
  rw [Hok.out]
  obtain ⟨i, hi⟩ : ∃ i, i = (rfind nm rs).1 := ⟨_, rfl⟩
  have hfe' : ∃ hlt' : i < rs.length, rs[i] = (nm, old) := by subst hi; exact ⟨hlt, hfe⟩
  rw [← hi] at hlt Hdel ⊢
  clear hi hfe
  obtain ⟨_, hfe⟩ := hfe'
  obtain ⟨c', d0, hcc, e0, d1, d2, _⟩ := h1.at_ hlt
  have hfo := h1.files (nm, old) (by rw [← hfe]; exact List.getElem_mem hlt)
  rw [hfe] at e0 d1 d2
  have hlt' : (i : Int) < (rs.length : Int) := by omega
  have hw2 := h1.glt.1
  have hasl : (adel nm rs).length ≤ rs.length := by rw [← Hdel.out]; simp; omega
  go_wp2_with fail
  obtain ⟨X, hX⟩ : ∃ X, X = w2.alloc (.cells #[.string (nmS nm), .slice old.A old.data.length old.c, .int .i64 old.synced] 107) := ⟨_, rfl⟩
  change Calls _ _ _ (w2.alloc (.cells #[.string (nmS nm), .slice old.A old.data.length old.c, .int .i64 old.synced] 107)) _
  rw [← hX]
  have hbX : Below w2.heap.size w2 X := by rw [hX]; exact (Below.refl _ _).alloc (Nat.le_refl _) _
  have kX : Blk X w2.heap.size 107 [.string (nmS nm), .slice old.A old.data.length old.c, .int .i64 old.synced] := by rw [hX]; exact Blk.new w2 _ _
  clear hX
  have h1X := h1.below hbX
  have hfoX := hfo.below hbX
  have hs12 := hb1.size
  refine (rTake i g fb rs fl dn1 left1 _ X h1X hlt (by omega)).mono ?_
  rintro e w3 ⟨rfl, fb3, h3, hfb3, hb3⟩
  rw [Hdel.out] at h3
  have k3 := kX.but hb3 (by simp only [List.mem_cons, List.not_mem_nil, or_false]; omega)
  have hfo3 := hfoX.butT hb3 (fun k hk => by simp only [List.mem_cons, List.not_mem_nil, or_false] at hk; subst hk; exact Or.inl h1X.glt.2)
  have c0 := k3.cell 0; have f0 := k3.frozen 0
  have hsX := hbX.size; have hs3 := hb3.size
  have hXl : w2.heap.size < X.heap.size := kX.lt
  clear e0 d1 d2 d0 h1 h1X hfo hfoX kX
  go_upto_region 10 with fail
  obtain ⟨w4, hw4⟩ : ∃ W, W = w3.setCell ⟨w2.heap.size, 0, none⟩ (.string (nmS nm2)) := ⟨_, rfl⟩
  rw [← hw4]
  have hb4 : But [w2.heap.size] w3 w4 := by rw [hw4]; exact (But.refl _ _).setCell (by simp) _
  have k4 : Blk w4 w2.heap.size 107 [.string (nmS nm2), .slice old.A old.data.length old.c, .int .i64 old.synced] := by rw [hw4]; exact k3.set_ 0 _
  have hnb : ∀ k ∈ [w2.heap.size], NB w3 k ∨ w3.heap.size ≤ k := fun k hk => by simp only [List.mem_cons, List.not_mem_nil, or_false] at hk; subst hk; exact Or.inl (NB.blk k3 (by decide))
  have hfbne : fb3 ≠ w2.heap.size := by
    rcases hfb3 with h | h
    · omega
    · omega
  have hgne : g ≠ w2.heap.size := by omega
  have h4 := h3.butT hb4 (by simp only [List.mem_cons, List.not_mem_nil, or_false]; exact hgne) (by simp only [List.mem_cons, List.not_mem_nil, or_false]; exact hfbne) hnb
  have hfo4 := hfo3.butT hb4 hnb
  have q0 := k4.cell 0; have q1 := k4.cell 1; have q2 := k4.cell 2
  have hb04 : But [g] w w4 := ((hb1.trans (But.of_below hbX)).trans hb3).old hb4 (fun k hk => by simp only [List.mem_cons, List.not_mem_nil, or_false] at hk; subst hk; exact Or.inr hs12)
  have hs4 := hb4.size
  clear hw4 c0 f0 k3 k4 hb4 hnb h3 hfo3 hb3 hbX
  go_wp2_with fail
  refine (rfPut nm2 old g fb3 (adel nm rs) fl dn1 left1 _ w4 h4 hfo4 (by omega)).mono ?_
  rintro e w5 ⟨rfl, fb5, h5, hfb5, hb5⟩
  clear q0 q1 q2
  go_wp2
  go_ret
  rw [← Hdn.out, ← Hleft.out, Hag.out]
  exact ⟨rfl, old, fb5, rfl, h5, hfb5.imp id (fun h => by omega), hb04.trans hb5⟩
end
end Go.Proofs.Ytmddgimadlmacaa
