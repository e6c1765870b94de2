import Derived.Test.YtmddgimadlmacaaDoorWs35
import Derived.Test.YtmddgimadlmacaaDoorWs10
/-! the document's disk: files written in place -/
namespace Go.Proofs.YtmddgimadlmacaaDoor
open Go.RowKit Garner

theorem rfCells_set2 (v : Value) : ∀ (rs : Files) (i : Nat) (hi : i < rs.length) (e' : FileE), rfV (rs[i].1, e') = (rfV rs[i]).set 2 v → (rfCells rs).set (i * 3 + 2) v = rfCells (rs.set i (rs[i].1, e'))
  | s :: l, 0, _, e', h => by
    have h1 : rfCells (s :: l) = rfV s ++ rfCells l := rfl
    have h2 : rfCells ((s :: l).set 0 ((s :: l)[0].1, e')) = rfV (s.1, e') ++ rfCells l := rfl
    have h3 : rfV (s.1, e') = (rfV s).set 2 v := h
    rw [h1, h2, h3, List.set_append_left _ _ (by simp [rfV])]
  | s :: l, i + 1, hi, e', h => by
    have h1 : rfCells (s :: l) = rfV s ++ rfCells l := rfl
    have ih := rfCells_set2 v l i (by simpa using hi) e' h
    have h2 : rfCells ((s :: l).set (i + 1) ((s :: l)[i + 1].1, e')) = rfV s ++ rfCells (l.set i ((l[i]'(by simpa using hi)).1, e')) := rfl
    rw [h1, h2, ← ih, List.set_append_right _ _ (by simp [rfV]; omega)]
    congr 2
    simp [rfV]; omega
theorem asc_keys {ν ν' : Type} {l : List (Bs × ν)} {l' : List (Bs × ν')} (h : Asc l) (hk : l'.map (·.1) = l.map (·.1)) : Asc l' := by
  unfold Asc at h ⊢
  have h1 : (l.map (·.1)).Pairwise (· < ·) := List.pairwise_map.2 h
  rw [← hk] at h1
  exact List.pairwise_map.1 h1
theorem keys_set {ν : Type} {l : List (Bs × ν)} {i : Nat} (hi : i < l.length) (v : ν) : (l.set i (l[i].1, v)).map (·.1) = l.map (·.1) := by
  rw [List.map_set]
  have : l[i].1 = (l.map (·.1))[i]'(by simpa using hi) := by simp
  rw [this, List.set_getElem_self]
section
variable {w w' : World} {g fb : Nat} {rs rs' : Files} {fl dn : Bool} {left : Int} {c : Nat}
theorem RefIs.fbne (h : RefT w g fb rs fl dn left) (hl : 0 < rs.length) : fb ≠ g := by
  obtain ⟨A, c, h1, h2, h3⟩ := h.own
  rcases h2.2 with ⟨e, h0⟩ | ⟨q, cap, cur, e, _, hh, _⟩
  · omega
  · injection e with e1 _ _
    subst e1
    obtain rfl := h3 q rfl
    intro e
    subst e
    unfold Blk at h1
    rw [h1] at hh
    injection hh with hh
    injection hh with _ hh _
    exact absurd hh (by decide)
/-- the row written in place -/
theorem RefIs.rows (h : RefT w g fb rs fl dn left) (hl : 0 < rs.length) (hc : w.cell? ⟨g, 0, none⟩ = some (.slice (some ⟨fb, 0, none⟩) rs.length c)) (hb : But [fb] w w') (hown : w'.ownsRow 0 88 3 (.slice (some ⟨fb, 0, none⟩) rs.length c) rs.length (rfCells rs')) (hlen : rs'.length = rs.length) (hk : rs'.map (·.1) = rs.map (·.1)) (hf : ∀ p ∈ rs', FileOk (fun _ => True) w' p.2) : RefT w' g fb rs' fl dn left := by
  obtain ⟨A, c', h1, h2, h3⟩ := h.own
  have e := h1.cell 0
  rw [hc] at e
  simp only [List.getElem?_cons_zero, Option.some.injEq, Value.slice.injEq, true_and] at e
  obtain ⟨rfl, rfl⟩ := e
  have hne := h.fbne hl
  have hnb := NB.own hown (by decide) fb (by simp [Value.ownBlock])
  refine ⟨⟨_, c, by rw [hlen]; exact h1.but hb (by simp only [List.mem_cons, List.not_mem_nil, or_false]; exact fun e => hne e.symm), by rw [hlen]; exact hown, by rw [hlen]; exact h3⟩, hf, asc_keys h.asc hk, h.lo, h.hi, hnb, Nat.lt_of_lt_of_le h.lt hb.size⟩
/-- how many bytes of a file are synced -/
theorem RefIs.setSyn (h : RefT w g fb rs fl dn left) {i : Nat} (hi : i < rs.length) (s : Nat) (hs : s ≤ rs[i].2.data.length) : RefT (w.setCell ⟨fb, i * 3 + 2, none⟩ (.int .i64 s)) g fb (rs.set i (rs[i].1, ⟨rs[i].2.A, rs[i].2.c, rs[i].2.data, s⟩)) fl dn left := by
  obtain ⟨A, c', h1, h2, h3⟩ := h.own
  obtain ⟨c, d0, _⟩ := h.at_ hi
  have e := h1.cell 0
  rw [d0] at e
  simp only [List.getElem?_cons_zero, Option.some.injEq, Value.slice.injEq, true_and] at e
  obtain ⟨rfl, rfl⟩ := e
  have hb : But [fb] w (w.setCell ⟨fb, i * 3 + 2, none⟩ (.int .i64 s)) := (But.refl _ _).setCell (by simp) _
  have hown := own_set (j := i * 3 + 2) (u := .int .i64 s) h2
  rw [rfCells_set2 (.int .i64 s) rs i hi ⟨rs[i].2.A, rs[i].2.c, rs[i].2.data, s⟩ rfl] at hown
  refine h.rows (by omega) d0 hb hown (by rw [List.length_set]) (keys_set hi _) (fun p hp => ?_)
  have hnb : ∀ k ∈ [fb], NB w k ∨ w.heap.size ≤ k := fun k hk => by simp only [List.mem_cons, List.not_mem_nil, or_false] at hk; subst hk; exact Or.inl h.nb
  rcases List.mem_or_eq_of_mem_set hp with hp | rfl
  · exact (h.files p hp).butT hb hnb
  · have hf := (h.files _ (List.getElem_mem hi)).butT hb hnb
    exact ⟨hf.row, hf.own, hf.cap, hs, hf.len, hf.typ⟩
end
theorem sput_at {ν : Type} {nm : Bs} {l : List (Bs × ν)} (hok : (rfind nm l).2 = true) (v : ν) : sput nm v l = l.set (rfind nm l).1 (nm, v) := by
  have hlt := rfind_lt hok
  unfold sput
  rw [hok, if_pos rfl]
  conv => rhs; rw [List.set_eq_take_append_cons_drop, if_pos hlt]
section
variable (nm : Bs) (g fb : Nat) (rs : Files) (fl dn : Bool) (left : Int) (w : World)
set_option maxRecDepth 100000 in
set_option maxHeartbeats 4000000 in
theorem rfSync_ok (h : RefT w g fb rs fl dn left) (hl : (nmS nm).size ≤ 140737488355328) (hrl : rs.length ≤ 140737488355328) (h0 : dmay [nmS nm] dn = 0) (hok : (rfind nm rs).2 = true) :
    Calls Tryd.prog 51 #[.pointer (some ⟨g, 0, none⟩), .string (nmS nm)] w fun e w' => e = .returned (.int .i64 0) ∧ ∃ old rs', aget nm rs = some old ∧ RefT w' g fb rs' fl (chgD [nmS nm] dn left) (chgL [nmS nm] dn left) ∧ rs' = sput nm ⟨old.A, old.c, old.data, old.data.length⟩ rs ∧ But [g, fb] w w' := by
  obtain ⟨old, hag, hat⟩ := rfind_get nm rs hok
  have hlt := rfind_lt hok
  have hfe : rs[(rfind nm rs).1] = (nm, old) := by rw [List.getElem?_eq_getElem hlt] at hat; exact Option.some.inj hat
  have Hsp := Lib.hid (sput_at hok (⟨old.A, old.c, old.data, old.data.length⟩ : FileE))
  have Hag := Lib.hid hag; have Hok := Lib.hid hok
  clear hag hat hok
  have Hne := Lib.hid (show ((dmay [nmS nm] dn : Nat) : Int) = 0 by omega)
  clear h0
  go_enter Tryd.func51, Tryd.ntmps51
  go_wp2_with fail
  refine (rfChange (nmS nm) (nmS nm) hl hl h).mono ?_
  rintro e w1 ⟨rfl, h1, hb1⟩
  rw [dmay_same] at ⊢
  rw [(chg_same (nmS nm) dn left).1, (chg_same (nmS nm) dn left).2] at h1
  rw [Hne.out]
  obtain ⟨dn1, hdn1⟩ : ∃ x, x = chgD [nmS nm] dn left := ⟨_, rfl⟩
  obtain ⟨left1, hleft1⟩ : ∃ x, x = chgL [nmS nm] dn left := ⟨_, rfl⟩
  rw [← hdn1, ← hleft1] at h1
  have Hdn := Lib.hid hdn1; have Hleft := Lib.hid hleft1
  clear hdn1 hleft1 h
  obtain ⟨A, c, k1, hr1, _, _⟩ := h1.ex
  go_wp2_with fail
  refine (rFind nm g rs A c fl dn1 left1 w1 k1 hr1 hrl).mono ?_
  rintro e w2 ⟨rfl, rfl⟩
  clear k1 hr1
  rw [Hok.out]
  obtain ⟨i, hi⟩ : ∃ i, i = (rfind nm rs).1 := ⟨_, rfl⟩
  have hfe' : ∃ hlt' : i < rs.length, rs[i] = (nm, old) := by subst hi; exact ⟨hlt, hfe⟩
  rw [← hi] at hlt Hsp ⊢
  clear hi hfe
  obtain ⟨_, hfe⟩ := hfe'
  obtain ⟨c', d0, hcc, _, d1, d2, f2⟩ := h1.at_ hlt
  have hres := h1.setSyn hlt old.data.length (by rw [hfe]; exact Nat.le_refl _)
  rw [hfe] at d1 d2 hres
  have hlt' : (i : Int) < (rs.length : Int) := by omega
  have hw2 := h1.glt.1
  have hfb := h1.lt
  go_upto_region 7 with fail
  have y0 : ∀ w', Below w2.heap.size w2 w' → w'.cell? ⟨g, 0, none⟩ = some (.slice (some ⟨fb, 0, none⟩) rs.length c') := fun w' h => (h.cell (p := ⟨g, 0, none⟩) hw2).trans d0
  have y1 : ∀ w', Below w2.heap.size w2 w' → w'.cell? ⟨fb, i * 3 + 1, none⟩ = some (.slice old.A old.data.length old.c) := fun w' h => (h.cell (p := ⟨fb, i * 3 + 1, none⟩) hfb).trans d1
  have hS0 : Below w2.heap.size w2 w2.drew := (Below.refl _ _).drew
  have d2' : w2.drew.cell? ⟨fb, i * 3 + 2, none⟩ = some (.int .i64 old.synced) := d2
  have f2' : w2.drew.frozen? ⟨fb, i * 3 + 2, none⟩ = false := f2 _
  have hiw : (0 : Int) ≤ (i : Int) := by omega
  refine wp_region_N (fun w' => Below w2.heap.size w2 w') 16 (by kernel_rfl) ?_
  apply wpAnyN_takeL 0 (by kernel_rfl) rfl (fun _ _ _ h => h) (by kernel_rfl) hS0
  · intro w' hS'
    go_simp; exact ⟨rfl, rfl⟩
  (try simp only [Act.put]); (try simp only [List.setIfInBounds_toArray]); (try simp only [List.set])
  apply wpAnyN_takeL 1 (by kernel_rfl) rfl (fun _ _ _ h => h) (by kernel_rfl) hS0
  · intro w' hS'
    go_simp; exact ⟨rfl, rfl⟩
  (try simp only [Act.put]); (try simp only [List.setIfInBounds_toArray]); (try simp only [List.set])
  apply wpAnyN_takeL 2 (by kernel_rfl) rfl (fun _ _ _ h => h) (by kernel_rfl) hS0
  · intro w' hS'
    go_simp; exact ⟨rfl, rfl⟩
  (try simp only [Act.put]); (try simp only [List.setIfInBounds_toArray]); (try simp only [List.set])
  apply wpAnyN_takeL 3 (by kernel_rfl) rfl (fun _ _ _ h => h) (by kernel_rfl) hS0
  · intro w' hS'
    go_simp; exact ⟨rfl, rfl⟩
  (try simp only [Act.put]); (try simp only [List.setIfInBounds_toArray]); (try simp only [List.set])
  apply wpAnyN_takeL 4 (by kernel_rfl) rfl (fun _ _ _ h => h) (by kernel_rfl) hS0
  · intro w' hS'
    go_simp; exact ⟨rfl, rfl⟩
  (try simp only [Act.put]); (try simp only [List.setIfInBounds_toArray]); (try simp only [List.set])
  apply wpAnyN_takeL 5 (by kernel_rfl) rfl (fun _ _ _ h => h) (by kernel_rfl) hS0
  · intro w' hS'
    go_simp; exact ⟨rfl, rfl⟩
  (try simp only [Act.put]); (try simp only [List.setIfInBounds_toArray]); (try simp only [List.set])
  apply wpAnyN_takeL 6 (by kernel_rfl) rfl (fun _ _ _ h => h) (by kernel_rfl) hS0
  · intro w' hS'
    go_simp; exact ⟨rfl, rfl⟩
  (try simp only [Act.put]); (try simp only [List.setIfInBounds_toArray]); (try simp only [List.set])
  apply wpAnyN_takeL 7 (by kernel_rfl) rfl (fun _ _ _ h => h) (by kernel_rfl) hS0
  · intro w' hS'
    go_simp; exact ⟨rfl, rfl⟩
  (try simp only [Act.put]); (try simp only [List.setIfInBounds_toArray]); (try simp only [List.set])
  apply wpAnyN_takeL 8 (by kernel_rfl) rfl (fun _ _ _ h => h) (by kernel_rfl) hS0
  · intro w' hS'
    go_simp; exact ⟨rfl, rfl⟩
  (try simp only [Act.put]); (try simp only [List.setIfInBounds_toArray]); (try simp only [List.set])
  apply wpAnyN_takeL 9 (by kernel_rfl) rfl (fun _ _ _ h => h) (by kernel_rfl) hS0
  · intro w' hS'
    go_simp; exact ⟨rfl, rfl⟩
  (try simp only [Act.put]); (try simp only [List.setIfInBounds_toArray]); (try simp only [List.set])
  apply wpAnyN_takeL 10 (by kernel_rfl) rfl (fun _ _ _ h => h) (by kernel_rfl) hS0
  · intro w' hS'
    go_simp; exact ⟨rfl, rfl⟩
  (try simp only [Act.put]); (try simp only [List.setIfInBounds_toArray]); (try simp only [List.set])
  apply wpAnyN_takeL 11 (by kernel_rfl) rfl (fun _ _ _ h => h) (by kernel_rfl) hS0
  · intro w' hS'
    go_simp; exact ⟨rfl, rfl⟩
  (try simp only [Act.put]); (try simp only [List.setIfInBounds_toArray]); (try simp only [List.set])
  apply wpAnyN_takeL 12 (by kernel_rfl) rfl (fun _ _ _ h => h) (by kernel_rfl) hS0
  · intro w' hS'
    go_simp; exact ⟨rfl, rfl⟩
  (try simp only [Act.put]); (try simp only [List.setIfInBounds_toArray]); (try simp only [List.set])
  apply wpAnyN_takeL 13 (by kernel_rfl) rfl (fun _ _ _ h => h) (by kernel_rfl) hS0
  · intro w' hS'
    go_simp; exact ⟨rfl, rfl⟩
  (try simp only [Act.put]); (try simp only [List.setIfInBounds_toArray]); (try simp only [List.set])
  refine wpAnyN_runL 14 (by kernel_rfl) rfl (by kernel_rfl) (fun K hK => ?_)
  go_simp
  refine hK _ _ (fun _ => hS0) ?_
  clear hK K
  (try simp only [Act.put]); (try simp only [List.setIfInBounds_toArray]); (try simp only [List.set])
  refine wpAnyN_runL 15 (by kernel_rfl) rfl (by kernel_rfl) (fun K hK => ?_)
  go_simp
  refine hK _ _ (fun _ => hS0) ?_
  clear hK K
  (try simp only [Act.put]); (try simp only [List.setIfInBounds_toArray]); (try simp only [List.set])
  refine wpAnyN_runL 16 (by kernel_rfl) rfl (by kernel_rfl) (fun K hK => ?_)
  go_simp
  refine hK _ _ (fun h => absurd rfl h) ?_
  clear hK K
  (try simp only [Act.put])
  refine wpAnyN_done (by kernel_rfl) ?_ _
  go_wp2
  go_ret
  rw [← Hdn.out, ← Hleft.out, Hag.out]
  have hset : But [fb] w2 (w2.setCell ⟨fb, i * 3 + 2, none⟩ (.int .i64 old.data.length)) := (But.refl _ _).setCell (by simp) _
  have hb12 : But [g, fb] w (w2.setCell ⟨fb, i * 3 + 2, none⟩ (.int .i64 old.data.length)).drew := ((But.two1 hb1).trans (But.two2 hset)).trans (But.of_below (Below.refl _ _).drew)
  exact ⟨rfl, old, _, rfl, hres.below (Below.refl _ _).drew, Hsp.out.symm, hb12⟩
end
end Go.Proofs.YtmddgimadlmacaaDoor
/-! the disks' methods at a nil receiver (printed by wip/gen_nil.py) -/
namespace Go.Proofs.YtmddgimadlmacaaDoor
open Go.RowKit Garner

set_option maxRecDepth 100000 in
theorem rChangeNil (a b : ByteArray) (w : World) : Calls Tryd.prog 53 #[.pointer none, .string a, .string b] w fun e w' => e = .returned (.int .i64 2) ∧ w' = w := by
  go_enter Tryd.func53, Tryd.ntmps53
  go_wp2
  go_ret
  exact ⟨rfl, rfl⟩
set_option maxRecDepth 100000 in
set_option maxHeartbeats 1000000 in
theorem pAppendNil (s : ByteArray) (A : Option Addr) (n c : Nat) (w : World) : Calls Tryd.prog 10 #[.pointer none, .string s, .slice A n c] w fun e w' => e = .returned (.int .i64 2) ∧ Below w.heap.size w w' := by
  go_enter Tryd.func10, Tryd.ntmps10
  go_wp2
  go_ret
  exact ⟨rfl, (Below.refl _ _).alloc (Nat.le_refl _) _⟩
set_option maxRecDepth 100000 in
set_option maxHeartbeats 1000000 in
theorem pSyncNil (s : ByteArray) (w : World) : Calls Tryd.prog 50 #[.pointer none, .string s] w fun e w' => e = .returned (.int .i64 2) ∧ Below w.heap.size w w' := by
  go_enter Tryd.func50, Tryd.ntmps50
  go_wp2
  go_ret
  exact ⟨rfl, (Below.refl _ _).alloc (Nat.le_refl _) _⟩
set_option maxRecDepth 100000 in
set_option maxHeartbeats 1000000 in
theorem pDeleteNil (s : ByteArray) (w : World) : Calls Tryd.prog 35 #[.pointer none, .string s] w fun e w' => e = .returned (.int .i64 2) ∧ Below w.heap.size w w' := by
  go_enter Tryd.func35, Tryd.ntmps35
  go_wp2
  go_ret
  exact ⟨rfl, (Below.refl _ _).alloc (Nat.le_refl _) _⟩
set_option maxRecDepth 100000 in
set_option maxHeartbeats 1000000 in
theorem pReadNil (s : ByteArray) (w : World) : Calls Tryd.prog 42 #[.pointer none, .string s] w fun e w' => e = .returned (.tuple #[.slice none 0 0, .int .i64 2]) ∧ Below w.heap.size w w' := by
  go_enter Tryd.func42, Tryd.ntmps42
  go_wp2
  go_ret2
  exact ⟨rfl, (Below.refl _ _).alloc (Nat.le_refl _) _⟩
set_option maxRecDepth 100000 in
set_option maxHeartbeats 1000000 in
theorem pListNil  (w : World) : Calls Tryd.prog 18 #[.pointer none] w fun e w' => e = .returned (.tuple #[.slice none 0 0, .int .i64 2]) ∧ w' = w := by
  go_enter Tryd.func18, Tryd.ntmps18
  go_wp2
  go_ret2
  exact ⟨rfl, rfl⟩
set_option maxRecDepth 100000 in
set_option maxHeartbeats 1000000 in
theorem pFillNil (b : Bool) (w : World) : Calls Tryd.prog 28 #[.pointer none, .bool b] w fun e w' => e = .returned (.tuple #[]) ∧ w' = w := by
  go_enter Tryd.func28, Tryd.ntmps28
  go_wp2
  first | (refine bodyPost_end (results_none rfl _ _ _) rfl ?_; exact ⟨rfl, rfl⟩) | (refine bodyPost_ret (results_none rfl _ _ _) rfl ?_; exact ⟨rfl, rfl⟩)
set_option maxRecDepth 100000 in
set_option maxHeartbeats 1000000 in
theorem pArmNil (n : Int) (w : World) : Calls Tryd.prog 30 #[.pointer none, .int .i64 n] w fun e w' => e = .returned (.tuple #[]) ∧ w' = w := by
  go_enter Tryd.func30, Tryd.ntmps30
  go_wp2
  first | (refine bodyPost_end (results_none rfl _ _ _) rfl ?_; exact ⟨rfl, rfl⟩) | (refine bodyPost_ret (results_none rfl _ _ _) rfl ?_; exact ⟨rfl, rfl⟩)
set_option maxRecDepth 100000 in
set_option maxHeartbeats 1000000 in
theorem pRestartNil (A : Option Addr) (n c : Nat) (w : World) : Calls Tryd.prog 32 #[.pointer none, .slice A n c] w fun e w' => e = .returned (.tuple #[]) ∧ w' = w := by
  go_enter Tryd.func32, Tryd.ntmps32
  go_wp2
  first | (refine bodyPost_end (results_none rfl _ _ _) rfl ?_; exact ⟨rfl, rfl⟩) | (refine bodyPost_ret (results_none rfl _ _ _) rfl ?_; exact ⟨rfl, rfl⟩)
set_option maxRecDepth 100000 in
set_option maxHeartbeats 1000000 in
theorem rAppendNil (s : ByteArray) (A : Option Addr) (n c : Nat) (w : World) : Calls Tryd.prog 34 #[.pointer none, .string s, .slice A n c] w fun e w' => e = .returned (.int .i64 2) ∧ w' = w := by
  go_enter Tryd.func34, Tryd.ntmps34
  go_wp2_with fail
  refine (rChangeNil s s w).mono ?_
  rintro e w1 ⟨rfl, rfl⟩
  go_wp2
  go_ret
  exact ⟨rfl, rfl⟩
set_option maxRecDepth 100000 in
set_option maxHeartbeats 1000000 in
theorem rSyncNil (s : ByteArray) (w : World) : Calls Tryd.prog 51 #[.pointer none, .string s] w fun e w' => e = .returned (.int .i64 2) ∧ w' = w := by
  go_enter Tryd.func51, Tryd.ntmps51
  go_wp2_with fail
  refine (rChangeNil s s w).mono ?_
  rintro e w1 ⟨rfl, rfl⟩
  go_wp2
  go_ret
  exact ⟨rfl, rfl⟩
set_option maxRecDepth 100000 in
set_option maxHeartbeats 1000000 in
theorem rDeleteNil (s : ByteArray) (w : World) : Calls Tryd.prog 36 #[.pointer none, .string s] w fun e w' => e = .returned (.int .i64 2) ∧ w' = w := by
  go_enter Tryd.func36, Tryd.ntmps36
  go_wp2_with fail
  refine (rChangeNil s s w).mono ?_
  rintro e w1 ⟨rfl, rfl⟩
  go_wp2
  go_ret
  exact ⟨rfl, rfl⟩
set_option maxRecDepth 100000 in
set_option maxHeartbeats 1000000 in
theorem rReadNil (s : ByteArray) (w : World) : Calls Tryd.prog 47 #[.pointer none, .string s] w fun e w' => e = .returned (.tuple #[.slice none 0 0, .int .i64 2]) ∧ w' = w := by
  go_enter Tryd.func47, Tryd.ntmps47
  go_wp2
  go_ret2
  exact ⟨rfl, rfl⟩
set_option maxRecDepth 100000 in
set_option maxHeartbeats 1000000 in
theorem rFillNil (b : Bool) (w : World) : Calls Tryd.prog 29 #[.pointer none, .bool b] w fun e w' => e = .returned (.tuple #[]) ∧ w' = w := by
  go_enter Tryd.func29, Tryd.ntmps29
  go_wp2
  first | (refine bodyPost_end (results_none rfl _ _ _) rfl ?_; exact ⟨rfl, rfl⟩) | (refine bodyPost_ret (results_none rfl _ _ _) rfl ?_; exact ⟨rfl, rfl⟩)
set_option maxRecDepth 100000 in
set_option maxHeartbeats 1000000 in
theorem rArmNil (n : Int) (w : World) : Calls Tryd.prog 31 #[.pointer none, .int .i64 n] w fun e w' => e = .returned (.tuple #[]) ∧ w' = w := by
  go_enter Tryd.func31, Tryd.ntmps31
  go_wp2
  first | (refine bodyPost_end (results_none rfl _ _ _) rfl ?_; exact ⟨rfl, rfl⟩) | (refine bodyPost_ret (results_none rfl _ _ _) rfl ?_; exact ⟨rfl, rfl⟩)
set_option maxRecDepth 100000 in
set_option maxHeartbeats 1000000 in
theorem rRestartNil (A : Option Addr) (n c : Nat) (w : World) : Calls Tryd.prog 33 #[.pointer none, .slice A n c] w fun e w' => e = .returned (.tuple #[]) ∧ w' = w := by
  go_enter Tryd.func33, Tryd.ntmps33
  go_wp2
  first | (refine bodyPost_end (results_none rfl _ _ _) rfl ?_; exact ⟨rfl, rfl⟩) | (refine bodyPost_ret (results_none rfl _ _ _) rfl ?_; exact ⟨rfl, rfl⟩)
set_option maxRecDepth 100000 in
set_option maxHeartbeats 1000000 in
theorem pDownNil  (w : World) : Calls Tryd.prog 37 #[.pointer none] w fun e w' => e = .returned (.bool false) ∧ w' = w := by
  go_enter Tryd.func37, Tryd.ntmps37
  go_wp2
  go_ret
  exact ⟨rfl, rfl⟩
end Go.Proofs.YtmddgimadlmacaaDoor
