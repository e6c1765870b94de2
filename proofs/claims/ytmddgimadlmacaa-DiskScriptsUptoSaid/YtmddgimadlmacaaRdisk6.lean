import Derived.Test.YtmddgimadlmacaaRdisk5
/-! the document's disk: looks -/
namespace Go.Proofs.Ytmddgimadlmacaa
open Go.RowKit Garner

section
variable {w : World} {g fb : Nat} {rs : Files} {fl dn : Bool} {left : Int}
/-- the file at place i -/
theorem RefIs.at_ {O : Nat → Prop} (h : RefIs O w g fb rs fl dn left) {i : Nat} (hi : i < rs.length) : ∃ c, w.cell? ⟨g, 0, none⟩ = some (.slice (some ⟨fb, 0, none⟩) rs.length c) ∧ (rs.length : Int) ≤ (c : Int) ∧
    w.cell? ⟨fb, i * 3, none⟩ = some (.string (nmS rs[i].1)) ∧ w.cell? ⟨fb, i * 3 + 1, none⟩ = some (.slice rs[i].2.A rs[i].2.data.length rs[i].2.c) ∧ w.cell? ⟨fb, i * 3 + 2, none⟩ = some (.int .i64 rs[i].2.synced) ∧ (∀ k, w.frozen? ⟨fb, k, none⟩ = false) := by
  obtain ⟨A, c, h1, h2, h3⟩ := h.own
  rcases h2.2 with ⟨e, h0⟩ | ⟨q, cap, cur, e, _, hh, hc, _, hcs, hpre⟩
  · omega
  · injection e with e1 e2 e3
    subst e1; subst e3
    obtain rfl := h3 q rfl
    have hcell : ∀ j, j < 3 → w.cell? ⟨q, i * 3 + j, none⟩ = (rfV rs[i])[j]? := fun j hj => by
      rw [← rfCells_at rs i j hi hj]
      have hjl : i * 3 + j < (rfCells rs).length := by rw [rfCells_len]; omega
      have h5 := h2.cells (g := q) rfl (i * 3 + j) _ (List.getElem?_eq_getElem hjl)
      rw [addr_add, Nat.zero_add] at h5
      rw [h5, List.getElem?_eq_getElem hjl]
    refine ⟨c, h1.cell 0, by omega, hcell 0 (by omega), hcell 1 (by omega), hcell 2 (by omega), fun k => ?_⟩
    simp [World.frozen?, hh]
end
def rdData (nm : Bs) (rs : Files) : Bs := ((aget nm rs).map (·.data)).getD []
def rdNo (nm : Bs) (rs : Files) : Nat := if (aget nm rs).isSome then 0 else 21
theorem rd_n {nm : Bs} {rs : Files} (h : aget nm rs = none) : rdData nm rs = [] ∧ rdNo nm rs = 21 := by unfold rdData rdNo; rw [h]; exact ⟨rfl, rfl⟩
theorem rd_s {nm : Bs} {rs : Files} {e : FileE} (h : aget nm rs = some e) : rdData nm rs = e.data ∧ rdNo nm rs = 0 := by unfold rdData rdNo; rw [h]; exact ⟨rfl, rfl⟩
section
variable (nm : Bs) (g fb : Nat) (rs : Files) (fl dn : Bool) (left : Int) (w : World)
set_option maxRecDepth 100000 in
set_option maxHeartbeats 1000000 in
/-- Read where it is refused -/
theorem rfRead_no (h : RefT w g fb rs fl dn left) (hl : (nmS nm).size ≤ 140737488355328) (h0 : dmay [nmS nm] dn ≠ 0) :
    Calls Try.prog 43 #[.pointer (some ⟨g, 0, none⟩), .string (nmS nm)] w fun e w' => e = .returned (.tuple #[.slice none 0 0, .int .i64 (dmay [nmS nm] dn)]) ∧ Below w.heap.size w w' := by
  obtain ⟨A, c, k1, _, _⟩ := h.own
  cases hn : nameOk (nmS nm) with
  | false =>
    have e1 : dmay [nmS nm] dn = 1 := by unfold dmay; simp [hn]
    rw [e1]
    clear h0 e1 h
    go_enter Try.func43, Try.ntmps43
    go_wp2_with fail
    refine (rName (nmS nm) w hl).mono ?_
    rintro e w1 ⟨rfl, hb1⟩
    rw [hn]
    go_wp2
    go_ret2
    exact ⟨rfl, hb1⟩
  | true =>
    have hdn : dn = true := by
      cases dn with
      | true => rfl
      | false => exact absurd (by unfold dmay; simp [hn]) h0
    subst hdn
    have e1 : dmay [nmS nm] true = 23 := by unfold dmay; simp [hn]
    rw [e1]
    clear h0 e1 h
    go_enter Try.func43, Try.ntmps43
    go_wp2_with fail
    refine (rName (nmS nm) w hl).mono ?_
    rintro e w1 ⟨rfl, hb1⟩
    rw [hn]
    have c2 := (k1.below hb1 k1.lt).cell 2
    clear k1
    go_wp2
    go_ret2
    exact ⟨rfl, hb1⟩
set_option maxRecDepth 100000 in
set_option maxHeartbeats 1000000 in
theorem rfRead_ok (h : RefT w g fb rs fl dn left) (hl : (nmS nm).size ≤ 140737488355328) (hrl : rs.length ≤ 140737488355328) (h0 : dmay [nmS nm] dn = 0) :
    Calls Try.prog 43 #[.pointer (some ⟨g, 0, none⟩), .string (nmS nm)] w fun e w' => (∃ A c, e = .returned (.tuple #[.slice A (rdData nm rs).length c, .int .i64 (rdNo nm rs : Nat)]) ∧ Bytes w' w'.heap.size A (rdData nm rs).length (rdData nm rs)) ∧ Below w.heap.size w w' := by
  have hn : nameOk (nmS nm) = true := by
    cases hn : nameOk (nmS nm) with
    | true => rfl
    | false => unfold dmay at h0; simp [hn] at h0
  have hdn : dn = false := by
    cases dn with
    | false => rfl
    | true => unfold dmay at h0; simp [hn] at h0
  subst hdn
  clear h0
  go_enter Try.func43, Try.ntmps43
  go_wp2_with fail
  refine (rName (nmS nm) w hl).mono ?_
  rintro e w1 ⟨rfl, hb1⟩
  rw [hn]
  have h1 := h.below hb1
  obtain ⟨A, c, k1, hr1, _, _⟩ := h1.ex
  have c2 := k1.cell 2
  clear h
  go_wp2_with fail
  refine (rFind nm g rs A c fl false left w1 k1 hr1 hrl).mono ?_
  rintro e w2 ⟨rfl, rfl⟩
  cases hok : (rfind nm rs).2 with
  | false =>
    have hag := Lib.hid (rfind_none nm rs h1.asc hok)
    clear k1 hr1 c2
    go_wp2
    go_ret2
    refine ⟨?_, hb1⟩
    rw [(rd_n hag.out).1, (rd_n hag.out).2]
    exact ⟨none, 0, rfl, Row.none_⟩
  | true =>
    obtain ⟨e, hag, hat⟩ := rfind_get nm rs hok
    have hlt := rfind_lt hok
    obtain ⟨c', d0, hcc, _, d1, _, _⟩ := h1.at_ hlt
    have hfe : rs[(rfind nm rs).1] = (nm, e) := by rw [List.getElem?_eq_getElem hlt] at hat; exact Option.some.inj hat
    have hfo := h1.files (nm, e) (by rw [← hfe]; exact List.getElem_mem hlt)
    rw [hfe] at d1
    have Hag := Lib.hid hag
    obtain ⟨i, hi⟩ : ∃ i, i = (rfind nm rs).1 := ⟨_, rfl⟩
    rw [← hi] at d1 hlt ⊢
    have hlt' : (i : Int) < (rs.length : Int) := by omega
    clear k1 hr1 c2 hat hfe hag hi hok
    go_wp2
    go_ret2
    refine ⟨?_, hb1⟩
    rw [(rd_s Hag.out).1, (rd_s Hag.out).2]
    exact ⟨e.A, e.c, rfl, hfo.row⟩
set_option maxRecDepth 100000 in
set_option maxHeartbeats 1000000 in
theorem rfList_no (h : RefT w g fb rs fl true left) :
    Calls Try.prog 42 #[.pointer (some ⟨g, 0, none⟩)] w fun e w' => e = .returned (.tuple #[.slice none 0 0, .int .i64 23]) ∧ w' = w := by
  obtain ⟨A, c, k1, _, _⟩ := h.own
  have c2 := k1.cell 2
  clear h k1
  go_enter Try.func42, Try.ntmps42
  go_wp2
  go_ret2
  exact ⟨rfl, rfl⟩
set_option maxRecDepth 100000 in
set_option maxHeartbeats 1000000 in
theorem rfList_ok (h : RefT w g fb rs fl false left) (hrl : rs.length * 16 ≤ 140737488351232) :
    Calls Try.prog 42 #[.pointer (some ⟨g, 0, none⟩)] w fun e w' => (∃ A c, e = .returned (.tuple #[.slice A rs.length c, .int .i64 0]) ∧ w'.ownsRow w.heap.size 9 1 (.slice A rs.length c) rs.length ((rs.map (·.1)).map strV)) ∧ Below w.heap.size w w' := by
  obtain ⟨A, c, k1, _, _⟩ := h.own
  have c2 := k1.cell 2
  clear k1
  go_enter Try.func42, Try.ntmps42
  go_wp2_with fail
  clear c2
  go_loopw [4, 5] (fun v i wr => ∃ k : Nat, k ≤ rs.length ∧ i = .int .i64 k ∧ wr.ownsRow w.heap.size 9 1 v k (((rs.take k).map (·.1)).map strV) ∧ Below w.heap.size w wr) (fun _ i _ => rs.length - (intOf i).toNat)
  case atStart => exact ⟨0, Nat.zero_le _, rfl, World.ownsRow_nil _ _ _ _, Below.refl _ _⟩
  case round =>
    obtain ⟨k, hk, rfl, hown, hb⟩ := hrel
    obtain ⟨wo, rfl⟩ : ∃ wo : World, wo = wr := ⟨_, rfl⟩
    have hx := h.below hb
    obtain ⟨A', c', k1', _, _⟩ := hx.own
    have c0 := k1'.cell 0
    by_cases hlt : (k : Int) < (rs.length : Int)
    · obtain ⟨c2', d0, hcc, e0, _, _, _⟩ := hx.at_ (i := k) (by omega)
      have hst : ((rs.take (k + 1)).map (·.1)).map strV = ((rs.take k).map (·.1)).map strV ++ [strV (rs[k]'(by omega)).1] := by
        rw [List.take_succ_eq_append_getElem (by omega), List.map_append, List.map_append]; rfl
      have Hst := Lib.hid hst
      obtain ⟨nk, hnk⟩ : ∃ n, n = (rs[k]'(by omega)).1 := ⟨_, rfl⟩
      rw [← hnk] at e0 Hst
      have hs := hb.size
      clear c0 hst hx k1' hnk
      go_wp2_with (at_builtin; refine wpList_app _ rfl strE rfl rfl (hown.alloc _) rfl (row_new wo _ [_]) (by simp [Value.oneCell']) (by simp; omega) (by simp; omega) ?_; intro v3 w3 hown3 hg3 hb3 hx3)
      have hbX : Below wo.heap.size wo (wo.alloc (.cells #[.string (nmS nk)] 9)) := (Below.refl _ _).alloc (Nat.le_refl _) _
      have hb03 := (hb.trans (hbX.mono hs)).trans hb3
      have hown3' : w3.ownsRow w.heap.size 9 1 v3 (k + 1) (((rs.take (k + 1)).map (·.1)).map strV) := by rw [Hst.out]; exact hown3
      clear hown hown3 hg3 hb3 hx3 hbX hb
      go_roundw
      case rel => exact ⟨k + 1, by omega, by go_num, hown3', hb03⟩
      case measure => simp [intOf]; omega
    · obtain rfl : k = rs.length := by omega
      rw [List.take_length] at hown
      obtain ⟨A4, c4, rfl, _⟩ := own_form hown
      clear hx k1'
      go_wp2
      go_ret2
      exact ⟨⟨A4, c4, rfl, by rw [← List.map_map]; exact hown⟩, hb⟩
end
end Go.Proofs.Ytmddgimadlmacaa
