import Derived.Test.YtmddgimadlmacaaDoorWs33
import Derived.Test.YtmddgimadlmacaaDoorWs31
import Derived.Test.YtmddgimadlmacaaDoorWs15
import Derived.Test.YtmddgimadlmacaaDoorWs12
/-! the document's disk: what changes no files -/
namespace Go.Proofs.YtmddgimadlmacaaDoor
open Go.RowKit Garner

/-- the document's disk, its files' bytes in blocks of bytes -/
abbrev RefT (w : World) (g fb : Nat) (rs : Files) (fl dn : Bool) (left : Int) : Prop := RefIs (fun _ => True) w g fb rs fl dn left
section
variable {w w' : World} {g fb : Nat} {rs : Files} {fl dn : Bool} {left : Int}
theorem RefIs.glt {O : Nat → Prop} (h : RefIs O w g fb rs fl dn left) : g < w.heap.size ∧ NB w g := by
  obtain ⟨A, c, h1, _⟩ := h.own
  exact ⟨h1.lt, NB.blk h1 (by decide)⟩
/-- other blocks written -/
theorem RefIs.butT {O : Nat → Prop} {S : List Nat} (h : RefIs O w g fb rs fl dn left) (hb : But S w w') (hg : g ∉ S) (hf : fb ∉ S) (hS : ∀ k ∈ S, NB w k ∨ w.heap.size ≤ k) : RefIs O w' g fb rs fl dn left := by
  obtain ⟨A, c, h1, h2, h3⟩ := h.own
  exact ⟨⟨A, c, h1.but hb hg, own_but h2 hb (fun q hq => by rw [h3 q hq]; exact hf), h3⟩, fun p hp => (h.files p hp).butT hb hS, h.asc, h.lo, h.hi, h.nb.but hb h.lt hf, Nat.lt_of_lt_of_le h.lt hb.size⟩
theorem RefIs.below {O : Nat → Prop} (h : RefIs O w g fb rs fl dn left) (hb : Below w.heap.size w w') : RefIs O w' g fb rs fl dn left :=
  h.butT (S := []) (But.of_below hb) (by simp) (by simp) (by simp)
/-- its own box written, the files' row left -/
theorem RefIs.box {O : Nat → Prop} {fl' dn' : Bool} {left' : Int} (h : RefIs O w g fb rs fl dn left) (hb : But [g] w w') (hk : ∀ F, w.cell? ⟨g, 0, none⟩ = some F → Blk w' g 68 (refV F fl' dn' left')) (h1 : -1 ≤ left') (h2 : left' ≤ 9223372036854775807) : RefIs O w' g fb rs fl' dn' left' := by
  obtain ⟨A, c, k1, k2, k3⟩ := h.own
  have hk' := hk _ (k1.cell 0)
  have hne : g ∉ (Value.slice A rs.length c).ownBlock.toList := own_blk k2 k1 (by decide)
  have hnb := h.glt.2
  refine ⟨⟨A, c, hk', own_but k2 hb (fun q hq hm => by simp only [List.mem_cons, List.not_mem_nil, or_false] at hm; subst hm; exact hne (by rw [hq]; simp)), k3⟩, fun p hp => (h.files p hp).butT hb (fun k hk => by simp only [List.mem_cons, List.not_mem_nil, or_false] at hk; subst hk; exact Or.inl hnb), h.asc, h1, h2, ?_, Nat.lt_of_lt_of_le h.lt hb.size⟩
  by_cases e : fb = g
  · rw [e]; exact NB.blk hk' (by decide)
  · exact h.nb.but hb h.lt (by simp only [List.mem_cons, List.not_mem_nil, or_false]; exact e)
theorem rfChange (a b : ByteArray) (hla : a.size ≤ 140737488355328) (hlb : b.size ≤ 140737488355328) (h : RefT w g fb rs fl dn left) :
    Calls Tryd.prog 53 #[.pointer (some ⟨g, 0, none⟩), .string a, .string b] w fun e w' => e = .returned (.int .i64 (dmay [a, b] dn)) ∧ RefT w' g fb rs fl (chgD [a, b] dn left) (chgL [a, b] dn left) ∧ But [g] w w' := by
  obtain ⟨A, c, k1, _, _⟩ := h.own
  have hlo := h.lo; have hhi := h.hi
  refine (rChange a b g _ fl dn left w k1 hlo hhi hla hlb).mono ?_
  rintro e w' ⟨rfl, hk, hb⟩
  refine ⟨rfl, h.box hb (fun F hF => ?_) ?_ ?_, hb⟩
  · rw [k1.cell 0] at hF
    have : F = _ := (Option.some.inj hF).symm
    rw [this]; exact hk
  · unfold chgL armed; split <;> (try split) <;> omega
  · unfold chgL armed; split <;> (try split) <;> omega
end
/-- the document's disk as plain data -/
structure RefD (w : World) (g fb : Nat) (d : AD) : Prop where
  ex : ∃ rs, RefT w g fb rs d.fl d.dn d.left ∧ rs.abs = d.fs
section
variable {w w' : World} {g fb : Nat} {d : AD}
theorem RefD.below (h : RefD w g fb d) (hb : Below w.heap.size w w') : RefD w' g fb d := by
  obtain ⟨rs, h1, h2⟩ := h.ex
  exact ⟨rs, h1.below hb, h2⟩
theorem RefD.butT {S : List Nat} (h : RefD w g fb d) (hb : But S w w') (hg : g ∉ S) (hf : fb ∉ S) (hS : ∀ k ∈ S, NB w k ∨ w.heap.size ≤ k) : RefD w' g fb d := by
  obtain ⟨rs, h1, h2⟩ := h.ex
  exact ⟨rs, h1.butT hb hg hf hS, h2⟩
theorem RefD.lts (h : RefD w g fb d) : g < w.heap.size ∧ fb < w.heap.size ∧ NB w g ∧ NB w fb := by
  obtain ⟨rs, h1, _⟩ := h.ex
  exact ⟨h1.glt.1, h1.lt, h1.glt.2, h1.nb⟩
end
theorem rfind_abs (nm : Bs) : ∀ rs : Files, rfind nm rs.abs = rfind nm rs
  | [] => rfl
  | p :: rs => by
    have ih := rfind_abs nm rs
    simp only [Files.abs, List.map_cons, rfind]
    rw [show rfind nm (rs.map fun p => (p.1, (p.2.data, p.2.synced))) = rfind nm rs from ih]
section
variable (nm : Bs) (g fb : Nat) (rs : Files) (fl dn : Bool) (left : Int) (w : World)
set_option maxRecDepth 100000 in
set_option maxHeartbeats 1000000 in
theorem rfFill (b : Bool) (h : RefT w g fb rs fl dn left) :
    Calls Tryd.prog 29 #[.pointer (some ⟨g, 0, none⟩), .bool b] w fun e w' => e = .returned (.tuple #[]) ∧ RefT w' g fb rs b dn left ∧ But [g] w w' := by
  obtain ⟨A, c, k1, _, _⟩ := h.own
  have c1 := k1.cell 1; have f1 := k1.frozen 1
  have hset : But [g] w (w.setCell ⟨g, 1, none⟩ (.bool b)) := (But.refl _ _).setCell (by simp) _
  have hk := k1.set_ 1 (.bool b)
  have c0 := k1.cell 0
  have hres : RefT (w.setCell ⟨g, 1, none⟩ (.bool b)) g fb rs b dn left := h.box hset (fun F hF => by
    rw [c0] at hF
    have : F = _ := (Option.some.inj hF).symm
    rw [this]; exact hk) h.lo h.hi
  clear hk c0 h k1
  go_enter Tryd.func29, Tryd.ntmps29
  go_wp2
  refine bodyPost_end (results_none rfl _ _ _) rfl ?_
  exact ⟨rfl, hres, hset⟩
set_option maxRecDepth 100000 in
set_option maxHeartbeats 1000000 in
theorem rfArm_no (n : Int) (h : RefT w g fb rs fl true left) :
    Calls Tryd.prog 31 #[.pointer (some ⟨g, 0, none⟩), .int .i64 n] w fun e w' => e = .returned (.tuple #[]) ∧ w' = w := by
  obtain ⟨A, c, k1, _, _⟩ := h.own
  have c2 := k1.cell 2
  clear h k1
  go_enter Tryd.func31, Tryd.ntmps31
  go_wp2
  refine bodyPost_ret (results_none rfl _ _ _) rfl ?_
  exact ⟨rfl, rfl⟩
set_option maxRecDepth 100000 in
set_option maxHeartbeats 1000000 in
theorem rfArm_ok (n : Int) (hn2 : n ≤ 9223372036854775807) (h : RefT w g fb rs fl false left) :
    Calls Tryd.prog 31 #[.pointer (some ⟨g, 0, none⟩), .int .i64 n] w fun e w' => e = .returned (.tuple #[]) ∧ RefT w' g fb rs fl (decide (n = 0)) (max n (-1)) ∧ But [g] w w' := by
  obtain ⟨A, c, k1, _, _⟩ := h.own
  have c2 := k1.cell 2; have f2 := k1.frozen 2; have c3 := k1.cell 3; have f3 := k1.frozen 3
  have c0 := k1.cell 0
  have hfin : ∀ (w' : World), But [g] w w' → Blk w' g 68 (refV (.slice A rs.length c) fl (decide (n = 0)) (max n (-1))) → RefT w' g fb rs fl (decide (n = 0)) (max n (-1)) := fun w' hb hk => h.box hb (fun F hF => by
    rw [c0] at hF
    have : F = _ := (Option.some.inj hF).symm
    rw [this]; exact hk) (by omega) (by omega)
  have Hfin := Lib.hid hfin
  have K1 := Lib.hid k1
  clear hfin c0 h k1
  by_cases hlt : n < 0
  · have d1 := decide_eq_true hlt
    have d2 : (n == 0) = false := by rw [beq_eq_false_iff_ne]; omega
    go_enter Tryd.func31, Tryd.ntmps31
    go_wp2
    refine bodyPost_end (results_none rfl _ _ _) rfl ?_
    refine ⟨rfl, Hfin.out _ ?_ ?_, ?_⟩
    · exact (((But.refl _ _).setCell (by simp) _).setCell (by simp) _)
    · rw [decide_eq_false (by omega), show max n (-1) = -1 by omega]
      exact (K1.out.set_ 3 _).set_ 3 _
    · exact (((But.refl _ _).setCell (by simp) _).setCell (by simp) _)
  · have d1 := decide_eq_false hlt
    by_cases h0 : n = 0
    · subst h0
      go_enter Tryd.func31, Tryd.ntmps31
      go_wp2
      refine bodyPost_end (results_none rfl _ _ _) rfl ?_
      refine ⟨rfl, Hfin.out _ ?_ ?_, ?_⟩
      · exact (((But.refl _ _).setCell (by simp) _).setCell (by simp) _)
      · exact (K1.out.set_ 3 _).set_ 2 _
      · exact (((But.refl _ _).setCell (by simp) _).setCell (by simp) _)
    · have d2 : (n == 0) = false := by rw [beq_eq_false_iff_ne]; omega
      go_enter Tryd.func31, Tryd.ntmps31
      go_wp2
      refine bodyPost_end (results_none rfl _ _ _) rfl ?_
      have hd0 : decide (n = 0) = false := decide_eq_false h0
      have hx := Hfin.out (w.setCell ⟨g, 3, none⟩ (.int .i64 n)) ((But.refl _ _).setCell (by simp) _) (by rw [hd0, show max n (-1) = n by omega]; exact K1.out.set_ 3 _)
      rw [hd0] at hx
      exact ⟨rfl, hx, (But.refl _ _).setCell (by simp) _⟩
set_option maxRecDepth 100000 in
theorem rfNew : Calls Tryd.prog 21 #[] w fun e w' => ∃ g, e = .returned (.pointer (some ⟨g, 0, none⟩)) ∧ RefT w' g g [] false false (-1) ∧ w.heap.size ≤ g ∧ Below w.heap.size w w' := by
  go_enter Tryd.func21, Tryd.ntmps21
  go_wp2
  go_ret
  have hk : Blk (w.alloc (.cells #[.slice none 0 0, .bool false, .bool false, .int .i64 (-1)] 68)) w.heap.size 68 (refV (.slice none 0 0) false false (-1)) := Blk.new w _ [.slice none 0 0, .bool false, .bool false, .int .i64 (-1)]
  exact ⟨w.heap.size, rfl, ⟨⟨none, 0, hk, World.ownsRow_nil _ _ _ _, fun q hq => by simp [Value.ownBlock] at hq⟩, by simp, List.Pairwise.nil, by omega, by omega, NB.blk hk (by decide), hk.lt⟩, Nat.le_refl _, (Below.refl _ _).alloc (Nat.le_refl _) _⟩
end
end Go.Proofs.YtmddgimadlmacaaDoor
/-! the document's disk: looks -/
namespace Go.Proofs.YtmddgimadlmacaaDoor
open Go.RowKit Garner

section
variable {w : World} {g fb : Nat} {rs : Files} {fl dn : Bool} {left : Int}
/-- the file at place i -/
theorem RefIs.at_ {O : Nat → Prop} (h : RefIs O w g fb rs fl dn left) {i : Nat} (hi : i < rs.length) : ∃ c, w.cell? ⟨g, 0, none⟩ = some (.slice (some ⟨fb, 0, none⟩) rs.length c) ∧ (rs.length : Int) ≤ (c : Int) ∧
    w.cell? ⟨fb, i * 3, none⟩ = some (.string (nmS rs[i].1)) ∧ w.cell? ⟨fb, i * 3 + 1, none⟩ = some (.slice rs[i].2.A rs[i].2.data.length rs[i].2.c) ∧ w.cell? ⟨fb, i * 3 + 2, none⟩ = some (.int .i64 rs[i].2.synced) ∧ (∀ k, w.frozen? ⟨fb, k, none⟩ = false) := by
  obtain ⟨A, c, h1, h2, h3⟩ := h.own
  rcases h2.2 with ⟨e, h0⟩ | ⟨q, cap, cur, e, _, hh, hc, _, hcs, hpre⟩
  · omega
  · injection e with e1 e2 e3
    subst e1; subst e3
    obtain rfl := h3 q rfl
    have hcell : ∀ j, j < 3 → w.cell? ⟨q, i * 3 + j, none⟩ = (rfV rs[i])[j]? := fun j hj => by
      rw [← rfCells_at rs i j hi hj]
      have hjl : i * 3 + j < (rfCells rs).length := by rw [rfCells_len]; omega
      have h5 := h2.cells (g := q) rfl (i * 3 + j) _ (List.getElem?_eq_getElem hjl)
      rw [addr_add, Nat.zero_add] at h5
      rw [h5, List.getElem?_eq_getElem hjl]
    refine ⟨c, h1.cell 0, by omega, hcell 0 (by omega), hcell 1 (by omega), hcell 2 (by omega), fun k => ?_⟩
    simp [World.frozen?, hh]
end
def rdData (nm : Bs) (rs : Files) : Bs := ((aget nm rs).map (·.data)).getD []
def rdNo (nm : Bs) (rs : Files) : Nat := if (aget nm rs).isSome then 0 else 21
theorem rd_n {nm : Bs} {rs : Files} (h : aget nm rs = none) : rdData nm rs = [] ∧ rdNo nm rs = 21 := by unfold rdData rdNo; rw [h]; exact ⟨rfl, rfl⟩
theorem rd_s {nm : Bs} {rs : Files} {e : FileE} (h : aget nm rs = some e) : rdData nm rs = e.data ∧ rdNo nm rs = 0 := by unfold rdData rdNo; rw [h]; exact ⟨rfl, rfl⟩
section
variable (nm : Bs) (g fb : Nat) (rs : Files) (fl dn : Bool) (left : Int) (w : World)
set_option maxRecDepth 100000 in
set_option maxHeartbeats 1000000 in
/-- Read where it is refused -/
theorem rfRead_no (h : RefT w g fb rs fl dn left) (hl : (nmS nm).size ≤ 140737488355328) (h0 : dmay [nmS nm] dn ≠ 0) :
    Calls Tryd.prog 47 #[.pointer (some ⟨g, 0, none⟩), .string (nmS nm)] w fun e w' => e = .returned (.tuple #[.slice none 0 0, .int .i64 (dmay [nmS nm] dn)]) ∧ Below w.heap.size w w' := by
  obtain ⟨A, c, k1, _, _⟩ := h.own
  cases hn : nameOk (nmS nm) with
  | false =>
    have e1 : dmay [nmS nm] dn = 1 := by unfold dmay; simp [hn]
    rw [e1]
    clear h0 e1 h
    go_enter Tryd.func47, Tryd.ntmps47
    go_wp2_with fail
    refine (rName (nmS nm) w hl).mono ?_
    rintro e w1 ⟨rfl, hb1⟩
    rw [hn]
    go_wp2
    go_ret2
    exact ⟨rfl, hb1⟩
  | true =>
    have hdn : dn = true := by
      cases dn with
      | true => rfl
      | false => exact absurd (by unfold dmay; simp [hn]) h0
    subst hdn
    have e1 : dmay [nmS nm] true = 23 := by unfold dmay; simp [hn]
    rw [e1]
    clear h0 e1 h
    go_enter Tryd.func47, Tryd.ntmps47
    go_wp2_with fail
    refine (rName (nmS nm) w hl).mono ?_
    rintro e w1 ⟨rfl, hb1⟩
    rw [hn]
    have c2 := (k1.below hb1 k1.lt).cell 2
    clear k1
    go_wp2
    go_ret2
    exact ⟨rfl, hb1⟩
set_option maxRecDepth 100000 in
set_option maxHeartbeats 1000000 in
theorem rfRead_ok (h : RefT w g fb rs fl dn left) (hl : (nmS nm).size ≤ 140737488355328) (hrl : rs.length ≤ 140737488355328) (h0 : dmay [nmS nm] dn = 0) :
    Calls Tryd.prog 47 #[.pointer (some ⟨g, 0, none⟩), .string (nmS nm)] w fun e w' => (∃ A c, e = .returned (.tuple #[.slice A (rdData nm rs).length c, .int .i64 (rdNo nm rs : Nat)]) ∧ Bytes w' w'.heap.size A (rdData nm rs).length (rdData nm rs) ∧ (rdData nm rs).length ≤ c) ∧ Below w.heap.size w w' := by
  have hn : nameOk (nmS nm) = true := by
    cases hn : nameOk (nmS nm) with
    | true => rfl
    | false => unfold dmay at h0; simp [hn] at h0
  have hdn : dn = false := by
    cases dn with
    | false => rfl
    | true => unfold dmay at h0; simp [hn] at h0
  subst hdn
  clear h0
  go_enter Tryd.func47, Tryd.ntmps47
  go_wp2_with fail
  refine (rName (nmS nm) w hl).mono ?_
  rintro e w1 ⟨rfl, hb1⟩
  rw [hn]
  have h1 := h.below hb1
  obtain ⟨A, c, k1, hr1, _, _⟩ := h1.ex
  have c2 := k1.cell 2
  clear h
  go_wp2_with fail
  refine (rFind nm g rs A c fl false left w1 k1 hr1 hrl).mono ?_
  rintro e w2 ⟨rfl, rfl⟩
  cases hok : (rfind nm rs).2 with
  | false =>
    have hag := Lib.hid (rfind_none nm rs h1.asc hok)
    clear k1 hr1 c2
    go_wp2
    go_ret2
    refine ⟨?_, hb1⟩
    rw [(rd_n hag.out).1, (rd_n hag.out).2]
    exact ⟨none, 0, rfl, Row.none_, Nat.le_refl _⟩
  | true =>
    obtain ⟨e, hag, hat⟩ := rfind_get nm rs hok
    have hlt := rfind_lt hok
    obtain ⟨c', d0, hcc, _, d1, _, _⟩ := h1.at_ hlt
    have hfe : rs[(rfind nm rs).1] = (nm, e) := by rw [List.getElem?_eq_getElem hlt] at hat; exact Option.some.inj hat
    have hfo := h1.files (nm, e) (by rw [← hfe]; exact List.getElem_mem hlt)
    rw [hfe] at d1
    have Hag := Lib.hid hag
    obtain ⟨i, hi⟩ : ∃ i, i = (rfind nm rs).1 := ⟨_, rfl⟩
    rw [← hi] at d1 hlt ⊢
    have hlt' : (i : Int) < (rs.length : Int) := by omega
    clear k1 hr1 c2 hat hfe hag hi hok
    go_wp2
    go_ret2
    refine ⟨?_, hb1⟩
    rw [(rd_s Hag.out).1, (rd_s Hag.out).2]
    exact ⟨e.A, e.c, rfl, hfo.row, hfo.cap⟩
end
end Go.Proofs.YtmddgimadlmacaaDoor
/-! the disk's Clone -/
namespace Go.Proofs.YtmddgimadlmacaaDoor
open Go.RowKit Garner
theorem perm_map {α β : Type} {f : α → β} {m l' : List β} (h : m.Perm l') : ∀ {l : List α}, l.map f = m → ∃ l2, l.Perm l2 ∧ l2.map f = l' := by
  induction h with
  | nil => intro l e; exact ⟨l, List.Perm.refl _, e⟩
  | cons x _ ih =>
    intro l e
    match l, e with
    | a :: t, e =>
      simp only [List.map_cons, List.cons.injEq] at e
      obtain ⟨l2, h1, h2⟩ := ih e.2
      exact ⟨a :: l2, h1.cons a, by rw [List.map_cons, h2, e.1]⟩
  | swap x y l0 =>
    intro l e
    match l, e with
    | a :: b :: t, e =>
      simp only [List.map_cons, List.cons.injEq] at e
      exact ⟨b :: a :: t, List.Perm.swap _ _ _, by rw [List.map_cons, List.map_cons, e.1, e.2.1, e.2.2]⟩
  | trans _ _ ih1 ih2 =>
    intro l e
    obtain ⟨l2, h1, h2⟩ := ih1 e
    obtain ⟨l3, h3, h4⟩ := ih2 h2
    exact ⟨l3, h1.trans h3, h4⟩
theorem aput_new {ν : Type} {a : Bs} {v : ν} : ∀ {l : List (Bs × ν)}, a ∉ l.map (·.1) → aput a v l = l ++ [(a, v)]
  | [], _ => rfl
  | (k, u) :: r, h => by
    simp only [List.map_cons, List.mem_cons, not_or] at h
    unfold aput
    rw [if_neg h.1, aput_new h.2]
    rfl
section
variable (g mp : Nat) (es : Files) (fl dn : Bool) (left : Int) (O : Nat → Prop) (w : World)
structure DcS (w0 : World) (g mp : Nat) (al : List (Bs × Value)) (fl dn : Bool) (left : Int) (es' : Files) (w' : World) : Prop where
  d : DiskIs (fun b => w0.heap.size + 3 ≤ b) w' (w0.heap.size + 1) w0.heap.size es' fl dn left
  b : Below w0.heap.size w0 w'
end
end Go.Proofs.YtmddgimadlmacaaDoor
