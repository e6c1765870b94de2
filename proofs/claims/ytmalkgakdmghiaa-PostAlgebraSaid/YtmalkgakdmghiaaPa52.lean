import Derived.Test.YtmalkgakdmghiaaPa40
import Derived.Test.YtmalkgakdmghiaaPa51
/-! PostAlgebra: the calls -/
namespace Go.Proofs.Ytmalkgakdmghiaa
open Go.RowKit Go.Shelf Go.Lib Go.Sort Garner

theorem row_own {w : World} {B c : Nat} {A : Option Addr} {l : List Nat} (h : OwnU w B (.slice A l.length c) l) : Row w w.heap.size 1 A l.length (l.map u64v) := Row.of_own h

theorem cOr1 (A0 : Option Addr) (c0 : Nat) (l0 : List Nat) (B : Nat) (w : World) (h0 : Row w B 1 A0 l0.length (l0.map u64v)) (hB : B ≤ w.heap.size) (n0 : l0.length ≤ 35184372088832) :
    Calls Try.prog 12 #[.slice (some ⟨w.heap.size, 0, none⟩) 1 1] (w.alloc (.cells #[.slice A0 l0.length c0] 22)) fun e w' => ∃ A c, e = .returned (.slice A (orP l0).length c) ∧ OwnU w' w.heap.size (.slice A (orP l0).length c) (orP l0) ∧ Below w.heap.size w w' := by
  have h := vOrG [(A0, c0, l0)] (some ⟨w.heap.size, 0, none⟩) 1 (w.heap.size + 1) (w.alloc (.cells #[.slice A0 l0.length c0] 22)) (row_new w 22 [(.slice A0 l0.length c0)]) (by simp) (fun p hp => by rw [List.mem_singleton.1 hp]; exact (h0.alloc hB _).more (by omega)) (by simp [catU]; omega) (by simp)
  refine h.mono ?_
  rintro e w' ⟨v, rfl, own, hb⟩
  have own' : OwnU w' w.heap.size v (orP l0) := by
    have := own_mono own (B' := w.heap.size) (by simp)
    simpa [catU] using this
  obtain ⟨A, c, rfl, -⟩ := own_form own'
  exact ⟨A, c, rfl, own', ((Below.refl _ _).alloc (Nat.le_refl _) _).trans (hb.mono (by simp))⟩
theorem cOr2 (A0 A1 : Option Addr) (c0 c1 : Nat) (l0 l1 : List Nat) (B : Nat) (w : World) (h0 : Row w B 1 A0 l0.length (l0.map u64v)) (h1 : Row w B 1 A1 l1.length (l1.map u64v)) (hB : B ≤ w.heap.size) (n0 : l0.length + l1.length ≤ 35184372088832) :
    Calls Try.prog 12 #[.slice (some ⟨w.heap.size, 0, none⟩) 2 2] (w.alloc (.cells #[.slice A0 l0.length c0, .slice A1 l1.length c1] 22)) fun e w' => ∃ A c, e = .returned (.slice A (orP (l0 ++ l1)).length c) ∧ OwnU w' w.heap.size (.slice A (orP (l0 ++ l1)).length c) (orP (l0 ++ l1)) ∧ Below w.heap.size w w' := by
  have h := vOrG [(A0, c0, l0), (A1, c1, l1)] (some ⟨w.heap.size, 0, none⟩) 2 (w.heap.size + 1) (w.alloc (.cells #[.slice A0 l0.length c0, .slice A1 l1.length c1] 22)) (row_new w 22 [(.slice A0 l0.length c0), (.slice A1 l1.length c1)]) (by simp) (fun p hp => by
    rcases List.mem_cons.1 hp with rfl | hp
    · exact (h0.alloc hB _).more (by omega)
    · rw [List.mem_singleton.1 hp]; exact (h1.alloc hB _).more (by omega)) (by simp [catU]; omega) (by simp)
  refine h.mono ?_
  rintro e w' ⟨v, rfl, own, hb⟩
  have own' : OwnU w' w.heap.size v (orP (l0 ++ l1)) := by
    have := own_mono own (B' := w.heap.size) (by simp)
    simpa [catU] using this
  obtain ⟨A, c, rfl, -⟩ := own_form own'
  exact ⟨A, c, rfl, own', ((Below.refl _ _).alloc (Nat.le_refl _) _).trans (hb.mono (by simp))⟩
theorem cAnd2 (A0 A1 : Option Addr) (c0 c1 : Nat) (l0 l1 : List Nat) (B : Nat) (w : World) (h0 : Row w B 1 A0 l0.length (l0.map u64v)) (h1 : Row w B 1 A1 l1.length (l1.map u64v)) (hB : B ≤ w.heap.size) (n0 : l0.length ≤ 35184372088832) (n1 : l1.length ≤ 35184372088832) :
    Calls Try.prog 11 #[.slice (some ⟨w.heap.size, 0, none⟩) 2 2] (w.alloc (.cells #[.slice A0 l0.length c0, .slice A1 l1.length c1] 22)) fun e w' => ∃ A c, e = .returned (.slice A (andP l0 l1).length c) ∧ OwnU w' w.heap.size (.slice A (andP l0 l1).length c) (andP l0 l1) ∧ Below w.heap.size w w' := by
  have h := vAndG (A0, c0, l0) [(A1, c1, l1)] (some ⟨w.heap.size, 0, none⟩) 2 (w.heap.size + 1) (w.alloc (.cells #[.slice A0 l0.length c0, .slice A1 l1.length c1] 22)) (row_new w 22 [(.slice A0 l0.length c0), (.slice A1 l1.length c1)]) (by simp) (fun p hp => by
    rcases List.mem_cons.1 hp with rfl | hp
    · exact ⟨(h0.alloc hB _).more (by omega), n0⟩
    · rw [List.mem_singleton.1 hp]; exact ⟨(h1.alloc hB _).more (by omega), n1⟩) (by simp) (by simp)
  refine h.mono ?_
  rintro e w' ⟨v, rfl, own, hb⟩
  have own' : OwnU w' w.heap.size v (andP l0 l1) := own_mono own (B' := w.heap.size) (by simp)
  obtain ⟨A, c, rfl, -⟩ := own_form own'
  exact ⟨A, c, rfl, own', ((Below.refl _ _).alloc (Nat.le_refl _) _).trans (hb.mono (by simp))⟩
theorem cOr0 (w : World) :
    Calls Try.prog 12 #[.slice none 0 0] w fun e w' => ∃ A c, e = .returned (.slice A 0 c) ∧ Below w.heap.size w w' := by
  refine (vOrG [] none 0 w.heap.size w ⟨by simp, fun h => absurd h (by simp)⟩ (Nat.le_refl _) (fun p hp => by simp at hp) (by simp [catU]) (by simp)).mono ?_
  rintro e w' ⟨v, rfl, own, hb⟩
  obtain ⟨A, c, rfl, -⟩ := own_form own
  exact ⟨A, c, by rw [show catU [] = [] from rfl, orP_nil]; rfl, hb⟩

theorem own_none (w : World) {B : Nat} (h : B ≤ w.heap.size) : OwnU (w.alloc (.cells #[] 31)) B (.slice (some ⟨w.heap.size, 0, none⟩) 0 0) [] :=
  ⟨rfl, .inr ⟨w.heap.size, 0, #[], rfl, h, heap_alloc_new w _, Nat.le_refl _, by simp [maxLen], rfl, rfl⟩⟩
/-- append: what lay in the row, and all other rows, stay -/
theorem run_app3 {P : Program} {t e : TypeId} (ty : TypeId) (w : World) {bytes : Nat} {z : Value} (E : Elem P t e z 1 bytes) {base n c : Nat} {A : Option Addr} {l : List Nat}
    (hown : w.ownsRow base e 1 (.slice A n c) n (l.map u64v)) (hl : n = l.length) {B m c' : Nat} {A' : Option Addr} {news : List Nat} (hr : Row w B 1 A' m (news.map u64v)) (hm : 0 < m) (hbytes : (n + m) * bytes ≤ 140737488355328) (hbase : base ≤ w.heap.size) :
    ∃ A2 c2 w', (Builtin.append_ #[t, t] ty #[.slice A n c, .slice A' m c']).run P w = .ok (.slice A2 (n + m) c2) w' ∧ w'.ownsRow base e 1 (.slice A n c) n (l.map u64v) ∧ w.grownBy w' (Value.slice A n c).ownBlock ∧ Below base w w' := by
  obtain ⟨i, hi, hz, hsize, hby⟩ := info_parts E.info
  have h63 : n + m ≤ maxLen := by
    have := Nat.mul_le_mul_left (n + m) E.bpos
    simp only [maxLen]; omega
  have h63' : n + m ≤ 9223372036854775807 := by simp only [maxLen] at h63; omega
  obtain ⟨b, off, rfl, hbB, hcell⟩ := hr.2 hm
  have hlen : (news.map u64v).length = m * i.size := by rw [hsize]; exact hr.1
  have hcells : ∀ j u, (news.map u64v)[j]? = some u → w.cell? ((⟨b, off, none⟩ : Addr).add j) = some u := fun j u hu => by rw [addr_add]; exact hcell j u hu
  have fin : ∀ o : Obj, w.ownsRow base e 1 (.slice A n c) n (l.map u64v) → (w.drew.alloc o).ownsRow base e 1 (.slice A n c) n (l.map u64v) ∧ w.grownBy (w.drew.alloc o) (Value.slice A n c).ownBlock ∧ Below base w (w.drew.alloc o) := fun o h => by
    have hb : Below w.heap.size w (w.drew.alloc o) := (Below.refl _ _).drew.alloc (Nat.le_refl _) _
    exact ⟨own_below h hb, ⟨rfl, rfl, rfl, by simp, fun k hk _ => Go.heap_alloc_old w.drew _ hk⟩, hb.mono hbase⟩
  by_cases hroom : n + m ≤ c
  · rcases hown.2 with ⟨e1, h0⟩ | ⟨g, cap, cur, hv, -⟩
    · injection e1 with _ _ e3; omega
    · injection hv with e1 _ e3
      subst e1
      obtain ⟨w', hrun, own, hb, hg⟩ := run_fit (P := P) ty w E (c := c') hown hr hroom hbase
      refine ⟨_, _, w', hrun, ?_, hg, hb⟩
      have h3 := own_cut own (m := n) (by omega)
      rw [List.take_left' (by rw [List.length_map, hl])] at h3
      exact h3
  · rcases hown.2 with ⟨e1, h0⟩ | ⟨g, cap, cur, hv, -⟩
    · injection e1 with e1 e2 e3
      subst e1; subst e2; subst e3
      have hr1 := run_append_nil (P := P) w t ty e i z E.slice hi hz ⟨b, off, none⟩ m c' (news.map u64v) hlen hcells hm (by omega) (by rw [hby]; simp only [Nat.zero_add] at hbytes; omega)
      rw [Nat.zero_add]
      exact ⟨_, _, _, hr1, (fin _ hown).1, (fin _ hown).2.1, (fin _ hown).2.2⟩
    · injection hv with e1 _ e3
      subst e1
      have hr1 := run_append_grow (P := P) w t ty e i z E.slice hi hz ⟨g, 0, none⟩ n c (l.map u64v) (by rw [hown.1, hsize]) (hown.cells (g := g) rfl) ⟨b, off, none⟩ m c' (news.map u64v) hlen hcells (by omega) (by omega) (by rw [hby]; exact growslice_fits (by omega) hbytes)
      exact ⟨_, _, _, hr1, (fin _ hown).1, (fin _ hown).2.1, (fin _ hown).2.2⟩
/-- what stands while PostAlgebra asks -/
structure Pas (w : World) (g cF : Nat) (a : List Nat) (Ax : Option Addr) (cx : Nat) (X : List Nat) (Ay : Option Addr) (cy : Nat) (Y : List Nat) (wx : World) : Prop where
  bel : Below w.heap.size w wx
  full : OwnU wx w.heap.size (.slice (some ⟨g, 0, none⟩) (a.length + 1) cF) (a ++ [77])
  x : OwnU wx (g + 1) (.slice Ax X.length cx) X
  y : OwnU wx w.heap.size (.slice Ay Y.length cy) Y
theorem own_cutU {w : World} {B n c g : Nat} {l r : List Nat} (h : OwnU w B (.slice (some ⟨g, 0, none⟩) n c) (l ++ r)) : OwnU w B (.slice (some ⟨g, 0, none⟩) l.length c) l := by
  obtain ⟨A', c', e, hc⟩ := own_form h
  cases e
  have h3 := own_cut h (m := l.length) (by simp)
  rw [List.map_append, List.take_left' (by simp)] at h3
  exact h3
section
variable {w : World} {g cF : Nat} {a : List Nat} {Ax : Option Addr} {cx : Nat} {X : List Nat} {Ay : Option Addr} {cy : Nat} {Y : List Nat} {wx wy : World}
theorem Pas.step (h : Pas w g cF a Ax cx X Ay cy Y wx) (hb : Below wx.heap.size wx wy) : Pas w g cF a Ax cx X Ay cy Y wy :=
  ⟨h.bel.trans (hb.mono h.bel.size), own_below h.full hb, own_below h.x hb, own_below h.y hb⟩
theorem Pas.gsize (h : Pas w g cF a Ax cx X Ay cy Y wx) : g + 1 ≤ wx.heap.size := by
  have := own_ge h.full g (by simp [Value.ownBlock]); omega
theorem Pas.c77 (h : Pas w g cF a Ax cx X Ay cy Y wx) : wx.cell? ⟨g, a.length, none⟩ = some (.int .u64 77) := by
  have h1 := h.full
  have h2 : wx.ownsRow w.heap.size 31 1 (.slice (some ⟨g, 0, none⟩) (a.length + 1) cF) (a.length + 1) ((a ++ [77]).map u64v) := by simpa [OwnU] using h1
  obtain ⟨g', e, -, -, -, -, hc⟩ := own_at h2 (by omega)
  cases e
  rw [hc a.length (by omega)]
  simp [u64v]
end
end Go.Proofs.Ytmalkgakdmghiaa
