import Derived.Test.YtmalkgakdmghiaaPa31
/-! layer 11: Sort at short rows, Compact, Or -/
namespace Go.Proofs.Ytmalkgakdmghiaa
open Go.RowKit Go.Shelf Go.Lib Go.Sort Garner

set_option maxRecDepth 100000 in
set_option maxHeartbeats 4000000 in
theorem vPdqS (xs : List Nat) (A : Option Addr) (c B : Nat) (w : World) (z : Int) (ho : OwnU w B (.slice A xs.length c) xs) (hl : xs.length ≤ 12) :
    Calls Try.prog 39 #[.slice A xs.length c, .int .i64 0, .int .i64 xs.length, .int .i64 z] w fun e w' => e = .returned (.tuple #[]) ∧ OwnU w' B (.slice A xs.length c) (insAll (xs.length - 1) xs) ∧ But (Value.slice A xs.length c).ownBlock.toList w w' := by
  have w1 : IntKind.i64.wrap (xs.length : Int) = (xs.length : Int) := by rw [IntKind.wrap_i64]; omega
  have l1 : (xs.length : Int) ≤ 12 := by omega
  go_enter Try.func39, Try.ntmps39
  go_wp2_with fail
  refine wp_loop_rounds 1 ?_
  rw [rounds_succ]
  go_wp2_with fail
  refine (vIns xs A c B w ho (by omega)).mono ?_
  rintro e w' ⟨rfl, h1, h2⟩
  go_wp2
  exact bodyPost_ret (results_none rfl _ _ _) rfl ⟨rfl, h1, h2⟩
set_option maxRecDepth 100000 in
set_option maxHeartbeats 4000000 in
theorem vSortS (xs : List Nat) (A : Option Addr) (c B : Nat) (w : World) (ho : OwnU w B (.slice A xs.length c) xs) (hl : xs.length ≤ 12) :
    Calls Try.prog 27 #[.slice A xs.length c] w fun e w' => e = .returned (.tuple #[]) ∧ OwnU w' B (.slice A xs.length c) (insAll (xs.length - 1) xs) ∧ But (Value.slice A xs.length c).ownBlock.toList w w' := by
  have w1 : IntKind.u64.wrap (xs.length : Int) = (xs.length : Int) := by rw [IntKind.wrap_u64]; omega
  go_enter Try.func27, Try.ntmps27
  go_wp2_with fail
  refine (Try.bits_Len (xs.length : Int) w (by omega) (by omega)).mono ?_
  rintro e w1 ⟨rfl, rfl⟩
  go_wp2_with fail
  refine (vPdqS xs A c B w1 _ ho hl).mono ?_
  rintro e w' ⟨rfl, h1, h2⟩
  go_wp2
  go_end0
  exact ⟨rfl, h1, h2⟩

theorem eqU (P : Program) (T : TypeId) : EqlAt P T u64v (fun x y => decide (x = y)) :=
  ⟨fun x y w => by
    have h : (binOp .eql T (u64v x) (u64v y)).run P w = .ok (.bool (decide ((x : Int) = (y : Int)))) w := (EqlAt.intD P T .u64).1 (x : Int) (y : Int) w
    rw [show decide ((x : Int) = (y : Int)) = decide (x = y) from decide_eq_decide.2 Int.ofNat_inj] at h
    exact h, fun op a b x y w => (EqlAt.intD P T .u64).2 op a b (x : Int) (y : Int) w⟩
theorem neU (P : Program) (T : TypeId) : NeqAt P T u64v (fun x y => decide (x = y)) :=
  ⟨fun x y w => by
    have h : (binOp .neq T (u64v x) (u64v y)).run P w = .ok (.bool (!decide ((x : Int) = (y : Int)))) w := (NeqAt.intD P T .u64).1 (x : Int) (y : Int) w
    rw [show decide ((x : Int) = (y : Int)) = decide (x = y) from decide_eq_decide.2 Int.ofNat_inj] at h
    exact h, fun op a b x y w => (NeqAt.intD P T .u64).2 op a b (x : Int) (y : Int) w⟩
/-- what slices.Compact leaves -/
def cmpL (l : List Nat) : List Nat := compactUpTo l.toArray l.length
theorem cmpL_le (l : List Nat) : (cmpL l).length ≤ l.length := by
  unfold cmpL compactUpTo
  rw [List.length_map]
  exact Nat.le_trans (List.length_filter_le _ _) (by rw [List.length_range]; exact Nat.le_refl _)
theorem vCompact (l : List Nat) (c B g : Nat) (w : World) (ho : OwnU w B (.slice (some ⟨g, 0, none⟩) l.length c) l) (hl : l.length ≤ 35184372088832) :
    Calls Try.prog 28 #[.slice (some ⟨g, 0, none⟩) l.length c] w fun e w' => e = .returned (.slice (some ⟨g, 0, none⟩) (cmpL l).length c) ∧ OwnU w' B (.slice (some ⟨g, 0, none⟩) (cmpL l).length c) (cmpL l) ∧ But [g] w w' := by
  have h := AnyE.slices_Compact Try.eCompact u64v (fun _ => rfl) (eqU _ _) (neU _ _) 0 Try.zeroValue31 g 0 c l.toArray w (holds_own ho rfl) (by simp; omega) (by obtain ⟨_, _, e, h⟩ := own_form ho; cases e; simpa using h)
  change Calls Try.prog 28 _ _ _ at h
  refine h.mono ?_
  rintro e w' ⟨rfl, q, rfl⟩
  have hsz : (l.toArray).size = l.length := by simp
  have hle := cmpL_le l
  rw [show compactUpTo l.toArray l.toArray.size = cmpL l from rfl]
  obtain ⟨h1, h2⟩ := own_put (q := q) (l := cmpL l ++ List.replicate (l.toArray.size - (cmpL l).length) 0) ho (by simp; omega)
  refine ⟨rfl, ?_, h2⟩
  have h3 := own_cut h1 hle
  rw [List.map_append, List.take_left' (by simp)] at h3
  exact h3

/-- the numbers of some short lists, sorted, each once -/
def orS (l : List Nat) : List Nat := cmpL (insAll (l.length - 1) l)
set_option maxRecDepth 100000 in
set_option maxHeartbeats 4000000 in
theorem vOrS (ls : List SlU) (A : Option Addr) (c B : Nat) (w : World) (hr : Row w B 1 A ls.length (ls.map SlU.v)) (hB : B ≤ w.heap.size) (hs : ∀ p ∈ ls, Row w B 1 p.1 p.2.2.length (p.2.2.map u64v)) (hl : (catU ls).length ≤ 12) (h0 : 0 < (catU ls).length) (hn : ls.length ≤ 1000) :
    Calls Try.prog 12 #[.slice A ls.length c] w fun e w' => ∃ v, e = .returned v ∧ OwnU w' w.heap.size v (orS (catU ls)) ∧ Below w.heap.size w w' := by
  obtain ⟨l, hL⟩ : ∃ l, l = catU ls := ⟨_, rfl⟩
  have HL := Lib.hid hL
  rw [← hL] at hl h0 ⊢
  clear hL
  go_enter Try.func12, Try.ntmps12
  go_wp2_with fail
  refine (vConcat ls A c B w hr hB hs (by rw [← HL.out]; omega) (by omega)).mono ?_
  rintro e w1 ⟨v1, rfl, own1, hb1⟩
  rw [← HL.out] at own1
  obtain ⟨A1, c1, rfl, -⟩ := own_form own1
  obtain ⟨g, rfl, hg1, -, -, -, -⟩ := own_at own1 h0
  go_wp2_with fail
  refine (vSortS l _ c1 w.heap.size w1 own1 hl).mono ?_
  rintro e w2 ⟨rfl, own2, hbut2⟩
  have hb2 : Below w.heap.size w w2 := hb1.trans (hbut2.below hb1.size (by simp [Value.ownBlock]; omega))
  obtain ⟨m, hm⟩ : ∃ m, m = insAll (l.length - 1) l := ⟨_, rfl⟩
  have hml : l.length = m.length := by rw [hm, insAll_len]
  have hor : orS l = cmpL m := by rw [hm]; rfl
  rw [← hm] at own2
  have Hor := Lib.hid hor; clear hor
  have own2' : OwnU w2 w.heap.size (.slice (some ⟨g, 0, none⟩) m.length c1) m := by unfold OwnU; rw [← hml]; unfold OwnU at own2; rw [← hml] at own2; exact own2
  clear hm own2
  have Hml := Lib.hid hml
  rw [hml]
  clear hml
  go_wp2_with fail
  refine (vCompact m c1 w.heap.size g w2 own2' (by have := Hml.out; omega)).mono ?_
  rintro e w3 ⟨rfl, own3, hbut3⟩
  go_wp2
  go_ret
  exact ⟨_, rfl, by rw [Hor.out]; exact own3, hb2.trans (hbut3.below hb2.size (by simp; omega))⟩
end Go.Proofs.Ytmalkgakdmghiaa
