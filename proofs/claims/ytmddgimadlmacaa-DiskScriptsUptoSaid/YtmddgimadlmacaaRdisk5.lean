import Derived.Test.YtmddgimadlmacaaRdisk4
/-! the document's disk: what changes no files -/
namespace Go.Proofs.Ytmddgimadlmacaa
open Go.RowKit Garner

/-- the document's disk, its files' bytes in blocks of bytes -/
abbrev RefT (w : World) (g fb : Nat) (rs : Files) (fl dn : Bool) (left : Int) : Prop := RefIs (fun _ => True) w g fb rs fl dn left
section
variable {w w' : World} {g fb : Nat} {rs : Files} {fl dn : Bool} {left : Int}
theorem RefIs.glt {O : Nat → Prop} (h : RefIs O w g fb rs fl dn left) : g < w.heap.size ∧ NB w g := by
  obtain ⟨A, c, h1, _⟩ := h.own
  exact ⟨h1.lt, NB.blk h1 (by decide)⟩
/-- other blocks written -/
theorem RefIs.butT {O : Nat → Prop} {S : List Nat} (h : RefIs O w g fb rs fl dn left) (hb : But S w w') (hg : g ∉ S) (hf : fb ∉ S) (hS : ∀ k ∈ S, NB w k ∨ w.heap.size ≤ k) : RefIs O w' g fb rs fl dn left := by
  obtain ⟨A, c, h1, h2, h3⟩ := h.own
  exact ⟨⟨A, c, h1.but hb hg, own_but h2 hb (fun q hq => by rw [h3 q hq]; exact hf), h3⟩, fun p hp => (h.files p hp).butT hb hS, h.asc, h.lo, h.hi, h.nb.but hb h.lt hf, Nat.lt_of_lt_of_le h.lt hb.size⟩
theorem RefIs.below {O : Nat → Prop} (h : RefIs O w g fb rs fl dn left) (hb : Below w.heap.size w w') : RefIs O w' g fb rs fl dn left :=
  h.butT (S := []) (But.of_below hb) (by simp) (by simp) (by simp)
/-- its own box written, the files' row left -/
theorem RefIs.box {O : Nat → Prop} {fl' dn' : Bool} {left' : Int} (h : RefIs O w g fb rs fl dn left) (hb : But [g] w w') (hk : ∀ F, w.cell? ⟨g, 0, none⟩ = some F → Blk w' g 77 (refV F fl' dn' left')) (h1 : -1 ≤ left') (h2 : left' ≤ 9223372036854775807) : RefIs O w' g fb rs fl' dn' left' := by
  obtain ⟨A, c, k1, k2, k3⟩ := h.own
  have hk' := hk _ (k1.cell 0)
  have hne : g ∉ (Value.slice A rs.length c).ownBlock.toList := own_blk k2 k1 (by decide)
  have hnb := h.glt.2
  refine ⟨⟨A, c, hk', own_but k2 hb (fun q hq hm => by simp only [List.mem_cons, List.not_mem_nil, or_false] at hm; subst hm; exact hne (by rw [hq]; simp)), k3⟩, fun p hp => (h.files p hp).butT hb (fun k hk => by simp only [List.mem_cons, List.not_mem_nil, or_false] at hk; subst hk; exact Or.inl hnb), h.asc, h1, h2, ?_, Nat.lt_of_lt_of_le h.lt hb.size⟩
  by_cases e : fb = g
  · rw [e]; exact NB.blk hk' (by decide)
  · exact h.nb.but hb h.lt (by simp only [List.mem_cons, List.not_mem_nil, or_false]; exact e)
theorem rfChange (a b : ByteArray) (hla : a.size ≤ 140737488355328) (hlb : b.size ≤ 140737488355328) (h : RefT w g fb rs fl dn left) :
    Calls Try.prog 83 #[.pointer (some ⟨g, 0, none⟩), .string a, .string b] w fun e w' => e = .returned (.int .i64 (dmay [a, b] dn)) ∧ RefT w' g fb rs fl (chgD [a, b] dn left) (chgL [a, b] dn left) ∧ But [g] w w' := by
  obtain ⟨A, c, k1, _, _⟩ := h.own
  have hlo := h.lo; have hhi := h.hi
  refine (rChange a b g _ fl dn left w k1 hlo hhi hla hlb).mono ?_
  rintro e w' ⟨rfl, hk, hb⟩
  refine ⟨rfl, h.box hb (fun F hF => ?_) ?_ ?_, hb⟩
  · rw [k1.cell 0] at hF
    have : F = _ := (Option.some.inj hF).symm
    rw [this]; exact hk
  · unfold chgL armed; split <;> (try split) <;> omega
  · unfold chgL armed; split <;> (try split) <;> omega
end
/-- the document's disk as plain data -/
structure RefD (w : World) (g fb : Nat) (d : AD) : Prop where
  ex : ∃ rs, RefT w g fb rs d.fl d.dn d.left ∧ rs.abs = d.fs
section
variable {w w' : World} {g fb : Nat} {d : AD}
theorem RefD.below (h : RefD w g fb d) (hb : Below w.heap.size w w') : RefD w' g fb d := by
  obtain ⟨rs, h1, h2⟩ := h.ex
  exact ⟨rs, h1.below hb, h2⟩
theorem RefD.butT {S : List Nat} (h : RefD w g fb d) (hb : But S w w') (hg : g ∉ S) (hf : fb ∉ S) (hS : ∀ k ∈ S, NB w k ∨ w.heap.size ≤ k) : RefD w' g fb d := by
  obtain ⟨rs, h1, h2⟩ := h.ex
  exact ⟨rs, h1.butT hb hg hf hS, h2⟩
theorem RefD.lts (h : RefD w g fb d) : g < w.heap.size ∧ fb < w.heap.size ∧ NB w g ∧ NB w fb := by
  obtain ⟨rs, h1, _⟩ := h.ex
  exact ⟨h1.glt.1, h1.lt, h1.glt.2, h1.nb⟩
end
theorem rfind_abs (nm : Bs) : ∀ rs : Files, rfind nm rs.abs = rfind nm rs
  | [] => rfl
  | p :: rs => by
    have ih := rfind_abs nm rs
    simp only [Files.abs, List.map_cons, rfind]
    rw [show rfind nm (rs.map fun p => (p.1, (p.2.data, p.2.synced))) = rfind nm rs from ih]
section
variable (nm : Bs) (g fb : Nat) (rs : Files) (fl dn : Bool) (left : Int) (w : World)
set_option maxRecDepth 100000 in
set_option maxHeartbeats 1000000 in
theorem rfFill (b : Bool) (h : RefT w g fb rs fl dn left) :
    Calls Try.prog 37 #[.pointer (some ⟨g, 0, none⟩), .bool b] w fun e w' => e = .returned (.tuple #[]) ∧ RefT w' g fb rs b dn left ∧ But [g] w w' := by
  obtain ⟨A, c, k1, _, _⟩ := h.own
  have c1 := k1.cell 1; have f1 := k1.frozen 1
  have hset : But [g] w (w.setCell ⟨g, 1, none⟩ (.bool b)) := (But.refl _ _).setCell (by simp) _
  have hk := k1.set_ 1 (.bool b)
  have c0 := k1.cell 0
  have hres : RefT (w.setCell ⟨g, 1, none⟩ (.bool b)) g fb rs b dn left := h.box hset (fun F hF => by
    rw [c0] at hF
    have : F = _ := (Option.some.inj hF).symm
    rw [this]; exact hk) h.lo h.hi
  clear hk c0 h k1
  go_enter Try.func37, Try.ntmps37
  go_wp2
  refine bodyPost_end (results_none rfl _ _ _) rfl ?_
  exact ⟨rfl, hres, hset⟩
set_option maxRecDepth 100000 in
set_option maxHeartbeats 1000000 in
theorem rfArm_no (n : Int) (h : RefT w g fb rs fl true left) :
    Calls Try.prog 36 #[.pointer (some ⟨g, 0, none⟩), .int .i64 n] w fun e w' => e = .returned (.tuple #[]) ∧ w' = w := by
  obtain ⟨A, c, k1, _, _⟩ := h.own
  have c2 := k1.cell 2
  clear h k1
  go_enter Try.func36, Try.ntmps36
  go_wp2
  refine bodyPost_ret (results_none rfl _ _ _) rfl ?_
  exact ⟨rfl, rfl⟩
set_option maxRecDepth 100000 in
set_option maxHeartbeats 1000000 in
theorem rfArm_ok (n : Int) (hn2 : n ≤ 9223372036854775807) (h : RefT w g fb rs fl false left) :
    Calls Try.prog 36 #[.pointer (some ⟨g, 0, none⟩), .int .i64 n] w fun e w' => e = .returned (.tuple #[]) ∧ RefT w' g fb rs fl (decide (n = 0)) (max n (-1)) ∧ But [g] w w' := by
  obtain ⟨A, c, k1, _, _⟩ := h.own
  have c2 := k1.cell 2; have f2 := k1.frozen 2; have c3 := k1.cell 3; have f3 := k1.frozen 3
  have c0 := k1.cell 0
  have hfin : ∀ (w' : World), But [g] w w' → Blk w' g 77 (refV (.slice A rs.length c) fl (decide (n = 0)) (max n (-1))) → RefT w' g fb rs fl (decide (n = 0)) (max n (-1)) := fun w' hb hk => h.box hb (fun F hF => by
    rw [c0] at hF
    have : F = _ := (Option.some.inj hF).symm
    rw [this]; exact hk) (by omega) (by omega)
  have Hfin := Lib.hid hfin
  have K1 := Lib.hid k1
  clear hfin c0 h k1
  by_cases hlt : n < 0
  · have d1 := decide_eq_true hlt
    have d2 : (n == 0) = false := by rw [beq_eq_false_iff_ne]; omega
    go_enter Try.func36, Try.ntmps36
    go_wp2
    refine bodyPost_end (results_none rfl _ _ _) rfl ?_
    refine ⟨rfl, Hfin.out _ ?_ ?_, ?_⟩
    · exact (((But.refl _ _).setCell (by simp) _).setCell (by simp) _)
    · rw [decide_eq_false (by omega), show max n (-1) = -1 by omega]
      exact (K1.out.set_ 3 _).set_ 3 _
    · exact (((But.refl _ _).setCell (by simp) _).setCell (by simp) _)
  · have d1 := decide_eq_false hlt
    by_cases h0 : n = 0
    · subst h0
      go_enter Try.func36, Try.ntmps36
      go_wp2
      refine bodyPost_end (results_none rfl _ _ _) rfl ?_
      refine ⟨rfl, Hfin.out _ ?_ ?_, ?_⟩
      · exact (((But.refl _ _).setCell (by simp) _).setCell (by simp) _)
      · exact (K1.out.set_ 3 _).set_ 2 _
      · exact (((But.refl _ _).setCell (by simp) _).setCell (by simp) _)
    · have d2 : (n == 0) = false := by rw [beq_eq_false_iff_ne]; omega
      go_enter Try.func36, Try.ntmps36
      go_wp2
      refine bodyPost_end (results_none rfl _ _ _) rfl ?_
      have hd0 : decide (n = 0) = false := decide_eq_false h0
      have hx := Hfin.out (w.setCell ⟨g, 3, none⟩ (.int .i64 n)) ((But.refl _ _).setCell (by simp) _) (by rw [hd0, show max n (-1) = n by omega]; exact K1.out.set_ 3 _)
      rw [hd0] at hx
      exact ⟨rfl, hx, (But.refl _ _).setCell (by simp) _⟩
set_option maxRecDepth 100000 in
theorem rfNew : Calls Try.prog 29 #[] w fun e w' => ∃ g, e = .returned (.pointer (some ⟨g, 0, none⟩)) ∧ RefT w' g g [] false false (-1) ∧ w.heap.size ≤ g ∧ Below w.heap.size w w' := by
  go_enter Try.func29, Try.ntmps29
  go_wp2
  go_ret
  have hk : Blk (w.alloc (.cells #[.slice none 0 0, .bool false, .bool false, .int .i64 (-1)] 77)) w.heap.size 77 (refV (.slice none 0 0) false false (-1)) := Blk.new w _ [.slice none 0 0, .bool false, .bool false, .int .i64 (-1)]
  exact ⟨w.heap.size, rfl, ⟨⟨none, 0, hk, World.ownsRow_nil _ _ _ _, fun q hq => by simp [Value.ownBlock] at hq⟩, by simp, List.Pairwise.nil, by omega, by omega, NB.blk hk (by decide), hk.lt⟩, Nat.le_refl _, (Below.refl _ _).alloc (Nat.le_refl _) _⟩
end
end Go.Proofs.Ytmddgimadlmacaa
