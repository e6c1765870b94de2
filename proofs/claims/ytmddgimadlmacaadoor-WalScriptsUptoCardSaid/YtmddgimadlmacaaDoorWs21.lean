import Derived.Test.YtmddgimadlmacaaDoorWs20
/-
  A disk as plain data, and what each call answers and leaves.
-/
namespace Garner
structure AD where
  fs : List (Bs × FileD)
  fl : Bool
  dn : Bool
  left : Int
def fget (nm : Bs) (fs : List (Bs × FileD)) : FileD := (aget nm fs).getD ([], 0)
def AD.new : AD := ⟨[], false, false, -1⟩
end Garner
namespace Go.Proofs.YtmddgimadlmacaaDoor
open Go.RowKit Garner

def AD.chg (d : AD) : AD := { d with dn := armedD d.left d.dn, left := armed d.left }
def aAppend (nm data : Bs) (d : AD) : Nat × AD :=
  if dmay [nmS nm] d.dn ≠ 0 then (dmay [nmS nm] d.dn, d)
  else if d.fl then (20, AD.chg d) else (0, { AD.chg d with fs := aput nm ((fget nm d.fs).1 ++ data, (fget nm d.fs).2) d.fs })
def aSync (nm : Bs) (d : AD) : Nat × AD :=
  if dmay [nmS nm] d.dn ≠ 0 then (dmay [nmS nm] d.dn, d)
  else match aget nm d.fs with
    | none => (21, AD.chg d)
    | some f => (0, { AD.chg d with fs := aput nm (f.1, f.1.length) d.fs })
def aDelete (nm : Bs) (d : AD) : Nat × AD :=
  if dmay [nmS nm] d.dn ≠ 0 then (dmay [nmS nm] d.dn, d)
  else match aget nm d.fs with
    | none => (21, AD.chg d)
    | some _ => (0, { AD.chg d with fs := adel nm d.fs })
def aRename (nm nm2 : Bs) (d : AD) : Nat × AD :=
  if dmay [nmS nm, nmS nm2] d.dn ≠ 0 then (dmay [nmS nm, nmS nm2] d.dn, d)
  else match aget nm d.fs with
    | none => (21, AD.chg d)
    | some f => (0, { AD.chg d with fs := aput nm2 f (adel nm d.fs) })
def aRead (nm : Bs) (d : AD) : Bs × Nat :=
  if dmay [nmS nm] d.dn ≠ 0 then ([], dmay [nmS nm] d.dn)
  else match aget nm d.fs with
    | none => ([], 21)
    | some f => (f.1, 0)
def aList (d : AD) : List Bs × Nat := if d.dn then ([], 23) else (sortN (d.fs.map (·.1)), 0)
def aFill (b : Bool) (d : AD) : AD := { d with fl := b }
def aArm (n : Int) (d : AD) : AD := if d.dn then d else { d with dn := decide (n = 0), left := max n (-1) }
def aRestart (keep : List Int) (d : AD) : AD := ⟨rst keep d.fs, false, false, -1⟩

/-- the disk d lies at g, mp; all that it has lies from base on -/
structure DiskA (base : Nat) (w : World) (g mp : Nat) (d : AD) : Prop where
  ex : ∃ es, DiskIs (fun b => base ≤ b) w g mp es d.fl d.dn d.left ∧ es.abs = d.fs
  hg : base ≤ g
  hm : base ≤ mp
  hb : base ≤ w.heap.size
section
variable {base g mp : Nat} {d : AD} {w w' : World}
theorem DiskA.below (h : DiskA base w g mp d) (hb : Below w.heap.size w w') : DiskA base w' g mp d := by
  obtain ⟨es, h1, h2⟩ := h.ex
  exact ⟨⟨es, h1.below hb, h2⟩, h.hg, h.hm, Nat.le_trans h.hb hb.size⟩
theorem DiskA.but {S : List Nat} (h : DiskA base w g mp d) (hb : But S w w') (hS : ∀ s ∈ S, w.heap.size ≤ s ∨ s < base) : DiskA base w' g mp d := by
  obtain ⟨es, h1, h2⟩ := h.ex
  have hg := h.hg; have hm := h.hm
  have h3 := h1.blk.lt; have h4 := MapIs.lt h1.map
  exact ⟨⟨es, h1.but hb (fun e => by have := hS _ e; omega) (fun e => by have := hS _ e; omega) (fun b hb1 hb2 e => by have := hS _ e; omega), h2⟩, h.hg, h.hm, Nat.le_trans h.hb hb.size⟩
theorem DiskA.lt (h : DiskA base w g mp d) : g < w.heap.size ∧ mp < w.heap.size := by
  obtain ⟨es, h1, _⟩ := h.ex
  exact ⟨h1.blk.lt, MapIs.lt h1.map⟩
theorem DiskA.down (h : DiskA base w g mp d) (hb : But [g, mp] w w') : Below base w w' := hb.below h.hb (fun k hk => by
  have h1 := h.hg; have h2 := h.hm
  simp only [List.mem_cons, List.not_mem_nil, or_false] at hk
  omega)
theorem fget_abs (nm : Bs) (es : Files) : fget nm es.abs = ((es.get nm).data, (es.get nm).synced) := by
  unfold fget Files.get
  rw [aget_abs]
  cases aget nm es <;> rfl
theorem aget_abs_none {nm : Bs} {es : Files} (h : aget nm es.abs = none) : aget nm es = none := by
  rw [aget_abs] at h
  cases he : aget nm es with
  | none => rfl
  | some e => rw [he] at h; cases h
theorem aget_abs_some {nm : Bs} {es : Files} {f : FileD} (h : aget nm es.abs = some f) : ∃ e, aget nm es = some e ∧ (e.data, e.synced) = f := by
  rw [aget_abs] at h
  cases he : aget nm es with
  | none => rw [he] at h; cases h
  | some e => rw [he] at h; exact ⟨e, rfl, by simpa using h⟩
theorem chg_eq {names : List ByteArray} {dn : Bool} {left : Int} (h : dmay names dn = 0) : chgD names dn left = armedD left dn ∧ chgL names dn left = armed left := by
  unfold chgD chgL; rw [if_pos h, if_pos h]; exact ⟨rfl, rfl⟩
end
section
variable (nm nm2 data : Bs) (A : Option Addr) (c B base g mp : Nat) (d : AD) (w : World)
theorem aAppend_calls (h : DiskA base w g mp d) (hr : Bytes w B A data.length data) (hB : B ≤ w.heap.size) (hl : (fget nm d.fs).1.length + data.length ≤ 140737488355328) :
    Calls Tryd.prog 10 #[.pointer (some ⟨g, 0, none⟩), .string (nmS nm), .slice A data.length c] w fun e w' => e = .returned (.int .i64 (aAppend nm data d).1) ∧ DiskA base w' g mp (aAppend nm data d).2 ∧ But [g, mp] w w' := by
  obtain ⟨es, h1, h2⟩ := h.ex
  obtain ⟨fs, fl, dn, left⟩ := d
  simp only at h1 h2
  subst h2
  simp only [aAppend]
  by_cases h0 : dmay [nmS nm] dn = 0
  · rw [if_neg (by simpa using h0)]
    obtain ⟨e1, e2⟩ := chg_eq (left := left) h0
    cases fl with
    | true =>
      refine (vAppend_full nm g mp es dn left _ w _ h1 h0).mono ?_
      rintro e w' ⟨rfl, hd, hb⟩
      rw [e1, e2] at hd
      exact ⟨rfl, ⟨⟨es, hd, rfl⟩, h.hg, h.hm, Nat.le_trans h.hb hb.size⟩, hb⟩
    | false =>
      simp only [fget_abs] at hl
      refine (vAppend_ok nm data A c B g mp es dn left _ w h1 h0 hr hB hl).mono ?_
      rintro e w' ⟨rfl, A', c', hd, hb⟩
      rw [e1, e2] at hd
      exact ⟨rfl, ⟨⟨_, hd.mono (fun b hb => by have := h.hb; omega), by rw [abs_aput]; simp only [fget_abs]; rfl⟩, h.hg, h.hm, Nat.le_trans h.hb hb.size⟩, hb⟩
  · rw [if_pos h0]
    refine (vAppend_no nm g mp es fl dn left _ w _ h1 h0).mono ?_
    rintro e w' ⟨rfl, hd, hb⟩
    exact ⟨rfl, ⟨⟨es, hd, rfl⟩, h.hg, h.hm, Nat.le_trans h.hb hb.size⟩, hb⟩
/-- refused ahead of the data: whatever is handed in -/
theorem aAppend_refused (V : Value) (h : DiskA base w g mp d) (h0 : dmay [nmS nm] d.dn ≠ 0) :
    Calls Tryd.prog 10 #[.pointer (some ⟨g, 0, none⟩), .string (nmS nm), V] w fun e w' => e = .returned (.int .i64 (dmay [nmS nm] d.dn)) ∧ DiskA base w' g mp d ∧ But [g, mp] w w' := by
  obtain ⟨es, h1, h2⟩ := h.ex
  refine (vAppend_no nm g mp es d.fl d.dn d.left _ w _ h1 h0).mono ?_
  rintro e w' ⟨rfl, hd, hb⟩
  exact ⟨rfl, ⟨⟨es, hd, h2⟩, h.hg, h.hm, Nat.le_trans h.hb hb.size⟩, hb⟩
theorem aSync_calls (h : DiskA base w g mp d) :
    Calls Tryd.prog 50 #[.pointer (some ⟨g, 0, none⟩), .string (nmS nm)] w fun e w' => e = .returned (.int .i64 (aSync nm d).1) ∧ DiskA base w' g mp (aSync nm d).2 ∧ But [g, mp] w w' := by
  obtain ⟨es, h1, h2⟩ := h.ex
  obtain ⟨fs, fl, dn, left⟩ := d
  simp only at h1 h2
  subst h2
  simp only [aSync]
  by_cases h0 : dmay [nmS nm] dn = 0
  · rw [if_neg (by simpa using h0)]
    obtain ⟨e1, e2⟩ := chg_eq (left := left) h0
    cases hn : aget nm es.abs with
    | none =>
      refine (vSync_none nm g mp es fl dn left _ w h1 h0 (aget_abs_none hn)).mono ?_
      rintro e w' ⟨rfl, hd, hb⟩
      rw [e1, e2] at hd
      exact ⟨rfl, ⟨⟨es, hd, rfl⟩, h.hg, h.hm, Nat.le_trans h.hb hb.size⟩, hb⟩
    | some f =>
      obtain ⟨old, ho, rfl⟩ := aget_abs_some hn
      refine (vSync_ok nm g mp es fl dn left _ w old h1 h0 ho).mono ?_
      rintro e w' ⟨rfl, hd, hb⟩
      rw [e1, e2] at hd
      exact ⟨rfl, ⟨⟨_, hd, by rw [abs_aput]⟩, h.hg, h.hm, Nat.le_trans h.hb hb.size⟩, hb⟩
  · rw [if_pos h0]
    refine (vSync_no nm g mp es fl dn left _ w h1 h0).mono ?_
    rintro e w' ⟨rfl, hd, hb⟩
    exact ⟨rfl, ⟨⟨es, hd, rfl⟩, h.hg, h.hm, Nat.le_trans h.hb hb.size⟩, hb⟩
theorem aDelete_calls (h : DiskA base w g mp d) :
    Calls Tryd.prog 35 #[.pointer (some ⟨g, 0, none⟩), .string (nmS nm)] w fun e w' => e = .returned (.int .i64 (aDelete nm d).1) ∧ DiskA base w' g mp (aDelete nm d).2 ∧ But [g, mp] w w' := by
  obtain ⟨es, h1, h2⟩ := h.ex
  obtain ⟨fs, fl, dn, left⟩ := d
  simp only at h1 h2
  subst h2
  simp only [aDelete]
  by_cases h0 : dmay [nmS nm] dn = 0
  · rw [if_neg (by simpa using h0)]
    obtain ⟨e1, e2⟩ := chg_eq (left := left) h0
    cases hn : aget nm es.abs with
    | none =>
      refine (vDelete_none nm g mp es fl dn left _ w h1 h0 (aget_abs_none hn)).mono ?_
      rintro e w' ⟨rfl, hd, hb⟩
      rw [e1, e2] at hd
      exact ⟨rfl, ⟨⟨es, hd, rfl⟩, h.hg, h.hm, Nat.le_trans h.hb hb.size⟩, hb⟩
    | some f =>
      obtain ⟨old, ho, rfl⟩ := aget_abs_some hn
      refine (vDelete_ok nm g mp es fl dn left _ w old h1 h0 ho).mono ?_
      rintro e w' ⟨rfl, hd, hb⟩
      rw [e1, e2] at hd
      exact ⟨rfl, ⟨⟨_, hd, by rw [abs_adel]⟩, h.hg, h.hm, Nat.le_trans h.hb hb.size⟩, hb⟩
  · rw [if_pos h0]
    refine (vDelete_no nm g mp es fl dn left _ w h1 h0).mono ?_
    rintro e w' ⟨rfl, hd, hb⟩
    exact ⟨rfl, ⟨⟨es, hd, rfl⟩, h.hg, h.hm, Nat.le_trans h.hb hb.size⟩, hb⟩
theorem aRead_calls (h : DiskA base w g mp d) :
    Calls Tryd.prog 42 #[.pointer (some ⟨g, 0, none⟩), .string (nmS nm)] w fun e w' => ∃ A c, e = .returned (.tuple #[.slice A (aRead nm d).1.length c, .int .i64 (aRead nm d).2]) ∧ OwnB w' w.heap.size (.slice A (aRead nm d).1.length c) (aRead nm d).1 ∧ Below w.heap.size w w' := by
  obtain ⟨es, h1, h2⟩ := h.ex
  obtain ⟨fs, fl, dn, left⟩ := d
  simp only at h1 h2
  subst h2
  simp only [aRead]
  by_cases h0 : dmay [nmS nm] dn = 0
  · rw [if_neg (by simpa using h0)]
    cases hn : aget nm es.abs with
    | none =>
      refine (vDread_none nm g mp es fl dn left _ w h1 h0 (aget_abs_none hn)).mono ?_
      rintro e w' ⟨rfl, hb⟩
      exact ⟨none, 0, rfl, World.ownsRow_nil _ _ _ _, hb⟩
    | some f =>
      obtain ⟨old, ho, rfl⟩ := aget_abs_some hn
      refine (vDread_ok nm g mp es fl dn left _ w old h1 h0 ho).mono ?_
      rintro e w' ⟨v, rfl, hown, hb⟩
      obtain ⟨A, c, rfl, _⟩ := own_form hown
      exact ⟨A, c, rfl, hown, hb⟩
  · rw [if_pos h0]
    refine (vDread_no nm g mp es fl dn left _ w h1 h0).mono ?_
    rintro e w' ⟨rfl, hb⟩
    exact ⟨none, 0, rfl, World.ownsRow_nil _ _ _ _, hb⟩
theorem aList_calls (h : DiskA base w g mp d) (hn : d.fs.length * 16 ≤ 140737488351232) :
    Calls Tryd.prog 18 #[.pointer (some ⟨g, 0, none⟩)] w fun e w' => ∃ A c, e = .returned (.tuple #[.slice A (aList d).1.length c, .int .i64 (aList d).2]) ∧ w'.ownsRow w.heap.size 9 1 (.slice A (aList d).1.length c) (aList d).1.length ((aList d).1.map strV) ∧ Below w.heap.size w w' := by
  obtain ⟨es, h1, h2⟩ := h.ex
  obtain ⟨fs, fl, dn, left⟩ := d
  simp only at h1 h2 hn
  subst h2
  simp only [aList]
  cases dn with
  | true =>
    refine (vList_no g mp es fl left _ w h1).mono ?_
    rintro e w' ⟨rfl, hb⟩
    exact ⟨none, 0, rfl, World.ownsRow_nil _ _ _ _, hb⟩
  | false =>
    rw [abs_len] at hn
    refine (vList_ok g mp es fl left _ w h1 hn).mono ?_
    rintro e w' ⟨v, rfl, hown, hb⟩
    have hl : (sortN (es.abs.map (·.1))).length = es.length := by rw [sortN_len, List.length_map, abs_len]
    obtain ⟨A, c, rfl, _⟩ := own_form hown
    simp only [Bool.false_eq_true, if_false, hl]
    rw [abs_keys]
    exact ⟨A, c, rfl, hown, hb⟩
theorem aFill_calls (b : Bool) (h : DiskA base w g mp d) :
    Calls Tryd.prog 28 #[.pointer (some ⟨g, 0, none⟩), .bool b] w fun e w' => e = .returned (.tuple #[]) ∧ DiskA base w' g mp (aFill b d) ∧ But [g, mp] w w' := by
  obtain ⟨es, h1, h2⟩ := h.ex
  refine (vFill g mp es d.fl d.dn d.left _ w b h1).mono ?_
  rintro e w' ⟨rfl, hd, hb⟩
  exact ⟨rfl, ⟨⟨es, hd, h2⟩, h.hg, h.hm, Nat.le_trans h.hb hb.size⟩, hb⟩
theorem aDown_calls (h : DiskA base w g mp d) :
    Calls Tryd.prog 37 #[.pointer (some ⟨g, 0, none⟩)] w fun e w' => e = .returned (.bool d.dn) ∧ Below w.heap.size w w' := by
  obtain ⟨es, h1, h2⟩ := h.ex
  exact vDown g mp es d.fl d.dn d.left _ w h1
theorem aArm_calls (n : Int) (hn1 : -9223372036854775808 ≤ n) (hn2 : n ≤ 9223372036854775807) (h : DiskA base w g mp d) :
    Calls Tryd.prog 30 #[.pointer (some ⟨g, 0, none⟩), .int .i64 n] w fun e w' => e = .returned (.tuple #[]) ∧ DiskA base w' g mp (aArm n d) ∧ But [g, mp] w w' := by
  obtain ⟨es, h1, h2⟩ := h.ex
  obtain ⟨fs, fl, dn, left⟩ := d
  simp only at h1 h2
  simp only [aArm]
  cases dn with
  | true =>
    refine (vArm_no g mp es fl left _ w n h1).mono ?_
    rintro e w' ⟨rfl, hb⟩
    exact ⟨rfl, ⟨⟨es, h1.below hb, h2⟩, h.hg, h.hm, Nat.le_trans h.hb hb.size⟩, But.two0 hb⟩
  | false =>
    refine (vArm_ok g mp es fl left _ w n hn1 hn2 h1).mono ?_
    rintro e w' ⟨rfl, hd, hb⟩
    exact ⟨rfl, ⟨⟨es, hd, h2⟩, h.hg, h.hm, Nat.le_trans h.hb hb.size⟩, hb⟩
theorem aRestart_calls (keep : List Int) (h : DiskA base w g mp d) (hr : Row w w.heap.size 1 A keep.length (keep.map (Value.int .i64)))
    (hA : 0 < keep.length → ∀ b off, A = some ⟨b, off, none⟩ → b ≠ g ∧ b ≠ mp) (hkl : keep.length ≤ 140737488355328) (hkr : ∀ k ∈ keep, in64 k) (hn : d.fs.length * 16 ≤ 140737488351232) :
    Calls Tryd.prog 32 #[.pointer (some ⟨g, 0, none⟩), .slice A keep.length c] w fun e w' => e = .returned (.tuple #[]) ∧ DiskA base w' g mp (aRestart keep d) ∧ But [g, mp] w w' := by
  obtain ⟨es, h1, h2⟩ := h.ex
  refine (vRestart keep A c g mp es d.fl d.dn d.left _ w hr hA hkl hkr h1 (by rw [← abs_len, h2]; exact hn)).mono ?_
  rintro e w' ⟨rfl, es', hd, ha, hb⟩
  exact ⟨rfl, ⟨⟨es', hd.mono (fun b hb => by have := h.hb; omega), by rw [ha, h2]; rfl⟩, h.hg, h.hm, Nat.le_trans h.hb hb.size⟩, hb⟩
theorem aNew_calls (w : World) (hb0 : base ≤ w.heap.size) : Calls Tryd.prog 9 #[] w fun e w' => ∃ g mp, e = .returned (.pointer (some ⟨g, 0, none⟩)) ∧ DiskA base w' g mp AD.new ∧ Below w.heap.size w w' ∧ w.heap.size ≤ g ∧ w.heap.size ≤ mp := by
  refine (vNew w).mono ?_
  rintro e w' ⟨rfl, hm, hk, hb⟩
  exact ⟨w.heap.size + 1, w.heap.size, rfl, ⟨⟨[], ⟨hk, hm, by simp, by simp, by simp [AD.new], by simp [AD.new]⟩, rfl⟩, by omega, hb0, Nat.le_trans hb0 hb.size⟩, hb, by omega, Nat.le_refl _⟩
end
end Go.Proofs.YtmddgimadlmacaaDoor
