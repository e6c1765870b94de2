import Derived.Test.YtmddgimadlmacaaMf22
/-
  A disk as plain data, and what each call answers and leaves.
-/
namespace Garner
structure AD where
  fs : List (Bs × FileD)
  fl : Bool
  dn : Bool
  left : Int
def fget (nm : Bs) (fs : List (Bs × FileD)) : FileD := (aget nm fs).getD ([], 0)
def AD.new : AD := ⟨[], false, false, -1⟩
end Garner
namespace Go.Proofs.Ytmddgimadlmacaa
open Go.RowKit Garner

def AD.chg (d : AD) : AD := { d with dn := armedD d.left d.dn, left := armed d.left }
def aAppend (nm data : Bs) (d : AD) : Nat × AD :=
  if dmay [nmS nm] d.dn ≠ 0 then (dmay [nmS nm] d.dn, d)
  else if d.fl then (20, AD.chg d) else (0, { AD.chg d with fs := aput nm ((fget nm d.fs).1 ++ data, (fget nm d.fs).2) d.fs })
def aSync (nm : Bs) (d : AD) : Nat × AD :=
  if dmay [nmS nm] d.dn ≠ 0 then (dmay [nmS nm] d.dn, d)
  else match aget nm d.fs with
    | none => (21, AD.chg d)
    | some f => (0, { AD.chg d with fs := aput nm (f.1, f.1.length) d.fs })
def aDelete (nm : Bs) (d : AD) : Nat × AD :=
  if dmay [nmS nm] d.dn ≠ 0 then (dmay [nmS nm] d.dn, d)
  else match aget nm d.fs with
    | none => (21, AD.chg d)
    | some _ => (0, { AD.chg d with fs := adel nm d.fs })
def aRename (nm nm2 : Bs) (d : AD) : Nat × AD :=
  if dmay [nmS nm, nmS nm2] d.dn ≠ 0 then (dmay [nmS nm, nmS nm2] d.dn, d)
  else match aget nm d.fs with
    | none => (21, AD.chg d)
    | some f => (0, { AD.chg d with fs := aput nm2 f (adel nm d.fs) })
def aRead (nm : Bs) (d : AD) : Bs × Nat :=
  if dmay [nmS nm] d.dn ≠ 0 then ([], dmay [nmS nm] d.dn)
  else match aget nm d.fs with
    | none => ([], 21)
    | some f => (f.1, 0)
def aList (d : AD) : List Bs × Nat := if d.dn then ([], 23) else (sortN (d.fs.map (·.1)), 0)
def aFill (b : Bool) (d : AD) : AD := { d with fl := b }
def aArm (n : Int) (d : AD) : AD := if d.dn then d else { d with dn := decide (n = 0), left := max n (-1) }
def aRestart (keep : List Int) (d : AD) : AD := ⟨rst keep d.fs, false, false, -1⟩

/-- the disk d lies at g, mp; all that it has lies from base on -/
structure DiskA (base : Nat) (w : World) (g mp : Nat) (d : AD) : Prop where
  ex : ∃ es, DiskIs (fun b => base ≤ b) w g mp es d.fl d.dn d.left ∧ es.abs = d.fs
  hg : base ≤ g
  hm : base ≤ mp
  hb : base ≤ w.heap.size
section
variable {base g mp : Nat} {d : AD} {w w' : World}
theorem DiskA.below (h : DiskA base w g mp d) (hb : Below w.heap.size w w') : DiskA base w' g mp d := by
  obtain ⟨es, h1, h2⟩ := h.ex
  exact ⟨⟨es, h1.below hb, h2⟩, h.hg, h.hm, Nat.le_trans h.hb hb.size⟩
theorem DiskA.but {S : List Nat} (h : DiskA base w g mp d) (hb : But S w w') (hS : ∀ s ∈ S, w.heap.size ≤ s ∨ s < base) : DiskA base w' g mp d := by
  obtain ⟨es, h1, h2⟩ := h.ex
  have hg := h.hg; have hm := h.hm
  have h3 := h1.blk.lt; have h4 := MapIs.lt h1.map
  exact ⟨⟨es, h1.but hb (fun e => by have := hS _ e; omega) (fun e => by have := hS _ e; omega) (fun b hb1 hb2 e => by have := hS _ e; omega), h2⟩, h.hg, h.hm, Nat.le_trans h.hb hb.size⟩
theorem DiskA.lt (h : DiskA base w g mp d) : g < w.heap.size ∧ mp < w.heap.size := by
  obtain ⟨es, h1, _⟩ := h.ex
  exact ⟨h1.blk.lt, MapIs.lt h1.map⟩
theorem DiskA.down (h : DiskA base w g mp d) (hb : But [g, mp] w w') : Below base w w' := hb.below h.hb (fun k hk => by
  have h1 := h.hg; have h2 := h.hm
  simp only [List.mem_cons, List.not_mem_nil, or_false] at hk
  omega)
theorem fget_abs (nm : Bs) (es : Files) : fget nm es.abs = ((es.get nm).data, (es.get nm).synced) := by
  unfold fget Files.get
  rw [aget_abs]
  cases aget nm es <;> rfl
theorem aget_abs_none {nm : Bs} {es : Files} (h : aget nm es.abs = none) : aget nm es = none := by
  rw [aget_abs] at h
  cases he : aget nm es with
  | none => rfl
  | some e => rw [he] at h; cases h
theorem aget_abs_some {nm : Bs} {es : Files} {f : FileD} (h : aget nm es.abs = some f) : ∃ e, aget nm es = some e ∧ (e.data, e.synced) = f := by
  rw [aget_abs] at h
  cases he : aget nm es with
  | none => rw [he] at h; cases h
  | some e => rw [he] at h; exact ⟨e, rfl, by simpa using h⟩
theorem chg_eq {names : List ByteArray} {dn : Bool} {left : Int} (h : dmay names dn = 0) : chgD names dn left = armedD left dn ∧ chgL names dn left = armed left := by
  unfold chgD chgL; rw [if_pos h, if_pos h]; exact ⟨rfl, rfl⟩
end
section
variable (nm nm2 data : Bs) (A : Option Addr) (c B base g mp : Nat) (d : AD) (w : World)
theorem aAppend_calls (h : DiskA base w g mp d) (hr : Bytes w B A data.length data) (hB : B ≤ w.heap.size) (hl : (fget nm d.fs).1.length + data.length ≤ 140737488355328) :
    Calls Try.prog 19 #[.pointer (some ⟨g, 0, none⟩), .string (nmS nm), .slice A data.length c] w fun e w' => e = .returned (.int .i64 (aAppend nm data d).1) ∧ DiskA base w' g mp (aAppend nm data d).2 ∧ But [g, mp] w w' := by
  obtain ⟨es, h1, h2⟩ := h.ex
  obtain ⟨fs, fl, dn, left⟩ := d
  simp only at h1 h2
  subst h2
  simp only [aAppend]
  by_cases h0 : dmay [nmS nm] dn = 0
  · rw [if_neg (by simpa using h0)]
    obtain ⟨e1, e2⟩ := chg_eq (left := left) h0
    cases fl with
    | true =>
      refine (vAppend_full nm g mp es dn left _ w _ h1 h0).mono ?_
      rintro e w' ⟨rfl, hd, hb⟩
      rw [e1, e2] at hd
      exact ⟨rfl, ⟨⟨es, hd, rfl⟩, h.hg, h.hm, Nat.le_trans h.hb hb.size⟩, hb⟩
    | false =>
      simp only [fget_abs] at hl
      refine (vAppend_ok nm data A c B g mp es dn left _ w h1 h0 hr hB hl).mono ?_
      rintro e w' ⟨rfl, A', c', hd, hb⟩
      rw [e1, e2] at hd
      exact ⟨rfl, ⟨⟨_, hd.mono (fun b hb => by have := h.hb; omega), by rw [abs_aput]; simp only [fget_abs]; rfl⟩, h.hg, h.hm, Nat.le_trans h.hb hb.size⟩, hb⟩
  · rw [if_pos h0]
    refine (vAppend_no nm g mp es fl dn left _ w _ h1 h0).mono ?_
    rintro e w' ⟨rfl, hd, hb⟩
    exact ⟨rfl, ⟨⟨es, hd, rfl⟩, h.hg, h.hm, Nat.le_trans h.hb hb.size⟩, hb⟩
/-- refused ahead of the data: whatever is handed in -/
theorem aAppend_refused (V : Value) (h : DiskA base w g mp d) (h0 : dmay [nmS nm] d.dn ≠ 0) :
    Calls Try.prog 19 #[.pointer (some ⟨g, 0, none⟩), .string (nmS nm), V] w fun e w' => e = .returned (.int .i64 (dmay [nmS nm] d.dn)) ∧ DiskA base w' g mp d ∧ But [g, mp] w w' := by
  obtain ⟨es, h1, h2⟩ := h.ex
  refine (vAppend_no nm g mp es d.fl d.dn d.left _ w _ h1 h0).mono ?_
  rintro e w' ⟨rfl, hd, hb⟩
  exact ⟨rfl, ⟨⟨es, hd, h2⟩, h.hg, h.hm, Nat.le_trans h.hb hb.size⟩, hb⟩
theorem aSync_calls (h : DiskA base w g mp d) :
    Calls Try.prog 20 #[.pointer (some ⟨g, 0, none⟩), .string (nmS nm)] w fun e w' => e = .returned (.int .i64 (aSync nm d).1) ∧ DiskA base w' g mp (aSync nm d).2 ∧ But [g, mp] w w' := by
  obtain ⟨es, h1, h2⟩ := h.ex
  obtain ⟨fs, fl, dn, left⟩ := d
  simp only at h1 h2
  subst h2
  simp only [aSync]
  by_cases h0 : dmay [nmS nm] dn = 0
  · rw [if_neg (by simpa using h0)]
    obtain ⟨e1, e2⟩ := chg_eq (left := left) h0
    cases hn : aget nm es.abs with
    | none =>
      refine (vSync_none nm g mp es fl dn left _ w h1 h0 (aget_abs_none hn)).mono ?_
      rintro e w' ⟨rfl, hd, hb⟩
      rw [e1, e2] at hd
      exact ⟨rfl, ⟨⟨es, hd, rfl⟩, h.hg, h.hm, Nat.le_trans h.hb hb.size⟩, hb⟩
    | some f =>
      obtain ⟨old, ho, rfl⟩ := aget_abs_some hn
      refine (vSync_ok nm g mp es fl dn left _ w old h1 h0 ho).mono ?_
      rintro e w' ⟨rfl, hd, hb⟩
      rw [e1, e2] at hd
      exact ⟨rfl, ⟨⟨_, hd, by rw [abs_aput]⟩, h.hg, h.hm, Nat.le_trans h.hb hb.size⟩, hb⟩
  · rw [if_pos h0]
    refine (vSync_no nm g mp es fl dn left _ w h1 h0).mono ?_
    rintro e w' ⟨rfl, hd, hb⟩
    exact ⟨rfl, ⟨⟨es, hd, rfl⟩, h.hg, h.hm, Nat.le_trans h.hb hb.size⟩, hb⟩
theorem aDelete_calls (h : DiskA base w g mp d) :
    Calls Try.prog 28 #[.pointer (some ⟨g, 0, none⟩), .string (nmS nm)] w fun e w' => e = .returned (.int .i64 (aDelete nm d).1) ∧ DiskA base w' g mp (aDelete nm d).2 ∧ But [g, mp] w w' := by
  obtain ⟨es, h1, h2⟩ := h.ex
  obtain ⟨fs, fl, dn, left⟩ := d
  simp only at h1 h2
  subst h2
  simp only [aDelete]
  by_cases h0 : dmay [nmS nm] dn = 0
  · rw [if_neg (by simpa using h0)]
    obtain ⟨e1, e2⟩ := chg_eq (left := left) h0
    cases hn : aget nm es.abs with
    | none =>
      refine (vDelete_none nm g mp es fl dn left _ w h1 h0 (aget_abs_none hn)).mono ?_
      rintro e w' ⟨rfl, hd, hb⟩
      rw [e1, e2] at hd
      exact ⟨rfl, ⟨⟨es, hd, rfl⟩, h.hg, h.hm, Nat.le_trans h.hb hb.size⟩, hb⟩
    | some f =>
      obtain ⟨old, ho, rfl⟩ := aget_abs_some hn
      refine (vDelete_ok nm g mp es fl dn left _ w old h1 h0 ho).mono ?_
      rintro e w' ⟨rfl, hd, hb⟩
      rw [e1, e2] at hd
      exact ⟨rfl, ⟨⟨_, hd, by rw [abs_adel]⟩, h.hg, h.hm, Nat.le_trans h.hb hb.size⟩, hb⟩
  · rw [if_pos h0]
    refine (vDelete_no nm g mp es fl dn left _ w h1 h0).mono ?_
    rintro e w' ⟨rfl, hd, hb⟩
    exact ⟨rfl, ⟨⟨es, hd, rfl⟩, h.hg, h.hm, Nat.le_trans h.hb hb.size⟩, hb⟩
theorem aRename_calls (h : DiskA base w g mp d) :
    Calls Try.prog 24 #[.pointer (some ⟨g, 0, none⟩), .string (nmS nm), .string (nmS nm2)] w fun e w' => e = .returned (.int .i64 (aRename nm nm2 d).1) ∧ DiskA base w' g mp (aRename nm nm2 d).2 ∧ But [g, mp] w w' := by
  obtain ⟨es, h1, h2⟩ := h.ex
  obtain ⟨fs, fl, dn, left⟩ := d
  simp only at h1 h2
  subst h2
  simp only [aRename]
  by_cases h0 : dmay [nmS nm, nmS nm2] dn = 0
  · rw [if_neg (by simpa using h0)]
    obtain ⟨e1, e2⟩ := chg_eq (left := left) h0
    cases hn : aget nm es.abs with
    | none =>
      refine (vRename_none nm nm2 g mp es fl dn left _ w h1 h0 (aget_abs_none hn)).mono ?_
      rintro e w' ⟨rfl, hd, hb⟩
      rw [e1, e2] at hd
      exact ⟨rfl, ⟨⟨es, hd, rfl⟩, h.hg, h.hm, Nat.le_trans h.hb hb.size⟩, hb⟩
    | some f =>
      obtain ⟨old, ho, rfl⟩ := aget_abs_some hn
      refine (vRename_ok nm nm2 g mp es fl dn left _ w old h1 h0 ho).mono ?_
      rintro e w' ⟨rfl, hd, hb⟩
      rw [e1, e2] at hd
      exact ⟨rfl, ⟨⟨_, hd, by rw [abs_aput, abs_adel]⟩, h.hg, h.hm, Nat.le_trans h.hb hb.size⟩, hb⟩
  · rw [if_pos h0]
    refine (vRename_no nm nm2 g mp es fl dn left _ w h1 h0).mono ?_
    rintro e w' ⟨rfl, hd, hb⟩
    exact ⟨rfl, ⟨⟨es, hd, rfl⟩, h.hg, h.hm, Nat.le_trans h.hb hb.size⟩, hb⟩
theorem aRead_calls (h : DiskA base w g mp d) :
    Calls Try.prog 22 #[.pointer (some ⟨g, 0, none⟩), .string (nmS nm)] w fun e w' => ∃ A c, e = .returned (.tuple #[.slice A (aRead nm d).1.length c, .int .i64 (aRead nm d).2]) ∧ OwnB w' w.heap.size (.slice A (aRead nm d).1.length c) (aRead nm d).1 ∧ Below w.heap.size w w' := by
  obtain ⟨es, h1, h2⟩ := h.ex
  obtain ⟨fs, fl, dn, left⟩ := d
  simp only at h1 h2
  subst h2
  simp only [aRead]
  by_cases h0 : dmay [nmS nm] dn = 0
  · rw [if_neg (by simpa using h0)]
    cases hn : aget nm es.abs with
    | none =>
      refine (vDread_none nm g mp es fl dn left _ w h1 h0 (aget_abs_none hn)).mono ?_
      rintro e w' ⟨rfl, hb⟩
      exact ⟨none, 0, rfl, World.ownsRow_nil _ _ _ _, hb⟩
    | some f =>
      obtain ⟨old, ho, rfl⟩ := aget_abs_some hn
      refine (vDread_ok nm g mp es fl dn left _ w old h1 h0 ho).mono ?_
      rintro e w' ⟨v, rfl, hown, hb⟩
      obtain ⟨A, c, rfl, _⟩ := own_form hown
      exact ⟨A, c, rfl, hown, hb⟩
  · rw [if_pos h0]
    refine (vDread_no nm g mp es fl dn left _ w h1 h0).mono ?_
    rintro e w' ⟨rfl, hb⟩
    exact ⟨none, 0, rfl, World.ownsRow_nil _ _ _ _, hb⟩
theorem aList_calls (h : DiskA base w g mp d) (hn : d.fs.length * 16 ≤ 140737488351232) :
    Calls Try.prog 26 #[.pointer (some ⟨g, 0, none⟩)] w fun e w' => ∃ A c, e = .returned (.tuple #[.slice A (aList d).1.length c, .int .i64 (aList d).2]) ∧ w'.ownsRow w.heap.size 9 1 (.slice A (aList d).1.length c) (aList d).1.length ((aList d).1.map strV) ∧ Below w.heap.size w w' := by
  obtain ⟨es, h1, h2⟩ := h.ex
  obtain ⟨fs, fl, dn, left⟩ := d
  simp only at h1 h2 hn
  subst h2
  simp only [aList]
  cases dn with
  | true =>
    refine (vList_no g mp es fl left _ w h1).mono ?_
    rintro e w' ⟨rfl, hb⟩
    exact ⟨none, 0, rfl, World.ownsRow_nil _ _ _ _, hb⟩
  | false =>
    rw [abs_len] at hn
    refine (vList_ok g mp es fl left _ w h1 hn).mono ?_
    rintro e w' ⟨v, rfl, hown, hb⟩
    have hl : (sortN (es.abs.map (·.1))).length = es.length := by rw [sortN_len, List.length_map, abs_len]
    obtain ⟨A, c, rfl, _⟩ := own_form hown
    simp only [Bool.false_eq_true, if_false, hl]
    rw [abs_keys]
    exact ⟨A, c, rfl, hown, hb⟩
theorem aFill_calls (b : Bool) (h : DiskA base w g mp d) :
    Calls Try.prog 27 #[.pointer (some ⟨g, 0, none⟩), .bool b] w fun e w' => e = .returned (.tuple #[]) ∧ DiskA base w' g mp (aFill b d) ∧ But [g, mp] w w' := by
  obtain ⟨es, h1, h2⟩ := h.ex
  refine (vFill g mp es d.fl d.dn d.left _ w b h1).mono ?_
  rintro e w' ⟨rfl, hd, hb⟩
  exact ⟨rfl, ⟨⟨es, hd, h2⟩, h.hg, h.hm, Nat.le_trans h.hb hb.size⟩, hb⟩
theorem aDown_calls (h : DiskA base w g mp d) :
    Calls Try.prog 25 #[.pointer (some ⟨g, 0, none⟩)] w fun e w' => e = .returned (.bool d.dn) ∧ Below w.heap.size w w' := by
  obtain ⟨es, h1, h2⟩ := h.ex
  exact vDown g mp es d.fl d.dn d.left _ w h1
theorem aArm_calls (n : Int) (hn1 : -9223372036854775808 ≤ n) (hn2 : n ≤ 9223372036854775807) (h : DiskA base w g mp d) :
    Calls Try.prog 23 #[.pointer (some ⟨g, 0, none⟩), .int .i64 n] w fun e w' => e = .returned (.tuple #[]) ∧ DiskA base w' g mp (aArm n d) ∧ But [g, mp] w w' := by
  obtain ⟨es, h1, h2⟩ := h.ex
  obtain ⟨fs, fl, dn, left⟩ := d
  simp only at h1 h2
  simp only [aArm]
  cases dn with
  | true =>
    refine (vArm_no g mp es fl left _ w n h1).mono ?_
    rintro e w' ⟨rfl, hb⟩
    exact ⟨rfl, ⟨⟨es, h1.below hb, h2⟩, h.hg, h.hm, Nat.le_trans h.hb hb.size⟩, But.two0 hb⟩
  | false =>
    refine (vArm_ok g mp es fl left _ w n hn1 hn2 h1).mono ?_
    rintro e w' ⟨rfl, hd, hb⟩
    exact ⟨rfl, ⟨⟨es, hd, h2⟩, h.hg, h.hm, Nat.le_trans h.hb hb.size⟩, hb⟩
theorem aRestart_calls (keep : List Int) (h : DiskA base w g mp d) (hr : Row w w.heap.size 1 A keep.length (keep.map (Value.int .i64)))
    (hA : 0 < keep.length → ∀ b off, A = some ⟨b, off, none⟩ → b ≠ g ∧ b ≠ mp) (hkl : keep.length ≤ 140737488355328) (hkr : ∀ k ∈ keep, in64 k) (hn : d.fs.length * 16 ≤ 140737488351232) :
    Calls Try.prog 21 #[.pointer (some ⟨g, 0, none⟩), .slice A keep.length c] w fun e w' => e = .returned (.tuple #[]) ∧ DiskA base w' g mp (aRestart keep d) ∧ But [g, mp] w w' := by
  obtain ⟨es, h1, h2⟩ := h.ex
  refine (vRestart keep A c g mp es d.fl d.dn d.left _ w hr hA hkl hkr h1 (by rw [← abs_len, h2]; exact hn)).mono ?_
  rintro e w' ⟨rfl, es', hd, ha, hb⟩
  exact ⟨rfl, ⟨⟨es', hd.mono (fun b hb => by have := h.hb; omega), by rw [ha, h2]; rfl⟩, h.hg, h.hm, Nat.le_trans h.hb hb.size⟩, hb⟩
theorem aNew_calls (w : World) (hb0 : base ≤ w.heap.size) : Calls Try.prog 18 #[] w fun e w' => ∃ g mp, e = .returned (.pointer (some ⟨g, 0, none⟩)) ∧ DiskA base w' g mp AD.new ∧ Below w.heap.size w w' ∧ w.heap.size ≤ g ∧ w.heap.size ≤ mp := by
  refine (vNew w).mono ?_
  rintro e w' ⟨rfl, hm, hk, hb⟩
  exact ⟨w.heap.size + 1, w.heap.size, rfl, ⟨⟨[], ⟨hk, hm, by simp, by simp, by simp [AD.new], by simp [AD.new]⟩, rfl⟩, by omega, hb0, Nat.le_trans hb0 hb.size⟩, hb, by omega, Nat.le_refl _⟩
end
end Go.Proofs.Ytmddgimadlmacaa
namespace Go.Proofs.Ytmddgimadlmacaa
open Go.RowKit Garner

theorem rst_one (keep : List Int) (k : Bs) (f : FileD) : rst keep [(k, f)] = [(k, cutD keep 0 f)] := by
  have h1 : sortN [k] = [k] := by simp [sortN]
  have h2 : List.idxOf k [k] = 0 := by simp
  simp only [rst, List.map_cons, List.map_nil, h1, rstUp, h2, List.length_cons, List.length_nil]
  rfl
theorem rst_two (n : Int) (fs : List (Bs × FileD)) (h : fs.length ≤ 2) : rst [n, n] fs = fs.map fun p => (p.1, cutD [n] 0 p.2) := by
  unfold rst rstUp
  refine List.map_congr_left fun p hp => ?_
  have hm : p.1 ∈ sortN (fs.map (·.1)) := mem_sortN.2 (List.mem_map.2 ⟨p, hp, rfl⟩)
  have hlt := List.idxOf_lt_length_of_mem hm
  rw [sortN_len, List.length_map] at hlt
  rw [if_pos hlt]
  congr 1
  generalize List.idxOf p.1 (sortN (fs.map (·.1))) = j at *
  unfold cutD keptN
  have : j = 0 ∨ j = 1 := by omega
  rcases this with rfl | rfl <;> rfl
theorem ap_dn (nm data : Bs) (fs : List (Bs × FileD)) (L : Int) (h : dmay [nmS nm] true = 23) : aAppend nm data ⟨fs, false, true, L⟩ = (23, ⟨fs, false, true, L⟩) := by unfold aAppend; rw [if_pos (by rw [h]; decide), h]
theorem sy_dn (nm : Bs) (fs : List (Bs × FileD)) (L : Int) (h : dmay [nmS nm] true = 23) : aSync nm ⟨fs, false, true, L⟩ = (23, ⟨fs, false, true, L⟩) := by unfold aSync; rw [if_pos (by rw [h]; decide), h]
theorem rn_dn (nm nm2 : Bs) (fs : List (Bs × FileD)) (L : Int) (h : dmay [nmS nm, nmS nm2] true = 23) : aRename nm nm2 ⟨fs, false, true, L⟩ = (23, ⟨fs, false, true, L⟩) := by unfold aRename; rw [if_pos (by rw [h]; decide), h]
theorem ap_up (nm data : Bs) (fs : List (Bs × FileD)) (L : Int) (h : dmay [nmS nm] false = 0) : aAppend nm data ⟨fs, false, false, L⟩ = (0, ⟨aput nm ((fget nm fs).1 ++ data, (fget nm fs).2) fs, false, armedD L false, armed L⟩) := by unfold aAppend; rw [if_neg (by rw [h]; decide)]; rfl
theorem sy_up (nm : Bs) (fs : List (Bs × FileD)) (L : Int) (f : FileD) (h : dmay [nmS nm] false = 0) (hf : aget nm fs = some f) : aSync nm ⟨fs, false, false, L⟩ = (0, ⟨aput nm (f.1, f.1.length) fs, false, armedD L false, armed L⟩) := by unfold aSync; rw [if_neg (by rw [h]; decide)]; simp only [hf]; rfl
theorem rn_up (nm nm2 : Bs) (fs : List (Bs × FileD)) (L : Int) (f : FileD) (h : dmay [nmS nm, nmS nm2] false = 0) (hf : aget nm fs = some f) : aRename nm nm2 ⟨fs, false, false, L⟩ = (0, ⟨aput nm2 f (adel nm fs), false, armedD L false, armed L⟩) := by unfold aRename; rw [if_neg (by rw [h]; decide)]; simp only [hf]; rfl
theorem cut_full (n : Int) (l : Bs) : cutD [n] 0 (l, l.length) = (l, l.length) := by
  have h : keptN [n] 0 (l, l.length) = l.length := by simp only [keptN, List.getElem?_cons_zero]; omega
  unfold cutD; rw [h]; simp
theorem u64_lo (n : Int) : 0 ≤ IntKind.u64.wrap n ∧ IntKind.u64.wrap n < 18446744073709551616 := by
  simp only [IntKind.wrap, IntKind.bits, IntKind.signed]
  simp
  omega
/-- a number without a sign, modulo a small one, as an int -/
theorem u64_mod (n : Int) (m : Nat) (hm : 0 < m) (hm2 : m ≤ 1000000) : ∃ k : Nat, k < m ∧ wrap64 ((IntKind.u64.wrap n).tmod m) = k := by
  obtain ⟨h1, h2⟩ := u64_lo n
  rw [Int.tmod_eq_emod_of_nonneg h1]
  have h3 := Int.emod_nonneg (IntKind.u64.wrap n) (show (m : Int) ≠ 0 by omega)
  have h4 := Int.emod_lt_of_pos (IntKind.u64.wrap n) (show (0 : Int) < m by omega)
  refine ⟨((IntKind.u64.wrap n) % m).toNat, by omega, ?_⟩
  rw [IntWalk.wrap64_in _ ⟨by omega, by omega⟩]; omega
theorem FileOk.far {O : Nat → Prop} {w : World} {e : FileE} (h : FileOk O w e) {q : Nat} {t : TypeId} {cs : List Value} (hk : Blk w q t cs) (hne : ∀ (i : Nat) (c : UInt8), cs[i]? ≠ some (bv c)) : FileOk (fun b => O b ∧ b ≠ q) w e := by
  refine ⟨h.row, fun hn b off e' => ⟨h.own hn b off e', fun hq => ?_⟩, h.cap, h.syn, h.len, h.typ⟩
  obtain ⟨b', off', e'', _, hc⟩ := h.row.2 hn
  rw [e'] at e''
  injection e'' with e''
  injection e'' with hb ho
  subst hb ho hq
  have h1 := hc 0 (bv e.data[0]) (by rw [List.getElem?_map, List.getElem?_eq_getElem hn]; rfl)
  rw [Nat.add_zero, hk.cell] at h1
  exact hne _ _ h1
/-- a block that has no bytes is no file's -/
theorem DiskA.but_far {base g mp : Nat} {d : AD} {w w' : World} (h : DiskA base w g mp d) {q : Nat} (hb : But [q] w w') {t : TypeId} {cs : List Value} (hk : Blk w q t cs) (hne : ∀ (i : Nat) (c : UInt8), cs[i]? ≠ some (bv c)) (hg : q ∉ [g, mp]) : DiskA base w' g mp d := by
  obtain ⟨es, h1, h2⟩ := h.ex
  simp only [List.mem_cons, List.not_mem_nil, or_false, not_or] at hg
  have h3 : DiskIs (fun b => base ≤ b ∧ b ≠ q) w g mp es d.fl d.dn d.left := ⟨h1.blk, h1.map, fun p hp => (h1.files p hp).far hk hne, h1.nodup, h1.lo, h1.hi⟩
  exact ⟨⟨es, (h3.but hb (by simp only [List.mem_cons, List.not_mem_nil, or_false]; exact fun h => hg.1 h.symm) (by simp only [List.mem_cons, List.not_mem_nil, or_false]; exact fun h => hg.2 h.symm) (fun b hO _ => by simp only [List.mem_cons, List.not_mem_nil, or_false]; exact hO.2)).mono (fun b hO => hO.1), h2⟩, h.hg, h.hm, Nat.le_trans h.hb hb.size⟩
theorem aget_adel {κ ν : Type} [DecidableEq κ] (a : κ) : ∀ l : List (κ × ν), (l.map (·.1)).Nodup → aget a (adel a l) = none
  | [], _ => rfl
  | (b, v) :: l, h => by
    rw [List.map_cons, List.nodup_cons] at h
    by_cases hb : a = b
    · subst hb
      simp only [adel, if_true]
      exact aget_none h.1
    · simp only [adel, if_neg hb, aget]
      exact aget_adel a l h.2
section
variable {base g mp : Nat} {d : AD} {w : World}
theorem DiskA.nodup (h : DiskA base w g mp d) : (d.fs.map (·.1)).Nodup := by
  obtain ⟨es, h1, h2⟩ := h.ex
  rw [← h2]
  have := h1.nodup
  simpa [Files.abs, List.map_map, Function.comp_def] using this
theorem DiskA.flen (h : DiskA base w g mp d) (nm : Bs) : (fget nm d.fs).1.length ≤ 140737488355328 := by
  obtain ⟨es, h1, h2⟩ := h.ex
  rw [← h2, fget_abs]
  unfold Files.get
  cases he : aget nm es with
  | none => exact Nat.zero_le _
  | some e => exact (h1.files _ (aget_mem he)).len
theorem DiskA.rlen (h : DiskA base w g mp d) (nm : Bs) : (aRead nm d).1.length ≤ 140737488355328 := by
  have h1 := h.flen nm
  unfold aRead
  split
  · simp
  · unfold fget at h1
    cases he : aget nm d.fs with
    | none => simp
    | some f => rw [he] at h1; exact h1
end
theorem bytes_mark (w : World) (l : List UInt8) (fr : Nat × Nat) (vs : List Value) (hv : vs = l.map bv) : Bytes (w.alloc (.cells vs.toArray 5 fr)) (w.heap.size + 1) (some ⟨w.heap.size, 0, none⟩) l.length l := by
  subst hv
  refine ⟨by simp, fun _ => ⟨w.heap.size, 0, rfl, by omega, fun j u hu => ?_⟩⟩
  rw [Nat.zero_add, World.cell?_alloc_mark]
  simpa using hu
theorem row_bytes (w : World) (l : List UInt8) (B : Nat) (hB : w.heap.size + 1 ≤ B) (vs : List Value) (hv : vs = l.map bv) : Bytes (w.alloc (.cells vs.toArray 5)) B (some ⟨w.heap.size, 0, none⟩) l.length l := by
  subst hv
  have h := row_new w 5 (l.map bv)
  rw [List.length_map] at h
  exact h.more hB
end Go.Proofs.Ytmddgimadlmacaa
