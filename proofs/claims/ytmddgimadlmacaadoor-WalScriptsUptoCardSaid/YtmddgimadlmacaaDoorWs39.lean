import Derived.Test.YtmddgimadlmacaaDoorWs37
import Derived.Test.YtmddgimadlmacaaDoorWs38
import Derived.Test.YtmddgimadlmacaaDoorWs34
/-! the document's disk as plain data: one contract each -/
namespace Garner
open Go.RowKit
end Garner
namespace Go.Proofs.YtmddgimadlmacaaDoor
open Go.RowKit Garner

def bAppend (nm data : Bs) (d : AD) : Nat × AD :=
  if dmay [nmS nm] d.dn ≠ 0 then (dmay [nmS nm] d.dn, d)
  else if d.fl then (20, AD.chg d) else (0, { AD.chg d with fs := sput nm ((fget nm d.fs).1 ++ data, (fget nm d.fs).2) d.fs })
def bSync (nm : Bs) (d : AD) : Nat × AD :=
  if dmay [nmS nm] d.dn ≠ 0 then (dmay [nmS nm] d.dn, d)
  else match aget nm d.fs with
    | none => (21, AD.chg d)
    | some f => (0, { AD.chg d with fs := sput nm (f.1, f.1.length) d.fs })
def bRename (nm nm2 : Bs) (d : AD) : Nat × AD :=
  if dmay [nmS nm, nmS nm2] d.dn ≠ 0 then (dmay [nmS nm, nmS nm2] d.dn, d)
  else match aget nm d.fs with
    | none => (21, AD.chg d)
    | some f => (0, { AD.chg d with fs := sput nm2 f (adel nm d.fs) })
def bList (d : AD) : List Bs × Nat := if d.dn then ([], 23) else (d.fs.map (·.1), 0)
def bRestart (keep : List Int) (d : AD) : AD := ⟨rstI keep d.fs.length d.fs, false, false, -1⟩
theorem abs_sput (nm : Bs) (e : FileE) (rs : Files) : Files.abs (sput nm e rs) = sput nm (e.data, e.synced) rs.abs := by
  unfold sput
  rw [rfind_abs]
  unfold Files.abs
  rw [List.map_append, List.map_cons, List.map_take, List.map_drop]
theorem rfind_of_none {nm : Bs} {rs : Files} (h : aget nm rs = none) : (rfind nm rs).2 = false := by
  cases hf : (rfind nm rs).2 with
  | false => rfl
  | true => obtain ⟨v, h1, _⟩ := rfind_get nm rs hf; rw [h] at h1; cases h1
theorem rfind_of_some {nm : Bs} {rs : Files} {e : FileE} (ha : Asc rs) (h : aget nm rs = some e) : (rfind nm rs).2 = true := by
  cases hf : (rfind nm rs).2 with
  | true => rfl
  | false => rw [rfind_none nm rs ha hf] at h; cases h
/-- the document's disk, where it is said whose memory its files' bytes are -/
def RefO (O : Nat → Prop) (w : World) (g fb : Nat) (d : AD) : Prop := ∃ rs, RefIs O w g fb rs d.fl d.dn d.left ∧ rs.abs = d.fs
section
variable {O O' : Nat → Prop} {w w' : World} {g fb : Nat} {rs : Files} {fl dn : Bool} {left : Int} {d : AD}
theorem RefIs.sharp (h : RefT w g fb rs fl dn left) (hO : ∀ p ∈ rs, 0 < p.2.data.length → ∀ b off, p.2.A = some ⟨b, off, none⟩ → O b) : RefIs O w g fb rs fl dn left :=
  ⟨h.own, fun p hp => ⟨(h.files p hp).row, hO p hp, (h.files p hp).cap, (h.files p hp).syn, (h.files p hp).len, (h.files p hp).typ⟩, h.asc, h.lo, h.hi, h.nb, h.lt⟩
theorem RefO.toD (h : RefO O w g fb d) : RefD w g fb d := by
  obtain ⟨rs, h1, h2⟩ := h
  exact ⟨rs, h1.monoO fun _ _ => trivial, h2⟩
theorem RefD.o (h : RefD w g fb d) : RefO (fun b => b < w.heap.size) w g fb d := by
  obtain ⟨rs, h1, h2⟩ := h.ex
  exact ⟨rs, (RefIs.ltO h1).monoO fun _ hb => hb.2, h2⟩
theorem RefO.but {S : List Nat} (h : RefO O w g fb d) (hb : But S w w') (hg : g ∉ S) (hf : fb ∉ S) (hO : ∀ b, O b → b < w.heap.size → b ∉ S) : RefO O w' g fb d := by
  obtain ⟨rs, h1, h2⟩ := h
  exact ⟨rs, h1.butO hb hg hf hO, h2⟩
theorem RefO.butT {S : List Nat} (h : RefO O w g fb d) (hb : But S w w') (hg : g ∉ S) (hf : fb ∉ S) (hS : ∀ k ∈ S, NB w k ∨ w.heap.size ≤ k) : RefO O w' g fb d := by
  obtain ⟨rs, h1, h2⟩ := h
  exact ⟨rs, RefIs.sharp ((h1.monoO fun _ _ => trivial).butT hb hg hf hS) (fun p hp => (h1.files p hp).own), h2⟩
end
section
variable (nm nm2 data : Bs) (A : Option Addr) (c B g fb : Nat) (d : AD) (w : World)
theorem bAppend_calls (O : Nat → Prop) (h : RefO O w g fb d) (hl : (nmS nm).size ≤ 140737488355328) (hrl : (d.fs.length + 1) * 48 ≤ 140737488355328) (hr : Bytes w B A data.length data) (hB : B ≤ w.heap.size) (hdl : (fget nm d.fs).1.length + data.length ≤ 140737488355328) :
    Calls Tryd.prog 34 #[.pointer (some ⟨g, 0, none⟩), .string (nmS nm), .slice A data.length c] w fun e w' => e = .returned (.int .i64 (bAppend nm data d).1) ∧ ∃ fb', RefO (fun b => O b ∨ w.heap.size ≤ b) w' g fb' (bAppend nm data d).2 ∧ (fb' = fb ∨ fb' = g ∨ w.heap.size ≤ fb') ∧ But [g, fb] w w' := by
  obtain ⟨rs, h10, h2⟩ := h
  have h1 : RefT w g fb rs d.fl d.dn d.left := h10.monoO fun _ _ => trivial
  have hown : ∀ p ∈ rs, 0 < p.2.data.length → ∀ b off, p.2.A = some ⟨b, off, none⟩ → O b ∨ w.heap.size ≤ b := fun p hp hn b off e => Or.inl ((h10.files p hp).own hn b off e)
  clear h10
  obtain ⟨fs, fl, dn, left⟩ := d
  simp only at h1 h2 hrl hdl
  subst h2
  rw [abs_len] at hrl
  simp only [bAppend]
  by_cases h0 : dmay [nmS nm] dn = 0
  · rw [if_neg (by simpa using h0)]
    obtain ⟨e1, e2⟩ := chg_eq (left := left) h0
    cases fl with
    | true =>
      refine (rfAppend_full nm g fb rs true dn left w _ h1 hl rfl h0).mono ?_
      rintro e w' ⟨rfl, hd, hb⟩
      rw [e1, e2] at hd
      exact ⟨rfl, fb, ⟨rs, RefIs.sharp hd hown, rfl⟩, Or.inl rfl, hb.mono (by simp)⟩
    | false =>
      simp only [fget_abs] at hdl
      refine (rfAppend_ok nm g fb rs dn left w data A c B h1 hl hrl h0 hr hB hdl).mono ?_
      rintro e w' ⟨rfl, A', c', fb', hd, hfb, hb, hA⟩
      rw [e1, e2] at hd
      have hown' : ∀ p ∈ sput nm ⟨A', c', (rs.get nm).data ++ data, (rs.get nm).synced⟩ rs, 0 < p.2.data.length → ∀ b off, p.2.A = some ⟨b, off, none⟩ → O b ∨ w.heap.size ≤ b := fun p hp hn b off e => by
        rcases mem_sput hp with rfl | hp
        · exact Or.inr (hA b off e)
        · exact hown p hp hn b off e
      exact ⟨rfl, fb', ⟨_, RefIs.sharp hd hown', by rw [abs_sput]; simp only [fget_abs]; rfl⟩, Or.inr hfb, hb.mono (by simp)⟩
  · rw [if_pos h0]
    refine (rfAppend_no nm g fb rs fl dn left w _ h1 hl h0).mono ?_
    rintro e w' ⟨rfl, hd, hb⟩
    exact ⟨rfl, fb, ⟨rs, RefIs.sharp hd hown, rfl⟩, Or.inl rfl, hb.mono (by simp)⟩
theorem bSync_calls (h : RefD w g fb d) (hl : (nmS nm).size ≤ 140737488355328) (hrl : d.fs.length ≤ 140737488355328) :
    Calls Tryd.prog 51 #[.pointer (some ⟨g, 0, none⟩), .string (nmS nm)] w fun e w' => e = .returned (.int .i64 (bSync nm d).1) ∧ ∃ fb', RefD w' g fb' (bSync nm d).2 ∧ (fb' = fb ∨ fb' = g ∨ w.heap.size ≤ fb') ∧ But [g, fb] w w' := by
  obtain ⟨rs, h1, h2⟩ := h.ex
  obtain ⟨fs, fl, dn, left⟩ := d
  simp only at h1 h2 hrl
  subst h2
  rw [abs_len] at hrl
  simp only [bSync]
  by_cases h0 : dmay [nmS nm] dn = 0
  · rw [if_neg (by simpa using h0)]
    obtain ⟨e1, e2⟩ := chg_eq (left := left) h0
    cases hn : aget nm rs.abs with
    | none =>
      refine (rfSync_none nm g fb rs fl dn left w h1 hl hrl h0 (rfind_of_none (aget_abs_none hn))).mono ?_
      rintro e w' ⟨rfl, hd, hb⟩
      rw [e1, e2] at hd
      exact ⟨rfl, fb, ⟨rs, hd, rfl⟩, Or.inl rfl, hb.mono (by simp)⟩
    | some f =>
      obtain ⟨e0, he, hf⟩ := aget_abs_some hn
      refine (rfSync_ok nm g fb rs fl dn left w h1 hl hrl h0 (rfind_of_some h1.asc he)).mono ?_
      rintro e w' ⟨rfl, old, rs', ho, hd, hrs, hb⟩
      rw [he] at ho
      obtain rfl := Option.some.inj ho
      rw [e1, e2] at hd
      exact ⟨rfl, fb, ⟨_, hd, by rw [hrs, abs_sput, ← hf]⟩, Or.inl rfl, hb⟩
  · rw [if_pos h0]
    refine (rfSync_no nm g fb rs fl dn left w h1 hl h0).mono ?_
    rintro e w' ⟨rfl, hd, hb⟩
    exact ⟨rfl, fb, ⟨rs, hd, rfl⟩, Or.inl rfl, hb.mono (by simp)⟩
theorem bDelete_calls (h : RefD w g fb d) (hl : (nmS nm).size ≤ 140737488355328) (hrl : d.fs.length * 48 ≤ 140737488355328) :
    Calls Tryd.prog 36 #[.pointer (some ⟨g, 0, none⟩), .string (nmS nm)] w fun e w' => e = .returned (.int .i64 (aDelete nm d).1) ∧ ∃ fb', RefD w' g fb' (aDelete nm d).2 ∧ (fb' = fb ∨ fb' = g ∨ w.heap.size ≤ fb') ∧ But [g, fb] w w' := by
  obtain ⟨rs, h1, h2⟩ := h.ex
  obtain ⟨fs, fl, dn, left⟩ := d
  simp only at h1 h2 hrl
  subst h2
  rw [abs_len] at hrl
  simp only [aDelete]
  by_cases h0 : dmay [nmS nm] dn = 0
  · rw [if_neg (by simpa using h0)]
    obtain ⟨e1, e2⟩ := chg_eq (left := left) h0
    cases hn : aget nm rs.abs with
    | none =>
      refine (rfDelete_none nm g fb rs fl dn left w h1 hl (by omega) h0 (rfind_of_none (aget_abs_none hn))).mono ?_
      rintro e w' ⟨rfl, hd, hb⟩
      rw [e1, e2] at hd
      exact ⟨rfl, fb, ⟨rs, hd, rfl⟩, Or.inl rfl, hb.mono (by simp)⟩
    | some f =>
      obtain ⟨e0, he, hf⟩ := aget_abs_some hn
      refine (rfDelete_ok nm g fb rs fl dn left w h1 hl hrl h0 (rfind_of_some h1.asc he)).mono ?_
      rintro e w' ⟨rfl, fb', hd, hfb, hb⟩
      rw [e1, e2] at hd
      exact ⟨rfl, fb', ⟨_, hd, abs_adel nm rs⟩, Or.inr hfb, hb.mono (by simp)⟩
  · rw [if_pos h0]
    refine (rfDelete_no nm g fb rs fl dn left w h1 hl h0).mono ?_
    rintro e w' ⟨rfl, hd, hb⟩
    exact ⟨rfl, fb, ⟨rs, hd, rfl⟩, Or.inl rfl, hb.mono (by simp)⟩
end
end Go.Proofs.YtmddgimadlmacaaDoor
/-! the document's disk as plain data: looks, arms, Restart, Clone -/
namespace Go.Proofs.YtmddgimadlmacaaDoor
open Go.RowKit Garner
section
variable (nm : Bs) (g fb : Nat) (d : AD) (w : World)
theorem bRead_calls (h : RefD w g fb d) (hl : (nmS nm).size ≤ 140737488355328) (hrl : d.fs.length ≤ 140737488355328) :
    Calls Tryd.prog 47 #[.pointer (some ⟨g, 0, none⟩), .string (nmS nm)] w fun e w' => (∃ A c, e = .returned (.tuple #[.slice A (aRead nm d).1.length c, .int .i64 (aRead nm d).2]) ∧ Bytes w' w'.heap.size A (aRead nm d).1.length (aRead nm d).1 ∧ (aRead nm d).1.length ≤ c) ∧ Below w.heap.size w w' := by
  obtain ⟨rs, h1, h2⟩ := h.ex
  obtain ⟨fs, fl, dn, left⟩ := d
  simp only at h1 h2 hrl
  subst h2
  rw [abs_len] at hrl
  simp only [aRead]
  by_cases h0 : dmay [nmS nm] dn = 0
  · rw [if_neg (by simpa using h0)]
    refine (rfRead_ok nm g fb rs fl dn left w h1 hl hrl h0).mono ?_
    rintro e w' ⟨⟨A, c, rfl, hb, hc⟩, hbl⟩
    cases hn : aget nm rs.abs with
    | none =>
      obtain ⟨e1, e2⟩ := rd_n (aget_abs_none hn)
      rw [e1] at hb hc ⊢
      rw [e2]
      exact ⟨⟨A, c, rfl, hb, hc⟩, hbl⟩
    | some f =>
      obtain ⟨e0, he, hf⟩ := aget_abs_some hn
      obtain ⟨e1, e2⟩ := rd_s he
      rw [e1] at hb hc ⊢
      rw [e2]
      rw [← hf]
      exact ⟨⟨A, c, rfl, hb, hc⟩, hbl⟩
  · rw [if_pos h0]
    refine (rfRead_no nm g fb rs fl dn left w h1 hl h0).mono ?_
    rintro e w' ⟨rfl, hb⟩
    exact ⟨⟨none, 0, rfl, ⟨rfl, fun h => absurd h (by simp)⟩, Nat.le_refl _⟩, hb⟩
theorem bFill_calls (b : Bool) (h : RefD w g fb d) :
    Calls Tryd.prog 29 #[.pointer (some ⟨g, 0, none⟩), .bool b] w fun e w' => e = .returned (.tuple #[]) ∧ RefD w' g fb (aFill b d) ∧ But [g] w w' := by
  obtain ⟨rs, h1, h2⟩ := h.ex
  refine (rfFill g fb rs d.fl d.dn d.left w b h1).mono ?_
  rintro e w' ⟨rfl, hd, hb⟩
  exact ⟨rfl, ⟨rs, hd, h2⟩, hb⟩
theorem bArm_calls (n : Int) (hn2 : n ≤ 9223372036854775807) (h : RefD w g fb d) :
    Calls Tryd.prog 31 #[.pointer (some ⟨g, 0, none⟩), .int .i64 n] w fun e w' => e = .returned (.tuple #[]) ∧ RefD w' g fb (aArm n d) ∧ But [g] w w' := by
  obtain ⟨rs, h1, h2⟩ := h.ex
  obtain ⟨fs, fl, dn, left⟩ := d
  simp only at h1 h2
  cases dn with
  | true =>
    refine (rfArm_no g fb rs fl left w n h1).mono ?_
    rintro e w' ⟨rfl, rfl⟩
    exact ⟨rfl, ⟨rs, h1, h2⟩, But.refl _ _⟩
  | false =>
    refine (rfArm_ok g fb rs fl left w n hn2 h1).mono ?_
    rintro e w' ⟨rfl, hd, hb⟩
    exact ⟨rfl, ⟨rs, hd, h2⟩, hb⟩
theorem bRestart_calls (keep : List Int) (A : Option Addr) (c : Nat) (hr : Row w w.heap.size 1 A keep.length (keep.map (Value.int .i64)))
    (hA : 0 < keep.length → ∀ b off, A = some ⟨b, off, none⟩ → b ≠ g ∧ b ≠ fb) (hkl : keep.length ≤ 140737488355328) (hkr : ∀ k ∈ keep, in64 k) (h : RefD w g fb d) (hl : d.fs.length ≤ 140737488355328) :
    Calls Tryd.prog 33 #[.pointer (some ⟨g, 0, none⟩), .slice A keep.length c] w fun e w' => e = .returned (.tuple #[]) ∧ RefD w' g fb (bRestart keep d) ∧ But [g, fb] w w' := by
  obtain ⟨rs, h1, h2⟩ := h.ex
  rw [← h2, abs_len] at hl
  refine (rfRestart keep A c g fb rs d.fl d.dn d.left w hr hA hkl hkr h1 hl).mono ?_
  rintro e w' ⟨rfl, rs', hd, hab, hb⟩
  refine ⟨rfl, ⟨rs', hd, ?_⟩, hb⟩
  rw [hab]
  unfold bRestart
  rw [← h2, abs_len]
end
end Go.Proofs.YtmddgimadlmacaaDoor
