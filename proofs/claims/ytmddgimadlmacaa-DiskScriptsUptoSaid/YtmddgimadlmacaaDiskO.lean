/-
  The same, where it is said whose memory the disk's is.
-/
import Derived.Test.YtmddgimadlmacaaDiskA
namespace Go.Proofs.Ytmddgimadlmacaa
open Go.RowKit Garner

/-- the disk d lies at g, mp; its files' bytes lie where O says -/
def DiskO (O : Nat → Prop) (w : World) (g mp : Nat) (d : AD) : Prop := ∃ es, DiskIs O w g mp es d.fl d.dn d.left ∧ es.abs = d.fs
section
variable {O O' : Nat → Prop} {g mp : Nat} {d : AD} {w w' : World}
theorem DiskO.below (h : DiskO O w g mp d) (hb : Below w.heap.size w w') : DiskO O w' g mp d := by
  obtain ⟨es, h1, h2⟩ := h
  exact ⟨es, h1.below hb, h2⟩
theorem DiskO.mono (h : DiskO O w g mp d) (hO : ∀ b, O b → O' b) : DiskO O' w g mp d := by
  obtain ⟨es, h1, h2⟩ := h
  exact ⟨es, h1.mono hO, h2⟩
theorem DiskO.lt (h : DiskO O w g mp d) : DiskO (fun b => O b ∧ b < w.heap.size) w g mp d := by
  obtain ⟨es, h1, h2⟩ := h
  exact ⟨es, h1.lt, h2⟩
theorem DiskO.but {S : List Nat} (h : DiskO O w g mp d) (hb : But S w w') (hg : g ∉ S) (hm : mp ∉ S) (hO : ∀ b, O b → b < w.heap.size → b ∉ S) : DiskO O w' g mp d := by
  obtain ⟨es, h1, h2⟩ := h
  exact ⟨es, h1.but hb hg hm hO, h2⟩
theorem DiskO.a {base : Nat} (h : DiskO O w g mp d) (hO : ∀ b, O b → base ≤ b) (hg : base ≤ g) (hm : base ≤ mp) (hb : base ≤ w.heap.size) : DiskA base w g mp d := by
  obtain ⟨es, h1, h2⟩ := h
  exact ⟨⟨es, h1.mono hO, h2⟩, hg, hm, hb⟩
theorem DiskA.o {base : Nat} (h : DiskA base w g mp d) : DiskO (fun b => base ≤ b) w g mp d := h.ex
theorem DiskO.ltg (h : DiskO O w g mp d) : g < w.heap.size ∧ mp < w.heap.size := by
  obtain ⟨es, h1, _⟩ := h
  exact ⟨h1.blk.lt, MapIs.lt h1.map⟩
/-- a row of bytes of the call's own is neither the disk's box nor its map -/
theorem DiskO.ne_own (h : DiskO O w g mp d) {B n sz : Nat} {e : TypeId} {v : Value} {xs : List Value} (ho : w.ownsRow B e sz v n xs) (hne : e ≠ 97) : g ∉ v.ownBlock.toList ∧ mp ∉ v.ownBlock.toList := by
  obtain ⟨es, h1, _⟩ := h
  refine ⟨own_blk ho h1.blk hne, fun hm => ?_⟩
  rcases ho.2 with ⟨rfl, _⟩ | ⟨g', cap, cur, rfl, _, hh, _⟩
  · simp [Value.ownBlock] at hm
  · have e1 : mp = g' := by simpa [Value.ownBlock] using hm
    subst e1
    obtain ⟨_, _, hm1, _⟩ := h1.map
    rw [hm1] at hh; cases hh
end
section
variable (nm nm2 data : Bs) (A : Option Addr) (c B g mp : Nat) (d : AD) (O : Nat → Prop) (w : World)
theorem oAppend_calls (h : DiskO O w g mp d) (hr : Bytes w B A data.length data) (hB : B ≤ w.heap.size) (hl : (fget nm d.fs).1.length + data.length ≤ 140737488355328) :
    Calls Try.prog 19 #[.pointer (some ⟨g, 0, none⟩), .string (nmS nm), .slice A data.length c] w fun e w' => e = .returned (.int .i64 (aAppend nm data d).1) ∧ DiskO (fun b => O b ∨ w.heap.size ≤ b) w' g mp (aAppend nm data d).2 ∧ But [g, mp] w w' := by
  obtain ⟨es, h1, h2⟩ := h
  obtain ⟨fs, fl, dn, left⟩ := d
  simp only at h1 h2
  subst h2
  simp only [aAppend]
  by_cases h0 : dmay [nmS nm] dn = 0
  · rw [if_neg (by simpa using h0)]
    obtain ⟨e1, e2⟩ := chg_eq (left := left) h0
    cases fl with
    | true =>
      refine (vAppend_full nm g mp es dn left _ w _ h1 h0).mono ?_
      rintro e w' ⟨rfl, hd, hb⟩
      rw [e1, e2] at hd
      exact ⟨rfl, ⟨es, hd.mono fun _ h => Or.inl h, rfl⟩, hb⟩
    | false =>
      simp only [fget_abs] at hl
      refine (vAppend_ok nm data A c B g mp es dn left _ w h1 h0 hr hB hl).mono ?_
      rintro e w' ⟨rfl, A', c', hd, hb⟩
      rw [e1, e2] at hd
      exact ⟨rfl, ⟨_, hd.mono (fun _ h => h), by rw [abs_aput]; simp only [fget_abs]; rfl⟩, hb⟩
  · rw [if_pos h0]
    refine (vAppend_no nm g mp es fl dn left _ w _ h1 h0).mono ?_
    rintro e w' ⟨rfl, hd, hb⟩
    exact ⟨rfl, ⟨es, hd.mono fun _ h => Or.inl h, rfl⟩, hb⟩
theorem oSync_calls (h : DiskO O w g mp d) :
    Calls Try.prog 20 #[.pointer (some ⟨g, 0, none⟩), .string (nmS nm)] w fun e w' => e = .returned (.int .i64 (aSync nm d).1) ∧ DiskO (fun b => O b ∨ w.heap.size ≤ b) w' g mp (aSync nm d).2 ∧ But [g, mp] w w' := by
  obtain ⟨es, h1, h2⟩ := h
  obtain ⟨fs, fl, dn, left⟩ := d
  simp only at h1 h2
  subst h2
  simp only [aSync]
  by_cases h0 : dmay [nmS nm] dn = 0
  · rw [if_neg (by simpa using h0)]
    obtain ⟨e1, e2⟩ := chg_eq (left := left) h0
    cases hn : aget nm es.abs with
    | none =>
      refine (vSync_none nm g mp es fl dn left _ w h1 h0 (aget_abs_none hn)).mono ?_
      rintro e w' ⟨rfl, hd, hb⟩
      rw [e1, e2] at hd
      exact ⟨rfl, ⟨es, hd.mono fun _ h => Or.inl h, rfl⟩, hb⟩
    | some f =>
      obtain ⟨old, ho, rfl⟩ := aget_abs_some hn
      refine (vSync_ok nm g mp es fl dn left _ w old h1 h0 ho).mono ?_
      rintro e w' ⟨rfl, hd, hb⟩
      rw [e1, e2] at hd
      exact ⟨rfl, ⟨_, hd.mono fun _ h => Or.inl h, by rw [abs_aput]⟩, hb⟩
  · rw [if_pos h0]
    refine (vSync_no nm g mp es fl dn left _ w h1 h0).mono ?_
    rintro e w' ⟨rfl, hd, hb⟩
    exact ⟨rfl, ⟨es, hd.mono fun _ h => Or.inl h, rfl⟩, hb⟩
theorem oDelete_calls (h : DiskO O w g mp d) :
    Calls Try.prog 28 #[.pointer (some ⟨g, 0, none⟩), .string (nmS nm)] w fun e w' => e = .returned (.int .i64 (aDelete nm d).1) ∧ DiskO (fun b => O b ∨ w.heap.size ≤ b) w' g mp (aDelete nm d).2 ∧ But [g, mp] w w' := by
  obtain ⟨es, h1, h2⟩ := h
  obtain ⟨fs, fl, dn, left⟩ := d
  simp only at h1 h2
  subst h2
  simp only [aDelete]
  by_cases h0 : dmay [nmS nm] dn = 0
  · rw [if_neg (by simpa using h0)]
    obtain ⟨e1, e2⟩ := chg_eq (left := left) h0
    cases hn : aget nm es.abs with
    | none =>
      refine (vDelete_none nm g mp es fl dn left _ w h1 h0 (aget_abs_none hn)).mono ?_
      rintro e w' ⟨rfl, hd, hb⟩
      rw [e1, e2] at hd
      exact ⟨rfl, ⟨es, hd.mono fun _ h => Or.inl h, rfl⟩, hb⟩
    | some f =>
      obtain ⟨old, ho, rfl⟩ := aget_abs_some hn
      refine (vDelete_ok nm g mp es fl dn left _ w old h1 h0 ho).mono ?_
      rintro e w' ⟨rfl, hd, hb⟩
      rw [e1, e2] at hd
      exact ⟨rfl, ⟨_, hd.mono fun _ h => Or.inl h, by rw [abs_adel]⟩, hb⟩
  · rw [if_pos h0]
    refine (vDelete_no nm g mp es fl dn left _ w h1 h0).mono ?_
    rintro e w' ⟨rfl, hd, hb⟩
    exact ⟨rfl, ⟨es, hd.mono fun _ h => Or.inl h, rfl⟩, hb⟩
theorem oRename_calls (h : DiskO O w g mp d) :
    Calls Try.prog 24 #[.pointer (some ⟨g, 0, none⟩), .string (nmS nm), .string (nmS nm2)] w fun e w' => e = .returned (.int .i64 (aRename nm nm2 d).1) ∧ DiskO (fun b => O b ∨ w.heap.size ≤ b) w' g mp (aRename nm nm2 d).2 ∧ But [g, mp] w w' := by
  obtain ⟨es, h1, h2⟩ := h
  obtain ⟨fs, fl, dn, left⟩ := d
  simp only at h1 h2
  subst h2
  simp only [aRename]
  by_cases h0 : dmay [nmS nm, nmS nm2] dn = 0
  · rw [if_neg (by simpa using h0)]
    obtain ⟨e1, e2⟩ := chg_eq (left := left) h0
    cases hn : aget nm es.abs with
    | none =>
      refine (vRename_none nm nm2 g mp es fl dn left _ w h1 h0 (aget_abs_none hn)).mono ?_
      rintro e w' ⟨rfl, hd, hb⟩
      rw [e1, e2] at hd
      exact ⟨rfl, ⟨es, hd.mono fun _ h => Or.inl h, rfl⟩, hb⟩
    | some f =>
      obtain ⟨old, ho, rfl⟩ := aget_abs_some hn
      refine (vRename_ok nm nm2 g mp es fl dn left _ w old h1 h0 ho).mono ?_
      rintro e w' ⟨rfl, hd, hb⟩
      rw [e1, e2] at hd
      exact ⟨rfl, ⟨_, hd.mono fun _ h => Or.inl h, by rw [abs_aput, abs_adel]⟩, hb⟩
  · rw [if_pos h0]
    refine (vRename_no nm nm2 g mp es fl dn left _ w h1 h0).mono ?_
    rintro e w' ⟨rfl, hd, hb⟩
    exact ⟨rfl, ⟨es, hd.mono fun _ h => Or.inl h, rfl⟩, hb⟩
theorem oRestart_calls (keep : List Int) (h : DiskO O w g mp d) (hr : Row w w.heap.size 1 A keep.length (keep.map (Value.int .i64)))
    (hA : 0 < keep.length → ∀ b off, A = some ⟨b, off, none⟩ → b ≠ g ∧ b ≠ mp) (hkl : keep.length ≤ 140737488355328) (hkr : ∀ k ∈ keep, in64 k) (hn : d.fs.length * 16 ≤ 140737488351232) :
    Calls Try.prog 21 #[.pointer (some ⟨g, 0, none⟩), .slice A keep.length c] w fun e w' => e = .returned (.tuple #[]) ∧ DiskO (fun b => O b ∨ w.heap.size ≤ b) w' g mp (aRestart keep d) ∧ But [g, mp] w w' := by
  obtain ⟨es, h1, h2⟩ := h
  refine (vRestart keep A c g mp es d.fl d.dn d.left _ w hr hA hkl hkr h1 (by rw [← abs_len, h2]; exact hn)).mono ?_
  rintro e w' ⟨rfl, es', hd, ha, hb⟩
  exact ⟨rfl, ⟨es', hd.mono (fun _ h => h), by rw [ha, h2]; rfl⟩, hb⟩
end
end Go.Proofs.Ytmddgimadlmacaa
