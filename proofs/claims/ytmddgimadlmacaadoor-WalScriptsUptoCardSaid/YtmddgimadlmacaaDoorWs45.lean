import Derived.Test.YtmddgimadlmacaaDoorWs39
import Derived.Deep.QuietTactic
import Derived.BigQuiet
import Derived.Test.YtmddgimadlmacaaDoorWs36
/-! the two disks as plain data: what is alike stays alike -/
namespace Go.Proofs.YtmddgimadlmacaaDoor
open Go.RowKit Garner

theorem perm_of_mem {α : Type} : ∀ {a b : List α}, a.Nodup → b.Nodup → (∀ x, x ∈ a ↔ x ∈ b) → a.Perm b
  | [], b, _, _, h => by
    cases b with
    | nil => exact List.Perm.refl _
    | cons y l => exact absurd ((h y).2 List.mem_cons_self) (by simp)
  | x :: a, b, ha, hb, h => by
    obtain ⟨s, t, rfl⟩ := List.append_of_mem ((h x).1 List.mem_cons_self)
    have hp : (s ++ x :: t).Perm (x :: (s ++ t)) := List.perm_middle
    have hb' := hp.nodup_iff.1 hb
    rw [List.nodup_cons] at ha hb'
    refine ((perm_of_mem ha.2 hb'.2 (fun z => ?_)).cons x).trans hp.symm
    have hz := (h z).trans hp.mem_iff
    simp only [List.mem_cons] at hz
    constructor
    · intro hza
      rcases hz.1 (Or.inr hza) with e | h1
      · subst e; exact absurd hza ha.1
      · exact h1
    · intro hzb
      rcases hz.2 (Or.inr hzb) with e | h1
      · subst e; exact absurd hzb hb'.1
      · exact h1
section
variable {ν : Type}
theorem aget_aput (nm nm' : Bs) (v : ν) : ∀ l : List (Bs × ν), aget nm' (aput nm v l) = if nm' = nm then some v else aget nm' l
  | [] => by simp only [aput, aget]
  | (a, u) :: r => by
    simp only [aput]
    by_cases h1 : nm = a
    · rw [if_pos h1]
      subst h1
      simp only [aget]
      split <;> rfl
    · rw [if_neg h1]
      simp only [aget]
      rw [aget_aput nm nm' v r]
      by_cases h3 : nm' = a
      · rw [if_pos h3]
        by_cases h4 : nm' = nm
        · exact absurd (h4.symm.trans h3) h1
        · rw [if_neg h4, if_pos h3]
      · rw [if_neg h3, if_neg h3]
theorem aget_adel' (nm nm' : Bs) (l : List (Bs × ν)) (hn : (l.map (·.1)).Nodup) : aget nm' (adel nm l) = if nm' = nm then none else aget nm' l := by
  by_cases h : nm' = nm
  · subst h; rw [if_pos rfl]; exact aget_adel _ _ hn
  · rw [if_neg h]
    induction l with
    | nil => rfl
    | cons p r ih =>
      obtain ⟨a, u⟩ := p
      simp only [adel]
      by_cases h1 : nm = a
      · rw [if_pos h1]
        simp only [aget]
        rw [if_neg (fun e => h (e.trans h1.symm))]
      · rw [if_neg h1]
        simp only [aget]
        rw [ih (List.nodup_cons.1 hn).2]
theorem asc_nodup {l : List (Bs × ν)} (h : Asc l) : (l.map (·.1)).Nodup := by
  have h1 : (l.map (·.1)).Pairwise (· < ·) := List.pairwise_map.2 h
  exact h1.imp (fun {a b} h e => by subst e; exact absurd h (List.lt_irrefl _))
theorem asc_adel {nm : Bs} {l : List (Bs × ν)} (h : Asc l) : Asc (adel nm l) := by
  refine h.sublist ?_
  clear h
  induction l with
  | nil => exact List.Sublist.refl _
  | cons p r ih =>
    obtain ⟨a, u⟩ := p
    simp only [adel]
    split
    · exact List.sublist_cons_self _ _
    · exact ih.cons_cons _
theorem aget_mem_iff {nm : Bs} {l : List (Bs × ν)} : nm ∈ l.map (·.1) ↔ (aget nm l).isSome = true := by
  constructor
  · intro h; obtain ⟨v, hv⟩ := aget_some h; rw [hv]; rfl
  · intro h
    by_cases hm : nm ∈ l.map (·.1)
    · exact hm
    · rw [aget_none hm] at h; cases h
end
/-- the program's disk and the document's are alike -/
structure Sim (d b : AD) : Prop where
  get : ∀ nm, aget nm d.fs = aget nm b.fs
  nd : (d.fs.map (·.1)).Nodup
  asc : Asc b.fs
  fl : d.fl = b.fl
  dn : d.dn = b.dn
  left : d.left = b.left
section
variable {d b : AD}
theorem Sim.new : Sim AD.new AD.new := ⟨fun _ => rfl, List.nodup_nil, List.Pairwise.nil, rfl, rfl, rfl⟩
theorem Sim.names (h : Sim d b) : sortN (d.fs.map (·.1)) = b.fs.map (·.1) := by
  have hp : (d.fs.map (·.1)).Perm (b.fs.map (·.1)) := perm_of_mem h.nd (asc_nodup h.asc) fun x => by rw [aget_mem_iff, aget_mem_iff, h.get]
  have h1 : (sortN (d.fs.map (·.1))).Pairwise fun x y => decide (x ≤ y) = true := List.pairwise_mergeSort (fun a b c h1 h2 => by simp only [decide_eq_true_eq] at *; exact List.le_trans h1 h2) le_tot _
  have h2 : (b.fs.map (·.1)).Pairwise fun x y => decide (x ≤ y) = true := (List.pairwise_map.2 h.asc : (b.fs.map (·.1)).Pairwise (· < ·)).imp fun {x y} hxy => by
    rw [decide_eq_true_eq]; exact List.le_of_lt hxy
  refine List.Perm.eq_of_pairwise (le := fun x y => decide (x ≤ y) = true) (fun a b _ _ ha hb => ?_) h1 h2 ((List.mergeSort_perm _ _).trans hp)
  simp only [decide_eq_true_eq] at ha hb
  exact List.le_antisymm ha hb
theorem Sim.len (h : Sim d b) : d.fs.length = b.fs.length := by
  have := congrArg List.length h.names
  rw [sortN_len] at this
  simpa using this
theorem Sim.chg (h : Sim d b) : Sim (AD.chg d) (AD.chg b) := ⟨h.get, h.nd, h.asc, h.fl, by show armedD d.left d.dn = armedD b.left b.dn; rw [h.left, h.dn], by show armed d.left = armed b.left; rw [h.left]⟩
theorem Sim.put (h : Sim d b) (nm : Bs) (f : FileD) : Sim { AD.chg d with fs := aput nm f d.fs } { AD.chg b with fs := sput nm f b.fs } :=
  ⟨fun nm' => by show aget nm' (aput nm f d.fs) = aget nm' (sput nm f b.fs); rw [aget_aput, aget_sput, h.get], nodup_aput h.nd, asc_sput h.asc, h.fl, h.chg.dn, h.chg.left⟩
theorem Sim.del (h : Sim d b) (nm : Bs) : Sim { d with fs := adel nm d.fs } { b with fs := adel nm b.fs } :=
  ⟨fun nm' => by show aget nm' (adel nm d.fs) = aget nm' (adel nm b.fs); rw [aget_adel' _ _ _ h.nd, aget_adel' _ _ _ (asc_nodup h.asc), h.get], nodup_adel h.nd, asc_adel h.asc, h.fl, h.dn, h.left⟩
theorem Sim.append (h : Sim d b) (nm data : Bs) : (aAppend nm data d).1 = (bAppend nm data b).1 ∧ Sim (aAppend nm data d).2 (bAppend nm data b).2 := by
  unfold aAppend bAppend
  rw [h.dn, h.fl]
  by_cases h0 : dmay [nmS nm] b.dn ≠ 0
  · rw [if_pos h0, if_pos h0]; exact ⟨rfl, h⟩
  · rw [if_neg h0, if_neg h0]
    cases hf : b.fl with
    | true => exact ⟨rfl, h.chg⟩
    | false =>
      refine ⟨rfl, ?_⟩
      have e : fget nm d.fs = fget nm b.fs := by unfold fget; rw [h.get]
      have := h.put nm ((fget nm b.fs).1 ++ data, (fget nm b.fs).2)
      rw [← e] at this
      simp only [Bool.false_eq_true, if_false]
      rw [← e]
      exact this
theorem Sim.sync (h : Sim d b) (nm : Bs) : (aSync nm d).1 = (bSync nm b).1 ∧ Sim (aSync nm d).2 (bSync nm b).2 := by
  unfold aSync bSync
  rw [h.dn, h.get]
  by_cases h0 : dmay [nmS nm] b.dn ≠ 0
  · rw [if_pos h0, if_pos h0]; exact ⟨rfl, h⟩
  · rw [if_neg h0, if_neg h0]
    cases aget nm b.fs with
    | none => exact ⟨rfl, h.chg⟩
    | some f => exact ⟨rfl, h.put nm _⟩
theorem Sim.delete (h : Sim d b) (nm : Bs) : (aDelete nm d).1 = (aDelete nm b).1 ∧ Sim (aDelete nm d).2 (aDelete nm b).2 := by
  unfold aDelete
  rw [h.dn, h.get]
  by_cases h0 : dmay [nmS nm] b.dn ≠ 0
  · rw [if_pos h0, if_pos h0]; exact ⟨rfl, h⟩
  · rw [if_neg h0, if_neg h0]
    cases aget nm b.fs with
    | none => exact ⟨rfl, h.chg⟩
    | some f => exact ⟨rfl, h.chg.del nm⟩
theorem Sim.rename (h : Sim d b) (nm nm2 : Bs) : (aRename nm nm2 d).1 = (bRename nm nm2 b).1 ∧ Sim (aRename nm nm2 d).2 (bRename nm nm2 b).2 := by
  unfold aRename bRename
  rw [h.dn, h.get]
  by_cases h0 : dmay [nmS nm, nmS nm2] b.dn ≠ 0
  · rw [if_pos h0, if_pos h0]; exact ⟨rfl, h⟩
  · rw [if_neg h0, if_neg h0]
    cases aget nm b.fs with
    | none => exact ⟨rfl, h.chg⟩
    | some f => exact ⟨rfl, (h.del nm).put nm2 f⟩
theorem Sim.read (h : Sim d b) (nm : Bs) : aRead nm d = aRead nm b := by
  unfold aRead
  rw [h.dn, h.get]
theorem Sim.list (h : Sim d b) : aList d = bList b := by
  unfold aList bList
  rw [h.dn, h.names]
theorem Sim.fill (h : Sim d b) (x : Bool) : Sim (aFill x d) (aFill x b) := ⟨h.get, h.nd, h.asc, rfl, h.dn, h.left⟩
theorem Sim.arm (h : Sim d b) (n : Int) : Sim (aArm n d) (aArm n b) := by
  unfold aArm
  rw [h.dn]
  cases b.dn with
  | true => exact h
  | false => exact ⟨h.get, h.nd, h.asc, h.fl, rfl, rfl⟩
theorem rstI_up (keep : List Int) {fs : List (Bs × FileD)} (h : Asc fs) : rstI keep fs.length fs = rstUp keep (fs.map (·.1)) fs.length fs := by
  unfold rstI rstUp
  apply List.ext_getElem (by simp)
  intro j h1 h2
  have hj : j < fs.length := by simpa using h1
  rw [List.getElem_mapIdx, List.getElem_map, if_pos hj]
  have e : (fs.map (·.1)).idxOf fs[j].1 = j := by
    have := idx_at (asc_nodup h) (i := j) (by simpa using hj)
    simpa using this
  rw [e, if_pos hj]
theorem Sim.restart (h : Sim d b) (keep : List Int) : Sim (aRestart keep d) (bRestart keep b) := by
  have hk : (rstI keep b.fs.length b.fs).map (·.1) = b.fs.map (·.1) := by rw [rstI_up keep h.asc, rstUp_keys]
  refine ⟨fun nm => ?_, ?_, ?_, rfl, rfl, rfl⟩
  · show aget nm (rst keep d.fs) = aget nm (rstI keep b.fs.length b.fs)
    rw [rstI_up keep h.asc]
    unfold rst rstUp
    rw [h.names, h.len, aget_map' (f := fun k (v : FileD) => if (b.fs.map (·.1)).idxOf k < b.fs.length then cutD keep ((b.fs.map (·.1)).idxOf k) v else v), aget_map' (f := fun k (v : FileD) => if (b.fs.map (·.1)).idxOf k < b.fs.length then cutD keep ((b.fs.map (·.1)).idxOf k) v else v), h.get]
  · show ((rst keep d.fs).map (·.1)).Nodup
    unfold rst
    rw [rstUp_keys]; exact h.nd
  · show Asc (rstI keep b.fs.length b.fs)
    exact asc_keys h.asc hk
/-- a clone: its files in another order -/
theorem Sim.clone (h : Sim d b) {fs' : List (Bs × FileD)} (hp : fs'.Perm d.fs) : Sim ⟨fs', d.fl, d.dn, d.left⟩ b := by
  have hn : (fs'.map (·.1)).Nodup := (hp.map _).nodup_iff.2 h.nd
  refine ⟨fun nm => ?_, hn, h.asc, h.fl, h.dn, h.left⟩
  rw [← h.get]
  show aget nm fs' = aget nm d.fs
  cases hg : aget nm d.fs with
  | some v => exact aget_of_mem hn (hp.mem_iff.2 (aget_mem hg))
  | none =>
    refine aget_none fun hm => ?_
    have := aget_mem_iff.1 ((hp.map _).mem_iff.1 hm)
    rw [hg] at this
    cases this
end
end Go.Proofs.YtmddgimadlmacaaDoor
/-! garnerlaw05.same: two rows of names -/
namespace Go.Proofs.YtmddgimadlmacaaDoor
open Go.RowKit Garner

theorem nmS_inj {a b : Bs} (h : nmS a = nmS b) : a = b := by
  have := congrArg (fun s : ByteArray => s.data.toList) h
  simpa [nmS] using this
end Go.Proofs.YtmddgimadlmacaaDoor
/-! a disk of the program's and one of the document's in one memory -/
namespace Go.Proofs.YtmddgimadlmacaaDoor
open Go.RowKit Garner
section
variable {O : Nat → Prop} {w w' : World} {g mp gr fb : Nat} {d b : AD}
/-- blocks without bytes written -/
theorem DiskO.butT {S : List Nat} (h : DiskO O w g mp d) (hb : But S w w') (hg : g ∉ S) (hm : mp ∉ S) (hS : ∀ s ∈ S, NB w s ∨ w.heap.size ≤ s) : DiskO O w' g mp d := by
  obtain ⟨es, h1, h2⟩ := h
  exact ⟨es, ⟨h1.blk.but hb hg, h1.map.of_block (hb.block mp (MapIs.lt h1.map) hm), fun p hp => (h1.files p hp).butT hb hS, h1.nodup, h1.lo, h1.hi⟩, h2⟩
theorem DiskO.nbs (h : DiskO O w g mp d) : NB w g ∧ NB w mp ∧ g ≠ mp := by
  obtain ⟨es, h1, h2⟩ := h
  exact ⟨NB.blk h1.blk (by decide), NB.map h1.map, h1.ne⟩
/-- a pair: both nil, or both there and alike -/
inductive Pair (w : World) : Value → Value → List Nat → Option AD → Prop
  | nil : Pair w (.pointer none) (.pointer none) [] none
  | both {g mp gr fb : Nat} {d b : AD} (hd : DiskO (fun _ => True) w g mp d) (hb : RefD w gr fb b) (hs : Sim d b) (hn : ∀ k ∈ [g, mp], k ∉ [gr, fb]) : Pair w (.pointer (some ⟨g, 0, none⟩)) (.pointer (some ⟨gr, 0, none⟩)) [g, mp, gr, fb] (some b)
theorem Pair.butT {v u : Value} {bs S : List Nat} {o : Option AD} (h : Pair w v u bs o) (hb : But S w w') (hd : ∀ k ∈ bs, k ∉ S) (hS : ∀ s ∈ S, NB w s ∨ w.heap.size ≤ s) : Pair w' v u bs o := by
  cases h with
  | nil => exact .nil
  | both h1 h2 h3 h4 => exact .both (h1.butT hb (hd _ (by simp)) (hd _ (by simp)) hS) (h2.butT hb (hd _ (by simp)) (hd _ (by simp)) hS) h3 h4
theorem Pair.nbs {v u : Value} {bs : List Nat} {o : Option AD} (h : Pair w v u bs o) : ∀ k ∈ bs, NB w k ∧ k < w.heap.size := by
  cases h with
  | nil => simp
  | both h1 h2 h3 h4 =>
    intro k hk
    simp only [List.mem_cons, List.not_mem_nil, or_false] at hk
    obtain ⟨a1, a2, _⟩ := h1.nbs
    obtain ⟨b1, b2⟩ := h1.ltg
    obtain ⟨c1, c2, c3, c4⟩ := h2.lts
    rcases hk with rfl | rfl | rfl | rfl
    · exact ⟨a1, b1⟩
    · exact ⟨a2, b2⟩
    · exact ⟨c3, c1⟩
    · exact ⟨c4, c2⟩
end
end Go.Proofs.YtmddgimadlmacaaDoor
/-! every name on the disk is a good one -/
namespace Go.Proofs.YtmddgimadlmacaaDoor
open Go.RowKit Garner

theorem dmay_ok1 {nm : Bs} {dn : Bool} (h : dmay [nmS nm] dn = 0) : nameOk (nmS nm) = true := by
  cases hn : nameOk (nmS nm) with
  | true => rfl
  | false =>
    have : dmay [nmS nm] dn = 1 := by unfold dmay; simp [hn]
    omega
theorem dmay_ok2 {nm nm2 : Bs} {dn : Bool} (h : dmay [nmS nm, nmS nm2] dn = 0) : nameOk (nmS nm2) = true := by
  cases hn : nameOk (nmS nm2) with
  | true => rfl
  | false =>
    have : dmay [nmS nm, nmS nm2] dn = 1 := by unfold dmay; simp [hn]
    omega
/-- all names are good -/
def Good (fs : List (Bs × FileD)) : Prop := ∀ nm, (aget nm fs).isSome = true → nameOk (nmS nm) = true
theorem Good.nil : Good [] := fun nm h => by cases h
theorem Good.sput {fs : List (Bs × FileD)} (h : Good fs) {nm : Bs} (hn : nameOk (nmS nm) = true) (f : FileD) : Good (sput nm f fs) := fun nm' hs => by
  rw [aget_sput] at hs
  by_cases e : nm' = nm
  · subst e; exact hn
  · rw [if_neg e] at hs; exact h nm' hs
theorem Good.adel {fs : List (Bs × FileD)} (h : Good fs) (ha : Asc fs) (nm : Bs) : Good (adel nm fs) := fun nm' hs => by
  rw [aget_adel' _ _ _ (asc_nodup ha)] at hs
  by_cases e : nm' = nm
  · rw [if_pos e] at hs; cases hs
  · rw [if_neg e] at hs; exact h nm' hs
section
variable {b : AD}
theorem Good.append (h : Good b.fs) (nm data : Bs) : Good (bAppend nm data b).2.fs := by
  unfold bAppend
  by_cases h0 : dmay [nmS nm] b.dn ≠ 0
  · rw [if_pos h0]; exact h
  · rw [if_neg h0]
    split
    · exact h
    · exact h.sput (dmay_ok1 (Classical.not_not.1 h0)) _
theorem Good.sync (h : Good b.fs) (nm : Bs) : Good (bSync nm b).2.fs := by
  unfold bSync
  by_cases h0 : dmay [nmS nm] b.dn ≠ 0
  · rw [if_pos h0]; exact h
  · rw [if_neg h0]
    cases aget nm b.fs with
    | none => exact h
    | some f => exact h.sput (dmay_ok1 (Classical.not_not.1 h0)) _
theorem Good.delete (h : Good b.fs) (ha : Asc b.fs) (nm : Bs) : Good (aDelete nm b).2.fs := by
  unfold aDelete
  by_cases h0 : dmay [nmS nm] b.dn ≠ 0
  · rw [if_pos h0]; exact h
  · rw [if_neg h0]
    cases aget nm b.fs with
    | none => exact h
    | some f => exact h.adel ha nm
theorem Good.rename (h : Good b.fs) (ha : Asc b.fs) (nm nm2 : Bs) : Good (bRename nm nm2 b).2.fs := by
  unfold bRename
  by_cases h0 : dmay [nmS nm, nmS nm2] b.dn ≠ 0
  · rw [if_pos h0]; exact h
  · rw [if_neg h0]
    cases aget nm b.fs with
    | none => exact h
    | some f => exact (h.adel ha nm).sput (dmay_ok2 (Classical.not_not.1 h0)) f
theorem Good.arm (h : Good b.fs) (n : Int) : Good (aArm n b).fs := by
  unfold aArm
  split
  · exact h
  · exact h
theorem Good.restart (h : Good b.fs) (ha : Asc b.fs) (keep : List Int) : Good (bRestart keep b).fs := fun nm hs => by
  refine h nm ?_
  have e : (bRestart keep b).fs = rstUp keep (b.fs.map (·.1)) b.fs.length b.fs := rstI_up keep ha
  rw [← aget_mem_iff] at hs ⊢
  rw [e, rstUp_keys] at hs
  exact hs
end
end Go.Proofs.YtmddgimadlmacaaDoor
