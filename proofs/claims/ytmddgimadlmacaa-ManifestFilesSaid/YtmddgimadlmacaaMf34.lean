import Derived.Test.YtmddgimadlmacaaMf33
import Derived.Deep.QuietTactic
import Derived.BigQuiet
/-! the two disks as plain data: what is alike stays alike -/
namespace Go.Proofs.Ytmddgimadlmacaa
open Go.RowKit Garner

theorem perm_of_mem {α : Type} : ∀ {a b : List α}, a.Nodup → b.Nodup → (∀ x, x ∈ a ↔ x ∈ b) → a.Perm b
  | [], b, _, _, h => by
    cases b with
    | nil => exact List.Perm.refl _
    | cons y l => exact absurd ((h y).2 List.mem_cons_self) (by simp)
  | x :: a, b, ha, hb, h => by
    obtain ⟨s, t, rfl⟩ := List.append_of_mem ((h x).1 List.mem_cons_self)
    have hp : (s ++ x :: t).Perm (x :: (s ++ t)) := List.perm_middle
    have hb' := hp.nodup_iff.1 hb
    rw [List.nodup_cons] at ha hb'
    refine ((perm_of_mem ha.2 hb'.2 (fun z => ?_)).cons x).trans hp.symm
    have hz := (h z).trans hp.mem_iff
    simp only [List.mem_cons] at hz
    constructor
    · intro hza
      rcases hz.1 (Or.inr hza) with e | h1
      · subst e; exact absurd hza ha.1
      · exact h1
    · intro hzb
      rcases hz.2 (Or.inr hzb) with e | h1
      · subst e; exact absurd hzb hb'.1
      · exact h1
section
variable {ν : Type}
theorem aget_aput (nm nm' : Bs) (v : ν) : ∀ l : List (Bs × ν), aget nm' (aput nm v l) = if nm' = nm then some v else aget nm' l
  | [] => by simp only [aput, aget]
  | (a, u) :: r => by
    simp only [aput]
    by_cases h1 : nm = a
    · rw [if_pos h1]
      subst h1
      simp only [aget]
      split <;> rfl
    · rw [if_neg h1]
      simp only [aget]
      rw [aget_aput nm nm' v r]
      by_cases h3 : nm' = a
      · rw [if_pos h3]
        by_cases h4 : nm' = nm
        · exact absurd (h4.symm.trans h3) h1
        · rw [if_neg h4, if_pos h3]
      · rw [if_neg h3, if_neg h3]
theorem aget_adel' (nm nm' : Bs) (l : List (Bs × ν)) (hn : (l.map (·.1)).Nodup) : aget nm' (adel nm l) = if nm' = nm then none else aget nm' l := by
  by_cases h : nm' = nm
  · subst h; rw [if_pos rfl]; exact aget_adel _ _ hn
  · rw [if_neg h]
    induction l with
    | nil => rfl
    | cons p r ih =>
      obtain ⟨a, u⟩ := p
      simp only [adel]
      by_cases h1 : nm = a
      · rw [if_pos h1]
        simp only [aget]
        rw [if_neg (fun e => h (e.trans h1.symm))]
      · rw [if_neg h1]
        simp only [aget]
        rw [ih (List.nodup_cons.1 hn).2]
theorem asc_nodup {l : List (Bs × ν)} (h : Asc l) : (l.map (·.1)).Nodup := by
  have h1 : (l.map (·.1)).Pairwise (· < ·) := List.pairwise_map.2 h
  exact h1.imp (fun {a b} h e => by subst e; exact absurd h (List.lt_irrefl _))
theorem asc_adel {nm : Bs} {l : List (Bs × ν)} (h : Asc l) : Asc (adel nm l) := by
  refine h.sublist ?_
  clear h
  induction l with
  | nil => exact List.Sublist.refl _
  | cons p r ih =>
    obtain ⟨a, u⟩ := p
    simp only [adel]
    split
    · exact List.sublist_cons_self _ _
    · exact ih.cons_cons _
theorem aget_mem_iff {nm : Bs} {l : List (Bs × ν)} : nm ∈ l.map (·.1) ↔ (aget nm l).isSome = true := by
  constructor
  · intro h; obtain ⟨v, hv⟩ := aget_some h; rw [hv]; rfl
  · intro h
    by_cases hm : nm ∈ l.map (·.1)
    · exact hm
    · rw [aget_none hm] at h; cases h
end
/-- the program's disk and the document's are alike -/
structure Sim (d b : AD) : Prop where
  get : ∀ nm, aget nm d.fs = aget nm b.fs
  nd : (d.fs.map (·.1)).Nodup
  asc : Asc b.fs
  fl : d.fl = b.fl
  dn : d.dn = b.dn
  left : d.left = b.left
section
variable {d b : AD}
theorem Sim.new : Sim AD.new AD.new := ⟨fun _ => rfl, List.nodup_nil, List.Pairwise.nil, rfl, rfl, rfl⟩
theorem Sim.names (h : Sim d b) : sortN (d.fs.map (·.1)) = b.fs.map (·.1) := by
  have hp : (d.fs.map (·.1)).Perm (b.fs.map (·.1)) := perm_of_mem h.nd (asc_nodup h.asc) fun x => by rw [aget_mem_iff, aget_mem_iff, h.get]
  have h1 : (sortN (d.fs.map (·.1))).Pairwise fun x y => decide (x ≤ y) = true := List.pairwise_mergeSort (fun a b c h1 h2 => by simp only [decide_eq_true_eq] at *; exact List.le_trans h1 h2) le_tot _
  have h2 : (b.fs.map (·.1)).Pairwise fun x y => decide (x ≤ y) = true := (List.pairwise_map.2 h.asc : (b.fs.map (·.1)).Pairwise (· < ·)).imp fun {x y} hxy => by
    rw [decide_eq_true_eq]; exact List.le_of_lt hxy
  refine List.Perm.eq_of_pairwise (le := fun x y => decide (x ≤ y) = true) (fun a b _ _ ha hb => ?_) h1 h2 ((List.mergeSort_perm _ _).trans hp)
  simp only [decide_eq_true_eq] at ha hb
  exact List.le_antisymm ha hb
theorem Sim.len (h : Sim d b) : d.fs.length = b.fs.length := by
  have := congrArg List.length h.names
  rw [sortN_len] at this
  simpa using this
theorem Sim.chg (h : Sim d b) : Sim (AD.chg d) (AD.chg b) := ⟨h.get, h.nd, h.asc, h.fl, by show armedD d.left d.dn = armedD b.left b.dn; rw [h.left, h.dn], by show armed d.left = armed b.left; rw [h.left]⟩
theorem Sim.put (h : Sim d b) (nm : Bs) (f : FileD) : Sim { AD.chg d with fs := aput nm f d.fs } { AD.chg b with fs := sput nm f b.fs } :=
  ⟨fun nm' => by show aget nm' (aput nm f d.fs) = aget nm' (sput nm f b.fs); rw [aget_aput, aget_sput, h.get], nodup_aput h.nd, asc_sput h.asc, h.fl, h.chg.dn, h.chg.left⟩
theorem Sim.del (h : Sim d b) (nm : Bs) : Sim { d with fs := adel nm d.fs } { b with fs := adel nm b.fs } :=
  ⟨fun nm' => by show aget nm' (adel nm d.fs) = aget nm' (adel nm b.fs); rw [aget_adel' _ _ _ h.nd, aget_adel' _ _ _ (asc_nodup h.asc), h.get], nodup_adel h.nd, asc_adel h.asc, h.fl, h.dn, h.left⟩
theorem Sim.append (h : Sim d b) (nm data : Bs) : (aAppend nm data d).1 = (bAppend nm data b).1 ∧ Sim (aAppend nm data d).2 (bAppend nm data b).2 := by
  unfold aAppend bAppend
  rw [h.dn, h.fl]
  by_cases h0 : dmay [nmS nm] b.dn ≠ 0
  · rw [if_pos h0, if_pos h0]; exact ⟨rfl, h⟩
  · rw [if_neg h0, if_neg h0]
    cases hf : b.fl with
    | true => exact ⟨rfl, h.chg⟩
    | false =>
      refine ⟨rfl, ?_⟩
      have e : fget nm d.fs = fget nm b.fs := by unfold fget; rw [h.get]
      have := h.put nm ((fget nm b.fs).1 ++ data, (fget nm b.fs).2)
      rw [← e] at this
      simp only [Bool.false_eq_true, if_false]
      rw [← e]
      exact this
theorem Sim.sync (h : Sim d b) (nm : Bs) : (aSync nm d).1 = (bSync nm b).1 ∧ Sim (aSync nm d).2 (bSync nm b).2 := by
  unfold aSync bSync
  rw [h.dn, h.get]
  by_cases h0 : dmay [nmS nm] b.dn ≠ 0
  · rw [if_pos h0, if_pos h0]; exact ⟨rfl, h⟩
  · rw [if_neg h0, if_neg h0]
    cases aget nm b.fs with
    | none => exact ⟨rfl, h.chg⟩
    | some f => exact ⟨rfl, h.put nm _⟩
theorem Sim.delete (h : Sim d b) (nm : Bs) : (aDelete nm d).1 = (aDelete nm b).1 ∧ Sim (aDelete nm d).2 (aDelete nm b).2 := by
  unfold aDelete
  rw [h.dn, h.get]
  by_cases h0 : dmay [nmS nm] b.dn ≠ 0
  · rw [if_pos h0, if_pos h0]; exact ⟨rfl, h⟩
  · rw [if_neg h0, if_neg h0]
    cases aget nm b.fs with
    | none => exact ⟨rfl, h.chg⟩
    | some f => exact ⟨rfl, h.chg.del nm⟩
theorem Sim.rename (h : Sim d b) (nm nm2 : Bs) : (aRename nm nm2 d).1 = (bRename nm nm2 b).1 ∧ Sim (aRename nm nm2 d).2 (bRename nm nm2 b).2 := by
  unfold aRename bRename
  rw [h.dn, h.get]
  by_cases h0 : dmay [nmS nm, nmS nm2] b.dn ≠ 0
  · rw [if_pos h0, if_pos h0]; exact ⟨rfl, h⟩
  · rw [if_neg h0, if_neg h0]
    cases aget nm b.fs with
    | none => exact ⟨rfl, h.chg⟩
    | some f => exact ⟨rfl, (h.del nm).put nm2 f⟩
theorem Sim.read (h : Sim d b) (nm : Bs) : aRead nm d = aRead nm b := by
  unfold aRead
  rw [h.dn, h.get]
theorem Sim.list (h : Sim d b) : aList d = bList b := by
  unfold aList bList
  rw [h.dn, h.names]
theorem Sim.fill (h : Sim d b) (x : Bool) : Sim (aFill x d) (aFill x b) := ⟨h.get, h.nd, h.asc, rfl, h.dn, h.left⟩
theorem Sim.arm (h : Sim d b) (n : Int) : Sim (aArm n d) (aArm n b) := by
  unfold aArm
  rw [h.dn]
  cases b.dn with
  | true => exact h
  | false => exact ⟨h.get, h.nd, h.asc, h.fl, rfl, rfl⟩
theorem rstI_up (keep : List Int) {fs : List (Bs × FileD)} (h : Asc fs) : rstI keep fs.length fs = rstUp keep (fs.map (·.1)) fs.length fs := by
  unfold rstI rstUp
  apply List.ext_getElem (by simp)
  intro j h1 h2
  have hj : j < fs.length := by simpa using h1
  rw [List.getElem_mapIdx, List.getElem_map, if_pos hj]
  have e : (fs.map (·.1)).idxOf fs[j].1 = j := by
    have := idx_at (asc_nodup h) (i := j) (by simpa using hj)
    simpa using this
  rw [e, if_pos hj]
theorem Sim.restart (h : Sim d b) (keep : List Int) : Sim (aRestart keep d) (bRestart keep b) := by
  have hk : (rstI keep b.fs.length b.fs).map (·.1) = b.fs.map (·.1) := by rw [rstI_up keep h.asc, rstUp_keys]
  refine ⟨fun nm => ?_, ?_, ?_, rfl, rfl, rfl⟩
  · show aget nm (rst keep d.fs) = aget nm (rstI keep b.fs.length b.fs)
    rw [rstI_up keep h.asc]
    unfold rst rstUp
    rw [h.names, h.len, aget_map' (f := fun k (v : FileD) => if (b.fs.map (·.1)).idxOf k < b.fs.length then cutD keep ((b.fs.map (·.1)).idxOf k) v else v), aget_map' (f := fun k (v : FileD) => if (b.fs.map (·.1)).idxOf k < b.fs.length then cutD keep ((b.fs.map (·.1)).idxOf k) v else v), h.get]
  · show ((rst keep d.fs).map (·.1)).Nodup
    unfold rst
    rw [rstUp_keys]; exact h.nd
  · show Asc (rstI keep b.fs.length b.fs)
    exact asc_keys h.asc hk
/-- a clone: its files in another order -/
theorem Sim.clone (h : Sim d b) {fs' : List (Bs × FileD)} (hp : fs'.Perm d.fs) : Sim ⟨fs', d.fl, d.dn, d.left⟩ b := by
  have hn : (fs'.map (·.1)).Nodup := (hp.map _).nodup_iff.2 h.nd
  refine ⟨fun nm => ?_, hn, h.asc, h.fl, h.dn, h.left⟩
  rw [← h.get]
  show aget nm fs' = aget nm d.fs
  cases hg : aget nm d.fs with
  | some v => exact aget_of_mem hn (hp.mem_iff.2 (aget_mem hg))
  | none =>
    refine aget_none fun hm => ?_
    have := aget_mem_iff.1 ((hp.map _).mem_iff.1 hm)
    rw [hg] at this
    cases this
end
end Go.Proofs.Ytmddgimadlmacaa
/-! garnerlaw05.same: two rows of names -/
namespace Go.Proofs.Ytmddgimadlmacaa
open Go.RowKit Garner

theorem nmS_inj {a b : Bs} (h : nmS a = nmS b) : a = b := by
  have := congrArg (fun s : ByteArray => s.data.toList) h
  simpa [nmS] using this
set_option maxRecDepth 100000 in
set_option maxHeartbeats 4000000 in
theorem vSame5 (l1 l2 : List Bs) (A1 A2 : Option Addr) (c1 c2 : Nat) (w : World) (h1 : Row w w.heap.size 1 A1 l1.length (l1.map strV)) (h2 : Row w w.heap.size 1 A2 l2.length (l2.map strV)) (hl : l1.length ≤ 140737488355328) (hl2 : l2.length ≤ 140737488355328) :
    Calls Try.prog 71 #[.slice A1 l1.length c1, .slice A2 l2.length c2] w fun e w' => e = .returned (.bool (decide (l1 = l2))) ∧ Below w.heap.size w w' := by
  by_cases hll : (l1.length : Int) = (l2.length : Int)
  · have hln : l2.length = l1.length := by omega
    rw [hln]
    go_enter Try.func71, Try.ntmps71
    go_wp2_with fail
    go_loopw [5] (fun v wr => ∃ k : Nat, k ≤ l1.length ∧ v = .int .i64 k ∧ Hid (l1.take k = l2.take k) ∧ Below w.heap.size w wr) (fun v _ => l1.length - (intOf v).toNat)
    case atStart => exact ⟨0, Nat.zero_le _, rfl, rfl, Below.refl _ _⟩
    case round =>
      obtain ⟨k, hk, rfl, hpre, hbel⟩ := hrel
      by_cases hlt : k < l1.length
      · obtain ⟨b1, o1, rfl, hb1, hc1⟩ := h1.at_ (k := k) hlt
        obtain ⟨b2, o2, rfl, hb2, hc2⟩ := h2.at_ (k := k) (by omega)
        have d1 : ∀ w', Below wr.heap.size wr w' → w'.cell? ⟨b1, o1 + k, none⟩ = some (strV l1[k]) := fun w' hb => by
          rw [(hbel.trans (hb.mono hbel.size)).cell (p := ⟨b1, o1 + k, none⟩) hb1, hc1 k (by simpa using hlt)]; simp
        have d2 : ∀ w', Below wr.heap.size wr w' → w'.cell? ⟨b2, o2 + k, none⟩ = some (strV (l2[k]'(by omega))) := fun w' hb => by
          rw [(hbel.trans (hb.mono hbel.size)).cell (p := ⟨b2, o2 + k, none⟩) hb2, hc2 k (by rw [List.length_map]; omega)]; simp
        have hl2k : k < l2.length := by omega
        obtain ⟨s1, hs1⟩ : ∃ s, s = l1[k] := ⟨_, rfl⟩
        obtain ⟨s2, hs2⟩ : ∃ s, s = l2[k] := ⟨_, rfl⟩
        rw [← hs1] at d1
        rw [← hs2] at d2
        have Hs1 := Lib.hid hs1; have Hs2 := Lib.hid hs2
        clear hs1 hs2 hc1 hc2
        have hS0 : Below wr.heap.size wr wr.drew := (Below.refl _ _).drew
        have hk0 : (0 : Int) ≤ (k : Int) := by omega
        have hklt : (k : Int) < (l1.length : Int) := by omega
        by_cases he : s1 = s2
        · have hstep : Hid (l1.take (k + 1) = l2.take (k + 1)) := by
            show _ = _
            rw [List.take_succ_eq_append_getElem hlt, List.take_succ_eq_append_getElem hl2k, hpre.out, ← Hs1.out, ← Hs2.out, he]
          clear Hs1 Hs2 hpre
          subst he
          go_upto_region 6 with fail
          refine wp_region_N (fun w' => Below wr.heap.size wr w') 100 (by kernel_rfl) ?_
          apply wpAnyN_takeL 0 (by kernel_rfl) rfl (fun _ _ _ h => h) (by kernel_rfl) hS0
          · intro w' hS'
            go_simp; exact ⟨rfl, rfl⟩
          (try simp only [Act.put]); (try simp only [List.setIfInBounds_toArray]); (try simp only [List.set])
          apply wpAnyN_takeL 1 (by kernel_rfl) rfl (fun _ _ _ h => h) (by kernel_rfl) hS0
          · intro w' hS'
            go_simp; exact ⟨rfl, rfl⟩
          (try simp only [Act.put]); (try simp only [List.setIfInBounds_toArray]); (try simp only [List.set])
          apply wpAnyN_takeL 2 (by kernel_rfl) rfl (fun _ _ _ h => h) (by kernel_rfl) hS0
          · intro w' hS'
            go_simp; exact ⟨rfl, rfl⟩
          (try simp only [Act.put]); (try simp only [List.setIfInBounds_toArray]); (try simp only [List.set])
          apply wpAnyN_takeL 3 (by kernel_rfl) rfl (fun _ _ _ h => h) (by kernel_rfl) hS0
          · intro w' hS'
            go_simp; exact ⟨rfl, rfl⟩
          (try simp only [Act.put]); (try simp only [List.setIfInBounds_toArray]); (try simp only [List.set])
          apply wpAnyN_takeL 4 (by kernel_rfl) rfl (fun _ _ _ h => h) (by kernel_rfl) hS0
          · intro w' hS'
            go_simp; exact ⟨rfl, rfl⟩
          (try simp only [Act.put]); (try simp only [List.setIfInBounds_toArray]); (try simp only [List.set])
          apply wpAnyN_takeL 5 (by kernel_rfl) rfl (fun _ _ _ h => h) (by kernel_rfl) hS0
          · intro w' hS'
            go_simp; exact ⟨rfl, rfl⟩
          (try simp only [Act.put]); (try simp only [List.setIfInBounds_toArray]); (try simp only [List.set])
          apply wpAnyN_takeL 6 (by kernel_rfl) rfl (fun _ _ _ h => h) (by kernel_rfl) hS0
          · intro w' hS'
            go_simp; exact ⟨rfl, rfl⟩
          (try simp only [Act.put]); (try simp only [List.setIfInBounds_toArray]); (try simp only [List.set])
          apply wpAnyN_takeL 7 (by kernel_rfl) rfl (fun _ _ _ h => h) (by kernel_rfl) hS0
          · intro w' hS'
            go_simp; exact ⟨rfl, rfl⟩
          (try simp only [Act.put]); (try simp only [List.setIfInBounds_toArray]); (try simp only [List.set])
          apply wpAnyN_takeL 8 (by kernel_rfl) rfl (fun _ _ _ h => h) (by kernel_rfl) hS0
          · intro w' hS'
            go_simp; exact ⟨rfl, rfl⟩
          (try simp only [Act.put]); (try simp only [List.setIfInBounds_toArray]); (try simp only [List.set])
          refine wpAnyN_done (by kernel_rfl) ?_ _
          go_wp2
          go_roundw
          case rel => exact ⟨k + 1, by omega, by go_num, hstep, hbel.trans (hS0.mono hbel.size)⟩
          case measure => simp [intOf]; omega
        · have hbad : Hid (decide (l1 = l2) = false) := by
            show _ = _
            refine decide_eq_false fun e => he ?_
            rw [Hs1.out, Hs2.out]
            subst e; rfl
          have hne : nmS s1 ≠ nmS s2 := fun e => he (nmS_inj e)
          have hne1 : (nmS s1 == nmS s2) = false := by unfold nmS; rw [str_beq]; exact decide_eq_false he
          have hne2 : (nmS s1 != nmS s2) = true := by rw [bne, hne1]; rfl
          have hne3 : (s1 == s2) = false := beq_eq_false_iff_ne.2 he
          clear Hs1 Hs2 hpre he hne hne1 hne2
          go_upto_region 6 with fail
          refine wp_region_N (fun w' => Below wr.heap.size wr w') 100 (by kernel_rfl) ?_
          apply wpAnyN_takeL 0 (by kernel_rfl) rfl (fun _ _ _ h => h) (by kernel_rfl) hS0
          · intro w' hS'
            go_simp; exact ⟨rfl, rfl⟩
          (try simp only [Act.put]); (try simp only [List.setIfInBounds_toArray]); (try simp only [List.set])
          apply wpAnyN_takeL 1 (by kernel_rfl) rfl (fun _ _ _ h => h) (by kernel_rfl) hS0
          · intro w' hS'
            go_simp; exact ⟨rfl, rfl⟩
          (try simp only [Act.put]); (try simp only [List.setIfInBounds_toArray]); (try simp only [List.set])
          apply wpAnyN_takeL 2 (by kernel_rfl) rfl (fun _ _ _ h => h) (by kernel_rfl) hS0
          · intro w' hS'
            go_simp; exact ⟨rfl, rfl⟩
          (try simp only [Act.put]); (try simp only [List.setIfInBounds_toArray]); (try simp only [List.set])
          apply wpAnyN_takeL 3 (by kernel_rfl) rfl (fun _ _ _ h => h) (by kernel_rfl) hS0
          · intro w' hS'
            go_simp; exact ⟨rfl, rfl⟩
          (try simp only [Act.put]); (try simp only [List.setIfInBounds_toArray]); (try simp only [List.set])
          apply wpAnyN_takeL 4 (by kernel_rfl) rfl (fun _ _ _ h => h) (by kernel_rfl) hS0
          · intro w' hS'
            go_simp; exact ⟨rfl, rfl⟩
          (try simp only [Act.put]); (try simp only [List.setIfInBounds_toArray]); (try simp only [List.set])
          apply wpAnyN_takeL 5 (by kernel_rfl) rfl (fun _ _ _ h => h) (by kernel_rfl) hS0
          · intro w' hS'
            go_simp; exact ⟨rfl, rfl⟩
          (try simp only [Act.put]); (try simp only [List.setIfInBounds_toArray]); (try simp only [List.set])
          apply wpAnyN_takeL 6 (by kernel_rfl) rfl (fun _ _ _ h => h) (by kernel_rfl) hS0
          · intro w' hS'
            go_simp; exact ⟨rfl, rfl⟩
          (try simp only [Act.put]); (try simp only [List.setIfInBounds_toArray]); (try simp only [List.set])
          apply wpAnyN_takeL 7 (by kernel_rfl) rfl (fun _ _ _ h => h) (by kernel_rfl) hS0
          · intro w' hS'
            go_simp; exact ⟨rfl, rfl⟩
          (try simp only [Act.put]); (try simp only [List.setIfInBounds_toArray]); (try simp only [List.set])
          apply wpAnyN_takeL 8 (by kernel_rfl) rfl (fun _ _ _ h => h) (by kernel_rfl) hS0
          · intro w' hS'
            go_simp; exact ⟨rfl, rfl⟩
          (try simp only [Act.put]); (try simp only [List.setIfInBounds_toArray]); (try simp only [List.set])
          refine wpAnyN_done (by kernel_rfl) ?_ _
          go_wp2
          go_ret
          exact ⟨by rw [hbad.out]; first | done | rfl, hbel.trans (hS0.mono hbel.size)⟩
      · obtain rfl : k = l1.length := by omega
        have e : l1 = l2 := by
          have := hpre.out
          rw [List.take_length, ← hln, List.take_length] at this
          exact this
        have he : decide (l1 = l2) = true := decide_eq_true e
        have He := Lib.hid he
        clear he e
        go_wp2
        go_ret
        exact ⟨by rw [He.out]; first | done | rfl, hbel⟩
  · have hne : decide (l1 = l2) = false := decide_eq_false (fun e => hll (by rw [e]))
    rw [hne]
    clear hne
    go_enter Try.func71, Try.ntmps71
    go_wp2
    go_ret
    exact ⟨rfl, Below.refl _ _⟩
end Go.Proofs.Ytmddgimadlmacaa
