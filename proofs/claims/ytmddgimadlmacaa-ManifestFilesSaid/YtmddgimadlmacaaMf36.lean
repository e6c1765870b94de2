import Derived.Test.YtmddgimadlmacaaMf24
import Derived.Test.YtmddgimadlmacaaMf35
/-! the document's Save and Load over the document's disk; disks that hold manifests alone -/
namespace Go.Proofs.Ytmddgimadlmacaa
open Go.RowKit Garner

def bSave (m : Man) (d : AD) : Nat × AD :=
  if wrErr m ≠ 0 then (wrErr m, d)
  else if (aDelete nmF d).1 ≠ 0 ∧ (aDelete nmF d).1 ≠ 21 then aDelete nmF d
  else if (bAppend nmF (wrBytes m) (aDelete nmF d).2).1 ≠ 0 then bAppend nmF (wrBytes m) (aDelete nmF d).2
  else if (bSync nmF (bAppend nmF (wrBytes m) (aDelete nmF d).2).2).1 ≠ 0 then bSync nmF (bAppend nmF (wrBytes m) (aDelete nmF d).2).2
  else bRename nmF nmM (bSync nmF (bAppend nmF (wrBytes m) (aDelete nmF d).2).2).2
section
variable {d b : AD} {m : Man}
theorem Sim.save (h : Sim d b) (m : Man) : (aSave m d).1 = (bSave m b).1 ∧ Sim (aSave m d).2 (bSave m b).2 := by
  obtain ⟨e1, h1⟩ := h.delete nmF
  obtain ⟨e2, h2⟩ := h1.append nmF (wrBytes m)
  obtain ⟨e3, h3⟩ := h2.sync nmF
  obtain ⟨e4, h4⟩ := h3.rename nmF nmM
  unfold aSave bSave
  rw [e1, e2, e3]
  by_cases c0 : wrErr m ≠ 0
  · rw [if_pos c0, if_pos c0]; exact ⟨rfl, h⟩
  rw [if_neg c0, if_neg c0]
  by_cases c1 : (aDelete nmF b).1 ≠ 0 ∧ (aDelete nmF b).1 ≠ 21
  · rw [if_pos c1, if_pos c1]; exact ⟨e1, h1⟩
  rw [if_neg c1, if_neg c1]
  by_cases c2 : (bAppend nmF (wrBytes m) (aDelete nmF b).2).1 ≠ 0
  · rw [if_pos c2, if_pos c2]; exact ⟨e2, h2⟩
  rw [if_neg c2, if_neg c2]
  by_cases c3 : (bSync nmF (bAppend nmF (wrBytes m) (aDelete nmF b).2).2).1 ≠ 0
  · rw [if_pos c3, if_pos c3]; exact ⟨e3, h3⟩
  rw [if_neg c3, if_neg c3]; exact ⟨e4, h4⟩
theorem Sim.load (h : Sim d b) : aLoad d = aLoad b := by unfold aLoad; rw [h.read]
/-- it holds manifests alone -/
structure MF (fs : List (Bs × FileD)) : Prop where
  keys : ∀ q ∈ fs, q.1 = nmM ∨ q.1 = nmF
  len : ∀ q ∈ fs, q.2.1.length ≤ 70000
theorem MF.nil : MF [] := ⟨by simp, by simp⟩
theorem MF.put {fs : List (Bs × FileD)} (h : MF fs) {nm : Bs} (hn : nm = nmM ∨ nm = nmF) {f : FileD} (hf : f.1.length ≤ 70000) : MF (sput nm f fs) :=
  ⟨fun q hq => by
    rcases mem_sput hq with rfl | hq
    · exact hn
    · exact h.keys q hq, fun q hq => by
    rcases mem_sput hq with rfl | hq
    · exact hf
    · exact h.len q hq⟩
theorem adel_mem {ν : Type} {nm : Bs} {q : Bs × ν} : ∀ {l : List (Bs × ν)}, q ∈ adel nm l → q ∈ l
  | [], h => h
  | (a, u) :: r, h => by
    simp only [adel] at h
    split at h
    · exact List.mem_cons_of_mem _ h
    · rcases List.mem_cons.1 h with h | h
      · exact List.mem_cons.2 (Or.inl h)
      · exact List.mem_cons_of_mem _ (adel_mem h)
theorem MF.del {fs : List (Bs × FileD)} (h : MF fs) (nm : Bs) : MF (adel nm fs) := ⟨fun q hq => h.keys q (adel_mem hq), fun q hq => h.len q (adel_mem hq)⟩
theorem MF.count {fs : List (Bs × FileD)} (h : MF fs) (ha : Asc fs) : fs.length ≤ 2 := by
  have hn := asc_nodup ha
  match fs, h, hn with
  | [], _, _ => simp
  | [_], _, _ => simp
  | [_, _], _, _ => simp
  | x :: y :: z :: r, h, hn =>
    exfalso
    have h1 := h.keys x (by simp); have h2 := h.keys y (by simp); have h3 := h.keys z (by simp)
    simp only [List.map_cons, List.nodup_cons, List.mem_cons, not_or] at hn
    obtain ⟨⟨n1, n2, _⟩, ⟨n3, _⟩, _⟩ := hn
    rcases h1 with h1 | h1 <;> rcases h2 with h2 | h2 <;> rcases h3 with h3 | h3 <;> first | exact n1 (h1.trans h2.symm) | exact n2 (h1.trans h3.symm) | exact n3 (h2.trans h3.symm)
theorem MF.get {fs : List (Bs × FileD)} (h : MF fs) (nm : Bs) : (fget nm fs).1.length ≤ 70000 := by
  unfold fget
  cases hg : aget nm fs with
  | none => simp
  | some f => exact h.len _ (aget_mem hg)
theorem MF.read (h : MF b.fs) (nm : Bs) : (aRead nm b).1.length ≤ 70000 := by
  have h0 := h.get nm
  unfold aRead
  split
  · simp
  · cases hg : aget nm b.fs with
    | none => simp
    | some f => unfold fget at h0; rw [hg] at h0; exact h0
theorem MF.delete (h : MF b.fs) (nm : Bs) : MF (aDelete nm b).2.fs := by
  unfold aDelete
  split
  · exact h
  · cases hg : aget nm b.fs with
    | none => exact h
    | some f => exact h.del nm
theorem MF.app (h : MF b.fs) {x : Bs} (hx : x.length ≤ 70000) (h0 : fget nmF b.fs = ([], 0)) : MF (bAppend nmF x b).2.fs := by
  unfold bAppend
  split
  · exact h
  · split
    · exact h
    · exact h.put (Or.inr rfl) (by rw [h0]; simpa using hx)
theorem MF.sync (h : MF b.fs) : MF (bSync nmF b).2.fs := by
  unfold bSync
  split
  · exact h
  · cases hg : aget nmF b.fs with
    | none => exact h
    | some f => exact h.put (Or.inr rfl) (h.len _ (aget_mem hg))
theorem MF.rename (h : MF b.fs) : MF (bRename nmF nmM b).2.fs := by
  unfold bRename
  split
  · exact h
  · cases hg : aget nmF b.fs with
    | none => exact h
    | some f => exact (h.del nmF).put (Or.inl rfl) (h.len _ (aget_mem hg))
theorem MF.save (h : MF b.fs) (ha : Asc b.fs) (m : Man) : MF (bSave m b).2.fs := by
  have hw := wr_len m
  have h1 := h.delete (b := b) nmF
  unfold bSave
  by_cases c0 : wrErr m ≠ 0
  · rw [if_pos c0]; exact h
  rw [if_neg c0]
  rcases del_cases (asc_nodup ha) with ⟨_, e⟩ | ⟨_, e, h0⟩
  · rw [if_pos (by rw [e]; exact ⟨(by decide : (23 : Nat) ≠ 0), (by decide : (23 : Nat) ≠ 21)⟩)]; exact h1
  · rw [if_neg (by rintro ⟨a, b⟩; rcases e with e | e; exact a e; exact b e)]
    have h2 := h1.app (by exact hw) h0
    by_cases c2 : (bAppend nmF (wrBytes m) (aDelete nmF b).2).1 ≠ 0
    · rw [if_pos c2]; exact h2
    rw [if_neg c2]
    by_cases c3 : (bSync nmF (bAppend nmF (wrBytes m) (aDelete nmF b).2).2).1 ≠ 0
    · rw [if_pos c3]; exact h2.sync
    rw [if_neg c3]; exact h2.sync.rename
theorem MF.arm (h : MF b.fs) (n : Int) : MF (aArm n b).fs := by
  unfold aArm
  split
  · exact h
  · exact h
theorem MF.restart (h : MF b.fs) (keep : List Int) : MF (bRestart keep b).fs := by
  show MF (rstI keep b.fs.length b.fs)
  refine ⟨fun q hq => ?_, fun q hq => ?_⟩
  all_goals
    unfold rstI at hq
    rw [List.mem_mapIdx] at hq
    obtain ⟨i, hi, rfl⟩ := hq
    rw [if_pos hi]
  · exact h.keys b.fs[i] (List.getElem_mem hi)
  · have := h.len b.fs[i] (List.getElem_mem hi)
    show (b.fs[i].2.1.take _).length ≤ _
    rw [List.length_take]
    exact Nat.le_trans (Nat.min_le_right _ _) this
theorem Asc.len_put {nm : Bs} {f : FileD} : ∀ {fs : List (Bs × FileD)}, (sput nm f fs).length ≤ fs.length + 1
  | [] => by rw [sput_nil]; simp
  | p :: r => by
    rw [sput_cons]
    have := Asc.len_put (nm := nm) (f := f) (fs := r)
    split
    · simp
    · split
      · simp
      · simp only [List.length_cons]; omega
end
section
variable {w0 w w' : World} {g fb0 : Nat} {b : AD}
/-- the document's disk on its way through several calls -/
structure RS (w0 w : World) (g fb0 : Nat) (b : AD) : Prop where
  ex : ∃ fb, RefD w g fb b ∧ (fb = fb0 ∨ fb = g ∨ w0.heap.size ≤ fb)
  but : But [g, fb0] w0 w
theorem RS.step {fb fb' : Nat} {b' : AD} (hb0 : But [g, fb0] w0 w) (hf : fb = fb0 ∨ fb = g ∨ w0.heap.size ≤ fb) (hr : RefD w' g fb' b') (hf' : fb' = fb ∨ fb' = g ∨ w.heap.size ≤ fb') (hb : But [g, fb] w w') : RS w0 w' g fb0 b' := by
  have hs := hb0.size
  refine ⟨⟨fb', hr, by omega⟩, hb0.old hb fun x hx => ?_⟩
  simp only [List.mem_cons, List.not_mem_nil, or_false] at hx ⊢
  omega
theorem RS.delete (h : RS w0 w g fb0 b) (nm : Bs) (hl : (nmS nm).size ≤ 140737488355328) (hn : b.fs.length ≤ 1000) :
    Calls Try.prog 70 #[.pointer (some ⟨g, 0, none⟩), .string (nmS nm)] w fun e w' => e = .returned (.int .i64 (aDelete nm b).1) ∧ RS w0 w' g fb0 (aDelete nm b).2 := by
  obtain ⟨fb, h1, h2⟩ := h.ex
  exact (bDelete_calls nm g fb b w h1 hl (by omega)).mono fun e w' ⟨e1, fb', h3, h4, h5⟩ => ⟨e1, RS.step h.but h2 h3 h4 h5⟩
theorem RS.sync (h : RS w0 w g fb0 b) (nm : Bs) (hl : (nmS nm).size ≤ 140737488355328) (hn : b.fs.length ≤ 1000) :
    Calls Try.prog 68 #[.pointer (some ⟨g, 0, none⟩), .string (nmS nm)] w fun e w' => e = .returned (.int .i64 (bSync nm b).1) ∧ RS w0 w' g fb0 (bSync nm b).2 := by
  obtain ⟨fb, h1, h2⟩ := h.ex
  exact (bSync_calls nm g fb b w h1 hl (by omega)).mono fun e w' ⟨e1, fb', h3, h4, h5⟩ => ⟨e1, RS.step h.but h2 h3 h4 h5⟩
theorem RS.rename (h : RS w0 w g fb0 b) (nm nm2 : Bs) (hl : (nmS nm).size ≤ 140737488355328) (hl2 : (nmS nm2).size ≤ 140737488355328) (hn : b.fs.length ≤ 1000) :
    Calls Try.prog 69 #[.pointer (some ⟨g, 0, none⟩), .string (nmS nm), .string (nmS nm2)] w fun e w' => e = .returned (.int .i64 (bRename nm nm2 b).1) ∧ RS w0 w' g fb0 (bRename nm nm2 b).2 := by
  obtain ⟨fb, h1, h2⟩ := h.ex
  exact (bRename_calls nm nm2 g fb b w h1 hl hl2 (by omega)).mono fun e w' ⟨e1, fb', h3, h4, h5⟩ => ⟨e1, RS.step h.but h2 h3 h4 h5⟩
theorem RS.append (h : RS w0 w g fb0 b) (nm data : Bs) (A : Option Addr) (c : Nat) (hl : (nmS nm).size ≤ 140737488355328) (hn : b.fs.length ≤ 1000) (hr : Bytes w w.heap.size A data.length data) (hd : (fget nm b.fs).1.length + data.length ≤ 140737488355328) :
    Calls Try.prog 67 #[.pointer (some ⟨g, 0, none⟩), .string (nmS nm), .slice A data.length c] w fun e w' => e = .returned (.int .i64 (bAppend nm data b).1) ∧ RS w0 w' g fb0 (bAppend nm data b).2 := by
  obtain ⟨fb, h1, h2⟩ := h.ex
  exact (bAppend_calls nm data A c w.heap.size g fb b w _ h1.o hl (by omega) hr (Nat.le_refl _) hd).mono fun e w' ⟨e1, fb', h3, h4, h5⟩ => ⟨e1, RS.step h.but h2 h3.toD h4 h5⟩
end
theorem small_nm : (nmS nmM).size ≤ 140737488355328 ∧ (nmS nmF).size ≤ 140737488355328 := by decide
theorem len_del (b : AD) : (aDelete nmF b).2.fs.length ≤ b.fs.length := by
  unfold aDelete
  split
  · exact Nat.le_refl _
  · cases aget nmF b.fs with
    | none => exact Nat.le_refl _
    | some f =>
      show (adel nmF b.fs).length ≤ _
      generalize b.fs = l
      induction l with
      | nil => exact Nat.le_refl _
      | cons p r ih =>
        obtain ⟨a, u⟩ := p
        simp only [adel]
        split
        · simp
        · simp only [List.length_cons]; omega
theorem len_app (x : Bs) (b : AD) : (bAppend nmF x b).2.fs.length ≤ b.fs.length + 1 := by
  unfold bAppend
  split
  · exact Nat.le_succ _
  · split
    · exact Nat.le_succ _
    · exact Asc.len_put (fs := b.fs)
theorem len_syn (b : AD) : (bSync nmF b).2.fs.length ≤ b.fs.length + 1 := by
  unfold bSync
  split
  · exact Nat.le_succ _
  · cases aget nmF b.fs with
    | none => exact Nat.le_succ _
    | some f => exact Asc.len_put (fs := b.fs)
set_option maxRecDepth 100000 in
set_option maxHeartbeats 4000000 in
theorem rSave (m : Man) (A : Option Addr) (c B g fb : Nat) (d : AD) (w : World) (h : RefD w g fb d) (hasc : Asc d.fs) (hr : Segs w B A m.segs.length m.segs) (hB : B ≤ w.heap.size) (hw : m.wf) (hl : m.segs.length ≤ 140737488355328) (hfn : d.fs.length ≤ 10) :
    Calls Try.prog 39 #[.pointer (some ⟨g, 0, none⟩), manV m A c] w fun e w' => e = .returned (.int .i64 (bSave m d).1) ∧ RS w w' g fb (bSave m d).2 := by
  have hnd := asc_nodup hasc
  have Hw := Lib.hid hw; clear hw
  have hwl := wr_len m
  obtain ⟨nm1, nm2⟩ := small_nm
  have Hn1 := Lib.hid nm1; have Hn2 := Lib.hid nm2
  clear nm1 nm2 hasc
  obtain ⟨r, hre⟩ : ∃ r, r = bSave m d := ⟨_, rfl⟩
  rw [← hre]
  unfold bSave at hre
  have Hre := Lib.hid hre; clear hre
  go_enter Try.func39, Try.ntmps39
  go_wp2_with fail
  obtain ⟨X0, hX0⟩ : ∃ X, X = w.alloc (manBox m A c) := ⟨_, rfl⟩
  change Calls _ _ _ (w.alloc (manBox m A c)) _
  rw [← hX0]
  have hbX : Below w.heap.size w X0 := by rw [hX0]; exact (Below.refl _ _).alloc (Nat.le_refl _) _
  clear hX0
  refine (rWrite m A c B X0 (hr.below (hbX.mono hB)) (Nat.le_trans hB hbX.size) Hw.out hl).mono ?_
  rintro e w1 hpost
  obtain ⟨A1, c1, rfl, hc1, hown1, hb1⟩ := write_own hpost
  clear hpost
  have hrow1 : Bytes w1 w1.heap.size A1 (wrBytes m).length (wrBytes m) := Row.of_own hown1
  have hlt := h.lts
  have hA1 : 0 < (wrBytes m).length → ∀ b off, A1 = some ⟨b, off, none⟩ → b ∉ [g, fb] := fun _ b off e hm => by
    have h1 := (own_ge hown1 b (by rw [e]; simp [Value.ownBlock])).1
    have h2 := hbX.size
    simp only [List.mem_cons, List.not_mem_nil, or_false] at hm; omega
  clear hown1 hlt
  have hb01 := hbX.trans (hb1.mono hbX.size)
  have hd1 := h.below hb01
  clear hbX hb1 h
  obtain ⟨x, hx⟩ : ∃ x, x = wrBytes m := ⟨_, rfl⟩
  obtain ⟨xe, hxe⟩ : ∃ k, k = wrErr m := ⟨_, rfl⟩
  rw [← hx] at hrow1 hc1 hwl hA1
  have Hx := Lib.hid hx; have Hxe := Lib.hid hxe
  rw [← hxe, ← hx] at Hre ⊢
  clear hx hxe
  by_cases h0 : xe = 0
  · have Hre' := Lib.hid (Hre.out.trans (if_neg (by simpa using h0))); clear Hre
    have hz := nz_false h0
    go_wp2_with fail
    refine (bDelete_calls nmF g fb d w1 hd1 Hn2.out (by omega)).mono ?_
    rintro e w2 ⟨rfl, fb2, hr2, hf2, hb2⟩
    have hrow2 : Bytes w2 w2.heap.size A1 x.length x := hrow1.but' hb2 hA1
    have hrs2 : RS w w2 g fb (aDelete nmF d).2 := RS.step (But.of_below hb01) (Or.inl rfl) hr2 hf2 hb2
    clear hr2 hf2 hb2 hrow1 hA1
    have hlen2 := len_del d
    rcases del_cases hnd with ⟨hdn, hde⟩ | ⟨hdn, hde, hfz⟩
    · have hr := Hre'.out.trans (if_pos (by rw [hde]; exact ⟨(by decide : (23 : Nat) ≠ 0), (by decide : (23 : Nat) ≠ 21)⟩))
      rw [hde] at hrs2 hr
      rw [hde]
      have Hr := Lib.hid hr
      clear Hre' hr hde
      go_wp2
      go_ret
      rw [Hr.out]
      exact ⟨rfl, hrs2⟩
    · have hr := Hre'.out.trans (if_neg (by rintro ⟨h1, h2⟩; rcases hde with h | h; exact h1 h; exact h2 h))
      clear Hre'
      obtain ⟨q1, hq1⟩ : ∃ q, q = aDelete nmF d := ⟨_, rfl⟩
      rw [← hq1] at hr hrs2 hde hfz hlen2 ⊢
      clear hq1
      obtain ⟨e1, d1⟩ := q1
      simp only at hr hrs2 hde hfz hlen2 ⊢
      have hlen3 := len_app x d1
      obtain ⟨q2, hq2⟩ : ∃ q, q = bAppend nmF x d1 := ⟨_, rfl⟩
      have Hq2 := Lib.hid hq2
      rw [← hq2] at hr hlen3
      clear hq2
      obtain ⟨e2, d2⟩ := q2
      simp only at hr hlen3
      have hlen4 := len_syn d2
      obtain ⟨q3, hq3⟩ : ∃ q, q = bSync nmF d2 := ⟨_, rfl⟩
      have Hq3 := Lib.hid hq3
      rw [← hq3] at hr hlen4
      clear hq3
      obtain ⟨e3, d3⟩ := q3
      simp only at hr hlen4
      have Hr := Lib.hid hr
      clear hr
      have hsel : ((e1 : Int) != 0) = false ∨ (((e1 : Int) != 0) = true ∧ ((e1 : Int) != 21) = false) := by
        rcases hde with h | h
        · exact Or.inl (nz_false h)
        · subst h; exact Or.inr ⟨rfl, rfl⟩
      clear hde
      rcases hsel with hs | ⟨hs, hs'⟩
      all_goals
        go_wp2_with fail
        refine (hrs2.append nmF x A1 c1 Hn2.out (by omega) hrow2 (by rw [hfz]; simp only [List.length_nil]; omega)).mono ?_
        rintro e w3 ⟨rfl, hd3⟩
        rw [← Hq2.out] at hd3 ⊢
        simp only at hd3 ⊢
        clear hrs2 hrow2 hs
        try clear hs'
        by_cases h2 : e2 = 0
        · have hz2 := nz_false h2
          have Hr2 := Lib.hid (Hr.out.trans (if_neg (by simpa using h2)))
          clear h2
          go_wp2_with fail
          refine (hd3.sync nmF Hn2.out (by omega)).mono ?_
          rintro e w4 ⟨rfl, hd4⟩
          rw [← Hq3.out] at hd4 ⊢
          simp only at hd4 ⊢
          clear hd3 hz2
          by_cases h3 : e3 = 0
          · have hz3 := nz_false h3
            have Hr3 := Lib.hid (Hr2.out.trans (if_neg (by simpa using h3)))
            clear h3
            go_wp2_with fail
            refine (hd4.rename nmF nmM Hn2.out Hn1.out (by omega)).mono ?_
            rintro e w5 ⟨rfl, hd5⟩
            clear hd4 hz3
            go_wp2
            go_ret
            rw [Hr3.out]
            exact ⟨rfl, hd5⟩
          · have hz3 := nz_true h3
            have Hr3 := Lib.hid (Hr2.out.trans (if_pos h3))
            go_wp2
            go_ret
            rw [Hr3.out]
            exact ⟨rfl, hd4⟩
        · have hz2 := nz_true h2
          have Hr2 := Lib.hid (Hr.out.trans (if_pos h2))
          go_wp2
          go_ret
          rw [Hr2.out]
          exact ⟨rfl, hd3⟩
  · have Hre' := Hre.out.trans (if_pos h0); clear Hre
    have hz := nz_true h0
    have Hr := Lib.hid Hre'
    clear Hre'
    go_wp2
    go_ret
    rw [Hr.out]
    exact ⟨rfl, ⟨fb, hd1, Or.inl rfl⟩, But.of_below hb01⟩
set_option maxRecDepth 100000 in
set_option maxHeartbeats 4000000 in
theorem rLoad (g fb : Nat) (d : AD) (w : World) (h : RefD w g fb d) (hmf : MF d.fs) (hfn : d.fs.length ≤ 10) :
    Calls Try.prog 41 #[.pointer (some ⟨g, 0, none⟩)] w fun e w' => ∃ A c, e = .returned (.tuple #[manV (aLoad d).1 A c, .int .i64 (aLoad d).2]) ∧ w'.ownsRow w.heap.size 36 4 (.slice A (aLoad d).1.segs.length c) (aLoad d).1.segs.length (segCells (aLoad d).1.segs) ∧ (aLoad d).1.segs.length ≤ 140737488355328 ∧ Below w.heap.size w w' := by
  have hrl := hmf.read nmM
  obtain ⟨nm1, nm2⟩ := small_nm
  have Hn1 := Lib.hid nm1
  clear nm1 nm2
  obtain ⟨r, hre⟩ : ∃ r, r = aLoad d := ⟨_, rfl⟩
  rw [← hre]
  unfold aLoad at hre
  have Hre := Lib.hid hre; clear hre
  go_enter Try.func41, Try.ntmps41
  go_wp2_with fail
  refine (bRead_calls nmM g fb d _ (h.below ((Below.refl _ _).alloc (Nat.le_refl _) _)) Hn1.out (by omega)).mono ?_
  rintro e w1 ⟨⟨A1, c1, rfl, hrow1, hc1⟩, hb1⟩
  obtain ⟨q, hq⟩ : ∃ q, q = aRead nmM d := ⟨_, rfl⟩
  rw [← hq] at Hre hrl hrow1 hc1 ⊢
  clear hq
  obtain ⟨l, e1⟩ := q
  simp only at Hre hrl hrow1 hc1 ⊢
  simp only [World.size_alloc] at hb1
  have hres1 : Blk w1 w.heap.size 25 [.int .i64 0, .int .i64 0, .int .u64 0, .int .i64 0, .slice none 0 0] := (Blk.new w _ _).below hb1 (by omega)
  have hbw1 : Below w.heap.size w w1 := ((Below.refl w.heap.size w).alloc (Nat.le_refl _) _).trans (hb1.mono (Nat.le_succ _))
  clear hb1 h hmf
  by_cases h1 : e1 = 21
  · subst h1
    have Hr := Lib.hid ((Hre.out.trans (if_neg (by decide))).trans (if_pos rfl))
    clear Hre hrow1
    go_wp2_with fail
    refine (rFirst w1).mono ?_
    rintro e w2 ⟨rfl, hb2⟩
    have hres : Blk w2 w.heap.size 25 [.int .i64 0, .int .i64 0, .int .u64 0, .int .i64 0, .slice none 0 0] := hres1.below hb2 hres1.lt
    have hbw : Below w.heap.size w w2 := hbw1.trans (hb2.mono (by have := hres1.lt; omega))
    have v0 := hres.frozen 0; have v1 := hres.frozen 1; have v2 := hres.frozen 2; have v3 := hres.frozen 3; have v4 := hres.frozen 4
    have r0 := hres.cell 0; have r1 := hres.cell 1; have r2 := hres.cell 2; have r3 := hres.cell 3; have r4 := hres.cell 4
    simp only [List.getElem?_cons_zero, List.getElem?_cons_succ] at r0 r1 r2 r3 r4
    clear hres1 hbw1 hb2
    simp only [firstMan]
    go_wp2
    refine bodyPost_ret (v := .tuple #[manV firstMan none 0, .int .i64 0]) (by simp [results, Try.results41, go_sem, firstMan, *]) rfl ?_
    rw [Hr.out]
    exact ⟨none, 0, rfl, World.ownsRow_nil _ _ _ _, by simp [firstMan], below_set5 hbw (Nat.le_refl _) _ _ _ _ _⟩
  · have hz1 := ne_eq21 h1
    by_cases h0 : e1 = 0
    · have hz := nz_false h0
      have Hr := Lib.hid (Hre.out.trans (if_pos h0))
      clear Hre h0 h1
      go_wp2_with fail
      refine (rMread l A1 c1 w1.heap.size w1 hrow1 (Nat.le_refl _) hc1 (by omega)).mono ?_
      rintro e w2 hpost
      obtain ⟨A2, c2, rfl, hs2, hn2, hb2⟩ := MreadPost.u hpost
      clear hpost
      have hres : Blk w2 w.heap.size 25 [.int .i64 0, .int .i64 0, .int .u64 0, .int .i64 0, .slice none 0 0] := hres1.below hb2 hres1.lt
      have hbw : Below w.heap.size w w2 := hbw1.trans (hb2.mono (by have := hres1.lt; omega))
      have v0 := hres.frozen 0; have v1 := hres.frozen 1; have v2 := hres.frozen 2; have v3 := hres.frozen 3; have v4 := hres.frozen 4
      have r0 := hres.cell 0; have r1 := hres.cell 1; have r2 := hres.cell 2; have r3 := hres.cell 3; have r4 := hres.cell 4
      simp only [List.getElem?_cons_zero, List.getElem?_cons_succ] at r0 r1 r2 r3 r4
      obtain ⟨n, hn⟩ : ∃ n, n = rdMan l := ⟨_, rfl⟩
      obtain ⟨ne, hne⟩ : ∃ k, k = rdErr l := ⟨_, rfl⟩
      rw [← hn] at hs2 hn2
      have hr := Hr.out
      rw [← hn, ← hne] at hr ⊢
      have Hr2 := Lib.hid hr
      have hw1 := hbw1.size
      have hlt1 := hres1.lt
      clear hn hne hr Hr hrow1 hres1 hbw1 hb2
      go_wp2
      refine bodyPost_ret (v := .tuple #[manV n A2 c2, .int .i64 ne]) (by simp [results, Try.results41, go_sem, *]) rfl ?_
      rw [Hr2.out]
      refine ⟨A2, c2, rfl, ?_, hn2, below_set5 hbw (Nat.le_refl _) _ _ _ _ _⟩
      refine own_but (own_mono hs2 (by omega)) (S := [w.heap.size]) (((((But.refl _ _).setCell (by simp) _).setCell (by simp) _).setCell (by simp) _).setCell (by simp) _ |>.setCell (by simp) _) (fun q hq hm => ?_)
      have := (own_ge hs2 q (by simp [hq])).1
      simp only [List.mem_cons, List.not_mem_nil, or_false] at hm
      omega
    · have hz := nz_true h0
      have Hr := Lib.hid ((Hre.out.trans (if_neg h0)).trans (if_neg h1))
      clear Hre h0 hrow1 h1
      have v0 := hres1.frozen 0; have v1 := hres1.frozen 1; have v2 := hres1.frozen 2; have v3 := hres1.frozen 3; have v4 := hres1.frozen 4
      have r0 := hres1.cell 0; have r1 := hres1.cell 1; have r2 := hres1.cell 2; have r3 := hres1.cell 3; have r4 := hres1.cell 4
      simp only [List.getElem?_cons_zero, List.getElem?_cons_succ] at r0 r1 r2 r3 r4
      go_wp2
      refine bodyPost_ret (v := .tuple #[manV zeroMan none 0, .int .i64 e1]) (by simp [results, Try.results41, go_sem, zeroMan, *]) rfl ?_
      rw [Hr.out]
      exact ⟨none, 0, rfl, World.ownsRow_nil _ _ _ _, by simp [zeroMan], below_set5 hbw1 (Nat.le_refl _) _ _ _ _ _⟩
end Go.Proofs.Ytmddgimadlmacaa
