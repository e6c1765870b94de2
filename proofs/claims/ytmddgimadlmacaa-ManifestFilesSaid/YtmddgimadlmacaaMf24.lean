import Derived.Test.YtmddgimadlmacaaMf16
import Derived.Test.YtmddgimadlmacaaMf23
import Derived.Deep.DeepCutAuto
import Derived.Outline
import Derived.Test.YtmddgimadlmacaaMf03
namespace Go.Proofs.Ytmddgimadlmacaa
open Go.RowKit Garner

abbrev nmM : Bs := [109, 97, 110, 105, 102, 101, 115, 116]
abbrev nmF : Bs := [109, 97, 110, 105, 102, 101, 115, 116, 46, 110, 101, 119]
theorem dmM (b : Bool) : dmay [nmS nmM] b = if b then 23 else 0 := by cases b <;> kernel_rfl
theorem dmF (b : Bool) : dmay [nmS nmF] b = if b then 23 else 0 := by cases b <;> kernel_rfl
theorem dmB (b : Bool) : dmay [nmS nmF, nmS nmM] b = if b then 23 else 0 := by cases b <;> kernel_rfl
/-- what Save does to a disk -/
def aSave (m : Man) (d : AD) : Nat × AD :=
  if wrErr m ≠ 0 then (wrErr m, d)
  else if (aDelete nmF d).1 ≠ 0 ∧ (aDelete nmF d).1 ≠ 21 then aDelete nmF d
  else if (aAppend nmF (wrBytes m) (aDelete nmF d).2).1 ≠ 0 then aAppend nmF (wrBytes m) (aDelete nmF d).2
  else if (aSync nmF (aAppend nmF (wrBytes m) (aDelete nmF d).2).2).1 ≠ 0 then aSync nmF (aAppend nmF (wrBytes m) (aDelete nmF d).2).2
  else aRename nmF nmM (aSync nmF (aAppend nmF (wrBytes m) (aDelete nmF d).2).2).2
/-- what Load answers of a disk -/
def aLoad (d : AD) : Man × Nat :=
  if (aRead nmM d).2 = 0 then (rdMan (aRead nmM d).1, rdErr (aRead nmM d).1)
  else if (aRead nmM d).2 = 21 then (firstMan, 0) else (zeroMan, (aRead nmM d).2)
section
variable {base g mp : Nat} {d : AD} {w : World}
/-- behind the deletion the new file isn't there, or the disk is down -/
theorem del_cases (hn : (d.fs.map (·.1)).Nodup) : (d.dn = true ∧ aDelete nmF d = (23, d)) ∨ (d.dn = false ∧ ((aDelete nmF d).1 = 0 ∨ (aDelete nmF d).1 = 21) ∧ fget nmF (aDelete nmF d).2.fs = ([], 0)) := by
  obtain ⟨fs, fl, dn, left⟩ := d
  cases dn with
  | true => exact Or.inl ⟨rfl, by unfold aDelete; rw [if_pos (by rw [dmF]; exact (by decide : (23 : Nat) ≠ 0)), dmF]; rfl⟩
  | false =>
    refine Or.inr ⟨rfl, ?_⟩
    unfold aDelete
    rw [if_neg (by rw [dmF]; exact fun h => h rfl)]
    simp only at hn ⊢
    cases he : aget nmF fs with
    | none => exact ⟨Or.inr rfl, by simp only [AD.chg, fget, he]; rfl⟩
    | some f => exact ⟨Or.inl rfl, by simp only [fget, aget_adel nmF fs hn]; rfl⟩
end
/-- what Write answers: bytes of its own -/
theorem write_own {w : World} {m : Man} {e : Ending} {w' : World} (h : WritePost w (mwrite m) e w') :
    ∃ A c, e = .returned (.tuple #[.slice A (wrBytes m).length c, .int .i64 (wrErr m)]) ∧ (wrBytes m).length ≤ c ∧ OwnB w' w.heap.size (.slice A (wrBytes m).length c) (wrBytes m) ∧ Below w.heap.size w w' := by
  unfold wrBytes wrErr
  cases hm : mwrite m with
  | error k => rw [hm] at h; exact ⟨none, 0, h.1, by simp, World.ownsRow_nil _ _ _ _, h.2⟩
  | ok f =>
    rw [hm] at h
    obtain ⟨v, rfl, hown, hb⟩ := h
    obtain ⟨A, c, rfl, hc⟩ := own_form hown
    exact ⟨A, c, rfl, hc, hown, hb⟩
theorem nz_true {k : Nat} (h : k ≠ 0) : ((k : Int) != 0) = true := by rw [bne_iff_ne]; omega
theorem nz_false {k : Nat} (h : k = 0) : ((k : Int) != 0) = false := by subst h; rfl
set_option maxRecDepth 100000 in
set_option maxHeartbeats 4000000 in
theorem vSave (m : Man) (A : Option Addr) (c B base g mp : Nat) (d : AD) (w : World) (h : DiskA base w g mp d) (hr : Segs w B A m.segs.length m.segs) (hB : B ≤ w.heap.size) (hw : m.wf) (hl : m.segs.length ≤ 140737488355328) :
    Calls Try.prog 38 #[.pointer (some ⟨g, 0, none⟩), manV m A c] w fun e w' => e = .returned (.int .i64 (aSave m d).1) ∧ DiskA base w' g mp (aSave m d).2 ∧ But [g, mp] w w' := by
  have hnd := h.nodup
  have Hw := Lib.hid hw; clear hw
  have hwl := wr_len m
  obtain ⟨r, hre⟩ : ∃ r, r = aSave m d := ⟨_, rfl⟩
  rw [← hre]
  unfold aSave at hre
  have Hre := Lib.hid hre; clear hre
  go_enter Try.func38, Try.ntmps38
  go_wp2_with fail
  obtain ⟨X0, hX0⟩ : ∃ X, X = w.alloc (manBox m A c) := ⟨_, rfl⟩
  change Calls _ _ _ (w.alloc (manBox m A c)) _
  rw [← hX0]
  have hbX : Below w.heap.size w X0 := by rw [hX0]; exact (Below.refl _ _).alloc (Nat.le_refl _) _
  clear hX0
  refine (vWrite m A c B X0 (hr.below (hbX.mono hB)) (Nat.le_trans hB hbX.size) Hw.out hl).mono ?_
  rintro e w1 hpost
  obtain ⟨A1, c1, rfl, hc1, hown1, hb1⟩ := write_own hpost
  clear hpost
  have hrow1 : Bytes w1 w1.heap.size A1 (wrBytes m).length (wrBytes m) := Row.of_own hown1
  have hlt := h.lt
  have hA1 : 0 < (wrBytes m).length → ∀ b off, A1 = some ⟨b, off, none⟩ → b ∉ [g, mp] := fun _ b off e hm => by
    have h1 := (own_ge hown1 b (by rw [e]; simp [Value.ownBlock])).1
    have h2 := hbX.size
    simp only [List.mem_cons, List.not_mem_nil, or_false] at hm; omega
  clear hown1 hlt
  have hb01 := hbX.trans (hb1.mono hbX.size)
  have hd1 := h.below hb01
  clear hbX hb1
  obtain ⟨x, hx⟩ : ∃ x, x = wrBytes m := ⟨_, rfl⟩
  obtain ⟨xe, hxe⟩ : ∃ k, k = wrErr m := ⟨_, rfl⟩
  rw [← hx] at hrow1 hc1 hwl hA1
  have Hx := Lib.hid hx; have Hxe := Lib.hid hxe
  rw [← hxe, ← hx] at Hre ⊢
  clear hx hxe
  by_cases h0 : xe = 0
  · have Hre' := Lib.hid (Hre.out.trans (if_neg (by simpa using h0))); clear Hre
    have hz := nz_false h0
    go_wp2_with fail
    refine (aDelete_calls nmF base g mp d w1 hd1).mono ?_
    rintro e w2 ⟨rfl, hd2, hb2⟩
    have hb02 : But [g, mp] w w2 := (But.of_below hb01).trans hb2
    rcases del_cases hnd with ⟨hdn, hde⟩ | ⟨hdn, hde, hfz⟩
    · have hr := Hre'.out.trans (if_pos (by rw [hde]; exact ⟨(by decide : (23 : Nat) ≠ 0), (by decide : (23 : Nat) ≠ 21)⟩))
      rw [hde] at hd2 hr
      rw [hde]
      have Hr := Lib.hid hr
      clear Hre' hr hde
      go_wp2
      go_ret
      rw [Hr.out]
      exact ⟨rfl, hd2, hb02⟩
    · have hr := Hre'.out.trans (if_neg (by rintro ⟨h1, h2⟩; rcases hde with h | h; exact h1 h; exact h2 h))
      clear Hre'
      obtain ⟨q1, hq1⟩ : ∃ q, q = aDelete nmF d := ⟨_, rfl⟩
      rw [← hq1] at hr hd2 hde hfz ⊢
      clear hq1
      obtain ⟨e1, d1⟩ := q1
      simp only at hr hd2 hde hfz ⊢
      obtain ⟨q2, hq2⟩ : ∃ q, q = aAppend nmF x d1 := ⟨_, rfl⟩
      have Hq2 := Lib.hid hq2
      rw [← hq2] at hr
      clear hq2
      obtain ⟨e2, d2⟩ := q2
      simp only at hr
      obtain ⟨q3, hq3⟩ : ∃ q, q = aSync nmF d2 := ⟨_, rfl⟩
      have Hq3 := Lib.hid hq3
      rw [← hq3] at hr
      clear hq3
      obtain ⟨e3, d3⟩ := q3
      simp only at hr
      have Hr := Lib.hid hr
      clear hr
      have hsel : ((e1 : Int) != 0) = false ∨ (((e1 : Int) != 0) = true ∧ ((e1 : Int) != 21) = false) := by
        rcases hde with h | h
        · exact Or.inl (nz_false h)
        · subst h; exact Or.inr ⟨rfl, rfl⟩
      clear hde
      have hrow2 : Bytes w2 w2.heap.size A1 x.length x := hrow1.but' hb2 hA1
      clear hrow1
      rcases hsel with hs | ⟨hs, hs'⟩
      all_goals
        go_wp2_with fail
        refine (aAppend_calls nmF x A1 c1 w2.heap.size base g mp d1 w2 hd2 hrow2 (Nat.le_refl _) (by rw [hfz]; simp only [List.length_nil]; omega)).mono ?_
        rintro e w3 ⟨rfl, hd3, hb3⟩
        rw [← Hq2.out] at hd3 ⊢
        simp only at hd3 ⊢
        have hb03 := hb02.trans hb3
        clear hd2 hrow2 hb3 hs
        try clear hs'
        by_cases h2 : e2 = 0
        · have hz2 := nz_false h2
          have Hr2 := Lib.hid (Hr.out.trans (if_neg (by simpa using h2)))
          clear h2
          go_wp2_with fail
          refine (aSync_calls nmF base g mp d2 w3 hd3).mono ?_
          rintro e w4 ⟨rfl, hd4, hb4⟩
          rw [← Hq3.out] at hd4 ⊢
          simp only at hd4 ⊢
          have hb04 := hb03.trans hb4
          clear hd3 hb4 hz2
          by_cases h3 : e3 = 0
          · have hz3 := nz_false h3
            have Hr3 := Lib.hid (Hr2.out.trans (if_neg (by simpa using h3)))
            clear h3
            go_wp2_with fail
            refine (aRename_calls nmF nmM base g mp d3 w4 hd4).mono ?_
            rintro e w5 ⟨rfl, hd5, hb5⟩
            have hb05 := hb04.trans hb5
            clear hd4 hb5 hz3
            go_wp2
            go_ret
            rw [Hr3.out]
            exact ⟨rfl, hd5, hb05⟩
          · have hz3 := nz_true h3
            have Hr3 := Lib.hid (Hr2.out.trans (if_pos h3))
            go_wp2
            go_ret
            rw [Hr3.out]
            exact ⟨rfl, hd4, hb04⟩
        · have hz2 := nz_true h2
          have Hr2 := Lib.hid (Hr.out.trans (if_pos h2))
          go_wp2
          go_ret
          rw [Hr2.out]
          exact ⟨rfl, hd3, hb03⟩
  · have Hre' := Hre.out.trans (if_pos h0); clear Hre
    have hz := nz_true h0
    have Hr := Lib.hid Hre'
    clear Hre'
    go_wp2
    go_ret
    rw [Hr.out]
    exact ⟨rfl, hd1, But.of_below hb01⟩
end Go.Proofs.Ytmddgimadlmacaa
namespace Go.Proofs.Ytmddgimadlmacaa
open Go.RowKit Garner

theorem ze_true {k : Nat} (h : k = 0) : ((k : Int) == 0) = true := by subst h; rfl
theorem ze_false {k : Nat} (h : k ≠ 0) : ((k : Int) == 0) = false := by rw [beq_eq_false_iff_ne]; omega
theorem ne_eq21 {k : Nat} (h : k ≠ 21) : ((k : Int) == 21) = false := by rw [beq_eq_false_iff_ne]; omega
set_option maxRecDepth 100000 in
set_option maxHeartbeats 4000000 in
theorem vLoad (base g mp : Nat) (d : AD) (w : World) (h : DiskA base w g mp d) :
    Calls Try.prog 40 #[.pointer (some ⟨g, 0, none⟩)] w fun e w' => ∃ A c, e = .returned (.tuple #[manV (aLoad d).1 A c, .int .i64 (aLoad d).2]) ∧ w'.ownsRow w.heap.size 36 4 (.slice A (aLoad d).1.segs.length c) (aLoad d).1.segs.length (segCells (aLoad d).1.segs) ∧ (aLoad d).1.segs.length ≤ 140737488355328 ∧ Below w.heap.size w w' := by
  have hrl := h.rlen nmM
  obtain ⟨r, hre⟩ : ∃ r, r = aLoad d := ⟨_, rfl⟩
  rw [← hre]
  unfold aLoad at hre
  have Hre := Lib.hid hre; clear hre
  go_enter Try.func40, Try.ntmps40
  go_wp2_with fail
  refine (aRead_calls nmM base g mp d _ (h.below ((Below.refl _ _).alloc (Nat.le_refl _) _))).mono ?_
  rintro e w1 ⟨A1, c1, rfl, hown1, hb1⟩
  obtain ⟨q, hq⟩ : ∃ q, q = aRead nmM d := ⟨_, rfl⟩
  rw [← hq] at Hre hrl hown1 ⊢
  clear hq
  obtain ⟨l, e1⟩ := q
  simp only at Hre hrl hown1 ⊢
  simp only [World.size_alloc] at hb1
  have hres1 : Blk w1 w.heap.size 25 [.int .i64 0, .int .i64 0, .int .u64 0, .int .i64 0, .slice none 0 0] := (Blk.new w _ _).below hb1 (by omega)
  have hbw1 : Below w.heap.size w w1 := ((Below.refl w.heap.size w).alloc (Nat.le_refl _) _).trans (hb1.mono (Nat.le_succ _))
  have hrow1 : Bytes w1 w1.heap.size A1 l.length l := Row.of_own hown1
  obtain ⟨A1', c1', he, hc1⟩ := own_form hown1
  injection he with hA hl hc
  subst hA hc
  clear hown1 hb1 hl
  by_cases h0 : e1 = 0
  · have hz := ze_true h0
    have Hr := Lib.hid (Hre.out.trans (if_pos h0))
    clear Hre h0
    go_wp2_with fail
    refine (vMread l A1 c1 w1.heap.size w1 hrow1 (Nat.le_refl _) hc1 hrl).mono ?_
    rintro e w2 hpost
    obtain ⟨A2, c2, rfl, hs2, hn2, hb2⟩ := MreadPost.u hpost
    clear hpost
    have hres : Blk w2 w.heap.size 25 [.int .i64 0, .int .i64 0, .int .u64 0, .int .i64 0, .slice none 0 0] := hres1.below hb2 hres1.lt
    have hbw : Below w.heap.size w w2 := hbw1.trans (hb2.mono (by have := hres1.lt; omega))
    have v0 := hres.frozen 0; have v1 := hres.frozen 1; have v2 := hres.frozen 2; have v3 := hres.frozen 3; have v4 := hres.frozen 4
    have r0 := hres.cell 0; have r1 := hres.cell 1; have r2 := hres.cell 2; have r3 := hres.cell 3; have r4 := hres.cell 4
    simp only [List.getElem?_cons_zero, List.getElem?_cons_succ] at r0 r1 r2 r3 r4
    obtain ⟨n, hn⟩ : ∃ n, n = rdMan l := ⟨_, rfl⟩
    obtain ⟨ne, hne⟩ : ∃ k, k = rdErr l := ⟨_, rfl⟩
    rw [← hn] at hs2 hn2
    have hr := Hr.out
    rw [← hn, ← hne] at hr ⊢
    have Hr2 := Lib.hid hr
    have hw1 := hbw1.size
    have hlt1 := hres1.lt
    clear hn hne hr Hr hrow1 hres1 hbw1 hb2
    go_wp2
    refine bodyPost_ret (v := .tuple #[manV n A2 c2, .int .i64 ne]) (by simp [results, Try.results40, go_sem, *]) rfl ?_
    rw [Hr2.out]
    refine ⟨A2, c2, rfl, ?_, hn2, below_set5 hbw (Nat.le_refl _) _ _ _ _ _⟩
    refine own_but (own_mono hs2 (by omega)) (S := [w.heap.size]) (((((But.refl _ _).setCell (by simp) _).setCell (by simp) _).setCell (by simp) _).setCell (by simp) _ |>.setCell (by simp) _) (fun q hq hm => ?_)
    have := (own_ge hs2 q (by simp [hq])).1
    simp only [List.mem_cons, List.not_mem_nil, or_false] at hm
    omega
  · have hz := ze_false h0
    by_cases h1 : e1 = 21
    · subst h1
      have Hr := Lib.hid ((Hre.out.trans (if_neg h0)).trans (if_pos rfl))
      clear Hre h0 hrow1
      go_wp2_with fail
      refine (vFirst w1).mono ?_
      rintro e w2 ⟨rfl, hb2⟩
      have hres : Blk w2 w.heap.size 25 [.int .i64 0, .int .i64 0, .int .u64 0, .int .i64 0, .slice none 0 0] := hres1.below hb2 hres1.lt
      have hbw : Below w.heap.size w w2 := hbw1.trans (hb2.mono (by have := hres1.lt; omega))
      have v0 := hres.frozen 0; have v1 := hres.frozen 1; have v2 := hres.frozen 2; have v3 := hres.frozen 3; have v4 := hres.frozen 4
      have r0 := hres.cell 0; have r1 := hres.cell 1; have r2 := hres.cell 2; have r3 := hres.cell 3; have r4 := hres.cell 4
      simp only [List.getElem?_cons_zero, List.getElem?_cons_succ] at r0 r1 r2 r3 r4
      clear hres1 hbw1 hb2
      simp only [firstMan]
      go_wp2
      refine bodyPost_ret (v := .tuple #[manV firstMan none 0, .int .i64 0]) (by simp [results, Try.results40, go_sem, firstMan, *]) rfl ?_
      rw [Hr.out]
      exact ⟨none, 0, rfl, World.ownsRow_nil _ _ _ _, by simp [firstMan], below_set5 hbw (Nat.le_refl _) _ _ _ _ _⟩
    · have Hr := Lib.hid ((Hre.out.trans (if_neg h0)).trans (if_neg h1))
      have hz1 := ne_eq21 h1
      clear Hre h0 hrow1 h1
      have v0 := hres1.frozen 0; have v1 := hres1.frozen 1; have v2 := hres1.frozen 2; have v3 := hres1.frozen 3; have v4 := hres1.frozen 4
      have r0 := hres1.cell 0; have r1 := hres1.cell 1; have r2 := hres1.cell 2; have r3 := hres1.cell 3; have r4 := hres1.cell 4
      simp only [List.getElem?_cons_zero, List.getElem?_cons_succ] at r0 r1 r2 r3 r4
      go_wp2
      refine bodyPost_ret (v := .tuple #[manV zeroMan none 0, .int .i64 e1]) (by simp [results, Try.results40, go_sem, zeroMan, *]) rfl ?_
      rw [Hr.out]
      exact ⟨none, 0, rfl, World.ownsRow_nil _ _ _ _, by simp [zeroMan], below_set5 hbw1 (Nat.le_refl _) _ _ _ _ _⟩
end Go.Proofs.Ytmddgimadlmacaa
namespace Go.Proofs.Ytmddgimadlmacaa
open Go.RowKit Garner

theorem sv_no {m : Man} {d : AD} (h : wrErr m ≠ 0) : aSave m d = (wrErr m, d) := if_pos h
theorem de_dn (fs : List (Bs × FileD)) (fl : Bool) (L : Int) : aDelete nmF ⟨fs, fl, true, L⟩ = (23, ⟨fs, fl, true, L⟩) := by unfold aDelete; rw [if_pos (by rw [dmF]; exact (by decide : (23 : Nat) ≠ 0)), dmF]; rfl
theorem de_none {fs : List (Bs × FileD)} {L : Int} (h : aget nmF fs = none) : aDelete nmF ⟨fs, false, false, L⟩ = (21, ⟨fs, false, armedD L false, armed L⟩) := by
  unfold aDelete; rw [if_neg (by rw [dmF]; exact fun h => h rfl)]; simp only [h]; rfl
theorem de_some {fs : List (Bs × FileD)} {L : Int} {f : FileD} (h : aget nmF fs = some f) : aDelete nmF ⟨fs, false, false, L⟩ = (0, ⟨adel nmF fs, false, armedD L false, armed L⟩) := by
  unfold aDelete; rw [if_neg (by rw [dmF]; exact fun h => h rfl)]; simp only [h]; rfl
/-- saved on a disk that is up and stays so -/
theorem sv_up {m : Man} (hm : wrErr m = 0) {fs fs0 : List (Bs × FileD)} {L L1 L2 L3 : Int} {e : Nat} (hd : aDelete nmF ⟨fs, false, false, L⟩ = (e, ⟨fs0, false, false, L1⟩)) (he : e = 0 ∨ e = 21) (hf : aget nmF fs0 = none)
    (h1 : armedD L1 false = false) (h2 : armed L1 = L2) (h3 : armedD L2 false = false) (h4 : armed L2 = L3) {fs1 fs2 : List (Bs × FileD)} (hp : aput nmF (wrBytes m, 0) fs0 = fs1) (hg : aget nmF fs1 = some (wrBytes m, 0)) (hq : aput nmF (wrBytes m, (wrBytes m).length) fs1 = fs2) (hr : aget nmF fs2 = some (wrBytes m, (wrBytes m).length)) :
    aSave m ⟨fs, false, false, L⟩ = (0, ⟨aput nmM (wrBytes m, (wrBytes m).length) (adel nmF fs2), false, armedD L3 false, armed L3⟩) := by
  have hfg : fget nmF fs0 = ([], 0) := by unfold fget; rw [hf]; rfl
  have ha : aAppend nmF (wrBytes m) ⟨fs0, false, false, L1⟩ = (0, ⟨fs1, false, false, L2⟩) := by
    rw [ap_up _ _ _ _ (dmF false), hfg, List.nil_append, hp, h1, h2]
  have hs : aSync nmF ⟨fs1, false, false, L2⟩ = (0, ⟨fs2, false, false, L3⟩) := by
    rw [sy_up _ _ _ _ (dmF false) hg, hq, h3, h4]
  have hn : aRename nmF nmM ⟨fs2, false, false, L3⟩ = (0, ⟨aput nmM (wrBytes m, (wrBytes m).length) (adel nmF fs2), false, armedD L3 false, armed L3⟩) := rn_up _ _ _ _ _ (dmB false) hr
  unfold aSave
  rw [if_neg (by simpa using hm), hd]
  simp only
  rw [if_neg (by rintro ⟨a, b⟩; rcases he with h | h; exact a h; exact b h), ha]
  simp only [ne_eq, not_true_eq_false, if_false]
  rw [hs]
  simp only [not_true_eq_false, if_false]
  exact hn
/-- what is on the disk ahead -/
def fsO (x : Option Bs) : List (Bs × FileD) := match x with | none => [] | some x => [(nmM, (x, x.length))]
def withF (x : Option Bs) (f : FileD) : List (Bs × FileD) := match x with | none => [(nmF, f)] | some x => [(nmM, (x, x.length)), (nmF, f)]
theorem f_none (x : Option Bs) : aget nmF (fsO x) = none := by cases x <;> rfl
theorem f_some (x : Option Bs) (f : FileD) : aget nmF (withF x f) = some f := by cases x <;> rfl
theorem f_put (x : Option Bs) (f : FileD) : aput nmF f (fsO x) = withF x f := by cases x <;> rfl
theorem f_put2 (x : Option Bs) (f f' : FileD) : aput nmF f (withF x f') = withF x f := by cases x <;> rfl
theorem f_del (x : Option Bs) (f : FileD) : adel nmF (withF x f) = fsO x := by cases x <;> rfl
theorem f_ren (x : Option Bs) (y : Bs) (f : FileD) : aput nmM (y, y.length) (adel nmF (withF x f)) = fsO (some y) := by cases x <;> rfl
theorem f_new : fsO none = [] := rfl
/-- saved, nothing in the way -/
theorem sv_fresh {m : Man} (hm : wrErr m = 0) (x : Option Bs) : aSave m ⟨fsO x, false, false, -1⟩ = (0, ⟨fsO (some (wrBytes m)), false, false, -1⟩) := by
  rw [sv_up hm (de_none (f_none x)) (Or.inr rfl) (f_none x) rfl rfl rfl rfl (f_put x _) (f_some x _) (f_put2 x _ _) (f_some x _), f_ren]
  rfl
theorem sv_over {m : Man} (hm : wrErr m = 0) (x : Option Bs) (f : FileD) : aSave m ⟨withF x f, false, false, -1⟩ = (0, ⟨fsO (some (wrBytes m)), false, false, -1⟩) := by
  rw [sv_up hm (de_some (f_some x f)) (Or.inl rfl) (by rw [f_del]; exact f_none x) rfl rfl rfl rfl (by rw [f_del]; exact f_put x _) (f_some x _) (f_put2 x _ _) (f_some x _), f_ren]
  rfl
/-- the disk goes down at change k -/
theorem sv_arm {m : Man} (hm : wrErr m = 0) (x : Option Bs) (k : Nat) (hk : k < 7) :
    ∃ fs dn L, aSave m (aArm k ⟨fsO x, false, false, -1⟩) = ((if 4 ≤ k then 0 else 23), ⟨fs, false, dn, L⟩) ∧ (fs = (if 4 ≤ k then fsO (some (wrBytes m)) else fsO x) ∨ (k < 4 ∧ ∃ f, fs = withF x f)) := by
  have hk' : k = 0 ∨ k = 1 ∨ k = 2 ∨ k = 3 ∨ k = 4 ∨ k = 5 ∨ k = 6 := by omega
  have hfg : fget nmF (fsO x) = ([], 0) := by unfold fget; rw [f_none]; rfl
  rcases hk' with rfl | rfl | rfl | rfl | rfl | rfl | rfl
  · refine ⟨fsO x, true, 0, ?_, Or.inl rfl⟩
    show aSave m ⟨fsO x, false, true, 0⟩ = _
    unfold aSave; rw [if_neg (by simpa using hm), de_dn]; rfl
  · refine ⟨fsO x, true, 0, ?_, Or.inl rfl⟩
    show aSave m ⟨fsO x, false, false, 1⟩ = _
    unfold aSave; rw [if_neg (by simpa using hm), de_none (f_none x)]
    show (if _ then _ else if _ then _ else _) = _
    rw [if_neg (fun h => h.2 rfl), show armedD 1 false = true from rfl, show armed 1 = 0 from rfl, ap_dn _ _ _ _ (dmF true)]
    rfl
  · refine ⟨withF x (wrBytes m, 0), true, 0, ?_, Or.inr ⟨by omega, _, rfl⟩⟩
    show aSave m ⟨fsO x, false, false, 2⟩ = _
    unfold aSave; rw [if_neg (by simpa using hm), de_none (f_none x)]
    show (if _ then _ else if _ then _ else _) = _
    rw [if_neg (fun h => h.2 rfl), show armedD 2 false = false from rfl, show armed 2 = 1 from rfl, ap_up _ _ _ _ (dmF false), hfg, List.nil_append, f_put, show armedD 1 false = true from rfl, show armed 1 = 0 from rfl]
    simp only [ne_eq, not_true_eq_false, if_false]
    rw [sy_dn _ _ _ (dmF true)]
    rfl
  · refine ⟨withF x (wrBytes m, (wrBytes m).length), true, 0, ?_, Or.inr ⟨by omega, _, rfl⟩⟩
    show aSave m ⟨fsO x, false, false, 3⟩ = _
    unfold aSave; rw [if_neg (by simpa using hm), de_none (f_none x)]
    show (if _ then _ else if _ then _ else _) = _
    rw [if_neg (fun h => h.2 rfl), show armedD 3 false = false from rfl, show armed 3 = 2 from rfl, ap_up _ _ _ _ (dmF false), hfg, List.nil_append, f_put, show armedD 2 false = false from rfl, show armed 2 = 1 from rfl]
    simp only [ne_eq, not_true_eq_false, if_false]
    rw [sy_up _ _ _ _ (dmF false) (f_some x _), f_put2, show armedD 1 false = true from rfl, show armed 1 = 0 from rfl]
    simp only [not_true_eq_false, if_false]
    rw [rn_dn _ _ _ _ (dmB true)]
    rfl
  · refine ⟨fsO (some (wrBytes m)), true, 0, ?_, Or.inl rfl⟩
    show aSave m ⟨fsO x, false, false, 4⟩ = _
    rw [sv_up hm (de_none (f_none x)) (Or.inr rfl) (f_none x) rfl rfl rfl rfl (f_put x _) (f_some x _) (f_put2 x _ _) (f_some x _), f_ren]
    rfl
  · refine ⟨fsO (some (wrBytes m)), false, 1, ?_, Or.inl rfl⟩
    show aSave m ⟨fsO x, false, false, 5⟩ = _
    rw [sv_up hm (de_none (f_none x)) (Or.inr rfl) (f_none x) rfl rfl rfl rfl (f_put x _) (f_some x _) (f_put2 x _ _) (f_some x _), f_ren]
    rfl
  · refine ⟨fsO (some (wrBytes m)), false, 2, ?_, Or.inl rfl⟩
    show aSave m ⟨fsO x, false, false, 6⟩ = _
    rw [sv_up hm (de_none (f_none x)) (Or.inr rfl) (f_none x) rfl rfl rfl rfl (f_put x _) (f_some x _) (f_put2 x _ _) (f_some x _), f_ren]
    rfl
theorem cut_full_at (keep : List Int) (i : Nat) (l : Bs) : cutD keep i (l, l.length) = (l, l.length) := by
  have h : keptN keep i (l, l.length) = l.length := by unfold keptN; split <;> simp only <;> omega
  unfold cutD; rw [h]; simp
/-- begun anew: what was synced stays -/
theorem rs_fsO (keep : List Int) (x : Option Bs) : rst keep (fsO x) = fsO x := by
  cases x with
  | none => rfl
  | some x =>
    show rst keep [(nmM, (x, x.length))] = _
    rw [rst_one, cut_full_at]; rfl
theorem rs_withF (keep : List Int) (x : Option Bs) (f : FileD) : ∃ f', rst keep (withF x f) = withF x f' := by
  cases x with
  | none => exact ⟨_, rst_one keep nmF f⟩
  | some x =>
    unfold rst rstUp
    simp only [withF, List.map_cons, List.map_nil, cut_full_at, ite_self]
    exact ⟨_, rfl⟩
theorem ld_some (x : Bs) {m : Man} (hw : m.wf) (hm : wrErr m = 0) (hx : x = wrBytes m) (r : List (Bs × FileD)) (n : Nat) : aLoad ⟨(nmM, (x, n)) :: r, false, false, -1⟩ = (m, 0) := by
  have h := (mread_mwrite hw (wr_ok hm)).1
  have e : aRead nmM ⟨(nmM, (x, n)) :: r, false, false, -1⟩ = (x, 0) := by unfold aRead; rw [if_neg (by rw [dmM]; exact fun h => h rfl)]; rfl
  unfold aLoad rdMan rdErr
  rw [e, if_pos rfl]
  simp only
  rw [hx, h]
  rfl
theorem ld_none {fs : List (Bs × FileD)} (h : aget nmM fs = none) : aLoad ⟨fs, false, false, -1⟩ = (firstMan, 0) := by
  have e : aRead nmM ⟨fs, false, false, -1⟩ = ([], 21) := by unfold aRead; rw [if_neg (by rw [dmM]; exact fun h => h rfl)]; simp only [h]
  unfold aLoad
  rw [e]
  rfl
def xOf (m : Man) : Option Bs := if wrErr m = 0 then some (wrBytes m) else none
def oOf (m : Man) : Man := if wrErr m = 0 then m else firstMan
theorem sw1 (old : Man) : aSave old AD.new = (wrErr old, ⟨fsO (xOf old), false, false, -1⟩) := by
  unfold xOf
  by_cases h : wrErr old = 0
  · rw [if_pos h, h]; exact sv_fresh h none
  · rw [if_neg h, sv_no h]; rfl
theorem ld_o (old : Man) (hw : old.wf) : aLoad ⟨fsO (xOf old), false, false, -1⟩ = (oOf old, 0) := by
  unfold xOf oOf
  by_cases h : wrErr old = 0
  · rw [if_pos h, if_pos h]; exact ld_some _ hw h rfl [] _
  · rw [if_neg h, if_neg h]; exact ld_none rfl
theorem ld_with (old : Man) (hw : old.wf) (f : FileD) : aLoad ⟨withF (xOf old) f, false, false, -1⟩ = (oOf old, 0) := by
  unfold xOf oOf
  by_cases h : wrErr old = 0
  · rw [if_pos h, if_pos h]; exact ld_some _ hw h rfl _ _
  · rw [if_neg h, if_neg h]; exact ld_none rfl
theorem ld_new {m : Man} (hw : m.wf) (h : wrErr m = 0) : aLoad ⟨fsO (some (wrBytes m)), false, false, -1⟩ = (m, 0) := ld_some _ hw h rfl [] _
theorem li_new (y : Bs) : aList ⟨fsO (some y), false, false, -1⟩ = ([nmM], 0) := by simp [aList, fsO, sortN]
/-- what is known of the disk behind the second saving -/
structure SW (old fresh : Man) (k : Nat) (keep : List Int) (e : Nat) (d3 : AD) : Prop where
  len : d3.fs.length ≤ 2
  load : aLoad (aRestart keep d3) = (if wrErr fresh = 0 ∧ 4 ≤ k then fresh else oOf old, 0)
  err : e = if wrErr fresh = 0 then (if 4 ≤ k then 0 else 23) else wrErr fresh
  again : wrErr fresh = 0 → aSave fresh (aRestart keep d3) = (0, ⟨fsO (some (wrBytes fresh)), false, false, -1⟩)
theorem sw_all (old fresh : Man) (hwo : old.wf) (hwf : fresh.wf) (k : Nat) (hk : k < 7) (keep : List Int) : SW old fresh k keep (aSave fresh (aArm k ⟨fsO (xOf old), false, false, -1⟩)).1 (aSave fresh (aArm k ⟨fsO (xOf old), false, false, -1⟩)).2 := by
  have hl : ∀ x, (fsO x).length ≤ 2 := fun x => by cases x <;> simp [fsO]
  by_cases hf : wrErr fresh = 0
  · obtain ⟨fs, dn, L, h1, h2⟩ := sv_arm hf (xOf old) k hk
    rw [h1]
    rcases h2 with rfl | ⟨hk4, f, rfl⟩
    · by_cases h4 : 4 ≤ k
      · simp only [if_pos h4]
        have e : aRestart keep ⟨fsO (some (wrBytes fresh)), false, dn, L⟩ = ⟨fsO (some (wrBytes fresh)), false, false, -1⟩ := by unfold aRestart; rw [rs_fsO]
        exact ⟨hl (some (wrBytes fresh)), by rw [e, if_pos ⟨hf, h4⟩]; exact ld_new hwf hf, by rw [if_pos hf, if_pos h4], fun _ => by rw [e]; exact sv_fresh hf _⟩
      · simp only [if_neg h4]
        have e : aRestart keep ⟨fsO (xOf old), false, dn, L⟩ = ⟨fsO (xOf old), false, false, -1⟩ := by unfold aRestart; rw [rs_fsO]
        exact ⟨hl (xOf old), by rw [e, if_neg (fun h => h4 h.2)]; exact ld_o old hwo, by rw [if_pos hf, if_neg h4], fun _ => by rw [e]; exact sv_fresh hf _⟩
    · have h4 : ¬ 4 ≤ k := by omega
      simp only [if_neg h4]
      obtain ⟨f', hr⟩ := rs_withF keep (xOf old) f
      have e : aRestart keep ⟨withF (xOf old) f, false, dn, L⟩ = ⟨withF (xOf old) f', false, false, -1⟩ := by unfold aRestart; rw [hr]
      exact ⟨by cases xOf old <;> simp [withF], by rw [e, if_neg (fun h => h4 h.2)]; exact ld_with old hwo _, by rw [if_pos hf, if_neg h4], fun _ => by rw [e]; exact sv_over hf _ _⟩
  · rw [sv_no hf]
    have hfs : (aArm (k : Int) ⟨fsO (xOf old), false, false, -1⟩).fs = fsO (xOf old) := rfl
    have e : aRestart keep (aArm (k : Int) ⟨fsO (xOf old), false, false, -1⟩) = ⟨fsO (xOf old), false, false, -1⟩ := by unfold aRestart; rw [hfs, rs_fsO]
    exact ⟨by rw [hfs]; exact hl (xOf old), by rw [e, if_neg (fun h => hf h.1)]; exact ld_o old hwo, by rw [if_neg hf], fun h => absurd h hf⟩
end Go.Proofs.Ytmddgimadlmacaa
namespace Go.Proofs.Ytmddgimadlmacaa
open Go.RowKit Garner

abbrev mCells (m : Man) (A : Option Addr) (c : Nat) : List Value := [.int .i64 m.wal, .int .i64 m.next, .int .u64 m.seq, .int .i64 m.mark, .slice A m.segs.length c]
theorem mCells_far (m : Man) (A : Option Addr) (c : Nat) : ∀ (i : Nat) (b : UInt8), (mCells m A c)[i]? ≠ some (bv b) := by
  intro i b h
  rcases i with _ | _ | _ | _ | _ | i <;> simp [bv] at h
theorem o_wf {m : Man} (h : m.wf) : (oOf m).wf := by
  unfold oOf
  split
  · exact h
  · exact ⟨by simp [firstMan, in64], by simp [firstMan, in64], by simp [firstMan], by simp [firstMan, in64], fun s hs => by cases hs⟩
set_option maxRecDepth 100000 in
set_option maxHeartbeats 4000000 in
theorem vSwap (old fresh : Man) (Ao Af : Option Addr) (co cf B : Nat) (n : Int) (keep : List Int) (Ak : Option Addr) (ck : Nat) (w : World) (ho : Segs w B Ao old.segs.length old.segs) (hf : Segs w B Af fresh.segs.length fresh.segs) (hwo : old.wf) (hwf : fresh.wf)
    (hlo : old.segs.length ≤ 140737488355328) (hlf : fresh.segs.length ≤ 140737488355328) (hk : Row w B 1 Ak keep.length (keep.map (Value.int .i64))) (hkl : keep.length ≤ 140737488355328) (hkr : ∀ k ∈ keep, in64 k) (hB : B ≤ w.heap.size) :
    Calls Try.prog 35 #[manV old Ao co, manV fresh Af cf, .int .i64 n, .slice Ak keep.length ck] w fun e w' => e = .returned (.bool true) ∧ Below w.heap.size w w' := by
  obtain ⟨k, hk7, hkm⟩ := u64_mod n 7 (by omega) (by omega)
  have HS := sw_all old fresh hwo hwf k hk7 keep
  have Hwo := Lib.hid hwo; have Hwf := Lib.hid hwf
  clear hwo hwf
  go_enter Try.func35, Try.ntmps35
  go_wp2_with fail
  obtain ⟨X0, hX0⟩ : ∃ X, X = (w.alloc (manBox old Ao co)).alloc (manBox fresh Af cf) := ⟨_, rfl⟩
  change Calls _ _ _ ((w.alloc (manBox old Ao co)).alloc (manBox fresh Af cf)) _
  rw [← hX0]
  have hbX : Below w.heap.size w X0 := by rw [hX0]; exact ((Below.refl _ _).alloc (Nat.le_refl _) _).alloc (by simp) _
  have kf0 : Blk X0 (w.heap.size + 1) 25 (mCells fresh Af cf) := by
    rw [hX0]
    have := Blk.new (w.alloc (manBox old Ao co)) 25 (mCells fresh Af cf)
    rw [World.size_alloc] at this
    exact this
  have ko0 : Blk X0 w.heap.size 25 (mCells old Ao co) := by
    rw [hX0]
    exact (Blk.new w 25 (mCells old Ao co)).below ((Below.refl (w.alloc (manBox old Ao co)).heap.size _).alloc (Nat.le_refl _) _) (by simp)
  clear hX0
  refine (aNew_calls X0.heap.size X0 (Nat.le_refl _)).mono ?_
  rintro e w1 ⟨g, mp, rfl, hd1, hb1, hg1, hm1⟩
  have hb01 := hbX.trans (hb1.mono hbX.size)
  have kf1 := kf0.below hb1 kf0.lt
  have ko1 := ko0.below hb1 ko0.lt
  have l0 : w.heap.size + 1 < X0.heap.size := kf0.lt
  clear hbX kf0 ko0 hb1
  have hneo : w.heap.size ∉ [g, mp] := by simp only [List.mem_cons, List.not_mem_nil, or_false]; omega
  have hnef : w.heap.size + 1 ∉ [g, mp] := by simp only [List.mem_cons, List.not_mem_nil, or_false]; omega
  have hge : ∀ q ∈ [g, mp], w.heap.size ≤ q := fun q hq => by simp only [List.mem_cons, List.not_mem_nil, or_false] at hq; omega
  have p0 := ko1.cell 0; have p1 := ko1.cell 1; have p2 := ko1.cell 2; have p3 := ko1.cell 3; have p4 := ko1.cell 4
  simp only [mCells, List.getElem?_cons_zero, List.getElem?_cons_succ] at p0 p1 p2 p3 p4
  go_wp2_with fail
  refine (vSave old Ao co B X0.heap.size g mp AD.new w1 hd1 (ho.below (hb01.mono hB)) (Nat.le_trans hB hb01.size) Hwo.out hlo).mono ?_
  rintro e w2 ⟨rfl, hd2, hb2⟩
  rw [sw1] at hd2 ⊢
  have hb02 := hb01.trans (hb2.below hb01.size hge)
  have kf2 := kf1.but hb2 hnef
  have ko2 := ko1.but hb2 hneo
  clear kf1 ko1 hd1 p0 p1 p2 p3 p4 hb2
  go_upto_if 22 with fail
  go_cut [] (fun wx => ∃ A' c', Blk wx w.heap.size 25 (mCells (oOf old) A' c') ∧ Blk wx (w.heap.size + 1) 25 (mCells fresh Af cf) ∧ Segs wx w.heap.size A' (oOf old).segs.length (oOf old).segs ∧ (oOf old).segs.length ≤ 140737488355328 ∧
    DiskA X0.heap.size wx g mp ⟨fsO (xOf old), false, false, -1⟩ ∧ Below w.heap.size w wx)
  case first =>
    by_cases h0 : wrErr old = 0
    · have hz := nz_false h0
      have ho' : oOf old = old := if_pos h0
      have Ho := Lib.hid ho'
      clear ho' h0
      go_wp2
      go_meet
      rw [Ho.out]
      exact ⟨Ao, co, ko2, kf2, (ho.below (hb02.mono hB)).more hB, hlo, hd2, hb02⟩
    · have hz := nz_true h0
      have ho' : oOf old = firstMan := if_neg h0
      have Ho := Lib.hid ho'
      clear ho' h0
      go_wp2_with fail
      refine (vFirst w2).mono ?_
      rintro e w3 ⟨rfl, hb3⟩
      have kf3 := kf2.below hb3 kf2.lt
      have ko3 := ko2.below hb3 ko2.lt
      have hd3 := hd2.below hb3
      have hb03 := hb02.trans (hb3.mono hb02.size)
      have v0 := ko3.frozen 0; have v1 := ko3.frozen 1; have v2 := ko3.frozen 2; have v3 := ko3.frozen 3; have v4 := ko3.frozen 4
      have r0 := ko3.cell 0; have r1 := ko3.cell 1; have r2 := ko3.cell 2; have r3 := ko3.cell 3; have r4 := ko3.cell 4
      simp only [mCells, List.getElem?_cons_zero, List.getElem?_cons_succ] at r0 r1 r2 r3 r4
      simp only [firstMan]
      go_wp2
      go_meet
      rw [Ho.out]
      refine ⟨none, 0, ?_, ?_, Row.none_, by simp [firstMan], ?_, below_set5 hb03 (Nat.le_refl _) _ _ _ _ _⟩
      · exact ((((ko3.set_ 0 _).set_ 1 _).set_ 2 _).set_ 3 _).set_ 4 _
      · exact ((((kf3.far (by simp) _).far (by simp) _).far (by simp) _).far (by simp) _).far (by simp) _
      · exact hd3.but (((((But.refl [w.heap.size] w3).setCell (by simp) _).setCell (by simp) _).setCell (by simp) _).setCell (by simp) _ |>.setCell (by simp) _) (fun q hq => by simp only [List.mem_cons, List.not_mem_nil, or_false] at hq; omega)
  case rest =>
    clear ko2 kf2 hd2 hb02
    obtain ⟨A', c', ko3, kf3, hs3, hl3, hd3, hb03⟩ := hcut
    obtain ⟨o, hoe⟩ : ∃ o, o = oOf old := ⟨_, rfl⟩
    have howf := o_wf Hwo.out
    rw [show ((7 : Nat) : Int) = 7 from rfl] at hkm
    have hS1 := HS.len; have hS2 := HS.load; have hS3 := HS.err; have hS4 := HS.again
    rw [← hoe] at ko3 hs3 hl3 howf hS2
    obtain ⟨mm, hmm⟩ : ∃ mm, mm = (if wrErr fresh = 0 ∧ 4 ≤ k then fresh else o) := ⟨_, rfl⟩
    rw [← hmm] at hS2
    have Hmm := Lib.hid hmm; have HS3 := Lib.hid hS3; have HS4 := Lib.hid hS4
    clear HS hoe hmm hS3 hS4
    go_wp2_with fail
    rw [hkm]
    refine (aArm_calls X0.heap.size g mp _ _ (k : Int) (by omega) (by omega) hd3).mono ?_
    rintro e w4 ⟨rfl, hd4, hb4⟩
    have hb04 := hb03.trans (hb4.below hb03.size hge)
    have ko4 := ko3.but hb4 hneo
    have kf4 := kf3.but hb4 hnef
    generalize aArm (k : Int) ⟨fsO (xOf old), false, false, -1⟩ = d2 at *
    clear ko3 kf3 hd3 hkm
    have hs4 : Segs w4 w.heap.size A' o.segs.length o.segs := hs3.but hb03.size hb4 hge
    clear hs3 hb03 hb4
    have p0 := kf4.cell 0; have p1 := kf4.cell 1; have p2 := kf4.cell 2; have p3 := kf4.cell 3; have p4 := kf4.cell 4
    simp only [mCells, List.getElem?_cons_zero, List.getElem?_cons_succ] at p0 p1 p2 p3 p4
    go_wp2_with fail
    refine (vSave fresh Af cf B X0.heap.size g mp d2 w4 hd4 (hf.below (hb04.mono hB)) (Nat.le_trans hB hb04.size) Hwf.out hlf).mono ?_
    rintro e w5 ⟨rfl, hd5, hb5⟩
    have hb05 := hb04.trans (hb5.below hb04.size hge)
    have ko5 := ko4.but hb5 hneo
    have kf5 := kf4.but hb5 hnef
    have hs5 : Segs w5 w.heap.size A' o.segs.length o.segs := hs4.but hb04.size hb5 hge
    generalize (aSave fresh d2).2 = d3 at *
    generalize (aSave fresh d2).1 = e3 at *
    clear ko4 kf4 hd4 hb04 hb5 hs4 p0 p1 p2 p3 p4
    go_wp2_with fail
    refine (aRestart_calls Ak ck X0.heap.size g mp d3 w5 keep hd5 ((hk.below (hb05.mono hB)).more (Nat.le_trans hB hb05.size)) (fun h0 b off e => by
      obtain ⟨b', off', e', hb', _⟩ := hk.2 h0
      rw [e'] at e
      injection e with e
      injection e with e
      omega) hkl hkr (by omega)).mono ?_
    rintro e w6 ⟨rfl, hd6, hb6⟩
    have hb06 := hb05.trans (hb6.below hb05.size hge)
    have ko6 := ko5.but hb6 hneo
    have kf6 := kf5.but hb6 hnef
    have hs6 : Segs w6 w.heap.size A' o.segs.length o.segs := hs5.but hb05.size hb6 hge
    generalize aRestart keep d3 = d4 at *
    clear ko5 kf5 hd5 hb05 hb6 hs5
    go_wp2_with fail
    refine (vLoad X0.heap.size g mp d4 w6 hd6).mono ?_
    rintro e w7 ⟨A1, c1, rfl, hs7o, hl7, hb7⟩
    rw [hS2] at hs7o hl7 ⊢
    simp only at hs7o hl7 ⊢
    have hb07 := hb06.trans (hb7.mono hb06.size)
    have ko7 := ko6.below hb7 ko6.lt
    have kf7 := kf6.below hb7 kf6.lt
    have hs7 : Segs w7 w.heap.size A' o.segs.length o.segs := hs6.below (hb7.mono hb06.size)
    have hd7 := hd6.below hb7
    clear ko6 kf6 hd6 hb06 hb7 hs6 hS2
    go_upto_region 11 with fail
    obtain ⟨X7, hX7⟩ : ∃ X, X = w7.alloc (.cells #[.int .i64 mm.wal, .int .i64 mm.next, .int .u64 mm.seq, .int .i64 mm.mark, .slice A1 mm.segs.length c1] 25) := ⟨_, rfl⟩
    rw [← hX7]
    have hbX : Below w7.heap.size w7 X7 := by rw [hX7]; exact (Below.refl _ _).alloc (Nat.le_refl _) _
    have km8 : Blk X7 w7.heap.size 25 (mCells mm A1 c1) := by rw [hX7]; exact Blk.new _ _ _
    have ko8 := ko7.below hbX ko7.lt
    have kf8 := kf7.below hbX kf7.lt
    have hd8 := hd7.below hbX
    have hb08 := hb07.trans (hbX.mono hb07.size)
    have hs8 : Segs X7 w.heap.size A' o.segs.length o.segs := hs7.below (hbX.mono hb07.size)
    have hm8 : Segs X7 w7.heap.size A1 mm.segs.length mm.segs := (Row.of_own hs7o).below hbX
    have q0 := kf8.cell 0; have q1 := kf8.cell 1; have q2 := kf8.cell 2; have q3 := kf8.cell 3; have q4 := kf8.cell 4
    simp only [mCells, List.getElem?_cons_zero, List.getElem?_cons_succ] at q0 q1 q2 q3 q4
    have l8 := hb07.size
    have l9 : w.heap.size + 1 < w7.heap.size := kf7.lt
    have hnm : w7.heap.size ∉ [g, mp] := by
      have := hd7.lt
      simp only [List.mem_cons, List.not_mem_nil, or_false]; omega
    clear ko7 kf7 hd7 hb07 hs7 hX7 hbX hs7o
    go_wp2_with fail
    refine (vWrite fresh Af cf B X7 (hf.below (hb08.mono hB)) (Nat.le_trans hB hb08.size) Hwf.out hlf).mono ?_
    rintro e w8 hpost
    obtain ⟨A2, c2, rfl, _, _, hb9⟩ := WritePost.u hpost
    clear hpost
    have hb09 := hb08.trans (hb9.mono hb08.size)
    have km9 := km8.below hb9 km8.lt
    have ko9 := ko8.below hb9 ko8.lt
    have kf9 := kf8.below hb9 kf8.lt
    have hd9 := hd8.below hb9
    have hs9 : Segs w8 w.heap.size A' o.segs.length o.segs := hs8.below (hb9.mono hb08.size)
    have hm9 : Segs w8 w7.heap.size A1 mm.segs.length mm.segs := hm8.below (hb9.mono (Nat.le_of_lt km8.lt))
    have l7 : w7.heap.size < w8.heap.size := km9.lt
    clear km8 ko8 kf8 hd8 hs8 hm8 hb08 hb9 q0 q1 q2 q3 q4
    obtain ⟨we, hwe⟩ : ∃ we, we = wrErr fresh := ⟨_, rfl⟩
    have Hwe := Lib.hid hwe
    rw [← hwe]
    have hmm := Hmm.out; have h3 := HS3.out; have h4 := HS4.out
    rw [← hwe] at hmm h3 h4
    clear hwe Hmm HS3 HS4
    have p0 := km9.cell 0; have p1 := km9.cell 1; have p2 := km9.cell 2; have p3 := km9.cell 3; have p4 := km9.cell 4
    have q0 := kf9.cell 0; have q1 := kf9.cell 1; have q2 := kf9.cell 2; have q3 := kf9.cell 3; have q4 := kf9.cell 4
    have s0 := ko9.cell 0; have s1 := ko9.cell 1; have s2 := ko9.cell 2; have s3 := ko9.cell 3; have s4 := ko9.cell 4
    simp only [mCells, List.getElem?_cons_zero, List.getElem?_cons_succ] at p0 p1 p2 p3 p4 q0 q1 q2 q3 q4 s0 s1 s2 s3 s4
    have hBw := hb09.size
    have hf9 : Segs w8 w.heap.size Af fresh.segs.length fresh.segs := (hf.below (hb09.mono hB)).more hB
    by_cases h0 : we = 0
    · subst h0
      rw [if_pos rfl] at h3
      simp only [true_and] at hmm
      have H4 := Lib.hid (h4 rfl)
      have H3 := Lib.hid h3; have Hmm := Lib.hid hmm
      clear h4 h3 hmm
      go_upto_region 14 with fail
      go_cut [83] (fun s83 wx => s83 = .bool false ∧ Below w8.heap.size w8 wx)
      case first =>
        by_cases hk4 : 4 ≤ k
        · have h3 := H3.out; have hmm := Hmm.out
          clear H3 Hmm
          rw [if_pos hk4] at h3
          rw [if_pos hk4] at hmm
          subst h3 hmm
          have hge4 : decide ((k : Int) ≥ 4) = true := decide_eq_true (by omega)
          go_wp2_with fail
          refine (rSame mm A1 Af c1 cf w7.heap.size w8 hm9 (hf9.more l8) (Nat.le_of_lt l7) hl7).mono ?_
          rintro e w9 ⟨rfl, hb10⟩
          go_wp2
          go_meet
          exact ⟨rfl, hb10⟩
        · have h3 := H3.out; have hmm := Hmm.out
          clear H3 Hmm
          rw [if_neg hk4] at h3
          rw [if_neg hk4] at hmm
          subst h3 hmm
          have hge4 : decide ((k : Int) ≥ 4) = false := decide_eq_false (by omega)
          go_wp2_with fail
          refine (rSame mm A1 A' c1 c' w7.heap.size w8 hm9 (hs9.more l8) (Nat.le_of_lt l7) hl7).mono ?_
          rintro e w9 ⟨rfl, hb10⟩
          go_wp2
          go_meet
          exact ⟨rfl, hb10⟩
      case rest =>
        obtain ⟨rfl, hb10⟩ := hcut
        have hb010 := hb09.trans (hb10.mono hb09.size)
        have km10 := km9.below hb10 km9.lt
        have kf10 := kf9.below hb10 kf9.lt
        have hd10 := hd9.below hb10
        clear km9 ko9 kf9 hd9 hs9 hm9 hb09 hb10 p0 p1 p2 p3 p4 q0 q1 q2 q3 q4 s0 s1 s2 s3 s4 H3 Hmm
        have q0 := kf10.cell 0; have q1 := kf10.cell 1; have q2 := kf10.cell 2; have q3 := kf10.cell 3; have q4 := kf10.cell 4
        simp only [mCells, List.getElem?_cons_zero, List.getElem?_cons_succ] at q0 q1 q2 q3 q4
        have hnem : w7.heap.size ∉ [g, mp] := hnm
        go_wp2_with fail
        refine (vSave fresh Af cf B X0.heap.size g mp d4 wc hd10 (hf.below (hb010.mono hB)) (Nat.le_trans hB hb010.size) Hwf.out hlf).mono ?_
        rintro e w11 ⟨rfl, hd11, hb11⟩
        rw [H4.out] at hd11 ⊢
        have hb011 := hb010.trans (hb11.below hb010.size hge)
        have km11 := km10.but hb11 hnem
        have kf11 := kf10.but hb11 hnef
        clear km10 kf10 hd10 hb010 hb11 q0 q1 q2 q3 q4
        go_wp2_with fail
        refine (vLoad X0.heap.size g mp _ w11 hd11).mono ?_
        rintro e w12 ⟨A3, c3, rfl, hs12o, hl12, hb12⟩
        rw [ld_new Hwf.out Hwe.out.symm] at hs12o hl12 ⊢
        simp only at hs12o hl12 ⊢
        have hb012 := hb011.trans (hb12.mono hb011.size)
        have km12 := km11.below hb12 km11.lt
        have kf12 := kf11.below hb12 kf11.lt
        have hd12 := hd11.below hb12
        have l12 : w11.heap.size ≤ w12.heap.size := hb12.size
        have l11 : w7.heap.size < w11.heap.size := km11.lt
        clear km11 kf11 hd11 hb011 hb12
        have v0 := km12.frozen 0; have v1 := km12.frozen 1; have v2 := km12.frozen 2; have v3 := km12.frozen 3; have v4 := km12.frozen 4
        have r0 := km12.cell 0; have r1 := km12.cell 1; have r2 := km12.cell 2; have r3 := km12.cell 3; have r4 := km12.cell 4
        simp only [mCells, List.getElem?_cons_zero, List.getElem?_cons_succ] at r0 r1 r2 r3 r4
        go_upto_region 18 with fail
        obtain ⟨X12, hX12⟩ : ∃ X, X = ((((w12.setCell ⟨w7.heap.size, 0, none⟩ (.int .i64 fresh.wal)).setCell ⟨w7.heap.size, 1, none⟩ (.int .i64 fresh.next)).setCell ⟨w7.heap.size, 2, none⟩ (.int .u64 fresh.seq)).setCell ⟨w7.heap.size, 3, none⟩ (.int .i64 fresh.mark)).setCell ⟨w7.heap.size, 4, none⟩ (.slice A3 fresh.segs.length c3) := ⟨_, rfl⟩
        rw [← hX12]
        have hbut : But [w7.heap.size] w12 X12 := by rw [hX12]; exact ((((But.refl _ _).setCell (by simp) _).setCell (by simp) _).setCell (by simp) _).setCell (by simp) _ |>.setCell (by simp) _
        have km13 : Blk X12 w7.heap.size 25 (mCells fresh A3 c3) := by rw [hX12]; exact ((((km12.set_ 0 _).set_ 1 _).set_ 2 _).set_ 3 _).set_ 4 _
        have kf13 := kf12.but hbut (by simp only [List.mem_cons, List.not_mem_nil, or_false]; omega)
        have hb013 := hb012.trans (hbut.below hb012.size (fun q hq => by simp only [List.mem_cons, List.not_mem_nil, or_false] at hq; omega))
        have hs13 : Segs X12 X12.heap.size A3 fresh.segs.length fresh.segs := Row.of_own (own_but hs12o hbut (fun q hq hm => by
          have := (own_ge hs12o q (by simp [hq])).1
          simp only [List.mem_cons, List.not_mem_nil, or_false] at hm; omega))
        have hd13 : DiskA X0.heap.size X12 g mp ⟨fsO (some (wrBytes fresh)), false, false, -1⟩ := hd12.but_far hbut km12 (mCells_far _ _ _) hnem
        have l13 : w12.heap.size ≤ X12.heap.size := hbut.size
        clear hX12 km12 kf12 hd12 hb012 hs12o r0 r1 r2 r3 r4 v0 v1 v2 v3 v4 hbut
        go_wp2_with fail
        refine (aList_calls X0.heap.size g mp _ X12 hd13 (by simp [fsO])).mono ?_
        rintro e w14 ⟨A4, c4, rfl, _, hb14⟩
        rw [li_new]
        have hb014 := hb013.trans (hb14.mono hb013.size)
        have km14 := km13.below hb14 km13.lt
        have kf14 := kf13.below hb14 kf13.lt
        have hs14 : Segs w14 X12.heap.size A3 fresh.segs.length fresh.segs := hs13.below hb14
        have hf14 : Segs w14 w.heap.size Af fresh.segs.length fresh.segs := (hf.below (hb014.mono hB)).more hB
        have l14 : X12.heap.size ≤ w14.heap.size := hb14.size
        have l15 : w.heap.size ≤ X12.heap.size := hb013.size
        clear km13 kf13 hd13 hb013 hs13 hb14
        have p0 := km14.cell 0; have p1 := km14.cell 1; have p2 := km14.cell 2; have p3 := km14.cell 3; have p4 := km14.cell 4
        have q0 := kf14.cell 0; have q1 := kf14.cell 1; have q2 := kf14.cell 2; have q3 := kf14.cell 3; have q4 := kf14.cell 4
        simp only [mCells, List.getElem?_cons_zero, List.getElem?_cons_succ] at p0 p1 p2 p3 p4 q0 q1 q2 q3 q4
        go_wp2_with fail
        refine (rSame fresh A3 Af c3 cf X12.heap.size w14 hs14 (hf14.more l15) l14 hlf).mono ?_
        rintro e w15 ⟨rfl, hb15⟩
        have hb015 := hb014.trans (hb15.mono hb014.size)
        go_wp2
        go_ret
        exact ⟨rfl, hb015⟩
    · have hz := nz_true h0
      rw [if_neg h0] at h3
      rw [if_neg (fun h => h0 h.1)] at hmm
      subst h3 hmm
      clear h4 h0
      go_wp2_with fail
      refine (rSame mm A1 A' c1 c' w7.heap.size w8 hm9 (hs9.more l8) (Nat.le_of_lt l7) hl7).mono ?_
      rintro e w9 ⟨rfl, hb10⟩
      have hb010 := hb09.trans (hb10.mono hb09.size)
      go_wp2
      go_ret
      exact ⟨rfl, hb010⟩
end Go.Proofs.Ytmddgimadlmacaa
namespace Go.Proofs.Ytmddgimadlmacaa
open Go.ChangeShapes Go.WideShapes Go.RowKit Garner

set_option maxRecDepth 100000 in
set_option maxHeartbeats 4000000 in
theorem lawMS (old fresh : Man) (Ao Af : Option Addr) (co cf B : Nat) (n : Int) (keep : List Int) (Ak : Option Addr) (ck : Nat) (w : World) (ho : Segs w B Ao old.segs.length old.segs) (hf : Segs w B Af fresh.segs.length fresh.segs) (hwo : old.wf) (hwf : fresh.wf)
    (hlo : old.segs.length ≤ 140737488355328) (hlf : fresh.segs.length ≤ 140737488355328) (hk : Row w B 1 Ak keep.length (keep.map (Value.int .i64))) (hkl : keep.length ≤ 140737488355328) (hkr : ∀ k ∈ keep, in64 k) (hB : B ≤ w.heap.size) :
    Calls Try.prog 9 #[manV old Ao co, manV fresh Af cf, .agg #[.int .i64 n, .slice Ak keep.length ck]] w fun e w' => e = .returned (.bool true) ∧ Below w.heap.size w w' := by
  have Hwo := Lib.hid hwo; have Hwf := Lib.hid hwf
  clear hwo hwf
  go_enter Try.func9, Try.ntmps9
  go_wp2_with fail
  obtain ⟨X0, hX0⟩ : ∃ X, X = ((w.alloc (manBox old Ao co)).alloc (manBox fresh Af cf)).alloc (.cells #[.int .i64 n, .slice Ak keep.length ck] 69) := ⟨_, rfl⟩
  have hbX : Below w.heap.size w X0 := by rw [hX0]; exact (((Below.refl _ _).alloc (Nat.le_refl _) _).alloc (by simp) _).alloc (by simp; omega) _
  have ko0 : Blk X0 w.heap.size 25 (mCells old Ao co) := by
    rw [hX0]; exact ((Blk.new w 25 (mCells old Ao co)).alloc _).alloc _
  have kf0 : Blk X0 (w.heap.size + 1) 25 (mCells fresh Af cf) := by
    have := (Blk.new (w.alloc (manBox old Ao co)) 25 (mCells fresh Af cf)).alloc (.cells #[.int .i64 n, .slice Ak keep.length ck] 69)
    rw [World.size_alloc] at this
    rw [hX0]; exact this
  have kc0 : Blk X0 (w.heap.size + 2) 69 [.int .i64 n, .slice Ak keep.length ck] := by
    have := Blk.new ((w.alloc (manBox old Ao co)).alloc (manBox fresh Af cf)) 69 [.int .i64 n, .slice Ak keep.length ck]
    rw [World.size_alloc, World.size_alloc] at this
    rw [hX0]; exact this
  change Calls _ _ _ (((w.alloc (manBox old Ao co)).alloc (manBox fresh Af cf)).alloc (.cells #[.int .i64 n, .slice Ak keep.length ck] 69)) _
  rw [← hX0]
  clear hX0
  refine (vAwake X0).mono ?_
  rintro e w1 ⟨rfl, hb1⟩
  have hb01 := hbX.trans (hb1.mono hbX.size)
  have ko1 := ko0.below hb1 ko0.lt
  have kf1 := kf0.below hb1 kf0.lt
  have kc1 := kc0.below hb1 kc0.lt
  clear hbX ko0 kf0 kc0 hb1
  have p0 := ko1.cell 0; have p1 := ko1.cell 1; have p2 := ko1.cell 2; have p3 := ko1.cell 3; have p4 := ko1.cell 4
  have q0 := kf1.cell 0; have q1 := kf1.cell 1; have q2 := kf1.cell 2; have q3 := kf1.cell 3; have q4 := kf1.cell 4
  have r0 := kc1.cell 0; have r1 := kc1.cell 1
  simp only [mCells, List.getElem?_cons_zero, List.getElem?_cons_succ] at p0 p1 p2 p3 p4 q0 q1 q2 q3 q4 r0 r1
  go_wp2_with fail
  have s0 := hb01.size
  refine (vSwap old fresh Ao Af co cf B n keep Ak ck w1 (ho.below (hb01.mono hB)) (hf.below (hb01.mono hB)) Hwo.out Hwf.out hlo hlf (hk.below (hb01.mono hB)) hkl hkr (Nat.le_trans hB s0)).mono ?_
  rintro e w2 ⟨rfl, hb2⟩
  have hb02 := hb01.trans (hb2.mono s0)
  go_wp2
  go_ret
  exact ⟨rfl, hb02⟩
abbrev kCrash : Kind (Int × Sl Int × Unit) := kPair (kInt .i64) (kPair kInts kUnit)
theorem o_crash : Opens Try.prog 69 kCrash := opens_struct Try.underlying69 (by kernel_rfl) (fopens_cons o_int rfl (fopens_cons o_ints rfl (fopens_nil _)))
theorem crash_of {w : World} {B : Nat} {x : Int × Sl Int × Unit} (h : kCrash.mem w B x) : Value.agg (kCrash.cells x).toArray = .agg #[.int .i64 x.1, .slice x.2.1.A x.2.1.l.length x.2.1.c] ∧ Row w B 1 x.2.1.A x.2.1.l.length (x.2.1.l.map (Value.int .i64)) ∧ x.2.1.l.length ≤ 140737488355328 ∧ ∀ k ∈ x.2.1.l, in64 k := by
  obtain ⟨a, sl, u⟩ := x
  obtain ⟨h1, h2, _⟩ := h
  obtain ⟨g1, g2, g3, g4⟩ := ints_of h2
  exact ⟨by simp [kCrash, kPair, kInt, kSlice, kUnit], g1, by simp only at g2 g3 ⊢; omega, g4⟩
end Go.Proofs.Ytmddgimadlmacaa
