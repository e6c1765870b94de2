import Derived.Test.YtmddgimadlmacaaDoorWs29
import Derived.Test.YtmddgimadlmacaaDoorWs31
namespace Go.Proofs.YtmddgimadlmacaaDoor
open Go.RowKit Garner

/-- a log as plain data -/
structure WL where
  first : Nat
  n : Nat
  wr : Bool
def wApp (p : Bs) (L : WL) (d : AD) : Nat × WL × AD :=
  if 65536 < p.length then (4, L, d)
  else ((aAppend (walNm L.n) (frB p) d).1, ⟨L.first, L.n, L.wr || decide ((aAppend (walNm L.n) (frB p) d).1 = 0)⟩, (aAppend (walNm L.n) (frB p) d).2)
def wSync (L : WL) (d : AD) : Nat × AD := if L.wr then aSync (walNm L.n) d else (0, d)
def wRot (L : WL) : Nat × WL := if L.n = 1000000000 then (3, L) else if L.wr then (0, ⟨L.first, L.n + 1, false⟩) else (0, L)
/-- what is dropped, f numbers from first on -/
def wDropF (d : AD) (L : WL) : Nat → Nat × WL × AD
  | 0 => (0, L, d)
  | _ => (0, L, d)
section
variable {base g mp gl : Nat} {d : AD} {w w' : World}
/-- the log lies at gl, over the disk at g, mp -/
abbrev LogAt (w : World) (g gl : Nat) (L : WL) : Prop := Blk w gl 83 (logV g L.first L.n L.wr)
theorem log_ne (h : DiskA base w g mp d) {L : WL} (hk : LogAt w g gl L) : gl ≠ g ∧ gl ≠ mp := by
  obtain ⟨es, h1, _⟩ := h.ex
  refine ⟨fun e => (hk.ne_ h1.blk (by decide)) e, fun e => ?_⟩
  subst e
  obtain ⟨_, _, hm1, _⟩ := h1.map
  unfold LogAt Blk at hk
  rw [hm1] at hk; cases hk
theorem log_but {S : List Nat} {L : WL} (hk : LogAt w g gl L) (hb : But S w w') (hg : gl ∉ S) : LogAt w' g gl L := hk.but hb hg
end
theorem But.three {g mp gl : Nat} {w w' : World} (h : But [g, mp] w w') : But [g, mp, gl] w w' := h.mono fun k hk => by simp only [List.mem_cons, List.not_mem_nil, or_false] at hk ⊢; omega
theorem But.thr3 {g mp gl : Nat} {w w' : World} (h : But [gl] w w') : But [g, mp, gl] w w' := h.mono fun k hk => by simp only [List.mem_cons, List.not_mem_nil, or_false] at hk ⊢; omega
theorem logV_far (g first n : Nat) (wr : Bool) : ∀ (i : Nat) (b : UInt8), (logV g first n wr)[i]? ≠ some (bv b) := by
  intro i b h
  rcases i with _ | _ | _ | _ | i <;> simp [bv] at h
def SL (g gl : Nat) (L : WL) (w' : World) : Prop := LogAt w' g gl L
section
variable (base g mp gl : Nat) (d : AD) (L : WL) (w : World)
set_option maxRecDepth 100000 in
set_option maxHeartbeats 4000000 in
theorem vLogApp (p : Bs) (A : Option Addr) (c B : Nat) (h : DiskA base w g mp d) (hk : LogAt w g gl L) (hn : 1 ≤ L.n) (hnm : Nms base w L.n) (hr : Bytes w B A p.length p) (hB : B ≤ w.heap.size) (hl : p.length ≤ 140737488355328)
    (hfl : (fget (walNm L.n) d.fs).1.length + 65550 ≤ 140737488355328) :
    Calls Tryd.prog 14 #[.pointer (some ⟨gl, 0, none⟩), .slice A p.length c] w fun e w' => e = .returned (.int .i64 (wApp p L d).1) ∧ DiskA base w' g mp (wApp p L d).2.2 ∧ LogAt w' g gl (wApp p L d).2.1 ∧ But [g, mp, gl] w w' := by
  by_cases hlong : 65536 < (p.length : Int)
  · have hres : wApp p L d = (4, L, d) := by unfold wApp; rw [if_pos (by omega)]
    have Hres := Lib.hid hres; clear hres
    go_enter Tryd.func14, Tryd.ntmps14
    go_wp2_with fail
    refine (vFrame_long p A c w hlong hl).mono ?_
    rintro e w1 ⟨rfl, rfl⟩
    go_wp2
    go_ret
    rw [Hres.out]
    exact ⟨rfl, h, hk, But.refl _ _⟩
  · obtain ⟨r, hr0⟩ : ∃ r, r = aAppend (walNm L.n) (frB p) d := ⟨_, rfl⟩
    have hres : wApp p L d = (r.1, ⟨L.first, L.n, L.wr || decide (r.1 = 0)⟩, r.2) := by unfold wApp; rw [if_neg (by omega), hr0]
    have Hres := Lib.hid hres; have Hr0 := Lib.hid hr0
    clear hres hr0
    have hne := log_ne h hk
    have hfle : (frB p).length ≤ 65550 := frB_le (by omega)
    go_enter Tryd.func14, Tryd.ntmps14
    go_wp2_with fail
    refine (vFrame_ok p A c B w hr hB (by omega)).mono ?_
    rintro e w1 ⟨v1, rfl, hown1, hb1⟩
    have hown1' : OwnB w1 w.heap.size v1 (frB p) := hown1
    obtain ⟨A1, c1, rfl, _⟩ := own_form hown1'
    have hd1 := h.below hb1
    have hk1 := hk.below hb1 hk.lt
    have hnm1 := hnm.below (hb1.mono h.hb)
    have hrow1 : Bytes w1 w1.heap.size A1 (frB p).length (frB p) := Row.of_own hown1'
    have hgw : g < w.heap.size ∧ mp < w.heap.size := h.lt
    have hglw := hk.lt
    obtain ⟨fb, hfb⟩ : ∃ f, f = frB p := ⟨_, rfl⟩
    rw [← hfb] at hrow1 hfle Hr0 hown1' ⊢
    have hA1 : 0 < fb.length → ∀ b off, A1 = some ⟨b, off, none⟩ → w.heap.size ≤ b := fun h0 b off e => by
      have := own_ge hown1' b (by rw [e]; simp [Value.ownBlock])
      exact this.1
    clear hown1 hown1' hfb hr
    go_upto_region 6 with fail
    have y0 : ∀ w' : World, SL g gl L w' → w'.cell? ⟨gl, 0, none⟩ = some (.pointer (some ⟨g, 0, none⟩)) := fun w' h => h.cell 0
    have y2 : ∀ w' : World, SL g gl L w' → w'.cell? ⟨gl, 2, none⟩ = some (.int .i64 L.n) := fun w' h => h.cell 2
    have hS0 : SL g gl L w1.drew := hk1
    refine wp_region_N (SL g gl L) 100 (by kernel_rfl) ?_
    apply wpAnyN_takeL 0 (by kernel_rfl) rfl (fun _ _ _ h => h) (by kernel_rfl) hS0
    · intro w' hS'
      go_simp; exact ⟨rfl, rfl⟩
    (try simp only [Act.put]); (try simp only [List.setIfInBounds_toArray]); (try simp only [List.set])
    apply wpAnyN_takeL 1 (by kernel_rfl) rfl (fun _ _ _ h => h) (by kernel_rfl) hS0
    · intro w' hS'
      go_simp; exact ⟨rfl, rfl⟩
    (try simp only [Act.put]); (try simp only [List.setIfInBounds_toArray]); (try simp only [List.set])
    apply wpAnyN_takeL 2 (by kernel_rfl) rfl (fun _ _ _ h => h) (by kernel_rfl) hS0
    · intro w' hS'
      go_simp; exact ⟨rfl, rfl⟩
    (try simp only [Act.put]); (try simp only [List.setIfInBounds_toArray]); (try simp only [List.set])
    apply wpAnyN_takeL 3 (by kernel_rfl) rfl (fun _ _ _ h => h) (by kernel_rfl) hS0
    · intro w' hS'
      go_simp; exact ⟨rfl, rfl⟩
    (try simp only [Act.put]); (try simp only [List.setIfInBounds_toArray]); (try simp only [List.set])
    apply wpAnyN_takeL 4 (by kernel_rfl) rfl (fun _ _ _ h => h) (by kernel_rfl) hS0
    · intro w' hS'
      go_simp; exact ⟨rfl, rfl⟩
    (try simp only [Act.put]); (try simp only [List.setIfInBounds_toArray]); (try simp only [List.set])
    apply wpAnyN_takeL 5 (by kernel_rfl) rfl (fun _ _ _ h => h) (by kernel_rfl) hS0
    · intro w' hS'
      go_simp; exact ⟨rfl, rfl⟩
    (try simp only [Act.put]); (try simp only [List.setIfInBounds_toArray]); (try simp only [List.set])
    apply wpAnyN_takeL 6 (by kernel_rfl) rfl (fun _ _ _ h => h) (by kernel_rfl) hS0
    · intro w' hS'
      go_simp; exact ⟨rfl, rfl⟩
    (try simp only [Act.put]); (try simp only [List.setIfInBounds_toArray]); (try simp only [List.set])
    apply wpAnyN_takeL 7 (by kernel_rfl) rfl (fun _ _ _ h => h) (by kernel_rfl) hS0
    · intro w' hS'
      go_simp; exact ⟨rfl, rfl⟩
    (try simp only [Act.put]); (try simp only [List.setIfInBounds_toArray]); (try simp only [List.set])
    apply wpAnyN_takeL 9 (by kernel_rfl) rfl (fun _ _ _ h => h) (by kernel_rfl) hS0
    · intro w' hS'
      go_simp; exact ⟨rfl, rfl⟩
    (try simp only [Act.put]); (try simp only [List.setIfInBounds_toArray]); (try simp only [List.set])
    refine wpAnyN_runL 8 (by kernel_rfl) rfl (by kernel_rfl) (fun K hK => ?_)
    go_simp
    refine (hnm1 L.n w1.drew hn (Nat.le_refl _) (Below.refl _ _).drew).mono ?_
    rintro e w2 ⟨rfl, hb2⟩
    simp only [World.size_drew] at hb2
    have hb2' : Below w1.heap.size w1 w2 := (Below.refl _ _).drew.trans hb2
    have hS2 : SL g gl L w2 := hk1.below hb2' hk1.lt
    have hd2 := hd1.below hb2'
    have hrow2 := (hrow1.below hb2').more hb2'.size
    refine hK _ _ (fun _ => hS2) ?_
    clear hK K
    (try simp only [Act.put]); (try simp only [List.setIfInBounds_toArray]); (try simp only [List.set])
    refine wpAnyN_runL 10 (by kernel_rfl) rfl (by kernel_rfl) (fun K hK => ?_)
    go_simp
    refine (aAppend_calls (walNm L.n) fb A1 c1 w2.heap.size base g mp d w2 hd2 hrow2 (Nat.le_refl _) (by omega)).mono ?_
    rintro e w3 ⟨rfl, hd3, hb3⟩
    rw [← Hr0.out] at hd3 ⊢
    have hS3 : SL g gl L w3 := log_but hS2 hb3 (by simp only [List.mem_cons, List.not_mem_nil, or_false]; omega)
    refine hK _ _ (fun _ => hS3) ?_
    clear hK K
    (try simp only [Act.put]); (try simp only [List.setIfInBounds_toArray]); (try simp only [List.set])
    apply wpAnyN_takeL 11 (by kernel_rfl) rfl (fun _ _ _ h => h) (by kernel_rfl) hS3
    · intro w' hS'
      go_simp; exact ⟨rfl, rfl⟩
    (try simp only [Act.put]); (try simp only [List.setIfInBounds_toArray]); (try simp only [List.set])
    refine wpAnyN_done (by kernel_rfl) ?_ _
    have hb03 : But [g, mp, gl] w w3 := ((But.of_below hb1).trans (But.of_below hb2')).trans (But.three hb3)
    clear hS0 hS2 hd1 hd2 hrow1 hrow2 y0 y2 hb3 hb2 hb2' hk1
    have f3 := hS3.frozen 3
    have q3 : w3.cell? ⟨gl, 3, none⟩ = some (.bool L.wr) := hS3.cell 3
    by_cases h0 : r.1 = 0
    · have hz : ((r.1 : Int) == 0) = true := by rw [h0]; rfl
      go_wp2
      go_ret
      rw [Hres.out]
      have hset : But [gl] w3 (w3.setCell ⟨gl, 3, none⟩ (.bool true)) := (But.refl _ _).setCell (by simp) _
      have hd4 := hd3.but_far hset hS3 (logV_far _ _ _ _) (by simp only [List.mem_cons, List.not_mem_nil, or_false]; omega)
      have hk4 : LogAt (w3.setCell ⟨gl, 3, none⟩ (.bool true)) g gl ⟨L.first, L.n, L.wr || decide (r.1 = 0)⟩ := by
        simp only [h0, decide_true, Bool.or_true]
        exact hS3.set_ 3 (.bool true)
      exact ⟨rfl, hd4, hk4, hb03.trans (But.thr3 hset)⟩
    · have hz : ((r.1 : Int) == 0) = false := by rw [beq_eq_false_iff_ne]; omega
      go_wp2
      go_ret
      rw [Hres.out]
      simp only [h0, decide_false, Bool.or_false]
      exact ⟨rfl, hd3, hS3, hb03⟩
set_option maxRecDepth 100000 in
set_option maxHeartbeats 4000000 in
theorem vLogSync (h : DiskA base w g mp d) (hk : LogAt w g gl L) (hn : 1 ≤ L.n) (hnm : Nms base w L.n) :
    Calls Tryd.prog 24 #[.pointer (some ⟨gl, 0, none⟩)] w fun e w' => e = .returned (.int .i64 (wSync L d).1) ∧ DiskA base w' g mp (wSync L d).2 ∧ LogAt w' g gl L ∧ But [g, mp, gl] w w' := by
  have c3 : w.cell? ⟨gl, 3, none⟩ = some (.bool L.wr) := hk.cell 3
  cases hw : L.wr with
  | false =>
    rw [hw] at c3
    have hres : wSync L d = (0, d) := by unfold wSync; rw [hw]; rfl
    have Hres := Lib.hid hres
    clear hres hw
    go_enter Tryd.func24, Tryd.ntmps24
    go_wp2
    go_ret
    rw [Hres.out]
    exact ⟨rfl, h, hk, But.refl _ _⟩
  | true =>
    rw [hw] at c3
    obtain ⟨r, hr0⟩ : ∃ r, r = aSync (walNm L.n) d := ⟨_, rfl⟩
    have hres : wSync L d = r := by unfold wSync; rw [hw, hr0]; rfl
    have Hres := Lib.hid hres; have Hr0 := Lib.hid hr0
    clear hres hr0 hw
    have hne := log_ne h hk
    go_enter Tryd.func24, Tryd.ntmps24
    go_upto_region 5 with fail
    have y0 : ∀ w' : World, SL g gl L w' → w'.cell? ⟨gl, 0, none⟩ = some (.pointer (some ⟨g, 0, none⟩)) := fun w' h => h.cell 0
    have y2 : ∀ w' : World, SL g gl L w' → w'.cell? ⟨gl, 2, none⟩ = some (.int .i64 L.n) := fun w' h => h.cell 2
    have hS0 : SL g gl L w.drew := hk
    clear c3
    refine wp_region_N (SL g gl L) 100 (by kernel_rfl) ?_
    apply wpAnyN_takeL 0 (by kernel_rfl) rfl (fun _ _ _ h => h) (by kernel_rfl) hS0
    · intro w' hS'
      go_simp; exact ⟨rfl, rfl⟩
    (try simp only [Act.put]); (try simp only [List.setIfInBounds_toArray]); (try simp only [List.set])
    apply wpAnyN_takeL 1 (by kernel_rfl) rfl (fun _ _ _ h => h) (by kernel_rfl) hS0
    · intro w' hS'
      go_simp; exact ⟨rfl, rfl⟩
    (try simp only [Act.put]); (try simp only [List.setIfInBounds_toArray]); (try simp only [List.set])
    apply wpAnyN_takeL 2 (by kernel_rfl) rfl (fun _ _ _ h => h) (by kernel_rfl) hS0
    · intro w' hS'
      go_simp; exact ⟨rfl, rfl⟩
    (try simp only [Act.put]); (try simp only [List.setIfInBounds_toArray]); (try simp only [List.set])
    apply wpAnyN_takeL 3 (by kernel_rfl) rfl (fun _ _ _ h => h) (by kernel_rfl) hS0
    · intro w' hS'
      go_simp; exact ⟨rfl, rfl⟩
    (try simp only [Act.put]); (try simp only [List.setIfInBounds_toArray]); (try simp only [List.set])
    apply wpAnyN_takeL 4 (by kernel_rfl) rfl (fun _ _ _ h => h) (by kernel_rfl) hS0
    · intro w' hS'
      go_simp; exact ⟨rfl, rfl⟩
    (try simp only [Act.put]); (try simp only [List.setIfInBounds_toArray]); (try simp only [List.set])
    apply wpAnyN_takeL 5 (by kernel_rfl) rfl (fun _ _ _ h => h) (by kernel_rfl) hS0
    · intro w' hS'
      go_simp; exact ⟨rfl, rfl⟩
    (try simp only [Act.put]); (try simp only [List.setIfInBounds_toArray]); (try simp only [List.set])
    apply wpAnyN_takeL 6 (by kernel_rfl) rfl (fun _ _ _ h => h) (by kernel_rfl) hS0
    · intro w' hS'
      go_simp; exact ⟨rfl, rfl⟩
    (try simp only [Act.put]); (try simp only [List.setIfInBounds_toArray]); (try simp only [List.set])
    apply wpAnyN_takeL 7 (by kernel_rfl) rfl (fun _ _ _ h => h) (by kernel_rfl) hS0
    · intro w' hS'
      go_simp; exact ⟨rfl, rfl⟩
    (try simp only [Act.put]); (try simp only [List.setIfInBounds_toArray]); (try simp only [List.set])
    refine wpAnyN_runL 8 (by kernel_rfl) rfl (by kernel_rfl) (fun K hK => ?_)
    go_simp
    refine (hnm L.n w.drew hn (Nat.le_refl _) (Below.refl _ _).drew).mono ?_
    rintro e w2 ⟨rfl, hb2⟩
    simp only [World.size_drew] at hb2
    have hb2' : Below w.heap.size w w2 := (Below.refl _ _).drew.trans hb2
    have hS2 : SL g gl L w2 := hk.below hb2' hk.lt
    have hd2 := h.below hb2'
    refine hK _ _ (fun _ => hS2) ?_
    clear hK K
    (try simp only [Act.put]); (try simp only [List.setIfInBounds_toArray]); (try simp only [List.set])
    refine wpAnyN_runL 9 (by kernel_rfl) rfl (by kernel_rfl) (fun K hK => ?_)
    go_simp
    refine (aSync_calls (walNm L.n) base g mp d w2 hd2).mono ?_
    rintro e w3 ⟨rfl, hd3, hb3⟩
    rw [← Hr0.out] at hd3 ⊢
    have hS3 : SL g gl L w3 := log_but hS2 hb3 (by simp only [List.mem_cons, List.not_mem_nil, or_false]; omega)
    refine hK _ _ (fun _ => hS3) ?_
    clear hK K
    (try simp only [Act.put]); (try simp only [List.setIfInBounds_toArray]); (try simp only [List.set])
    apply wpAnyN_takeL 10 (by kernel_rfl) rfl (fun _ _ _ h => h) (by kernel_rfl) hS3
    · intro w' hS'
      go_simp; exact ⟨rfl, rfl⟩
    (try simp only [Act.put]); (try simp only [List.setIfInBounds_toArray]); (try simp only [List.set])
    refine wpAnyN_done (by kernel_rfl) ?_ _
    have hb03 : But [g, mp, gl] w w3 := (But.of_below hb2').trans (But.three hb3)
    clear hS0 hS2 hd2 y0 y2 hb3 hb2 hb2'
    go_wp2
    go_ret
    rw [Hres.out]
    exact ⟨rfl, hd3, hS3, hb03⟩
set_option maxRecDepth 100000 in
set_option maxHeartbeats 4000000 in
theorem vLogRot (h : DiskA base w g mp d) (hk : LogAt w g gl L) (hn2 : L.n ≤ 1000000000) :
    Calls Tryd.prog 16 #[.pointer (some ⟨gl, 0, none⟩)] w fun e w' => e = .returned (.int .i64 (wRot L).1) ∧ DiskA base w' g mp d ∧ LogAt w' g gl (wRot L).2 ∧ But [gl] w w' := by
  have c2 : w.cell? ⟨gl, 2, none⟩ = some (.int .i64 L.n) := hk.cell 2
  have c3 : w.cell? ⟨gl, 3, none⟩ = some (.bool L.wr) := hk.cell 3
  have f2 := hk.frozen 2; have f3 := hk.frozen 3
  have hne := log_ne h hk
  by_cases hl : L.n = 1000000000
  · have hz : ((L.n : Int) == 1000000000) = true := by rw [hl]; rfl
    have hres : wRot L = (3, L) := by unfold wRot; rw [if_pos hl]
    have Hres := Lib.hid hres
    clear hres hl
    go_enter Tryd.func16, Tryd.ntmps16
    go_wp2
    go_ret
    rw [Hres.out]
    exact ⟨rfl, h, hk, But.refl _ _⟩
  · have hz : ((L.n : Int) == 1000000000) = false := by rw [beq_eq_false_iff_ne]; omega
    cases hw : L.wr with
    | false =>
      rw [hw] at c3
      have hres : wRot L = (0, L) := by unfold wRot; rw [if_neg hl, hw]; rfl
      have Hres := Lib.hid hres
      clear hres hl hw
      go_enter Tryd.func16, Tryd.ntmps16
      go_wp2
      go_ret
      rw [Hres.out]
      exact ⟨rfl, h, hk, But.refl _ _⟩
    | true =>
      rw [hw] at c3
      have hres : wRot L = (0, ⟨L.first, L.n + 1, false⟩) := by unfold wRot; rw [if_neg hl, hw]; rfl
      have Hres := Lib.hid hres
      clear hres hl hw
      go_enter Tryd.func16, Tryd.ntmps16
      go_wp2
      go_ret
      rw [Hres.out]
      have hset : But [gl] w ((w.setCell ⟨gl, 2, none⟩ (.int .i64 (L.n + 1))).setCell ⟨gl, 3, none⟩ (.bool false)) := ((But.refl _ _).setCell (by simp) _).setCell (by simp) _
      have hk2 := (hk.set_ 2 (.int .i64 (L.n + 1))).set_ 3 (.bool false)
      refine ⟨rfl, h.but_far hset hk (logV_far _ _ _ _) (by simp only [List.mem_cons, List.not_mem_nil, or_false]; omega), ?_, hset⟩
      exact hk2
set_option maxRecDepth 100000 in
theorem vLogNum (hk : LogAt w g gl L) : Calls Tryd.prog 13 #[.pointer (some ⟨gl, 0, none⟩)] w fun e w' => e = .returned (.int .i64 L.n) ∧ w' = w := by
  have c2 : w.cell? ⟨gl, 2, none⟩ = some (.int .i64 L.n) := hk.cell 2
  go_enter Tryd.func13, Tryd.ntmps13
  go_wp2
  go_ret
  exact ⟨rfl, rfl⟩
end
end Go.Proofs.YtmddgimadlmacaaDoor
