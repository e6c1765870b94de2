import Derived.Test.YtmddgimadlmacaaDoorWs40
import Derived.Test.YtmddgimadlmacaaDoorWs41
import Derived.Test.YtmddgimadlmacaaDoorWs42
/-! the document's log: Append, Sync, Rotate, Drop -/
namespace Go.Proofs.YtmddgimadlmacaaDoor
open Go.RowKit Garner

def rApp (p : Bs) (L : WL) (d : AD) : Nat × WL × AD :=
  if 65536 < p.length then (4, L, d)
  else ((bAppend (walNm L.n) (frB p) d).1, ⟨L.first, L.n, L.wr || decide ((bAppend (walNm L.n) (frB p) d).1 = 0)⟩, (bAppend (walNm L.n) (frB p) d).2)
def rSyn (L : WL) (d : AD) : Nat × AD := if L.wr then bSync (walNm L.n) d else (0, d)
abbrev RLog (w : World) (g rl : Nat) (L : WL) : Prop := Blk w rl 65 (logV g L.first L.n L.wr)
def RSL (g rl : Nat) (L : WL) (w' : World) : Prop := RLog w' g rl L
theorem RefD.pick {w : World} {g fb rl : Nat} {d : AD} {t : TypeId} {cs : List Value} (h : RefD w g fb d) (hk : Blk w rl t cs) (h1 : t ≠ 68) (h2 : t ≠ 88) : ∃ fb1, RefD w g fb1 d ∧ (fb1 = fb ∨ fb1 = g) ∧ fb1 ≠ rl ∧ g ≠ rl := by
  obtain ⟨rs, hr, hab⟩ := h.ex
  obtain ⟨A, c, k1, k2, k3⟩ := hr.own
  have hg : g ≠ rl := k1.ne_ hk (Ne.symm h1)
  by_cases e : fb = rl
  · refine ⟨g, ⟨rs, ⟨⟨A, c, k1, k2, fun q hq => ?_⟩, hr.files, hr.asc, hr.lo, hr.hi, NB.blk k1 (by decide), k1.lt⟩, hab⟩, Or.inr rfl, hg, hg⟩
    have hq2 := k3 q hq
    have := own_blk k2 hk (Ne.symm h2)
    exact absurd (by rw [hq]; simp [hq2, e]) this
  · exact ⟨fb, h, Or.inl rfl, e, hg⟩
theorem del_len_le (nm : Bs) (b : AD) : (aDelete nm b).2.fs.length ≤ b.fs.length := by
  unfold aDelete
  split
  · exact Nat.le_refl _
  · cases aget nm b.fs with
    | none => exact Nat.le_refl _
    | some f =>
      show (adel nm b.fs).length ≤ _
      generalize b.fs = l
      induction l with
      | nil => exact Nat.le_refl _
      | cons p r ih =>
        obtain ⟨a, u⟩ := p
        simp only [adel]
        split
        · simp
        · simp only [List.length_cons]; omega
section
variable (g fb rl : Nat) (d : AD) (L : WL) (w : World)
set_option maxRecDepth 100000 in
set_option maxHeartbeats 4000000 in
theorem rLogApp (p : Bs) (A : Option Addr) (c B : Nat) (h : RefD w g fb d) (hk : RLog w g rl L) (hn : 1 ≤ L.n) (hn2 : L.n ≤ 1000000000) (hr : Bytes w B A p.length p) (hB : B ≤ w.heap.size) (hl : p.length ≤ 140737488355328) (hrl : (d.fs.length + 1) * 48 ≤ 140737488355328)
    (hfl : (fget (walNm L.n) d.fs).1.length + 65550 ≤ 140737488355328) :
    Calls Tryd.prog 23 #[.pointer (some ⟨rl, 0, none⟩), .slice A p.length c] w fun e w' => e = .returned (.int .i64 (rApp p L d).1) ∧ (∃ fb', RefD w' g fb' (rApp p L d).2.2 ∧ (fb' = fb ∨ fb' = g ∨ w.heap.size ≤ fb')) ∧ RLog w' g rl (rApp p L d).2.1 ∧ But [g, fb, rl] w w' := by
  by_cases hlong : 65536 < (p.length : Int)
  · have hres : rApp p L d = (4, L, d) := by unfold rApp; rw [if_pos (by omega)]
    have Hres := Lib.hid hres; clear hres
    go_enter Tryd.func23, Tryd.ntmps23
    go_wp2_with fail
    refine (rFrame_long p A c w hlong hl).mono ?_
    rintro e w1 ⟨rfl, hw1⟩
    have hb1 : Below w.heap.size w w1 := by first | exact hw1 | (subst hw1; exact Below.refl _ _)
    have h1 := h.below hb1
    have hk1 : RLog w1 g rl L := hk.below hb1 hk.lt
    clear hw1
    go_wp2
    go_ret
    rw [Hres.out]
    exact ⟨rfl, ⟨fb, h1, Or.inl rfl⟩, hk1, But.of_below hb1⟩
  · obtain ⟨r, hr0⟩ : ∃ r, r = bAppend (walNm L.n) (frB p) d := ⟨_, rfl⟩
    have hres : rApp p L d = (r.1, ⟨L.first, L.n, L.wr || decide (r.1 = 0)⟩, r.2) := by unfold rApp; rw [if_neg (by omega), hr0]
    have Hres := Lib.hid hres; have Hr0 := Lib.hid hr0
    clear hres hr0
    obtain ⟨fb1, hd0, hfb1, hne, hgne⟩ := h.pick hk (by decide) (by decide)
    have hfle : (frB p).length ≤ 65550 := frB_le (by omega)
    have hsz := Lib.hid (nm_size hn2)
    go_enter Tryd.func23, Tryd.ntmps23
    go_wp2_with fail
    refine (rFrame_ok p A c B w hr hB (by omega)).mono ?_
    rintro e w1 ⟨v1, rfl, hown1, hb1⟩
    have hown1' : OwnB w1 w.heap.size v1 (frB p) := hown1
    obtain ⟨A1, c1, rfl, _⟩ := own_form hown1'
    have hd1 := hd0.below hb1
    have hk1 : RLog w1 g rl L := hk.below hb1 hk.lt
    have hrow1 : Bytes w1 w1.heap.size A1 (frB p).length (frB p) := Row.of_own hown1'
    obtain ⟨fr, hfr⟩ : ∃ f, f = frB p := ⟨_, rfl⟩
    rw [← hfr] at hrow1 hfle Hr0 hown1' ⊢
    clear hown1 hown1' hfr hr h hd0
    go_upto_region 6 with fail
    have y0 : ∀ w' : World, RSL g rl L w' → w'.cell? ⟨rl, 0, none⟩ = some (.pointer (some ⟨g, 0, none⟩)) := fun w' h => h.cell 0
    have y2 : ∀ w' : World, RSL g rl L w' → w'.cell? ⟨rl, 2, none⟩ = some (.int .i64 L.n) := fun w' h => h.cell 2
    have hS0 : RSL g rl L w1.drew := hk1
    refine wp_region_N (RSL g rl L) 100 (by kernel_rfl) ?_
    apply wpAnyN_takeL 0 (by kernel_rfl) rfl (fun _ _ _ h => h) (by kernel_rfl) hS0
    · intro w' hS'
      go_simp; exact ⟨rfl, rfl⟩
    (try simp only [Act.put]); (try simp only [List.setIfInBounds_toArray]); (try simp only [List.set])
    apply wpAnyN_takeL 1 (by kernel_rfl) rfl (fun _ _ _ h => h) (by kernel_rfl) hS0
    · intro w' hS'
      go_simp; exact ⟨rfl, rfl⟩
    (try simp only [Act.put]); (try simp only [List.setIfInBounds_toArray]); (try simp only [List.set])
    apply wpAnyN_takeL 2 (by kernel_rfl) rfl (fun _ _ _ h => h) (by kernel_rfl) hS0
    · intro w' hS'
      go_simp; exact ⟨rfl, rfl⟩
    (try simp only [Act.put]); (try simp only [List.setIfInBounds_toArray]); (try simp only [List.set])
    apply wpAnyN_takeL 3 (by kernel_rfl) rfl (fun _ _ _ h => h) (by kernel_rfl) hS0
    · intro w' hS'
      go_simp; exact ⟨rfl, rfl⟩
    (try simp only [Act.put]); (try simp only [List.setIfInBounds_toArray]); (try simp only [List.set])
    apply wpAnyN_takeL 4 (by kernel_rfl) rfl (fun _ _ _ h => h) (by kernel_rfl) hS0
    · intro w' hS'
      go_simp; exact ⟨rfl, rfl⟩
    (try simp only [Act.put]); (try simp only [List.setIfInBounds_toArray]); (try simp only [List.set])
    apply wpAnyN_takeL 5 (by kernel_rfl) rfl (fun _ _ _ h => h) (by kernel_rfl) hS0
    · intro w' hS'
      go_simp; exact ⟨rfl, rfl⟩
    (try simp only [Act.put]); (try simp only [List.setIfInBounds_toArray]); (try simp only [List.set])
    apply wpAnyN_takeL 6 (by kernel_rfl) rfl (fun _ _ _ h => h) (by kernel_rfl) hS0
    · intro w' hS'
      go_simp; exact ⟨rfl, rfl⟩
    (try simp only [Act.put]); (try simp only [List.setIfInBounds_toArray]); (try simp only [List.set])
    apply wpAnyN_takeL 7 (by kernel_rfl) rfl (fun _ _ _ h => h) (by kernel_rfl) hS0
    · intro w' hS'
      go_simp; exact ⟨rfl, rfl⟩
    (try simp only [Act.put]); (try simp only [List.setIfInBounds_toArray]); (try simp only [List.set])
    apply wpAnyN_takeL 9 (by kernel_rfl) rfl (fun _ _ _ h => h) (by kernel_rfl) hS0
    · intro w' hS'
      go_simp; exact ⟨rfl, rfl⟩
    (try simp only [Act.put]); (try simp only [List.setIfInBounds_toArray]); (try simp only [List.set])
    refine wpAnyN_runL 8 (by kernel_rfl) rfl (by kernel_rfl) (fun K hK => ?_)
    go_simp
    refine (rNm L.n w1.drew (by omega) (by omega)).mono ?_
    rintro e w2 ⟨rfl, hb2⟩
    simp only [World.size_drew] at hb2
    have hb2' : Below w1.heap.size w1 w2 := (Below.refl _ _).drew.trans hb2
    have hS2 : RSL g rl L w2 := hk1.below hb2' hk1.lt
    have hd2 := hd1.below hb2'
    have hrow2 := (hrow1.below hb2').more hb2'.size
    refine hK _ _ (fun _ => hS2) ?_
    clear hK K
    (try simp only [Act.put]); (try simp only [List.setIfInBounds_toArray]); (try simp only [List.set])
    refine wpAnyN_runL 10 (by kernel_rfl) rfl (by kernel_rfl) (fun K hK => ?_)
    go_simp
    refine (bAppend_calls (walNm L.n) fr A1 c1 w2.heap.size g fb1 d w2 _ hd2.o hsz.out hrl hrow2 (Nat.le_refl _) (by omega)).mono ?_
    rintro e w3 ⟨rfl, fb3, hd3', hfb3, hb3⟩
    have hd3 := hd3'.toD
    rw [← Hr0.out] at hd3 ⊢
    have hS3 : RSL g rl L w3 := Blk.but hS2 hb3 (by simp only [List.mem_cons, List.not_mem_nil, or_false]; omega)
    refine hK _ _ (fun _ => hS3) ?_
    clear hK K
    (try simp only [Act.put]); (try simp only [List.setIfInBounds_toArray]); (try simp only [List.set])
    apply wpAnyN_takeL 11 (by kernel_rfl) rfl (fun _ _ _ h => h) (by kernel_rfl) hS3
    · intro w' hS'
      go_simp; exact ⟨rfl, rfl⟩
    (try simp only [Act.put]); (try simp only [List.setIfInBounds_toArray]); (try simp only [List.set])
    refine wpAnyN_done (by kernel_rfl) ?_ _
    have hs12 := hb1.size; have hs23 := hb2'.size
    have hb03 : But [g, fb, rl] w w3 := ((But.of_below hb1).trans (But.of_below hb2')).trans (hb3.mono (fun k hk => by simp only [List.mem_cons, List.not_mem_nil, or_false] at hk ⊢; omega))
    clear hS0 hS2 hd1 hd2 hrow1 hrow2 y0 y2 hb3 hb2 hb2' hk1 hb1 hd3'
    obtain ⟨fb4, hd4, hfb4, hne4, hg4⟩ := hd3.pick hS3 (by decide) (by decide)
    have hnb : NB w3 rl := NB.blk hS3 (by decide)
    have f3 := hS3.frozen 3
    have q3 : w3.cell? ⟨rl, 3, none⟩ = some (.bool L.wr) := hS3.cell 3
    have hfin : ∀ x : Bool, RefD (w3.setCell ⟨rl, 3, none⟩ (.bool x)) g fb4 r.2 ∧ RLog (w3.setCell ⟨rl, 3, none⟩ (.bool x)) g rl ⟨L.first, L.n, x⟩ ∧ But [g, fb, rl] w (w3.setCell ⟨rl, 3, none⟩ (.bool x)) := fun x => by
      have hset : But [rl] w3 (w3.setCell ⟨rl, 3, none⟩ (.bool x)) := (But.refl _ _).setCell (by simp) _
      refine ⟨hd4.butT hset (by simp only [List.mem_cons, List.not_mem_nil, or_false]; exact hg4) (by simp only [List.mem_cons, List.not_mem_nil, or_false]; exact hne4) (fun k hk => ?_), Blk.set_ hS3 3 (.bool x), hb03.trans (hset.mono (by simp +contextual))⟩
      simp only [List.mem_cons, List.not_mem_nil, or_false] at hk
      subst hk; exact Or.inl hnb
    have Hfin := Lib.hid hfin
    have hfb : fb4 = fb ∨ fb4 = g ∨ w.heap.size ≤ fb4 := by omega
    clear hfin
    cases hw : L.wr with
    | true =>
      rw [hw] at q3
      have HW := Lib.hid hw
      clear hw
      go_wp2
      go_ret
      rw [Hres.out]
      obtain ⟨a1, a2, a3⟩ := Hfin.out true
      refine ⟨rfl, ⟨fb4, a1, hfb⟩, ?_, a3⟩
      show RLog _ g rl ⟨L.first, L.n, L.wr || decide (r.1 = 0)⟩
      rw [HW.out, Bool.true_or]
      exact a2
    | false =>
      rw [hw] at q3
      by_cases h0 : r.1 = 0
      · have hz : ((r.1 : Int) == 0) = true := by rw [h0]; rfl
        go_wp2
        go_ret
        rw [Hres.out]
        obtain ⟨a1, a2, a3⟩ := Hfin.out true
        refine ⟨rfl, ⟨fb4, a1, hfb⟩, ?_, a3⟩
        simp only [h0, decide_true, Bool.or_true]
        exact a2
      · have hz : ((r.1 : Int) == 0) = false := by rw [beq_eq_false_iff_ne]; omega
        go_wp2
        go_ret
        rw [Hres.out]
        obtain ⟨a1, a2, a3⟩ := Hfin.out false
        refine ⟨rfl, ⟨fb4, a1, hfb⟩, ?_, a3⟩
        simp only [h0, hw, decide_false, Bool.or_false]
        exact a2
set_option maxRecDepth 100000 in
set_option maxHeartbeats 4000000 in
theorem rLogSync (h : RefD w g fb d) (hk : RLog w g rl L) (hn : 1 ≤ L.n) (hn2 : L.n ≤ 1000000000) (hrl : d.fs.length ≤ 140737488355328) :
    Calls Tryd.prog 25 #[.pointer (some ⟨rl, 0, none⟩)] w fun e w' => e = .returned (.int .i64 (rSyn L d).1) ∧ (∃ fb', RefD w' g fb' (rSyn L d).2 ∧ (fb' = fb ∨ fb' = g ∨ w.heap.size ≤ fb')) ∧ RLog w' g rl L ∧ But [g, fb] w w' := by
  have c3 : w.cell? ⟨rl, 3, none⟩ = some (.bool L.wr) := hk.cell 3
  cases hw : L.wr with
  | false =>
    rw [hw] at c3
    have hres : rSyn L d = (0, d) := by unfold rSyn; rw [hw]; rfl
    have Hres := Lib.hid hres
    clear hres hw
    go_enter Tryd.func25, Tryd.ntmps25
    go_wp2
    go_ret
    rw [Hres.out]
    exact ⟨rfl, ⟨fb, h, Or.inl rfl⟩, hk, But.refl _ _⟩
  | true =>
    rw [hw] at c3
    have hres : rSyn L d = bSync (walNm L.n) d := by unfold rSyn; rw [hw]; rfl
    have Hres := Lib.hid hres
    clear hres hw
    obtain ⟨fb1, hd0, hfb1, hne, hgne⟩ := h.pick hk (by decide) (by decide)
    have hsz := Lib.hid (nm_size hn2)
    go_enter Tryd.func25, Tryd.ntmps25
    go_upto_region 5 with fail
    have y0 : ∀ w' : World, RSL g rl L w' → w'.cell? ⟨rl, 0, none⟩ = some (.pointer (some ⟨g, 0, none⟩)) := fun w' h => h.cell 0
    have y2 : ∀ w' : World, RSL g rl L w' → w'.cell? ⟨rl, 2, none⟩ = some (.int .i64 L.n) := fun w' h => h.cell 2
    have hS0 : RSL g rl L w.drew := hk
    refine wp_region_N (RSL g rl L) 100 (by kernel_rfl) ?_
    apply wpAnyN_takeL 0 (by kernel_rfl) rfl (fun _ _ _ h => h) (by kernel_rfl) hS0
    · intro w' hS'
      go_simp; exact ⟨rfl, rfl⟩
    (try simp only [Act.put]); (try simp only [List.setIfInBounds_toArray]); (try simp only [List.set])
    apply wpAnyN_takeL 1 (by kernel_rfl) rfl (fun _ _ _ h => h) (by kernel_rfl) hS0
    · intro w' hS'
      go_simp; exact ⟨rfl, rfl⟩
    (try simp only [Act.put]); (try simp only [List.setIfInBounds_toArray]); (try simp only [List.set])
    apply wpAnyN_takeL 2 (by kernel_rfl) rfl (fun _ _ _ h => h) (by kernel_rfl) hS0
    · intro w' hS'
      go_simp; exact ⟨rfl, rfl⟩
    (try simp only [Act.put]); (try simp only [List.setIfInBounds_toArray]); (try simp only [List.set])
    apply wpAnyN_takeL 3 (by kernel_rfl) rfl (fun _ _ _ h => h) (by kernel_rfl) hS0
    · intro w' hS'
      go_simp; exact ⟨rfl, rfl⟩
    (try simp only [Act.put]); (try simp only [List.setIfInBounds_toArray]); (try simp only [List.set])
    apply wpAnyN_takeL 4 (by kernel_rfl) rfl (fun _ _ _ h => h) (by kernel_rfl) hS0
    · intro w' hS'
      go_simp; exact ⟨rfl, rfl⟩
    (try simp only [Act.put]); (try simp only [List.setIfInBounds_toArray]); (try simp only [List.set])
    apply wpAnyN_takeL 5 (by kernel_rfl) rfl (fun _ _ _ h => h) (by kernel_rfl) hS0
    · intro w' hS'
      go_simp; exact ⟨rfl, rfl⟩
    (try simp only [Act.put]); (try simp only [List.setIfInBounds_toArray]); (try simp only [List.set])
    apply wpAnyN_takeL 6 (by kernel_rfl) rfl (fun _ _ _ h => h) (by kernel_rfl) hS0
    · intro w' hS'
      go_simp; exact ⟨rfl, rfl⟩
    (try simp only [Act.put]); (try simp only [List.setIfInBounds_toArray]); (try simp only [List.set])
    apply wpAnyN_takeL 7 (by kernel_rfl) rfl (fun _ _ _ h => h) (by kernel_rfl) hS0
    · intro w' hS'
      go_simp; exact ⟨rfl, rfl⟩
    (try simp only [Act.put]); (try simp only [List.setIfInBounds_toArray]); (try simp only [List.set])
    refine wpAnyN_runL 8 (by kernel_rfl) rfl (by kernel_rfl) (fun K hK => ?_)
    go_simp
    refine (rNm L.n w.drew (by omega) (by omega)).mono ?_
    rintro e w2 ⟨rfl, hb2⟩
    simp only [World.size_drew] at hb2
    have hb2' : Below w.heap.size w w2 := (Below.refl _ _).drew.trans hb2
    have hS2 : RSL g rl L w2 := Blk.below hk hb2' hk.lt
    have hd2 := hd0.below hb2'
    refine hK _ _ (fun _ => hS2) ?_
    clear hK K
    (try simp only [Act.put]); (try simp only [List.setIfInBounds_toArray]); (try simp only [List.set])
    refine wpAnyN_runL 9 (by kernel_rfl) rfl (by kernel_rfl) (fun K hK => ?_)
    go_simp
    refine (bSync_calls (walNm L.n) g fb1 d w2 hd2 hsz.out hrl).mono ?_
    rintro e w3 ⟨rfl, fb3, hd3, hfb3, hb3⟩
    have hS3 : RSL g rl L w3 := Blk.but hS2 hb3 (by simp only [List.mem_cons, List.not_mem_nil, or_false]; omega)
    refine hK _ _ (fun _ => hS3) ?_
    clear hK K
    (try simp only [Act.put]); (try simp only [List.setIfInBounds_toArray]); (try simp only [List.set])
    apply wpAnyN_takeL 10 (by kernel_rfl) rfl (fun _ _ _ h => h) (by kernel_rfl) hS3
    · intro w' hS'
      go_simp; exact ⟨rfl, rfl⟩
    (try simp only [Act.put]); (try simp only [List.setIfInBounds_toArray]); (try simp only [List.set])
    refine wpAnyN_done (by kernel_rfl) ?_ _
    have hs := hb2'.size
    have hb03 : But [g, fb] w w3 := (But.of_below hb2').trans (hb3.mono (fun k hk => by simp only [List.mem_cons, List.not_mem_nil, or_false] at hk ⊢; omega))
    clear y0 y2
    go_wp2
    go_ret
    rw [Hres.out]
    exact ⟨rfl, ⟨fb3, hd3, by omega⟩, hS3, hb03⟩
end
end Go.Proofs.YtmddgimadlmacaaDoor
