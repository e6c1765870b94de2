import Derived.Test.YtmddgimadlmacaaDoorWs41
namespace Go.Proofs.YtmddgimadlmacaaDoor
open Go.RowKit Garner

theorem nz_true' {k : Nat} (h : k ≠ 0) : ((k : Int) != 0) = true := by rw [bne_iff_ne]; omega
theorem nz_false' {k : Nat} (h : k = 0) : ((k : Int) != 0) = false := by subst h; rfl
/-- what Drop does, k numbers from the first on -/
def wDrop : Nat → WL → AD → Nat × WL × AD
  | 0, L, d => (0, L, d)
  | k + 1, L, d =>
    if (aDelete (walNm L.first) d).1 ≠ 0 ∧ (aDelete (walNm L.first) d).1 ≠ 21 then ((aDelete (walNm L.first) d).1, L, (aDelete (walNm L.first) d).2)
    else wDrop k ⟨L.first + 1, L.n, L.wr⟩ (aDelete (walNm L.first) d).2
theorem wDrop_bad {k : Nat} {L : WL} {d : AD} {r : Nat × AD} (h : r = aDelete (walNm L.first) d) (h1 : r.1 ≠ 0) (h2 : r.1 ≠ 21) : wDrop (k + 1) L d = (r.1, L, r.2) := by
  subst h; rw [wDrop, if_pos ⟨h1, h2⟩]
theorem wDrop_go {k : Nat} {L : WL} {d : AD} {r : Nat × AD} (h : r = aDelete (walNm L.first) d) (h1 : r.1 = 0 ∨ r.1 = 21) : wDrop (k + 1) L d = wDrop k ⟨L.first + 1, L.n, L.wr⟩ r.2 := by
  subst h; rw [wDrop, if_neg (by rintro ⟨h2, h3⟩; rcases h1 with h | h; exact h2 h; exact h3 h)]
set_option maxRecDepth 100000 in
set_option maxHeartbeats 4000000 in
theorem vLogDrop (base g mp gl : Nat) (d : AD) (L : WL) (w : World) (below : Int) (h : DiskA base w g mp d) (hk : LogAt w g gl L) (hgl : base ≤ gl) (hf : 1 ≤ L.first) (hn : L.n ≤ 1000000000) (hnm : Nms base w L.n) (r : Nat × WL × AD) (hr : r = wDrop (min below L.n - L.first).toNat L d) :
    Calls Tryd.prog 17 #[.pointer (some ⟨gl, 0, none⟩), .int .i64 below] w fun e w' => e = .returned (.int .i64 r.1) ∧ DiskA base w' g mp r.2.2 ∧ LogAt w' g gl r.2.1 ∧ But [g, mp, gl] w w' := by
  have Hr := Lib.hid hr
  clear hr
  have hbase := h.hb
  have hgw : base ≤ g ∧ base ≤ mp := ⟨h.hg, h.hm⟩
  go_enter Tryd.func17, Tryd.ntmps17
  go_wp2_with fail
  go_loopw [5] (fun _ wr => ∃ (k f : Nat) (d' : AD), 1 ≤ f ∧ Hid (k = (min below L.n - f).toNat) ∧ DiskA base wr g mp d' ∧ LogAt wr g gl ⟨f, L.n, L.wr⟩ ∧ Hid (r = wDrop k ⟨f, L.n, L.wr⟩ d') ∧ But [g, mp, gl] w wr) (fun _ wr => match wr.cell? ⟨gl, 1, none⟩ with
    | some (.int _ f) => (min below L.n - f).toNat
    | _ => 0)
  case atStart => exact ⟨_, L.first, d, hf, rfl, h, hk, Lib.hid Hr.out, But.refl _ _⟩
  case round =>
    clear Hr h hk
    obtain ⟨k, f, d', hf', Hk, hd, hk, H, hb⟩ := hrel
    obtain ⟨wo, rfl⟩ : ∃ wo : World, wo = wr := ⟨_, rfl⟩
    have hne := log_ne hd hk
    have y1 : ∀ w' : World, SL g gl ⟨f, L.n, L.wr⟩ w' → w'.cell? ⟨gl, 1, none⟩ = some (.int .i64 f) := fun w' h => h.cell 1
    have y2 : ∀ w' : World, SL g gl ⟨f, L.n, L.wr⟩ w' → w'.cell? ⟨gl, 2, none⟩ = some (.int .i64 L.n) := fun w' h => h.cell 2
    have y0 : ∀ w' : World, SL g gl ⟨f, L.n, L.wr⟩ w' → w'.cell? ⟨gl, 0, none⟩ = some (.pointer (some ⟨g, 0, none⟩)) := fun w' h => h.cell 0
    have hS0 : SL g gl ⟨f, L.n, L.wr⟩ wo.drew := hk
    have hmeas : (match wo.cell? ⟨gl, 1, none⟩ with
      | some (.int _ f) => (min below L.n - f).toNat
      | _ => 0) = (min below L.n - f).toNat := by rw [show wo.cell? ⟨gl, 1, none⟩ = some (.int .i64 f) from hk.cell 1]
    have Hmeas := Lib.hid hmeas
    clear hmeas
    go_upto_region 3 with fail
    refine wp_region_N (SL g gl ⟨f, L.n, L.wr⟩) 100 (by kernel_rfl) ?_
    apply wpAnyN_takeL 0 (by kernel_rfl) rfl (fun _ _ _ h => h) (by kernel_rfl) hS0
    · intro w' hS'
      go_simp; exact ⟨rfl, rfl⟩
    (try simp only [Act.put]); (try simp only [List.setIfInBounds_toArray]); (try simp only [List.set])
    apply wpAnyN_takeL 1 (by kernel_rfl) rfl (fun _ _ _ h => h) (by kernel_rfl) hS0
    · intro w' hS'
      go_simp; exact ⟨rfl, rfl⟩
    (try simp only [Act.put]); (try simp only [List.setIfInBounds_toArray]); (try simp only [List.set])
    apply wpAnyN_takeL 2 (by kernel_rfl) rfl (fun _ _ _ h => h) (by kernel_rfl) hS0
    · intro w' hS'
      go_simp; exact ⟨rfl, rfl⟩
    (try simp only [Act.put]); (try simp only [List.setIfInBounds_toArray]); (try simp only [List.set])
    apply wpAnyN_takeL 3 (by kernel_rfl) rfl (fun _ _ _ h => h) (by kernel_rfl) hS0
    · intro w' hS'
      go_simp; exact ⟨rfl, rfl⟩
    (try simp only [Act.put]); (try simp only [List.setIfInBounds_toArray]); (try simp only [List.set])
    apply wpAnyN_takeL 4 (by kernel_rfl) rfl (fun _ _ _ h => h) (by kernel_rfl) hS0
    · intro w' hS'
      go_simp; exact ⟨rfl, rfl⟩
    (try simp only [Act.put]); (try simp only [List.setIfInBounds_toArray]); (try simp only [List.set])
    apply wpAnyN_takeL 5 (by kernel_rfl) rfl (fun _ _ _ h => h) (by kernel_rfl) hS0
    · intro w' hS'
      go_simp; exact ⟨rfl, rfl⟩
    (try simp only [Act.put]); (try simp only [List.setIfInBounds_toArray]); (try simp only [List.set])
    apply wpAnyN_takeL 6 (by kernel_rfl) rfl (fun _ _ _ h => h) (by kernel_rfl) hS0
    · intro w' hS'
      go_simp; exact ⟨rfl, rfl⟩
    (try simp only [Act.put]); (try simp only [List.setIfInBounds_toArray]); (try simp only [List.set])
    apply wpAnyN_takeL 7 (by kernel_rfl) rfl (fun _ _ _ h => h) (by kernel_rfl) hS0
    · intro w' hS'
      go_simp; exact ⟨rfl, rfl⟩
    (try simp only [Act.put]); (try simp only [List.setIfInBounds_toArray]); (try simp only [List.set])
    apply wpAnyN_takeL 8 (by kernel_rfl) rfl (fun _ _ _ h => h) (by kernel_rfl) hS0
    · intro w' hS'
      go_simp; exact ⟨rfl, rfl⟩
    (try simp only [Act.put]); (try simp only [List.setIfInBounds_toArray]); (try simp only [List.set])
    apply wpAnyN_takeL 9 (by kernel_rfl) rfl (fun _ _ _ h => h) (by kernel_rfl) hS0
    · intro w' hS'
      go_simp; exact ⟨rfl, rfl⟩
    (try simp only [Act.put]); (try simp only [List.setIfInBounds_toArray]); (try simp only [List.set])
    apply wpAnyN_takeL 10 (by kernel_rfl) rfl (fun _ _ _ h => h) (by kernel_rfl) hS0
    · intro w' hS'
      go_simp; exact ⟨rfl, rfl⟩
    (try simp only [Act.put]); (try simp only [List.setIfInBounds_toArray]); (try simp only [List.set])
    refine wpAnyN_done (by kernel_rfl) ?_ _
    by_cases hlt : (f : Int) < min below L.n
    · rw [decide_eq_true hlt]
      have hfn : f ≤ L.n := by omega
      obtain ⟨k, rfl⟩ : ∃ k', k = k' + 1 := ⟨k - 1, by have := Hk.out; omega⟩
      obtain ⟨q, hq⟩ : ∃ q, q = aDelete (walNm f) d' := ⟨_, rfl⟩
      have Hq := Lib.hid hq
      clear hq hlt
      go_upto_region 4 with fail
      have hS00 : SL g gl ⟨f, L.n, L.wr⟩ wo.drew.drew := hk
      clear hS0
      refine wp_region_N (SL g gl ⟨f, L.n, L.wr⟩) 100 (by kernel_rfl) ?_
      apply wpAnyN_takeL 0 (by kernel_rfl) rfl (fun _ _ _ h => h) (by kernel_rfl) hS00
      · intro w' hS'
        go_simp; exact ⟨rfl, rfl⟩
      (try simp only [Act.put]); (try simp only [List.setIfInBounds_toArray]); (try simp only [List.set])
      apply wpAnyN_takeL 1 (by kernel_rfl) rfl (fun _ _ _ h => h) (by kernel_rfl) hS00
      · intro w' hS'
        go_simp; exact ⟨rfl, rfl⟩
      (try simp only [Act.put]); (try simp only [List.setIfInBounds_toArray]); (try simp only [List.set])
      apply wpAnyN_takeL 2 (by kernel_rfl) rfl (fun _ _ _ h => h) (by kernel_rfl) hS00
      · intro w' hS'
        go_simp; exact ⟨rfl, rfl⟩
      (try simp only [Act.put]); (try simp only [List.setIfInBounds_toArray]); (try simp only [List.set])
      apply wpAnyN_takeL 3 (by kernel_rfl) rfl (fun _ _ _ h => h) (by kernel_rfl) hS00
      · intro w' hS'
        go_simp; exact ⟨rfl, rfl⟩
      (try simp only [Act.put]); (try simp only [List.setIfInBounds_toArray]); (try simp only [List.set])
      apply wpAnyN_takeL 4 (by kernel_rfl) rfl (fun _ _ _ h => h) (by kernel_rfl) hS00
      · intro w' hS'
        go_simp; exact ⟨rfl, rfl⟩
      (try simp only [Act.put]); (try simp only [List.setIfInBounds_toArray]); (try simp only [List.set])
      apply wpAnyN_takeL 5 (by kernel_rfl) rfl (fun _ _ _ h => h) (by kernel_rfl) hS00
      · intro w' hS'
        go_simp; exact ⟨rfl, rfl⟩
      (try simp only [Act.put]); (try simp only [List.setIfInBounds_toArray]); (try simp only [List.set])
      apply wpAnyN_takeL 6 (by kernel_rfl) rfl (fun _ _ _ h => h) (by kernel_rfl) hS00
      · intro w' hS'
        go_simp; exact ⟨rfl, rfl⟩
      (try simp only [Act.put]); (try simp only [List.setIfInBounds_toArray]); (try simp only [List.set])
      apply wpAnyN_takeL 7 (by kernel_rfl) rfl (fun _ _ _ h => h) (by kernel_rfl) hS00
      · intro w' hS'
        go_simp; exact ⟨rfl, rfl⟩
      (try simp only [Act.put]); (try simp only [List.setIfInBounds_toArray]); (try simp only [List.set])
      refine wpAnyN_runL 8 (by kernel_rfl) rfl (by kernel_rfl) (fun K hK => ?_)
      go_simp
      have hbw : Below base w wo := hb.below hbase (fun q hq => by simp only [List.mem_cons, List.not_mem_nil, or_false] at hq; omega)
      refine (hnm f wo.drew.drew hf' hfn (hbw.drew.drew)).mono ?_
      rintro e w2 ⟨rfl, hb2⟩
      simp only [World.size_drew] at hb2
      have hb2' : Below wo.heap.size wo w2 := (Below.refl _ _).drew.drew.trans hb2
      have hS2 : SL g gl ⟨f, L.n, L.wr⟩ w2 := hk.below hb2' hk.lt
      have hd2 := hd.below hb2'
      refine hK _ _ (fun _ => hS2) ?_
      clear hK K
      (try simp only [Act.put]); (try simp only [List.setIfInBounds_toArray]); (try simp only [List.set])
      refine wpAnyN_runL 9 (by kernel_rfl) rfl (by kernel_rfl) (fun K hK => ?_)
      go_simp
      refine (aDelete_calls (walNm f) base g mp d' w2 hd2).mono ?_
      rintro e w3 ⟨rfl, hd3, hb3⟩
      rw [← Hq.out] at hd3 ⊢
      have hS3 : SL g gl ⟨f, L.n, L.wr⟩ w3 := log_but hS2 hb3 (by simp only [List.mem_cons, List.not_mem_nil, or_false]; omega)
      refine hK _ _ (fun _ => hS3) ?_
      clear hK K
      (try simp only [Act.put]); (try simp only [List.setIfInBounds_toArray]); (try simp only [List.set])
      apply wpAnyN_takeL 10 (by kernel_rfl) rfl (fun _ _ _ h => h) (by kernel_rfl) hS3
      · intro w' hS'
        go_simp; exact ⟨rfl, rfl⟩
      (try simp only [Act.put]); (try simp only [List.setIfInBounds_toArray]); (try simp only [List.set])
      refine wpAnyN_done (by kernel_rfl) ?_ _
      have hb03 : But [g, mp, gl] w w3 := (hb.trans (But.of_below hb2')).trans (But.three hb3)
      clear hS00 hS2 hd2 y0 y1 y2 hb3 hb2 hb2' hk hd hb hbw
      have f1 := hS3.frozen 1
      have q1 : w3.cell? ⟨gl, 1, none⟩ = some (.int .i64 f) := hS3.cell 1
      have hset : But [gl] w3 (w3.setCell ⟨gl, 1, none⟩ (.int .i64 ((f : Int) + 1))) := (But.refl _ _).setCell (by simp) _
      have hk4 : LogAt (w3.setCell ⟨gl, 1, none⟩ (.int .i64 ((f : Int) + 1))) g gl ⟨f + 1, L.n, L.wr⟩ := hS3.set_ 1 (.int .i64 ((f : Int) + 1))
      have hd4 := hd3.but_far hset hS3 (logV_far _ _ _ _) (by simp only [List.mem_cons, List.not_mem_nil, or_false]; omega)
      have hb04 := hb03.trans (But.thr3 hset)
      have hstop : Hid (q.1 ≠ 0 → q.1 ≠ 21 → r = (q.1, ⟨f, L.n, L.wr⟩, q.2)) := Lib.hid fun h1 h2 => by rw [H.out]; exact wDrop_bad Hq.out h1 h2
      have hgo : Hid (q.1 = 0 ∨ q.1 = 21 → r = wDrop k ⟨f + 1, L.n, L.wr⟩ q.2) := Lib.hid fun h1 => by rw [H.out]; exact wDrop_go Hq.out h1
      have Hk' : Hid (k = (min below L.n - ((f + 1 : Nat) : Int)).toNat) := Lib.hid (by have := Hk.out; omega)
      have hdec : (min below L.n - ((f + 1 : Nat) : Int)).toNat < (min below L.n - f).toNat := by have := Hk.out; omega
      have Hdec := Lib.hid hdec
      have hwrap : (f : Int) + 1 ≤ 1000000001 := by omega
      clear H Hq Hk hset hdec
      by_cases h0 : q.1 = 0
      · have hz : ((q.1 : Int) != 0) = false := nz_false' h0
        have hg := Lib.hid (hgo.out (Or.inl h0))
        clear hgo hstop h0
        go_wp2
        go_roundw
        case rel => exact ⟨k, f + 1, _, by omega, Hk', hd4, hk4, hg, hb04⟩
        case measure => rw [Hmeas.out]; rw [show (w3.setCell ⟨gl, 1, none⟩ (.int .i64 ((f : Int) + 1))).cell? ⟨gl, 1, none⟩ = some (.int .i64 ((f : Int) + 1)) from hk4.cell 1]; exact Hdec.out
      · have hz : ((q.1 : Int) != 0) = true := nz_true' h0
        by_cases h21 : q.1 = 21
        · have hz2 : ((q.1 : Int) != 21) = false := by rw [h21]; rfl
          have hg := Lib.hid (hgo.out (Or.inr h21))
          clear hgo hstop h0 h21
          go_wp2
          go_roundw
          case rel => exact ⟨k, f + 1, _, by omega, Hk', hd4, hk4, hg, hb04⟩
          case measure => rw [Hmeas.out]; rw [show (w3.setCell ⟨gl, 1, none⟩ (.int .i64 ((f : Int) + 1))).cell? ⟨gl, 1, none⟩ = some (.int .i64 ((f : Int) + 1)) from hk4.cell 1]; exact Hdec.out
        · have hz2 : ((q.1 : Int) != 21) = true := by rw [bne_iff_ne]; omega
          have hs := Lib.hid (hstop.out h0 h21)
          clear hgo hstop h0 h21 hd4 hk4 hb04
          go_wp2
          go_ret
          rw [hs.out]
          exact ⟨rfl, hd3, hS3, hb03⟩
    · rw [decide_eq_false hlt]
      have hk0 : k = 0 := by have := Hk.out; omega
      subst hk0
      have hs : Hid (r = (0, ⟨f, L.n, L.wr⟩, d')) := Lib.hid (by rw [H.out]; rfl)
      have hdD : DiskA base wo.drew g mp d' := hd.below (Below.refl _ _).drew
      clear H Hk hlt y0 y1 y2
      go_wp2
      go_ret
      rw [hs.out]
      exact ⟨rfl, hdD, hS0, hb.drew⟩
end Go.Proofs.YtmddgimadlmacaaDoor
