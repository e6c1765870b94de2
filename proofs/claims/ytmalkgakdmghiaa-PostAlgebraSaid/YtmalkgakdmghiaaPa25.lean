import Derived.Test.YtmalkgakdmghiaaPa22
/-! slices.Sort at []uint64, 4: order2, median, medianAdjacent, choosePivot -/
namespace Go.Proofs.Ytmalkgakdmghiaa
open Go.RowKit Go.Sort Garner

/-- the row, and the count of swaps in its box -/
structure SrtC (w : World) (B g n c : Nat) (d : Array Nat) (q s : Nat) : Prop where
  row : Srt w B g n c d
  box : Blk w q 3 [.int .i64 s]
theorem SrtC.set {w : World} {B g n c q s : Nat} {d : Array Nat} (h : SrtC w B g n c d q s) (s' : Nat) : SrtC (w.setCell ⟨q, 0, none⟩ (.int .i64 s')) B g n c d q s' := by
  have hq : (Value.slice (some ⟨g, 0, none⟩) n c).ownBlock ≠ some q := fun e => own_blk h.row.own h.box (by decide) (by rw [e]; simp)
  exact ⟨⟨h.row.sz, ownsRow_setCell_other h.row.own (a := ⟨q, 0, none⟩) hq _⟩, h.box.set_ 0 _⟩

set_option maxRecDepth 100000 in
set_option maxHeartbeats 4000000 in
theorem vOrder2 (d : Array Nat) (B g n c a b q s : Nat) (w : World) (h : SrtC w B g n c d q s) (ha : a < n) (hb : b < n) (hs : s ≤ 1000) :
    Calls Try.prog 58 #[.slice (some ⟨g, 0, none⟩) n c, .int .i64 a, .int .i64 b, .pointer (some ⟨q, 0, none⟩)] w fun e w' => e = .returned (.tuple #[.int .i64 (order2 ltN d a b s).1, .int .i64 (order2 ltN d a b s).2.1]) ∧ SrtC w' B g n c d q (order2 ltN d a b s).2.2 ∧ But [q] w w' := by
  obtain ⟨x, hx⟩ : ∃ x, x = d[a]! := ⟨_, rfl⟩
  obtain ⟨y, hy⟩ : ∃ y, y = d[b]! := ⟨_, rfl⟩
  have z0 : ∀ w' : World, SrtC w' B g n c d q s → w'.cell? ⟨g, a, none⟩ = some (.int .u64 (x : Int)) := fun w' h => by rw [hx]; exact h.row.cell ha
  have z1 : ∀ w' : World, SrtC w' B g n c d q s → w'.cell? ⟨g, b, none⟩ = some (.int .u64 (y : Int)) := fun w' h => by rw [hy]; exact h.row.cell hb
  have la : (a : Int) < (n : Int) := by omega
  have lb : (b : Int) < (n : Int) := by omega
  have w1 : IntKind.i64.wrap ((s : Int) + 1) = ((s + 1 : Nat) : Int) := by rw [IntKind.wrap_i64]; omega
  have hS0 : SrtC w.drew B g n c d q s := ⟨h.row.drew, h.box⟩
  by_cases hab : a = b
  · subst hab
    have hl : ltN d[a]! d[a]! = false := by simp [ltN]
    have hyx : y = x := by rw [hy, hx]
    subst hyx
    have Hl := Lib.hid hl; clear hl
    have Hx := Lib.hid hx; clear hx hy z1 lb
    go_enter Try.func58, Try.ntmps58
    go_upto_region 1 with fail
    refine wp_region_N (fun w' => SrtC w' B g n c d q s) 100 (by kernel_rfl) ?_
    apply wpAnyN_takeL 0 (by kernel_rfl) rfl (fun _ _ _ h => h) (by kernel_rfl) hS0
    · intro w' hS'
      go_simp; exact ⟨rfl, rfl⟩
    (try simp only [Act.put]); (try simp only [List.setIfInBounds_toArray]); (try simp only [List.set])
    apply wpAnyN_takeL 1 (by kernel_rfl) rfl (fun _ _ _ h => h) (by kernel_rfl) hS0
    · intro w' hS'
      go_simp; exact ⟨rfl, rfl⟩
    (try simp only [Act.put]); (try simp only [List.setIfInBounds_toArray]); (try simp only [List.set])
    apply wpAnyN_takeL 2 (by kernel_rfl) rfl (fun _ _ _ h => h) (by kernel_rfl) hS0
    · intro w' hS'
      go_simp; exact ⟨rfl, rfl⟩
    (try simp only [Act.put]); (try simp only [List.setIfInBounds_toArray]); (try simp only [List.set])
    apply wpAnyN_takeL 3 (by kernel_rfl) rfl (fun _ _ _ h => h) (by kernel_rfl) hS0
    · intro w' hS'
      go_simp; exact ⟨rfl, rfl⟩
    (try simp only [Act.put]); (try simp only [List.setIfInBounds_toArray]); (try simp only [List.set])
    apply wpAnyN_takeL 4 (by kernel_rfl) rfl (fun _ _ _ h => h) (by kernel_rfl) hS0
    · intro w' hS'
      go_simp; exact ⟨rfl, rfl⟩
    (try simp only [Act.put]); (try simp only [List.setIfInBounds_toArray]); (try simp only [List.set])
    apply wpAnyN_takeL 5 (by kernel_rfl) rfl (fun _ _ _ h => h) (by kernel_rfl) hS0
    · intro w' hS'
      go_simp; exact ⟨rfl, rfl⟩
    (try simp only [Act.put]); (try simp only [List.setIfInBounds_toArray]); (try simp only [List.set])
    apply wpAnyN_takeL 6 (by kernel_rfl) rfl (fun _ _ _ h => h) (by kernel_rfl) hS0
    · intro w' hS'
      go_simp; exact ⟨rfl, rfl⟩
    (try simp only [Act.put]); (try simp only [List.setIfInBounds_toArray]); (try simp only [List.set])
    apply wpAnyN_takeL 7 (by kernel_rfl) rfl (fun _ _ _ h => h) (by kernel_rfl) hS0
    · intro w' hS'
      go_simp; exact ⟨rfl, rfl⟩
    (try simp only [Act.put]); (try simp only [List.setIfInBounds_toArray]); (try simp only [List.set])
    apply wpAnyN_takeL 8 (v := (.bool (ltN y y))) (by kernel_rfl) rfl (fun _ _ _ h => h) (by kernel_rfl) hS0
    · intro w' hS'
      (go_simp; exact ⟨rfl, vLessB _ _ _⟩)
    (try simp only [Act.put]); (try simp only [List.setIfInBounds_toArray]); (try simp only [List.set])
    refine wpAnyN_done (by kernel_rfl) ?_ _
    have hl2 : ltN y y = false := by rw [Hx.out]; exact Hl.out
    rw [hl2]
    go_wp2
    go_ret2
    unfold order2
    rw [Hl.out]
    exact ⟨rfl, hS0, (But.refl _ _).drew⟩
  · have Hx := Lib.hid hx; clear hx
    have Hy := Lib.hid hy; clear hy
    go_enter Try.func58, Try.ntmps58
    go_upto_region 1 with fail
    refine wp_region_N (fun w' => SrtC w' B g n c d q s) 100 (by kernel_rfl) ?_
    apply wpAnyN_takeL 0 (by kernel_rfl) rfl (fun _ _ _ h => h) (by kernel_rfl) hS0
    · intro w' hS'
      go_simp; exact ⟨rfl, rfl⟩
    (try simp only [Act.put]); (try simp only [List.setIfInBounds_toArray]); (try simp only [List.set])
    apply wpAnyN_takeL 1 (by kernel_rfl) rfl (fun _ _ _ h => h) (by kernel_rfl) hS0
    · intro w' hS'
      go_simp; exact ⟨rfl, rfl⟩
    (try simp only [Act.put]); (try simp only [List.setIfInBounds_toArray]); (try simp only [List.set])
    apply wpAnyN_takeL 2 (by kernel_rfl) rfl (fun _ _ _ h => h) (by kernel_rfl) hS0
    · intro w' hS'
      go_simp; exact ⟨rfl, rfl⟩
    (try simp only [Act.put]); (try simp only [List.setIfInBounds_toArray]); (try simp only [List.set])
    apply wpAnyN_takeL 3 (by kernel_rfl) rfl (fun _ _ _ h => h) (by kernel_rfl) hS0
    · intro w' hS'
      go_simp; exact ⟨rfl, rfl⟩
    (try simp only [Act.put]); (try simp only [List.setIfInBounds_toArray]); (try simp only [List.set])
    apply wpAnyN_takeL 4 (by kernel_rfl) rfl (fun _ _ _ h => h) (by kernel_rfl) hS0
    · intro w' hS'
      go_simp; exact ⟨rfl, rfl⟩
    (try simp only [Act.put]); (try simp only [List.setIfInBounds_toArray]); (try simp only [List.set])
    apply wpAnyN_takeL 5 (by kernel_rfl) rfl (fun _ _ _ h => h) (by kernel_rfl) hS0
    · intro w' hS'
      go_simp; exact ⟨rfl, rfl⟩
    (try simp only [Act.put]); (try simp only [List.setIfInBounds_toArray]); (try simp only [List.set])
    apply wpAnyN_takeL 6 (by kernel_rfl) rfl (fun _ _ _ h => h) (by kernel_rfl) hS0
    · intro w' hS'
      go_simp; exact ⟨rfl, rfl⟩
    (try simp only [Act.put]); (try simp only [List.setIfInBounds_toArray]); (try simp only [List.set])
    apply wpAnyN_takeL 7 (by kernel_rfl) rfl (fun _ _ _ h => h) (by kernel_rfl) hS0
    · intro w' hS'
      go_simp; exact ⟨rfl, rfl⟩
    (try simp only [Act.put]); (try simp only [List.setIfInBounds_toArray]); (try simp only [List.set])
    apply wpAnyN_takeL 8 (v := (.bool (ltN y x))) (by kernel_rfl) rfl (fun _ _ _ h => h) (by kernel_rfl) hS0
    · intro w' hS'
      (go_simp; exact ⟨rfl, vLessB _ _ _⟩)
    (try simp only [Act.put]); (try simp only [List.setIfInBounds_toArray]); (try simp only [List.set])
    refine wpAnyN_done (by kernel_rfl) ?_ _
    have cq : w.cell? ⟨q, 0, none⟩ = some (.int .i64 s) := h.box.cell 0
    have fq := h.box.frozen 0
    cases hl : ltN y x with
    | true =>
      go_wp2
      go_ret2
      unfold order2
      rw [if_pos (by rw [← Hx.out, ← Hy.out]; exact hl)]
      exact ⟨rfl, ⟨(h.set (s + 1)).row.drew, (h.set (s + 1)).box⟩, ((But.refl _ _).setCell (p := ⟨q, 0, none⟩) (by simp) _).drew⟩
    | false =>
      go_wp2
      go_ret2
      unfold order2
      rw [if_neg (by rw [← Hx.out, ← Hy.out, hl]; simp)]
      exact ⟨rfl, hS0, (But.refl _ _).drew⟩
theorem order2_lt {d : Array Nat} {a b n s : Nat} (ha : a < n) (hb : b < n) : (order2 ltN d a b s).1 < n ∧ (order2 ltN d a b s).2.1 < n ∧ (order2 ltN d a b s).2.2 ≤ s + 1 := by
  unfold order2; split <;> simp [ha, hb]
set_option maxRecDepth 100000 in
set_option maxHeartbeats 4000000 in
theorem vMedian (d : Array Nat) (B g n c a b m q s : Nat) (w : World) (h : SrtC w B g n c d q s) (ha : a < n) (hb : b < n) (hm : m < n) (hs : s ≤ 500) :
    Calls Try.prog 57 #[.slice (some ⟨g, 0, none⟩) n c, .int .i64 a, .int .i64 b, .int .i64 m, .pointer (some ⟨q, 0, none⟩)] w fun e w' => e = .returned (.int .i64 (median ltN d a b m s).1) ∧ SrtC w' B g n c d q (median ltN d a b m s).2 ∧ But [q] w w' ∧ (median ltN d a b m s).1 < n ∧ (median ltN d a b m s).2 ≤ s + 3 := by
  obtain ⟨r1, hr1⟩ : ∃ r1, r1 = order2 ltN d a b s := ⟨_, rfl⟩
  obtain ⟨r2, hr2⟩ : ∃ r2, r2 = order2 ltN d r1.2.1 m r1.2.2 := ⟨_, rfl⟩
  obtain ⟨r3, hr3⟩ : ∃ r3, r3 = order2 ltN d r1.1 r2.1 r2.2.2 := ⟨_, rfl⟩
  have b1 := order2_lt (d := d) (s := s) ha hb
  rw [← hr1] at b1
  have b2 := order2_lt (d := d) (s := r1.2.2) b1.2.1 hm
  rw [← hr2] at b2
  have b3 := order2_lt (d := d) (s := r2.2.2) b1.1 b2.1
  rw [← hr3] at b3
  have hmed : median ltN d a b m s = (r3.2.1, r3.2.2) := by unfold median; rw [hr3, hr2, hr1]
  rw [hmed]
  have Hr1 := Lib.hid hr1; clear hr1
  have Hr2 := Lib.hid hr2; clear hr2
  have Hr3 := Lib.hid hr3; clear hr3
  go_enter Try.func57, Try.ntmps57
  go_wp2_with fail
  refine (vOrder2 d B g n c a b q s w h ha hb (by omega)).mono ?_
  rintro e w1 ⟨rfl, h1, k1⟩
  rw [← Hr1.out] at h1 ⊢
  go_wp2_with fail
  refine (vOrder2 d B g n c r1.2.1 m q r1.2.2 w1 h1 b1.2.1 hm (by omega)).mono ?_
  rintro e w2 ⟨rfl, h2, k2⟩
  rw [← Hr2.out] at h2 ⊢
  go_wp2_with fail
  refine (vOrder2 d B g n c r1.1 r2.1 q r2.2.2 w2 h2 b1.1 b2.1 (by omega)).mono ?_
  rintro e w3 ⟨rfl, h3, k3⟩
  rw [← Hr3.out] at h3 ⊢
  go_wp2
  go_ret
  exact ⟨rfl, h3, (k1.trans k2).trans k3, b3.2.1, by show r3.2.2 ≤ _; omega⟩
set_option maxRecDepth 100000 in
set_option maxHeartbeats 4000000 in
theorem vMedAdj (d : Array Nat) (B g n c a q s : Nat) (w : World) (h : SrtC w B g n c d q s) (ha : 0 < a) (hb : a + 1 < n) (hn : n ≤ 140737488355328) (hs : s ≤ 500) :
    Calls Try.prog 56 #[.slice (some ⟨g, 0, none⟩) n c, .int .i64 a, .pointer (some ⟨q, 0, none⟩)] w fun e w' => e = .returned (.int .i64 (medianAdjacent ltN d a s).1) ∧ SrtC w' B g n c d q (medianAdjacent ltN d a s).2 ∧ But [q] w w' ∧ (medianAdjacent ltN d a s).1 < n ∧ (medianAdjacent ltN d a s).2 ≤ s + 3 := by
  obtain ⟨a1, ha1⟩ : ∃ a1, a1 = a - 1 := ⟨_, rfl⟩
  obtain ⟨a2, ha2⟩ : ∃ a2, a2 = a + 1 := ⟨_, rfl⟩
  have w1 : IntKind.i64.wrap ((a : Int) - 1) = (a1 : Int) := by rw [IntKind.wrap_i64]; omega
  have w2 : IntKind.i64.wrap ((a : Int) + 1) = (a2 : Int) := by rw [IntKind.wrap_i64]; omega
  have hmed : medianAdjacent ltN d a s = median ltN d a1 a a2 s := by unfold medianAdjacent; rw [ha1, ha2]
  rw [hmed]
  have l1 : a1 < n := by omega
  have l2 : a2 < n := by omega
  have l0 : a < n := by omega
  have Ha1 := Lib.hid ha1; clear ha1
  have Ha2 := Lib.hid ha2; clear ha2
  go_enter Try.func56, Try.ntmps56
  go_wp2_with fail
  refine (vMedian d B g n c a1 a a2 q s w h l1 l0 l2 hs).mono ?_
  rintro e w3 ⟨rfl, h3, k3, b3⟩
  go_wp2
  go_ret
  exact ⟨rfl, h3, k3, b3⟩

def hintV : Hint → Int
  | .unknown => 0
  | .increasing => 1
  | .decreasing => 2
def hintOf (s : Nat) : Hint := if s = 0 then .increasing else if s = 12 then .decreasing else .unknown
set_option maxRecDepth 100000 in
set_option maxHeartbeats 8000000 in
theorem vPivot (d : Array Nat) (B g n c a b : Nat) (w : World) (h0 : Srt w B g n c d) (hab : a + 8 ≤ b) (hb : b ≤ n) (hn : n ≤ 140737488355328) :
    Calls Try.prog 46 #[.slice (some ⟨g, 0, none⟩) n c, .int .i64 a, .int .i64 b] w fun e w' => e = .returned (.tuple #[.int .i64 (choosePivot ltN d a b).1, .int .i64 (hintV (choosePivot ltN d a b).2)]) ∧ Srt w' B g n c d ∧ Below w.heap.size w w' := by
  obtain ⟨l, hl⟩ : ∃ l, l = b - a := ⟨_, rfl⟩
  obtain ⟨l4, hl4⟩ : ∃ l4, l4 = l / 4 := ⟨_, rfl⟩
  obtain ⟨i, hi⟩ : ∃ i, i = a + l / 4 * 1 := ⟨_, rfl⟩
  obtain ⟨j, hj⟩ : ∃ j, j = a + l / 4 * 2 := ⟨_, rfl⟩
  obtain ⟨k, hk⟩ : ∃ k, k = a + l / 4 * 3 := ⟨_, rfl⟩
  have w1 : IntKind.i64.wrap ((b : Int) - (a : Int)) = (l : Int) := by rw [IntKind.wrap_i64]; omega
  have w2 : IntKind.i64.wrap ((l : Int) / 4) = (l4 : Int) := by rw [IntKind.wrap_i64]; omega
  have w3 : IntKind.i64.wrap (l4 : Int) = (l4 : Int) := by rw [IntKind.wrap_i64]; omega
  have w4 : IntKind.i64.wrap ((l4 : Int) * 2) = ((2 * l4 : Nat) : Int) := by rw [IntKind.wrap_i64]; omega
  have w5 : IntKind.i64.wrap ((l4 : Int) * 3) = ((3 * l4 : Nat) : Int) := by rw [IntKind.wrap_i64]; omega
  have w6 : IntKind.i64.wrap ((a : Int) + (l4 : Int)) = (i : Int) := by rw [IntKind.wrap_i64]; omega
  have w7 : IntKind.i64.wrap ((a : Int) + 2 * (l4 : Int)) = (j : Int) := by rw [IntKind.wrap_i64]; omega
  have w8 : IntKind.i64.wrap ((a : Int) + 3 * (l4 : Int)) = (k : Int) := by rw [IntKind.wrap_i64]; omega
  have hl8 : (8 : Int) ≤ (l : Int) := by omega
  obtain ⟨q, hq⟩ : ∃ q, q = w.heap.size := ⟨_, rfl⟩
  obtain ⟨wB, hwB⟩ : ∃ wB, wB = w.alloc (.cells #[.int .i64 0] 3) := ⟨_, rfl⟩
  have hSC : SrtC wB B g n c d q 0 := by
    rw [hwB]
    exact ⟨⟨h0.sz, h0.own.alloc _⟩, by rw [hq]; exact Blk.new w 3 [.int .i64 0]⟩
  have hbB : Below w.heap.size w wB := by rw [hwB]; exact (Below.refl _ _).alloc (Nat.le_refl _) _
  have HwB := Lib.hid hwB; clear hwB
  have Hq := Lib.hid hq; clear hq
  by_cases h50 : 50 ≤ l
  · have h50' : (50 : Int) ≤ (l : Int) := by omega
    have b1 : 0 < i ∧ i + 1 < n ∧ 0 < j ∧ j + 1 < n ∧ 0 < k ∧ k + 1 < n := by omega
    obtain ⟨ri, hri⟩ : ∃ ri, ri = medianAdjacent ltN d i 0 := ⟨_, rfl⟩
    obtain ⟨rj, hrj⟩ : ∃ rj, rj = medianAdjacent ltN d j ri.2 := ⟨_, rfl⟩
    obtain ⟨rk, hrk⟩ : ∃ rk, rk = medianAdjacent ltN d k rj.2 := ⟨_, rfl⟩
    obtain ⟨rr, hrr⟩ : ∃ rr, rr = median ltN d ri.1 rj.1 rk.1 rk.2 := ⟨_, rfl⟩
    have hcp : choosePivot ltN d a b = (rr.1, hintOf rr.2) := by
      unfold choosePivot hintOf
      simp only
      rw [← hl, if_pos (show l ≥ 8 by omega), if_pos (show l ≥ 50 by omega), hrr, hrk, hrj, hri, hk, hj, hi]
    rw [hcp]
    clear hcp
    have Hri := Lib.hid hri; clear hri
    have Hrj := Lib.hid hrj; clear hrj
    have Hrk := Lib.hid hrk; clear hrk
    have Hrr := Lib.hid hrr; clear hrr
    have Hi := Lib.hid hi; clear hi
    have Hj := Lib.hid hj; clear hj
    have Hk := Lib.hid hk; clear hk
    have Hl := Lib.hid hl; clear hl
    have Hl4 := Lib.hid hl4; clear hl4
    go_enter Try.func46, Try.ntmps46
    go_wp2_with fail
    rw [← Hq.out, ← HwB.out]
    refine (vMedAdj d B g n c i q 0 wB hSC b1.1 b1.2.1 hn (by omega)).mono ?_
    rintro e w1 ⟨rfl, h1, k1, b2⟩
    rw [← Hri.out] at h1 b2 ⊢
    go_wp2_with fail
    refine (vMedAdj d B g n c j q ri.2 w1 h1 b1.2.2.1 b1.2.2.2.1 hn (by omega)).mono ?_
    rintro e w2 ⟨rfl, h2, k2, b3⟩
    rw [← Hrj.out] at h2 b3 ⊢
    go_wp2_with fail
    refine (vMedAdj d B g n c k q rj.2 w2 h2 b1.2.2.2.2.1 b1.2.2.2.2.2 hn (by omega)).mono ?_
    rintro e w3 ⟨rfl, h3, k3, b4⟩
    rw [← Hrk.out] at h3 b4 ⊢
    go_wp2_with fail
    refine (vMedian d B g n c ri.1 rj.1 rk.1 q rk.2 w3 h3 b2.1 b3.1 b4.1 (by omega)).mono ?_
    rintro e w4 ⟨rfl, h4, k4, b5⟩
    rw [← Hrr.out] at h4 ⊢
    have hfin : Below w.heap.size w w4 := hbB.trans ((((k1.trans k2).trans k3).trans k4).below hbB.size (by rw [Hq.out]; simp))
    have cq : w4.cell? ⟨q, 0, none⟩ = some (.int .i64 rr.2) := h4.box.cell 0
    by_cases hs0 : rr.2 = 0
    · have hho : hintOf rr.2 = .increasing := by unfold hintOf; rw [if_pos hs0]
      rw [hs0] at cq
      have Hho := Lib.hid hho; clear hho hs0
      go_wp2
      go_ret2
      refine ⟨?_, h4.row, hfin⟩
      rw [Hho.out]; rfl
    · by_cases hs12 : rr.2 = 12
      · have hho : hintOf rr.2 = .decreasing := by unfold hintOf; rw [if_neg hs0, if_pos hs12]
        rw [hs12] at cq
        have Hho := Lib.hid hho; clear hho hs0 hs12
        go_wp2
        go_ret2
        refine ⟨?_, h4.row, hfin⟩
        rw [Hho.out]; rfl
      · have hho : hintOf rr.2 = .unknown := by unfold hintOf; rw [if_neg hs0, if_neg hs12]
        have hs0' : ¬ (rr.2 : Int) = 0 := by omega
        have hs12' : ¬ (rr.2 : Int) = 12 := by omega
        have Hho := Lib.hid hho; clear hho
        go_wp2
        go_ret2
        refine ⟨?_, h4.row, hfin⟩
        rw [Hho.out]; rfl
  · have h50' : ¬ (50 : Int) ≤ (l : Int) := by omega
    have b1 : i < n ∧ j < n ∧ k < n := by omega
    obtain ⟨rr, hrr⟩ : ∃ rr, rr = median ltN d i j k 0 := ⟨_, rfl⟩
    have hcp : choosePivot ltN d a b = (rr.1, hintOf rr.2) := by
      unfold choosePivot hintOf
      simp only
      rw [← hl, if_pos (show l ≥ 8 by omega), if_neg (show ¬ l ≥ 50 by omega), hrr, hk, hj, hi]
    rw [hcp]
    clear hcp
    have Hrr := Lib.hid hrr; clear hrr
    have Hi := Lib.hid hi; clear hi
    have Hj := Lib.hid hj; clear hj
    have Hk := Lib.hid hk; clear hk
    have Hl := Lib.hid hl; clear hl
    have Hl4 := Lib.hid hl4; clear hl4
    go_enter Try.func46, Try.ntmps46
    go_wp2_with fail
    rw [← Hq.out, ← HwB.out]
    refine (vMedian d B g n c i j k q 0 wB hSC b1.1 b1.2.1 b1.2.2 (by omega)).mono ?_
    rintro e w4 ⟨rfl, h4, k4, b5⟩
    rw [← Hrr.out] at h4 ⊢
    have hfin : Below w.heap.size w w4 := hbB.trans (k4.below hbB.size (by rw [Hq.out]; simp))
    have cq : w4.cell? ⟨q, 0, none⟩ = some (.int .i64 rr.2) := h4.box.cell 0
    by_cases hs0 : rr.2 = 0
    · have hho : hintOf rr.2 = .increasing := by unfold hintOf; rw [if_pos hs0]
      rw [hs0] at cq
      have Hho := Lib.hid hho; clear hho hs0
      go_wp2
      go_ret2
      refine ⟨?_, h4.row, hfin⟩
      rw [Hho.out]; rfl
    · by_cases hs12 : rr.2 = 12
      · have hho : hintOf rr.2 = .decreasing := by unfold hintOf; rw [if_neg hs0, if_pos hs12]
        rw [hs12] at cq
        have Hho := Lib.hid hho; clear hho hs0 hs12
        go_wp2
        go_ret2
        refine ⟨?_, h4.row, hfin⟩
        rw [Hho.out]; rfl
      · have hho : hintOf rr.2 = .unknown := by unfold hintOf; rw [if_neg hs0, if_neg hs12]
        have hs0' : ¬ (rr.2 : Int) = 0 := by omega
        have hs12' : ¬ (rr.2 : Int) = 12 := by omega
        have Hho := Lib.hid hho; clear hho
        go_wp2
        go_ret2
        refine ⟨?_, h4.row, hfin⟩
        rw [Hho.out]; rfl
end Go.Proofs.Ytmalkgakdmghiaa
