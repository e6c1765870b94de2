import Derived.Test.YtmddgimadlmacaaDoorWs32
namespace Go.Proofs.YtmddgimadlmacaaDoor
open Go.RowKit Garner

theorem rfind_lt {ν : Type} {nm : Bs} {l : List (Bs × ν)} (h : (rfind nm l).2 = true) : (rfind nm l).1 < l.length := by
  obtain ⟨v, _, h2⟩ := rfind_get nm l h
  rcases Nat.lt_or_ge (rfind nm l).1 l.length with h3 | h3
  · exact h3
  · rw [List.getElem?_eq_none h3] at h2; cases h2
/-- the three pieces that a put lays together -/
structure Put3 (O : Nat → Prop) (w2 : World) (g : Nat) (nm : Bs) (e : FileE) (rs : Files) (i j : Nat) (B : Nat) : Prop where
  lt : ∀ p ∈ (rs.take i ++ (nm, e) :: rs.drop j), FileOk (fun b => O b ∧ b < B) w2 p.2
set_option maxRecDepth 100000 in
set_option maxHeartbeats 4000000 in
theorem rfPut (nm : Bs) (e : FileE) (g fb : Nat) (rs : Files) (fl dn : Bool) (left : Int) (O : Nat → Prop) (w : World) (h : RefIs O w g fb rs fl dn left) (he : FileOk O w e) (hl : (rs.length + 1) * 48 ≤ 140737488355328) :
    Calls Tryd.prog 55 #[.pointer (some ⟨g, 0, none⟩), rfAgg nm e] w fun e' w' => e' = .returned (.tuple #[]) ∧ ∃ fb', RefIs O w' g fb' (sput nm e rs) fl dn left ∧ (fb' = g ∨ w.heap.size ≤ fb') ∧ But [g] w w' := by
  obtain ⟨A, c, hd, hr, hc, hA⟩ := h.ex
  have hlo := h.lo; have hhi := h.hi
  have hasc := Lib.hid (asc_sput (nm := nm) (v := e) h.asc)
  have hf0 : ∀ p ∈ rs, FileOk (fun b => O b ∧ b < w.heap.size) w p.2 := fun p hp => (h.files p hp).lt
  have he0 := he.lt
  have hgl := hd.lt
  obtain ⟨q, hq⟩ : ∃ q, q = rfind nm rs := ⟨_, rfl⟩
  have hile := rfind_le nm rs
  have hilt : (rfind nm rs).2 = true → (rfind nm rs).1 < rs.length := rfind_lt
  have hsp : sput nm e rs = rs.take q.1 ++ (nm, e) :: rs.drop (q.1 + if q.2 then 1 else 0) := by rw [hq]; rfl
  rw [← hq] at hile hilt
  obtain ⟨i, ok⟩ := q
  simp only at hile hilt hsp
  have Hsp := Lib.hid hsp; have Hq := Lib.hid hq
  clear hsp hq h he
  go_enter Tryd.func55, Tryd.ntmps55
  go_wp2_with fail
  obtain ⟨X, hX⟩ : ∃ X, X = w.alloc (.cells #[.string (nmS nm), .slice e.A e.data.length e.c, .int .i64 e.synced] 88) := ⟨_, rfl⟩
  change Calls _ _ _ (w.alloc (.cells #[.string (nmS nm), .slice e.A e.data.length e.c, .int .i64 e.synced] 88)) _
  rw [← hX]
  have hbX : Below w.heap.size w X := by rw [hX]; exact (Below.refl _ _).alloc (Nat.le_refl _) _
  have kX : Blk X w.heap.size 88 [.string (nmS nm), .slice e.A e.data.length e.c, .int .i64 e.synced] := by rw [hX]; exact Blk.new w _ _
  clear hX
  have hdX := hd.below hbX hgl
  have hrX := (hr.below hbX).more hbX.size
  refine (rFind nm g rs A c fl dn left X hdX hrX (by omega)).mono ?_
  rintro e' w1 ⟨rfl, rfl⟩
  rw [← Hq.out]
  have c0 : w1.cell? ⟨g, 0, none⟩ = some (.slice A rs.length c) := hdX.cell 0
  have x0 : w1.cell? ⟨w.heap.size, 0, none⟩ = some (.string (nmS nm)) := kX.cell 0
  have hs1 := hbX.size
  have hil : (rs.take i).length = i := by rw [List.length_take]; omega
  have hcut1 : Row w1 w.heap.size 3 A i (rfCells (rs.take i)) := by
    rcases hA with ⟨rfl, h0, _⟩ | rfl
    · have : i = 0 := by omega
      subst this
      simp only [List.take_zero]; exact Row.none_
    · have h1 := rf_cut (hr.below hbX) rfl 0 i (by omega) hile
      rw [rfCells_take] at h1
      simpa using h1
  have Hil := Lib.hid hil
  have hic : (i : Int) ≤ (c : Int) := by omega
  have hi0 : (0 : Int) ≤ (i : Int) := by omega
  have hrw := hr
  have hrw := hr
  clear hd hr hil
  have hr0 := hrX
  have hw0 : w.heap.size < w1.heap.size := kX.lt
  go_upto_region 4 with (at_builtin; refine wpList_app _ rfl rfE rfl rfl (World.ownsRow_nil w1 w1.heap.size _ _) rfl hcut1 (rf_one _) (by omega) (Nat.le_refl _) ?_; intro v2 w2 hown2 hg2 hb2 hx2)
  simp only [Nat.zero_add, List.nil_append] at hown2
  have kX2 := kX.below hb2 kX.lt
  have x0' : w2.cell? ⟨w.heap.size, 0, none⟩ = some (.string (nmS nm)) := kX2.cell 0
  have x1' : w2.cell? ⟨w.heap.size, 1, none⟩ = some (.slice e.A e.data.length e.c) := kX2.cell 1
  have x2' : w2.cell? ⟨w.heap.size, 2, none⟩ = some (.int .i64 e.synced) := kX2.cell 2
  have hd2 := hdX.below hb2 hdX.lt
  have hs2 := hb2.size
  have hge2 := own_ge hown2
  have hf2 : ∀ p, p = (nm, e) ∨ p ∈ rs → FileOk (fun b => O b ∧ b < w.heap.size) w2 p.2 := fun p hp => by
    rcases hp with rfl | hp
    · exact (he0.below hbX).below hb2
    · exact ((hf0 p hp).below hbX).below hb2
  have hb02 := hbX.trans (hb2.mono (Nat.le_of_lt hw0))
  have hbY : Below w2.heap.size w2 (w2.alloc (.cells #[.string (nmS nm), .slice e.A e.data.length e.c, .int .i64 e.synced] 88)) := (Below.refl _ _).alloc (Nat.le_refl _) _
  clear c0 x0 hcut1 hg2 hb2 hx2 hf0 he0 kX kX2 hdX
  go_upto_if 26 with (at_builtin; refine wpList_app _ rfl rfE rfl rfl (hown2.alloc _) rfl (row_newN w2 _ 3 1 [.string (nmS nm), .slice e.A e.data.length e.c, .int .i64 e.synced] rfl) (by simp [Value.oneCell']) (by omega) (by simp; omega) ?_; intro v3 w3 hown3 hg3 hb3 hx3)
  clear x0' x1' x2'
  have hown3 : w3.ownsRow w1.heap.size 88 3 v3 (i + 1) (rfCells (rs.take i) ++ rfCells [(nm, e)]) := hown3
  have hd3 : Blk w3 g 68 (refV (.slice A rs.length c) fl dn left) := (hd2.below hbY hd2.lt).below hb3 (by omega)
  have hg3' : (w2.alloc (.cells #[.string (nmS nm), .slice e.A e.data.length e.c, .int .i64 e.synced] 88)).grownBy w3 v2.ownBlock := hg3
  have hf3 : ∀ p, p = (nm, e) ∨ p ∈ rs → FileOk (fun b => O b ∧ b < w.heap.size) w3 p.2 := fun p hp => ((hf2 p hp).below hbY).grownR hg3' (fun b hb' _ hm => by have := hge2 b hm; have := hb'.2; omega)
  have hge3 := own_ge hown3
  have hs3 : w1.heap.size ≤ w3.heap.size := by have := hb3.size; simp at this; omega
  have hb03 : Below w.heap.size w w3 := (hb02.trans (hbY.mono (by omega))).trans (hb3.mono (Nat.le_of_lt hw0))
  have c3 : w3.cell? ⟨g, 0, none⟩ = some (.slice A rs.length c) := hd3.cell 0
  clear hg3 hg3' hb3 hx3 hf2 hd2 hbY hb02 hge2 hown2 hbX hs2
  have hr0' : Row w w.heap.size 3 A rs.length (rfCells rs) := hrw
  clear hr0
  have hr0 := hr0'
  clear hr0'
  cases ok with
  | true =>
    have hilt' := hilt rfl
    simp only [if_true] at Hsp
    have hjl : i + 1 ≤ rs.length := by omega
    have hdl : (rs.drop (i + 1)).length = rs.length - (i + 1) := by rw [List.length_drop]
    have hcut3 : c ≠ i + 1 → A = some ⟨fb, 0, none⟩ ∧ Row w3 w.heap.size 3 (some ⟨fb, (i + 1) * 3, none⟩) (rs.length - (i + 1)) (rfCells (rs.drop (i + 1))) := fun hne => by
      rcases hA with ⟨_, h0, hc0⟩ | rfl
      · omega
      · refine ⟨rfl, ?_⟩
        have h1 := rf_cut (hr0.below hb03) rfl (i + 1) rs.length hjl (Nat.le_refl _)
        rw [List.take_of_length_le (by rw [List.length_drop]; exact Nat.le_refl _)] at h1
        simpa using h1
    have hnil : c = i + 1 → Row w3 w.heap.size 3 A (rs.length - (i + 1)) (rfCells (rs.drop (i + 1))) := fun e => by
      have e1 : rs.length = i + 1 := by omega
      rw [List.drop_of_length_le (by omega), e1, Nat.sub_self]
      exact ⟨rfl, fun h => absurd h (by omega)⟩
    have hfin : ∀ (v4 : Value) (w4 : World), w4.ownsRow w1.heap.size 88 3 v4 (i + 1 + (rs.length - (i + 1))) (rfCells (rs.take i) ++ rfCells [(nm, e)] ++ rfCells (rs.drop (i + 1))) → w3.grownBy w4 v3.ownBlock → Below w1.heap.size w3 w4 →
        Blk w4 g 68 (refV (.slice A rs.length c) fl dn left) ∧ ∀ w5, w5 = w4.setCell ⟨g, 0, none⟩ v4 → ∃ fb', RefIs O w5 g fb' (sput nm e rs) fl dn left ∧ (fb' = g ∨ w.heap.size ≤ fb') ∧ But [g] w w5 := fun v4 w4 hown4 hg4 hb4 => by
      have hd4 : Blk w4 g 68 (refV (.slice A rs.length c) fl dn left) := hd3.below hb4 (by omega)
      refine ⟨hd4, fun w5 hw5 => ?_⟩
      have hsp2 : sput nm e rs = rs.take i ++ [(nm, e)] ++ rs.drop (i + 1) := by rw [Hsp.out]; simp
      have hlen : (sput nm e rs).length = i + 1 + (rs.length - (i + 1)) := by rw [hsp2, List.length_append, List.length_append, Hil.out, hdl]; rfl
      rw [← rfCells_app, ← rfCells_app, ← hlen, ← hsp2] at hown4
      have hf4 : ∀ p ∈ sput nm e rs, FileOk O w4 p.2 := fun p hp => by
        have hp' : p = (nm, e) ∨ p ∈ rs := mem_sput hp
        exact ((hf3 p hp').grownR hg4 (fun b hb' _ hm => by have := hge3 b hm; have := hb'.2; omega)).mono (fun b hb' => hb'.1)
      obtain ⟨fb', h1, h2⟩ := RefIs.newRow hf4 hd4 hown4 (by simp [bv]) hasc.out hlo hhi hw5
      refine ⟨fb', h1, ?_, ?_⟩
      · exact h2.imp id (fun h => by omega)
      · rw [hw5]
        exact (But.of_below (hb03.trans (hb4.mono hs1))).trans ((But.refl _ _).setCell (by simp) _)
    have Hfin := Lib.hid hfin; have Hcut3 := Lib.hid hcut3; have Hnil := Lib.hid hnil
    have hsl0 : (0 : Int) ≤ ((i : Int) + 1) := by omega
    have hsl1 : ((i : Int) + 1) ≤ (rs.length : Int) := by omega
    have hsl2 : ((i : Int) + 1) ≤ (c : Int) := by omega
    have hbse : w1.heap.size ≤ w3.heap.size := hs3
    clear hfin hcut3 hnil hdl hf3 hge3 hd3 hA hr0 hjl
    obtain ⟨A3, cc3, rfl, hcc3⟩ := own_form hown3
    rcases A3 with _ | a3
    all_goals
      by_cases hcap : c = i + 1
      · have hcut4 := Hnil.out hcap
        have hri : rs.length = i + 1 := by omega
        have hsl3 : (c : Int) = ((i : Int) + 1) := by omega
        clear Hnil Hcut3
        subst hcap
        go_wp2_with (at_builtin; refine wpList_app _ rfl rfE rfl rfl hown3 rfl hcut4 (rf_one _) (by omega) hbse ?_; intro v4 w4 hown4 hg4 hb4 hx4; obtain ⟨A4, cc4, rfl, _⟩ := own_form hown4; obtain ⟨hd4, hz⟩ := Hfin.out _ w4 hown4 hg4 hb4; have Hz := Lib.hid hz; have c4 := hd4.cell 0; have k4 := hd4.frozen 0; clear hz hown4 hg4 hb4 hx4 hd4)
        refine bodyPost_end (results_none rfl _ _ _) rfl ?_
        exact ⟨rfl, Hz.out _ (by first | rfl | rw [show i + 1 + (rs.length - (i + 1)) = i + 1 by omega] | rw [show c + 1 + (rs.length - c) = c + 1 by omega])⟩
      · obtain ⟨rfl, hcut4⟩ := Hcut3.out hcap
        have hsl3 : ¬ (c : Int) = ((i : Int) + 1) := by omega
        clear Hnil Hcut3
        go_wp2_with (at_builtin; refine wpList_app _ rfl rfE rfl rfl hown3 rfl hcut4 (rf_one _) (by omega) hbse ?_; intro v4 w4 hown4 hg4 hb4 hx4; obtain ⟨A4, cc4, rfl, _⟩ := own_form hown4; obtain ⟨hd4, hz⟩ := Hfin.out _ w4 hown4 hg4 hb4; have Hz := Lib.hid hz; have c4 := hd4.cell 0; have k4 := hd4.frozen 0; clear hz hown4 hg4 hb4 hx4 hd4)
        refine bodyPost_end (results_none rfl _ _ _) rfl ?_
        exact ⟨rfl, Hz.out _ (by first | rfl | rw [show i + 1 + (rs.length - (i + 1)) = i + 1 by omega] | rw [show c + 1 + (rs.length - c) = c + 1 by omega])⟩
  | false =>
    simp only [Bool.false_eq_true, if_false, Nat.add_zero] at Hsp
    have hjl : i ≤ rs.length := by omega
    have hdl : (rs.drop (i)).length = rs.length - (i) := by rw [List.length_drop]
    have hcut3 : c ≠ i → A = some ⟨fb, 0, none⟩ ∧ Row w3 w.heap.size 3 (some ⟨fb, (i) * 3, none⟩) (rs.length - (i)) (rfCells (rs.drop (i))) := fun hne => by
      rcases hA with ⟨_, h0, hc0⟩ | rfl
      · omega
      · refine ⟨rfl, ?_⟩
        have h1 := rf_cut (hr0.below hb03) rfl (i) rs.length hjl (Nat.le_refl _)
        rw [List.take_of_length_le (by rw [List.length_drop]; exact Nat.le_refl _)] at h1
        simpa using h1
    have hnil : c = i → Row w3 w.heap.size 3 A (rs.length - (i)) (rfCells (rs.drop (i))) := fun e => by
      have e1 : rs.length = i := by omega
      rw [List.drop_of_length_le (by omega), e1, Nat.sub_self]
      exact ⟨rfl, fun h => absurd h (by omega)⟩
    have hfin : ∀ (v4 : Value) (w4 : World), w4.ownsRow w1.heap.size 88 3 v4 (i + 1 + (rs.length - (i))) (rfCells (rs.take i) ++ rfCells [(nm, e)] ++ rfCells (rs.drop (i))) → w3.grownBy w4 v3.ownBlock → Below w1.heap.size w3 w4 →
        Blk w4 g 68 (refV (.slice A rs.length c) fl dn left) ∧ ∀ w5, w5 = w4.setCell ⟨g, 0, none⟩ v4 → ∃ fb', RefIs O w5 g fb' (sput nm e rs) fl dn left ∧ (fb' = g ∨ w.heap.size ≤ fb') ∧ But [g] w w5 := fun v4 w4 hown4 hg4 hb4 => by
      have hd4 : Blk w4 g 68 (refV (.slice A rs.length c) fl dn left) := hd3.below hb4 (by omega)
      refine ⟨hd4, fun w5 hw5 => ?_⟩
      have hsp2 : sput nm e rs = rs.take i ++ [(nm, e)] ++ rs.drop (i) := by rw [Hsp.out]; simp
      have hlen : (sput nm e rs).length = i + 1 + (rs.length - (i)) := by rw [hsp2, List.length_append, List.length_append, Hil.out, hdl]; rfl
      rw [← rfCells_app, ← rfCells_app, ← hlen, ← hsp2] at hown4
      have hf4 : ∀ p ∈ sput nm e rs, FileOk O w4 p.2 := fun p hp => by
        have hp' : p = (nm, e) ∨ p ∈ rs := mem_sput hp
        exact ((hf3 p hp').grownR hg4 (fun b hb' _ hm => by have := hge3 b hm; have := hb'.2; omega)).mono (fun b hb' => hb'.1)
      obtain ⟨fb', h1, h2⟩ := RefIs.newRow hf4 hd4 hown4 (by simp [bv]) hasc.out hlo hhi hw5
      refine ⟨fb', h1, ?_, ?_⟩
      · exact h2.imp id (fun h => by omega)
      · rw [hw5]
        exact (But.of_below (hb03.trans (hb4.mono hs1))).trans ((But.refl _ _).setCell (by simp) _)
    have Hfin := Lib.hid hfin; have Hcut3 := Lib.hid hcut3; have Hnil := Lib.hid hnil
    have hsl0 : (0 : Int) ≤ (i : Int) := by omega
    have hsl1 : (i : Int) ≤ (rs.length : Int) := by omega
    have hsl2 : (i : Int) ≤ (c : Int) := by omega
    have hbse : w1.heap.size ≤ w3.heap.size := hs3
    clear hfin hcut3 hnil hdl hf3 hge3 hd3 hA hr0 hjl
    obtain ⟨A3, cc3, rfl, hcc3⟩ := own_form hown3
    rcases A3 with _ | a3
    all_goals
      by_cases hcap : c = i
      · have hcut4 := Hnil.out hcap
        have hri : rs.length = i := by omega
        have hsl3 : (c : Int) = (i : Int) := by omega
        clear Hnil Hcut3
        subst hcap
        go_wp2_with (at_builtin; refine wpList_app _ rfl rfE rfl rfl hown3 rfl hcut4 (rf_one _) (by omega) hbse ?_; intro v4 w4 hown4 hg4 hb4 hx4; obtain ⟨A4, cc4, rfl, _⟩ := own_form hown4; obtain ⟨hd4, hz⟩ := Hfin.out _ w4 hown4 hg4 hb4; have Hz := Lib.hid hz; have c4 := hd4.cell 0; have k4 := hd4.frozen 0; clear hz hown4 hg4 hb4 hx4 hd4)
        refine bodyPost_end (results_none rfl _ _ _) rfl ?_
        exact ⟨rfl, Hz.out _ (by first | rfl | rw [show i + 1 + (rs.length - (i)) = i + 1 by omega] | rw [show c + 1 + (rs.length - c) = c + 1 by omega])⟩
      · obtain ⟨rfl, hcut4⟩ := Hcut3.out hcap
        have hsl3 : ¬ (c : Int) = (i : Int) := by omega
        clear Hnil Hcut3
        go_wp2_with (at_builtin; refine wpList_app _ rfl rfE rfl rfl hown3 rfl hcut4 (rf_one _) (by omega) hbse ?_; intro v4 w4 hown4 hg4 hb4 hx4; obtain ⟨A4, cc4, rfl, _⟩ := own_form hown4; obtain ⟨hd4, hz⟩ := Hfin.out _ w4 hown4 hg4 hb4; have Hz := Lib.hid hz; have c4 := hd4.cell 0; have k4 := hd4.frozen 0; clear hz hown4 hg4 hb4 hx4 hd4)
        refine bodyPost_end (results_none rfl _ _ _) rfl ?_
        exact ⟨rfl, Hz.out _ (by first | rfl | rw [show i + 1 + (rs.length - (i)) = i + 1 by omega] | rw [show c + 1 + (rs.length - c) = c + 1 by omega])⟩
end Go.Proofs.YtmddgimadlmacaaDoor
