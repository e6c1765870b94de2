import Derived.Test.YtmddgimadlmacaaRight4
import Derived.Test.YtmddgimadlmacaaAwake5
import Derived.Outline
namespace Go.Proofs.Ytmddgimadlmacaa
open Go.RowKit Garner

structure Script (w : World) (B : Nat) (A : Option Addr) (ps : List OpD) : Prop where
  row : Row w B 7 A ps.length (ps.flatMap opCells)
  all : ∀ o ∈ ps, OpOk w B o
theorem Script.below {w w' : World} {B : Nat} {A : Option Addr} {ps : List OpD} (h : Script w B A ps) (hb : Below B w w') : Script w' B A ps := ⟨h.row.below hb, fun o ho => (h.all o ho).below hb⟩
theorem opCells_at (ps : List OpD) {k j : Nat} (hk : k < ps.length) (hj : j < 7) : (ps.flatMap opCells)[k * 7 + j]? = (opCells ps[k])[j]? := by
  induction ps generalizing k with
  | nil => simp at hk
  | cons o ps ih =>
    rw [List.flatMap_cons]
    cases k with
    | zero => rw [List.getElem?_append_left (by show 0 * 7 + j < 7; omega)]; simp
    | succ k =>
      rw [List.getElem?_append_right (by show 7 ≤ _; omega), show (k + 1) * 7 + j - (opCells o).length = k * 7 + j by show (k + 1) * 7 + j - 7 = _; omega, ih (by simpa using hk)]
      simp
theorem Script.at_ {w : World} {B : Nat} {A : Option Addr} {ps : List OpD} (h : Script w B A ps) {k : Nat} (hk : k < ps.length) : ∃ b off, A = some ⟨b, off, none⟩ ∧ b < B ∧ ∀ j, j < 7 → w.cell? ⟨b, off + k * 7 + j, none⟩ = (opCells ps[k])[j]? := by
  obtain ⟨b, off, e, hb, hc⟩ := h.row.2 (by omega)
  refine ⟨b, off, e, hb, fun j hj => ?_⟩
  have h1 := opCells_at ps hk hj
  have h2 : j < (opCells ps[k]).length := hj
  rw [List.getElem?_eq_getElem h2] at h1 ⊢
  rw [Nat.add_assoc]
  exact hc _ _ h1
structure S13 (w' : World) (x H Wb : Nat) (o : OpD) (V U : List Value) : Prop where
  a : Blk w' x 63 (opCells o)
  b : Blk w' H 57 V
  c : Blk w' Wb 60 U
theorem CMid.ptr {w : World} {B : Nat} {v u : Value} {bs : List Nat} {p : Option AD} (h : CMid B w v u bs p) : ∃ a, v = .pointer a := by cases h <;> exact ⟨_, rfl⟩
theorem Pair.ptr {w : World} {v u : Value} {bs : List Nat} {p : Option AD} (h : Pair w v u bs p) : (∃ a, v = .pointer a) ∧ ∃ a, u = .pointer a := by cases h <;> exact ⟨⟨_, rfl⟩, _, rfl⟩
theorem RefD.of_new {w : World} {g : Nat} (h : RefT w g g [] false false (-1)) : RefD w g g AD.new := ⟨[], h, rfl⟩
/-- the three at the start -/
theorem Trip.start {w w0 w1 w2 w3 w4 : World} {B g1 m1 g2 m2 r1 r2 : Nat} (hB : B ≤ w.heap.size) (hb0 : Below w.heap.size w w0)
    (hd1 : DiskA w.heap.size w1 g1 m1 AD.new) (hb1 : Below w0.heap.size w0 w1) (hg1 : w0.heap.size ≤ g1) (hm1 : w0.heap.size ≤ m1)
    (hd2 : DiskA w.heap.size w2 g2 m2 AD.new) (hb2 : Below w1.heap.size w1 w2) (hg2 : w1.heap.size ≤ g2) (hm2 : w1.heap.size ≤ m2)
    (hr1 : RefT w3 r1 r1 [] false false (-1)) (hrl1 : (w2.alloc (.cells #[.pointer (some ⟨g1, 0, none⟩), .pointer (some ⟨g2, 0, none⟩), .pointer none] 57)).heap.size ≤ r1) (hb3 : Below (w2.alloc (.cells #[.pointer (some ⟨g1, 0, none⟩), .pointer (some ⟨g2, 0, none⟩), .pointer none] 57)).heap.size (w2.alloc (.cells #[.pointer (some ⟨g1, 0, none⟩), .pointer (some ⟨g2, 0, none⟩), .pointer none] 57)) w3)
    (hr2 : RefT w4 r2 r2 [] false false (-1)) (hrl2 : w3.heap.size ≤ r2) (hb4 : Below w3.heap.size w3 w4) :
    Trip (w4.alloc (.cells #[.pointer (some ⟨r1, 0, none⟩), .pointer (some ⟨r2, 0, none⟩), .pointer none] 60)) B w2.heap.size w4.heap.size 0
      [⟨.pointer (some ⟨g1, 0, none⟩), .pointer (some ⟨r1, 0, none⟩), [g1, m1, r1, r1], some AD.new⟩, ⟨.pointer (some ⟨g2, 0, none⟩), .pointer (some ⟨r2, 0, none⟩), [g2, m2, r2, r2], some AD.new⟩, ⟨.pointer none, .pointer none, [], none⟩]
    ∧ Below w.heap.size w (w4.alloc (.cells #[.pointer (some ⟨r1, 0, none⟩), .pointer (some ⟨r2, 0, none⟩), .pointer none] 60)) := by
  obtain ⟨X, hX⟩ : ∃ X, X = w2.alloc (.cells #[.pointer (some ⟨g1, 0, none⟩), .pointer (some ⟨g2, 0, none⟩), .pointer none] 57) := ⟨_, rfl⟩
  obtain ⟨Y, hY⟩ : ∃ Y, Y = w4.alloc (.cells #[.pointer (some ⟨r1, 0, none⟩), .pointer (some ⟨r2, 0, none⟩), .pointer none] 60) := ⟨_, rfl⟩
  rw [← hX] at hrl1 hb3
  rw [← hY]
  have hbX : Below w2.heap.size w2 X := by rw [hX]; exact (Below.refl _ _).alloc (Nat.le_refl _) _
  have hbY : Below w4.heap.size w4 Y := by rw [hY]; exact (Below.refl _ _).alloc (Nat.le_refl _) _
  have kX : Blk X w2.heap.size 57 [.pointer (some ⟨g1, 0, none⟩), .pointer (some ⟨g2, 0, none⟩), .pointer none] := by rw [hX]; exact Blk.new w2 _ _
  have kY : Blk Y w4.heap.size 60 [.pointer (some ⟨r1, 0, none⟩), .pointer (some ⟨r2, 0, none⟩), .pointer none] := by rw [hY]; exact Blk.new w4 _ _
  have hXs := kX.lt; have hYs := kY.lt
  clear hX hY
  have s0 := hb0.size; have s1 := hb1.size; have s2 := hb2.size; have s3 := hb3.size; have s4 := hb4.size
  have a1 := hd1.lt; have a2 := hd2.lt
  have q1 := hr1.lt; have q2 := hr2.lt
  have t34 := hb4.trans (hbY.mono s4)
  have t24 := hb3.trans (t34.mono s3)
  have tX := hbX.trans (t24.mono hbX.size)
  have t1 := hb2.trans (tX.mono s2)
  refine ⟨⟨rfl, kX.below t24 kX.lt, kY, by omega, by omega, fun s hs => ?_, fun i j s t hij hi hj c hc hc' => ?_⟩, ((hb0.trans (hb1.mono s0)).trans (t1.mono (by omega)))⟩
  · simp only [List.mem_cons, List.not_mem_nil, or_false] at hs
    rcases hs with rfl | rfl | rfl
    · exact ⟨.both (hd1.top.below t1) (RefD.of_new (hr1.below t34)) Sim.new (by simp only [List.mem_cons, List.not_mem_nil, or_false]; omega), Bd.mk (BdF.nil _) Good.nil, by simp only [List.mem_cons, List.not_mem_nil, or_false]; omega, by simp only [List.mem_cons, List.not_mem_nil, or_false]; omega⟩
    · exact ⟨.both (hd2.top.below tX) (RefD.of_new (hr2.below hbY)) Sim.new (by simp only [List.mem_cons, List.not_mem_nil, or_false]; omega), Bd.mk (BdF.nil _) Good.nil, by simp only [List.mem_cons, List.not_mem_nil, or_false]; omega, by simp only [List.mem_cons, List.not_mem_nil, or_false]; omega⟩
    · exact ⟨.nil, Bd.none _, by simp, by simp⟩
  · rcases i with _ | _ | _ | i <;> rcases j with _ | _ | _ | j <;> simp at hi hj <;> first | omega | (subst hi; simp at hc; done) | (subst hj; simp at hc'; done) | (subst hi; subst hj; simp only [List.mem_cons, List.not_mem_nil, or_false] at hc hc'; omega)
set_option maxRecDepth 100000 in
set_option maxHeartbeats 8000000 in
theorem lawDS (ps : List OpD) (A0 : Option Addr) (c0 : Nat) (w : World) (h0 : Script w w.heap.size A0 ps) (hl : ps.length ≤ 1048575) :
    Calls Try.prog 8 #[.slice A0 ps.length c0] w fun e w' => e = .returned (.bool true) ∧ Below w.heap.size w w' := by
  go_enter Try.func8, Try.ntmps8
  go_wp2_with fail
  refine (vAwake5 w).mono ?_
  rintro e w0 ⟨rfl, hb0⟩
  go_wp2_with fail
  refine (aNew_calls w.heap.size w0 hb0.size).mono ?_
  rintro e w1 ⟨g1, m1, rfl, hd1, hb1, hgl1, hml1⟩
  go_wp2_with fail
  refine (aNew_calls w.heap.size w1 (Nat.le_trans hb0.size hb1.size)).mono ?_
  rintro e w2 ⟨g2, m2, rfl, hd2, hb2, hgl2, hml2⟩
  go_wp2_with fail
  refine (rfNew _).mono ?_
  rintro e w3 ⟨r1, rfl, hr1, hrl1, hb3⟩
  go_wp2_with fail
  refine (rfNew _).mono ?_
  rintro e w4 ⟨r2, rfl, hr2, hrl2, hb4⟩
  go_wp2_with fail
  obtain ⟨hT, hb5⟩ := Trip.start (Nat.le_refl _) hb0 hd1 hb1 hgl1 hml1 hd2 hb2 hgl2 hml2 hr1 hrl1 hb3 hr2 hrl2 hb4
  obtain ⟨H, hH⟩ : ∃ H, H = w2.heap.size := ⟨_, rfl⟩
  obtain ⟨Wb, hW⟩ : ∃ W, W = w4.heap.size := ⟨_, rfl⟩
  obtain ⟨Y, hY⟩ : ∃ Y, Y = w4.alloc (.cells #[.pointer (some ⟨r1, 0, none⟩), .pointer (some ⟨r2, 0, none⟩), .pointer none] 60) := ⟨_, rfl⟩
  rw [← hY] at hT hb5 ⊢
  rw [← hH, ← hW] at hT ⊢
  clear hH hW hY hb0 hd1 hb1 hgl1 hml1 hd2 hb2 hgl2 hml2 hr1 hrl1 hb3 hr2 hrl2 hb4
  go_loopw [5] (fun i wr => ∃ (k : Nat) (L : List Slot), k ≤ ps.length ∧ i = .int .i64 k ∧ Trip wr w.heap.size H Wb k L ∧ Below w.heap.size w wr) (fun i _ => ps.length - (intOf i).toNat)
  case atStart => exact ⟨0, _, by omega, rfl, hT, hb5⟩
  case round =>
    clear hT hb5
    obtain ⟨i, L, hi, rfl, hT, hb⟩ := hrel
    obtain ⟨wo, rfl⟩ : ∃ wo : World, wo = wr := ⟨_, rfl⟩
    by_cases hlt : (i : Int) < ps.length
    · obtain ⟨bb, ob, rfl, hbb, hcb⟩ := (h0.below hb).at_ (k := i) (by omega)
      have hok := (h0.below hb).all _ (List.getElem_mem (show i < ps.length by omega))
      obtain ⟨o, ho⟩ : ∃ o, o = ps[i]'(by omega) := ⟨_, rfl⟩
      rw [← ho] at hcb hok
      clear ho
      have x0 := hcb 0 (by omega); have x1 := hcb 1 (by omega); have x2 := hcb 2 (by omega); have x3 := hcb 3 (by omega); have x4 := hcb 4 (by omega); have x5 := hcb 5 (by omega); have x6 := hcb 6 (by omega)
      simp only [opCells, List.getElem?_cons_zero, List.getElem?_cons_succ, Nat.add_zero] at x0 x1 x2 x3 x4 x5 x6
      clear hcb
      obtain ⟨kk, hk3, hkk⟩ := u64_mod o.on 3 (by omega) (by omega)
      have hkk' : wrap64 ((IntKind.u64.wrap o.on).tmod 3) = (kk : Int) := hkk
      have HK := Lib.hid hkk'
      clear hkk hkk'
      go_upto_region 10 with fail
      rw [HK.out]
      obtain ⟨X, hX⟩ : ∃ X, X = wo.alloc (.cells #[.int .i64 o.kind, .int .i64 o.on, .int .i64 o.n, .string (nmS o.a), .string (nmS o.b), .slice o.A o.data.length o.c, .slice o.Ak o.keep.length o.ck] 63) := ⟨_, rfl⟩
      rw [← hX]
      have hbX : Below wo.heap.size wo X := by rw [hX]; exact (Below.refl _ _).alloc (Nat.le_refl _) _
      have kX : Blk X wo.heap.size 63 (opCells o) := by rw [hX]; exact Blk.new wo _ _
      clear hX HK
      have hTX := hT.below hbX
      have hbX0 : Below w.heap.size w X := hb.trans (hbX.mono hb.size)
      have hokX := hok.below (hbX.mono hb.size)
      have hlo := hTX.lo
      have hlen := hTX.len
      obtain ⟨s, hs⟩ : ∃ s, L[kk]? = some s := ⟨_, List.getElem?_eq_getElem (by omega)⟩
      have hsl := hTX.all s (List.mem_of_getElem? hs)
      have cv : ∀ w', Below X.heap.size X w' → w'.cell? ⟨H, kk, none⟩ = some s.v := fun w' h => by rw [(hTX.have_.below h hTX.have_.lt).cell kk, List.getElem?_map, hs]; rfl
      have cu : ∀ w', Below X.heap.size X w' → w'.cell? ⟨Wb, kk, none⟩ = some s.u := fun w' h => by rw [(hTX.want.below h hTX.want.lt).cell kk, List.getElem?_map, hs]; rfl
      have hk3' : (kk : Int) < 3 := by omega
      have hk30 : (0 : Int) ≤ (kk : Int) := by omega
      have y0 : X.cell? ⟨wo.heap.size, 0, none⟩ = some (.int .i64 o.kind) := kX.cell 0
      have hBx : ∀ k ∈ s.bs, k = wo.heap.size → False := fun k hk e => by have := ((hT.all s (List.mem_of_getElem? hs)).pair.nbs k hk).2; omega
      have hBx : wo.heap.size ∉ s.bs := fun hm => hBx _ hm rfl
      clear hT hb hbX hok x0 x1 x2 x3 x4 x5 x6
      have HS := Lib.hid hs
      clear hs
      by_cases hten : o.kind = 10
      · have hten' : (o.kind == 10) = true := beq_iff_eq.2 hten
        clear hten cv cu
        obtain ⟨k2, hk2, hk2'⟩ : ∃ k2 : Nat, k2 < 3 ∧ ((kk : Int) + 1) % 3 = (k2 : Int) := ⟨(kk + 1) % 3, by omega, by omega⟩
        obtain ⟨s2, hs2⟩ : ∃ s, L[k2]? = some s := ⟨_, List.getElem?_eq_getElem (by omega)⟩
        have hsl2 := hTX.all s2 (List.mem_of_getElem? hs2)
        have hHl := hTX.have_.lt; have hWl := hTX.want.lt
        have cv2 : X.cell? ⟨H, k2, none⟩ = some s2.v := by rw [hTX.have_.cell k2, List.getElem?_map, hs2]; rfl
        have hn := nbH hTX
        have hhw := hTX.hw
        have hkl : kk < L.length := by omega
        have HS2 := Lib.hid hs2
        clear hs2
        have tn : ((((kk : Int) + 1) % 3).toNat) = k2 := by rw [hk2']; rfl
        go_wp2_with fail
        refine (clone1 hsl2.pair).mono ?_
        rintro e w1 ⟨v', rfl, hb1, hc1⟩
        obtain ⟨a1, rfl⟩ := hc1.ptr
        have k1 := hTX.have_.below hb1 hHl
        have kw1 := hTX.want.below hb1 hWl
        have f1 := k1.frozen kk
        have cv1 : w1.cell? ⟨H, kk, none⟩ = some s.v := by rw [k1.cell kk, List.getElem?_map, HS.out]; rfl
        have cu1 : (w1.setCell ⟨H, kk, none⟩ (.pointer a1)).cell? ⟨Wb, k2, none⟩ = some s2.u := by rw [(kw1.far (p := ⟨H, kk, none⟩) (Ne.symm hhw) (.pointer a1)).cell k2, List.getElem?_map, HS2.out]; rfl
        go_wp2_with fail
        have hs1 := hb1.size
        have kk2 := k1.set_ kk (.pointer a1)
        have kw2 := kw1.far (p := ⟨H, kk, none⟩) (Ne.symm hhw) (.pointer a1)
        have hbt2 : But [H] w1 (w1.setCell ⟨H, kk, none⟩ (.pointer a1)) := (But.refl _ _).setCell (by simp) _
        have hc2 := hc1.butT hbt2 (by simp only [List.mem_cons, List.not_mem_nil, or_false]; rintro x rfl; exact hHl) (fun x hx hm => by simp only [List.mem_cons, List.not_mem_nil, or_false] at hm; subst hm; exact hsl2.ne.1 hx) (fun x hx => by simp only [List.mem_cons, List.not_mem_nil, or_false] at hx; subst hx; exact Or.inl (hn.1.but (But.of_below (S := []) hb1) hHl (by simp)))
        obtain ⟨w2, hw2⟩ : ∃ w2, w2 = w1.setCell ⟨H, kk, none⟩ (.pointer a1) := ⟨_, rfl⟩
        rw [← hw2] at kk2 kw2 hbt2 hc2 ⊢
        clear hw2 cu1 cv1 f1 k1 kw1
        have hX2 : X.heap.size ≤ w2.heap.size := Nat.le_trans hs1 hbt2.size
        refine (clone2 hc2 hX2 hsl2.bd (by omega)).mono ?_
        rintro e w3 ⟨u', bs', rfl, hb3, hp3, hbs3⟩
        obtain ⟨_, b1, rfl⟩ := hp3.ptr
        have kk3 := kk2.below hb3 kk2.lt
        have kw3 := kw2.below hb3 kw2.lt
        have f3 := kw3.frozen kk
        have cu3 : w3.cell? ⟨Wb, kk, none⟩ = some s.u := by rw [kw3.cell kk, List.getElem?_map, HS.out]; rfl
        have kk4 := kk3.far (p := ⟨Wb, kk, none⟩) hhw (.pointer b1)
        have kw4 := kw3.set_ kk (.pointer b1)
        have hbt4 : But [Wb] w3 (w3.setCell ⟨Wb, kk, none⟩ (.pointer b1)) := (But.refl _ _).setCell (by simp) _
        have hnw3 : NB w3 Wb := NB.blk kw3 (by decide)
        have hp4 := hp3.butT hbt4 (fun x hx hm => by simp only [List.mem_cons, List.not_mem_nil, or_false] at hm; subst hm; have := hbs3 _ hx; omega) (fun x hx => by simp only [List.mem_cons, List.not_mem_nil, or_false] at hx; subst hx; exact Or.inl hnw3)
        have hbX4 : But [H, Wb] X (w3.setCell ⟨Wb, kk, none⟩ (.pointer b1)) := (((But.of_below hb1).trans (hbt2.mono (by simp +contextual))).trans (But.of_below hb3)).trans (hbt4.mono (by simp +contextual))
        have hT4 := hTX.put hbX4 kk4 kw4 hp4 hsl2.bd (Nat.le_refl _) hbs3
        have hb4 : Below w.heap.size w (w3.setCell ⟨Wb, kk, none⟩ (.pointer b1)) := hbX0.trans (hbX4.below hbX0.size (by simp only [List.mem_cons, List.not_mem_nil, or_false]; rintro x (rfl | rfl); exact hlo.1; exact hlo.2))
        clear kk3 kw3 kk4 kw4 hbt4 hp4 hbX4 hp3 hbs3 hb3 kk2 kw2 hbt2 hc2 hc1 hb1 hTX hokX hsl2 HS2 kX tn hn
        have hT5 := Lib.hid hT4.more
        clear hT4
        go_wp2
        go_roundw
        case rel => exact ⟨i + 1, _, by omega, by go_num, hT5.out, hb4⟩
        case measure => simp [intOf]; omega
      · have hten' : (o.kind == 10) = false := beq_eq_false_iff_ne.2 hten
        clear cv cu
        have cv : ∀ w', S13 w' wo.heap.size H Wb o (L.map Slot.v) (L.map Slot.u) → w'.cell? ⟨H, kk, none⟩ = some s.v := fun w' h => by rw [h.b.cell kk, List.getElem?_map, HS.out]; rfl
        have cu : ∀ w', S13 w' wo.heap.size H Wb o (L.map Slot.v) (L.map Slot.u) → w'.cell? ⟨Wb, kk, none⟩ = some s.u := fun w' h => by rw [h.c.cell kk, List.getElem?_map, HS.out]; rfl
        have e0 : ∀ w', S13 w' wo.heap.size H Wb o (L.map Slot.v) (L.map Slot.u) → w'.cell? ⟨wo.heap.size, 0, none⟩ = some (.int .i64 o.kind) := fun w' h => h.a.cell 0
        have e1 : ∀ w', S13 w' wo.heap.size H Wb o (L.map Slot.v) (L.map Slot.u) → w'.cell? ⟨wo.heap.size, 1, none⟩ = some (.int .i64 o.on) := fun w' h => h.a.cell 1
        have e2 : ∀ w', S13 w' wo.heap.size H Wb o (L.map Slot.v) (L.map Slot.u) → w'.cell? ⟨wo.heap.size, 2, none⟩ = some (.int .i64 o.n) := fun w' h => h.a.cell 2
        have e3 : ∀ w', S13 w' wo.heap.size H Wb o (L.map Slot.v) (L.map Slot.u) → w'.cell? ⟨wo.heap.size, 3, none⟩ = some (.string (nmS o.a)) := fun w' h => h.a.cell 3
        have e4 : ∀ w', S13 w' wo.heap.size H Wb o (L.map Slot.v) (L.map Slot.u) → w'.cell? ⟨wo.heap.size, 4, none⟩ = some (.string (nmS o.b)) := fun w' h => h.a.cell 4
        have e5 : ∀ w', S13 w' wo.heap.size H Wb o (L.map Slot.v) (L.map Slot.u) → w'.cell? ⟨wo.heap.size, 5, none⟩ = some (.slice o.A o.data.length o.c) := fun w' h => h.a.cell 5
        have e6 : ∀ w', S13 w' wo.heap.size H Wb o (L.map Slot.v) (L.map Slot.u) → w'.cell? ⟨wo.heap.size, 6, none⟩ = some (.slice o.Ak o.keep.length o.ck) := fun w' h => h.a.cell 6
        have hS0 : S13 X.drew wo.heap.size H Wb o (L.map Slot.v) (L.map Slot.u) := ⟨kX.drew, hTX.have_.drew, hTX.want.drew⟩
        have hT0 : Below X.heap.size X X.drew := (Below.refl _ _).drew
        clear hten
        go_upto_region 13 with fail
        refine wp_region_N (fun w' => S13 w' wo.heap.size H Wb o (L.map Slot.v) (L.map Slot.u)) 100 (by kernel_rfl) ?_
        apply wpAnyN_takeL 0 (by kernel_rfl) rfl (fun _ _ _ h => h) (by kernel_rfl) hS0
        · intro w' hS'
          go_simp; exact ⟨rfl, rfl⟩
        (try simp only [Act.put]); (try simp only [List.setIfInBounds_toArray]); (try simp only [List.set])
        apply wpAnyN_takeL 1 (by kernel_rfl) rfl (fun _ _ _ h => h) (by kernel_rfl) hS0
        · intro w' hS'
          go_simp; exact ⟨rfl, rfl⟩
        (try simp only [Act.put]); (try simp only [List.setIfInBounds_toArray]); (try simp only [List.set])
        apply wpAnyN_takeL 2 (by kernel_rfl) rfl (fun _ _ _ h => h) (by kernel_rfl) hS0
        · intro w' hS'
          go_simp; exact ⟨rfl, rfl⟩
        (try simp only [Act.put]); (try simp only [List.setIfInBounds_toArray]); (try simp only [List.set])
        apply wpAnyN_takeL 3 (by kernel_rfl) rfl (fun _ _ _ h => h) (by kernel_rfl) hS0
        · intro w' hS'
          go_simp; exact ⟨rfl, rfl⟩
        (try simp only [Act.put]); (try simp only [List.setIfInBounds_toArray]); (try simp only [List.set])
        apply wpAnyN_takeL 4 (by kernel_rfl) rfl (fun _ _ _ h => h) (by kernel_rfl) hS0
        · intro w' hS'
          go_simp; exact ⟨rfl, rfl⟩
        (try simp only [Act.put]); (try simp only [List.setIfInBounds_toArray]); (try simp only [List.set])
        apply wpAnyN_takeL 5 (by kernel_rfl) rfl (fun _ _ _ h => h) (by kernel_rfl) hS0
        · intro w' hS'
          go_simp; exact ⟨rfl, rfl⟩
        (try simp only [Act.put]); (try simp only [List.setIfInBounds_toArray]); (try simp only [List.set])
        apply wpAnyN_takeL 6 (by kernel_rfl) rfl (fun _ _ _ h => h) (by kernel_rfl) hS0
        · intro w' hS'
          go_simp; exact ⟨rfl, rfl⟩
        (try simp only [Act.put]); (try simp only [List.setIfInBounds_toArray]); (try simp only [List.set])
        refine wpAnyN_runL 7 (by kernel_rfl) rfl (by kernel_rfl) (fun K hK => ?_)
        go_simp
        have hTd := hTX.below hT0
        have hsd := hTd.all s (List.mem_of_getElem? HS.out)
        have hb0d := hbX0.trans (hT0.mono hbX0.size)
        refine (vRight hsd.pair hsd.bd (by omega) (hokX.below (hT0.mono hbX0.size)) hsd.lo hb0d.size).mono ?_
        rintro e w2 ⟨rfl, bs', p', hp', hbd', hbs', hbut⟩
        have hb2 : Below w.heap.size w w2 := hb0d.trans (hbut.below hb0d.size hsd.lo)
        obtain ⟨L', hT2⟩ := hTd.step HS.out hbut hp' hbd' (Or.inr rfl) hbs'
        have hS1 : S13 w2 wo.heap.size H Wb o (L.map Slot.v) (L.map Slot.u) := ⟨hS0.a.but hbut hBx, hS0.b.but hbut hsd.ne.1, hS0.c.but hbut hsd.ne.2⟩
        refine hK _ _ (fun _ => hS1) ?_
        clear hK K
        (try simp only [Act.put]); (try simp only [List.setIfInBounds_toArray]); (try simp only [List.set])
        apply wpAnyN_takeL 8 (by kernel_rfl) rfl (fun _ _ _ h => h) (by kernel_rfl) hS1
        · intro w' hS'
          go_simp; exact ⟨rfl, rfl⟩
        (try simp only [Act.put]); (try simp only [List.setIfInBounds_toArray]); (try simp only [List.set])
        refine wpAnyN_done (by kernel_rfl) ?_ _
        clear e0 e1 e2 e3 e4 e5 e6 cv cu hTd hsd hS0 hS1 hTX kX hsl HS hbX0 hokX y0
        go_wp2
        go_roundw
        case rel => exact ⟨i + 1, L', by omega, by go_num, hT2, hb2⟩
        case measure => simp [intOf]; omega
    · obtain rfl : i = ps.length := by omega
      go_wp2_with fail
      go_loopw [8] (fun i wr => ∃ (k : Nat) (L : List Slot), k ≤ 3 ∧ i = .int .i64 k ∧ Trip wr w.heap.size H Wb ps.length L ∧ Below w.heap.size w wr) (fun i _ => 3 - (intOf i).toNat)
      case atStart => exact ⟨0, _, by omega, rfl, hT, hb⟩
      case round =>
        clear hT hb
        obtain ⟨kk, L, hi, rfl, hT, hb⟩ := hrel
        obtain ⟨wo, rfl⟩ : ∃ wo : World, wo = wr := ⟨_, rfl⟩
        have hlen := hT.len
        by_cases hk3' : (kk : Int) < 3
        · obtain ⟨s, hs⟩ : ∃ s, L[kk]? = some s := ⟨_, List.getElem?_eq_getElem (by omega)⟩
          have hsl := hT.all s (List.mem_of_getElem? hs)
          have cv : ∀ w', Below wo.heap.size wo w' → w'.cell? ⟨H, kk, none⟩ = some s.v := fun w' h => by rw [(hT.have_.below h hT.have_.lt).cell kk, List.getElem?_map, hs]; rfl
          have cu : ∀ w', Below wo.heap.size wo w' → w'.cell? ⟨Wb, kk, none⟩ = some s.u := fun w' h => by rw [(hT.want.below h hT.want.lt).cell kk, List.getElem?_map, hs]; rfl
          have HS := Lib.hid hs
          clear hs
          have hk30 : (0 : Int) ≤ (kk : Int) := by omega
          have hS0 : Below wo.heap.size wo wo.drew := (Below.refl _ _).drew
          have wq : IntKind.i64.wrap ((kk : Int) + 1) = (kk : Int) + 1 := IntWalk.i64_in _ ⟨by omega, by omega⟩
          clear wq
          go_upto_region 18 with fail
          refine wp_region_N (fun w' => Below wo.heap.size wo w') 100 (by kernel_rfl) ?_
          apply wpAnyN_takeL 0 (by kernel_rfl) rfl (fun _ _ _ h => h) (by kernel_rfl) hS0
          · intro w' hS'
            go_simp; exact ⟨rfl, rfl⟩
          (try simp only [Act.put]); (try simp only [List.setIfInBounds_toArray]); (try simp only [List.set])
          apply wpAnyN_takeL 1 (by kernel_rfl) rfl (fun _ _ _ h => h) (by kernel_rfl) hS0
          · intro w' hS'
            go_simp; exact ⟨rfl, rfl⟩
          (try simp only [Act.put]); (try simp only [List.setIfInBounds_toArray]); (try simp only [List.set])
          apply wpAnyN_takeL 2 (by kernel_rfl) rfl (fun _ _ _ h => h) (by kernel_rfl) hS0
          · intro w' hS'
            go_simp; exact ⟨rfl, rfl⟩
          (try simp only [Act.put]); (try simp only [List.setIfInBounds_toArray]); (try simp only [List.set])
          apply wpAnyN_takeL 3 (by kernel_rfl) rfl (fun _ _ _ h => h) (by kernel_rfl) hS0
          · intro w' hS'
            go_simp; exact ⟨rfl, rfl⟩
          (try simp only [Act.put]); (try simp only [List.setIfInBounds_toArray]); (try simp only [List.set])
          apply wpAnyN_takeL 4 (by kernel_rfl) rfl (fun _ _ _ h => h) (by kernel_rfl) hS0
          · intro w' hS'
            go_simp; exact ⟨rfl, rfl⟩
          (try simp only [Act.put]); (try simp only [List.setIfInBounds_toArray]); (try simp only [List.set])
          apply wpAnyN_takeL 5 (by kernel_rfl) rfl (fun _ _ _ h => h) (by kernel_rfl) hS0
          · intro w' hS'
            go_simp; exact ⟨rfl, rfl⟩
          (try simp only [Act.put]); (try simp only [List.setIfInBounds_toArray]); (try simp only [List.set])
          refine wpAnyN_runL 6 (by kernel_rfl) rfl (by kernel_rfl) (fun K hK => ?_)
          go_simp
          refine (vAll (hsl.pair.below hS0) hsl.bd (by omega)).mono ?_
          rintro e w1 ⟨rfl, hb1⟩
          have hS1 : Below wo.heap.size wo w1 := hS0.trans hb1
          refine hK _ _ (fun _ => hS1) ?_
          clear hK K
          (try simp only [Act.put]); (try simp only [List.setIfInBounds_toArray]); (try simp only [List.set])
          apply wpAnyN_takeL 7 (by kernel_rfl) rfl (fun _ _ _ h => h) (by kernel_rfl) hS1
          · intro w' hS'
            go_simp; exact ⟨rfl, rfl⟩
          (try simp only [Act.put]); (try simp only [List.setIfInBounds_toArray]); (try simp only [List.set])
          refine wpAnyN_done (by kernel_rfl) ?_ _
          have hb01 := hb.trans (hS1.mono hb.size)
          have hT1 := hT.below hS1
          have hsl1 := hT1.all s (List.mem_of_getElem? HS.out)
          have cv1 := cv w1 hS1
          clear hS0 hb1 hT hb hsl cu cv hS1
          go_wp2_with fail
          refine (restart1 hsl1.pair hsl1.bd (by omega)).mono ?_
          rintro e w2 ⟨rfl, hb2, hr2⟩
          have hb12 := hb01.trans (hb2.below hb01.size hsl1.lo)
          have cu2 : w2.cell? ⟨Wb, kk, none⟩ = some s.u := by rw [(hT1.want.but hb2 hsl1.ne.2).cell kk, List.getElem?_map, HS.out]; rfl
          clear cv1
          go_wp2_with fail
          refine (restart2 hr2 hsl1.bd (by omega)).mono ?_
          rintro e w3 ⟨rfl, hb3, p', hp3, hbd3⟩
          have hb03 := hb12.trans (hb3.below hb12.size hsl1.lo)
          obtain ⟨L', hT3⟩ := hT1.step HS.out (hb2.trans hb3) hp3 hbd3 (Or.inl rfl) (fun k hk => Or.inl hk)
          clear hT1 hsl1 cu2 hr2 hp3 hbd3 hb2 hb3 hb12 hb01 HS hlen
          have hlen := hT3.len
          obtain ⟨s, hs⟩ : ∃ s, L'[kk]? = some s := ⟨_, List.getElem?_eq_getElem (by omega)⟩
          have hsl := hT3.all s (List.mem_of_getElem? hs)
          have cv : ∀ w', Below w3.heap.size w3 w' → w'.cell? ⟨H, kk, none⟩ = some s.v := fun w' h => by rw [(hT3.have_.below h hT3.have_.lt).cell kk, List.getElem?_map, hs]; rfl
          have cu : ∀ w', Below w3.heap.size w3 w' → w'.cell? ⟨Wb, kk, none⟩ = some s.u := fun w' h => by rw [(hT3.want.below h hT3.want.lt).cell kk, List.getElem?_map, hs]; rfl
          clear hs
          have hS0 : Below w3.heap.size w3 w3.drew := (Below.refl _ _).drew
          go_upto_region 22 with fail
          refine wp_region_N (fun w' => Below w3.heap.size w3 w') 100 (by kernel_rfl) ?_
          apply wpAnyN_takeL 0 (by kernel_rfl) rfl (fun _ _ _ h => h) (by kernel_rfl) hS0
          · intro w' hS'
            go_simp; exact ⟨rfl, rfl⟩
          (try simp only [Act.put]); (try simp only [List.setIfInBounds_toArray]); (try simp only [List.set])
          apply wpAnyN_takeL 1 (by kernel_rfl) rfl (fun _ _ _ h => h) (by kernel_rfl) hS0
          · intro w' hS'
            go_simp; exact ⟨rfl, rfl⟩
          (try simp only [Act.put]); (try simp only [List.setIfInBounds_toArray]); (try simp only [List.set])
          apply wpAnyN_takeL 2 (by kernel_rfl) rfl (fun _ _ _ h => h) (by kernel_rfl) hS0
          · intro w' hS'
            go_simp; exact ⟨rfl, rfl⟩
          (try simp only [Act.put]); (try simp only [List.setIfInBounds_toArray]); (try simp only [List.set])
          apply wpAnyN_takeL 3 (by kernel_rfl) rfl (fun _ _ _ h => h) (by kernel_rfl) hS0
          · intro w' hS'
            go_simp; exact ⟨rfl, rfl⟩
          (try simp only [Act.put]); (try simp only [List.setIfInBounds_toArray]); (try simp only [List.set])
          apply wpAnyN_takeL 4 (by kernel_rfl) rfl (fun _ _ _ h => h) (by kernel_rfl) hS0
          · intro w' hS'
            go_simp; exact ⟨rfl, rfl⟩
          (try simp only [Act.put]); (try simp only [List.setIfInBounds_toArray]); (try simp only [List.set])
          apply wpAnyN_takeL 5 (by kernel_rfl) rfl (fun _ _ _ h => h) (by kernel_rfl) hS0
          · intro w' hS'
            go_simp; exact ⟨rfl, rfl⟩
          (try simp only [Act.put]); (try simp only [List.setIfInBounds_toArray]); (try simp only [List.set])
          refine wpAnyN_runL 6 (by kernel_rfl) rfl (by kernel_rfl) (fun K hK => ?_)
          go_simp
          refine (vAll (hsl.pair.below hS0) hsl.bd (by omega)).mono ?_
          rintro e w4 ⟨rfl, hb4⟩
          have hS1 : Below w3.heap.size w3 w4 := hS0.trans hb4
          refine hK _ _ (fun _ => hS1) ?_
          clear hK K
          (try simp only [Act.put]); (try simp only [List.setIfInBounds_toArray]); (try simp only [List.set])
          apply wpAnyN_takeL 7 (by kernel_rfl) rfl (fun _ _ _ h => h) (by kernel_rfl) hS1
          · intro w' hS'
            go_simp; exact ⟨rfl, rfl⟩
          (try simp only [Act.put]); (try simp only [List.setIfInBounds_toArray]); (try simp only [List.set])
          refine wpAnyN_done (by kernel_rfl) ?_ _
          have hT4 := hT3.below hS1
          have hb04 := hb03.trans (hS1.mono hb03.size)
          clear hS0 hb4 hT3 hb03 hsl cu cv hS1
          go_wp2
          go_roundw
          case rel => exact ⟨kk + 1, L', by omega, by go_num, hT4, hb04⟩
          case measure => simp [intOf]; omega
        · go_wp2
          go_ret
          exact ⟨rfl, hb⟩
end Go.Proofs.Ytmddgimadlmacaa
