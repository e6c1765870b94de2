import Derived.Test.YtecejnilajbdpaaGreatDoorTt47
/-! tail: a tail in memory; New, Waiting, Over -/
namespace Garner
open Go
/-- a tail: what it asks, who waits, is it over? -/
structure TailP where
  ws : List RecP
  over : Bool
noncomputable def TailP.offer (t : TailP) (q : QueryP) (r : RecP) : TailP × Bool :=
  if t.over || !holdsQ q r then (t, false) else if t.ws.length = 8 then (⟨t.ws, true⟩, false) else (⟨t.ws ++ [r], t.over⟩, true)
def takeN (n : Int) (m : Nat) : Nat := min n.toNat m
def TailP.take (t : TailP) (n : Int) : TailP × List RecP × Bool :=
  (⟨t.ws.drop (takeN n t.ws.length), t.over⟩, t.ws.take (takeN n t.ws.length), t.over && decide ((t.ws.drop (takeN n t.ws.length)).length = 0))
end Garner
namespace Go.Proofs.YtecejnilajbdpaaGreatDoor
open Go.RowKit Go.Shelf Garner
/-- a record, and where its labels lie -/
structure RecD where
  r : RecP
  A : Option Addr
  c : Nat
def RecD.cells (d : RecD) : List Value := [.int .i64 d.r.time, .int .u64 d.r.seq, .slice d.A d.r.labels.length d.c, strB d.r.line]
theorem RecD.cells_len (d : RecD) : d.cells.length = 4 := rfl
theorem rec_one (l : List RecD) : ∀ u ∈ l.flatMap RecD.cells, u.oneCell' = true := by
  intro u hu
  obtain ⟨f, -, h⟩ := List.mem_flatMap.1 hu
  simp [RecD.cells, strB] at h
  rcases h with rfl | rfl | rfl | rfl <;> rfl
theorem lab_one (l : List (Bs × Bs)) : ∀ u ∈ l.flatMap labCells, u.oneCell' = true := by
  intro u hu
  obtain ⟨f, -, h⟩ := List.mem_flatMap.1 hu
  simp [labCells, strB] at h
  rcases h with rfl | rfl <;> rfl
/-- a record's labels in memory of their own -/
def LabOwn (B : Nat) (w : World) (d : RecD) : Prop := w.ownsRow B 43 2 (.slice d.A d.r.labels.length d.c) d.r.labels.length (d.r.labels.flatMap labCells)
abbrev TT : List TypeId := [75, 38]
/-- a tail in memory: its box g, its filter f, the row of who waits -/
structure TailIs (B : Nat) (w : World) (g : Nat) (q : QueryP) (ds : List RecD) (ov : Bool) (f : Nat) (V : Value) : Prop where
  blk : Blk w g 75 [.pointer (some ⟨f, 0, none⟩), V, .bool ov]
  fil : FilAt B w f q
  row : w.ownsRow B 38 4 V ds.length (ds.flatMap RecD.cells)
  lab : ∀ d ∈ ds, LabOwn B w d
  ms : q.ms.length ≤ 16
  fs : q.fs.length ≤ 16
  low : B ≤ g
def tailS (g : Nat) (V : Value) : List Nat := g :: V.ownBlock.toList
section
variable {B : Nat} {w w' : World} {g f : Nat} {q : QueryP} {ds : List RecD} {ov : Bool} {V : Value}
theorem FilAt.keepTT (h : FilAt B w g q) (hk : KeepM TT w w') : FilAt B w' g q := by
  obtain ⟨v1, v2, P, Q, pv, h1, h2⟩ := h
  exact ⟨v1, v2, P, Q, pv, h1.keepT hk (by decide) (by decide) (by decide) (by decide) (by decide) (by decide) (by decide) (by decide), h2⟩
theorem TailIs.other {S : List Nat} (h : TailIs B w g q ds ov f V) (hb : But S w w') (hk : KeepM TT w w') (hS : ∀ k ∈ tailS g V, k ∉ S) : TailIs B w' g q ds ov f V :=
  ⟨h.blk.but hb (hS _ (by simp [tailS])), h.fil.keepTT hk, own_but h.row hb fun k hk' => hS k (by simp [tailS, hk']), fun d hd => hk.own (h.lab d hd) (by decide), h.ms, h.fs, h.low⟩
theorem TailIs.below (h : TailIs B w g q ds ov f V) (hb : Below w.heap.size w w') : TailIs B w' g q ds ov f V := h.other (S := []) (.of_below hb) (.of_below hb) (by simp)
theorem TailIs.lt (h : TailIs B w g q ds ov f V) : ∀ k ∈ tailS g V, B ≤ k ∧ k < w.heap.size := fun k hk => by
  rcases List.mem_cons.1 hk with rfl | hk
  · exact ⟨h.low, h.blk.lt⟩
  · exact h.row.lt k (Option.mem_toList.1 hk)
end
def TNewO (ck : Nat) (q : QueryP) (w : World) (e : Ending) (w' : World) : Prop := Below w.heap.size w w' ∧ ((ck = 0 ∧ ∃ g f, e = .returned (.tuple #[.pointer (some ⟨g, 0, none⟩), .int .i64 0]) ∧ TailIs w.heap.size w' g q [] false f (.slice none 0 0)) ∨ (ck ≠ 0 ∧ e = .returned (.tuple #[.pointer none, .int .i64 (ck : Nat)])))
set_option maxRecDepth 100000 in
set_option maxHeartbeats 8000000 in
theorem vTNew (q : QueryP) (MA FA : Option Addr) (nm nf cm cf : Nat) (w : World) (hL : Lt w) (hq : QueryAt w MA nm FA nf q) (hnm : nm ≤ 140737488355328) (hnf : nf ≤ 140737488355328) :
    Calls Tryz.prog 12 #[.agg #[.slice MA nm cm, .slice FA nf cf]] w fun e w' => TNewO (checkQ q) q w e w' := by
  obtain ⟨X, hX⟩ : ∃ X, X = w.alloc (.cells #[.slice MA nm cm, .slice FA nf cf] 25) := ⟨_, rfl⟩
  have hwX : Below w.heap.size w X := by rw [hX]; exact (Below.refl _ _).alloc (Nat.le_refl _) _
  have bX : Blk X w.heap.size 25 [.slice MA nm cm, .slice FA nf cf] := by rw [hX]; exact Blk.new w _ _
  have x0 : X.cell? ⟨w.heap.size, 0, none⟩ = some (.slice MA nm cm) := bX.cell 0
  have x1 : X.cell? ⟨w.heap.size, 1, none⟩ = some (.slice FA nf cf) := bX.cell 1
  have hn := vQNew q MA FA nm nf cm cf X (hL.below hwX) (hq.below hwX) hnm hnf
  have hz := @check_zero q
  rw [hq.nm_, hq.nf_] at hz
  obtain ⟨CK, hCK⟩ : ∃ CK, checkQ q = CK := ⟨_, rfl⟩
  rw [hCK] at hn hz ⊢
  have HwX := Lib.hid hwX; have HN := Lib.hid hn; have HZ := Lib.hid hz; have Hnm := Lib.hid hq.nm_; have Hnf := Lib.hid hq.nf_
  clear hq hwX bX hL hn hCK hz
  go_enter Tryz.func12, Tryz.ntmps12
  go_upto_region 1 with fail
  rw [← hX]
  clear hX
  go_wp2_with fail
  refine HN.out.mono ?_
  rintro e w1 ⟨hb1, ⟨rfl, f, v1, v2, P, Q, pv, rfl, hf, hl⟩ | ⟨h0, rfl⟩⟩
  · obtain ⟨h16, -, -, -, -⟩ := HZ.out rfl
    obtain ⟨Y, hY⟩ : ∃ Y, Y = w1.alloc (.cells #[.pointer (some ⟨f, 0, none⟩), .slice none 0 0, .bool false] 75) := ⟨_, rfl⟩
    have bY : Below w1.heap.size w1 Y := by rw [hY]; exact (Below.refl _ _).alloc (Nat.le_refl _) _
    have kY : Blk Y w1.heap.size 75 [.pointer (some ⟨f, 0, none⟩), .slice none 0 0, .bool false] := by rw [hY]; exact Blk.new w1 _ _
    have hs := HwX.out.size
    have hw1 := HwX.out.trans (hb1.mono hs)
    have hfa : FilAt w.heap.size Y f q := by
      have hfY := hf.below bY
      exact ⟨v1, v2, P, Q, pv, ⟨hfY.blk, own_mono hfY.ms hs, own_mono hfY.fs hs, own_mono hfY.ps hs, own_mono hfY.qs hs, hfY.dis, hfY.pat, Nat.le_trans hs hfY.low⟩, hl⟩
    have hti : TailIs w.heap.size Y w1.heap.size q [] false f (.slice none 0 0) := ⟨kY, hfa, World.ownsRow_nil _ _ _ _, (by simp), (by rw [Hnm.out]; omega), (by rw [Hnf.out]; omega), hw1.size⟩
    have HT := Lib.hid hti; have HW := Lib.hid (hw1.trans (bY.mono hw1.size))
    clear hti hfa hw1 hs kY bY hf hb1 x0 x1
    go_upto_region 4 with fail
    go_wp2
    rw [← hY]
    go_ret2
    exact ⟨HW.out, .inl ⟨rfl, _, f, rfl, HT.out⟩⟩
  · have z0 : ¬ (CK : Int) = 0 := by omega
    have HW := Lib.hid (HwX.out.trans (hb1.mono HwX.out.size)); have H0 := Lib.hid h0
    clear hb1 h0
    go_wp2
    go_ret2
    exact ⟨HW.out, .inr ⟨H0.out, rfl⟩⟩
set_option maxRecDepth 100000 in
theorem vWaiting (B g : Nat) (q : QueryP) (ds : List RecD) (ov : Bool) (f : Nat) (V : Value) (w : World) (h : TailIs B w g q ds ov f V) :
    Calls Tryz.prog 19 #[.pointer (some ⟨g, 0, none⟩)] w fun e w' => e = .returned (.int .i64 ds.length) ∧ w' = w := by
  obtain ⟨A, c, rfl, -⟩ := own_form h.row
  have c1 : w.cell? ⟨g, 1, none⟩ = some (.slice A ds.length c) := h.blk.cell 1
  obtain ⟨n, hn⟩ : ∃ n, ds.length = n := ⟨_, rfl⟩
  rw [hn] at c1 ⊢
  clear h hn
  go_enter Tryz.func19, Tryz.ntmps19
  go_wp2
  go_ret
  exact ⟨rfl, rfl⟩
set_option maxRecDepth 100000 in
theorem vOver (B g : Nat) (q : QueryP) (ds : List RecD) (ov : Bool) (f : Nat) (V : Value) (w : World) (h : TailIs B w g q ds ov f V) :
    Calls Tryz.prog 21 #[.pointer (some ⟨g, 0, none⟩)] w fun e w' => e = .returned (.bool ov) ∧ w' = w := by
  have c2 : w.cell? ⟨g, 2, none⟩ = some (.bool ov) := h.blk.cell 2
  clear h
  go_enter Tryz.func21, Tryz.ntmps21
  go_wp2
  go_ret
  exact ⟨rfl, rfl⟩
end Go.Proofs.YtecejnilajbdpaaGreatDoor

/-! tail: Take -/
namespace Garner
open Go
theorem takeN_le (n : Int) (m : Nat) : takeN n m ≤ m := Nat.min_le_right _ _
theorem takeN_int (n : Int) (m : Nat) : min (max n 0) (m : Int) = (takeN n m : Nat) := by unfold takeN; omega
end Garner
namespace Go.Proofs.YtecejnilajbdpaaGreatDoor
open Go.RowKit Go.Shelf Garner
theorem rec_len (ds : List RecD) : (ds.flatMap RecD.cells).length = ds.length * 4 := by
  induction ds with
  | nil => rfl
  | cons d r ih => rw [List.flatMap_cons, List.length_append, ih, RecD.cells_len, List.length_cons]; omega
/-- a part of a row of records -/
theorem rec_sub {w : World} {B n b off lo k : Nat} {ds : List RecD} (h : Row w B 4 (some ⟨b, off, none⟩) n (ds.flatMap RecD.cells)) (hn : ds.length = n) (hk : lo + k ≤ n) : Row w B 4 (some ⟨b, off + lo * 4, none⟩) k (((ds.drop lo).take k).flatMap RecD.cells) := by
  refine ⟨by rw [rec_len, List.length_take, List.length_drop]; congr 1; omega, fun h0 => ?_⟩
  obtain ⟨b', off', e, hb, hc⟩ := h.2 (by omega)
  cases e
  refine ⟨b, off + lo * 4, rfl, hb, fun j u hu => ?_⟩
  rw [Nat.add_assoc]
  refine hc (lo * 4 + j) u ?_
  have hd : ds.flatMap RecD.cells = (ds.take lo).flatMap RecD.cells ++ (((ds.drop lo).take k).flatMap RecD.cells ++ ((ds.drop lo).drop k).flatMap RecD.cells) := by
    rw [← List.flatMap_append, ← List.flatMap_append, List.take_append_drop, List.take_append_drop]
  have hl : ((ds.take lo).flatMap RecD.cells).length = lo * 4 := by rw [rec_len, List.length_take]; congr 1; omega
  rw [hd, List.getElem?_append_right (by omega), hl, Nat.add_sub_cancel_left, List.getElem?_append_left (List.getElem?_eq_some_iff.1 hu).1]
  exact hu
def TakeO (K : Nat) (B g : Nat) (q : QueryP) (ds : List RecD) (ov : Bool) (f : Nat) (w : World) (e : Ending) (w' : World) : Prop :=
  ∃ L V', e = .returned (.tuple #[L, .bool (ov && decide (ds.length - K = 0))]) ∧ w'.ownsRow w.heap.size 38 4 L K ((ds.take K).flatMap RecD.cells) ∧ TailIs B w' g q (ds.drop K) ov f V' ∧ But [g] w w' ∧ KeepM TT w w' ∧ (∀ k, V'.ownBlock = some k → w.heap.size ≤ k) ∧ ∀ k, L.ownBlock = some k → k ∉ tailS g V'
theorem take_fin {K B g : Nat} {q : QueryP} {ds : List RecD} {ov : Bool} {f : Nat} {V L V' : Value} {w w3 w4 : World} (h : TailIs B w g q ds ov f V) (hB : B ≤ w.heap.size) (o3 : w3.ownsRow w.heap.size 38 4 L K ((ds.take K).flatMap RecD.cells)) (b3 : Below w.heap.size w w3) (o4 : w4.ownsRow w3.heap.size 38 4 V' (ds.length - K) ((ds.drop K).flatMap RecD.cells)) (b4 : Below w3.heap.size w3 w4) : TakeO K B g q ds ov f w (.returned (.tuple #[L, .bool (ov && decide (ds.length - K = 0))])) (w4.setCell ⟨g, 1, none⟩ V') := by
  have hb := b3.trans (b4.mono b3.size)
  have h4 := h.below hb
  have k4 : KeepM [75] w4 (w4.setCell ⟨g, 1, none⟩ V') := KeepM.setCell (.refl _ w4) (p := ⟨g, 1, none⟩) (show w4.heap[g]? = _ from h4.blk) (by simp) _
  have kk : KeepM TT w (w4.setCell ⟨g, 1, none⟩ V') := (KeepM.of_below hb).trans (k4.sub (by simp))
  refine ⟨L, V', rfl, k4.own (own_below o3 b4) (by decide), ⟨h4.blk.set_ 1 V', h.fil.keepTT kk, ?_, fun d hd => kk.own (h.lab d (List.mem_of_mem_drop hd)) (by decide), h.ms, h.fs, h.low⟩, (But.of_below hb).trans ((But.refl _ _).setCell (by simp) _), kk, fun k hk => Nat.le_trans b3.size (o4.lt k hk).1, fun k hk hm => ?_⟩
  · rw [List.length_drop]; exact k4.own (own_mono o4 (Nat.le_trans hB b3.size)) (by decide)
  · have h1 := o3.lt k hk
    rcases List.mem_cons.1 hm with rfl | hm
    · have := h.blk.lt; omega
    · have := (o4.lt k (Option.mem_toList.1 hm)).1; omega
theorem TakeO.dn {K B g : Nat} {q : QueryP} {ds : List RecD} {ov : Bool} {f : Nat} {w w' w2 : World} {e : Ending} (h : TakeO K B g q ds ov f w e w') (hb : Below w'.heap.size w' w2) : TakeO K B g q ds ov f w e w2 := by
  obtain ⟨L, V', h1, h2, h3, h4, h5, h6, h7⟩ := h
  exact ⟨L, V', h1, own_below h2 hb, h3.below hb, h4.trans (.of_below hb), h5.trans (.of_below hb), h6, h7⟩
set_option maxRecDepth 100000 in
set_option maxHeartbeats 16000000 in
theorem vTTake (n : Int) (B g : Nat) (q : QueryP) (ds : List RecD) (ov : Bool) (f : Nat) (V : Value) (w : World) (h : TailIs B w g q ds ov f V) (hB : B ≤ w.heap.size) (h8 : ds.length ≤ 8) :
    Calls Tryz.prog 16 #[.pointer (some ⟨g, 0, none⟩), .int .i64 n] w fun e w' => TakeO (takeN n ds.length) B g q ds ov f w e w' := by
  obtain ⟨m, hm⟩ : ∃ m, ds.length = m := ⟨_, rfl⟩
  have hfin := fun (L V' : Value) (w3 w4 : World) => @take_fin (takeN n m) B g q ds ov f V L V' w w3 w4 h hB
  have hmn := takeN_int n m
  have hkm := takeN_le n m
  have hrow := h.row
  have kb := h.blk
  rw [hm] at hfin hrow h8 ⊢
  obtain ⟨K, hK⟩ : ∃ K, takeN n m = K := ⟨_, rfl⟩
  rw [hK] at hmn hkm hfin ⊢
  have HFin := Lib.hid hfin; have KB := Lib.hid kb
  rcases hrow.2 with ⟨rfl, h0⟩ | ⟨b, cap, cur, rfl, hb, hh, hnc, -⟩
  · subst h0
    obtain rfl : K = 0 := by omega
    obtain rfl : ds = [] := List.eq_nil_of_length_eq_zero hm
    have hr0 : Row w w.heap.size 4 none 0 (([] : List RecD).flatMap RecD.cells) := Row.none_
    have hmn0 : min (max n 0) (0 : Int) = 0 := by omega
    clear hrow
    have HC1 := Lib.hid (vCloneRec 0 _ _ 0 _ w hr0 (rec_one _) (Nat.le_refl _) (by omega))
    have c1 : w.cell? ⟨g, 1, none⟩ = some (.slice none 0 0) := kb.cell 1
    have HR2 := Lib.hid hr0
    clear kb hfin h hK
    go_enter Tryz.func16, Tryz.ntmps16
    go_upto_region 4 with fail
    clear hmn
    go_wp2_with fail
    refine HC1.out.mono ?_
    rintro e w3 ⟨L, rfl, o3, b3⟩
    obtain ⟨A3, c3, rfl, -⟩ := own_form o3
    have y1 : w3.cell? ⟨g, 1, none⟩ = some (.slice none 0 0) := (KB.out.below b3 KB.out.lt).cell 1
    have HC2 := Lib.hid (vCloneRec 0 _ _ 0 _ w3 (HR2.out.below b3) (rec_one _) b3.size (by omega))
    have KB3 := Lib.hid (KB.out.below b3 KB.out.lt); have O3 := Lib.hid o3; have B3 := Lib.hid b3
    clear o3 b3 c1 HC1 HR2
    go_wp2_with fail
    refine HC2.out.mono ?_
    rintro e w4 ⟨V', rfl, o4, b4⟩
    obtain ⟨A4, c4, rfl, -⟩ := own_form o4
    have KB4 := Lib.hid (KB3.out.below b4 KB3.out.lt)
    have z1 : w4.cell? ⟨g, 1, none⟩ = some (.slice none 0 0) := KB4.out.cell 1
    have f1 : w4.frozen? ⟨g, 1, none⟩ = false := KB4.out.frozen 1
    have hft := HFin.out (.slice A3 0 c3) (.slice A4 0 c4) w3 w4 O3.out B3.out o4 b4
    have HFt := Lib.hid hft
    obtain ⟨Z, hZ⟩ : ∃ Z, Z = w4.setCell ⟨g, 1, none⟩ (.slice A4 0 c4) := ⟨_, rfl⟩
    have kZ : Blk Z g 75 [.pointer (some ⟨f, 0, none⟩), .slice A4 0 c4, .bool ov] := by rw [hZ]; exact KB4.out.set_ 1 _
    have HZ := Lib.hid hZ
    have q1 : Z.cell? ⟨g, 1, none⟩ = some (.slice A4 0 c4) := kZ.cell 1
    have q2 : Z.cell? ⟨g, 2, none⟩ = some (.bool ov) := kZ.cell 2
    clear o4 b4 HFin KB KB3 KB4 O3 B3 y1 kZ HC2 hft
    go_upto_region 6 with fail
    rw [← hZ]
    clear hZ z1 f1
    rw [← HZ.out] at HFt
    cases ov with
    | false =>
      go_quiet (fail)
      go_wp2
      go_ret2
      exact HFt.out.dn (below_dn (Below.refl _ _) _)
    | true =>
      go_quiet (fail)
      go_wp2
      go_ret2
      exact HFt.out.dn (below_dn (Below.refl _ _) _)
  · have hr := Row.of_own hrow
    have hr1 := rec_sub (lo := 0) (k := K) hr hm (by omega)
    have hr2 := rec_sub (lo := K) (k := m - K) hr hm (by omega)
    rw [List.drop_zero] at hr1
    rw [Nat.zero_add, List.take_of_length_le (by rw [List.length_drop, hm]; exact Nat.le_refl _)] at hr2
    clear hr hrow hh
    by_cases hck : cap = K
    · subst hck
      obtain rfl : m = cap := by omega
      have hr3 : Row w w.heap.size 4 (some ⟨b, 0, none⟩) (m - m) ((ds.drop m).flatMap RecD.cells) := ⟨hr2.1, fun h0 => absurd h0 (by omega)⟩
      rw [Nat.sub_self] at hr3 hfin
      clear hr2 HFin
      have HFin := Lib.hid hfin
      have HC1 := Lib.hid (vCloneRec m _ _ m _ w hr1 (rec_one _) (Nat.le_refl _) (by omega))
      have c1 : w.cell? ⟨g, 1, none⟩ = some (.slice (some ⟨b, 0, none⟩) m m) := kb.cell 1
      have HR2 := Lib.hid hr3
      clear kb hfin h hK
      go_enter Tryz.func16, Tryz.ntmps16
      go_upto_region 4 with fail
      clear hmn
      go_wp2_with fail
      refine HC1.out.mono ?_
      rintro e w3 ⟨L, rfl, o3, b3⟩
      obtain ⟨A3, c3, rfl, -⟩ := own_form o3
      have y1 : w3.cell? ⟨g, 1, none⟩ = some (.slice (some ⟨b, 0, none⟩) m m) := (KB.out.below b3 KB.out.lt).cell 1
      have HC2 := Lib.hid (vCloneRec 0 _ _ 0 _ w3 (HR2.out.below b3) (rec_one _) b3.size (by omega))
      have KB3 := Lib.hid (KB.out.below b3 KB.out.lt); have O3 := Lib.hid o3; have B3 := Lib.hid b3
      clear o3 b3 c1 HC1 HR2
      go_wp2_with fail
      refine HC2.out.mono ?_
      rintro e w4 ⟨V', rfl, o4, b4⟩
      obtain ⟨A4, c4, rfl, -⟩ := own_form o4
      have KB4 := Lib.hid (KB3.out.below b4 KB3.out.lt)
      have z1 : w4.cell? ⟨g, 1, none⟩ = some (.slice (some ⟨b, 0, none⟩) m m) := KB4.out.cell 1
      have f1 : w4.frozen? ⟨g, 1, none⟩ = false := KB4.out.frozen 1
      have hft := HFin.out (.slice A3 m c3) (.slice A4 0 c4) w3 w4 O3.out B3.out o4 b4
      have HFt := Lib.hid hft
      obtain ⟨Z, hZ⟩ : ∃ Z, Z = w4.setCell ⟨g, 1, none⟩ (.slice A4 0 c4) := ⟨_, rfl⟩
      have kZ : Blk Z g 75 [.pointer (some ⟨f, 0, none⟩), .slice A4 0 c4, .bool ov] := by rw [hZ]; exact KB4.out.set_ 1 _
      have HZ := Lib.hid hZ
      have q1 : Z.cell? ⟨g, 1, none⟩ = some (.slice A4 0 c4) := kZ.cell 1
      have q2 : Z.cell? ⟨g, 2, none⟩ = some (.bool ov) := kZ.cell 2
      clear o4 b4 HFin KB KB3 KB4 O3 B3 y1 kZ HC2 hft
      go_upto_region 6 with fail
      rw [← hZ]
      clear hZ z1 f1
      rw [← HZ.out] at HFt
      cases ov with
      | false =>
        go_quiet (fail)
        go_wp2
        go_ret2
        exact HFt.out.dn (below_dn (Below.refl _ _) _)
      | true =>
        go_quiet (fail)
        go_wp2
        go_ret2
        exact HFt.out.dn (below_dn (Below.refl _ _) _)
    · have hck2 := Lib.hid hck
      have HC1 := Lib.hid (vCloneRec K _ _ cap _ w hr1 (rec_one _) (Nat.le_refl _) (by omega))
      have c1 : w.cell? ⟨g, 1, none⟩ = some (.slice (some ⟨b, 0, none⟩) m cap) := kb.cell 1
      have HR2 := Lib.hid hr2
      clear kb hfin h hK
      go_enter Tryz.func16, Tryz.ntmps16
      go_upto_region 4 with fail
      clear hmn
      go_wp2_with fail
      refine HC1.out.mono ?_
      rintro e w3 ⟨L, rfl, o3, b3⟩
      obtain ⟨A3, c3, rfl, -⟩ := own_form o3
      have y1 : w3.cell? ⟨g, 1, none⟩ = some (.slice (some ⟨b, 0, none⟩) m cap) := (KB.out.below b3 KB.out.lt).cell 1
      have HC2 := Lib.hid (vCloneRec (m - K) _ _ (cap - K) _ w3 (HR2.out.below b3) (rec_one _) b3.size (by omega))
      have KB3 := Lib.hid (KB.out.below b3 KB.out.lt); have O3 := Lib.hid o3; have B3 := Lib.hid b3
      clear o3 b3 c1 HC1 HR2
      go_wp2_with fail
      refine HC2.out.mono ?_
      rintro e w4 ⟨V', rfl, o4, b4⟩
      obtain ⟨A4, c4, rfl, -⟩ := own_form o4
      have KB4 := Lib.hid (KB3.out.below b4 KB3.out.lt)
      have z1 : w4.cell? ⟨g, 1, none⟩ = some (.slice (some ⟨b, 0, none⟩) m cap) := KB4.out.cell 1
      have f1 : w4.frozen? ⟨g, 1, none⟩ = false := KB4.out.frozen 1
      have hft := HFin.out (.slice A3 K c3) (.slice A4 (m - K) c4) w3 w4 O3.out B3.out o4 b4
      have HFt := Lib.hid hft
      obtain ⟨Z, hZ⟩ : ∃ Z, Z = w4.setCell ⟨g, 1, none⟩ (.slice A4 (m - K) c4) := ⟨_, rfl⟩
      have kZ : Blk Z g 75 [.pointer (some ⟨f, 0, none⟩), .slice A4 (m - K) c4, .bool ov] := by rw [hZ]; exact KB4.out.set_ 1 _
      have HZ := Lib.hid hZ
      have q1 : Z.cell? ⟨g, 1, none⟩ = some (.slice A4 (m - K) c4) := kZ.cell 1
      have q2 : Z.cell? ⟨g, 2, none⟩ = some (.bool ov) := kZ.cell 2
      clear o4 b4 HFin KB KB3 KB4 O3 B3 y1 kZ HC2 hft
      go_upto_region 6 with fail
      rw [← hZ]
      clear hZ z1 f1
      obtain ⟨M, hM⟩ : ∃ M, (m - K) = M := ⟨_, rfl⟩
      rw [hM] at q1 HFt HZ ⊢
      clear hM
      rw [← HZ.out] at HFt
      by_cases hM0 : M = 0
      · subst hM0
        cases ov with
        | false =>
          go_quiet (fail)
          go_wp2
          go_ret2
          exact HFt.out.dn (below_dn (Below.refl _ _) _)
        | true =>
          go_quiet (fail)
          go_wp2
          go_ret2
          exact HFt.out.dn (below_dn (Below.refl _ _) _)
      · have z9 : ¬ (M : Int) = 0 := by omega
        have z8 : ((M : Int) == 0) = false := beq_eq_false_iff_ne.2 z9
        rw [decide_eq_false hM0] at HFt
        cases ov with
        | false =>
          go_quiet (fail)
          go_wp2
          go_ret2
          exact HFt.out.dn (below_dn (Below.refl _ _) _)
        | true =>
          go_quiet (fail)
          go_wp2
          go_ret2
          exact HFt.out.dn (below_dn (Below.refl _ _) _)
end Go.Proofs.YtecejnilajbdpaaGreatDoor

