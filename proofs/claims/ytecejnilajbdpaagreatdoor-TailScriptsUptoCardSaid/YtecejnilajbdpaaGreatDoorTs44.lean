import Derived.Test.YtecejnilajbdpaaGreatDoorTs43
namespace Garner
open Go
structure TailP where
 ws : List RecP
 over : Bool
def takeN (n : Int) (m : Nat) : Nat := min n.toNat m
def TailP.take (t : TailP) (n : Int) : TailP × List RecP × Bool :=
 (⟨t.ws.drop (takeN n t.ws.length), t.over⟩, t.ws.take (takeN n t.ws.length), t.over && decide ((t.ws.drop (takeN n t.ws.length)).length = 0))
end Garner
namespace Go.Proofs.YtecejnilajbdpaaGreatDoor
open Go.RowKit Go.Shelf Garner
structure RecD where
 r : RecP
 A : Option Addr
 c : Nat
def RecD.cells (d : RecD) : List Value := [.int .i64 d.r.time, .int .u64 d.r.seq, .slice d.A d.r.labels.length d.c, strB d.r.line]
theorem RecD.cells_len (d : RecD) : d.cells.length = 4 := rfl
theorem rec_one (l : List RecD) : ∀ u ∈ l.flatMap RecD.cells, u.oneCell' = true := by
 intro u hu
 obtain ⟨f, -, h⟩ := List.mem_flatMap.1 hu
 simp [RecD.cells, strB] at h
 rcases h with rfl | rfl | rfl | rfl <;> rfl
theorem lab_one (l : List (Bs × Bs)) : ∀ u ∈ l.flatMap labCells, u.oneCell' = true := by
 intro u hu
 obtain ⟨f, -, h⟩ := List.mem_flatMap.1 hu
 simp [labCells, strB] at h
 rcases h with rfl | rfl <;> rfl
def LabOwn (B : Nat) (w : World) (d : RecD) : Prop := w.ownsRow B 43 2 (.slice d.A d.r.labels.length d.c) d.r.labels.length (d.r.labels.flatMap labCells)
abbrev TT : List TypeId := [75, 38]
structure TailIs (B : Nat) (w : World) (g : Nat) (q : QueryP) (ds : List RecD) (ov : Bool) (f : Nat) (V : Value) : Prop where
 blk : Blk w g 75 [.pointer (some ⟨f, 0, none⟩), V, .bool ov]
 fil : FilAt B w f q
 row : w.ownsRow B 38 4 V ds.length (ds.flatMap RecD.cells)
 lab : ∀ d ∈ ds, LabOwn B w d
 ms : q.ms.length ≤ 16
 fs : q.fs.length ≤ 16
 low : B ≤ g
def tailS (g : Nat) (V : Value) : List Nat := g :: V.ownBlock.toList
section
variable {B : Nat} {w w' : World} {g f : Nat} {q : QueryP} {ds : List RecD} {ov : Bool} {V : Value}
theorem FilAt.keepTT (h : FilAt B w g q) (hk : KeepM TT w w') : FilAt B w' g q := by
 obtain ⟨v1, v2, P, Q, pv, h1, h2⟩ := h
 exact ⟨v1, v2, P, Q, pv, h1.keepT hk (by decide) (by decide) (by decide) (by decide) (by decide) (by decide) (by decide) (by decide), h2⟩
theorem TailIs.other {S : List Nat} (h : TailIs B w g q ds ov f V) (hb : But S w w') (hk : KeepM TT w w') (hS : ∀ k ∈ tailS g V, k ∉ S) : TailIs B w' g q ds ov f V :=
 ⟨h.blk.but hb (hS _ (by simp [tailS])), h.fil.keepTT hk, own_but h.row hb fun k hk' => hS k (by simp [tailS, hk']), fun d hd => hk.own (h.lab d hd) (by decide), h.ms, h.fs, h.low⟩
theorem TailIs.below (h : TailIs B w g q ds ov f V) (hb : Below w.heap.size w w') : TailIs B w' g q ds ov f V := h.other (S := []) (.of_below hb) (.of_below hb) (by simp)
theorem TailIs.lt (h : TailIs B w g q ds ov f V) : ∀ k ∈ tailS g V, B ≤ k ∧ k < w.heap.size := fun k hk => by
 rcases List.mem_cons.1 hk with rfl | hk
 ·exact ⟨h.low, h.blk.lt⟩
 ·exact h.row.lt k (Option.mem_toList.1 hk)
end
def TNewO (ck : Nat) (q : QueryP) (w : World) (e : Ending) (w' : World) : Prop := Below w.heap.size w w' ∧ ((ck = 0 ∧ ∃ g f, e = .returned (.tuple #[.pointer (some ⟨g, 0, none⟩), .int .i64 0]) ∧ TailIs w.heap.size w' g q [] false f (.slice none 0 0)) ∨ (ck ≠ 0 ∧ e = .returned (.tuple #[.pointer none, .int .i64 (ck : Nat)])))
set_option maxRecDepth 100000 in
set_option maxHeartbeats 8000000 in
theorem vTNew (q : QueryP) (MA FA : Option Addr) (nm nf cm cf : Nat) (w : World) (hL : Lt w) (hq : QueryAt w MA nm FA nf q) (hnm : nm ≤ 140737488355328) (hnf : nf ≤ 140737488355328) :
  Calls Tryz.prog 12 #[.agg #[.slice MA nm cm, .slice FA nf cf]] w fun e w' => TNewO (checkQ q) q w e w' := by
 obtain ⟨X, hX⟩ : ∃ X, X = w.alloc (.cells #[.slice MA nm cm, .slice FA nf cf] 25) := ⟨_, rfl⟩
 have hwX : Below w.heap.size w X := by rw [hX]; exact (Below.refl _ _).alloc (Nat.le_refl _) _
 have bX : Blk X w.heap.size 25 [.slice MA nm cm, .slice FA nf cf] := by rw [hX]; exact Blk.new w _ _
 have x0 : X.cell? ⟨w.heap.size, 0, none⟩ = some (.slice MA nm cm) := bX.cell 0
 have x1 : X.cell? ⟨w.heap.size, 1, none⟩ = some (.slice FA nf cf) := bX.cell 1
 have hn := vQNew q MA FA nm nf cm cf X (hL.below hwX) (hq.below hwX) hnm hnf
 have hz := @check_zero q
 rw [hq.nm_, hq.nf_] at hz
 obtain ⟨CK, hCK⟩ : ∃ CK, checkQ q = CK := ⟨_, rfl⟩
 rw [hCK] at hn hz ⊢
 have HwX := Lib.hid hwX; have HN := Lib.hid hn; have HZ := Lib.hid hz; have Hnm := Lib.hid hq.nm_; have Hnf := Lib.hid hq.nf_
 clear hq hwX bX hL hn hCK hz
 go_enter Tryz.func12, Tryz.ntmps12
 go_upto_region 1 with fail
 rw [← hX]
 clear hX
 go_wp2_with fail
 refine HN.out.mono ?_
 rintro e w1 ⟨hb1, ⟨rfl, f, v1, v2, P, Q, pv, rfl, hf, hl⟩ | ⟨h0, rfl⟩⟩
 ·obtain ⟨h16, -, -, -, -⟩ := HZ.out rfl
  obtain ⟨Y, hY⟩ : ∃ Y, Y = w1.alloc (.cells #[.pointer (some ⟨f, 0, none⟩), .slice none 0 0, .bool false] 75) := ⟨_, rfl⟩
  have bY : Below w1.heap.size w1 Y := by rw [hY]; exact (Below.refl _ _).alloc (Nat.le_refl _) _
  have kY : Blk Y w1.heap.size 75 [.pointer (some ⟨f, 0, none⟩), .slice none 0 0, .bool false] := by rw [hY]; exact Blk.new w1 _ _
  have hs := HwX.out.size
  have hw1 := HwX.out.trans (hb1.mono hs)
  have hfa : FilAt w.heap.size Y f q := by
   have hfY := hf.below bY
   exact ⟨v1, v2, P, Q, pv, ⟨hfY.blk, own_mono hfY.ms hs, own_mono hfY.fs hs, own_mono hfY.ps hs, own_mono hfY.qs hs, hfY.dis, hfY.pat, Nat.le_trans hs hfY.low⟩, hl⟩
  have hti : TailIs w.heap.size Y w1.heap.size q [] false f (.slice none 0 0) := ⟨kY, hfa, World.ownsRow_nil _ _ _ _, (by simp), (by rw [Hnm.out]; omega), (by rw [Hnf.out]; omega), hw1.size⟩
  have HT := Lib.hid hti; have HW := Lib.hid (hw1.trans (bY.mono hw1.size))
  clear hti hfa hw1 hs kY bY hf hb1 x0 x1
  go_upto_region 4 with fail
  go_wp2
  rw [← hY]
  go_ret2
  exact ⟨HW.out, .inl ⟨rfl, _, f, rfl, HT.out⟩⟩
 ·have z0 : ¬ (CK : Int) = 0 := by omega
  have HW := Lib.hid (HwX.out.trans (hb1.mono HwX.out.size)); have H0 := Lib.hid h0
  clear hb1 h0
  go_wp2
  go_ret2
  exact ⟨HW.out, .inr ⟨H0.out, rfl⟩⟩
set_option maxRecDepth 100000 in
theorem vWaiting (B g : Nat) (q : QueryP) (ds : List RecD) (ov : Bool) (f : Nat) (V : Value) (w : World) (h : TailIs B w g q ds ov f V) :
  Calls Tryz.prog 19 #[.pointer (some ⟨g, 0, none⟩)] w fun e w' => e = .returned (.int .i64 ds.length) ∧ w' = w := by
 obtain ⟨A, c, rfl, -⟩ := own_form h.row
 have c1 : w.cell? ⟨g, 1, none⟩ = some (.slice A ds.length c) := h.blk.cell 1
 obtain ⟨n, hn⟩ : ∃ n, ds.length = n := ⟨_, rfl⟩
 rw [hn] at c1 ⊢
 clear h hn
 go_enter Tryz.func19, Tryz.ntmps19
 go_wp2
 go_ret
 exact ⟨rfl, rfl⟩
set_option maxRecDepth 100000 in
theorem vOver (B g : Nat) (q : QueryP) (ds : List RecD) (ov : Bool) (f : Nat) (V : Value) (w : World) (h : TailIs B w g q ds ov f V) :
  Calls Tryz.prog 21 #[.pointer (some ⟨g, 0, none⟩)] w fun e w' => e = .returned (.bool ov) ∧ w' = w := by
 have c2 : w.cell? ⟨g, 2, none⟩ = some (.bool ov) := h.blk.cell 2
 clear h
 go_enter Tryz.func21, Tryz.ntmps21
 go_wp2
 go_ret
 exact ⟨rfl, rfl⟩
end Go.Proofs.YtecejnilajbdpaaGreatDoor
namespace Garner
open Go
theorem takeN_le (n : Int) (m : Nat) : takeN n m ≤ m := Nat.min_le_right _ _
theorem takeN_int (n : Int) (m : Nat) : min (max n 0) (m : Int) = (takeN n m : Nat) := by unfold takeN; omega
end Garner
namespace Go.Proofs.YtecejnilajbdpaaGreatDoor
open Go.RowKit Go.Shelf Garner
theorem rec_len (ds : List RecD) : (ds.flatMap RecD.cells).length = ds.length * 4 := by
 induction ds with
 | nil => rfl
 | cons d r ih => rw [List.flatMap_cons, List.length_append, ih, RecD.cells_len, List.length_cons]; omega
theorem rec_sub {w : World} {B n b off lo k : Nat} {ds : List RecD} (h : Row w B 4 (some ⟨b, off, none⟩) n (ds.flatMap RecD.cells)) (hn : ds.length = n) (hk : lo + k ≤ n) : Row w B 4 (some ⟨b, off + lo * 4, none⟩) k (((ds.drop lo).take k).flatMap RecD.cells) := by
 refine ⟨by rw [rec_len, List.length_take, List.length_drop]; congr 1; omega, fun h0 => ?_⟩
 obtain ⟨b', off', e, hb, hc⟩ := h.2 (by omega)
 cases e
 refine ⟨b, off + lo * 4, rfl, hb, fun j u hu => ?_⟩
 rw [Nat.add_assoc]
 refine hc (lo * 4 + j) u ?_
 have hd : ds.flatMap RecD.cells = (ds.take lo).flatMap RecD.cells ++ (((ds.drop lo).take k).flatMap RecD.cells ++ ((ds.drop lo).drop k).flatMap RecD.cells) := by
  rw [← List.flatMap_append, ← List.flatMap_append, List.take_append_drop, List.take_append_drop]
 have hl : ((ds.take lo).flatMap RecD.cells).length = lo * 4 := by rw [rec_len, List.length_take]; congr 1; omega
 rw [hd, List.getElem?_append_right (by omega), hl, Nat.add_sub_cancel_left, List.getElem?_append_left (List.getElem?_eq_some_iff.1 hu).1]
 exact hu
def TakeO (K : Nat) (B g : Nat) (q : QueryP) (ds : List RecD) (ov : Bool) (f : Nat) (w : World) (e : Ending) (w' : World) : Prop :=
 ∃ L V', e = .returned (.tuple #[L, .bool (ov && decide (ds.length - K = 0))]) ∧ w'.ownsRow w.heap.size 38 4 L K ((ds.take K).flatMap RecD.cells) ∧ TailIs B w' g q (ds.drop K) ov f V' ∧ But [g] w w' ∧ KeepM TT w w' ∧ (∀ k, V'.ownBlock = some k → w.heap.size ≤ k) ∧ ∀ k, L.ownBlock = some k → k ∉ tailS g V'
theorem take_fin {K B g : Nat} {q : QueryP} {ds : List RecD} {ov : Bool} {f : Nat} {V L V' : Value} {w w3 w4 : World} (h : TailIs B w g q ds ov f V) (hB : B ≤ w.heap.size) (o3 : w3.ownsRow w.heap.size 38 4 L K ((ds.take K).flatMap RecD.cells)) (b3 : Below w.heap.size w w3) (o4 : w4.ownsRow w3.heap.size 38 4 V' (ds.length - K) ((ds.drop K).flatMap RecD.cells)) (b4 : Below w3.heap.size w3 w4) : TakeO K B g q ds ov f w (.returned (.tuple #[L, .bool (ov && decide (ds.length - K = 0))])) (w4.setCell ⟨g, 1, none⟩ V') := by
 have hb := b3.trans (b4.mono b3.size)
 have h4 := h.below hb
 have k4 : KeepM [75] w4 (w4.setCell ⟨g, 1, none⟩ V') := KeepM.setCell (.refl _ w4) (p := ⟨g, 1, none⟩) (show w4.heap[g]? = _ from h4.blk) (by simp) _
 have kk : KeepM TT w (w4.setCell ⟨g, 1, none⟩ V') := (KeepM.of_below hb).trans (k4.sub (by simp))
 refine ⟨L, V', rfl, k4.own (own_below o3 b4) (by decide), ⟨h4.blk.set_ 1 V', h.fil.keepTT kk, ?_, fun d hd => kk.own (h.lab d (List.mem_of_mem_drop hd)) (by decide), h.ms, h.fs, h.low⟩, (But.of_below hb).trans ((But.refl _ _).setCell (by simp) _), kk, fun k hk => Nat.le_trans b3.size (o4.lt k hk).1, fun k hk hm => ?_⟩
 ·rw [List.length_drop]; exact k4.own (own_mono o4 (Nat.le_trans hB b3.size)) (by decide)
 ·have h1 := o3.lt k hk
  rcases List.mem_cons.1 hm with rfl | hm
  ·have := h.blk.lt; omega
  ·have := (o4.lt k (Option.mem_toList.1 hm)).1; omega
theorem TakeO.dn {K B g : Nat} {q : QueryP} {ds : List RecD} {ov : Bool} {f : Nat} {w w' w2 : World} {e : Ending} (h : TakeO K B g q ds ov f w e w') (hb : Below w'.heap.size w' w2) : TakeO K B g q ds ov f w e w2 := by
 obtain ⟨L, V', h1, h2, h3, h4, h5, h6, h7⟩ := h
 exact ⟨L, V', h1, own_below h2 hb, h3.below hb, h4.trans (.of_below hb), h5.trans (.of_below hb), h6, h7⟩
set_option maxRecDepth 100000 in
set_option maxHeartbeats 16000000 in
theorem vTTake (n : Int) (B g : Nat) (q : QueryP) (ds : List RecD) (ov : Bool) (f : Nat) (V : Value) (w : World) (h : TailIs B w g q ds ov f V) (hB : B ≤ w.heap.size) (h8 : ds.length ≤ 8) :
  Calls Tryz.prog 16 #[.pointer (some ⟨g, 0, none⟩), .int .i64 n] w fun e w' => TakeO (takeN n ds.length) B g q ds ov f w e w' := by
 obtain ⟨m, hm⟩ : ∃ m, ds.length = m := ⟨_, rfl⟩
 have hfin := fun (L V' : Value) (w3 w4 : World) => @take_fin (takeN n m) B g q ds ov f V L V' w w3 w4 h hB
 have hmn := takeN_int n m
 have hkm := takeN_le n m
 have hrow := h.row
 have kb := h.blk
 rw [hm] at hfin hrow h8 ⊢
 obtain ⟨K, hK⟩ : ∃ K, takeN n m = K := ⟨_, rfl⟩
 rw [hK] at hmn hkm hfin ⊢
 have HFin := Lib.hid hfin; have KB := Lib.hid kb
 rcases hrow.2 with ⟨rfl, h0⟩ | ⟨b, cap, cur, rfl, hb, hh, hnc, -⟩
 ·subst h0
  obtain rfl : K = 0 := by omega
  obtain rfl : ds = [] := List.eq_nil_of_length_eq_zero hm
  have hr0 : Row w w.heap.size 4 none 0 (([] : List RecD).flatMap RecD.cells) := Row.none_
  have hmn0 : min (max n 0) (0 : Int) = 0 := by omega
  clear hrow
  have HC1 := Lib.hid (vCloneRec 0 _ _ 0 _ w hr0 (rec_one _) (Nat.le_refl _) (by omega))
  have c1 : w.cell? ⟨g, 1, none⟩ = some (.slice none 0 0) := kb.cell 1
  have HR2 := Lib.hid hr0
  clear kb hfin h hK
  go_enter Tryz.func16, Tryz.ntmps16
  go_upto_region 4 with fail
  clear hmn
  go_wp2_with fail
  refine HC1.out.mono ?_
  rintro e w3 ⟨L, rfl, o3, b3⟩
  obtain ⟨A3, c3, rfl, -⟩ := own_form o3
  have y1 : w3.cell? ⟨g, 1, none⟩ = some (.slice none 0 0) := (KB.out.below b3 KB.out.lt).cell 1
  have HC2 := Lib.hid (vCloneRec 0 _ _ 0 _ w3 (HR2.out.below b3) (rec_one _) b3.size (by omega))
  have KB3 := Lib.hid (KB.out.below b3 KB.out.lt); have O3 := Lib.hid o3; have B3 := Lib.hid b3
  clear o3 b3 c1 HC1 HR2
  go_wp2_with fail
  refine HC2.out.mono ?_
  rintro e w4 ⟨V', rfl, o4, b4⟩
  obtain ⟨A4, c4, rfl, -⟩ := own_form o4
  have KB4 := Lib.hid (KB3.out.below b4 KB3.out.lt)
  have z1 : w4.cell? ⟨g, 1, none⟩ = some (.slice none 0 0) := KB4.out.cell 1
  have f1 : w4.frozen? ⟨g, 1, none⟩ = false := KB4.out.frozen 1
  have hft := HFin.out (.slice A3 0 c3) (.slice A4 0 c4) w3 w4 O3.out B3.out o4 b4
  have HFt := Lib.hid hft
  obtain ⟨Z, hZ⟩ : ∃ Z, Z = w4.setCell ⟨g, 1, none⟩ (.slice A4 0 c4) := ⟨_, rfl⟩
  have kZ : Blk Z g 75 [.pointer (some ⟨f, 0, none⟩), .slice A4 0 c4, .bool ov] := by rw [hZ]; exact KB4.out.set_ 1 _
  have HZ := Lib.hid hZ
  have q1 : Z.cell? ⟨g, 1, none⟩ = some (.slice A4 0 c4) := kZ.cell 1
  have q2 : Z.cell? ⟨g, 2, none⟩ = some (.bool ov) := kZ.cell 2
  clear o4 b4 HFin KB KB3 KB4 O3 B3 y1 kZ HC2 hft
  go_upto_region 6 with fail
  rw [← hZ]
  clear hZ z1 f1
  rw [← HZ.out] at HFt
  cases ov with
  | false =>
   go_quiet (fail)
   go_wp2
   go_ret2
   exact HFt.out.dn (below_dn (Below.refl _ _) _)
  | true =>
   go_quiet (fail)
   go_wp2
   go_ret2
   exact HFt.out.dn (below_dn (Below.refl _ _) _)
 ·have hr := Row.of_own hrow
  have hr1 := rec_sub (lo := 0) (k := K) hr hm (by omega)
  have hr2 := rec_sub (lo := K) (k := m - K) hr hm (by omega)
  rw [List.drop_zero] at hr1
  rw [Nat.zero_add, List.take_of_length_le (by rw [List.length_drop, hm]; exact Nat.le_refl _)] at hr2
  clear hr hrow hh
  by_cases hck : cap = K
  ·subst hck
   obtain rfl : m = cap := by omega
   have hr3 : Row w w.heap.size 4 (some ⟨b, 0, none⟩) (m - m) ((ds.drop m).flatMap RecD.cells) := ⟨hr2.1, fun h0 => absurd h0 (by omega)⟩
   rw [Nat.sub_self] at hr3 hfin
   clear hr2 HFin
   have HFin := Lib.hid hfin
   have HC1 := Lib.hid (vCloneRec m _ _ m _ w hr1 (rec_one _) (Nat.le_refl _) (by omega))
   have c1 : w.cell? ⟨g, 1, none⟩ = some (.slice (some ⟨b, 0, none⟩) m m) := kb.cell 1
   have HR2 := Lib.hid hr3
   clear kb hfin h hK
   go_enter Tryz.func16, Tryz.ntmps16
   go_upto_region 4 with fail
   clear hmn
   go_wp2_with fail
   refine HC1.out.mono ?_
   rintro e w3 ⟨L, rfl, o3, b3⟩
   obtain ⟨A3, c3, rfl, -⟩ := own_form o3
   have y1 : w3.cell? ⟨g, 1, none⟩ = some (.slice (some ⟨b, 0, none⟩) m m) := (KB.out.below b3 KB.out.lt).cell 1
   have HC2 := Lib.hid (vCloneRec 0 _ _ 0 _ w3 (HR2.out.below b3) (rec_one _) b3.size (by omega))
   have KB3 := Lib.hid (KB.out.below b3 KB.out.lt); have O3 := Lib.hid o3; have B3 := Lib.hid b3
   clear o3 b3 c1 HC1 HR2
   go_wp2_with fail
   refine HC2.out.mono ?_
   rintro e w4 ⟨V', rfl, o4, b4⟩
   obtain ⟨A4, c4, rfl, -⟩ := own_form o4
   have KB4 := Lib.hid (KB3.out.below b4 KB3.out.lt)
   have z1 : w4.cell? ⟨g, 1, none⟩ = some (.slice (some ⟨b, 0, none⟩) m m) := KB4.out.cell 1
   have f1 : w4.frozen? ⟨g, 1, none⟩ = false := KB4.out.frozen 1
   have hft := HFin.out (.slice A3 m c3) (.slice A4 0 c4) w3 w4 O3.out B3.out o4 b4
   have HFt := Lib.hid hft
   obtain ⟨Z, hZ⟩ : ∃ Z, Z = w4.setCell ⟨g, 1, none⟩ (.slice A4 0 c4) := ⟨_, rfl⟩
   have kZ : Blk Z g 75 [.pointer (some ⟨f, 0, none⟩), .slice A4 0 c4, .bool ov] := by rw [hZ]; exact KB4.out.set_ 1 _
   have HZ := Lib.hid hZ
   have q1 : Z.cell? ⟨g, 1, none⟩ = some (.slice A4 0 c4) := kZ.cell 1
   have q2 : Z.cell? ⟨g, 2, none⟩ = some (.bool ov) := kZ.cell 2
   clear o4 b4 HFin KB KB3 KB4 O3 B3 y1 kZ HC2 hft
   go_upto_region 6 with fail
   rw [← hZ]
   clear hZ z1 f1
   rw [← HZ.out] at HFt
   cases ov with
   | false =>
    go_quiet (fail)
    go_wp2
    go_ret2
    exact HFt.out.dn (below_dn (Below.refl _ _) _)
   | true =>
    go_quiet (fail)
    go_wp2
    go_ret2
    exact HFt.out.dn (below_dn (Below.refl _ _) _)
  ·have hck2 := Lib.hid hck
   have HC1 := Lib.hid (vCloneRec K _ _ cap _ w hr1 (rec_one _) (Nat.le_refl _) (by omega))
   have c1 : w.cell? ⟨g, 1, none⟩ = some (.slice (some ⟨b, 0, none⟩) m cap) := kb.cell 1
   have HR2 := Lib.hid hr2
   clear kb hfin h hK
   go_enter Tryz.func16, Tryz.ntmps16
   go_upto_region 4 with fail
   clear hmn
   go_wp2_with fail
   refine HC1.out.mono ?_
   rintro e w3 ⟨L, rfl, o3, b3⟩
   obtain ⟨A3, c3, rfl, -⟩ := own_form o3
   have y1 : w3.cell? ⟨g, 1, none⟩ = some (.slice (some ⟨b, 0, none⟩) m cap) := (KB.out.below b3 KB.out.lt).cell 1
   have HC2 := Lib.hid (vCloneRec (m - K) _ _ (cap - K) _ w3 (HR2.out.below b3) (rec_one _) b3.size (by omega))
   have KB3 := Lib.hid (KB.out.below b3 KB.out.lt); have O3 := Lib.hid o3; have B3 := Lib.hid b3
   clear o3 b3 c1 HC1 HR2
   go_wp2_with fail
   refine HC2.out.mono ?_
   rintro e w4 ⟨V', rfl, o4, b4⟩
   obtain ⟨A4, c4, rfl, -⟩ := own_form o4
   have KB4 := Lib.hid (KB3.out.below b4 KB3.out.lt)
   have z1 : w4.cell? ⟨g, 1, none⟩ = some (.slice (some ⟨b, 0, none⟩) m cap) := KB4.out.cell 1
   have f1 : w4.frozen? ⟨g, 1, none⟩ = false := KB4.out.frozen 1
   have hft := HFin.out (.slice A3 K c3) (.slice A4 (m - K) c4) w3 w4 O3.out B3.out o4 b4
   have HFt := Lib.hid hft
   obtain ⟨Z, hZ⟩ : ∃ Z, Z = w4.setCell ⟨g, 1, none⟩ (.slice A4 (m - K) c4) := ⟨_, rfl⟩
   have kZ : Blk Z g 75 [.pointer (some ⟨f, 0, none⟩), .slice A4 (m - K) c4, .bool ov] := by rw [hZ]; exact KB4.out.set_ 1 _
   have HZ := Lib.hid hZ
   have q1 : Z.cell? ⟨g, 1, none⟩ = some (.slice A4 (m - K) c4) := kZ.cell 1
   have q2 : Z.cell? ⟨g, 2, none⟩ = some (.bool ov) := kZ.cell 2
   clear o4 b4 HFin KB KB3 KB4 O3 B3 y1 kZ HC2 hft
   go_upto_region 6 with fail
   rw [← hZ]
   clear hZ z1 f1
   obtain ⟨M, hM⟩ : ∃ M, (m - K) = M := ⟨_, rfl⟩
   rw [hM] at q1 HFt HZ ⊢
   clear hM
   rw [← HZ.out] at HFt
   by_cases hM0 : M = 0
   ·subst hM0
    cases ov with
    | false =>
     go_quiet (fail)
     go_wp2
     go_ret2
     exact HFt.out.dn (below_dn (Below.refl _ _) _)
    | true =>
     go_quiet (fail)
     go_wp2
     go_ret2
     exact HFt.out.dn (below_dn (Below.refl _ _) _)
   ·have z9 : ¬ (M : Int) = 0 := by omega
    have z8 : ((M : Int) == 0) = false := beq_eq_false_iff_ne.2 z9
    rw [decide_eq_false hM0] at HFt
    cases ov with
    | false =>
     go_quiet (fail)
     go_wp2
     go_ret2
     exact HFt.out.dn (below_dn (Below.refl _ _) _)
    | true =>
     go_quiet (fail)
     go_wp2
     go_ret2
     exact HFt.out.dn (below_dn (Below.refl _ _) _)
def OfferO (B g : Nat) (q : QueryP) (ds : List RecD) (ov : Bool) (f : Nat) (V : Value) (r : RecP) (w : World) (e : Ending) (w' : World) : Prop :=
 ∃ b ds' ov' V', e = .returned (.bool b) ∧ TailIs B w' g q ds' ov' f V' ∧ But (tailS g V) w w' ∧ KeepM TT w w' ∧ (∀ k ∈ tailS g V', k ∈ tailS g V ∨ w.heap.size ≤ k) ∧
  (((ov = true ∨ holdsQ q r = false) ∧ b = false ∧ ds' = ds ∧ ov' = ov) ∨ (ov = false ∧ holdsQ q r = true ∧ ds.length = 8 ∧ b = false ∧ ds' = ds ∧ ov' = true) ∨ (ov = false ∧ holdsQ q r = true ∧ ds.length ≠ 8 ∧ b = true ∧ (∃ d : RecD, d.r = r ∧ ds' = ds ++ [d] ∧ LabOwn w.heap.size w' d) ∧ ov' = false))
section
variable {B g : Nat} {q : QueryP} {ds : List RecD} {ov : Bool} {f : Nat} {V : Value} {r : RecP} {w w' : World}
theorem offer_no (h : TailIs B w g q ds ov f V) (hb : Below w.heap.size w w') (hn : ov = true ∨ holdsQ q r = false) : OfferO B g q ds ov f V r w (.returned (.bool false)) w' :=
 ⟨false, ds, ov, V, rfl, h.below hb, .of_below hb, .of_below hb, fun _ hk => .inl hk, .inl ⟨hn, rfl, rfl, rfl⟩⟩
theorem offer_full (h : TailIs B w g q ds false f V) (hb : Below w.heap.size w w') (hh : holdsQ q r = true) (h8 : ds.length = 8) : OfferO B g q ds false f V r w (.returned (.bool false)) (w'.setCell ⟨g, 2, none⟩ (.bool true)) := by
 have h4 := h.below hb
 have k4 : KeepM [75] w' (w'.setCell ⟨g, 2, none⟩ (.bool true)) := KeepM.setCell (.refl _ w') (p := ⟨g, 2, none⟩) (show w'.heap[g]? = _ from h4.blk) (by simp) _
 have kk : KeepM TT w (w'.setCell ⟨g, 2, none⟩ (.bool true)) := (KeepM.of_below hb).trans (k4.sub (by simp))
 exact ⟨false, ds, true, V, rfl, ⟨h4.blk.set_ 2 (.bool true), h.fil.keepTT kk, k4.own h4.row (by decide), fun d hd => kk.own (h.lab d hd) (by decide), h.ms, h.fs, h.low⟩, (But.of_below hb).trans ((But.refl _ _).setCell (by simp [tailS]) _), kk, fun _ hk => .inl hk, .inr (.inl ⟨rfl, hh, h8, rfl, rfl, rfl⟩)⟩
theorem offer_app {Z W : World} {V' : Value} {d : RecD} (h : TailIs B w g q ds false f V) (hB : B ≤ w.heap.size) (hb : Below w.heap.size w Z) (hh : holdsQ q d.r = true) (h8 : ds.length ≠ 8) (hd : LabOwn w.heap.size Z d) (hg : Z.grownBy W V.ownBlock) (ho : W.ownsRow B 38 4 V' (ds.length + 1) (ds.flatMap RecD.cells ++ d.cells)) (hx : V'.ownBlock = V.ownBlock ∨ V'.ownBlock = some Z.heap.size) : OfferO B g q ds false f V d.r w (.returned (.bool true)) (W.setCell ⟨g, 1, none⟩ V') := by
 have h4 := h.below hb
 have k1 : KeepM TT Z W := .grownO h4.row (by simp) hg
 have n1 : some g ≠ V.ownBlock := fun e => own_blk h4.row h4.blk (by decide) (by rw [← e]; simp)
 have b1 := h4.blk.grown hg n1
 have k2 : KeepM [75] W (W.setCell ⟨g, 1, none⟩ V') := KeepM.setCell (.refl _ W) (p := ⟨g, 1, none⟩) (show W.heap[g]? = _ from b1) (by simp) _
 have k3 : KeepM TT Z (W.setCell ⟨g, 1, none⟩ V') := k1.trans (k2.sub (by simp))
 have kk : KeepM TT w (W.setCell ⟨g, 1, none⟩ V') := (KeepM.of_below hb).trans k3
 refine ⟨true, ds ++ [d], false, V', rfl, ⟨b1.set_ 1 V', h.fil.keepTT kk, ?_, fun x hx => ?_, h.ms, h.fs, h.low⟩, (But.of_below hb).trans ((But.grown hg fun k hk => by simp [tailS, hk]).setCell (by simp [tailS]) _), kk, fun k hk => ?_, .inr (.inr ⟨rfl, hh, h8, rfl, ⟨d, rfl, rfl, k3.own hd (by decide)⟩, rfl⟩)⟩
 ·rw [List.flatMap_append, List.length_append]
  refine k2.own ?_ (by decide)
  simpa using ho
 ·rcases List.mem_append.1 hx with hx | hx
  ·exact kk.own (h.lab x hx) (by decide)
  ·rw [List.mem_singleton] at hx
   subst hx
   exact own_mono (k3.own hd (by decide)) hB
 ·rcases List.mem_cons.1 hk with rfl | hk
  ·exact .inl (by simp [tailS])
  ·rcases hx with hx | hx
   ·rw [hx] at hk; exact .inl (by simp [tailS] at hk ⊢; exact .inr hk)
   ·rw [hx] at hk
    have : k = Z.heap.size := by simpa using hk
    exact .inr (by rw [this]; exact hb.size)
end
set_option maxRecDepth 100000 in
set_option maxHeartbeats 32000000 in
theorem vOffer (r : RecP) (B g : Nat) (q : QueryP) (ds : List RecD) (ov : Bool) (f : Nat) (V : Value) (LA : Option Addr) (ln lc : Nat) (w : World) (h : TailIs B w g q ds ov f V) (hL : Lt w) (hB : B ≤ w.heap.size) (h8 : ds.length ≤ 8) (hr : Row w w.heap.size 2 LA ln (r.labels.flatMap labCells)) (hln : r.labels.length = ln) (hl2 : ln ≤ 1000000000000) (hline : r.line.length < 4294967281) :
  Calls Tryz.prog 14 #[.pointer (some ⟨g, 0, none⟩), .agg #[.int .i64 r.time, .int .u64 r.seq, .slice LA ln lc, strB r.line]] w fun e w' => OfferO B g q ds ov f V r w e w' := by
 obtain ⟨R, eR, hR⟩ := str_form r.line
 obtain ⟨tv, htv⟩ : ∃ tv, r.time = tv := ⟨_, rfl⟩
 obtain ⟨sv, hsv⟩ : ∃ sv, r.seq = sv := ⟨_, rfl⟩
 obtain ⟨X, hX⟩ : ∃ X, X = w.alloc (.cells #[.int .i64 tv, .int .u64 sv, .slice LA ln lc, .string R] 38) := ⟨_, rfl⟩
 have hwX : Below w.heap.size w X := by rw [hX]; exact (Below.refl _ _).alloc (Nat.le_refl _) _
 have bX : Blk X w.heap.size 38 [.int .i64 tv, .int .u64 sv, .slice LA ln lc, .string R] := by rw [hX]; exact Blk.new w _ _
 obtain ⟨A, c, rfl, -⟩ := own_form h.row
 have kT : Blk X g 75 [.pointer (some ⟨f, 0, none⟩), .slice A ds.length c, .bool ov] := h.blk.below hwX h.blk.lt
 have hno := fun (w' : World) (hb : Below w.heap.size w w') (hn : ov = true ∨ holdsQ q r = false) => @offer_no B g q ds ov f _ r w w' h hb hn
 have hH : Below X.heap.size X X.drew := (Below.refl _ _).drew
 have hwD := hwX.trans (hH.mono hwX.size)
 have hhold := vQHolds q r B f LA ln lc tv sv X.drew (hL.below hwD) (h.fil.below hwD) h.ms h.fs ((hr.below hwD).more hwD.size) hln (by omega) hline
 obtain ⟨HO, hHO⟩ : ∃ HO, holdsQ q r = HO := ⟨_, rfl⟩
 rw [hHO, eR] at hhold
 rw [hHO] at hno
 rw [eR, htv, hsv]
 obtain ⟨n, hn⟩ : ∃ n, ds.length = n := ⟨_, rfl⟩
 have g0 : ∀ w', Below X.heap.size X w' → w'.cell? ⟨g, 0, none⟩ = some (.pointer (some ⟨f, 0, none⟩)) := fun w' hb => (kT.below hb kT.lt).cell 0
 have g2 : ∀ w', Below X.heap.size X w' → w'.cell? ⟨g, 2, none⟩ = some (.bool ov) := fun w' hb => (kT.below hb kT.lt).cell 2
 have x0 : ∀ w', Below X.heap.size X w' → w'.cell? ⟨w.heap.size, 0, none⟩ = some (.int .i64 tv) := fun w' hb => (bX.below hb bX.lt).cell 0
 have x1 : ∀ w', Below X.heap.size X w' → w'.cell? ⟨w.heap.size, 1, none⟩ = some (.int .u64 sv) := fun w' hb => (bX.below hb bX.lt).cell 1
 have x2 : ∀ w', Below X.heap.size X w' → w'.cell? ⟨w.heap.size, 2, none⟩ = some (.slice LA ln lc) := fun w' hb => (bX.below hb bX.lt).cell 2
 have x3 : ∀ w', Below X.heap.size X w' → w'.cell? ⟨w.heap.size, 3, none⟩ = some (.string R) := fun w' hb => (bX.below hb bX.lt).cell 3
 rw [hn] at h kT hno ⊢ h8
 have HT := Lib.hid h; have HwX := Lib.hid hwX; have BX := Lib.hid bX; have KT := Lib.hid kT; have HNo := Lib.hid hno; have HHold := Lib.hid hhold; have HHO := Lib.hid hHO; have Hn := Lib.hid hn; have Hr := Lib.hid hr; have Hln := Lib.hid hln; have HR := Lib.hid hR; have Htv := Lib.hid htv; have Hsv := Lib.hid hsv; have HER := Lib.hid eR
 clear h hwX bX kT hno hhold hHO hn hr hln hR htv hsv hwD hL hline eR
 go_enter Tryz.func14, Tryz.ntmps14
 go_upto_region 1 with fail
 rw [← hX]
 clear hX
 refine rgN (fun w' => Below X.heap.size X w') 100 (by kernel_rfl) ?_
 apply tkL 0 (by kernel_rfl) rfl (fun _ _ _ h => h) (by kernel_rfl) hH
 ·intro w' hS'; go_simp; exact ⟨rfl, rfl⟩
 apply tkL 1 (by kernel_rfl) rfl (fun _ _ _ h => h) (by kernel_rfl) hH
 ·intro w' hS'; go_simp; exact ⟨rfl, rfl⟩
 apply tkL 2 (by kernel_rfl) rfl (fun _ _ _ h => h) (by kernel_rfl) hH
 ·intro w' hS'; go_simp; exact ⟨rfl, rfl⟩
 apply tkL 3 (by kernel_rfl) rfl (fun _ _ _ h => h) (by kernel_rfl) hH
 ·intro w' hS'; go_simp; exact ⟨rfl, rfl⟩
 apply tkL 4 (by kernel_rfl) rfl (fun _ _ _ h => h) (by kernel_rfl) hH
 ·intro w' hS'; go_simp; exact ⟨rfl, rfl⟩
 apply tkL 5 (by kernel_rfl) rfl (fun _ _ _ h => h) (by kernel_rfl) hH
 ·intro w' hS'; go_simp; exact ⟨rfl, rfl⟩
 apply tkL 6 (by kernel_rfl) rfl (fun _ _ _ h => h) (by kernel_rfl) hH
 ·intro w' hS'; go_simp; exact ⟨rfl, rfl⟩
 (try simp only [Act.put]); (try simp only [List.setIfInBounds_toArray]); (try simp only [List.set])
 cases ov with
 | true =>
  apply tkL 7 (by kernel_rfl) rfl (fun _ _ _ h => h) (by kernel_rfl) hH
  ·intro w' hS'; go_simp; exact ⟨rfl, rfl⟩
  apply tkL 8 (by kernel_rfl) rfl (fun _ _ _ h => h) (by kernel_rfl) hH
  ·intro w' hS'; go_simp; exact ⟨rfl, rfl⟩
  refine skL 9 (by kernel_rfl) rfl (fun _ _ _ h => h) (by kernel_rfl) hH ?_
  refine skL 10 (by kernel_rfl) rfl (fun _ _ _ h => h) (by kernel_rfl) hH ?_
  refine skL 11 (by kernel_rfl) rfl (fun _ _ _ h => h) (by kernel_rfl) hH ?_
  refine skL 12 (by kernel_rfl) rfl (fun _ _ _ h => h) (by kernel_rfl) hH ?_
  refine skL 13 (by kernel_rfl) rfl (fun _ _ _ h => h) (by kernel_rfl) hH ?_
  refine skL 14 (by kernel_rfl) rfl (fun _ _ _ h => h) (by kernel_rfl) hH ?_
  refine skL 15 (by kernel_rfl) rfl (fun _ _ _ h => h) (by kernel_rfl) hH ?_
  apply tkL 16 (by kernel_rfl) rfl (fun _ _ _ h => h) (by kernel_rfl) hH
  ·intro w' hS'; go_simp; exact ⟨rfl, rfl⟩
  (try simp only [Act.put]); (try simp only [List.setIfInBounds_toArray]); (try simp only [List.set])
  refine dnL (by kernel_rfl) ?_ _
  go_wp2
  go_ret
  exact HNo.out _ (HwX.out.trans (hH.mono HwX.out.size)) (by simp)
 | false =>
  apply tkL 7 (by kernel_rfl) rfl (fun _ _ _ h => h) (by kernel_rfl) hH
  ·intro w' hS'; go_simp; exact ⟨rfl, rfl⟩
  apply tkL 8 (by kernel_rfl) rfl (fun _ _ _ h => h) (by kernel_rfl) hH
  ·intro w' hS'; go_simp; exact ⟨rfl, rfl⟩
  apply tkL 9 (by kernel_rfl) rfl (fun _ _ _ h => h) (by kernel_rfl) hH
  ·intro w' hS'; go_simp; exact ⟨rfl, rfl⟩
  apply tkL 10 (by kernel_rfl) rfl (fun _ _ _ h => h) (by kernel_rfl) hH
  ·intro w' hS'; go_simp; exact ⟨rfl, rfl⟩
  apply tkL 11 (by kernel_rfl) rfl (fun _ _ _ h => h) (by kernel_rfl) hH
  ·intro w' hS'; go_simp; exact ⟨rfl, rfl⟩
  apply tkL 12 (by kernel_rfl) rfl (fun _ _ _ h => h) (by kernel_rfl) hH
  ·intro w' hS'; go_simp; exact ⟨rfl, rfl⟩
  apply tkL 13 (by kernel_rfl) rfl (fun _ _ _ h => h) (by kernel_rfl) hH
  ·intro w' hS'; go_simp; exact ⟨rfl, rfl⟩
  (try simp only [Act.put]); (try simp only [List.setIfInBounds_toArray]); (try simp only [List.set])
  refine rnL 14 (by kernel_rfl) rfl (by kernel_rfl) (fun K hK => ?_)
  go_simp
  refine HHold.out.mono ?_
  rintro e w1 ⟨rfl, hb1⟩
  have hX1 := hH.trans hb1
  refine hK _ _ (fun _ => hX1) ?_
  clear hK K hb1
  (try simp only [Act.put])
  apply tkL 15 (by kernel_rfl) rfl (fun _ _ _ h => h) (by kernel_rfl) hX1
  ·intro w' hS'; go_simp; exact ⟨rfl, rfl⟩
  apply tkL 16 (by kernel_rfl) rfl (fun _ _ _ h => h) (by kernel_rfl) hX1
  ·intro w' hS'; go_simp; exact ⟨rfl, rfl⟩
  (try simp only [Act.put]); (try simp only [List.setIfInBounds_toArray]); (try simp only [List.set])
  refine dnL (by kernel_rfl) ?_ _
  have hw1 := HwX.out.trans (hX1.mono HwX.out.size)
  cases HO with
  | false =>
   have HW := Lib.hid hw1
   clear hX1 hw1
   go_wp2
   go_ret
   exact HNo.out _ HW.out (by simp)
  | true =>
   have k1 := KT.out.below hX1 KT.out.lt
   have bx1 := BX.out.below hX1 BX.out.lt
   have y1 : w1.cell? ⟨g, 1, none⟩ = some (.slice A n c) := k1.cell 1
   have y2 : w1.cell? ⟨g, 2, none⟩ = some (.bool false) := k1.cell 2
   have f2 : w1.frozen? ⟨g, 2, none⟩ = false := k1.frozen 2
   by_cases hn8 : n = 8
   ·subst hn8
    have hfull := offer_full (r := r) HT.out hw1 HHO.out Hn.out
    have HFull := Lib.hid hfull
    clear hfull hw1 hX1 k1 bx1
    go_wp2
    go_ret
    exact HFull.out
   ·have z8 : ¬ (n : Int) = 8 := by omega
    have z9 : ((n : Int) == 8) = false := beq_eq_false_iff_ne.2 z8
    have xl : w1.cell? ⟨w.heap.size, 2, none⟩ = some (.slice LA ln lc) := bx1.cell 2
    have hcl := vCloneLab ln _ LA lc _ w1 (Hr.out.below hw1) (lab_one _) hw1.size hl2
    have HCl := Lib.hid hcl; have HW1 := Lib.hid hw1; have K1 := Lib.hid k1; have BX1 := Lib.hid bx1; have HN8 := Lib.hid hn8
    clear hcl hw1 hX1 k1 bx1 y2 f2 g0 g2 x0 x1 x2 x3
    go_wp2_with fail
    refine HCl.out.mono ?_
    rintro e w2 ⟨v2, rfl, o2, b2⟩
    obtain ⟨A2, c2, rfl, -⟩ := own_form o2
    have bx2 := BX1.out.below b2 BX1.out.lt
    have xl2 : w2.cell? ⟨w.heap.size, 2, none⟩ = some (.slice LA ln lc) := bx2.cell 2
    have fl2 : w2.frozen? ⟨w.heap.size, 2, none⟩ = false := bx2.frozen 2
    obtain ⟨W3, hW3⟩ : ∃ W3, W3 = w2.setCell ⟨w.heap.size, 2, none⟩ (.slice A2 ln c2) := ⟨_, rfl⟩
    have hw2 := HW1.out.trans (b2.mono HW1.out.size)
    have hw3 : Below w.heap.size w W3 := by rw [hW3]; exact hw2.setCell (Nat.le_refl _) _
    have bx3 : Blk W3 w.heap.size 38 [.int .i64 tv, .int .u64 sv, .slice A2 ln c2, .string R] := by rw [hW3]; exact bx2.set_ 2 _
    have k3 := (HT.out.below hw3).blk
    have kr : KeepM [38] w2 W3 := by rw [hW3]; exact KeepM.setCell (.refl _ w2) (p := ⟨w.heap.size, 2, none⟩) (show w2.heap[w.heap.size]? = _ from bx2) (by simp) _
    have o3 := own_mono (kr.own o2 (by decide)) HW1.out.size
    have s0 : Blk W3.drew g 75 [.pointer (some ⟨f, 0, none⟩), .slice A n c, .bool false] ∧ Blk W3.drew w.heap.size 38 [.int .i64 tv, .int .u64 sv, .slice A2 ln c2, .string R] := ⟨k3.drew, bx3.drew⟩
    have HW3 := Lib.hid hw3; have O3 := Lib.hid o3; have HE3 := Lib.hid hW3
    clear o2 b2 bx2 hw2 bx3 k3 kr hw3 o3 HCl BX1 K1 HW1
    go_upto_region 7 with fail
    rw [← hW3]
    clear hW3 xl2 fl2 y1 xl
    refine rgN (fun w' => Blk w' g 75 [.pointer (some ⟨f, 0, none⟩), .slice A n c, .bool false] ∧ Blk w' w.heap.size 38 [.int .i64 tv, .int .u64 sv, .slice A2 ln c2, .string R]) 10 (by kernel_rfl) ?_
    apply tkL 0 (by kernel_rfl) rfl (fun _ _ _ h => h) (by kernel_rfl) s0
    ·intro w' hS'; go_simp; exact ⟨rfl, rfl⟩
    apply tkL 1 (by kernel_rfl) rfl (fun _ _ _ h => h) (by kernel_rfl) s0
    ·intro w' hS'; go_simp; exact ⟨rfl, rfl⟩
    apply tkL 2 (by kernel_rfl) rfl (fun _ _ _ h => h) (by kernel_rfl) s0
    ·intro w' hS'; go_simp; exact ⟨rfl, rfl⟩
    apply tkL 3 (by kernel_rfl) rfl (fun _ _ _ h => h) (by kernel_rfl) s0
    ·intro w' hS'; go_simp; exact ⟨rfl, rfl⟩
    apply tkL 4 (v := (.slice A n c)) (by kernel_rfl) rfl (fun _ _ _ h => h) (by kernel_rfl) s0
    ·intro w' hS'; have k := hS'.1.cell 1; go_simp; exact ⟨rfl, rfl⟩
    apply tkL 5 (v := (.agg #[.int .i64 tv, .int .u64 sv, .slice A2 ln c2, .string R])) (by kernel_rfl) rfl (fun _ _ _ h => h) (by kernel_rfl) s0
    ·intro w' hS'; have k0 := hS'.2.cell 0; have k1 := hS'.2.cell 1; have k2 := hS'.2.cell 2; have k3 := hS'.2.cell 3; go_simp; exact ⟨rfl, rfl⟩
    (try simp only [Act.put]); (try simp only [List.setIfInBounds_toArray]); (try simp only [List.set])
    refine rnL 6 (by kernel_rfl) rfl (by kernel_rfl) (fun K hK => ?_)
    go_simp
    obtain ⟨Z, hZ⟩ : ∃ Z, Z = (W3.alloc (.cells #[.int .i64 tv, .int .u64 sv, .slice A2 ln c2, .string R] 38)).drew := ⟨_, rfl⟩
    rw [← hZ]
    obtain ⟨d, hd⟩ : ∃ d : RecD, d = ⟨r, A2, c2⟩ := ⟨_, rfl⟩
    have hdc : d.cells = [.int .i64 tv, .int .u64 sv, .slice A2 ln c2, .string R] := by rw [hd]; show [Value.int .i64 r.time, Value.int .u64 r.seq, Value.slice A2 r.labels.length c2, strB r.line] = _; rw [Htv.out, Hsv.out, Hln.out, HER.out]
    have b3Z : Below W3.heap.size W3 Z := by rw [hZ]; exact ((Below.refl _ _).alloc (Nat.le_refl _) _).drew
    have s6 : Blk Z g 75 [.pointer (some ⟨f, 0, none⟩), .slice A n c, .bool false] ∧ Blk Z w.heap.size 38 [.int .i64 tv, .int .u64 sv, .slice A2 ln c2, .string R] := by rw [hZ]; exact ⟨(Blk.alloc (w := W3) s0.1 _).drew, (Blk.alloc (w := W3) s0.2 _).drew⟩
    have hwZ := HW3.out.trans (b3Z.mono HW3.out.size)
    have hTZ := HT.out.below hwZ
    have oZ := hTZ.row
    rw [Hn.out] at oZ
    have xrow : Row Z (W3.heap.size + 1) 4 (some ⟨W3.heap.size, 0, none⟩) 1 d.cells := by
     rw [hZ]; have h := row_newN W3 38 4 1 d.cells (by rw [hdc]; rfl); rw [hdc] at h ⊢; exact h
    have hone : ∀ u ∈ d.cells, u.oneCell' = true := by have := rec_one [d]; simpa using this
    have hlZ : B ≤ Z.heap.size := Nat.le_trans hB hwZ.size
    have hlab : LabOwn w.heap.size Z d := by
     have h := own_below O3.out b3Z
     rw [← Hln.out] at h
     unfold LabOwn
     rw [hd]; exact h
    have hdr : d.r = r := by rw [hd]
    have HwZ := Lib.hid hwZ; have HLab := Lib.hid hlab; have HDr := Lib.hid hdr
    clear hZ b3Z s0 hdc hd hwZ hTZ hlab hdr O3
    refine hK _ _ (fun _ => s6) ?_
    clear hK K
    (try simp only [Act.put]); (try simp only [List.setIfInBounds_toArray]); (try simp only [List.set])
    refine rnL 7 (by kernel_rfl) rfl (by kernel_rfl) (fun K hK => ?_)
    refine wp_app Z recE rfl rfl oZ rfl xrow hone (by omega) hlZ ?_
    intro v W own8 hg8 hb8 hx8
    obtain ⟨A8, c8, rfl, -⟩ := own_form own8
    have n1 : some g ≠ (Value.slice A n c).ownBlock := fun e => own_blk oZ s6.1 (by decide) (by rw [← e]; simp)
    have s8 : Blk W g 75 [.pointer (some ⟨f, 0, none⟩), .slice A n c, .bool false] := s6.1.grown hg8 n1
    have hfin := offer_app (d := d) HT.out hB HwZ.out (by rw [HDr.out]; exact HHO.out) (by rw [Hn.out]; exact HN8.out) HLab.out hg8 (by rw [Hn.out]; exact own8) hx8
    rw [HDr.out] at hfin
    have HFin := Lib.hid hfin
    have bx8 : Blk W w.heap.size 38 [.int .i64 tv, .int .u64 sv, .slice A2 ln c2, .string R] := s6.2.grown hg8 fun e => by
     have h1 := HT.out.row.lt _ e.symm
     omega
    have S8 : Blk W g 75 [.pointer (some ⟨f, 0, none⟩), .slice A n c, .bool false] ∧ Blk W w.heap.size 38 [.int .i64 tv, .int .u64 sv, .slice A2 ln c2, .string R] := ⟨s8, bx8⟩
    clear own8 hg8 hb8 hx8 n1 hfin oZ xrow hone hlZ s6 bx8
    refine hK _ _ (fun _ => S8) ?_
    clear hK K
    (try simp only [Act.put]); (try simp only [List.setIfInBounds_toArray]); (try simp only [List.set])
    refine rnL 8 (by kernel_rfl) rfl (by kernel_rfl) (fun K hK => ?_)
    go_simp
    refine hK _ _ (fun _ => S8) ?_
    clear hK K
    (try simp only [Act.put]); (try simp only [List.setIfInBounds_toArray]); (try simp only [List.set])
    refine rnL 9 (by kernel_rfl) rfl (by kernel_rfl) (fun K hK => ?_)
    go_simp
    refine hK _ _ (fun _ => S8) ?_
    clear hK K
    (try simp only [Act.put]); (try simp only [List.setIfInBounds_toArray]); (try simp only [List.set])
    have cb : W.cell? ⟨g, 1, none⟩ = some (.slice A n c) := s8.cell 1
    have fb := s8.frozen 1
    refine rnL 10 (by kernel_rfl) rfl (by kernel_rfl) (fun K hK => ?_)
    go_simp
    refine hK _ _ (fun h => absurd rfl h) ?_
    clear hK K
    (try simp only [Act.put])
    refine dnL (by kernel_rfl) ?_ _
    go_wp2
    go_ret
    exact HFin.out
end Go.Proofs.YtecejnilajbdpaaGreatDoor
