import Derived.Sort.OwnSortedInts
import Derived.Test.YtecejnilajbdpaaGreatDoorTz37
set_option maxRecDepth 100000
set_option maxHeartbeats 32000000
namespace Go.Proofs.YtecejnilajbdpaaGreatDoor
open Go.RowKit Go.Shelf Garner
def PlainA (A : Option Addr) (c : Nat) : Prop := (A = none ∧ c = 0) ∨ ∃ b off, A = some ⟨b, off, none⟩
theorem PlainA.of_own {w : World} {B : Nat} {e : TypeId} {sz n c : Nat} {A : Option Addr} {xs : List Value} (h : w.ownsRow B e sz (.slice A n c) n xs) : PlainA A c := by
 rcases h.2 with ⟨e1, -⟩ | ⟨g, cap, cur, e1, -⟩
 ·cases e1; exact .inl ⟨rfl, rfl⟩
 cases e1; exact .inr ⟨_, _, rfl⟩
theorem vSortI (v : Value) (l : List Nat) (B : Nat) (w : World) (hown : w.ownsRow B 3 1 v l.length (l.map iv)) (hl : l.length < 4611686018427387904) :
  Calls Tryz.prog 131 #[v] w fun e w' => e = .returned (.tuple #[]) ∧ ∃ l' : List Nat, l'.Perm l ∧ l'.Pairwise (· ≤ ·) ∧ w'.ownsRow B 3 1 v l.length (l'.map iv) ∧ w.grownBy w' v.ownBlock := by
 rcases hown.2 with ⟨rfl, h0⟩ | ⟨g, cap, cur, rfl, hbase, hb, h1, h2, h3, h4⟩
 ·have hnil := List.eq_nil_of_length_eq_zero h0
  subst hnil
  refine (Tryz.slices_Sort_int_none none 0 w).mono ?_
  rintro e w' ⟨rfl, rfl⟩
  exact ⟨rfl, [], .refl _, .nil, hown, World.grownBy.refl _ _⟩
 obtain ⟨zs, hzs⟩ : ∃ zs : List Int, zs = l.map fun n : Nat => (n : Int) := ⟨_, rfl⟩
 have hzl : zs.length = l.length := by rw [hzs, List.length_map]
 have hzm : zs.map (Value.int .i64) = l.map iv := by rw [hzs, List.map_map]; rfl
 have hH := Go.holds_of_blockI (ss := zs) hb (by rw [hzl, hzm]; simpa using h4)
 have hs := Tryz.slices_Sort_int g 0 cap zs w hH (Array.getElem?_eq_some_iff.1 hb).1 (by omega)
 rw [hzl] at hs
 refine hs.mono ?_
 rintro e w' ⟨rfl, n, os, rfl⟩
 have hp := List.mergeSort_perm zs fun x y => decide (x ≤ y)
 have hpw : (zs.mergeSort fun x y => decide (x ≤ y)).Pairwise fun x y => decide (x ≤ y) = true := List.pairwise_mergeSort (fun a b c h1 h2 => by simp only [decide_eq_true_eq] at *; omega) (fun a b => by simp only [Bool.or_eq_true, decide_eq_true_eq]; omega) zs
 obtain ⟨ts, hts⟩ : ∃ ts, (zs.mergeSort fun x y => decide (x ≤ y)) = ts := ⟨_, rfl⟩
 rw [hts] at hp hpw ⊢
 have htl : ts.length = zs.length := hp.length_eq
 have hmem : ∀ z ∈ ts, ((z.toNat : Nat) : Int) = z := fun z hz => by
  have := hp.mem_iff.1 hz
  rw [hzs] at this
  obtain ⟨m, -, rfl⟩ := List.mem_map.1 this
  omega
 refine ⟨rfl, ts.map Int.toNat, ?_, ?_, ?_, Go.grownBy_sortedI _⟩
 ·have h := hp.map Int.toNat
  have e2 : zs.map Int.toNat = l := by
   rw [hzs, List.map_map]
   conv => rhs; rw [← List.map_id l]
   exact List.map_congr_left fun a _ => by simp
  rw [e2] at h
  exact h
 ·refine List.pairwise_map.2 (hpw.imp fun {a b} h => ?_)
  simp only [decide_eq_true_eq] at h
  omega
 have e3 : (ts.map Int.toNat).map iv = ts.map (Value.int .i64) := by
  rw [List.map_map]
  exact List.map_congr_left fun z hz => by
   show Value.int .i64 ((z.toNat : Nat) : Int) = _
   rw [hmem z hz]
 rw [e3, ← hzl]
 exact Go.ownsRow_sortedI htl hbase hb (by omega) h2 h3
theorem vCloneI (l : List Nat) (A : Option Addr) (n c : Nat) (w : World) (hn : l.length = n) (hA : PlainA A c) (hr : RowT w 3 A n (l.map iv)) (hl : n ≤ 1000000000) :
  Calls Tryz.prog 130 #[.slice A n c] w fun e w' => ∃ v, e = .returned v ∧ w'.ownsRow w.heap.size 3 1 v n (l.map iv) ∧ Below w.heap.size w w' := by
 rcases hA with ⟨rfl, rfl⟩ | ⟨b, off, rfl⟩
 ·have h0 : n = 0 := by
   rcases Nat.eq_zero_or_pos n with h | h
   ·exact h
   obtain ⟨b, off, cs, z, e, -⟩ := hr.2 h; cases e
  subst h0
  obtain rfl := List.eq_nil_of_length_eq_zero hn
  refine (Tryz.slices_Clone_int_nil 0 0 w).mono ?_
  rintro e w' ⟨rfl, rfl⟩
  exact ⟨_, rfl, World.ownsRow_nil _ _ _ _, Below.refl _ _⟩
 obtain ⟨zs, hzs⟩ : ∃ zs : List Int, zs = l.map fun n : Nat => (n : Int) := ⟨_, rfl⟩
 have hzl : zs.length = n := by rw [hzs, List.length_map, hn]
 have hzm : zs.map (Value.int .i64) = l.map iv := by rw [hzs, List.map_map]; rfl
 refine (Tryz.slices_Clone_int b off n c zs w (by omega) (by omega) (fun j hj => ?_)).mono ?_
 ·have hj' : j < l.length := by omega
  obtain ⟨b', off', e, hc⟩ := hr.at_ (k := j) (u := iv l[j]) (by rw [List.getElem?_map, List.getElem?_eq_getElem hj']; rfl)
  cases e
  rw [hc, hzs]
  simp [List.getD, hj', iv]
 rintro e w' ⟨v, rfl, ho, -, hb⟩
 rw [show zs.take n = zs from List.take_of_length_le (by omega), hzm] at ho
 exact ⟨v, rfl, ho, hb⟩
theorem ProgIs.look {W0 : World} {B : Nat} {L : Value} {w : World} {g : Nat} {ins : List InstP} (h : ProgIs W0 B L w g ins) {f : Nat} {p : InstP} (hf : ins[f]? = some p) :
  ∃ gI m sA sc, w.cell? ⟨g, 1, none⟩ = some (.slice (some ⟨gI, 0, none⟩) ins.length m) ∧ w.cell? ⟨gI, f * 4, none⟩ = some (.int .i64 p.kind) ∧ w.cell? ⟨gI, f * 4 + 1, none⟩ = some (.int .i64 p.x) ∧ w.cell? ⟨gI, f * 4 + 2, none⟩ = some (.int .i64 p.y) ∧ w.cell? ⟨gI, f * 4 + 3, none⟩ = some (.slice sA p.runes.length sc) ∧ RowT W0 21 sA p.runes.length (p.runes.map rv) := by
 obtain ⟨O, m, hb, ds, hds, hown, hall⟩ := h.ex
 obtain ⟨hlt, -⟩ := List.getElem?_eq_some_iff.1 hf
 obtain ⟨gI, rfl, hBI, hgI, -, -, hc⟩ := own_at hown (by omega)
 rw [← hds, List.getElem?_map] at hf
 cases hd : ds[f]? with
 | none => rw [hd] at hf; cases hf
 | some d =>
 rw [hd] at hf
 injection hf with ep
 have hdm := hall d (List.mem_of_getElem? hd)
 subst ep
 exact ⟨gI, m, d.sA, d.sc, hb.cell 1, by rw [hc _ (by omega)]; exact inst_at hd 0 (by omega), by rw [hc _ (by omega)]; exact inst_at hd 1 (by omega), by rw [hc _ (by omega)]; exact inst_at hd 2 (by omega), by rw [hc _ (by omega)]; exact inst_at hd 3 (by omega), hdm⟩
theorem ProgIs.lens {W0 : World} {B : Nat} {L : Value} {w : World} {g : Nat} {ins : List InstP} (h : ProgIs W0 B L w g ins) : ∃ O m, w.cell? ⟨g, 1, none⟩ = some (.slice O ins.length m) := by
 obtain ⟨O, m, hb, -⟩ := h.ex
 exact ⟨O, m, hb.cell 1⟩
theorem mkB (n : Nat) (u : World) (hn : n ≤ 1000000) : ∃ w', (Instr.makeSlice 153 (.int .i64 n) (.int .i64 n)).run Tryz.prog u = .ok (.slice (some ⟨u.heap.size, 0, none⟩) n n) w' ∧
  w'.ownsRow u.heap.size 4 1 (.slice (some ⟨u.heap.size, 0, none⟩) n n) n ((List.replicate n false).map Value.bool) ∧ Below u.heap.size u w' := by
 obtain ⟨i, hi, hz, hsz, hby⟩ : ∃ i, Tryz.prog.info? 4 = some i ∧ i.zero = some (.bool false) ∧ i.size = 1 ∧ i.bytes = 1 := by
  have h := boolE.info
  cases hi : Tryz.prog.info? 4 with
  | none => rw [hi] at h; cases h
  | some i => rw [hi] at h; simp at h; exact ⟨i, rfl, h.1, h.2.1, h.2.2⟩
 obtain ⟨w', h1, h2, h3⟩ := run_make_full (P := Tryz.prog) u u.heap.size 153 4 i _ 1 boolE.slice hi hz hsz .i64 .i64 n (by rw [hby]; omega) (by unfold maxLen; omega) (Nat.le_refl _)
 refine ⟨w', h1, ?_, (But.grown (S := []) h3 (by simp)).below (Nat.le_refl _) (by simp)⟩
 have e : (madeCells (Value.bool false).cells (n * 1)).toList = (List.replicate n false).map Value.bool := by
  rw [Nat.mul_one, List.map_replicate]
  exact toList_madeCells_one _ _
 rw [← e]; exact h2
theorem rows_push {w w' : World} {B n m k : Nat} {e e' : TypeId} {vw vo v' vs : Value} {xs os ss : List Value} (ow : w.ownsRow B e 1 vw n xs) (oo : w.ownsRow B e 1 vo m os) (oS : w.ownsRow B e' 1 vs k ss) (hne : e ≠ e')
  (hd : ∀ b, vw.ownBlock = some b → vo.ownBlock = some b → False) (hg : w.grownBy w' vw.ownBlock) (hv : v'.ownBlock = vw.ownBlock ∨ v'.ownBlock = some w.heap.size) :
  w'.ownsRow B e 1 vo m os ∧ w'.ownsRow B e' 1 vs k ss ∧ ∀ b, v'.ownBlock = some b → vo.ownBlock = some b → False := by
 refine ⟨own_grown oo hg ?_, own_grown oS hg ?_, fun b h1 h2 => ?_⟩
 ·rcases hb : vo.ownBlock with _ | b
  ·exact .inl rfl
  exact .inr fun e => hd b e.symm hb
 ·rcases hb : vs.ownBlock with _ | b
  ·exact .inl rfl
  refine .inr fun e => ?_
  have := own_own ow oS hne b hb
  rw [← e] at this
  simp at this
 rcases hv with hv | hv
 ·exact hd b (by rw [← hv]; exact h1) h2
 rw [hv] at h1
 injection h1 with h1
 have := (oo.lt b h2).2
 omega
theorem vClosure {W0 : World} {B0 : Nat} {L : Value} {ins : List InstP} (ht : TgtR ins) (fr : List Nat) (hfr : ∀ f ∈ fr, f < ins.length) (first last : Bool) (A : Option Addr) (n c g : Nat) (w : World) (hn : fr.length = n) (hfl : n ≤ 300000) (hA : PlainA A c) (hr : RowT w 3 A n (fr.map iv)) (hp : ProgIs W0 B0 L w g ins) :
  Calls Tryz.prog 95 #[.pointer (some ⟨g, 0, none⟩), .slice A n c, .bool first, .bool last] w fun e w' => ∃ v, e = .returned v ∧ w'.ownsRow w.heap.size 3 1 v (closP ins first last fr).length ((closP ins first last fr).map iv) ∧ Below w.heap.size w w' := by
 obtain ⟨N, hN⟩ : ∃ N, ins.length = N := ⟨_, rfl⟩
 obtain ⟨O, m, c1⟩ := hp.lens
 have hNb := hp.nb
 rw [hN] at c1 hNb
 obtain ⟨w1, hmk, ownS, hb1⟩ := mkB N w (by omega)
 have hcl := vCloneI fr A n c w1 hn hA (hr.below hb1) (by omega)
 have h0 := DfsR.start (first := first) (last := last) hfr
 rw [hN] at h0
 have HN := Lh hN; have P0 := Lh hp; have Hn := Lh hn; have H0 := Lh h0; have OwnS := Lh ownS; have Hcl := Lh hcl; have HT := Lh ht
 have hB1 := hb1.size
 clear hN hp hn h0 ownS hcl hr hA hfr ht
 go_enter Tryz.func95, Tryz.ntmps95
 go_wp2_with fail
 refine Hcl.out.mono ?_
 rintro e w2 ⟨v2, rfl, own2, hb2⟩
 have ownS2 := own_below OwnS.out hb2
 have hw2 : Below w.heap.size w w2 := hb1.trans (hb2.mono hB1)
 have own2' := own_mono own2 hB1
 have Own2 := Lh own2'; have OwnS2 := Lh ownS2; have Hw2 := Lh hw2
 clear own2 own2' ownS2 hw2 hb2 hb1 hmk
 obtain ⟨A2, cc2, rfl, -⟩ := own_form Own2.out
 go_wp2
 go_loopg [10, 11] (3 * N + n) (fun gk vo vw wr => ∃ (S : List Bool) (l o : List Nat), Hid (gk = 3 * S.count false + l.length) ∧ Hid (wr.ownsRow w.heap.size 3 1 vw l.length (l.map iv)) ∧ Hid (wr.ownsRow w.heap.size 3 1 vo o.length (o.map iv)) ∧ Hid (wr.ownsRow w.heap.size 4 1 (.slice (some ⟨w.heap.size, 0, none⟩) N N) N (S.map Value.bool)) ∧ Hid (∀ b, vw.ownBlock = some b → vo.ownBlock = some b → False) ∧ Hid (DfsR ins first last fr S l o) ∧ Hid (Below w.heap.size w wr))
 case atStart => exact ⟨_, fr, [], Lh (by rw [List.count_replicate_self, Hn.out]), Lh (by rw [Hn.out]; exact Own2.out), Lh (World.ownsRow_nil _ _ _ _), OwnS2, Lh (fun b _ h => by cases h), H0, Hw2⟩
 obtain ⟨S, l, o, hgk, hw, ho, hS, hd, hdf, hbw⟩ := hrel
 obtain ⟨wo, rfl⟩ : ∃ wo : World, wo = wr := ⟨_, rfl⟩
 have hsz := hbw.out.size
 obtain ⟨A3, c3, rfl, hc3⟩ := own_form hw.out
 obtain ⟨A4, c4, rfl, -⟩ := own_form ho.out
 rcases List.eq_nil_or_concat l with rfl | ⟨l, pc, hcc⟩
 ·have hlo : o.length ≤ N := by have := hdf.out.low; rw [HN.out] at this; omega
  have hsort := vSortI _ o w.heap.size wo ho.out (by omega)
  obtain ⟨no, hno⟩ : ∃ no, o.length = no := ⟨_, rfl⟩
  rw [hno] at hsort hlo ⊢
  have Hsort := Lh hsort; have Hno := Lh hno
  clear hsort hno
  go_wp2_with fail
  refine Hsort.out.mono ?_
  rintro e w3 ⟨rfl, l', hperm, hpw, own3, hg3⟩
  have hres := hdf.out.done hperm hpw
  have hll : l'.length = no := by rw [hperm.length_eq, Hno.out]
  have hb3 : Below w.heap.size w w3 := hbw.out.trans ((Below.refl _ _).grown hg3 hsz fun k hk => (ho.out.lt k (by rw [Hno.out]; exact hk)).1)
  have Own3 := Lh own3; have Hres := Lh hres; have Hll := Lh hll; have Hb3 := Lh hb3
  clear own3 hres hll hb3 hperm hpw hg3
  go_wp2
  go_ret
  exact ⟨_, rfl, by rw [← Hres.out, Hll.out]; exact Own3.out, Hb3.out⟩
 rw [List.concat_eq_append] at hcc
 subst hcc
 obtain ⟨k, hk⟩ : ∃ k, l.length = k := ⟨_, rfl⟩
 have hlen : (l ++ [pc]).length = k + 1 := by rw [List.length_append, hk]; rfl
 rw [hlen] at hw hc3 hgk hd ⊢
 obtain ⟨gw, rfl, hgB, hgl, -, -, hcw⟩ := own_at hw.out (by omega)
 have hwm : (l ++ [pc]).map iv = l.map iv ++ [iv pc] := by simp
 have cpc : wo.cell? ⟨gw, k, none⟩ = some (.int .i64 (pc : Nat)) := by
  rw [hcw k (by omega), hwm, List.getElem?_append_right (by rw [List.length_map, hk]; exact Nat.le_refl _), List.length_map, hk, Nat.sub_self]; rfl
 have hpl : pc < N := by have := (hdf.out.wk pc (by simp)).1; rw [HN.out] at this; exact this
 have hSl : S.length = N := by rw [hdf.out.len, HN.out]
 obtain ⟨b, hb⟩ : ∃ b, S[pc]? = some b := ⟨_, List.getElem?_eq_getElem (by rw [hSl]; exact hpl)⟩
 have cS : wo.cell? ⟨w.heap.size, pc, none⟩ = some (.bool b) := by rw [hS.out.cellAt pc (by omega), List.getElem?_map, hb]; rfl
 have fS : wo.frozen? ⟨w.heap.size, pc, none⟩ = false := hS.out.frozenAt pc
 have hkN : k ≤ 800000 := by have := hdf.out.big; rw [HN.out, Hn.out, hlen] at this; omega
 have wk1 : IntKind.i64.wrap ((k : Int) + 1 - 1) = (k : Int) := by rw [IntKind.wrap_i64]; omega
 have z0 : (0 : Int) < ((k + 1 : Nat) : Int) := by omega
 have z1 : (pc : Int) < (N : Int) := by omega
 have hcut : wo.ownsRow w.heap.size 3 1 (.slice (some ⟨gw, 0, none⟩) k c3) k (l.map iv) := by
  have h := own_cutA hw.out (Nat.le_succ k)
  rw [hwm, List.take_left' (by rw [List.length_map, hk])] at h
  exact h
 have hd2 : ∀ b, (Value.slice (some ⟨gw, 0, none⟩) k c3).ownBlock = some b → (Value.slice A4 o.length c4).ownBlock = some b → False := fun b h1 h2 => hd.out b h1 h2
 cases b with
 | true =>
  have hpass := hdf.out.pass hb
  have Hcut := Lh hcut; have Hpass := Lh hpass; have Hd2 := Lh hd2; have Hk := Lh hk
  clear hcut hpass hd2 hcw hwm hb hd hw hdf hlen hSl hk
  go_wp2_with fail
  go_roundg (3 * S.count false + k)
  case measure => rw [hgk.out]; omega
  case rel => exact ⟨S, l, o, Lh (by rw [Hk.out]), by rw [Hk.out]; exact Hcut, ho, hS, Hd2, Hpass, hbw⟩
 | false =>
  obtain ⟨ci, hci⟩ : ∃ ci, ins[pc]? = some ci := ⟨_, List.getElem?_eq_getElem (by rw [HN.out]; exact hpl)⟩
  obtain ⟨X, hX⟩ : ∃ X, X = wo.setCell ⟨w.heap.size, pc, none⟩ (.bool true) := ⟨_, rfl⟩
  have hoX : But [w.heap.size] wo X := by rw [hX]; exact (But.refl _ _).setCell (by simp) _
  have hbX : Below w.heap.size w X := by rw [hX]; exact hbw.out.setCell (p := ⟨w.heap.size, pc, none⟩) (Nat.le_refl _) _
  have oS := (hS.out.stored pc (.bool true)).1
  rw [← hX, ← List.map_set] at oS
  have oW := own_but hcut hoX (fun g hg hm => own_own hS.out hcut (by decide) g hg (by simp only [List.mem_singleton] at hm; subst hm; show _ ∈ [w.heap.size]; simp))
  have oO := own_but ho.out hoX (fun g hg hm => own_own hS.out ho.out (by decide) g hg (by simp only [List.mem_singleton] at hm; subst hm; show _ ∈ [w.heap.size]; simp))
  obtain ⟨gI, mI, sA, sc, d1, d2, d3, d4, d5, -⟩ := (P0.out.below hbX).look hci
  rw [HN.out] at d1
  obtain ⟨no, hno⟩ : ∃ no, o.length = no := ⟨_, rfl⟩
  obtain ⟨rl, hrl⟩ : ∃ rl, ci.runes.length = rl := ⟨_, rfl⟩
  rw [hno] at oO hd2 ⊢
  rw [hrl] at d5
  have hlo : no ≤ N := by have := hdf.out.low; rw [HN.out, hno] at this; omega
  have hsX := hbX.size
  obtain ⟨Y, hY⟩ : ∃ Y, Y = X.alloc (.cells #[.int .i64 ci.kind, .int .i64 ci.x, .int .i64 ci.y, .slice sA rl sc] 160) := ⟨_, rfl⟩
  have hXY : Below X.heap.size X Y := by rw [hY]; exact (Below.refl _ _).alloc (Nat.le_refl _) _
  have bY : Blk Y X.heap.size 160 [.int .i64 ci.kind, .int .i64 ci.x, .int .i64 ci.y, .slice sA rl sc] := by rw [hY]; exact Blk.new X _ _
  have y0 : Y.cell? ⟨X.heap.size, 0, none⟩ = some (.int .i64 ci.kind) := bY.cell 0
  have y1 : Y.cell? ⟨X.heap.size, 1, none⟩ = some (.int .i64 ci.x) := bY.cell 1
  have y2 : Y.cell? ⟨X.heap.size, 2, none⟩ = some (.int .i64 ci.y) := bY.cell 2
  have hwY : Below w.heap.size w Y := hbX.trans (hXY.mono hsX)
  have hcm := count_mark hb
  have hmk := fun add keep h1 h2 h3 => hdf.out.mark (add := add) (keep := keep) HT.out hb h1 h2 h3
  have hsY := hwY.size
  have hgk2 := hgk.out
  have OS := Lh (own_below oS hXY); have OW := Lh (own_below oW hXY); have OO := Lh (own_below oO hXY); have HWY := Lh hwY; have Hmk := Lh hmk; have Hcm := Lh hcm; have Hci := Lh hci; have Hd2 := Lh hd2; have Hk := Lh hk; have Hno := Lh hno; have Hgk := Lh hgk2
  clear oS oW oO hwY hmk hcm hci hd2 hk hno hcut hcw hwm hb hd hw hdf hlen hSl hoX hXY bY hS ho hbX hgk hgk2 hrl hpl
  go_upto_region 9 with fail
  rw [← hX]
  clear hX cS fS cpc
  go_upto_region 10 with fail
  rw [← hY]
  clear hY d1 d2 d3 d4 d5
  have hedge : ∀ q, EdgeR ins first last pc q ↔ (ci.kind = 1 ∧ (q = ci.x ∨ q = ci.y)) ∨ (ci.kind = 2 ∧ first = true ∧ q = ci.x) ∨ (ci.kind = 3 ∧ last = true ∧ q = ci.x) := fun q => by
   constructor
   ·rintro ⟨c, hc, h⟩; rw [Hci.out] at hc; cases hc; exact h
   exact fun h => ⟨ci, Hci.out, h⟩
  have hkept : KeptR ins last pc ↔ ci.kind ≠ 1 ∧ ci.kind ≠ 2 ∧ ¬ (ci.kind = 3 ∧ last = true) := by
   constructor
   ·rintro ⟨c, hc, h⟩; rw [Hci.out] at hc; cases hc; exact h
   exact fun h => ⟨ci, Hci.out, h⟩
  have Hedge := Lh hedge; have Hkept := Lh hkept
  clear hedge hkept
  by_cases k1 : ci.kind = 1
  ·have z3 : (ci.kind : Int) = 1 := by omega
   have hm := Hmk.out [ci.x, ci.y] [] (fun q => by rw [Hedge.out]; simp [k1]) (by simp) (.inr ⟨fun h => (Hkept.out.1 h).1 k1, rfl⟩)
   have Hm := Lh hm
   clear hm k1
   go_wp2_with (at_builtin; refine wpList_app _ rfl intE rfl rfl (OW.out.alloc _) rfl (row_new Y _ [_, _]) (by simp [Value.oneCell']) (by first | omega | (simp; done) | (simp; omega)) (by simp; omega) ?_; intro v8 w8 own8 hg8 hb8 hx8)
   obtain ⟨p1, p2, p3⟩ := rows_push (OW.out.alloc _) (OO.out.alloc _) (OS.out.alloc _) (by decide) Hd2.out hg8 hx8
   have hw8 : Below w.heap.size w w8 := (HWY.out.alloc hsY _).trans hb8
   have Q1 := Lh p1; have Q2 := Lh p2; have Q3 := Lh p3; have Q4 := Lh own8; have HW8 := Lh hw8
   clear p1 p2 p3 own8 hw8 hg8 hb8 hx8
   go_wp2
   go_roundg (3 * (S.set pc true).count false + (k + 2))
   case measure => rw [Hgk.out, ← Hcm.out]; omega
   case rel => exact ⟨S.set pc true, l ++ [ci.x, ci.y], o, Lh (by rw [List.length_append, Hk.out]; rfl), Lh (by rw [List.length_append, Hk.out, List.map_append]; exact Q4.out), by rw [Hno.out]; exact Q1, Q2, Q3, by have := Hm.out; rw [List.append_nil] at this; exact Lh this, HW8⟩
  have n1 : ¬ (ci.kind : Int) = 1 := by omega
  by_cases k2 : ci.kind = 2
  ·have z3 : (ci.kind : Int) = 2 := by omega
   have n2 : ¬ (ci.kind : Int) = 3 := by omega
   clear k1
   cases first with
   | true =>
    have hm := Hmk.out [ci.x] [] (fun q => by rw [Hedge.out]; simp [k2]) (by simp) (.inr ⟨fun h => by have := Hkept.out.1 h; simp [k2] at this, rfl⟩)
    have Hm := Lh hm
    clear hm k2
    go_wp2_with (at_builtin; refine wpList_app _ rfl intE rfl rfl (OW.out.alloc _) rfl (row_new Y _ [_]) (by simp [Value.oneCell']) (by first | omega | (simp; done) | (simp; omega)) (by simp; omega) ?_; intro v8 w8 own8 hg8 hb8 hx8)
    obtain ⟨p1, p2, p3⟩ := rows_push (OW.out.alloc _) (OO.out.alloc _) (OS.out.alloc _) (by decide) Hd2.out hg8 hx8
    have hw8 : Below w.heap.size w w8 := (HWY.out.alloc hsY _).trans hb8
    have Q1 := Lh p1; have Q2 := Lh p2; have Q3 := Lh p3; have Q4 := Lh own8; have HW8 := Lh hw8
    clear p1 p2 p3 own8 hw8 hg8 hb8 hx8
    go_wp2
    go_roundg (3 * (S.set pc true).count false + (k + 1))
    case measure => rw [Hgk.out, ← Hcm.out]; omega
    case rel => exact ⟨S.set pc true, l ++ [ci.x], o, Lh (by rw [List.length_append, Hk.out]; rfl), Lh (by rw [List.length_append, Hk.out, List.map_append]; exact Q4.out), by rw [Hno.out]; exact Q1, Q2, Q3, by have := Hm.out; rw [List.append_nil] at this; exact Lh this, HW8⟩
   | false =>
    have hm := Hmk.out [] [] (fun q => by rw [Hedge.out]; simp [k2]) (by simp) (.inr ⟨fun h => by have := Hkept.out.1 h; simp [k2] at this, rfl⟩)
    have Hm := Lh hm
    clear hm k2
    go_wp2_with fail
    go_roundg (3 * (S.set pc true).count false + k)
    case measure => rw [Hgk.out, ← Hcm.out]; omega
    case rel => exact ⟨S.set pc true, l, o, Lh (by rw [Hk.out]), by rw [Hk.out]; exact OW, by rw [Hno.out]; exact OO, OS, Hd2, by have := Hm.out; rw [List.append_nil, List.append_nil] at this; exact Lh this, HWY⟩
  have n2 : ¬ (ci.kind : Int) = 2 := by omega
  by_cases k3 : ci.kind = 3
  ·have z3 : (ci.kind : Int) = 3 := by omega
   clear k1 k2
   cases last with
   | true =>
    have hm := Hmk.out [ci.x] [] (fun q => by rw [Hedge.out]; simp [k3]) (by simp) (.inr ⟨fun h => by have := Hkept.out.1 h; simp [k3] at this, rfl⟩)
    have Hm := Lh hm
    clear hm k3
    go_wp2_with (at_builtin; refine wpList_app _ rfl intE rfl rfl (OW.out.alloc _) rfl (row_new Y _ [_]) (by simp [Value.oneCell']) (by first | omega | (simp; done) | (simp; omega)) (by simp; omega) ?_; intro v8 w8 own8 hg8 hb8 hx8)
    obtain ⟨p1, p2, p3⟩ := rows_push (OW.out.alloc _) (OO.out.alloc _) (OS.out.alloc _) (by decide) Hd2.out hg8 hx8
    have hw8 : Below w.heap.size w w8 := (HWY.out.alloc hsY _).trans hb8
    have Q1 := Lh p1; have Q2 := Lh p2; have Q3 := Lh p3; have Q4 := Lh own8; have HW8 := Lh hw8
    clear p1 p2 p3 own8 hw8 hg8 hb8 hx8
    go_wp2
    go_roundg (3 * (S.set pc true).count false + (k + 1))
    case measure => rw [Hgk.out, ← Hcm.out]; omega
    case rel => exact ⟨S.set pc true, l ++ [ci.x], o, Lh (by rw [List.length_append, Hk.out]; rfl), Lh (by rw [List.length_append, Hk.out, List.map_append]; exact Q4.out), by rw [Hno.out]; exact Q1, Q2, Q3, by have := Hm.out; rw [List.append_nil] at this; exact Lh this, HW8⟩
   | false =>
    have hm := Hmk.out [] [pc] (fun q => by rw [Hedge.out]; simp [k3]) (by simp) (.inl ⟨Hkept.out.2 (by simp [k3]), rfl⟩)
    have Hm := Lh hm
    clear hm k3
    go_wp2_with (at_builtin; refine wpList_app _ rfl intE rfl rfl (OO.out.alloc _) rfl (row_new Y _ [_]) (by simp [Value.oneCell']) (by first | omega | (simp; done) | (simp; omega)) (by simp; omega) ?_; intro v8 w8 own8 hg8 hb8 hx8)
    obtain ⟨p1, p2, p3⟩ := rows_push (OO.out.alloc _) (OW.out.alloc _) (OS.out.alloc _) (by decide) (fun b h1 h2 => Hd2.out b h2 h1) hg8 hx8
    have hw8 : Below w.heap.size w w8 := (HWY.out.alloc hsY _).trans hb8
    have Q1 := Lh p1; have Q2 := Lh p2; have Q3 := Lh p3; have Q4 := Lh own8; have HW8 := Lh hw8
    clear p1 p2 p3 own8 hw8 hg8 hb8 hx8
    go_wp2
    go_roundg (3 * (S.set pc true).count false + k)
    case measure => rw [Hgk.out, ← Hcm.out]; omega
    case rel => exact ⟨S.set pc true, l, o ++ [pc], Lh (by rw [Hk.out]), by rw [Hk.out]; exact Q1, Lh (by rw [List.length_append, Hno.out, List.map_append]; exact Q4.out), Q2, Lh (fun b h1 h2 => Q3.out b h2 h1), by have := Hm.out; rw [List.append_nil] at this; exact Lh this, HW8⟩
  have n3 : ¬ (ci.kind : Int) = 3 := by omega
  have hm := Hmk.out [] [pc] (fun q => by rw [Hedge.out]; simp [k1, k2, k3]) (by simp) (.inl ⟨Hkept.out.2 (by simp [k1, k2, k3]), rfl⟩)
  have Hm := Lh hm
  clear hm k1 k2 k3
  go_wp2_with (at_builtin; refine wpList_app _ rfl intE rfl rfl (OO.out.alloc _) rfl (row_new Y _ [_]) (by simp [Value.oneCell']) (by first | omega | (simp; done) | (simp; omega)) (by simp; omega) ?_; intro v8 w8 own8 hg8 hb8 hx8)
  obtain ⟨p1, p2, p3⟩ := rows_push (OO.out.alloc _) (OW.out.alloc _) (OS.out.alloc _) (by decide) (fun b h1 h2 => Hd2.out b h2 h1) hg8 hx8
  have hw8 : Below w.heap.size w w8 := (HWY.out.alloc hsY _).trans hb8
  have Q1 := Lh p1; have Q2 := Lh p2; have Q3 := Lh p3; have Q4 := Lh own8; have HW8 := Lh hw8
  clear p1 p2 p3 own8 hw8 hg8 hb8 hx8
  go_wp2
  go_roundg (3 * (S.set pc true).count false + k)
  case measure => rw [Hgk.out, ← Hcm.out]; omega
  case rel => exact ⟨S.set pc true, l, o ++ [pc], Lh (by rw [Hk.out]), by rw [Hk.out]; exact Q1, Lh (by rw [List.length_append, Hno.out, List.map_append]; exact Q4.out), Q2, Lh (fun b h1 h2 => Q3.out b h2 h1), by have := Hm.out; rw [List.append_nil] at this; exact Lh this, HW8⟩
theorem vStart {W0 : World} {B0 : Nat} {L : Value} {ins : List InstP} (hg : GoodR ins) (g : Nat) (w : World) (hp : ProgIs W0 B0 L w g ins) :
  Calls Tryz.prog 67 #[.pointer (some ⟨g, 0, none⟩)] w fun e w' => ∃ v, e = .returned (.agg #[v, .bool true]) ∧ w'.ownsRow w.heap.size 3 1 v (startR ins).length ((startR ins).map iv) ∧ Below w.heap.size w w' := by
 obtain ⟨X, hX⟩ : ∃ X, X = (w.alloc (.cells #[.slice none 0 0, .bool false] 118)).alloc (.cells #[.int .i64 0] 3) := ⟨_, rfl⟩
 have hbX : Below w.heap.size w X := by rw [hX]; exact ((Below.refl _ _).alloc (Nat.le_refl _) _).alloc (by simp) _
 have xS : Blk X w.heap.size 118 [.slice none 0 0, .bool false] := by rw [hX]; exact (Blk.new w _ [.slice none 0 0, .bool false]).alloc _
 have hr : RowT X 3 (some ⟨w.heap.size + 1, 0, none⟩) 1 (([0] : List Nat).map iv) := by
  have h := RowT.new (w.alloc (.cells #[.slice none 0 0, .bool false] 118)) 3 (([0] : List Nat).map iv)
  rw [hX]
  simp at h
  exact h
 have hsX : X.heap.size = w.heap.size + 2 := by rw [hX]; simp
 have hc := vClosure hg.tgt [0] (by simp; exact hg.pos) true false (some ⟨w.heap.size + 1, 0, none⟩) 1 1 g X rfl (by omega) (.inr ⟨_, _, rfl⟩) hr (hp.below hbX)
 have e0 : closP ins true false [0] = startR ins := rfl
 rw [e0] at hc
 have HC := Lh hc; have HB := Lh hbX; have XS := Lh xS; have HS := Lh hsX
 clear hc hbX xS hr e0 hp hg hsX
 go_enter Tryz.func67, Tryz.ntmps67
 go_wp2_with fail
 rw [← hX]
 refine HC.out.mono ?_
 rintro e w2 ⟨v, rfl, own2, hb2⟩
 have s2 := XS.out.below hb2 XS.out.lt
 have c0 : w2.cell? ⟨w.heap.size, 0, none⟩ = some (.slice none 0 0) := s2.cell 0
 have c1 : w2.cell? ⟨w.heap.size, 1, none⟩ = some (.bool false) := s2.cell 1
 have f0 := s2.frozen 0
 have f1 := s2.frozen 1
 obtain ⟨A2, k2, rfl, -⟩ := own_form own2
 obtain ⟨n2, hn2⟩ : ∃ n2, (startR ins).length = n2 := ⟨_, rfl⟩
 rw [hn2] at own2 ⊢
 have Hn2 := Lh hn2
 have Own2 := Lh own2; have HB2 := Lh hb2; have S2 := Lh s2
 clear own2 hb2 s2 hX hn2
 go_wp2
 have r2 := ((S2.out.set_ 0 (.slice A2 n2 k2)).set_ 1 (.bool true))
 have b2 : But [w.heap.size] w2 ((w2.setCell ⟨w.heap.size, 0, none⟩ (.slice A2 n2 k2)).setCell ⟨w.heap.size, 1, none⟩ (.bool true)) := ((But.refl _ _).setCell (by simp) _).setCell (by simp) _
 have l2 : Below w.heap.size w ((w2.setCell ⟨w.heap.size, 0, none⟩ (.slice A2 n2 k2)).setCell ⟨w.heap.size, 1, none⟩ (.bool true)) := by
  have hs := HS.out
  exact ((HB.out.trans (HB2.out.mono (by omega))).setCell (p := ⟨w.heap.size, 0, none⟩) (Nat.le_refl _) _).setCell (p := ⟨w.heap.size, 1, none⟩) (Nat.le_refl _) _
 have o2 := own_but (own_mono Own2.out (show w.heap.size ≤ X.heap.size by have hs := HS.out; omega)) b2 fun k hk hm => (by
  have h1 := (Own2.out.lt k hk).1
  have hs := HS.out
  simp at hm
  omega)
 generalize (w2.setCell ⟨w.heap.size, 0, none⟩ (.slice A2 n2 k2)).setCell ⟨w.heap.size, 1, none⟩ (.bool true) = W at r2 b2 l2 o2 ⊢
 have q0 : W.cell? ⟨w.heap.size, 0, none⟩ = some (.slice A2 n2 k2) := r2.cell 0
 have q1 : W.cell? ⟨w.heap.size, 1, none⟩ = some (.bool true) := r2.cell 1
 refine bodyPost_ret (v := .agg #[.slice A2 n2 k2, .bool true]) (by simp [results, Tryz.results67, go_sem, *]) rfl ?_
 exact ⟨_, rfl, by rw [Hn2.out]; exact o2, l2⟩
theorem next_snoc (ins : List InstP) (l : List Nat) (pc r : Nat) {c : InstP} (hc : ins[pc]? = some c) : nextR ins (l ++ [pc]) r = nextR ins l r ++ if c.kind = 0 ∧ hasR c.runes r = true then [c.x] else [] := by
 unfold nextR
 rw [List.filterMap_append]
 congr 1
 simp only [List.filterMap_cons, hc, List.filterMap_nil]
 split <;> rename_i h <;> split at h <;> simp_all
theorem next_lt {ins : List InstP} (ht : TgtR ins) (l : List Nat) (r : Nat) : ∀ q ∈ nextR ins l r, q < ins.length := fun q hq => by
 obtain ⟨pc, -, c, hc, hk, -, rfl⟩ := mem_next.1 hq
 exact (ht pc c hc).1 (by omega)
theorem vStep {W0 : World} {B0 : Nat} {L : Value} {ins : List InstP} (hg : GoodR ins) (st : List Nat) (hst : ∀ x ∈ st, x < ins.length) (A : Option Addr) (n c : Nat) (hn : st.length = n) (hnl : n ≤ 200000) (f : Bool) (r : Nat) (find : Bool) (g : Nat) (w : World)
  (hr : RowT w 3 A n (st.map iv)) (hb0 : Below W0.heap.size W0 w) (hp : ProgIs W0 B0 L w g ins) :
  Calls Tryz.prog 68 #[.pointer (some ⟨g, 0, none⟩), .agg #[.slice A n c, .bool f], .int .i32 r, .bool find] w fun e w' => ∃ v, e = .returned (.agg #[v, .bool false]) ∧ w'.ownsRow w.heap.size 3 1 v (stepR ins find st r).length ((stepR ins find st r).map iv) ∧ Below w.heap.size w w' := by
 obtain ⟨X, hX⟩ : ∃ X, X = (w.alloc (.cells #[.slice A n c, .bool f] 118)).alloc (.cells #[.slice none 0 0, .bool false] 118) := ⟨_, rfl⟩
 have hbX : Below w.heap.size w X := by rw [hX]; exact ((Below.refl _ _).alloc (Nat.le_refl _) _).alloc (by simp) _
 have xS : Blk X w.heap.size 118 [.slice A n c, .bool f] := by rw [hX]; exact (Blk.new w _ [.slice A n c, .bool f]).alloc _
 have xR : Blk X (w.heap.size + 1) 118 [.slice none 0 0, .bool false] := by
  rw [hX]
  have h := Blk.new (w.alloc (.cells #[.slice A n c, .bool f] 118)) 118 [.slice none 0 0, .bool false]
  simpa using h
 have hsX : X.heap.size = w.heap.size + 2 := by rw [hX]; simp
 have cS : X.cell? ⟨w.heap.size, 0, none⟩ = some (.slice A n c) := xS.cell 0
 have hrX := hr.below hbX
 have hpX := hp.below hbX
 have hb0X := hb0.trans (hbX.mono hb0.size)
 have HG := Lh hg; have Hst := Lh hst; have Hn := Lh hn; have HR := Lh hrX; have HP := Lh hpX; have HB0 := Lh hb0X; have HB := Lh hbX; have XS := Lh xS; have XR := Lh xR; have HS := Lh hsX
 clear hg hst hn hrX hpX hb0X hbX xS xR hsX hr hp hb0
 go_enter Tryz.func68, Tryz.ntmps68
 go_upto_region 1 with fail
 rw [← hX]
 clear hX
 go_wp2
 go_loopw [9, 16] (fun v i wr => ∃ (j : Nat) (nx : List Nat), j ≤ n ∧ i = .int .i64 j ∧ Hid (nx = nextR ins (st.take j) r) ∧ nx.length ≤ j ∧ wr.ownsRow X.heap.size 3 1 v nx.length (nx.map iv) ∧ Hid (Below X.heap.size X wr)) (fun _ i _ => n - (intOf i).toNat)
 case atStart => exact ⟨0, [], Nat.zero_le _, rfl, Lh rfl, Nat.le_refl _, World.ownsRow_nil _ _ _ _, Lh (Below.refl _ _)⟩
 obtain ⟨j, nx, hj, rfl, hnx, hnl2, hown, hbw⟩ := hrel
 obtain ⟨wo, rfl⟩ : ∃ wo : World, wo = wr := ⟨_, rfl⟩
 obtain ⟨A3, c3, rfl, hc3⟩ := own_form hown
 obtain ⟨n3, hn3⟩ : ∃ n3, nx.length = n3 := ⟨_, rfl⟩
 have Hn3 := Lh hn3
 rw [hn3] at hown hnl2 hc3 ⊢
 have hso := hbw.out.size
 have wj1 := wS j (by omega)
 by_cases hlt : j < n
 ·have z1 : (j : Int) < (n : Int) := by omega
  obtain ⟨pc, hpc⟩ : ∃ pc, st[j]? = some pc := ⟨_, List.getElem?_eq_getElem (by rw [Hn.out]; exact hlt)⟩
  have hpl := Hst.out pc (List.mem_of_getElem? hpc)
  obtain ⟨ci, hci⟩ : ∃ ci, ins[pc]? = some ci := ⟨_, List.getElem?_eq_getElem hpl⟩
  have htk : st.take (j + 1) = st.take j ++ [pc] := by
   obtain ⟨h1, e⟩ := List.getElem?_eq_some_iff.1 hpc
   rw [List.take_succ_eq_append_getElem h1, e]
  have hns := next_snoc ins (st.take j) pc r hci
  rw [← htk, ← hnx.out] at hns
  obtain ⟨bk, ok, rfl, ck⟩ := (HR.out.below hbw.out).at_ (k := j) (u := iv pc) (by rw [List.getElem?_map, hpc]; rfl)
  have ck1 : wo.cell? ⟨bk, ok + j, none⟩ = some (.int .i64 (pc : Nat)) := ck
  have hpo := HP.out.below hbw.out
  obtain ⟨gI, mI, sA, sc, d1, d2, d3, d4, d5, d6⟩ := hpo.look hci
  obtain ⟨N, hN⟩ : ∃ N, ins.length = N := ⟨_, rfl⟩
  rw [hN] at hpl d1
  have z2 : (pc : Int) < (N : Int) := by omega
  have hev := HG.out.ev ci (List.mem_of_getElem? hci)
  obtain ⟨kk, hkk⟩ := hev.2
  obtain ⟨rl, hrl⟩ : ∃ rl, ci.runes.length = rl := ⟨_, rfl⟩
  rw [hrl] at d5 d6 hkk
  have hrl2 : rl ≤ 2000 := by rw [← hrl]; exact hev.1
  obtain ⟨Y, hY⟩ : ∃ Y, Y = wo.alloc (.cells #[.int .i64 ci.kind, .int .i64 ci.x, .int .i64 ci.y, .slice sA rl sc] 160) := ⟨_, rfl⟩
  have hoY : Below wo.heap.size wo Y := by rw [hY]; exact (Below.refl _ _).alloc (Nat.le_refl _) _
  have bY : Blk Y wo.heap.size 160 [.int .i64 ci.kind, .int .i64 ci.x, .int .i64 ci.y, .slice sA rl sc] := by rw [hY]; exact Blk.new wo _ _
  have hW : Below W0.heap.size W0 Y := (HB0.out.trans (hbw.out.mono HB0.out.size)).trans (hoY.mono (Nat.le_trans HB0.out.size hso))
  have hhas := vHasI ci.runes kk rl hrl hkk (by omega) sA sc r Y (d6.below hW)
  have oY := own_below hown hoY
  have sY := hoY.size
  have y0 : Y.cell? ⟨wo.heap.size, 0, none⟩ = some (.int .i64 ci.kind) := bY.cell 0
  have y1 : Y.cell? ⟨wo.heap.size, 1, none⟩ = some (.int .i64 ci.x) := bY.cell 1
  have y3 : Y.cell? ⟨wo.heap.size, 3, none⟩ = some (.slice sA rl sc) := bY.cell 3
  have hbY : Below X.heap.size X Y := hbw.out.trans (hoY.mono hso)
  have HN := Lh hN; have Hns := Lh hns; have Hhas := Lh hhas; have HBY := Lh hbY
  clear hN hns hhas hbY hW hoY hown htk hpc hci ck hpo d6 hkk hrl hev bY hn3 hnx
  go_upto_region 6 with fail
  rw [← hY]
  clear hY d1 d2 d3 d4 d5 ck1
  have hskip : ¬ (ci.kind = 0 ∧ hasR ci.runes r = true) → nextR ins (st.take (j + 1)) r = nx := fun h => by rw [Hns.out, if_neg h, List.append_nil]
  by_cases hk : ci.kind = 0
  ·have hk' : (ci.kind : Int) = 0 := by omega
   cases hh : hasR ci.runes r with
   | true =>
    have hst := Hhas.out
    rw [hh] at hst
    have hadd : nextR ins (st.take (j + 1)) r = nx ++ [ci.x] := by rw [Hns.out, if_pos ⟨hk, hh⟩]
    have Hadd := Lh hadd; have Hst2 := Lh hst
    clear hadd hst hk hh hskip
    go_wp2_with (first | (refine Hst2.out.mono ?_; rintro e wz ⟨rfl, hz⟩; obtain rfl : Y = wz := hz.symm) | (at_builtin; refine wpList_app _ rfl intE rfl rfl (oY.alloc _) rfl (row_new Y _ [_]) (by simp [Value.oneCell']) (by first | omega | (simp; done) | (simp; omega)) (by simp; omega) ?_; intro v8 w8 own8 hg8 hb8 hx8))
    have hb9 : Below X.heap.size X w8 := (HBY.out.alloc (by omega) _).trans hb8
    have Own8 := Lh own8; have HB9 := Lh hb9
    clear own8 hb9 hg8 hb8 hx8 oY
    go_wp2
    go_roundw
    case rel => exact ⟨j + 1, nx ++ [ci.x], by omega, by first | rfl | go_num, Lh Hadd.out.symm, by rw [List.length_append, Hn3.out]; show n3 + 1 ≤ _; omega, by rw [List.length_append, Hn3.out, List.map_append]; exact Own8.out, HB9⟩
    case measure => simp [intOf]; omega
   | false =>
    have hst := Hhas.out
    rw [hh] at hst
    have hno := hskip (fun h => by rw [hh] at h; cases h.2)
    have Hno := Lh hno; have Hst2 := Lh hst
    clear hno hst hk hh hskip
    go_wp2_with (refine Hst2.out.mono ?_; rintro e wz ⟨rfl, hz⟩; obtain rfl : Y = wz := hz.symm)
    go_roundw
    case rel => exact ⟨j + 1, nx, by omega, by first | rfl | go_num, Lh Hno.out.symm, by rw [Hn3.out]; omega, by rw [Hn3.out]; exact oY, HBY⟩
    case measure => simp [intOf]; omega
  have hk' : ¬ (ci.kind : Int) = 0 := by omega
  have hno := hskip (fun h => hk h.1)
  have Hno := Lh hno
  clear hno hk hskip
  go_wp2_with fail
  go_roundw
  case rel => exact ⟨j + 1, nx, by omega, by first | rfl | go_num, Lh Hno.out.symm, by rw [Hn3.out]; omega, by rw [Hn3.out]; exact oY, HBY⟩
  case measure => simp [intOf]; omega
 obtain rfl : j = n := by omega
 have z1 : ¬ (j : Int) < (j : Int) := by omega
 have hnx2 : nx = nextR ins st r := by rw [hnx.out, List.take_of_length_le (by rw [Hn.out]; exact Nat.le_refl _)]
 have hnlt : ∀ x ∈ nx, x < ins.length := by rw [hnx2]; exact next_lt HG.out.tgt _ _
 have HNX := Lh hnx2; have HNL := Lh hnlt; have Hown := Lh hown
 clear hnx hnx2 hnlt hn3 hown
 cases find with
 | true =>
  have z3 : X.heap.size ≤ wo.heap.size := hso
  go_upto_region 11 with (at_builtin; refine wpList_app _ rfl intE rfl rfl (Hown.out.alloc _) rfl (row_new wo _ [_]) (by simp [Value.oneCell']) (by first | omega | (simp; done) | (simp; omega)) (by simp; omega) ?_; intro v8 w8 own8 hg8 hb8 hx8)
  have hb9 : Below X.heap.size X w8 := (hbw.out.alloc hso _).trans hb8
  have own8' : w8.ownsRow X.heap.size 3 1 v8 (n3 + 1) ((nx ++ [0]).map iv) := by rw [List.map_append]; exact own8
  obtain ⟨A8, c8, rfl, -⟩ := own_form own8'
  have hrow8 : RowT w8 3 A8 (n3 + 1) ((nx ++ [0]).map iv) := RowT.of_own own8'
  have hc := vClosure HG.out.tgt (nx ++ [0]) (fun x hx => (List.mem_append.1 hx).elim (HNL.out x) (fun h => by rw [List.mem_singleton.1 h]; exact HG.out.pos)) false false A8 (n3 + 1) c8 g w8 (by rw [List.length_append, Hn3.out]; rfl) (by omega) (PlainA.of_own own8') hrow8 (HP.out.below hb9)
  have ec : closP ins false false (nx ++ [0]) = stepR ins true st r := by rw [HNX.out]; rfl
  rw [ec] at hc
  have HC := Lh hc; have HB9 := Lh hb9
  clear hc hb9 own8 own8' hg8 hb8 hx8 hrow8 ec
  go_wp2_with fail
  refine HC.out.mono ?_
  rintro e w2 ⟨v, rfl, own2, hb2⟩
  have hbX2 : Below X.heap.size X w2 := HB9.out.trans (hb2.mono HB9.out.size)
  have s2 := XR.out.below hbX2 XR.out.lt
  have own2' := own_mono own2 HB9.out.size
  obtain ⟨SR, hSR⟩ : ∃ SR, stepR ins true st r = SR := ⟨_, rfl⟩
  rw [hSR] at own2'
  have HSR := Lh hSR
  clear own2 hb2 hSR
  obtain ⟨A2, k2, rfl, -⟩ := own_form own2'
  obtain ⟨n2, hn2⟩ : ∃ n2, SR.length = n2 := ⟨_, rfl⟩
  rw [hn2] at own2' ⊢
  have Hn2 := Lh hn2
  have c0 : w2.cell? ⟨w.heap.size + 1, 0, none⟩ = some (.slice none 0 0) := s2.cell 0
  have c1 : w2.cell? ⟨w.heap.size + 1, 1, none⟩ = some (.bool false) := s2.cell 1
  have f0 := s2.frozen 0
  have f1 := s2.frozen 1
  have Own2 := Lh own2'; have HBX2 := Lh hbX2; have S2 := Lh s2
  clear own2' hbX2 s2 hn2
  go_wp2
  have r2 := ((S2.out.set_ 0 (.slice A2 n2 k2)).set_ 1 (.bool false))
  have b2 : But [w.heap.size + 1] w2 ((w2.setCell ⟨w.heap.size + 1, 0, none⟩ (.slice A2 n2 k2)).setCell ⟨w.heap.size + 1, 1, none⟩ (.bool false)) := ((But.refl _ _).setCell (by simp) _).setCell (by simp) _
  have hs := HS.out
  have l2 : Below w.heap.size w ((w2.setCell ⟨w.heap.size + 1, 0, none⟩ (.slice A2 n2 k2)).setCell ⟨w.heap.size + 1, 1, none⟩ (.bool false)) :=
   ((HB.out.trans (HBX2.out.mono (by omega))).setCell (p := ⟨w.heap.size + 1, 0, none⟩) (Nat.le_succ _) _).setCell (p := ⟨w.heap.size + 1, 1, none⟩) (Nat.le_succ _) _
  have o2 := own_but (own_mono Own2.out (show w.heap.size ≤ X.heap.size by omega)) b2 fun k hk hm => (by
   have h1 := (Own2.out.lt k hk).1
   simp at hm
   omega)
  generalize (w2.setCell ⟨w.heap.size + 1, 0, none⟩ (.slice A2 n2 k2)).setCell ⟨w.heap.size + 1, 1, none⟩ (.bool false) = W at r2 b2 l2 o2 ⊢
  have q0 : W.cell? ⟨w.heap.size + 1, 0, none⟩ = some (.slice A2 n2 k2) := r2.cell 0
  have q1 : W.cell? ⟨w.heap.size + 1, 1, none⟩ = some (.bool false) := r2.cell 1
  clear hs
  refine bodyPost_ret (v := .agg #[.slice A2 n2 k2, .bool false]) (by simp [results, Tryz.results68, go_sem, *]) rfl ?_
  exact ⟨_, rfl, by rw [HSR.out, Hn2.out]; exact o2, l2⟩
 | false =>
  have hb9 := hbw.out
  have hc := vClosure HG.out.tgt nx HNL.out false false A3 n3 c3 g wo Hn3.out (by omega) (PlainA.of_own Hown.out) (RowT.of_own Hown.out) (HP.out.below hb9)
  have ec : closP ins false false nx = stepR ins false st r := by
   rw [HNX.out]
   show _ = closP ins false false (nextR ins st r ++ [])
   rw [List.append_nil]
  rw [ec] at hc
  have HC := Lh hc; have HB9 := Lh hb9
  clear hc hb9 ec
  go_wp2_with fail
  refine HC.out.mono ?_
  rintro e w2 ⟨v, rfl, own2, hb2⟩
  have hbX2 : Below X.heap.size X w2 := HB9.out.trans (hb2.mono HB9.out.size)
  have s2 := XR.out.below hbX2 XR.out.lt
  have own2' := own_mono own2 HB9.out.size
  obtain ⟨SR, hSR⟩ : ∃ SR, stepR ins false st r = SR := ⟨_, rfl⟩
  rw [hSR] at own2'
  have HSR := Lh hSR
  clear own2 hb2 hSR
  obtain ⟨A2, k2, rfl, -⟩ := own_form own2'
  obtain ⟨n2, hn2⟩ : ∃ n2, SR.length = n2 := ⟨_, rfl⟩
  rw [hn2] at own2' ⊢
  have Hn2 := Lh hn2
  have c0 : w2.cell? ⟨w.heap.size + 1, 0, none⟩ = some (.slice none 0 0) := s2.cell 0
  have c1 : w2.cell? ⟨w.heap.size + 1, 1, none⟩ = some (.bool false) := s2.cell 1
  have f0 := s2.frozen 0
  have f1 := s2.frozen 1
  have Own2 := Lh own2'; have HBX2 := Lh hbX2; have S2 := Lh s2
  clear own2' hbX2 s2 hn2
  go_wp2
  have r2 := ((S2.out.set_ 0 (.slice A2 n2 k2)).set_ 1 (.bool false))
  have b2 : But [w.heap.size + 1] w2 ((w2.setCell ⟨w.heap.size + 1, 0, none⟩ (.slice A2 n2 k2)).setCell ⟨w.heap.size + 1, 1, none⟩ (.bool false)) := ((But.refl _ _).setCell (by simp) _).setCell (by simp) _
  have hs := HS.out
  have l2 : Below w.heap.size w ((w2.setCell ⟨w.heap.size + 1, 0, none⟩ (.slice A2 n2 k2)).setCell ⟨w.heap.size + 1, 1, none⟩ (.bool false)) :=
   ((HB.out.trans (HBX2.out.mono (by omega))).setCell (p := ⟨w.heap.size + 1, 0, none⟩) (Nat.le_succ _) _).setCell (p := ⟨w.heap.size + 1, 1, none⟩) (Nat.le_succ _) _
  have o2 := own_but (own_mono Own2.out (show w.heap.size ≤ X.heap.size by omega)) b2 fun k hk hm => (by
   have h1 := (Own2.out.lt k hk).1
   simp at hm
   omega)
  generalize (w2.setCell ⟨w.heap.size + 1, 0, none⟩ (.slice A2 n2 k2)).setCell ⟨w.heap.size + 1, 1, none⟩ (.bool false) = W at r2 b2 l2 o2 ⊢
  have q0 : W.cell? ⟨w.heap.size + 1, 0, none⟩ = some (.slice A2 n2 k2) := r2.cell 0
  have q1 : W.cell? ⟨w.heap.size + 1, 1, none⟩ = some (.bool false) := r2.cell 1
  clear hs
  refine bodyPost_ret (v := .agg #[.slice A2 n2 k2, .bool false]) (by simp [results, Tryz.results68, go_sem, *]) rfl ?_
  exact ⟨_, rfl, by rw [HSR.out, Hn2.out]; exact o2, l2⟩
end Go.Proofs.YtecejnilajbdpaaGreatDoor
