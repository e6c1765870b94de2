import Derived.Test.YtmcacicopgckmaaGreatDoorDg44
/-! dfa: here, States, Reset, New -/
namespace Go.Proofs.YtmcacicopgckmaaGreatDoor
open Go.RowKit Garner
theorem kept_at : ∀ {ds : List KeptD} {j : Nat} {x : KeptD}, ds[j]? = some x → ∀ k, k < 4 → (ds.flatMap KeptD.cells)[j * 4 + k]? = x.cells[k]?
  | [], j, x, h, k, _ => by simp at h
  | y :: ds, 0, x, h, k, hk => by
    simp at h
    subst h
    rw [List.flatMap_cons, Nat.zero_mul, Nat.zero_add, List.getElem?_append_left (by show k < 4; exact hk)]
  | y :: ds, j + 1, x, h, k, hk => by
    have ih := kept_at (ds := ds) (j := j) (x := x) (by simpa using h) k hk
    have e : y.cells.length = 4 := rfl
    rw [List.flatMap_cons, List.getElem?_append_right (by rw [e]; omega), e, show (j + 1) * 4 + k - 4 = j * 4 + k by omega]
    exact ih
theorem CacheIs.at_ {B0 : Nat} {w : World} {c : Nat} {t : Re} {lim : Nat} {d : CacheD} (h : CacheIs B0 w c t lim d) {j : Nat} {x : KeptD} (hx : d.ds[j]? = some x) :
    ∃ b, d.A = some ⟨b, 0, none⟩ ∧ ∀ k, k < 4 → w.cell? ⟨b, j * 4 + k, none⟩ = x.cells[k]? := by
  have hj := (List.getElem?_eq_some_iff.1 hx).1
  obtain ⟨b, hA, -, -, -, -, hcell⟩ := own_at h.own (by omega)
  exact ⟨b, hA, fun k hk => by rw [hcell _ (by omega)]; exact kept_at hx k hk⟩
set_option maxRecDepth 100000 in
set_option maxHeartbeats 8000000 in
theorem vDHere (B0 c : Nat) (t : Re) (lim : Nat) (d : CacheD) (f : Bool) (st : List Nat) (A : Option Addr) (n ca : Nat) (hn : st.length = n) (hst : ∀ x ∈ st, x < (progR t).length) (hnl : n ≤ 100000) (hA : PlainA A ca) (i : Int) (w : World) (hc : CacheIs B0 w c t lim d) (hr : RowT w 3 A n (st.map iv)) (hi : KeptAt d i f st) :
    Calls Tryz.prog 78 #[.pointer (some ⟨c, 0, none⟩), .int .i64 i, .agg #[.slice A n ca, .bool f]] w fun e w' => e = .returned (.bool (matB (progR t) st f false)) ∧ Below w.heap.size w w' := by
  obtain ⟨X, hX⟩ : ∃ X, X = w.alloc (.cells #[.slice A n ca, .bool f] 70) := ⟨_, rfl⟩
  have hbX : Below w.heap.size w X := by rw [hX]; exact (Below.refl _ _).alloc (Nat.le_refl _) _
  have bX : Blk X w.heap.size 70 [.slice A n ca, .bool f] := by rw [hX]; exact Blk.new w _ _
  have hcX := hc.below hbX
  obtain ⟨M, hM⟩ : ∃ M, d.ds.length = M := ⟨_, rfl⟩
  have hgl := hc.gc.len
  have hgb := hc.gc.lb
  rw [List.length_map, hM] at hgl
  have bcX := hcX.blk
  rw [hM] at bcX
  obtain ⟨ANS, hANS⟩ : ∃ ANS, matB (progR t) st f false = ANS := ⟨_, rfl⟩
  rw [hANS]
  rcases hi with rfl | ⟨j, x, rfl, hx, hx1, hx2⟩
  · obtain ⟨Bp, Lp, hp⟩ := hcX.prog
    have hm := vMatches hcX.good.prog st hst A n ca hn (by omega) hA f false d.g X.drew ((hr.below hbX).below (Below.refl _ _).drew) (hp.below (Below.refl _ _).drew)
    rw [hANS] at hm
    have sX : Blk X.drew c 80 [.pointer (some ⟨d.g, 0, none⟩), .int .i64 lim, .slice d.A M d.cs, .map (some d.mN), .map (some d.mE)] ∧ Blk X.drew w.heap.size 70 [.slice A n ca, .bool f] := ⟨bcX.drew, bX.drew⟩
    have HM := Lib.hid hm; have HB := Lib.hid hbX; have HX := Lib.hid hX
    clear hm hp hbX hcX hc hr hX bcX bX hM hANS hst hn
    go_enter Tryz.func78, Tryz.ntmps78
    go_upto_region 3 with fail
    rw [← HX.out]
    clear HX
    refine wp_region_N (fun w' => Blk w' c 80 [.pointer (some ⟨d.g, 0, none⟩), .int .i64 lim, .slice d.A M d.cs, .map (some d.mN), .map (some d.mE)] ∧ Blk w' w.heap.size 70 [.slice A n ca, .bool f]) 100 (by kernel_rfl) ?_
    apply wpAnyN_takeL 0 (by kernel_rfl) rfl (fun _ _ _ h => h) (by kernel_rfl) sX
    · intro w' hS'
      go_simp; exact ⟨rfl, rfl⟩
    (try simp only [Act.put]); (try simp only [List.setIfInBounds_toArray]); (try simp only [List.set])
    apply wpAnyN_takeL 1 (by kernel_rfl) rfl (fun _ _ _ h => h) (by kernel_rfl) sX
    · intro w' hS'
      go_simp; exact ⟨rfl, rfl⟩
    (try simp only [Act.put]); (try simp only [List.setIfInBounds_toArray]); (try simp only [List.set])
    apply wpAnyN_takeL 2 (by kernel_rfl) rfl (fun _ _ _ h => h) (by kernel_rfl) sX
    · intro w' hS'
      go_simp; exact ⟨rfl, rfl⟩
    (try simp only [Act.put]); (try simp only [List.setIfInBounds_toArray]); (try simp only [List.set])
    apply wpAnyN_takeL 3 (v := (.pointer (some ⟨d.g, 0, none⟩))) (by kernel_rfl) rfl (fun _ _ _ h => h) (by kernel_rfl) sX
    · intro w' hS'
      (have k3 := hS'.1.cell 0; go_simp; exact ⟨rfl, rfl⟩)
    (try simp only [Act.put]); (try simp only [List.setIfInBounds_toArray]); (try simp only [List.set])
    apply wpAnyN_takeL 4 (v := (.agg #[.slice A n ca, .bool f])) (by kernel_rfl) rfl (fun _ _ _ h => h) (by kernel_rfl) sX
    · intro w' hS'
      (have k0 := hS'.2.cell 0; have k1 := hS'.2.cell 1; go_simp; exact ⟨rfl, rfl⟩)
    (try simp only [Act.put]); (try simp only [List.setIfInBounds_toArray]); (try simp only [List.set])
    refine wpAnyN_runL 5 (by kernel_rfl) rfl (by kernel_rfl) (fun K hK => ?_)
    go_simp
    refine HM.out.mono ?_
    rintro e w1 ⟨rfl, hb1⟩
    have s1 : Blk w1 c 80 [.pointer (some ⟨d.g, 0, none⟩), .int .i64 lim, .slice d.A M d.cs, .map (some d.mN), .map (some d.mE)] ∧ Blk w1 w.heap.size 70 [.slice A n ca, .bool f] := ⟨sX.1.below hb1 sX.1.lt, sX.2.below hb1 sX.2.lt⟩
    have hb := HB.out.trans (((Below.refl _ _).drew.trans hb1).mono HB.out.size)
    have HB1 := Lib.hid hb
    refine hK _ _ (fun _ => s1) ?_
    clear hK K hb1 sX hb
    (try simp only [Act.put])
    refine wpAnyN_runL 6 (by kernel_rfl) rfl (by kernel_rfl) (fun K hK => ?_)
    go_simp
    refine hK _ _ (fun _ => s1) ?_
    clear hK K
    (try simp only [Act.put])
    refine wpAnyN_done (by kernel_rfl) ?_ _
    go_wp2
    go_ret
    exact ⟨rfl, HB1.out⟩
  · obtain ⟨b, hAb, hcell⟩ := hcX.at_ hx
    have k2 := hcell 2 (by omega)
    have hk2 : X.cell? ⟨b, j * 4 + 2, none⟩ = some (.bool ANS) := by
      rw [k2]
      show some (Value.bool x.p.here) = _
      rw [hc.gc.here x.p (List.mem_map.2 ⟨x, List.mem_of_getElem? hx, rfl⟩), hx1, hx2, hANS]
    have hjl := (List.getElem?_eq_some_iff.1 hx).1
    rw [hM] at hjl
    rw [hAb] at bcX
    have c2 : X.cell? ⟨c, 2, none⟩ = some (.slice (some ⟨b, 0, none⟩) M d.cs) := bcX.cell 2
    have z1 : (0 : Int) ≤ (j : Int) := by omega
    have z2 : (j : Int) < (M : Int) := by omega
    have HB := Lib.hid hbX; have HX := Lib.hid hX
    clear hbX hcX hc hr hX bcX bX hM hANS hst hn hx hx1 hx2 k2 hcell hAb
    go_enter Tryz.func78, Tryz.ntmps78
    go_upto_region 2 with fail
    rw [← HX.out]
    clear HX
    go_wp2
    go_ret
    exact ⟨rfl, HB.out⟩
set_option maxRecDepth 100000 in
theorem vStates (B0 c : Nat) (t : Re) (lim : Nat) (d : CacheD) (w : World) (hc : CacheIs B0 w c t lim d) :
    Calls Tryz.prog 25 #[.pointer (some ⟨c, 0, none⟩)] w fun e w' => e = .returned (.int .i64 (d.ds.length : Nat)) ∧ w' = w := by
  obtain ⟨M, hM⟩ : ∃ M, d.ds.length = M := ⟨_, rfl⟩
  have hb := hc.blk
  rw [hM] at hb ⊢
  have c2 : w.cell? ⟨c, 2, none⟩ = some (.slice d.A M d.cs) := hb.cell 2
  clear hb hM hc
  go_enter Tryz.func25, Tryz.ntmps25
  go_wp2
  go_ret
  exact ⟨rfl, rfl⟩
theorem nStates (w : World) : Calls Tryz.prog 25 #[.pointer none] w fun e w' => e = .returned (.int .i64 0) ∧ w' = w := by
  go_enter Tryz.func25, Tryz.ntmps25
  go_wp2
  go_ret
  exact ⟨rfl, rfl⟩
theorem nReset (w : World) : Calls Tryz.prog 24 #[.pointer none] w fun e w' => e = .returned (.tuple #[]) ∧ w' = w := by
  go_enter Tryz.func24, Tryz.ntmps24
  go_wp2
  go_end0
  exact ⟨rfl, rfl⟩
theorem nDWhole (s : ByteArray) (w : World) : Calls Tryz.prog 26 #[.pointer none, .string s] w fun e w' => e = .returned (.bool false) ∧ w' = w := by
  go_enter Tryz.func26, Tryz.ntmps26
  go_wp2
  go_ret
  exact ⟨rfl, rfl⟩
theorem nDPart (s : ByteArray) (w : World) : Calls Tryz.prog 27 #[.pointer none, .string s] w fun e w' => e = .returned (.bool false) ∧ w' = w := by
  go_enter Tryz.func27, Tryz.ntmps27
  go_wp2
  go_ret
  exact ⟨rfl, rfl⟩
set_option maxRecDepth 100000 in
set_option maxHeartbeats 8000000 in
theorem vReset0 (B0 c g lim : Nat) (t : Re) (x y z : Value) (w : World) (hb : Blk w c 80 [.pointer (some ⟨g, 0, none⟩), .int .i64 lim, x, y, z]) (hp : ∃ B L, ProgIs w B L w g (progR t)) (hg : GoodT t) (hl : lim ≤ 32) (hB : B0 ≤ c) :
    Calls Tryz.prog 24 #[.pointer (some ⟨c, 0, none⟩)] w fun e w' => e = .returned (.tuple #[]) ∧ But [c] w w' ∧ KeepM TC w w' ∧ ∃ d, CacheIs B0 w' c t lim d ∧ d.ds = [] ∧ ∀ k ∈ d.S c, k = c ∨ w.heap.size ≤ k := by
  have hlt := hb.lt
  obtain ⟨V, hV⟩ : ∃ V, V = ((w.setCell ⟨c, 2, none⟩ (.slice none 0 0)).setCell ⟨c, 3, none⟩ (.map (some w.heap.size))).setCell ⟨c, 4, none⟩ (.map (some (w.heap.size + 1))) := ⟨_, rfl⟩
  have bV : Blk V c 80 [.pointer (some ⟨g, 0, none⟩), .int .i64 lim, .slice none 0 0, .map (some w.heap.size), .map (some (w.heap.size + 1))] := by
    rw [hV]; exact ((hb.set_ 2 _).set_ 3 _).set_ 4 _
  have buV : But [c] w V := by
    rw [hV]
    exact (((But.refl _ _).setCell (p := ⟨c, 2, none⟩) (by simp) _).setCell (p := ⟨c, 3, none⟩) (by simp) _).setCell (p := ⟨c, 4, none⟩) (by simp) _
  have keV : KeepM TC w V := by
    rw [hV]
    exact (((KeepM.refl _ _).setCell (p := ⟨c, 2, none⟩) hb (by decide) _).setCell (p := ⟨c, 3, none⟩) (hb.set_ 2 _) (by decide) _).setCell (p := ⟨c, 4, none⟩) ((hb.set_ 2 _).set_ 3 _) (by decide) _
  have sV : V.heap.size = w.heap.size := by rw [hV]; simp [World.setCell]
  obtain ⟨Y, hY⟩ : ∃ Y, Y = (V.alloc (.map #[] 0)).alloc (.map #[] 0) := ⟨_, rfl⟩
  have hbY : Below V.heap.size V Y := by rw [hY]; exact ((Below.refl _ _).alloc (Nat.le_refl _) _).alloc (by simp) _
  have m1 : MapF strK Y w.heap.size 0 (fun _ => none) := by
    have h := (MapF.made (key := strK) V).below ((Below.refl _ _).alloc (Nat.le_refl _) (.map #[] 0))
    rw [sV, ← hY] at h
    exact h
  have m2 : MapF edgeK Y (w.heap.size + 1) 0 (fun _ => none) := by
    have h := MapF.made (key := edgeK) (V.alloc (.map #[] 0))
    rw [← hY, World.size_alloc, sV] at h
    exact h
  have bY := bV.below hbY bV.lt
  have keep := keV.trans (KeepM.of_below hbY)
  obtain ⟨B, L, hp⟩ := hp
  have sY : w.heap.size ≤ Y.heap.size := by rw [← sV]; exact hbY.size
  have hci : CacheIs B0 Y c t lim ⟨g, none, 0, w.heap.size, w.heap.size + 1, 0, 0, fun _ => none, fun _ => none, []⟩ :=
    ⟨bY, ⟨B, L, hp.selfM keep (by decide) (by decide) (by decide)⟩, hg, World.ownsRow_nil _ _ _ _, (fun x hx => by cases hx), m1, m2, (by show w.heap.size ≠ w.heap.size + 1; omega), GoodC.none _ hl, Nat.zero_le _, hB, by show B0 ≤ w.heap.size; omega, by show B0 ≤ w.heap.size + 1; omega, by omega⟩
  have hbut : But [c] w Y := buV.trans (But.of_below hbY)
  have hs2 : ∀ k ∈ CacheD.S ⟨g, none, 0, w.heap.size, w.heap.size + 1, 0, 0, fun _ => none, fun _ => none, []⟩ c, k = c ∨ w.heap.size ≤ k := fun k hk => by
    simp [CacheD.S] at hk
    omega
  have HC := Lib.hid hci; have HB := Lib.hid hbut; have HK := Lib.hid keep; have HS := Lib.hid hs2; have HY := Lib.hid hY; have HV := Lib.hid hV
  have al : ∀ (v : World) (l : List Value) (i : Nat) (u : Value), Blk v c 80 l → l[i]? = some u → (((v.alloc (.map #[] 0)).alloc (.map #[] 0)).cell? ⟨c, i, none⟩ = some u ∧ ((v.alloc (.map #[] 0)).alloc (.map #[] 0)).frozen? ⟨c, i, none⟩ = false) := fun v l i u hv hu => ⟨(((hv.alloc _).alloc _).cell i).trans hu, ((hv.alloc _).alloc _).frozen i⟩
  obtain ⟨c2, f2⟩ := al w _ 2 x hb rfl
  obtain ⟨c3, f3⟩ := al _ _ 3 y (hb.set_ 2 (.slice none 0 0)) rfl
  obtain ⟨c4, f4⟩ := al _ _ 4 z ((hb.set_ 2 (.slice none 0 0)).set_ 3 (.map (some w.heap.size))) rfl
  have hmm := @run_makeMap Tryz.prog
  clear hci hbut keep hs2 hY m1 m2 bV bY buV keV hp hb hbY hV sV al
  go_enter Tryz.func24, Tryz.ntmps24
  go_wp2
  go_end0
  rw [← HV.out, ← HY.out]
  exact ⟨rfl, HB.out, HK.out, _, HC.out, rfl, HS.out⟩
/-- what New answers: a pointer and a number -/
def NewDK (B0 : Nat) (lim : Int) (o : Except Nat Re) (p : Option Addr) (k : Nat) (w' : World) : Prop :=
  if lim < 0 ∨ 32 < lim then p = none ∧ k = 1 else match o with
  | .error n => p = none ∧ k = n ∧ 0 < n ∧ n ≤ 40
  | .ok t => k = 0 ∧ ∃ (c m : Nat) (d : CacheD), lim = (m : Int) ∧ p = some ⟨c, 0, none⟩ ∧ CacheIs B0 w' c t m d ∧ d.ds = []
set_option maxRecDepth 100000 in
set_option maxHeartbeats 8000000 in
theorem vDNew (l : Bs) (S : ByteArray) (hS : S = ⟨l.toArray⟩) (lim : Int) (w : World) (hL : Lt w) (hl : l.length ≤ 9223372036854775807) :
    Calls Tryz.prog 22 #[.string S, .int .i64 lim] w fun e w' => ∃ (p : Option Addr) (k : Nat), e = .returned (.tuple #[.pointer p, .int .i64 (k : Nat)]) ∧ Below w.heap.size w w' ∧ NewDK w.heap.size lim (rexpP l) p k w' := by
  have eS : str l = .string S := by rw [hS]
  have hp := vParse l w hL hl
  have hg := fun t => @rexp_good l t
  have he := fun k => @err_pos l k
  rw [eS] at hp
  obtain ⟨OUT, hOUT⟩ : ∃ OUT, rexpP l = OUT := ⟨_, rfl⟩
  rw [hOUT] at hp ⊢
  unfold NewDK
  by_cases hlim : lim < 0 ∨ 32 < lim
  · simp only [if_pos hlim]
    have hc : lim < 0 ∨ (¬ lim < 0 ∧ lim > 32) := by omega
    clear hp hg he hOUT hlim
    go_enter Tryz.func22, Tryz.ntmps22
    rcases hc with z1 | ⟨z1, z2⟩
    all_goals
      go_wp2
      go_ret2
      exact ⟨none, 1, rfl, Below.refl _ _, rfl, rfl⟩
  · simp only [if_neg hlim]
    obtain ⟨m, rfl⟩ : ∃ m : Nat, lim = (m : Int) := ⟨lim.toNat, by omega⟩
    have hm : m ≤ 32 := by omega
    have z1 : ¬ (m : Int) < 0 := by omega
    have z2 : ¬ (m : Int) > 32 := by omega
    have HP := Lib.hid hp
    cases OUT with
    | error k =>
      have hk := he k hOUT
      have z3 : ¬ (k : Int) = 0 := by omega
      have Hk := Lib.hid hk
      clear hp hg he hOUT hk hlim
      go_enter Tryz.func22, Tryz.ntmps22
      go_wp2_with fail
      refine HP.out.mono ?_
      rintro e w1 ⟨hb, ho⟩
      obtain rfl : e = _ := ho
      go_wp2
      go_ret2
      exact ⟨none, k, rfl, hb, rfl, rfl, Hk.out⟩
    | ok t =>
      have hgt := hg t hOUT
      have HG := Lib.hid hgt
      clear hp hg he hOUT hgt hlim
      go_enter Tryz.func22, Tryz.ntmps22
      go_wp2_with fail
      refine HP.out.mono ?_
      rintro e w1 ⟨hb, v, rfl, hn⟩
      obtain ⟨N, hN⟩ : ∃ N, (t.flat 0).length = N := ⟨_, rfl⟩
      obtain ⟨A, c, hv⟩ : ∃ A c, v = .slice A N c := by
        obtain ⟨ds, -, ho, -⟩ := hn
        obtain ⟨A, c, e, -⟩ := own_form ho
        exact ⟨A, c, by rw [← hN]; exact e⟩
      subst hv
      have hc := vCompile w1 A c N t hN hn HG.out.cnt HG.out.ok HG.out.lim HG.out.len
      have HC := Lib.hid hc; have HB := Lib.hid hb
      clear hc hn hN hb
      go_wp2_with fail
      refine HC.out.mono ?_
      rintro e w2 ⟨g, rfl, hgw, hps, hb2⟩
      have hs2 := HB.out.size
      obtain ⟨X, hX⟩ : ∃ X, X = w2.alloc (.cells #[.pointer (some ⟨g, 0, none⟩), .int .i64 (m : Nat), .slice none 0 0, .map none, .map none] 80) := ⟨_, rfl⟩
      have hbX : Below w2.heap.size w2 X := by rw [hX]; exact (Below.refl _ _).alloc (Nat.le_refl _) _
      have bX : Blk X w2.heap.size 80 [.pointer (some ⟨g, 0, none⟩), .int .i64 (m : Nat), .slice none 0 0, .map none, .map none] := by rw [hX]; exact Blk.new w2 _ _
      have hpX : ProgIs X _ _ X g (progR t) := (hps.below hbX).self (hb2.trans (hbX.mono hb2.size))
      have hwX : Below w.heap.size w X := (HB.out.trans (hb2.mono hs2)).trans (hbX.mono (Nat.le_trans hs2 hb2.size))
      have hr := vReset0 w.heap.size w2.heap.size g m t _ _ _ X bX ⟨_, _, hpX⟩ HG.out hm (Nat.le_trans hs2 hb2.size)
      have hw2 : w.heap.size ≤ w2.heap.size := Nat.le_trans hs2 hb2.size
      have HR := Lib.hid hr; have HX := Lib.hid hwX; have HsX := Lib.hid (Nat.le_trans hw2 hbX.size)
      clear hps hb2 hpX bX hbX hr hwX
      go_wp2_with fail
      rw [← hX]
      refine HR.out.mono ?_
      rintro e w3 ⟨rfl, hbut, hkeep, d, hci, hds, -⟩
      have HD := Lib.hid hci; have Hbu := Lib.hid hbut
      clear hX hci hbut hkeep
      go_wp2
      go_ret2
      exact ⟨_, 0, rfl, HX.out.trans (Hbu.out.below HsX.out (by simpa using hw2)), rfl, _, m, d, rfl, rfl, HD.out, hds⟩
end Go.Proofs.YtmcacicopgckmaaGreatDoor

/-! dfa: where the loop over a text's runes stands -/
namespace Go.Proofs.YtmcacicopgckmaaGreatDoor
open Go.RowKit Garner
/-- the types of what a call of a cache's writes, its state's box too -/
abbrev TD : List TypeId := [80, 129, 70]
section
variable {B0 : Nat} {w w' : World} {c : Nat} {t : Re} {lim : Nat} {d : CacheD}
theorem KeepM.more {T U : List TypeId} (h : KeepM T w w') (hs : ∀ x ∈ T, x ∈ U) : KeepM U w w' := ⟨h.os, h.tape, h.output, h.size, fun k cs t z hk hn => h.block k cs t z hk fun hm => hn (hs t hm)⟩
theorem CacheIs.otherD {S : List Nat} (h : CacheIs B0 w c t lim d) (hb : But S w w') (hk : KeepM TD w w') (hS : ∀ k ∈ d.S c, k ∉ S) : CacheIs B0 w' c t lim d := by
  have m1 : c ∈ d.S c := by simp [CacheD.S]
  have m2 : d.mN ∈ d.S c := by simp [CacheD.S]
  have m3 : d.mE ∈ d.S c := by simp [CacheD.S]
  obtain ⟨B, L, hp⟩ := h.prog
  exact ⟨h.blk.but hb (hS _ m1), ⟨B, L, hp.selfM hk (by decide) (by decide) (by decide)⟩, h.good, own_but h.own hb fun g hg => hS _ (CacheD.S_own hg), fun x hx => ⟨(h.rows x hx).1.keepM hk (by decide), (h.rows x hx).2⟩,
    h.mapN.of_block (hb.block _ h.mapN.lt (hS _ m2)), h.mapE.of_block (hb.block _ h.mapE.lt (hS _ m3)), h.ne, h.gc, h.few, h.low.1, h.low.2.1, h.low.2.2.1, Nat.le_trans h.low.2.2.2 hb.size⟩
/-- a cache's blocks are its box, its maps and a row of states -/
theorem CacheIs.kind (h : CacheIs B0 w c t lim d) : ∀ k ∈ d.S c, (∃ es ck, w.heap[k]? = some (.map es ck)) ∨ ∃ cs t z, w.heap[k]? = some (.cells cs t z) ∧ t ∈ TC := fun k hk => by
  unfold CacheD.S at hk
  rcases List.mem_cons.1 hk with rfl | hk
  · exact .inr ⟨_, _, _, h.blk, by decide⟩
  rcases List.mem_cons.1 hk with rfl | hk
  · obtain ⟨es, ck, hm, -⟩ := h.mapN; exact .inl ⟨es, ck, hm⟩
  rcases List.mem_cons.1 hk with rfl | hk
  · obtain ⟨es, ck, hm, -⟩ := h.mapE; exact .inl ⟨es, ck, hm⟩
  cases hA : d.A with
  | none => rw [hA] at hk; cases hk
  | some a =>
    rw [hA] at hk
    rw [List.mem_singleton] at hk
    subst hk
    obtain ⟨cs, t', z, h1, rfl⟩ := own_typed h.own a.block (by rw [hA]; simp [Value.ownBlock])
    exact .inr ⟨cs, _, z, h1, by decide⟩
theorem CacheIs.not_iter (h : CacheIs B0 w c t lim d) {K : Nat} {s : ByteArray} {p : Nat} (hK : w.heap[K]? = some (.stringIter s p)) : K ∉ d.S c := fun hm => by
  rcases h.kind K hm with ⟨es, ck, h1⟩ | ⟨cs, t', z, h1, -⟩ <;> (rw [hK] at h1; cases h1)
theorem CacheIs.not_box (h : CacheIs B0 w c t lim d) {q : Nat} {t' : TypeId} {cs : List Value} (hq : Blk w q t' cs) (ht : t' ∉ TC) : q ∉ d.S c := fun hm => by
  unfold Blk at hq
  rcases h.kind q hm with ⟨es, ck, h1⟩ | ⟨cs', t2, z, h1, h2⟩
  · rw [hq] at h1; cases h1
  · rw [hq] at h1; cases h1; exact ht h2
theorem but_iter {K : Nat} {s : ByteArray} {p : Nat} : But [K] w (w.iterAt K s p) := ⟨rfl, rfl, rfl, by rw [Lib.iterAt_size]; exact Nat.le_refl _, fun i _ hi => Lib.iterAt_other _ _ _ _ _ (by simpa using hi)⟩
theorem keep_iter {T : List TypeId} {K : Nat} {s : ByteArray} {p p' : Nat} (hK : w.heap[K]? = some (.stringIter s p)) : KeepM T w (w.iterAt K s p') := ⟨rfl, rfl, rfl, by rw [Lib.iterAt_size]; exact Nat.le_refl _, fun i cs t z hi _ => Lib.iterAt_other _ _ _ _ _ (by rintro rfl; rw [hK] at hi; cases hi)⟩
end
/-- what is written is new -/
theorem CStep.far {c : Nat} {w w1 w2 : World} {d0 d : CacheD} {T : List Nat} {U : List TypeId} (h : CStep c w d0 w1 d) (hb : But T w1 w2) (hT : ∀ x ∈ T, w.heap.size ≤ x) (hk : KeepM U w1 w2) : CStep c w d0 w2 d :=
  ⟨h.but.old hb fun x hx => .inr (hT x hx), ⟨hk.os.trans h.keep.os, hk.tape.trans h.keep.tape, hk.output.trans h.keep.output, Nat.le_trans h.keep.size hk.size, fun k cs t z hc hn => by
    have hlt := (Array.getElem?_eq_some_iff.1 hc).1
    rw [hb.block k (Nat.lt_of_lt_of_le hlt h.keep.size) fun hm => by have := hT k hm; omega]
    exact h.keep.block k cs t z hc hn⟩, h.sub, h.more⟩
theorem end_whole {t : Re} (ht : t.ok) (rs : List Nat) : matB (progR t) (runR (progR t) false rs rs.length) (decide (rs.length = 0)) true = wholeB t rs := by
  rw [Bool.eq_iff_iff, matB_iff, if_pos rfl, whole_iff, ← whole_R ht rs]
  rfl
theorem end_part {t : Re} (ht : t.ok) (rs : List Nat) (hno : ∀ m, m < rs.length → ¬ MatR (progR t) (runR (progR t) true rs m)) : matB (progR t) (runR (progR t) true rs rs.length) (decide (rs.length = 0)) true = partB t rs := by
  rw [Bool.eq_iff_iff, matB_iff, if_pos rfl, part_iff, ← part_R ht rs]
  constructor
  · exact .inr
  · rintro (⟨m, hm, hx⟩ | hx)
    · exact absurd hx (hno m hm)
    · exact hx
theorem found_part {t : Re} (ht : t.ok) {rs : List Nat} {k r : Nat} {fb : Bool} (hr : rs[k]? = some r) (hm : matB (progR t) (runR (progR t) true rs k) fb false = true) : partB t rs = true := by
  rw [matB_iff, if_neg (by simp)] at hm
  rw [part_iff, ← part_R ht rs]
  exact .inl ⟨k, (List.getElem?_eq_some_iff.1 hr).1, hm⟩
/-- what run answers -/
noncomputable def ansD (part : Bool) (t : Re) (rs : List Nat) : Bool := if part = true then partB t rs else wholeB t rs
/-- where the loop stands -/
structure LoopD (B0 : Nat) (w0 : World) (d0 : CacheD) (wr : World) (q K c : Nat) (t : Re) (lim : Nat) (d : CacheD) (l : Bs) (rs : List Nat) (part : Bool) (pos k : Nat) (A : Option Addr) (n ca : Nat) (fb : Bool) (st : List Nat) (i : Int) : Prop where
  it : wr.heap[K]? = some (.stringIter ⟨l.toArray⟩ pos)
  blk : Blk wr q 70 [.slice A n ca, .bool fb]
  row : RowT wr 3 A n (st.map iv)
  pl : PlainA A ca
  eq : st = runR (progR t) part rs k
  len : st.length = n
  feq : fb = decide (k = 0)
  at_ : RunAt l rs pos k
  ci : CacheIs B0 wr c t lim d
  cs : CStep c w0 d0 wr d
  ke : KeptAt d i fb st
  pos : 0 < lim → 0 < d.ds.length
  no : part = true → ∀ m, m < k → ¬ MatR (progR t) (runR (progR t) true rs m)
  qB : w0.heap.size ≤ q
  kB : w0.heap.size ≤ K
section
variable {B0 : Nat} {w0 : World} {d0 : CacheD} {wr : World} {q K c : Nat} {t : Re} {lim : Nat} {d : CacheD} {l : Bs} {rs : List Nat} {part : Bool} {pos k : Nat} {A : Option Addr} {n ca : Nat} {fb : Bool} {st : List Nat} {i : Int}
theorem LoopD.nle (h : LoopD B0 w0 d0 wr q K c t lim d l rs part pos k A n ca fb st i) : n ≤ 100000 := by
  rw [← h.len, h.eq]; exact Nat.le_trans (run_len k) h.ci.good.prog.small
theorem LoopD.lt (h : LoopD B0 w0 d0 wr q K c t lim d l rs part pos k A n ca fb st i) : ∀ x ∈ st, x < (progR t).length := by
  rw [h.eq]; exact run_lt k
/-- of the runes one is taken: the iterator has gone on -/
structure MidD (B0 : Nat) (w0 : World) (d0 : CacheD) (Y : World) (q K c : Nat) (t : Re) (lim : Nat) (d : CacheD) (l : Bs) (rs : List Nat) (part : Bool) (pos' k r : Nat) (A : Option Addr) (n ca : Nat) (fb : Bool) (st : List Nat) (i : Int) : Prop where
  it : Y.heap[K]? = some (.stringIter ⟨l.toArray⟩ pos')
  blk : Blk Y q 70 [.slice A n ca, .bool fb]
  row : RowT Y 3 A n (st.map iv)
  pl : PlainA A ca
  eq : st = runR (progR t) part rs k
  len : st.length = n
  feq : fb = decide (k = 0)
  rk : rs[k]? = some r
  at_ : RunAt l rs pos' (k + 1)
  ci : CacheIs B0 Y c t lim d
  cs : CStep c w0 d0 Y d
  ke : KeptAt d i fb st
  pos : 0 < lim → 0 < d.ds.length
  no : part = true → ∀ m, m < k → ¬ MatR (progR t) (runR (progR t) true rs m)
  qB : w0.heap.size ≤ q
  kB : w0.heap.size ≤ K
theorem LoopD.take (h : LoopD B0 w0 d0 wr q K c t lim d l rs part pos k A n ca fb st i) {r q' : Nat} (hr : runesP (l.drop pos) = r :: runesP (l.drop (pos + q'))) : MidD B0 w0 d0 (wr.iterAt K ⟨l.toArray⟩ (pos + q')) q K c t lim d l rs part (pos + q') k r A n ca fb st i := by
  obtain ⟨hk, hat⟩ := h.at_.next hr
  have hb : But [K] wr (wr.iterAt K ⟨l.toArray⟩ (pos + q')) := but_iter
  have hkp : ∀ {T : List TypeId}, KeepM T wr (wr.iterAt K ⟨l.toArray⟩ (pos + q')) := keep_iter h.it
  exact ⟨Lib.iterAt_heap _ _ _ _ _ h.it, h.blk.iterAt h.it, h.row.keepM (T := []) hkp (by simp), h.pl, h.eq, h.len, h.feq, hk, hat, h.ci.otherD hb hkp fun x hx hm => by
    rw [List.mem_singleton] at hm
    subst hm
    exact h.ci.not_iter h.it hx, h.cs.far (U := []) hb (by simpa using h.kB) hkp, h.ke, h.pos, h.no, h.qB, h.kB⟩
end
section
variable {B0 : Nat} {w0 : World} {d0 : CacheD} {Y Z : World} {q K c : Nat} {t : Re} {lim : Nat} {d : CacheD} {l : Bs} {rs : List Nat} {part : Bool} {pos' k r : Nat} {A : Option Addr} {n ca : Nat} {fb : Bool} {st : List Nat} {i : Int}
theorem MidD.nle (h : MidD B0 w0 d0 Y q K c t lim d l rs part pos' k r A n ca fb st i) : n ≤ 100000 := by
  rw [← h.len, h.eq]; exact Nat.le_trans (run_len k) h.ci.good.prog.small
theorem MidD.lt (h : MidD B0 w0 d0 Y q K c t lim d l rs part pos' k r A n ca fb st i) : ∀ x ∈ st, x < (progR t).length := by
  rw [h.eq]; exact run_lt k
theorem MidD.below (h : MidD B0 w0 d0 Y q K c t lim d l rs part pos' k r A n ca fb st i) (hb : Below Y.heap.size Y Z) : MidD B0 w0 d0 Z q K c t lim d l rs part pos' k r A n ca fb st i :=
  ⟨(hb.block _ (Array.getElem?_eq_some_iff.1 h.it).1).trans h.it, h.blk.below hb h.blk.lt, h.row.below hb, h.pl, h.eq, h.len, h.feq, h.rk, h.at_, h.ci.below hb, h.cs.trans (.of_below hb), h.ke, h.pos, h.no, h.qB, h.kB⟩
theorem MidD.not (h : MidD B0 w0 d0 Y q K c t lim d l rs part pos' k r A n ca fb st i) (hm : part = true → matB (progR t) st fb false = false) : part = true → ∀ m, m < k + 1 → ¬ MatR (progR t) (runR (progR t) true rs m) := fun hp m hk => by
  rcases Nat.lt_or_ge m k with h1 | h1
  · exact h.no hp m h1
  · obtain rfl : m = k := by omega
    intro hx
    have e := h.eq
    subst hp
    have : matB (progR t) st fb false = true := by rw [matB_iff, if_neg (by simp), e]; exact hx
    rw [hm rfl] at this
    cases this
/-- the state behind the rune is laid in the box; what is kept is told anew -/
theorem MidD.step (h : MidD B0 w0 d0 Y q K c t lim d l rs part pos' k r A n ca fb st i) {A' : Option Addr} {n' ca' : Nat} {i' : Int} {W : World} (hno : part = true → ∀ m, m < k + 1 → ¬ MatR (progR t) (runR (progR t) true rs m))
    (hb : But [q] Y W) (hk : KeepM TD Y W) (hblk : Blk W q 70 [.slice A' n' ca', .bool false]) (hrow : RowT W 3 A' n' ((stepR (progR t) part st r).map iv)) (hpl : PlainA A' ca') (hn : (stepR (progR t) part st r).length = n') (hke : KeptAt d i' false (stepR (progR t) part st r)) :
    LoopD B0 w0 d0 W q K c t lim d l rs part pos' (k + 1) A' n' ca' false (stepR (progR t) part st r) i' := by
  have hit : W.heap[K]? = some (.stringIter ⟨l.toArray⟩ pos') := by
    rw [hb.block K (Array.getElem?_eq_some_iff.1 h.it).1 (by
      simp only [List.mem_singleton]
      rintro rfl
      have := h.blk
      unfold Blk at this
      rw [h.it] at this
      cases this)]
    exact h.it
  exact ⟨hit, hblk, hrow, hpl, by rw [h.eq]; simp only [runR, h.rk], hn, rfl, h.at_, h.ci.otherD hb hk fun x hx hm => by
    rw [List.mem_singleton] at hm
    subst hm
    exact h.ci.not_box h.blk (by decide) hx, h.cs.far hb (by simpa using h.qB) hk, hke, h.pos, hno, h.qB, h.kB⟩
/-- a call of the cache's own has gone by -/
theorem LoopD.call {fb : Bool} {i' : Int} {d' : CacheD} {k : Nat} (h : LoopD B0 w0 d0 Y q K c t lim d l rs part pos' k A n ca fb st i) (hc : CacheIs B0 Z c t lim d') (hs : CStep c Y d Z d') (hke : KeptAt d' i' fb st) (hp : 0 < lim → 0 < d'.ds.length) : LoopD B0 w0 d0 Z q K c t lim d' l rs part pos' k A n ca fb st i' :=
  ⟨by rw [hs.but.block K (Array.getElem?_eq_some_iff.1 h.it).1 (h.ci.not_iter h.it)]; exact h.it, hs.keep.blk h.blk (by decide), h.row.keepM hs.keep (by decide), h.pl, h.eq, h.len, h.feq, h.at_, hc, h.cs.trans hs, hke, hp, h.no, h.qB, h.kB⟩
end
/-- an edge's key -/
def edgeAt (i : Int) (r : Nat) (part : Bool) : EdgeP := ⟨⟨(i + 1).toNat % 40, Nat.mod_lt _ (by decide)⟩, ⟨r % 1114112, Nat.mod_lt _ (by decide)⟩, part⟩
theorem edgeAt_key {i : Int} {r : Nat} {part : Bool} (h1 : -1 ≤ i) (h2 : i < 39) (hr : r ≤ 1114111) : edgeK (edgeAt i r part) = .agg #[.int .i64 i, .int .i32 (r : Nat), .bool part] ∧ ((edgeAt i r part).from_ : Nat) = (i + 1).toNat ∧ ((edgeAt i r part).r : Nat) = r := by
  have e1 : ((edgeAt i r part).from_ : Nat) = (i + 1).toNat := by show (i + 1).toNat % 40 = _; exact Nat.mod_eq_of_lt (by omega)
  have e2 : ((edgeAt i r part).r : Nat) = r := by show r % 1114112 = _; exact Nat.mod_eq_of_lt (by omega)
  refine ⟨?_, e1, e2⟩
  unfold edgeK
  rw [e1, e2, show (((i + 1).toNat : Int) - 1) = i by omega]
  rfl
theorem KeptAt.range {B0 : Nat} {w : World} {c : Nat} {t : Re} {lim : Nat} {d : CacheD} {i : Int} {f : Bool} {st : List Nat} (h : KeptAt d i f st) (hc : CacheIs B0 w c t lim d) : -1 ≤ i ∧ i < 39 := by
  have h1 := hc.gc.len
  have h2 := hc.gc.lb
  rw [List.length_map] at h1
  rcases h with rfl | ⟨j, x, rfl, hx, -⟩
  · omega
  · have := (List.getElem?_eq_some_iff.1 hx).1
    omega
/-- an edge is kept -/
theorem CacheIs.put {B0 : Nat} {w w' : World} {c : Nat} {t : Re} {lim : Nat} {d : CacheD} {n' : Nat} {f' : EdgeP → Option Value} (h : CacheIs B0 w c t lim d) (hm : MapF edgeK w' d.mE n' f') (hg : w.grownBy w' (some d.mE)) (hn : n' ≤ 4096) (hgc : GoodC (progR t) lim (d.ds.map (·.p)) d.nm f') :
    CacheIs B0 w' c t lim { d with nE := n', ed := f' } ∧ CStep c w d w' { d with nE := n', ed := f' } := by
  obtain ⟨es, ck, hE, -⟩ := id h.mapE
  have hkp : KeepM TC w w' := .grown hg fun k hk cs t' z hc => by
    injection hk with hk
    rw [← hk, hE] at hc
    cases hc
  have hcn : some c ≠ some d.mE := fun e => by
    injection e with e
    have hb := h.blk
    unfold Blk at hb
    rw [e, hE] at hb
    cases hb
  obtain ⟨B, L, hp⟩ := h.prog
  refine ⟨⟨h.blk.grown hg hcn, ⟨B, L, hp.selfM hkp (by decide) (by decide) (by decide)⟩, h.good, own_grown h.own hg ?_, fun x hx => ⟨(h.rows x hx).1.keepM hkp (by decide), (h.rows x hx).2⟩, h.mapN.of_block (hg.block _ h.mapN.lt fun e => h.ne (Option.some.inj e)), hm, h.ne, hgc, hn, h.low.1, h.low.2.1, h.low.2.2.1, Nat.le_trans h.low.2.2.2 hg.size⟩,
    ⟨.grown hg fun k hk => by injection hk with hk; rw [← hk]; simp [CacheD.S], hkp, fun k hk => .inl hk, fun _ _ hx => hx⟩⟩
  rcases hb : (Value.slice d.A d.ds.length d.cs).ownBlock with _ | k
  · exact .inl rfl
  · refine .inr fun e => ?_
    obtain ⟨cs', t2, z', h3, -⟩ := own_typed h.own k hb
    injection e with e
    rw [e, hE] at h3
    cases h3
theorem ans_end {t : Re} (ht : t.ok) (part : Bool) (rs : List Nat) (hno : part = true → ∀ m, m < rs.length → ¬ MatR (progR t) (runR (progR t) true rs m)) : matB (progR t) (runR (progR t) part rs rs.length) (decide (rs.length = 0)) true = ansD part t rs := by
  unfold ansD
  cases part with
  | true => rw [if_pos rfl]; exact end_part ht rs (hno rfl)
  | false => rw [if_neg (by simp)]; exact end_whole ht rs
end Go.Proofs.YtmcacicopgckmaaGreatDoor

