import Derived.Test.YtecejnilajbdpaaGreatDoorTz39
set_option maxRecDepth 100000
set_option maxHeartbeats 16000000
namespace Go.Proofs.YtecejnilajbdpaaGreatDoor
open Go.RowKit Garner
structure KeepM (T : List TypeId) (w w' : World) : Prop where
 os : w'.os = w.os
 tape : w'.tape = w.tape
 output : w'.output = w.output
 size : w.heap.size ≤ w'.heap.size
 block : ∀ (k : Nat) (cs : Array Value) (t : TypeId) (z : Nat × Nat), w.heap[k]? = some (.cells cs t z) → t ∉ T → w'.heap[k]? = w.heap[k]?
section
variable {T : List TypeId} {a b c w w' : World}
theorem KeepM.refl (T : List TypeId) (w : World) : KeepM T w w := ⟨rfl, rfl, rfl, Nat.le_refl _, fun _ _ _ _ _ _ => rfl⟩
theorem KeepM.trans (h : KeepM T a b) (k : KeepM T b c) : KeepM T a c :=
 ⟨k.os.trans h.os, k.tape.trans h.tape, k.output.trans h.output, Nat.le_trans h.size k.size, fun i cs t z hi hn => by
  have h1 := h.block i cs t z hi hn
  rw [k.block i cs t z (h1.trans hi) hn, h1]⟩
theorem KeepM.of_below (h : Below w.heap.size w w') : KeepM T w w' := ⟨h.os, h.tape, h.output, h.size, fun k _ _ _ hk _ => h.block k (Array.getElem?_eq_some_iff.1 hk).1⟩
theorem KeepM.drew (h : KeepM T a w) : KeepM T a w.drew := ⟨h.os, h.tape, h.output, h.size, h.block⟩
theorem KeepM.setCell (h : KeepM T a w) {p : Addr} {cs : Array Value} {t : TypeId} {z : Nat × Nat} (hp : w.heap[p.block]? = some (.cells cs t z)) (ht : t ∈ T) (u : Value) : KeepM T a (w.setCell p u) :=
 h.trans ⟨rfl, rfl, rfl, by simp [World.setCell], fun k cs' t' z' hk hn => Below.heap_setCell _ _ _ _ fun e => by
  rw [← e, hk] at hp
  cases hp
  exact hn ht⟩
theorem KeepM.grown {row : Option Nat} (hg : w.grownBy w' row) (hr : ∀ k, row = some k → ∀ cs t z, w.heap[k]? = some (.cells cs t z) → t ∈ T) : KeepM T w w' :=
 ⟨hg.os, hg.tape, hg.output, hg.size, fun k cs t z hk hn => hg.block k (Array.getElem?_eq_some_iff.1 hk).1 fun e => hn (hr k e.symm cs t z hk)⟩
theorem KeepM.blk {g : Nat} {t : TypeId} {cs : List Value} (h : KeepM T w w') (hb : Blk w g t cs) (ht : t ∉ T) : Blk w' g t cs := (h.block g _ _ _ hb ht).trans hb
theorem KeepM.own {B : Nat} {e : TypeId} {sz n : Nat} {v : Value} {xs : List Value} (h : KeepM T w w') (ho : w.ownsRow B e sz v n xs) (ht : e ∉ T) : w'.ownsRow B e sz v n xs := by
 obtain ⟨h1, h2⟩ := ho
 refine ⟨h1, ?_⟩
 rcases h2 with h2 | ⟨g, cap, cur, rfl, hg, hh, r⟩
 ·exact Or.inl h2
 exact Or.inr ⟨g, cap, cur, rfl, hg, (h.block g _ _ _ hh ht).trans hh, r⟩
theorem RowT.keepM {t : TypeId} {A : Option Addr} {n : Nat} {xs : List Value} (h : RowT w t A n xs) (hk : KeepM T w w') (ht : t ∉ T) : RowT w' t A n xs := by
 refine ⟨h.1, fun hn => ?_⟩
 obtain ⟨b, off, cs, z, rfl, hb, hc⟩ := h.2 hn
 exact ⟨b, off, cs, z, rfl, (hk.block b _ _ _ hb ht).trans hb, hc⟩
theorem ProgIs.keepM {W0 : World} {B : Nat} {L : Value} {g : Nat} {ins : List InstP} (h : ProgIs W0 B L w g ins) (hk : KeepM T w w') (h1 : 157 ∉ T) (h2 : 160 ∉ T) : ProgIs W0 B L w' g ins := by
 obtain ⟨O, m, h3, ds, h4, h5, h6⟩ := h.ex
 exact ⟨⟨O, m, hk.blk h3 h1, ds, h4, hk.own h5 h2, h6⟩, h.nb⟩
end
theorem ProgIs.self {W0 w : World} {B : Nat} {L : Value} {g : Nat} {ins : List InstP} (h : ProgIs W0 B L w g ins) (hb : Below W0.heap.size W0 w) : ProgIs w B L w g ins := by
 obtain ⟨O, m, h3, ds, h4, h5, h6⟩ := h.ex
 exact ⟨⟨O, m, h3, ds, h4, h5, fun d hd => (h6 d hd).below hb⟩, h.nb⟩
theorem ProgIs.selfM {T : List TypeId} {w w' : World} {B : Nat} {L : Value} {g : Nat} {ins : List InstP} (h : ProgIs w B L w g ins) (hk : KeepM T w w') (h1 : 157 ∉ T) (h2 : 160 ∉ T) (h3 : 21 ∉ T) : ProgIs w' B L w' g ins := by
 obtain ⟨O, m, e3, ds, h4, h5, h6⟩ := h.ex
 exact ⟨⟨O, m, hk.blk e3 h1, ds, h4, hk.own h5 h2, fun d hd => (h6 d hd).keepM hk h3⟩, h.nb⟩
theorem MatIs.keepT {T : List TypeId} {w w' : World} {b : Nat} {t : Re} (h : MatIs w b t) (hk : KeepM T w w') (h0 : 116 ∉ T) (h1 : 157 ∉ T) (h2 : 160 ∉ T) (h3 : 21 ∉ T) : MatIs w' b t := by
 obtain ⟨W0, B, L, g, e1, e2, e3, e4⟩ := h
 exact ⟨w', B, L, g, hk.blk e1 h0, (e2.self e3).selfM hk h1 h2 h3, Below.refl _ _, e4⟩
theorem own_grownD {w w' : World} {B B' sz sz' n n' : Nat} {e e' : TypeId} {v v' : Value} {xs xs' : List Value} (h : w.ownsRow B e sz v n xs) (hv : w.ownsRow B' e' sz' v' n' xs') (hne : e ≠ e') (hg : w.grownBy w' v'.ownBlock) : w'.ownsRow B e sz v n xs := by
 refine own_grown h hg ?_
 rcases h1 : v.ownBlock with _ | k
 ·exact .inl rfl
 refine .inr fun e2 => ?_
 obtain ⟨c1, t1, z1, a1, b1⟩ := own_typed h k h1
 obtain ⟨c2, t2, z2, a2, b2⟩ := own_typed hv k e2.symm
 rw [a1] at a2
 cases a2
 exact hne (b1.symm.trans b2)
theorem KeepM.grownO {T : List TypeId} {w w' : World} {B sz n : Nat} {e : TypeId} {v : Value} {xs : List Value} (hv : w.ownsRow B e sz v n xs) (he : e ∈ T) (hg : w.grownBy w' v.ownBlock) : KeepM T w w' :=
 .grown hg fun k hk cs t z h => by
  obtain ⟨c1, t1, z1, a1, b1⟩ := own_typed hv k hk
  rw [h] at a1
  cases a1
  rw [b1]; exact he
theorem KeepM.sub {T T' : List TypeId} {w w' : World} (h : KeepM T w w') (hs : ∀ t ∈ T, t ∈ T') : KeepM T' w w' := ⟨h.os, h.tape, h.output, h.size, fun k cs t z hk hn => h.block k cs t z hk fun ht => hn (hs t ht)⟩
open Go.RowKit Garner
theorem vPart (t : Re) (b : Nat) (w : World) (hm : MatIs w b t) (l : Bs) :
  Calls Tryz.prog 44 #[.pointer (some ⟨b, 0, none⟩), str l] w fun e w' => e = .returned (.bool (partB t (runesP l))) ∧ Below w.heap.size w w' := by
 obtain ⟨W0, B, L, g, hb, hp, h0, hgt⟩ := hm
 have cb : w.cell? ⟨b, 0, none⟩ = some (.pointer (some ⟨g, 0, none⟩)) := hb.cell 0
 have hs := vStart hgt.prog g w hp
 have hsz := str_size l
 obtain ⟨rs, hrs⟩ : ∃ rs, runesP l = rs := ⟨_, rfl⟩
 have HS := Lh hs; have HB := Lh hb; have HP := Lh hp; have H0 := Lh h0; have HG := Lh hgt; have Hsz := Lh hsz; have Hrs := Lh hrs
 obtain ⟨S, hS⟩ : ∃ S : ByteArray, S = ⟨l.toArray⟩ := ⟨_, rfl⟩
 have estr : str l = .string S := by rw [hS]
 rw [estr, hrs]
 have HSS := Lh hS
 clear hs hb hp h0 hgt hsz hrs hS estr
 go_enter Tryz.func44, Tryz.ntmps44
 go_wp2_with fail
 refine HS.out.mono ?_
 rintro e w1 ⟨v, rfl, own1, hb1⟩
 obtain ⟨n1, hn1⟩ : ∃ n1, (startR (progR t)).length = n1 := ⟨_, rfl⟩
 rw [hn1] at own1
 obtain ⟨A1, c1, rfl, -⟩ := own_form own1
 have hl0 := LoopS.start (l := l) (find := true) own1 hn1 hb1
 rw [← HSS.out, Hrs.out] at hl0
 have HL0 := Lh hl0; have HB1 := Lh hb1
 clear own1 hn1 hl0 hb1
 go_wp2
 go_loopw [7] (fun _ wr => ∃ pos k A n c fb st, Hid (LoopS w wr w1.heap.size (w1.heap.size + 1) l rs (progR t) true pos k A n c fb st) ∧ Hid (∀ m, m < k → ¬ MatR (progR t) (runR (progR t) true rs m))) (fun _ wr => l.length - wr.iterPos (w1.heap.size + 1))
 case atStart => exact ⟨0, 0, A1, n1, c1, true, _, HL0, Lh (fun m h => absurd h (Nat.not_lt_zero m))⟩
 obtain ⟨pos, k, A, n, c, fb, st, hlo, hno⟩ := hrel
 have hit := hlo.out.it
 rw [← HSS.out] at hit
 have hsz := Hsz.out
 rw [← HSS.out] at hsz
 have hnl := hlo.out.nle HG.out.prog
 by_cases hpos : pos < l.length
 ·obtain ⟨r, q', hde, hq1, hr, hrun⟩ := iter_next l pos hpos
  have hnx : ∀ ty, (Instr.next (.pointer (some ⟨w1.heap.size + 1, 0, none⟩)) true ty).run Tryz.prog wr = _ := fun ty => Lib.run_next_any_at wr (w1.heap.size + 1) S pos ty hit (by omega)
  rw [HSS.out, hde] at hnx
  obtain ⟨Y, hY⟩ : ∃ Y, Y = wr.iterAt (w1.heap.size + 1) ⟨l.toArray⟩ (pos + q') := ⟨_, rfl⟩
  rw [← hY] at hnx
  have hsY : Y.heap.size = wr.heap.size := by rw [hY]; exact Lib.iterAt_size _ _ _ _
  have hwY : Below w.heap.size w Y := by rw [hY]; exact Lib.below_iterAt hlo.out.low hlo.out.kB _ _
  have oY := own_iterAt (pos' := pos + q') hlo.out.own hlo.out.it
  have bY := hlo.out.blk.iterAt (pos' := pos + q') hlo.out.it
  rw [← hY] at oY bY
  have mY : Blk Y b 116 [.pointer (some ⟨g, 0, none⟩)] := HB.out.below hwY HB.out.lt
  have hrk := (hlo.out.at_.next hrun).1
  have hplA : PlainA A c := PlainA.of_own hlo.out.own
  have hmat := vMatches HG.out.prog st hlo.out.lt A n c hlo.out.len (by omega) hplA fb false g Y.drew ((RowT.of_own oY).below (Below.refl _ _).drew) (HP.out.below hwY.drew)
  obtain ⟨mb, hmb⟩ : ∃ mb, matB (progR t) st fb false = mb := ⟨_, rfl⟩
  rw [hmb] at hmat
  have hfound : mb = true → partB t rs = true := fun e => hlo.out.found HG.out.ok hrk (by rw [hmb, e])
  have hnot : mb = false → ∀ m, m < k + 1 → ¬ MatR (progR t) (runR (progR t) true rs m) := fun e m hm => by
   rcases Nat.lt_or_ge m k with h | h
   ·exact hno.out m h
   obtain rfl : m = k := by omega
   rw [← hlo.out.eq]
   intro hx
   have : matB (progR t) st fb false = true := by rw [matB_iff, if_neg (by simp)]; exact hx
   rw [hmb, e] at this
   cases this
  have HMat := Lh hmat; have HFound := Lh hfound; have HNot := Lh hnot; have HwY := Lh hwY; have OY := Lh oY; have HY := Lh hY; have Hrun := Lh hrun; have HsY := Lh hsY
  have sS : Blk Y.drew b 116 [.pointer (some ⟨g, 0, none⟩)] ∧ Blk Y.drew w1.heap.size 118 [.slice A n c, .bool fb] := ⟨mY.drew, bY.drew⟩
  clear hmat hfound hnot hmb hrk hplA hY hrun hsY hwY oY bY mY hde hit hsz hno
  go_upto_region 7 with fail
  refine rgQ (fun w' => Blk w' b 116 [.pointer (some ⟨g, 0, none⟩)] ∧ Blk w' w1.heap.size 118 [.slice A n c, .bool fb]) 100 (by kernel_rfl) (fun _ _ d _ _ h => by cases d <;> exact h) fun qP => ?_
  apply tkq 0 (by kernel_rfl) rfl qP sS
  ·intro w' hS'; go_simp; exact ⟨rfl, rfl⟩
  apply tkq 1 (by kernel_rfl) rfl qP sS
  ·intro w' hS'; go_simp; exact ⟨rfl, rfl⟩
  apply tkq 2 (by kernel_rfl) rfl qP sS
  ·intro w' hS'; go_simp; exact ⟨rfl, rfl⟩
  apply tkq 3 (v := (.pointer (some ⟨g, 0, none⟩))) (by kernel_rfl) rfl qP sS
  ·intro w' hS'; have hk : w'.cell? ⟨b, 0, none⟩ = some (.pointer (some ⟨g, 0, none⟩)) := hS'.1.cell 0; go_simp; exact ⟨rfl, rfl⟩
  apply tkq 4 (v := (.agg #[.slice A n c, .bool fb])) (by kernel_rfl) rfl qP sS
  ·intro w' hS'; have k0 : w'.cell? ⟨w1.heap.size, 0, none⟩ = some (.slice A n c) := hS'.2.cell 0; have k1 : w'.cell? ⟨w1.heap.size, 1, none⟩ = some (.bool fb) := hS'.2.cell 1; go_simp; exact ⟨rfl, rfl⟩
  (try simp only [Act.put]); (try simp only [List.setIfInBounds_toArray]); (try simp only [List.set])
  refine rnL 5 (by kernel_rfl) rfl (by kernel_rfl) (fun K hK => ?_)
  go_simp
  refine HMat.out.mono ?_
  rintro e wm ⟨rfl, hbm⟩
  have sM : Blk wm b 116 [.pointer (some ⟨g, 0, none⟩)] ∧ Blk wm w1.heap.size 118 [.slice A n c, .bool fb] := ⟨sS.1.below hbm sS.1.lt, sS.2.below hbm sS.2.lt⟩
  have hYm : Below Y.heap.size Y wm := (Below.refl _ _).drew.trans hbm
  have hwm : Below w.heap.size w wm := HwY.out.trans (hYm.mono HwY.out.size)
  have om := own_below OY.out hYm
  have HYm := Lh hYm; have Hwm := Lh hwm; have Om := Lh om
  refine hK _ _ (fun _ => sM) ?_
  clear hK K hYm hwm om hbm sS
  (try simp only [Act.put])
  refine dnL (by kernel_rfl) ?_ _
  cases mb with
  | true =>
   have hp := HFound.out rfl
   have HPa := Lh hp
   clear hp sM
   go_wp2
   go_ret
   exact ⟨by rw [HPa.out]; rfl, Hwm.out⟩
  | false =>
   have hst := vStep HG.out.prog st hlo.out.lt A n c hlo.out.len (by omega) fb r true g wm.drew ((RowT.of_own Om.out).below (Below.refl _ _).drew) (H0.out.trans (Hwm.out.drew.mono H0.out.size)) (HP.out.below Hwm.out.drew)
   have HST := Lh hst
   have sS : Blk wm.drew b 116 [.pointer (some ⟨g, 0, none⟩)] ∧ Blk wm.drew w1.heap.size 118 [.slice A n c, .bool fb] := ⟨sM.1.drew, sM.2.drew⟩
   clear hst sM
   go_upto_region 9 with fail
   refine rgQ (fun w' => Blk w' b 116 [.pointer (some ⟨g, 0, none⟩)] ∧ Blk w' w1.heap.size 118 [.slice A n c, .bool fb]) 7 (by kernel_rfl) (fun _ _ d _ _ h => by cases d <;> exact h) fun qP => ?_
   apply tkq 0 (by kernel_rfl) rfl qP sS
   ·intro w' hS'; go_simp; exact ⟨rfl, rfl⟩
   apply tkq 1 (by kernel_rfl) rfl qP sS
   ·intro w' hS'; go_simp; exact ⟨rfl, rfl⟩
   apply tkq 2 (by kernel_rfl) rfl qP sS
   ·intro w' hS'; go_simp; exact ⟨rfl, rfl⟩
   apply tkq 3 (v := (.pointer (some ⟨g, 0, none⟩))) (by kernel_rfl) rfl qP sS
   ·intro w' hS'; have hk : w'.cell? ⟨b, 0, none⟩ = some (.pointer (some ⟨g, 0, none⟩)) := hS'.1.cell 0; go_simp; exact ⟨rfl, rfl⟩
   apply tkq 4 (v := (.agg #[.slice A n c, .bool fb])) (by kernel_rfl) rfl qP sS
   ·intro w' hS'; have k0 : w'.cell? ⟨w1.heap.size, 0, none⟩ = some (.slice A n c) := hS'.2.cell 0; have k1 : w'.cell? ⟨w1.heap.size, 1, none⟩ = some (.bool fb) := hS'.2.cell 1; go_simp; exact ⟨rfl, rfl⟩
   apply tkq 5 (by kernel_rfl) rfl qP sS
   ·intro w' hS'; go_simp; exact ⟨rfl, rfl⟩
   (try simp only [Act.put]); (try simp only [List.setIfInBounds_toArray]); (try simp only [List.set])
   refine rnL 6 (by kernel_rfl) rfl (by kernel_rfl) (fun K hK => ?_)
   go_simp
   refine HST.out.mono ?_
   rintro e w2 ⟨v2, rfl, own2, hb2⟩
   have bm2 := sS.1.below hb2 sS.1.lt
   have bs2 := sS.2.below hb2 sS.2.lt
   obtain ⟨n', hn'⟩ : ∃ n', (stepR (progR t) true st r).length = n' := ⟨_, rfl⟩
   rw [hn'] at own2
   obtain ⟨A', c', rfl, -⟩ := own_form own2
   have hYw2 : Below wr.heap.size Y w2 := (HYm.out.trans ((Below.refl _ _).drew.trans hb2 |>.mono HYm.out.size)).mono (by rw [HsY.out]; exact Nat.le_refl _)
   rw [HY.out] at hYw2
   have hq : w.heap.size ≤ w1.heap.size := HB1.out.size
   have own2' : w2.ownsRow wr.heap.size 3 1 (.slice A' n' c') n' ((stepR (progR t) true st r).map iv) := own_mono own2 (by show wr.heap.size ≤ wm.heap.size; have := HYm.out.size; rw [HsY.out] at this; exact this)
   have hnew := hlo.out.step hq Hrun.out hYw2 own2' hn'
   have hmeas : l.length - (pos + q') < l.length - pos := by omega
   have hit2 : ((w2.setCell ⟨w1.heap.size, 0, none⟩ (.slice A' n' c')).setCell ⟨w1.heap.size, 1, none⟩ (.bool false)).iterPos (w1.heap.size + 1) = pos + q' := by simp only [World.iterPos, hnew.it]
   have hit1 : wr.iterPos (w1.heap.size + 1) = pos := by simp only [World.iterPos, hlo.out.it]
   have HNew := Lh hnew; have HIt2 := Lh hit2; have HIt1 := Lh hit1
   have sT : Blk w2 b 116 [.pointer (some ⟨g, 0, none⟩)] ∧ Blk w2 w1.heap.size 118 [.slice A n c, .bool fb] := ⟨bm2, bs2⟩
   have c0 : w2.cell? ⟨w1.heap.size, 0, none⟩ = some (.slice A n c) := bs2.cell 0
   have c1' : w2.cell? ⟨w1.heap.size, 1, none⟩ = some (.bool fb) := bs2.cell 1
   have f0 := bs2.frozen 0
   have f1 := bs2.frozen 1
   refine hK _ _ (fun _ => sT) ?_
   clear hK K
   (try simp only [Act.put])
   clear hnew hit2 hit1 own2 own2' hYw2 hb2 bm2 hn' sS
   refine rnL 7 (by kernel_rfl) rfl (by kernel_rfl) (fun K hK => ?_)
   go_simp
   refine hK _ _ (fun h => absurd rfl h) ?_
   clear hK K c0 c1' f0 f1 sT
   (try simp only [Act.put])
   refine dnL (by kernel_rfl) ?_ _
   go_wp2
   go_roundw
   case rel => exact ⟨pos + q', k + 1, A', n', c', false, _, HNew, Lh (HNot.out rfl)⟩
   case measure => rw [HIt2.out, HIt1.out]; exact hmeas
 have hnx : ∀ ty, (Instr.next (.pointer (some ⟨w1.heap.size + 1, 0, none⟩)) true ty).run Tryz.prog wr = _ := fun ty => Lib.run_next_end_at wr (w1.heap.size + 1) S pos ty hit (by omega)
 have hfin := hlo.out.part HG.out.ok hpos hno.out
 have hpl : PlainA A c := PlainA.of_own hlo.out.own
 have mY : Blk wr b 116 [.pointer (some ⟨g, 0, none⟩)] := HB.out.below hlo.out.low HB.out.lt
 have hmat := vMatches HG.out.prog st hlo.out.lt A n c hlo.out.len (by omega) hpl fb true g wr.drew ((RowT.of_own hlo.out.own).below (Below.refl _ _).drew) (HP.out.below hlo.out.low.drew)
 rw [hfin] at hmat
 have sS : Blk wr.drew b 116 [.pointer (some ⟨g, 0, none⟩)] ∧ Blk wr.drew w1.heap.size 118 [.slice A n c, .bool fb] := ⟨mY.drew, hlo.out.blk.drew⟩
 have HM := Lh hmat; have Hlow := Lh hlo.out.low
 clear hmat hfin hpl mY hsz hlo hno
 go_upto_region 10 with fail
 refine rgQ (fun w' => Blk w' b 116 [.pointer (some ⟨g, 0, none⟩)] ∧ Blk w' w1.heap.size 118 [.slice A n c, .bool fb]) 100 (by kernel_rfl) (fun _ _ d _ _ h => by cases d <;> exact h) fun qP => ?_
 apply tkq 0 (by kernel_rfl) rfl qP sS
 ·intro w' hS'; go_simp; exact ⟨rfl, rfl⟩
 apply tkq 1 (by kernel_rfl) rfl qP sS
 ·intro w' hS'; go_simp; exact ⟨rfl, rfl⟩
 apply tkq 2 (by kernel_rfl) rfl qP sS
 ·intro w' hS'; go_simp; exact ⟨rfl, rfl⟩
 apply tkq 3 (v := (.pointer (some ⟨g, 0, none⟩))) (by kernel_rfl) rfl qP sS
 ·intro w' hS'; have hk : w'.cell? ⟨b, 0, none⟩ = some (.pointer (some ⟨g, 0, none⟩)) := hS'.1.cell 0; go_simp; exact ⟨rfl, rfl⟩
 apply tkq 4 (v := (.agg #[.slice A n c, .bool fb])) (by kernel_rfl) rfl qP sS
 ·intro w' hS'; have k0 : w'.cell? ⟨w1.heap.size, 0, none⟩ = some (.slice A n c) := hS'.2.cell 0; have k1 : w'.cell? ⟨w1.heap.size, 1, none⟩ = some (.bool fb) := hS'.2.cell 1; go_simp; exact ⟨rfl, rfl⟩
 (try simp only [Act.put]); (try simp only [List.setIfInBounds_toArray]); (try simp only [List.set])
 refine rnL 5 (by kernel_rfl) rfl (by kernel_rfl) (fun K hK => ?_)
 go_simp
 refine HM.out.mono ?_
 rintro e w2 ⟨rfl, hb2⟩
 have sT : Blk w2 b 116 [.pointer (some ⟨g, 0, none⟩)] ∧ Blk w2 w1.heap.size 118 [.slice A n c, .bool fb] := ⟨sS.1.below hb2 sS.1.lt, sS.2.below hb2 sS.2.lt⟩
 have hfin2 : Below w.heap.size w w2 := Hlow.out.drew.trans (hb2.mono Hlow.out.size)
 refine hK _ _ (fun _ => sT) ?_
 clear hK K
 (try simp only [Act.put])
 apply tkq 6 (by kernel_rfl) rfl qP sT
 ·intro w' hS'; go_simp; exact ⟨rfl, rfl⟩
 (try simp only [Act.put]); (try simp only [List.setIfInBounds_toArray]); (try simp only [List.set])
 refine dnL (by kernel_rfl) ?_ _
 go_wp2
 go_ret
 exact ⟨rfl, hfin2⟩
end Go.Proofs.YtecejnilajbdpaaGreatDoor
namespace Garner
open Go
end Garner
namespace Go.Proofs.YtecejnilajbdpaaGreatDoor
open Go.RowKit Garner
def NewK (o : Except Nat Re) (p : Option Addr) (k : Nat) (w' : World) : Prop := match o with
 | .error n => p = none ∧ k = n ∧ 0 < n ∧ n ≤ 40
 | .ok t => k = 0 ∧ ∃ b, p = some ⟨b, 0, none⟩ ∧ MatIs w' b t
theorem NewK.below {o : Except Nat Re} {p : Option Addr} {k : Nat} {w w' : World} (h : NewK o p k w) (hb : Below w.heap.size w w') : NewK o p k w' := by
 cases o with
 | error n => exact h
 | ok t =>
  obtain ⟨h1, b, h2, h3⟩ := h
  exact ⟨h1, b, h2, h3.below hb⟩
theorem NewK.zero {o : Except Nat Re} {p : Option Addr} {k : Nat} {w : World} (h : NewK o p k w) (hk : k = 0) : ∃ t b, o = .ok t ∧ p = some ⟨b, 0, none⟩ ∧ MatIs w b t := by
 cases o with
 | error n =>
  obtain ⟨-, h1, h2, -⟩ := h
  omega
 | ok t =>
  obtain ⟨-, b, h2, h3⟩ := h
  exact ⟨t, b, rfl, h2, h3⟩
theorem NewK.pos {o : Except Nat Re} {p : Option Addr} {k : Nat} {w : World} (h : NewK o p k w) (hk : k ≠ 0) : o = .error k ∧ p = none := by
 cases o with
 | error n =>
  obtain ⟨h0, h1, h2, -⟩ := h
  exact ⟨by rw [h1], h0⟩
 | ok t => exact absurd h.1 hk
end Go.Proofs.YtecejnilajbdpaaGreatDoor
