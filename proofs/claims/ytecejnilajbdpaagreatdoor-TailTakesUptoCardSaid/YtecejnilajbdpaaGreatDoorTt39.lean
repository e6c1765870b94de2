import Derived.Test.YtecejnilajbdpaaGreatDoorTt38
import Derived.Test.YtecejnilajbdpaaGreatDoorTt28
/-! nfa: Whole, Part -/
namespace Go.Proofs.YtecejnilajbdpaaGreatDoor
open Go.RowKit Garner
theorem run_lt {ins : List InstP} {find : Bool} {s : List Nat} (k : Nat) : ∀ pc ∈ runR ins find s k, pc < ins.length := fun pc hp => by
  obtain ⟨c, hc, -⟩ := kept_run k pc hp
  exact (List.getElem?_eq_some_iff.1 hc).1
theorem run_len {ins : List InstP} {find : Bool} {s : List Nat} : ∀ k, (runR ins find s k).length ≤ ins.length
  | 0 => clos_len
  | k + 1 => by
    unfold runR
    split
    · exact clos_len
    · simp
/-- where the loop over a text's runes stands -/
structure LoopS (w0 wr : World) (q K : Nat) (l : Bs) (rs : List Nat) (ins : List InstP) (find : Bool) (pos k : Nat) (A : Option Addr) (n c : Nat) (fb : Bool) (st : List Nat) : Prop where
  it : wr.heap[K]? = some (.stringIter ⟨l.toArray⟩ pos)
  blk : Blk wr q 118 [.slice A n c, .bool fb]
  own : wr.ownsRow w0.heap.size 3 1 (.slice A n c) n (st.map iv)
  eq : st = runR ins find rs k
  len : st.length = n
  feq : fb = decide (k = 0)
  at_ : RunAt l rs pos k
  low : Below w0.heap.size w0 wr
  kB : w0.heap.size ≤ K
theorem LoopS.nle {w0 wr : World} {q K : Nat} {l : Bs} {rs : List Nat} {ins : List InstP} {find : Bool} {pos k : Nat} {A : Option Addr} {n c : Nat} {fb : Bool} {st : List Nat} (h : LoopS w0 wr q K l rs ins find pos k A n c fb st) (hg : GoodR ins) : n ≤ 100000 := by
  rw [← h.len, h.eq]; exact Nat.le_trans (run_len k) hg.small
theorem LoopS.lt {w0 wr : World} {q K : Nat} {l : Bs} {rs : List Nat} {ins : List InstP} {find : Bool} {pos k : Nat} {A : Option Addr} {n c : Nat} {fb : Bool} {st : List Nat} (h : LoopS w0 wr q K l rs ins find pos k A n c fb st) : ∀ x ∈ st, x < ins.length := by
  rw [h.eq]; exact run_lt k
theorem LoopS.start {w0 w1 : World} {l : Bs} {ins : List InstP} {find : Bool} {A : Option Addr} {n c : Nat} (ho : w1.ownsRow w0.heap.size 3 1 (.slice A n c) n ((startR ins).map iv)) (hn : (startR ins).length = n) (hb : Below w0.heap.size w0 w1) :
    LoopS w0 ((w1.alloc (.cells #[.slice A n c, .bool true] 118)).iter ⟨l.toArray⟩ 0) w1.heap.size (w1.heap.size + 1) l (runesP l) ins find 0 0 A n c true (startR ins) := by
  have h1 := World.iter_heap (w1.alloc (.cells #[.slice A n c, .bool true] 118)) ⟨l.toArray⟩ 0
  rw [World.size_alloc] at h1
  exact ⟨h1, (Blk.new w1 _ [.slice A n c, .bool true]).alloc _, (ho.alloc _).alloc _, rfl, hn, rfl, .start l, (hb.alloc hb.size _).alloc (by simp; have := hb.size; omega) _, by have := hb.size; omega⟩
/-- a rune further, and the state behind it laid in the box -/
theorem LoopS.step {w0 wr w2 : World} {q K : Nat} {l : Bs} {rs : List Nat} {ins : List InstP} {find : Bool} {pos k r q' : Nat} {A A' : Option Addr} {n c n' c' : Nat} {fb : Bool} {st : List Nat} (h : LoopS w0 wr q K l rs ins find pos k A n c fb st) (hq : w0.heap.size ≤ q)
    (hr : runesP (l.drop pos) = r :: runesP (l.drop (pos + q'))) (hb : Below wr.heap.size (wr.iterAt K ⟨l.toArray⟩ (pos + q')) w2) (ho : w2.ownsRow wr.heap.size 3 1 (.slice A' n' c') n' ((stepR ins find st r).map iv)) (hn : (stepR ins find st r).length = n') :
    LoopS w0 ((w2.setCell ⟨q, 0, none⟩ (.slice A' n' c')).setCell ⟨q, 1, none⟩ (.bool false)) q K l rs ins find (pos + q') (k + 1) A' n' c' false (stepR ins find st r) := by
  obtain ⟨hk, hat⟩ := h.at_.next hr
  have hKl : K < wr.heap.size := (Array.getElem?_eq_some_iff.1 h.it).1
  have hql := h.blk.lt
  have hqK : q ≠ K := fun e => by
    subst e
    have h1 := h.blk
    unfold Blk at h1
    rw [h.it] at h1
    cases h1
  have hsz : (wr.iterAt K ⟨l.toArray⟩ (pos + q')).heap.size = wr.heap.size := Lib.iterAt_size _ _ _ _
  have b1 := (h.blk.iterAt (pos' := pos + q') h.it).below hb hql
  have b2 := (b1.set_ 0 (.slice A' n' c')).set_ 1 (.bool false)
  have i1 : w2.heap[K]? = some (.stringIter ⟨l.toArray⟩ (pos + q')) := by rw [hb.block K hKl]; exact Lib.iterAt_heap _ _ _ _ _ h.it
  have bu : But [q] w2 ((w2.setCell ⟨q, 0, none⟩ (.slice A' n' c')).setCell ⟨q, 1, none⟩ (.bool false)) := ((But.refl _ _).setCell (by simp) _).setCell (by simp) _
  refine ⟨by rw [bu.block K (Array.getElem?_eq_some_iff.1 i1).1 (by simp; exact fun e => hqK e.symm)]; exact i1, b2, ?_, ?_, hn, rfl, hat, ?_, h.kB⟩
  · refine own_but (own_mono ho h.low.size) bu fun g hg hm => ?_
    have := (ho.lt g hg).1
    simp at hm
    omega
  · rw [h.eq]
    show _ = runR ins find rs (k + 1)
    simp only [runR, hk]
  · exact (((Lib.below_iterAt h.low h.kB _ _).trans (hb.mono h.low.size)).setCell (p := ⟨q, 0, none⟩) hq _).setCell (p := ⟨q, 1, none⟩) hq _
theorem LoopS.whole {w0 wr : World} {q K : Nat} {l : Bs} {rs : List Nat} {t : Re} {pos k : Nat} {A : Option Addr} {n c : Nat} {fb : Bool} {st : List Nat} (h : LoopS w0 wr q K l rs (progR t) false pos k A n c fb st) (ht : t.ok) (hp : ¬ pos < l.length) : matB (progR t) st fb true = wholeB t rs := by
  rw [Bool.eq_iff_iff, matB_iff, if_pos rfl, whole_iff, ← whole_R ht rs]
  have hk := h.at_.done hp
  unfold WholeR EndR
  rw [h.eq, h.feq, hk]
theorem LoopS.part {w0 wr : World} {q K : Nat} {l : Bs} {rs : List Nat} {t : Re} {pos k : Nat} {A : Option Addr} {n c : Nat} {fb : Bool} {st : List Nat} (h : LoopS w0 wr q K l rs (progR t) true pos k A n c fb st) (ht : t.ok) (hp : ¬ pos < l.length) (hno : ∀ m, m < k → ¬ MatR (progR t) (runR (progR t) true rs m)) : matB (progR t) st fb true = partB t rs := by
  rw [Bool.eq_iff_iff, matB_iff, if_pos rfl, part_iff, ← part_R ht rs]
  have hk := h.at_.done hp
  unfold PartR EndR
  rw [h.eq, h.feq, hk]
  constructor
  · exact .inr
  · rintro (⟨m, hm, hx⟩ | hx)
    · exact absurd hx (hno m (by omega))
    · exact hx
theorem LoopS.found {w0 wr : World} {q K : Nat} {l : Bs} {rs : List Nat} {t : Re} {pos k : Nat} {A : Option Addr} {n c : Nat} {fb : Bool} {st : List Nat} (h : LoopS w0 wr q K l rs (progR t) true pos k A n c fb st) (ht : t.ok) {r : Nat} (hr : rs[k]? = some r) (hm : matB (progR t) st fb false = true) : partB t rs = true := by
  rw [matB_iff, if_neg (by simp), h.eq] at hm
  rw [part_iff, ← part_R ht rs]
  exact .inl ⟨k, (List.getElem?_eq_some_iff.1 hr).1, hm⟩
set_option maxRecDepth 100000 in
set_option maxHeartbeats 16000000 in
theorem vWhole (t : Re) (b : Nat) (w : World) (hm : MatIs w b t) (l : Bs) :
    Calls Tryz.prog 42 #[.pointer (some ⟨b, 0, none⟩), str l] w fun e w' => e = .returned (.bool (wholeB t (runesP l))) ∧ Below w.heap.size w w' := by
  obtain ⟨W0, B, L, g, hb, hp, h0, hgt⟩ := hm
  have cb : w.cell? ⟨b, 0, none⟩ = some (.pointer (some ⟨g, 0, none⟩)) := hb.cell 0
  have hs := vStart hgt.prog g w hp
  have hsz := str_size l
  obtain ⟨rs, hrs⟩ : ∃ rs, runesP l = rs := ⟨_, rfl⟩
  have HS := Lib.hid hs; have HB := Lib.hid hb; have HP := Lib.hid hp; have H0 := Lib.hid h0; have HG := Lib.hid hgt; have Hsz := Lib.hid hsz; have Hrs := Lib.hid hrs
  obtain ⟨S, hS⟩ : ∃ S : ByteArray, S = ⟨l.toArray⟩ := ⟨_, rfl⟩
  have estr : str l = .string S := by rw [hS]
  rw [estr, hrs]
  have HSS := Lib.hid hS
  clear hs hb hp h0 hgt hsz hrs hS estr
  go_enter Tryz.func42, Tryz.ntmps42
  go_wp2_with fail
  refine HS.out.mono ?_
  rintro e w1 ⟨v, rfl, own1, hb1⟩
  obtain ⟨n1, hn1⟩ : ∃ n1, (startR (progR t)).length = n1 := ⟨_, rfl⟩
  rw [hn1] at own1
  obtain ⟨A1, c1, rfl, -⟩ := own_form own1
  have hl0 := LoopS.start (l := l) (find := false) own1 hn1 hb1
  rw [← HSS.out, Hrs.out] at hl0
  have HL0 := Lib.hid hl0; have HB1 := Lib.hid hb1
  clear own1 hn1 hl0 hb1
  go_wp2
  go_loopw [7] (fun _ wr => ∃ pos k A n c fb st, Hid (LoopS w wr w1.heap.size (w1.heap.size + 1) l rs (progR t) false pos k A n c fb st)) (fun _ wr => l.length - wr.iterPos (w1.heap.size + 1))
  case atStart => exact ⟨0, 0, A1, n1, c1, true, _, HL0⟩
  case round =>
    obtain ⟨pos, k, A, n, c, fb, st, hlo⟩ := hrel
    have hit := hlo.out.it
    rw [← HSS.out] at hit
    have hsz := Hsz.out
    rw [← HSS.out] at hsz
    have hnl := hlo.out.nle HG.out.prog
    by_cases hpos : pos < l.length
    · obtain ⟨r, q', hde, hq1, hr, hrun⟩ := iter_next l pos hpos
      have hnx : ∀ ty, (Instr.next (.pointer (some ⟨w1.heap.size + 1, 0, none⟩)) true ty).run Tryz.prog wr = _ := fun ty => Lib.run_next_any_at wr (w1.heap.size + 1) S pos ty hit (by omega)
      rw [HSS.out, hde] at hnx
      obtain ⟨Y, hY⟩ : ∃ Y, Y = wr.iterAt (w1.heap.size + 1) ⟨l.toArray⟩ (pos + q') := ⟨_, rfl⟩
      rw [← hY] at hnx
      have hsY : Y.heap.size = wr.heap.size := by rw [hY]; exact Lib.iterAt_size _ _ _ _
      have hwY : Below w.heap.size w Y := by rw [hY]; exact Lib.below_iterAt hlo.out.low hlo.out.kB _ _
      have oY := own_iterAt (pos' := pos + q') hlo.out.own hlo.out.it
      have bY := hlo.out.blk.iterAt (pos' := pos + q') hlo.out.it
      rw [← hY] at oY bY
      have mY : Blk Y b 116 [.pointer (some ⟨g, 0, none⟩)] := HB.out.below hwY HB.out.lt
      have hst := vStep HG.out.prog st hlo.out.lt A n c hlo.out.len (by omega) fb r false g Y.drew ((RowT.of_own oY).below (Below.refl _ _).drew) (H0.out.trans (hwY.drew.mono H0.out.size)) (HP.out.below hwY.drew)
      have HST := Lib.hid hst; have HY := Lib.hid hY; have Hrun := Lib.hid hrun; have HsY := Lib.hid hsY
      have sS : Blk Y.drew b 116 [.pointer (some ⟨g, 0, none⟩)] ∧ Blk Y.drew w1.heap.size 118 [.slice A n c, .bool fb] := ⟨mY.drew, bY.drew⟩
      clear hst hY hrun hsY hwY oY bY mY hde hit hsz
      go_upto_region 7 with fail
      refine wp_region_N (fun w' => Blk w' b 116 [.pointer (some ⟨g, 0, none⟩)] ∧ Blk w' w1.heap.size 118 [.slice A n c, .bool fb]) 7 (by kernel_rfl) ?_
      apply wpAnyN_takeL 0 (by kernel_rfl) rfl (fun _ _ _ h => h) (by kernel_rfl) sS
      · intro w' hS'
        go_simp; exact ⟨rfl, rfl⟩
      (try simp only [Act.put]); (try simp only [List.setIfInBounds_toArray]); (try simp only [List.set])
      apply wpAnyN_takeL 1 (by kernel_rfl) rfl (fun _ _ _ h => h) (by kernel_rfl) sS
      · intro w' hS'
        go_simp; exact ⟨rfl, rfl⟩
      (try simp only [Act.put]); (try simp only [List.setIfInBounds_toArray]); (try simp only [List.set])
      apply wpAnyN_takeL 2 (by kernel_rfl) rfl (fun _ _ _ h => h) (by kernel_rfl) sS
      · intro w' hS'
        go_simp; exact ⟨rfl, rfl⟩
      (try simp only [Act.put]); (try simp only [List.setIfInBounds_toArray]); (try simp only [List.set])
      apply wpAnyN_takeL 3 (v := (.pointer (some ⟨g, 0, none⟩))) (by kernel_rfl) rfl (fun _ _ _ h => h) (by kernel_rfl) sS
      · intro w' hS'
        (have hk : w'.cell? ⟨b, 0, none⟩ = some (.pointer (some ⟨g, 0, none⟩)) := hS'.1.cell 0; go_simp; exact ⟨rfl, rfl⟩)
      (try simp only [Act.put]); (try simp only [List.setIfInBounds_toArray]); (try simp only [List.set])
      apply wpAnyN_takeL 4 (v := (.agg #[.slice A n c, .bool fb])) (by kernel_rfl) rfl (fun _ _ _ h => h) (by kernel_rfl) sS
      · intro w' hS'
        (have k0 : w'.cell? ⟨w1.heap.size, 0, none⟩ = some (.slice A n c) := hS'.2.cell 0; have k1 : w'.cell? ⟨w1.heap.size, 1, none⟩ = some (.bool fb) := hS'.2.cell 1; go_simp; exact ⟨rfl, rfl⟩)
      (try simp only [Act.put]); (try simp only [List.setIfInBounds_toArray]); (try simp only [List.set])
      apply wpAnyN_takeL 5 (by kernel_rfl) rfl (fun _ _ _ h => h) (by kernel_rfl) sS
      · intro w' hS'
        go_simp; exact ⟨rfl, rfl⟩
      (try simp only [Act.put]); (try simp only [List.setIfInBounds_toArray]); (try simp only [List.set])
      refine wpAnyN_runL 6 (by kernel_rfl) rfl (by kernel_rfl) (fun K hK => ?_)
      go_simp
      refine HST.out.mono ?_
      rintro e w2 ⟨v2, rfl, own2, hb2⟩
      have bm2 := sS.1.below hb2 sS.1.lt
      have bs2 := sS.2.below hb2 sS.2.lt
      obtain ⟨n', hn'⟩ : ∃ n', (stepR (progR t) false st r).length = n' := ⟨_, rfl⟩
      rw [hn'] at own2
      obtain ⟨A', c', rfl, -⟩ := own_form own2
      have hYw2 : Below wr.heap.size Y w2 := ((Below.refl _ _).drew.trans hb2).mono (by show wr.heap.size ≤ Y.heap.size; rw [HsY.out]; exact Nat.le_refl _)
      rw [HY.out] at hYw2
      have hq : w.heap.size ≤ w1.heap.size := HB1.out.size
      have own2' : w2.ownsRow wr.heap.size 3 1 (.slice A' n' c') n' ((stepR (progR t) false st r).map iv) := own_mono own2 (by show wr.heap.size ≤ Y.heap.size; rw [HsY.out]; exact Nat.le_refl _)
      have hnew := hlo.out.step hq Hrun.out hYw2 own2' hn'
      have hmeas : l.length - (pos + q') < l.length - pos := by omega
      have hit2 : ((w2.setCell ⟨w1.heap.size, 0, none⟩ (.slice A' n' c')).setCell ⟨w1.heap.size, 1, none⟩ (.bool false)).iterPos (w1.heap.size + 1) = pos + q' := by simp only [World.iterPos, hnew.it]
      have hit1 : wr.iterPos (w1.heap.size + 1) = pos := by simp only [World.iterPos, hlo.out.it]
      have HNew := Lib.hid hnew; have HIt2 := Lib.hid hit2; have HIt1 := Lib.hid hit1
      have sT : Blk w2 b 116 [.pointer (some ⟨g, 0, none⟩)] ∧ Blk w2 w1.heap.size 118 [.slice A n c, .bool fb] := ⟨bm2, bs2⟩
      have c0 : w2.cell? ⟨w1.heap.size, 0, none⟩ = some (.slice A n c) := bs2.cell 0
      have c1' : w2.cell? ⟨w1.heap.size, 1, none⟩ = some (.bool fb) := bs2.cell 1
      have f0 := bs2.frozen 0
      have f1 := bs2.frozen 1
      refine hK _ _ (fun _ => sT) ?_
      clear hK K
      (try simp only [Act.put])
      clear hnew hit2 hit1 own2 own2' hYw2 hb2 bm2 hn' sS
      refine wpAnyN_runL 7 (by kernel_rfl) rfl (by kernel_rfl) (fun K hK => ?_)
      go_simp
      refine hK _ _ (fun h => absurd rfl h) ?_
      clear hK K c0 c1' f0 f1 sT
      (try simp only [Act.put])
      refine wpAnyN_done (by kernel_rfl) ?_ _
      go_wp2
      go_roundw
      case rel => exact ⟨pos + q', k + 1, A', n', c', false, _, HNew⟩
      case measure => rw [HIt2.out, HIt1.out]; exact hmeas
    · have hnx : ∀ ty, (Instr.next (.pointer (some ⟨w1.heap.size + 1, 0, none⟩)) true ty).run Tryz.prog wr = _ := fun ty => Lib.run_next_end_at wr (w1.heap.size + 1) S pos ty hit (by omega)
      have hfin := hlo.out.whole HG.out.ok hpos
      have hpl : PlainA A c := PlainA.of_own hlo.out.own
      have mY : Blk wr b 116 [.pointer (some ⟨g, 0, none⟩)] := HB.out.below hlo.out.low HB.out.lt
      have hmat := vMatches HG.out.prog st hlo.out.lt A n c hlo.out.len (by omega) hpl fb true g wr.drew ((RowT.of_own hlo.out.own).below (Below.refl _ _).drew) (HP.out.below hlo.out.low.drew)
      rw [hfin] at hmat
      have sS : Blk wr.drew b 116 [.pointer (some ⟨g, 0, none⟩)] ∧ Blk wr.drew w1.heap.size 118 [.slice A n c, .bool fb] := ⟨mY.drew, hlo.out.blk.drew⟩
      have HM := Lib.hid hmat; have Hlow := Lib.hid hlo.out.low
      clear hmat hfin hpl mY hsz hlo
      go_upto_region 8 with fail
      refine wp_region_N (fun w' => Blk w' b 116 [.pointer (some ⟨g, 0, none⟩)] ∧ Blk w' w1.heap.size 118 [.slice A n c, .bool fb]) 100 (by kernel_rfl) ?_
      apply wpAnyN_takeL 0 (by kernel_rfl) rfl (fun _ _ _ h => h) (by kernel_rfl) sS
      · intro w' hS'
        go_simp; exact ⟨rfl, rfl⟩
      (try simp only [Act.put]); (try simp only [List.setIfInBounds_toArray]); (try simp only [List.set])
      apply wpAnyN_takeL 1 (by kernel_rfl) rfl (fun _ _ _ h => h) (by kernel_rfl) sS
      · intro w' hS'
        go_simp; exact ⟨rfl, rfl⟩
      (try simp only [Act.put]); (try simp only [List.setIfInBounds_toArray]); (try simp only [List.set])
      apply wpAnyN_takeL 2 (by kernel_rfl) rfl (fun _ _ _ h => h) (by kernel_rfl) sS
      · intro w' hS'
        go_simp; exact ⟨rfl, rfl⟩
      (try simp only [Act.put]); (try simp only [List.setIfInBounds_toArray]); (try simp only [List.set])
      apply wpAnyN_takeL 3 (v := (.pointer (some ⟨g, 0, none⟩))) (by kernel_rfl) rfl (fun _ _ _ h => h) (by kernel_rfl) sS
      · intro w' hS'
        (have hk : w'.cell? ⟨b, 0, none⟩ = some (.pointer (some ⟨g, 0, none⟩)) := hS'.1.cell 0; go_simp; exact ⟨rfl, rfl⟩)
      (try simp only [Act.put]); (try simp only [List.setIfInBounds_toArray]); (try simp only [List.set])
      apply wpAnyN_takeL 4 (v := (.agg #[.slice A n c, .bool fb])) (by kernel_rfl) rfl (fun _ _ _ h => h) (by kernel_rfl) sS
      · intro w' hS'
        (have k0 : w'.cell? ⟨w1.heap.size, 0, none⟩ = some (.slice A n c) := hS'.2.cell 0; have k1 : w'.cell? ⟨w1.heap.size, 1, none⟩ = some (.bool fb) := hS'.2.cell 1; go_simp; exact ⟨rfl, rfl⟩)
      (try simp only [Act.put]); (try simp only [List.setIfInBounds_toArray]); (try simp only [List.set])
      refine wpAnyN_runL 5 (by kernel_rfl) rfl (by kernel_rfl) (fun K hK => ?_)
      go_simp
      refine HM.out.mono ?_
      rintro e w2 ⟨rfl, hb2⟩
      have sT : Blk w2 b 116 [.pointer (some ⟨g, 0, none⟩)] ∧ Blk w2 w1.heap.size 118 [.slice A n c, .bool fb] := ⟨sS.1.below hb2 sS.1.lt, sS.2.below hb2 sS.2.lt⟩
      have hfin2 : Below w.heap.size w w2 := Hlow.out.drew.trans (hb2.mono Hlow.out.size)
      refine hK _ _ (fun _ => sT) ?_
      clear hK K
      (try simp only [Act.put])
      apply wpAnyN_takeL 6 (by kernel_rfl) rfl (fun _ _ _ h => h) (by kernel_rfl) sT
      · intro w' hS'
        go_simp; exact ⟨rfl, rfl⟩
      (try simp only [Act.put]); (try simp only [List.setIfInBounds_toArray]); (try simp only [List.set])
      refine wpAnyN_done (by kernel_rfl) ?_ _
      go_wp2
      go_ret
      exact ⟨rfl, hfin2⟩
end Go.Proofs.YtecejnilajbdpaaGreatDoor

