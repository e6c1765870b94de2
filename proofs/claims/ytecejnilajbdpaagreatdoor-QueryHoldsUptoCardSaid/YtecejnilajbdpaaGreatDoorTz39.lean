import Derived.Test.YtecejnilajbdpaaGreatDoorTz38
set_option maxRecDepth 100000
set_option maxHeartbeats 16000000
namespace Go.Proofs.YtecejnilajbdpaaGreatDoor
open Go.RowKit Garner
noncomputable def matB (ins : List InstP) (st : List Nat) (first last : Bool) : Bool := @decide (MatR ins (if last = true then closP ins first true st else st)) (Classical.propDecidable _)
theorem matB_iff {ins : List InstP} {st : List Nat} {first last : Bool} : matB ins st first last = true ↔ MatR ins (if last = true then closP ins first true st else st) := @decide_eq_true_iff _ (Classical.propDecidable _)
theorem vMat1 {W0 : World} {B0 : Nat} {L : Value} {ins : List InstP} (pc : Nat) (ci : InstP) (hci : ins[pc]? = some ci) (bp g : Nat) (w : World) (hbp : Blk w bp 113 [.pointer (some ⟨g, 0, none⟩)]) (hp : ProgIs W0 B0 L w g ins) :
  Calls Tryz.prog 98 #[.int .i64 pc, .pointer (some ⟨bp, 0, none⟩)] w fun e w' => e = .returned (.bool (decide (ci.kind = 4))) ∧ w' = w := by
 obtain ⟨gI, mI, sA, sc, d1, d2, d3, d4, d5, d6⟩ := hp.look hci
 obtain ⟨hpl, -⟩ := List.getElem?_eq_some_iff.1 hci
 obtain ⟨N, hN⟩ : ∃ N, ins.length = N := ⟨_, rfl⟩
 rw [hN] at hpl d1
 have z2 : (pc : Int) < (N : Int) := by omega
 have cp : w.cell? ⟨bp, 0, none⟩ = some (.pointer (some ⟨g, 0, none⟩)) := hbp.cell 0
 clear hN d3 d4 d5 d6 hbp hci hp
 have hd : decide (ci.kind = 4) = decide ((ci.kind : Int) = 4) := by rw [decide_eq_decide]; omega
 rw [hd]
 clear hd
 go_enter Tryz.func98, Tryz.ntmps98
 go_wp2
 go_ret
 exact ⟨rfl, rfl⟩
theorem vIndexI {W0 : World} {B0 : Nat} {L : Value} {ins : List InstP} (st : List Nat) (hst : ∀ x ∈ st, x < ins.length) (A : Option Addr) (n c : Nat) (hn : st.length = n) (hnl : n ≤ 1000000) (bp g : Nat) (w : World) (hr : RowT w 3 A n (st.map iv)) (hbp : Blk w bp 113 [.pointer (some ⟨g, 0, none⟩)]) (hp : ProgIs W0 B0 L w g ins) :
  Calls Tryz.prog 132 #[.slice A n c, .func (.func 98) #[] #[.pointer (some ⟨bp, 0, none⟩)]] w fun e w' => ∃ k : Int, e = .returned (.int .i64 k) ∧ (0 ≤ k ↔ MatR ins st) ∧ w' = w := by
 have Hst := Lh hst; have Hn := Lh hn; have HR := Lh hr; have Hbp := Lh hbp; have HP := Lh hp
 clear hst hn hr hbp hp
 go_enter Tryz.func132, Tryz.ntmps132
 go_wp2
 go_loopw [8] (fun i wr => ∃ j : Nat, j ≤ n ∧ i = .int .i64 j ∧ Hid (∀ pc ∈ st.take j, ∀ ci, ins[pc]? = some ci → ci.kind ≠ 4) ∧ wr = w) (fun i _ => n - (intOf i).toNat)
 case atStart => exact ⟨0, Nat.zero_le _, rfl, Lh (by simp), rfl⟩
 obtain ⟨j, hj, rfl, hno, hwr⟩ := hrel
 obtain rfl : w = wr := hwr.symm
 have wj1 := wS j (by omega)
 by_cases hlt : j < n
 ·have z1 : (j : Int) < (n : Int) := by omega
  obtain ⟨pc, hpc⟩ : ∃ pc, st[j]? = some pc := ⟨_, List.getElem?_eq_getElem (by rw [Hn.out]; exact hlt)⟩
  have hpl := Hst.out pc (List.mem_of_getElem? hpc)
  obtain ⟨ci, hci⟩ : ∃ ci, ins[pc]? = some ci := ⟨_, List.getElem?_eq_getElem hpl⟩
  have htk : st.take (j + 1) = st.take j ++ [pc] := by
   obtain ⟨h1, e⟩ := List.getElem?_eq_some_iff.1 hpc
   rw [List.take_succ_eq_append_getElem h1, e]
  obtain ⟨bk, ok, rfl, ck⟩ := HR.out.at_ (k := j) (u := iv pc) (by rw [List.getElem?_map, hpc]; rfl)
  have ck1 : w.cell? ⟨bk, ok + j, none⟩ = some (.int .i64 (pc : Nat)) := ck
  have hm := vMat1 pc ci hci bp g w Hbp.out HP.out
  have hmem := List.mem_of_getElem? hpc
  by_cases h4 : ci.kind = 4
  ·have hd : decide (ci.kind = 4) = true := by simp [h4]
   rw [hd] at hm
   have hy : MatR ins st := ⟨pc, hmem, ci, hci, h4⟩
   have HM := Lh hm; have HY := Lh hy
   clear hm hy hd hci hpc htk ck hmem hpl h4
   go_wp2_with fail
   refine HM.out.mono ?_
   rintro e w1 ⟨rfl, rfl⟩
   go_wp2_with fail
   go_ret
   exact ⟨_, rfl, ⟨fun _ => HY.out, fun _ => by omega⟩, rfl⟩
  have hd : decide (ci.kind = 4) = false := by simp [h4]
  rw [hd] at hm
  have hy : ∀ pc ∈ st.take (j + 1), ∀ ci, ins[pc]? = some ci → ci.kind ≠ 4 := by
   intro p hp2 c2 hc2
   rw [htk] at hp2
   rcases List.mem_append.1 hp2 with h | h
   ·exact hno.out p h c2 hc2
   rw [List.mem_singleton.1 h, hci] at hc2
   cases hc2
   exact h4
  have HM := Lh hm; have HY := Lh hy
  clear hm hy hd hci hpc htk ck hmem hpl h4
  go_wp2_with fail
  refine HM.out.mono ?_
  rintro e w1 ⟨rfl, rfl⟩
  go_wp2_with fail
  go_roundw
  case rel => exact ⟨j + 1, by omega, rfl, HY, by first | rfl | trivial⟩
  case measure => simp [intOf]; omega
 have z1 : ¬ (j : Int) < (n : Int) := by omega
 have hno2 : ¬ MatR ins st := by
  rintro ⟨pc, hm, c2, hc2, h4⟩
  refine hno.out pc ?_ c2 hc2 h4
  rw [List.take_of_length_le (by rw [Hn.out]; omega)]; exact hm
 have HN := Lh hno2
 clear hno2 hno
 go_wp2_with fail
 go_ret
 exact ⟨_, rfl, ⟨fun h => absurd h (by omega), fun h => absurd h HN.out⟩, rfl⟩
theorem vContI {W0 : World} {B0 : Nat} {L : Value} {ins : List InstP} (st : List Nat) (hst : ∀ x ∈ st, x < ins.length) (A : Option Addr) (n c : Nat) (hn : st.length = n) (hnl : n ≤ 1000000) (bp g : Nat) (w : World) (hr : RowT w 3 A n (st.map iv)) (hbp : Blk w bp 113 [.pointer (some ⟨g, 0, none⟩)]) (hp : ProgIs W0 B0 L w g ins) (ANS : Bool) (hA : ANS = true ↔ MatR ins st) :
  Calls Tryz.prog 97 #[.slice A n c, .func (.func 98) #[] #[.pointer (some ⟨bp, 0, none⟩)]] w fun e w' => e = .returned (.bool ANS) ∧ w' = w := by
 have hi := vIndexI (c := c) st hst A n hn hnl bp g w hr hbp hp
 have HI := Lh hi; have HA := Lh hA
 clear hi hA hst hn hr hbp hp
 go_enter Tryz.func97, Tryz.ntmps97
 go_wp2_with fail
 refine HI.out.mono ?_
 rintro e w1 ⟨k, rfl, hk, rfl⟩
 have e : ANS = decide (0 ≤ k) := by
  rw [Bool.eq_iff_iff, HA.out, decide_eq_true_iff]; exact hk.symm
 have He := Lh e
 clear hk e
 go_wp2
 go_ret
 exact ⟨congrArg (fun b => Ending.returned (.bool b)) He.out.symm, rfl⟩
theorem vMatches {W0 : World} {B0 : Nat} {L : Value} {ins : List InstP} (hg : GoodR ins) (st : List Nat) (hst : ∀ x ∈ st, x < ins.length) (A : Option Addr) (n c : Nat) (hn : st.length = n) (hnl : n ≤ 200000) (hA : PlainA A c) (f last : Bool) (g : Nat) (w : World)
  (hr : RowT w 3 A n (st.map iv)) (hp : ProgIs W0 B0 L w g ins) :
  Calls Tryz.prog 69 #[.pointer (some ⟨g, 0, none⟩), .agg #[.slice A n c, .bool f], .bool last] w fun e w' => e = .returned (.bool (matB ins st f last)) ∧ Below w.heap.size w w' := by
 have hmf : ∀ (fn : Fn) (first cap : Array Value) (w : World), (Instr.makeFunc fn first cap).run Tryz.prog w = .ok (.func fn first cap) w := fun _ _ _ _ => rfl
 obtain ⟨X, hX⟩ : ∃ X, X = (w.alloc (.cells #[.pointer (some ⟨g, 0, none⟩)] 113)).alloc (.cells #[.slice A n c, .bool f] 118) := ⟨_, rfl⟩
 have hbX : Below w.heap.size w X := by rw [hX]; exact ((Below.refl _ _).alloc (Nat.le_refl _) _).alloc (by simp) _
 have xP : Blk X w.heap.size 113 [.pointer (some ⟨g, 0, none⟩)] := by rw [hX]; exact (Blk.new w _ [.pointer (some ⟨g, 0, none⟩)]).alloc _
 have xS : Blk X (w.heap.size + 1) 118 [.slice A n c, .bool f] := by
  rw [hX]
  have h := Blk.new (w.alloc (.cells #[.pointer (some ⟨g, 0, none⟩)] 113)) 118 [.slice A n c, .bool f]
  simpa using h
 have hpX := hp.below hbX
 have hrX := hr.below hbX
 have cP : X.cell? ⟨w.heap.size, 0, none⟩ = some (.pointer (some ⟨g, 0, none⟩)) := xP.cell 0
 have cS : X.cell? ⟨w.heap.size + 1, 0, none⟩ = some (.slice A n c) := xS.cell 0
 have cF : X.cell? ⟨w.heap.size + 1, 1, none⟩ = some (.bool f) := xS.cell 1
 have hsX := hbX.size
 cases last with
 | true =>
  have hc := vClosure hg.tgt st hst f true A n c g X hn (by omega) hA hrX hpX
  obtain ⟨cl, hcl⟩ : ∃ cl, closP ins f true st = cl := ⟨_, rfl⟩
  have hclt : ∀ x ∈ cl, x < ins.length := by rw [← hcl]; exact clos_lt
  have hcll : cl.length ≤ 100000 := by rw [← hcl]; exact Nat.le_trans clos_len hg.small
  have hm : matB ins st f true = true ↔ MatR ins cl := by rw [matB_iff, if_pos rfl, hcl]
  rw [hcl] at hc
  have HC := Lh hc; have HB := Lh hbX; have HP := Lh hpX; have XP := Lh xP; have HM := Lh hm; have Hlt := Lh hclt
  clear hc hbX hpX xP xS hm hclt hr hp hst hn hrX hg hA hcl
  go_enter Tryz.func69, Tryz.ntmps69
  go_upto_region 1 with fail
  rw [← hX]
  clear hX
  go_wp2_with fail
  refine HC.out.mono ?_
  rintro e w2 ⟨v, rfl, own2, hb2⟩
  obtain ⟨A2, c2, rfl, -⟩ := own_form own2
  have hcon := vContI (c := c2) cl Hlt.out A2 cl.length rfl (by omega) w.heap.size g w2 (RowT.of_own own2) (XP.out.below hb2 XP.out.lt) (HP.out.below hb2) _ HM.out
  obtain ⟨n2, hn2⟩ : ∃ n2, cl.length = n2 := ⟨_, rfl⟩
  rw [hn2] at hcon ⊢
  have HCon := Lh hcon; have HB2 := Lh hb2
  clear hcon own2 hb2 hn2
  go_wp2_with fail
  refine HCon.out.mono ?_
  rintro e w3 ⟨rfl, rfl⟩
  go_wp2
  go_ret
  exact ⟨rfl, HB.out.trans (HB2.out.mono hsX)⟩
 | false =>
  have hm : matB ins st f false = true ↔ MatR ins st := by rw [matB_iff, if_neg (by simp)]
  have hcon := vContI (c := c) st hst A n hn (by omega) w.heap.size g X hrX xP hpX _ hm
  have HCon := Lh hcon; have HB := Lh hbX
  clear hcon hbX hpX xP xS hm hr hp hst hn hrX hg hA
  go_enter Tryz.func69, Tryz.ntmps69
  go_upto_region 1 with fail
  rw [← hX]
  clear hX
  go_wp2_with fail
  refine HCon.out.mono ?_
  rintro e w3 ⟨rfl, rfl⟩
  go_wp2
  go_ret
  exact ⟨rfl, HB.out⟩
end Go.Proofs.YtecejnilajbdpaaGreatDoor
namespace Garner
open Go
end Garner
namespace Go.Proofs.YtecejnilajbdpaaGreatDoor
open Go.RowKit Garner
def MatIs (w : World) (b : Nat) (t : Re) : Prop := ∃ W0 B L g, Blk w b 116 [.pointer (some ⟨g, 0, none⟩)] ∧ ProgIs W0 B L w g (progR t) ∧ Below W0.heap.size W0 w ∧ GoodT t
theorem MatIs.below {w w' : World} {b : Nat} {t : Re} (h : MatIs w b t) (hb : Below w.heap.size w w') : MatIs w' b t := by
 obtain ⟨W0, B, L, g, h1, h2, h3, h4⟩ := h
 exact ⟨W0, B, L, g, h1.below hb h1.lt, h2.below hb, h3.trans (hb.mono h3.size), h4⟩
def NewP (o : Except Nat Re) (e : Ending) (w' : World) : Prop := match o with
 | .error k => e = .returned (.tuple #[.pointer none, .int .i64 (k : Nat)])
 | .ok t => ∃ b, e = .returned (.tuple #[.pointer (some ⟨b, 0, none⟩), .int .i64 0]) ∧ MatIs w' b t
theorem vNew (l : Bs) (w : World) (hL : Lt w) (hl : l.length ≤ 9223372036854775807) :
  Calls Tryz.prog 40 #[str l] w fun e w' => Below w.heap.size w w' ∧ NewP (rexpP l) e w' := by
 have hp := vParse l w hL hl
 have hg := fun t => @rexp_good l t
 have he := fun k => @err_pos l k
 obtain ⟨OUT, hOUT⟩ : ∃ OUT, rexpP l = OUT := ⟨_, rfl⟩
 rw [hOUT] at hp ⊢
 have HP := Lh hp
 cases OUT with
 | error k =>
  have hk := he k hOUT
  have z1 : ¬ (k : Int) = 0 := by omega
  clear hp hg he hOUT hk
  go_enter Tryz.func40, Tryz.ntmps40
  go_wp2_with fail
  refine HP.out.mono ?_
  rintro e w1 ⟨hb, ho⟩
  obtain rfl : e = _ := ho
  go_wp2
  go_ret2
  exact ⟨hb, rfl⟩
 | ok t =>
  have hgt := hg t hOUT
  have HG := Lh hgt
  clear hp hg he hOUT hgt
  go_enter Tryz.func40, Tryz.ntmps40
  go_wp2_with fail
  refine HP.out.mono ?_
  rintro e w1 ⟨hb, v, rfl, hn⟩
  obtain ⟨N, hN⟩ : ∃ N, (t.flat 0).length = N := ⟨_, rfl⟩
  obtain ⟨A, c, hv⟩ : ∃ A c, v = .slice A N c := by
   obtain ⟨ds, -, ho, -⟩ := hn
   obtain ⟨A, c, e, -⟩ := own_form ho
   exact ⟨A, c, by rw [← hN]; exact e⟩
  subst hv
  have hc := vCompile w1 A c N t hN hn HG.out.cnt HG.out.ok HG.out.lim HG.out.len
  have HC := Lh hc; have HB := Lh hb
  clear hc hn hN hb
  go_wp2_with fail
  refine HC.out.mono ?_
  rintro e w2 ⟨g, rfl, hgw, hps, hb2⟩
  have HPs := Lh hps; have HB2 := Lh hb2
  have hs2 := HB.out.size
  clear hps hb2
  go_wp2
  go_ret2
  have hbx : Below w2.heap.size w2 (w2.alloc (.cells #[.pointer (some ⟨g, 0, none⟩)] 116)) := (Below.refl _ _).alloc (Nat.le_refl _) _
  refine ⟨(HB.out.trans (HB2.out.mono hs2)).trans (hbx.mono (Nat.le_trans hs2 HB2.out.size)), w2.heap.size, rfl, w1, w1.heap.size, _, g, Blk.new w2 _ _, HPs.out.below hbx, HB2.out.trans (hbx.mono HB2.out.size), HG.out⟩
theorem run_lt {ins : List InstP} {find : Bool} {s : List Nat} (k : Nat) : ∀ pc ∈ runR ins find s k, pc < ins.length := fun pc hp => by
 obtain ⟨c, hc, -⟩ := kept_run k pc hp
 exact (List.getElem?_eq_some_iff.1 hc).1
theorem run_len {ins : List InstP} {find : Bool} {s : List Nat} : ∀ k, (runR ins find s k).length ≤ ins.length
 | 0 => clos_len
 | k + 1 => by
  unfold runR
  split
  ·exact clos_len
  simp
structure LoopS (w0 wr : World) (q K : Nat) (l : Bs) (rs : List Nat) (ins : List InstP) (find : Bool) (pos k : Nat) (A : Option Addr) (n c : Nat) (fb : Bool) (st : List Nat) : Prop where
 it : wr.heap[K]? = some (.stringIter ⟨l.toArray⟩ pos)
 blk : Blk wr q 118 [.slice A n c, .bool fb]
 own : wr.ownsRow w0.heap.size 3 1 (.slice A n c) n (st.map iv)
 eq : st = runR ins find rs k
 len : st.length = n
 feq : fb = decide (k = 0)
 at_ : RunAt l rs pos k
 low : Below w0.heap.size w0 wr
 kB : w0.heap.size ≤ K
theorem LoopS.nle {w0 wr : World} {q K : Nat} {l : Bs} {rs : List Nat} {ins : List InstP} {find : Bool} {pos k : Nat} {A : Option Addr} {n c : Nat} {fb : Bool} {st : List Nat} (h : LoopS w0 wr q K l rs ins find pos k A n c fb st) (hg : GoodR ins) : n ≤ 100000 := by
 rw [← h.len, h.eq]; exact Nat.le_trans (run_len k) hg.small
theorem LoopS.lt {w0 wr : World} {q K : Nat} {l : Bs} {rs : List Nat} {ins : List InstP} {find : Bool} {pos k : Nat} {A : Option Addr} {n c : Nat} {fb : Bool} {st : List Nat} (h : LoopS w0 wr q K l rs ins find pos k A n c fb st) : ∀ x ∈ st, x < ins.length := by
 rw [h.eq]; exact run_lt k
theorem LoopS.start {w0 w1 : World} {l : Bs} {ins : List InstP} {find : Bool} {A : Option Addr} {n c : Nat} (ho : w1.ownsRow w0.heap.size 3 1 (.slice A n c) n ((startR ins).map iv)) (hn : (startR ins).length = n) (hb : Below w0.heap.size w0 w1) :
  LoopS w0 ((w1.alloc (.cells #[.slice A n c, .bool true] 118)).iter ⟨l.toArray⟩ 0) w1.heap.size (w1.heap.size + 1) l (runesP l) ins find 0 0 A n c true (startR ins) := by
 have h1 := World.iter_heap (w1.alloc (.cells #[.slice A n c, .bool true] 118)) ⟨l.toArray⟩ 0
 rw [World.size_alloc] at h1
 exact ⟨h1, (Blk.new w1 _ [.slice A n c, .bool true]).alloc _, (ho.alloc _).alloc _, rfl, hn, rfl, .start l, (hb.alloc hb.size _).alloc (by simp; have := hb.size; omega) _, by have := hb.size; omega⟩
theorem LoopS.step {w0 wr w2 : World} {q K : Nat} {l : Bs} {rs : List Nat} {ins : List InstP} {find : Bool} {pos k r q' : Nat} {A A' : Option Addr} {n c n' c' : Nat} {fb : Bool} {st : List Nat} (h : LoopS w0 wr q K l rs ins find pos k A n c fb st) (hq : w0.heap.size ≤ q)
  (hr : runesP (l.drop pos) = r :: runesP (l.drop (pos + q'))) (hb : Below wr.heap.size (wr.iterAt K ⟨l.toArray⟩ (pos + q')) w2) (ho : w2.ownsRow wr.heap.size 3 1 (.slice A' n' c') n' ((stepR ins find st r).map iv)) (hn : (stepR ins find st r).length = n') :
  LoopS w0 ((w2.setCell ⟨q, 0, none⟩ (.slice A' n' c')).setCell ⟨q, 1, none⟩ (.bool false)) q K l rs ins find (pos + q') (k + 1) A' n' c' false (stepR ins find st r) := by
 obtain ⟨hk, hat⟩ := h.at_.next hr
 have hKl : K < wr.heap.size := (Array.getElem?_eq_some_iff.1 h.it).1
 have hql := h.blk.lt
 have hqK : q ≠ K := fun e => by
  subst e
  have h1 := h.blk
  unfold Blk at h1
  rw [h.it] at h1
  cases h1
 have hsz : (wr.iterAt K ⟨l.toArray⟩ (pos + q')).heap.size = wr.heap.size := Lib.iterAt_size _ _ _ _
 have b1 := (h.blk.iterAt (pos' := pos + q') h.it).below hb hql
 have b2 := (b1.set_ 0 (.slice A' n' c')).set_ 1 (.bool false)
 have i1 : w2.heap[K]? = some (.stringIter ⟨l.toArray⟩ (pos + q')) := by rw [hb.block K hKl]; exact Lib.iterAt_heap _ _ _ _ _ h.it
 have bu : But [q] w2 ((w2.setCell ⟨q, 0, none⟩ (.slice A' n' c')).setCell ⟨q, 1, none⟩ (.bool false)) := ((But.refl _ _).setCell (by simp) _).setCell (by simp) _
 refine ⟨by rw [bu.block K (Array.getElem?_eq_some_iff.1 i1).1 (by simp; exact fun e => hqK e.symm)]; exact i1, b2, ?_, ?_, hn, rfl, hat, ?_, h.kB⟩
 ·refine own_but (own_mono ho h.low.size) bu fun g hg hm => ?_
  have := (ho.lt g hg).1
  simp at hm
  omega
 ·rw [h.eq]
  show _ = runR ins find rs (k + 1)
  simp only [runR, hk]
 exact (((Lib.below_iterAt h.low h.kB _ _).trans (hb.mono h.low.size)).setCell (p := ⟨q, 0, none⟩) hq _).setCell (p := ⟨q, 1, none⟩) hq _
theorem LoopS.whole {w0 wr : World} {q K : Nat} {l : Bs} {rs : List Nat} {t : Re} {pos k : Nat} {A : Option Addr} {n c : Nat} {fb : Bool} {st : List Nat} (h : LoopS w0 wr q K l rs (progR t) false pos k A n c fb st) (ht : t.ok) (hp : ¬ pos < l.length) : matB (progR t) st fb true = wholeB t rs := by
 rw [Bool.eq_iff_iff, matB_iff, if_pos rfl, whole_iff, ← whole_R ht rs]
 have hk := h.at_.done hp
 unfold WholeR EndR
 rw [h.eq, h.feq, hk]
theorem LoopS.part {w0 wr : World} {q K : Nat} {l : Bs} {rs : List Nat} {t : Re} {pos k : Nat} {A : Option Addr} {n c : Nat} {fb : Bool} {st : List Nat} (h : LoopS w0 wr q K l rs (progR t) true pos k A n c fb st) (ht : t.ok) (hp : ¬ pos < l.length) (hno : ∀ m, m < k → ¬ MatR (progR t) (runR (progR t) true rs m)) : matB (progR t) st fb true = partB t rs := by
 rw [Bool.eq_iff_iff, matB_iff, if_pos rfl, part_iff, ← part_R ht rs]
 have hk := h.at_.done hp
 unfold PartR EndR
 rw [h.eq, h.feq, hk]
 constructor
 ·exact .inr
 rintro (⟨m, hm, hx⟩ | hx)
 ·exact absurd hx (hno m (by omega))
 exact hx
theorem LoopS.found {w0 wr : World} {q K : Nat} {l : Bs} {rs : List Nat} {t : Re} {pos k : Nat} {A : Option Addr} {n c : Nat} {fb : Bool} {st : List Nat} (h : LoopS w0 wr q K l rs (progR t) true pos k A n c fb st) (ht : t.ok) {r : Nat} (hr : rs[k]? = some r) (hm : matB (progR t) st fb false = true) : partB t rs = true := by
 rw [matB_iff, if_neg (by simp), h.eq] at hm
 rw [part_iff, ← part_R ht rs]
 exact .inl ⟨k, (List.getElem?_eq_some_iff.1 hr).1, hm⟩
theorem vWhole (t : Re) (b : Nat) (w : World) (hm : MatIs w b t) (l : Bs) :
  Calls Tryz.prog 42 #[.pointer (some ⟨b, 0, none⟩), str l] w fun e w' => e = .returned (.bool (wholeB t (runesP l))) ∧ Below w.heap.size w w' := by
 obtain ⟨W0, B, L, g, hb, hp, h0, hgt⟩ := hm
 have cb : w.cell? ⟨b, 0, none⟩ = some (.pointer (some ⟨g, 0, none⟩)) := hb.cell 0
 have hs := vStart hgt.prog g w hp
 have hsz := str_size l
 obtain ⟨rs, hrs⟩ : ∃ rs, runesP l = rs := ⟨_, rfl⟩
 have HS := Lh hs; have HB := Lh hb; have HP := Lh hp; have H0 := Lh h0; have HG := Lh hgt; have Hsz := Lh hsz; have Hrs := Lh hrs
 obtain ⟨S, hS⟩ : ∃ S : ByteArray, S = ⟨l.toArray⟩ := ⟨_, rfl⟩
 have estr : str l = .string S := by rw [hS]
 rw [estr, hrs]
 have HSS := Lh hS
 clear hs hb hp h0 hgt hsz hrs hS estr
 go_enter Tryz.func42, Tryz.ntmps42
 go_wp2_with fail
 refine HS.out.mono ?_
 rintro e w1 ⟨v, rfl, own1, hb1⟩
 obtain ⟨n1, hn1⟩ : ∃ n1, (startR (progR t)).length = n1 := ⟨_, rfl⟩
 rw [hn1] at own1
 obtain ⟨A1, c1, rfl, -⟩ := own_form own1
 have hl0 := LoopS.start (l := l) (find := false) own1 hn1 hb1
 rw [← HSS.out, Hrs.out] at hl0
 have HL0 := Lh hl0; have HB1 := Lh hb1
 clear own1 hn1 hl0 hb1
 go_wp2
 go_loopw [7] (fun _ wr => ∃ pos k A n c fb st, Hid (LoopS w wr w1.heap.size (w1.heap.size + 1) l rs (progR t) false pos k A n c fb st)) (fun _ wr => l.length - wr.iterPos (w1.heap.size + 1))
 case atStart => exact ⟨0, 0, A1, n1, c1, true, _, HL0⟩
 obtain ⟨pos, k, A, n, c, fb, st, hlo⟩ := hrel
 have hit := hlo.out.it
 rw [← HSS.out] at hit
 have hsz := Hsz.out
 rw [← HSS.out] at hsz
 have hnl := hlo.out.nle HG.out.prog
 by_cases hpos : pos < l.length
 ·obtain ⟨r, q', hde, hq1, hr, hrun⟩ := iter_next l pos hpos
  have hnx : ∀ ty, (Instr.next (.pointer (some ⟨w1.heap.size + 1, 0, none⟩)) true ty).run Tryz.prog wr = _ := fun ty => Lib.run_next_any_at wr (w1.heap.size + 1) S pos ty hit (by omega)
  rw [HSS.out, hde] at hnx
  obtain ⟨Y, hY⟩ : ∃ Y, Y = wr.iterAt (w1.heap.size + 1) ⟨l.toArray⟩ (pos + q') := ⟨_, rfl⟩
  rw [← hY] at hnx
  have hsY : Y.heap.size = wr.heap.size := by rw [hY]; exact Lib.iterAt_size _ _ _ _
  have hwY : Below w.heap.size w Y := by rw [hY]; exact Lib.below_iterAt hlo.out.low hlo.out.kB _ _
  have oY := own_iterAt (pos' := pos + q') hlo.out.own hlo.out.it
  have bY := hlo.out.blk.iterAt (pos' := pos + q') hlo.out.it
  rw [← hY] at oY bY
  have mY : Blk Y b 116 [.pointer (some ⟨g, 0, none⟩)] := HB.out.below hwY HB.out.lt
  have hst := vStep HG.out.prog st hlo.out.lt A n c hlo.out.len (by omega) fb r false g Y.drew ((RowT.of_own oY).below (Below.refl _ _).drew) (H0.out.trans (hwY.drew.mono H0.out.size)) (HP.out.below hwY.drew)
  have HST := Lh hst; have HY := Lh hY; have Hrun := Lh hrun; have HsY := Lh hsY
  have sS : Blk Y.drew b 116 [.pointer (some ⟨g, 0, none⟩)] ∧ Blk Y.drew w1.heap.size 118 [.slice A n c, .bool fb] := ⟨mY.drew, bY.drew⟩
  clear hst hY hrun hsY hwY oY bY mY hde hit hsz
  go_upto_region 7 with fail
  refine rgQ (fun w' => Blk w' b 116 [.pointer (some ⟨g, 0, none⟩)] ∧ Blk w' w1.heap.size 118 [.slice A n c, .bool fb]) 7 (by kernel_rfl) (fun _ _ d _ _ h => by cases d <;> exact h) fun qP => ?_
  apply tkq 0 (by kernel_rfl) rfl qP sS
  ·intro w' hS'; go_simp; exact ⟨rfl, rfl⟩
  apply tkq 1 (by kernel_rfl) rfl qP sS
  ·intro w' hS'; go_simp; exact ⟨rfl, rfl⟩
  apply tkq 2 (by kernel_rfl) rfl qP sS
  ·intro w' hS'; go_simp; exact ⟨rfl, rfl⟩
  apply tkq 3 (v := (.pointer (some ⟨g, 0, none⟩))) (by kernel_rfl) rfl qP sS
  ·intro w' hS'; have hk : w'.cell? ⟨b, 0, none⟩ = some (.pointer (some ⟨g, 0, none⟩)) := hS'.1.cell 0; go_simp; exact ⟨rfl, rfl⟩
  apply tkq 4 (v := (.agg #[.slice A n c, .bool fb])) (by kernel_rfl) rfl qP sS
  ·intro w' hS'; have k0 : w'.cell? ⟨w1.heap.size, 0, none⟩ = some (.slice A n c) := hS'.2.cell 0; have k1 : w'.cell? ⟨w1.heap.size, 1, none⟩ = some (.bool fb) := hS'.2.cell 1; go_simp; exact ⟨rfl, rfl⟩
  apply tkq 5 (by kernel_rfl) rfl qP sS
  ·intro w' hS'; go_simp; exact ⟨rfl, rfl⟩
  (try simp only [Act.put]); (try simp only [List.setIfInBounds_toArray]); (try simp only [List.set])
  refine rnL 6 (by kernel_rfl) rfl (by kernel_rfl) (fun K hK => ?_)
  go_simp
  refine HST.out.mono ?_
  rintro e w2 ⟨v2, rfl, own2, hb2⟩
  have bm2 := sS.1.below hb2 sS.1.lt
  have bs2 := sS.2.below hb2 sS.2.lt
  obtain ⟨n', hn'⟩ : ∃ n', (stepR (progR t) false st r).length = n' := ⟨_, rfl⟩
  rw [hn'] at own2
  obtain ⟨A', c', rfl, -⟩ := own_form own2
  have hYw2 : Below wr.heap.size Y w2 := ((Below.refl _ _).drew.trans hb2).mono (by show wr.heap.size ≤ Y.heap.size; rw [HsY.out]; exact Nat.le_refl _)
  rw [HY.out] at hYw2
  have hq : w.heap.size ≤ w1.heap.size := HB1.out.size
  have own2' : w2.ownsRow wr.heap.size 3 1 (.slice A' n' c') n' ((stepR (progR t) false st r).map iv) := own_mono own2 (by show wr.heap.size ≤ Y.heap.size; rw [HsY.out]; exact Nat.le_refl _)
  have hnew := hlo.out.step hq Hrun.out hYw2 own2' hn'
  have hmeas : l.length - (pos + q') < l.length - pos := by omega
  have hit2 : ((w2.setCell ⟨w1.heap.size, 0, none⟩ (.slice A' n' c')).setCell ⟨w1.heap.size, 1, none⟩ (.bool false)).iterPos (w1.heap.size + 1) = pos + q' := by simp only [World.iterPos, hnew.it]
  have hit1 : wr.iterPos (w1.heap.size + 1) = pos := by simp only [World.iterPos, hlo.out.it]
  have HNew := Lh hnew; have HIt2 := Lh hit2; have HIt1 := Lh hit1
  have sT : Blk w2 b 116 [.pointer (some ⟨g, 0, none⟩)] ∧ Blk w2 w1.heap.size 118 [.slice A n c, .bool fb] := ⟨bm2, bs2⟩
  have c0 : w2.cell? ⟨w1.heap.size, 0, none⟩ = some (.slice A n c) := bs2.cell 0
  have c1' : w2.cell? ⟨w1.heap.size, 1, none⟩ = some (.bool fb) := bs2.cell 1
  have f0 := bs2.frozen 0
  have f1 := bs2.frozen 1
  refine hK _ _ (fun _ => sT) ?_
  clear hK K
  (try simp only [Act.put])
  clear hnew hit2 hit1 own2 own2' hYw2 hb2 bm2 hn' sS
  refine rnL 7 (by kernel_rfl) rfl (by kernel_rfl) (fun K hK => ?_)
  go_simp
  refine hK _ _ (fun h => absurd rfl h) ?_
  clear hK K c0 c1' f0 f1 sT
  (try simp only [Act.put])
  refine dnL (by kernel_rfl) ?_ _
  go_wp2
  go_roundw
  case rel => exact ⟨pos + q', k + 1, A', n', c', false, _, HNew⟩
  case measure => rw [HIt2.out, HIt1.out]; exact hmeas
 have hnx : ∀ ty, (Instr.next (.pointer (some ⟨w1.heap.size + 1, 0, none⟩)) true ty).run Tryz.prog wr = _ := fun ty => Lib.run_next_end_at wr (w1.heap.size + 1) S pos ty hit (by omega)
 have hfin := hlo.out.whole HG.out.ok hpos
 have hpl : PlainA A c := PlainA.of_own hlo.out.own
 have mY : Blk wr b 116 [.pointer (some ⟨g, 0, none⟩)] := HB.out.below hlo.out.low HB.out.lt
 have hmat := vMatches HG.out.prog st hlo.out.lt A n c hlo.out.len (by omega) hpl fb true g wr.drew ((RowT.of_own hlo.out.own).below (Below.refl _ _).drew) (HP.out.below hlo.out.low.drew)
 rw [hfin] at hmat
 have sS : Blk wr.drew b 116 [.pointer (some ⟨g, 0, none⟩)] ∧ Blk wr.drew w1.heap.size 118 [.slice A n c, .bool fb] := ⟨mY.drew, hlo.out.blk.drew⟩
 have HM := Lh hmat; have Hlow := Lh hlo.out.low
 clear hmat hfin hpl mY hsz hlo
 go_upto_region 8 with fail
 refine rgQ (fun w' => Blk w' b 116 [.pointer (some ⟨g, 0, none⟩)] ∧ Blk w' w1.heap.size 118 [.slice A n c, .bool fb]) 100 (by kernel_rfl) (fun _ _ d _ _ h => by cases d <;> exact h) fun qP => ?_
 apply tkq 0 (by kernel_rfl) rfl qP sS
 ·intro w' hS'; go_simp; exact ⟨rfl, rfl⟩
 apply tkq 1 (by kernel_rfl) rfl qP sS
 ·intro w' hS'; go_simp; exact ⟨rfl, rfl⟩
 apply tkq 2 (by kernel_rfl) rfl qP sS
 ·intro w' hS'; go_simp; exact ⟨rfl, rfl⟩
 apply tkq 3 (v := (.pointer (some ⟨g, 0, none⟩))) (by kernel_rfl) rfl qP sS
 ·intro w' hS'; have hk : w'.cell? ⟨b, 0, none⟩ = some (.pointer (some ⟨g, 0, none⟩)) := hS'.1.cell 0; go_simp; exact ⟨rfl, rfl⟩
 apply tkq 4 (v := (.agg #[.slice A n c, .bool fb])) (by kernel_rfl) rfl qP sS
 ·intro w' hS'; have k0 : w'.cell? ⟨w1.heap.size, 0, none⟩ = some (.slice A n c) := hS'.2.cell 0; have k1 : w'.cell? ⟨w1.heap.size, 1, none⟩ = some (.bool fb) := hS'.2.cell 1; go_simp; exact ⟨rfl, rfl⟩
 (try simp only [Act.put]); (try simp only [List.setIfInBounds_toArray]); (try simp only [List.set])
 refine rnL 5 (by kernel_rfl) rfl (by kernel_rfl) (fun K hK => ?_)
 go_simp
 refine HM.out.mono ?_
 rintro e w2 ⟨rfl, hb2⟩
 have sT : Blk w2 b 116 [.pointer (some ⟨g, 0, none⟩)] ∧ Blk w2 w1.heap.size 118 [.slice A n c, .bool fb] := ⟨sS.1.below hb2 sS.1.lt, sS.2.below hb2 sS.2.lt⟩
 have hfin2 : Below w.heap.size w w2 := Hlow.out.drew.trans (hb2.mono Hlow.out.size)
 refine hK _ _ (fun _ => sT) ?_
 clear hK K
 (try simp only [Act.put])
 apply tkq 6 (by kernel_rfl) rfl qP sT
 ·intro w' hS'; go_simp; exact ⟨rfl, rfl⟩
 (try simp only [Act.put]); (try simp only [List.setIfInBounds_toArray]); (try simp only [List.set])
 refine dnL (by kernel_rfl) ?_ _
 go_wp2
 go_ret
 exact ⟨rfl, hfin2⟩
end Go.Proofs.YtecejnilajbdpaaGreatDoor
