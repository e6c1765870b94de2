import Derived.Test.YtecejnilajbdpaaGreatDoorTt37
import Derived.Test.YtecejnilajbdpaaGreatDoorTt34
import Derived.Test.YtecejnilajbdpaaGreatDoorTt08
/-! autom: Matches -/
namespace Go.Proofs.YtecejnilajbdpaaGreatDoor
open Go.RowKit Garner
noncomputable def matB (ins : List InstP) (st : List Nat) (first last : Bool) : Bool := @decide (MatR ins (if last = true then closP ins first true st else st)) (Classical.propDecidable _)
theorem matB_iff {ins : List InstP} {st : List Nat} {first last : Bool} : matB ins st first last = true ↔ MatR ins (if last = true then closP ins first true st else st) := @decide_eq_true_iff _ (Classical.propDecidable _)
set_option maxRecDepth 100000 in
set_option maxHeartbeats 4000000 in
theorem vMat1 {W0 : World} {B0 : Nat} {L : Value} {ins : List InstP} (pc : Nat) (ci : InstP) (hci : ins[pc]? = some ci) (bp g : Nat) (w : World) (hbp : Blk w bp 113 [.pointer (some ⟨g, 0, none⟩)]) (hp : ProgIs W0 B0 L w g ins) :
    Calls Tryz.prog 98 #[.int .i64 pc, .pointer (some ⟨bp, 0, none⟩)] w fun e w' => e = .returned (.bool (decide (ci.kind = 4))) ∧ w' = w := by
  obtain ⟨gI, mI, sA, sc, d1, d2, d3, d4, d5, d6⟩ := hp.look hci
  obtain ⟨hpl, -⟩ := List.getElem?_eq_some_iff.1 hci
  obtain ⟨N, hN⟩ : ∃ N, ins.length = N := ⟨_, rfl⟩
  rw [hN] at hpl d1
  have z2 : (pc : Int) < (N : Int) := by omega
  have cp : w.cell? ⟨bp, 0, none⟩ = some (.pointer (some ⟨g, 0, none⟩)) := hbp.cell 0
  clear hN d3 d4 d5 d6 hbp hci hp
  have hd : decide (ci.kind = 4) = decide ((ci.kind : Int) = 4) := by rw [decide_eq_decide]; omega
  rw [hd]
  clear hd
  go_enter Tryz.func98, Tryz.ntmps98
  go_wp2
  go_ret
  exact ⟨rfl, rfl⟩
set_option maxRecDepth 100000 in
set_option maxHeartbeats 8000000 in
theorem vIndexI {W0 : World} {B0 : Nat} {L : Value} {ins : List InstP} (st : List Nat) (hst : ∀ x ∈ st, x < ins.length) (A : Option Addr) (n c : Nat) (hn : st.length = n) (hnl : n ≤ 1000000) (bp g : Nat) (w : World) (hr : RowT w 3 A n (st.map iv)) (hbp : Blk w bp 113 [.pointer (some ⟨g, 0, none⟩)]) (hp : ProgIs W0 B0 L w g ins) :
    Calls Tryz.prog 132 #[.slice A n c, .func (.func 98) #[] #[.pointer (some ⟨bp, 0, none⟩)]] w fun e w' => ∃ k : Int, e = .returned (.int .i64 k) ∧ (0 ≤ k ↔ MatR ins st) ∧ w' = w := by
  have Hst := Lib.hid hst; have Hn := Lib.hid hn; have HR := Lib.hid hr; have Hbp := Lib.hid hbp; have HP := Lib.hid hp
  clear hst hn hr hbp hp
  go_enter Tryz.func132, Tryz.ntmps132
  go_wp2
  go_loopw [8] (fun i wr => ∃ j : Nat, j ≤ n ∧ i = .int .i64 j ∧ Hid (∀ pc ∈ st.take j, ∀ ci, ins[pc]? = some ci → ci.kind ≠ 4) ∧ wr = w) (fun i _ => n - (intOf i).toNat)
  case atStart => exact ⟨0, Nat.zero_le _, rfl, Lib.hid (by simp), rfl⟩
  case round =>
    obtain ⟨j, hj, rfl, hno, hwr⟩ := hrel
    obtain rfl : w = wr := hwr.symm
    have wj1 : IntKind.i64.wrap ((j : Int) + 1) = ((j + 1 : Nat) : Int) := by rw [IntKind.wrap_i64]; omega
    by_cases hlt : j < n
    · have z1 : (j : Int) < (n : Int) := by omega
      obtain ⟨pc, hpc⟩ : ∃ pc, st[j]? = some pc := ⟨_, List.getElem?_eq_getElem (by rw [Hn.out]; exact hlt)⟩
      have hpl := Hst.out pc (List.mem_of_getElem? hpc)
      obtain ⟨ci, hci⟩ : ∃ ci, ins[pc]? = some ci := ⟨_, List.getElem?_eq_getElem hpl⟩
      have htk : st.take (j + 1) = st.take j ++ [pc] := by
        obtain ⟨h1, e⟩ := List.getElem?_eq_some_iff.1 hpc
        rw [List.take_succ_eq_append_getElem h1, e]
      obtain ⟨bk, ok, rfl, ck⟩ := HR.out.at_ (k := j) (u := iv pc) (by rw [List.getElem?_map, hpc]; rfl)
      have ck1 : w.cell? ⟨bk, ok + j, none⟩ = some (.int .i64 (pc : Nat)) := ck
      have hm := vMat1 pc ci hci bp g w Hbp.out HP.out
      have hmem := List.mem_of_getElem? hpc
      by_cases h4 : ci.kind = 4
      · have hd : decide (ci.kind = 4) = true := by simp [h4]
        rw [hd] at hm
        have hy : MatR ins st := ⟨pc, hmem, ci, hci, h4⟩
        have HM := Lib.hid hm; have HY := Lib.hid hy
        clear hm hy hd hci hpc htk ck hmem hpl h4
        go_wp2_with fail
        refine HM.out.mono ?_
        rintro e w1 ⟨rfl, rfl⟩
        go_wp2_with fail
        go_ret
        exact ⟨_, rfl, ⟨fun _ => HY.out, fun _ => by omega⟩, rfl⟩
      · have hd : decide (ci.kind = 4) = false := by simp [h4]
        rw [hd] at hm
        have hy : ∀ pc ∈ st.take (j + 1), ∀ ci, ins[pc]? = some ci → ci.kind ≠ 4 := by
          intro p hp2 c2 hc2
          rw [htk] at hp2
          rcases List.mem_append.1 hp2 with h | h
          · exact hno.out p h c2 hc2
          · rw [List.mem_singleton.1 h, hci] at hc2
            cases hc2
            exact h4
        have HM := Lib.hid hm; have HY := Lib.hid hy
        clear hm hy hd hci hpc htk ck hmem hpl h4
        go_wp2_with fail
        refine HM.out.mono ?_
        rintro e w1 ⟨rfl, rfl⟩
        go_wp2_with fail
        go_roundw
        case rel => exact ⟨j + 1, by omega, rfl, HY, by first | rfl | trivial⟩
        case measure => simp [intOf]; omega
    · have z1 : ¬ (j : Int) < (n : Int) := by omega
      have hno2 : ¬ MatR ins st := by
        rintro ⟨pc, hm, c2, hc2, h4⟩
        refine hno.out pc ?_ c2 hc2 h4
        rw [List.take_of_length_le (by rw [Hn.out]; omega)]; exact hm
      have HN := Lib.hid hno2
      clear hno2 hno
      go_wp2_with fail
      go_ret
      exact ⟨_, rfl, ⟨fun h => absurd h (by omega), fun h => absurd h HN.out⟩, rfl⟩
set_option maxRecDepth 100000 in
set_option maxHeartbeats 4000000 in
theorem vContI {W0 : World} {B0 : Nat} {L : Value} {ins : List InstP} (st : List Nat) (hst : ∀ x ∈ st, x < ins.length) (A : Option Addr) (n c : Nat) (hn : st.length = n) (hnl : n ≤ 1000000) (bp g : Nat) (w : World) (hr : RowT w 3 A n (st.map iv)) (hbp : Blk w bp 113 [.pointer (some ⟨g, 0, none⟩)]) (hp : ProgIs W0 B0 L w g ins) (ANS : Bool) (hA : ANS = true ↔ MatR ins st) :
    Calls Tryz.prog 97 #[.slice A n c, .func (.func 98) #[] #[.pointer (some ⟨bp, 0, none⟩)]] w fun e w' => e = .returned (.bool ANS) ∧ w' = w := by
  have hi := vIndexI (c := c) st hst A n hn hnl bp g w hr hbp hp
  have HI := Lib.hid hi; have HA := Lib.hid hA
  clear hi hA hst hn hr hbp hp
  go_enter Tryz.func97, Tryz.ntmps97
  go_wp2_with fail
  refine HI.out.mono ?_
  rintro e w1 ⟨k, rfl, hk, rfl⟩
  have e : ANS = decide (0 ≤ k) := by
    rw [Bool.eq_iff_iff, HA.out, decide_eq_true_iff]; exact hk.symm
  have He := Lib.hid e
  clear hk e
  go_wp2
  go_ret
  exact ⟨congrArg (fun b => Ending.returned (.bool b)) He.out.symm, rfl⟩
set_option maxRecDepth 100000 in
set_option maxHeartbeats 8000000 in
theorem vMatches {W0 : World} {B0 : Nat} {L : Value} {ins : List InstP} (hg : GoodR ins) (st : List Nat) (hst : ∀ x ∈ st, x < ins.length) (A : Option Addr) (n c : Nat) (hn : st.length = n) (hnl : n ≤ 200000) (hA : PlainA A c) (f last : Bool) (g : Nat) (w : World)
    (hr : RowT w 3 A n (st.map iv)) (hp : ProgIs W0 B0 L w g ins) :
    Calls Tryz.prog 69 #[.pointer (some ⟨g, 0, none⟩), .agg #[.slice A n c, .bool f], .bool last] w fun e w' => e = .returned (.bool (matB ins st f last)) ∧ Below w.heap.size w w' := by
  have hmf : ∀ (fn : Fn) (first cap : Array Value) (w : World), (Instr.makeFunc fn first cap).run Tryz.prog w = .ok (.func fn first cap) w := fun _ _ _ _ => rfl
  obtain ⟨X, hX⟩ : ∃ X, X = (w.alloc (.cells #[.pointer (some ⟨g, 0, none⟩)] 113)).alloc (.cells #[.slice A n c, .bool f] 118) := ⟨_, rfl⟩
  have hbX : Below w.heap.size w X := by rw [hX]; exact ((Below.refl _ _).alloc (Nat.le_refl _) _).alloc (by simp) _
  have xP : Blk X w.heap.size 113 [.pointer (some ⟨g, 0, none⟩)] := by rw [hX]; exact (Blk.new w _ [.pointer (some ⟨g, 0, none⟩)]).alloc _
  have xS : Blk X (w.heap.size + 1) 118 [.slice A n c, .bool f] := by
    rw [hX]
    have h := Blk.new (w.alloc (.cells #[.pointer (some ⟨g, 0, none⟩)] 113)) 118 [.slice A n c, .bool f]
    simpa using h
  have hpX := hp.below hbX
  have hrX := hr.below hbX
  have cP : X.cell? ⟨w.heap.size, 0, none⟩ = some (.pointer (some ⟨g, 0, none⟩)) := xP.cell 0
  have cS : X.cell? ⟨w.heap.size + 1, 0, none⟩ = some (.slice A n c) := xS.cell 0
  have cF : X.cell? ⟨w.heap.size + 1, 1, none⟩ = some (.bool f) := xS.cell 1
  have hsX := hbX.size
  cases last with
  | true =>
    have hc := vClosure hg.tgt st hst f true A n c g X hn (by omega) hA hrX hpX
    obtain ⟨cl, hcl⟩ : ∃ cl, closP ins f true st = cl := ⟨_, rfl⟩
    have hclt : ∀ x ∈ cl, x < ins.length := by rw [← hcl]; exact clos_lt
    have hcll : cl.length ≤ 100000 := by rw [← hcl]; exact Nat.le_trans clos_len hg.small
    have hm : matB ins st f true = true ↔ MatR ins cl := by rw [matB_iff, if_pos rfl, hcl]
    rw [hcl] at hc
    have HC := Lib.hid hc; have HB := Lib.hid hbX; have HP := Lib.hid hpX; have XP := Lib.hid xP; have HM := Lib.hid hm; have Hlt := Lib.hid hclt
    clear hc hbX hpX xP xS hm hclt hr hp hst hn hrX hg hA hcl
    go_enter Tryz.func69, Tryz.ntmps69
    go_upto_region 1 with fail
    rw [← hX]
    clear hX
    go_wp2_with fail
    refine HC.out.mono ?_
    rintro e w2 ⟨v, rfl, own2, hb2⟩
    obtain ⟨A2, c2, rfl, -⟩ := own_form own2
    have hcon := vContI (c := c2) cl Hlt.out A2 cl.length rfl (by omega) w.heap.size g w2 (RowT.of_own own2) (XP.out.below hb2 XP.out.lt) (HP.out.below hb2) _ HM.out
    obtain ⟨n2, hn2⟩ : ∃ n2, cl.length = n2 := ⟨_, rfl⟩
    rw [hn2] at hcon ⊢
    have HCon := Lib.hid hcon; have HB2 := Lib.hid hb2
    clear hcon own2 hb2 hn2
    go_wp2_with fail
    refine HCon.out.mono ?_
    rintro e w3 ⟨rfl, rfl⟩
    go_wp2
    go_ret
    exact ⟨rfl, HB.out.trans (HB2.out.mono hsX)⟩
  | false =>
    have hm : matB ins st f false = true ↔ MatR ins st := by rw [matB_iff, if_neg (by simp)]
    have hcon := vContI (c := c) st hst A n hn (by omega) w.heap.size g X hrX xP hpX _ hm
    have HCon := Lib.hid hcon; have HB := Lib.hid hbX
    clear hcon hbX hpX xP xS hm hr hp hst hn hrX hg hA
    go_enter Tryz.func69, Tryz.ntmps69
    go_upto_region 1 with fail
    rw [← hX]
    clear hX
    go_wp2_with fail
    refine HCon.out.mono ?_
    rintro e w3 ⟨rfl, rfl⟩
    go_wp2
    go_ret
    exact ⟨rfl, HB.out⟩
end Go.Proofs.YtecejnilajbdpaaGreatDoor

/-! nfa: New, Whole, Part -/
namespace Garner
open Go
end Garner
namespace Go.Proofs.YtecejnilajbdpaaGreatDoor
open Go.RowKit Garner
/-- a matcher of a tree's -/
def MatIs (w : World) (b : Nat) (t : Re) : Prop := ∃ W0 B L g, Blk w b 116 [.pointer (some ⟨g, 0, none⟩)] ∧ ProgIs W0 B L w g (progR t) ∧ Below W0.heap.size W0 w ∧ GoodT t
theorem MatIs.below {w w' : World} {b : Nat} {t : Re} (h : MatIs w b t) (hb : Below w.heap.size w w') : MatIs w' b t := by
  obtain ⟨W0, B, L, g, h1, h2, h3, h4⟩ := h
  exact ⟨W0, B, L, g, h1.below hb h1.lt, h2.below hb, h3.trans (hb.mono h3.size), h4⟩
def NewP (o : Except Nat Re) (e : Ending) (w' : World) : Prop := match o with
  | .error k => e = .returned (.tuple #[.pointer none, .int .i64 (k : Nat)])
  | .ok t => ∃ b, e = .returned (.tuple #[.pointer (some ⟨b, 0, none⟩), .int .i64 0]) ∧ MatIs w' b t
set_option maxRecDepth 100000 in
set_option maxHeartbeats 8000000 in
theorem vNew (l : Bs) (w : World) (hL : Lt w) (hl : l.length ≤ 9223372036854775807) :
    Calls Tryz.prog 40 #[str l] w fun e w' => Below w.heap.size w w' ∧ NewP (rexpP l) e w' := by
  have hp := vParse l w hL hl
  have hg := fun t => @rexp_good l t
  have he := fun k => @err_pos l k
  obtain ⟨OUT, hOUT⟩ : ∃ OUT, rexpP l = OUT := ⟨_, rfl⟩
  rw [hOUT] at hp ⊢
  have HP := Lib.hid hp
  cases OUT with
  | error k =>
    have hk := he k hOUT
    have z1 : ¬ (k : Int) = 0 := by omega
    clear hp hg he hOUT hk
    go_enter Tryz.func40, Tryz.ntmps40
    go_wp2_with fail
    refine HP.out.mono ?_
    rintro e w1 ⟨hb, ho⟩
    obtain rfl : e = _ := ho
    go_wp2
    go_ret2
    exact ⟨hb, rfl⟩
  | ok t =>
    have hgt := hg t hOUT
    have HG := Lib.hid hgt
    clear hp hg he hOUT hgt
    go_enter Tryz.func40, Tryz.ntmps40
    go_wp2_with fail
    refine HP.out.mono ?_
    rintro e w1 ⟨hb, v, rfl, hn⟩
    obtain ⟨N, hN⟩ : ∃ N, (t.flat 0).length = N := ⟨_, rfl⟩
    obtain ⟨A, c, hv⟩ : ∃ A c, v = .slice A N c := by
      obtain ⟨ds, -, ho, -⟩ := hn
      obtain ⟨A, c, e, -⟩ := own_form ho
      exact ⟨A, c, by rw [← hN]; exact e⟩
    subst hv
    have hc := vCompile w1 A c N t hN hn HG.out.cnt HG.out.ok HG.out.lim HG.out.len
    have HC := Lib.hid hc; have HB := Lib.hid hb
    clear hc hn hN hb
    go_wp2_with fail
    refine HC.out.mono ?_
    rintro e w2 ⟨g, rfl, hgw, hps, hb2⟩
    have HPs := Lib.hid hps; have HB2 := Lib.hid hb2
    have hs2 := HB.out.size
    clear hps hb2
    go_wp2
    go_ret2
    have hbx : Below w2.heap.size w2 (w2.alloc (.cells #[.pointer (some ⟨g, 0, none⟩)] 116)) := (Below.refl _ _).alloc (Nat.le_refl _) _
    refine ⟨(HB.out.trans (HB2.out.mono hs2)).trans (hbx.mono (Nat.le_trans hs2 HB2.out.size)), w2.heap.size, rfl, w1, w1.heap.size, _, g, Blk.new w2 _ _, HPs.out.below hbx, HB2.out.trans (hbx.mono HB2.out.size), HG.out⟩
end Go.Proofs.YtecejnilajbdpaaGreatDoor

