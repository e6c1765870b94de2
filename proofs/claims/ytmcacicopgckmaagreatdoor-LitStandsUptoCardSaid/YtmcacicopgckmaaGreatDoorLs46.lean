import Derived.Test.YtmcacicopgckmaaGreatDoorLs45
/-! text: Inner -/
namespace Garner
open Go
def innerQ (N : Nat) (L : List RunP) : List Bs := (L.filter fun u => decide (0 < u.fr) && decide (u.to < N)).map fun u => encT u.word
theorem innerT_eq (l : Bs) : innerT l = innerQ l.length (runsT l) := rfl
theorem innerQ_snoc (N : Nat) (L : List RunP) (u : RunP) : innerQ N (L ++ [u]) = innerQ N L ++ if 0 < u.fr ∧ u.to < N then [encT u.word] else [] := by
  unfold innerQ
  rw [List.filter_append, List.map_append]
  congr 1
  by_cases h : 0 < u.fr ∧ u.to < N
  · rw [if_pos h]; simp [h.1, h.2]
  · rw [if_neg h]
    have : (decide (0 < u.fr) && decide (u.to < N)) = false := by
      rw [Bool.and_eq_false_iff, decide_eq_false_iff_not, decide_eq_false_iff_not]
      omega
    simp [this]
theorem innerQ_len (N : Nat) (L : List RunP) : (innerQ N L).length ≤ L.length := by
  unfold innerQ
  rw [List.length_map]
  exact List.length_filter_le _ _
end Garner
namespace Go.Proofs.YtmcacicopgckmaaGreatDoor
open Go.RowKit Garner
theorem RunsD.nth {B : Nat} {w : World} {v : Value} {ds : List RunD} (h : RunsD B w v ds) {j : Nat} {d : RunD} (hd : ds[j]? = some d) : ∃ gL cap, v = .slice (some ⟨gL, 0, none⟩) ds.length cap ∧ w.cell? ⟨gL, j * 3, none⟩ = some (.slice d.A d.p.word.length d.c) ∧ w.cell? ⟨gL, j * 3 + 1, none⟩ = some (.int .i64 d.p.fr) ∧ w.cell? ⟨gL, j * 3 + 2, none⟩ = some (.int .i64 d.p.to) := by
  have hj := (List.getElem?_eq_some_iff.1 hd).1
  obtain ⟨A, c, rfl, hc⟩ := own_form h.own
  obtain ⟨gL, rfl, hB, hg, -, -, hcell⟩ := own_at h.own (by omega)
  exact ⟨gL, c, rfl, by rw [hcell _ (by omega)]; exact run_at hd 0 (by omega), by rw [hcell _ (by omega)]; exact run_at hd 1 (by omega), by rw [hcell _ (by omega)]; exact run_at hd 2 (by omega)⟩
theorem RunsD.kept {B : Nat} {w w' : World} {v : Value} {ds : List RunD} (h : RunsD B w v ds) {Bs n : Nat} {vs : Value} {xs : List Value} (ho : w.ownsRow Bs 9 1 vs n xs) (hg : w.grownBy w' vs.ownBlock) : RunsD B w' v ds := by
  have key : ∀ {e : TypeId} {sz n : Nat} {v : Value} {xs : List Value}, w.ownsRow B e sz v n xs → e ≠ 9 → w'.ownsRow B e sz v n xs := fun hx hne => own_grown hx hg (by
    rename_i v _
    rcases hb : v.ownBlock with _ | k
    · exact .inl rfl
    · refine .inr fun e => ?_
      have := own_own ho hx (fun e => hne e.symm) k hb
      rw [← e] at this
      simp at this)
  exact ⟨key h.own (by decide), fun d hd => key (h.word d hd) (by decide), h.apart⟩
set_option maxRecDepth 100000 in
set_option maxHeartbeats 32000000 in
theorem vInner (S : ByteArray) (l : Bs) (hS : S = ⟨l.toArray⟩) (w : World) (hl : l.length ≤ 1000000000000) :
    Calls Tryz.prog 37 #[.string S] w fun e w' => ∃ v, e = .returned v ∧ w'.ownsRow w.heap.size 9 1 v (innerP l).length ((innerP l).map strV) ∧ Below w.heap.size w w' := by
  have hr := vRuns S l hS w hl
  have zS : S.size = l.length := by rw [hS]; exact str_size l
  obtain ⟨N, hN⟩ : ∃ N, l.length = N := ⟨_, rfl⟩
  rw [hN] at zS hl hr
  have HR := Lib.hid hr; have HN := Lib.hid hN
  clear hr hN hS
  go_enter Tryz.func37, Tryz.ntmps37
  go_wp2_with fail
  refine HR.out.mono ?_
  rintro e w1 ⟨v1, ds, rfl, hds, hrun, hb1, hlen⟩
  obtain ⟨A1, c1, rfl, -⟩ := own_form hrun.own
  obtain ⟨M, hM⟩ : ∃ M, ds.length = M := ⟨_, rfl⟩
  rw [hM] at hrun hlen ⊢
  have HM := Lib.hid hM; have Hds := Lib.hid hds; have Hrun := Lib.hid hrun; have HB1 := Lib.hid hb1
  clear hM hds hrun hb1 HR
  go_wp2
  go_loopw [3, 9] (fun v i wr => ∃ (j : Nat) (out : List Bs), j ≤ M ∧ i = .int .i64 j ∧ Hid (out = innerQ N ((ds.take j).map (·.p))) ∧ Hid (wr.ownsRow w.heap.size 9 1 v out.length (out.map strV)) ∧ Hid (RunsD w.heap.size wr (.slice A1 M c1) ds) ∧ Hid (Below w.heap.size w wr) ∧ out.length ≤ j) (fun _ i _ => M - (intOf i).toNat)
  case atStart => exact ⟨0, [], Nat.zero_le _, rfl, Lib.hid rfl, Lib.hid (World.ownsRow_nil _ _ _ _), Hrun, HB1, Nat.le_refl _⟩
  case round =>
    obtain ⟨j, out, hj, rfl, hout, hown, hrun, hbw, hoj⟩ := hrel
    obtain ⟨wo, rfl⟩ : ∃ wo : World, wo = wr := ⟨_, rfl⟩
    obtain ⟨A3, c3, rfl, -⟩ := own_form hown.out
    obtain ⟨n3, hn3⟩ : ∃ n3, out.length = n3 := ⟨_, rfl⟩
    rw [hn3] at hown hoj ⊢
    have Hn3 := Lib.hid hn3
    clear hn3
    have hso := hbw.out.size
    have wj1 : IntKind.i64.wrap ((j : Int) + 1) = ((j + 1 : Nat) : Int) := by rw [IntKind.wrap_i64]; omega
    by_cases hlt : j < M
    · have z1 : (j : Int) < (M : Int) := by omega
      obtain ⟨d, hd⟩ : ∃ d, ds[j]? = some d := ⟨_, List.getElem?_eq_getElem (by rw [HM.out]; exact hlt)⟩
      obtain ⟨gL, cap, ev, k0, k1, k2⟩ := hrun.out.nth hd
      rw [HM.out] at ev
      cases ev
      have htk : (ds.take (j + 1)).map (·.p) = (ds.take j).map (·.p) ++ [d.p] := by rw [List.take_add_one, hd, Option.toList_some, List.map_append]; rfl
      have hq := innerQ_snoc N ((ds.take j).map (·.p)) d.p
      rw [← htk, ← hout.out] at hq
      have hdw := hrun.out.word d (List.mem_of_getElem? hd)
      obtain ⟨n, hn⟩ : ∃ n, d.p.word.length = n := ⟨_, rfl⟩
      obtain ⟨fr, hfr⟩ : ∃ fr, d.p.fr = fr := ⟨_, rfl⟩
      obtain ⟨te, hto⟩ : ∃ te, d.p.to = te := ⟨_, rfl⟩
      rw [hn] at k0
      rw [hfr] at k1 hq
      rw [hto] at k2 hq
      have hdv : d.v = .slice d.A n d.c := by unfold RunD.v; rw [hn]
      rw [hdv, hn] at hdw
      obtain ⟨X, hX⟩ : ∃ X, X = wo.alloc (.cells #[.slice d.A n d.c, .int .i64 fr, .int .i64 te] 102) := ⟨_, rfl⟩
      have hbX : Below wo.heap.size wo X := by rw [hX]; exact (Below.refl _ _).alloc (Nat.le_refl _) _
      have bX : Blk X wo.heap.size 102 [.slice d.A n d.c, .int .i64 fr, .int .i64 te] := by rw [hX]; exact Blk.new wo _ _
      have x0 : X.cell? ⟨wo.heap.size, 0, none⟩ = some (.slice d.A n d.c) := bX.cell 0
      have x1 : X.cell? ⟨wo.heap.size, 1, none⟩ = some (.int .i64 fr) := bX.cell 1
      have x2 : X.cell? ⟨wo.heap.size, 2, none⟩ = some (.int .i64 te) := bX.cell 2
      have hcv := run_word (own_below hdw hbX)
      have hwX : Below w.heap.size w X := hbw.out.trans (hbX.mono hso)
      have hsX := hwX.size
      have OX := Lib.hid (own_below hown.out hbX); have RX := Lib.hid (hrun.out.below hbX); have HwX := Lib.hid hwX; have Hq := Lib.hid hq
      clear hdw hdv hbX bX hwX htk hd hn hfr hto hrun hown hbw hout hq
      go_upto_region 5 with fail
      rw [← hX]
      clear hX k0 k1 k2
      by_cases hyes : 0 < fr ∧ te < N
      · obtain ⟨y1, y2⟩ := hyes
        have z2 : (0 : Int) < (fr : Int) := by omega
        have z3 : (te : Int) < (N : Int) := by omega
        have hq2 : innerQ N ((ds.take (j + 1)).map (·.p)) = out ++ [encT d.p.word] := by rw [Hq.out, if_pos ⟨y1, y2⟩]
        have Hq2 := Lib.hid hq2
        clear hq2 y1 y2 Hq
        go_wp2_with (at_builtin; refine wpList_app _ rfl strE rfl rfl (OX.out.alloc _) rfl (row_new X _ [_]) (by simp [Value.oneCell']) (by first | omega | (simp; done) | (simp; omega)) (by simp; omega) ?_; intro v8 w8 own8 hg8 hb8 hx8)
        have hk8 := (RX.out.below ((Below.refl _ _).alloc (Nat.le_refl _) _)).kept (OX.out.alloc _) hg8
        have hw8 : Below w.heap.size w w8 := (HwX.out.alloc hsX _).trans hb8
        have K8 := Lib.hid hk8; have W8 := Lib.hid hw8; have O8 := Lib.hid own8
        clear hk8 hw8 own8 hg8 hb8 hx8 hcv x0 x1 x2
        go_wp2
        go_roundw
        case rel => exact ⟨j + 1, out ++ [encT d.p.word], by omega, by first | rfl | go_num, Lib.hid Hq2.out.symm, Lib.hid (by rw [List.length_append, Hn3.out, List.map_append]; exact O8.out), K8, W8, by rw [List.length_append, Hn3.out]; show n3 + 1 ≤ _; omega⟩
        case measure => simp [intOf]; omega
      · have hq2 : innerQ N ((ds.take (j + 1)).map (·.p)) = out := by rw [Hq.out, if_neg hyes, List.append_nil]
        have hno : ¬ (0 : Int) < (fr : Int) ∨ ((0 : Int) < (fr : Int) ∧ ¬ (te : Int) < (N : Int)) := by omega
        have Hq2 := Lib.hid hq2
        clear hq2 hyes Hq hcv
        rcases hno with z2 | ⟨z2, z3⟩
        all_goals
          go_wp2_with fail
          go_roundw
          case rel => exact ⟨j + 1, out, by omega, by first | rfl | go_num, Lib.hid Hq2.out.symm, Lib.hid (by rw [Hn3.out]; exact OX.out), RX, HwX, by rw [Hn3.out]; omega⟩
          case measure => simp [intOf]; omega
    · obtain rfl : j = M := by omega
      have z1 : ¬ (j : Int) < (j : Int) := by omega
      have hfin : out = innerT l := by rw [hout.out, List.take_of_length_le (by rw [HM.out]; exact Nat.le_refl _), Hds.out, innerT_eq, HN.out]
      have hsort := vSortS _ out w.heap.size wo (by rw [Hn3.out]; exact hown.out) (by rw [Hn3.out]; omega)
      have HSo := Lib.hid hsort; have HF := Lib.hid hfin
      clear hsort hfin hout hrun
      go_wp2_with fail
      refine HSo.out.mono ?_
      rintro e w2 ⟨rfl, own2, hg2⟩
      have hb2 : Below w.heap.size w w2 := hbw.out.trans ((Below.refl _ _).grown hg2 hso fun k hk => (hown.out.lt k (by exact hk)).1)
      have hsl : (sortB out).length = n3 := by rw [(sortB_perm out).length_eq, Hn3.out]
      have own2' : w2.ownsRow w.heap.size 9 1 (.slice A3 n3 c3) (sortB out).length ((sortB out).map strV) := by rw [hsl]; rw [Hn3.out] at own2; exact own2
      have hcomp := vCompactS _ (sortB out) w.heap.size w2 own2' (by rw [hsl]; omega)
      have HCo := Lib.hid hcomp; have HB2 := Lib.hid hb2; have O2 := Lib.hid own2'; have HSl := Lib.hid hsl
      have hs2 := hb2.size
      clear hcomp hb2 own2 own2' hg2 hsl
      go_wp2_with fail
      refine HCo.out.mono ?_
      rintro e w3 ⟨v3, rfl, own3, hg3⟩
      have hb3 : Below w.heap.size w w3 := HB2.out.trans ((Below.refl _ _).grown hg3 hs2 fun k hk => (O2.out.lt k (by exact hk)).1)
      have ei : Lib.compact (sortB out) = innerP l := by rw [HF.out]; rfl
      rw [ei] at own3
      have O3 := Lib.hid own3; have HB3 := Lib.hid hb3
      clear own3 hb3 hg3 ei
      go_wp2
      go_ret
      exact ⟨_, rfl, O3.out, HB3.out⟩
end Go.Proofs.YtmcacicopgckmaaGreatDoor
/-! lit: Words -/
namespace Garner
open Go
mutual
theorem litRow_all : ∀ (l : List Re) (run x : Bs), x ∈ litRow l run → x.length ≤ run.length + 4 * cnts l
  | [], run, x, h => by
    rw [litRow] at h
    unfold addL at h
    split at h
    · cases h
    · rw [List.mem_singleton.1 h]; omega
  | t :: ts, run, x, h => by
    rw [litRow] at h
    have hc := cnt_pos t
    rw [cnts]
    split at h
    · rename_i r _
      have h1 := litRow_all ts (run ++ encR r) x h
      have h2 := encR_len r
      rw [List.length_append] at h1; omega
    · rw [List.mem_append, List.mem_append] at h
      rcases h with h | h | h
      · unfold addL at h
        split at h
        · cases h
        · rw [List.mem_singleton.1 h]; omega
      · have := litSub_all t x h; omega
      · have := litRow_all ts [] x h
        simp at this; omega
theorem litSub_all : ∀ (t : Re) (x : Bs), x ∈ litSub t → x.length ≤ 4 * t.cnt
  | .emp, x, h => by simp [litSub] at h
  | .set _, x, h => by simp [litSub] at h
  | .seq l, x, h => by
    rw [litSub] at h
    have := litRow_all l [] x h
    rw [Re.cnt]; simp at this; omega
  | .alt _, x, h => by simp [litSub] at h
  | .rep k mn mx, x, h => by
    rw [litSub] at h
    rw [Re.cnt]
    split at h
    · split at h
      · rename_i r _
        unfold addL at h
        split at h
        · cases h
        · rw [List.mem_singleton.1 h]
          have := encR_len r
          omega
      · have := litSub_all k x h; omega
    · cases h
  | .bgn, x, h => by simp [litSub] at h
  | .fin, x, h => by simp [litSub] at h
end
theorem once_len (l : List Bs) : (onceB l).length ≤ l.length := by
  have h := compact_len (sortB l)
  rw [(sortB_perm l).length_eq] at h
  exact h
theorem inner_len (x : Bs) : (innerP x).length ≤ x.length := by
  have h1 := once_len (innerT x)
  have h2 := innerQ_len x.length (runsT x)
  rw [← innerT_eq] at h2
  have h3 := runsAt_len (itemsOf 0 x)
  have h4 := itemsGo_len x.length 0 x (Nat.le_refl _)
  have e1 : (runsAt (itemsOf 0 x)).1 = runsT x := rfl
  have e2 : (itemsOf 0 x).length = (itemsGo x.length 0 x).length := rfl
  rw [e1] at h3
  unfold innerP
  omega
end Garner
namespace Go.Proofs.YtmcacicopgckmaaGreatDoor
open Go.RowKit Garner
/-- bounds of what a pattern needs -/
theorem needs_few {l : Bs} {t : Re} (h : rexpP l = .ok t) : (needsP t).length ≤ 20001 ∧ ∀ x ∈ needsP t, x.length ≤ 40000 := by
  have hc := (rexp_good h).cnt
  refine ⟨?_, fun x hx => ?_⟩
  · have h1 := once_len (litT t)
    have h2 := litRow_len [t] []
    simp [cnts] at h2
    unfold needsP litT at *
    omega
  · rw [needsP, mem_onceB] at hx
    have := litRow_all [t] [] x hx
    simp [cnts] at this
    omega
def wordsE (l : Bs) : Except Nat (List Bs) := match needsE l with | .error k => .error k | .ok ns => .ok (onceB (ns.flatMap innerP))
theorem needs_ok {l : Bs} {ns : List Bs} (h : needsE l = .ok ns) : ns.length ≤ 20001 ∧ ∀ x ∈ ns, x.length ≤ 40000 := by
  unfold needsE at h
  split at h
  · cases h
  · rename_i t ht
    injection h with h
    subst h
    exact needs_few ht
theorem needs_err {l : Bs} {k : Nat} (h : needsE l = .error k) : k ≠ 0 := by
  unfold needsE at h
  split at h
  · rename_i k' hk
    injection h with h
    subst h
    have := err_pos hk
    omega
  · cases h
set_option maxRecDepth 100000 in
set_option maxHeartbeats 16000000 in
theorem vWords (l : Bs) (w : World) (hL : Lt w) (hl : l.length ≤ 9223372036854775807) :
    Calls Tryz.prog 11 #[str l] w fun e w' => Below w.heap.size w w' ∧ StrsP (wordsE l) w.heap.size e w' := by
  have hp := vNeeds l w hL hl
  have hf := fun ns => @needs_ok l ns
  have he := fun k => @needs_err l k
  unfold wordsE
  obtain ⟨OUT, hOUT⟩ : ∃ OUT, needsE l = OUT := ⟨_, rfl⟩
  rw [hOUT] at hp ⊢
  have HP := Lib.hid hp
  cases OUT with
  | error k =>
    have hk := he k hOUT
    have z1 : ¬ (k : Int) = 0 := by omega
    clear hp hf he hOUT hk
    go_enter Tryz.func11, Tryz.ntmps11
    go_wp2_with fail
    refine HP.out.mono ?_
    rintro e w1 ⟨hb, ho⟩
    obtain rfl : e = _ := ho
    go_wp2
    go_ret2
    exact ⟨hb, rfl⟩
  | ok ns =>
    obtain ⟨hn, hx⟩ := hf ns hOUT
    obtain ⟨N, hN⟩ : ∃ N, ns.length = N := ⟨_, rfl⟩
    rw [hN] at hn
    have Hx := Lib.hid hx; have HN := Lib.hid hN
    clear hp hf he hOUT hx hN
    go_enter Tryz.func11, Tryz.ntmps11
    go_wp2_with fail
    refine HP.out.mono ?_
    rintro e w1 ⟨hb, v, rfl, hown⟩
    obtain ⟨A, c, rfl, -⟩ := own_form hown
    rw [HN.out] at hown ⊢
    have HB := Lib.hid hb; have HOwn := Lib.hid hown
    have hs1 := hb.size
    clear hb hown
    go_wp2
    go_loopw [6, 19] (fun v i wr => ∃ (j : Nat) (out : List Bs), j ≤ N ∧ i = .int .i64 j ∧ Hid (out = (ns.take j).flatMap innerP) ∧ Hid (wr.ownsRow w1.heap.size 9 1 v out.length (out.map strV)) ∧ Hid (Below w1.heap.size w1 wr) ∧ out.length ≤ j * 40000) (fun _ i _ => N - (intOf i).toNat)
    case atStart => exact ⟨0, [], Nat.zero_le _, rfl, Lib.hid rfl, Lib.hid (World.ownsRow_nil _ _ _ _), Lib.hid (Below.refl _ _), by simp⟩
    case round =>
      obtain ⟨j, out, hj, rfl, hout, ho, hbw, hoj⟩ := hrel
      obtain ⟨wo, rfl⟩ : ∃ wo : World, wo = wr := ⟨_, rfl⟩
      obtain ⟨A3, c3, rfl, -⟩ := own_form ho.out
      obtain ⟨n3, hn3⟩ : ∃ n3, out.length = n3 := ⟨_, rfl⟩
      rw [hn3] at ho hoj ⊢
      have Hn3 := Lib.hid hn3
      clear hn3
      have hso := hbw.out.size
      have wj1 : IntKind.i64.wrap ((j : Int) + 1) = ((j + 1 : Nat) : Int) := by rw [IntKind.wrap_i64]; omega
      have bz1 : n3 ≤ 900000000 := by omega
      by_cases hlt : j < N
      · have z1 : (j : Int) < (N : Int) := by omega
        obtain ⟨x, hxj⟩ : ∃ x, ns[j]? = some x := ⟨_, List.getElem?_eq_getElem (by rw [HN.out]; exact hlt)⟩
        have hxl := Hx.out x (List.mem_of_getElem? hxj)
        have hrow := Row.of_own (own_below HOwn.out (hbw.out.mono (Nat.le_refl _)))
        obtain ⟨bs, os, rfl, -, cx⟩ := str_at hrow hxj
        have hin := vInner ⟨x.toArray⟩ x rfl wo (by omega)
        have hil := inner_len x
        have htk : (ns.take (j + 1)).flatMap innerP = out ++ innerP x := by rw [List.take_add_one, hxj, Option.toList_some, List.flatMap_append, ← hout.out]; simp
        obtain ⟨S, hS⟩ : ∃ S : ByteArray, S = ⟨x.toArray⟩ := ⟨_, rfl⟩
        rw [← hS] at cx hin
        obtain ⟨q, hq⟩ : ∃ q, (innerP x).length = q := ⟨_, rfl⟩
        rw [hq] at hil hin
        have hq2 : q ≤ 40000 := by omega
        have HIn := Lib.hid hin; have Htk := Lib.hid htk; have Hq := Lib.hid hq; have Hoj := Lib.hid hoj; have Hso := Lib.hid hso
        clear hin htk hq hil hxl hrow hxj hS hout hoj hso
        go_wp2_with (first | (with_reducible refine HIn.out.mono ?_; rintro e w2 ⟨v2, rfl, own2, hb2⟩; obtain ⟨A4, c4, rfl, -⟩ := own_form own2; have o3 := own_below ho.out hb2; have hs2 := hb2.size) | (at_builtin; refine wpList_app _ rfl strE rfl rfl o3 rfl (Row.of_own own2) (strV_one _) (by omega) (by have := Hso.out; omega) ?_; intro v8 w8 own8 hg8 hb8 hx8))
        have hbw8 : Below w1.heap.size w1 w8 := (hbw.out.trans (hb2.mono Hso.out)).trans hb8
        have O8 := Lib.hid own8; have B8 := Lib.hid hbw8
        clear own8 hbw8 hb8 hg8 hx8 o3 hs2 own2 hb2 cx HIn
        go_wp2
        go_roundw
        case rel => exact ⟨j + 1, out ++ innerP x, by omega, by first | rfl | go_num, Lib.hid Htk.out.symm, Lib.hid (by rw [List.length_append, Hn3.out, Hq.out, List.map_append]; exact O8.out), B8, by rw [List.length_append, Hn3.out, Hq.out]; have := Hoj.out; omega⟩
        case measure => simp [intOf]; omega
      · obtain rfl : j = N := by omega
        have z1 : ¬ (j : Int) < (j : Int) := by omega
        have hfin : out = ns.flatMap innerP := by rw [hout.out, List.take_of_length_le (by rw [HN.out]; exact Nat.le_refl _)]
        have hsort := vSortS _ out w1.heap.size wo (by rw [Hn3.out]; exact ho.out) (by rw [Hn3.out]; omega)
        have HSo := Lib.hid hsort; have HF := Lib.hid hfin
        clear hsort hfin hout hoj
        go_wp2_with fail
        refine HSo.out.mono ?_
        rintro e w2 ⟨rfl, own2, hg2⟩
        have hb2 : Below w1.heap.size w1 w2 := hbw.out.trans ((Below.refl _ _).grown hg2 hso fun k hk => (ho.out.lt k (by exact hk)).1)
        have hsl : (sortB out).length = n3 := by rw [(sortB_perm out).length_eq, Hn3.out]
        have own2' : w2.ownsRow w1.heap.size 9 1 (.slice A3 n3 c3) (sortB out).length ((sortB out).map strV) := by rw [hsl]; rw [Hn3.out] at own2; exact own2
        have hcomp := vCompactS _ (sortB out) w1.heap.size w2 own2' (by rw [hsl]; omega)
        have HCo := Lib.hid hcomp; have HB2 := Lib.hid hb2; have O2 := Lib.hid own2'; have HSl := Lib.hid hsl
        have hs2 := hb2.size
        clear hcomp hb2 own2 own2' hg2 hsl
        go_wp2_with fail
        refine HCo.out.mono ?_
        rintro e w3 ⟨v3, rfl, own3, hg3⟩
        have hb3 : Below w1.heap.size w1 w3 := HB2.out.trans ((Below.refl _ _).grown hg3 hs2 fun k hk => (O2.out.lt k (by exact hk)).1)
        have ei : Lib.compact (sortB out) = onceB (ns.flatMap innerP) := by rw [HF.out]; rfl
        rw [ei] at own3
        have O3 := Lib.hid (own_mono own3 hs1); have HB3 := Lib.hid (HB.out.trans (hb3.mono hs1))
        clear own3 hb3 hg3 ei
        go_wp2
        go_ret2
        exact ⟨HB3.out, _, rfl, O3.out⟩
end Go.Proofs.YtmcacicopgckmaaGreatDoor
