import Derived.Test.YtmcacicopgckmaaGreatDoorLs27
import Derived.Test.YtmcacicopgckmaaGreatDoorLs28
import Derived.Test.YtmcacicopgckmaaGreatDoorLs46
/-! LitStands, plain: the inner words of what stands are words of the text -/
namespace Garner
open Go
theorem AtR.split {s rs : List Nat} {k : Nat} (h : AtR s k rs) (hne : rs ≠ []) : ∃ a b, s = a ++ rs ++ b := by
  have hl : k + rs.length ≤ s.length := by
    have hp := List.length_pos_iff.2 hne
    have h1 := h (rs.length - 1) _ (List.getElem?_eq_getElem (by omega))
    have := (List.getElem?_eq_some_iff.1 h1).1
    omega
  have e : (s.drop k).take rs.length = rs := by
    apply List.ext_getElem?
    intro m
    by_cases hm : m < rs.length
    · rw [List.getElem?_take_of_lt hm, List.getElem?_drop]
      rw [h m _ (List.getElem?_eq_getElem hm), List.getElem?_eq_getElem hm]
    · rw [List.getElem?_eq_none (by simp; omega), List.getElem?_eq_none (by omega)]
  refine ⟨s.take k, (s.drop k).drop rs.length, ?_⟩
  have e2 := List.take_append_drop rs.length (s.drop k)
  rw [e] at e2
  rw [List.append_assoc, e2, List.take_append_drop]
theorem items_runes : ∀ (n pos : Nat) (l : Bs), l.length ≤ n → (itemsOf pos l).map (·.2) = runesP l
  | 0, pos, l, hn => by
    rw [List.eq_nil_of_length_eq_zero (by omega : l.length = 0), runes_nil, items_nil]; rfl
  | n + 1, pos, l, hn => by
    by_cases hl : l = []
    · rw [hl, runes_nil, items_nil]; rfl
    · have hw := Lib.decodeL_width l
      have h0 : 0 < l.length := List.length_pos_iff.2 hl
      rw [runes_step hl, items_step hl, List.map_cons, items_runes n _ _ (by rw [List.length_drop]; omega)]
theorem wordOf_snd {a b : List (Nat × Nat)} (h : a.map (·.2) = b.map (·.2)) : wordOf a = wordOf b := by
  have e : ∀ c : List (Nat × Nat), wordOf c = ((c.map (·.2)).take 32).map smallR := fun c => by
    unfold wordOf
    rw [← List.map_take, List.map_map]; rfl
  rw [e, e, h]
theorem inner_words {l : Bs} {rs : List Nat} {k : Nat} (ha : AtR (runesP l) k rs) {w : Bs} (hw : w ∈ innerT (encT rs)) : w ∈ wordsT l := by
  have hg : ∀ r ∈ rs, goodR r := fun r hr => by
    obtain ⟨m, hm, e⟩ := List.mem_iff_getElem.1 hr
    have := ha m r (by rw [← e]; exact List.getElem?_eq_getElem hm)
    exact runes_good _ l (Nat.le_refl _) r (List.mem_of_getElem? this)
  obtain ⟨hi1, hi2⟩ := items_enc rs 0 hg
  unfold innerT at hw
  obtain ⟨u, hu, rfl⟩ := List.mem_map.1 hw
  rw [List.mem_filter] at hu
  obtain ⟨hu, hc⟩ := hu
  rw [Bool.and_eq_true, decide_eq_true_iff, decide_eq_true_iff] at hc
  obtain ⟨hfr, hto⟩ := hc
  obtain ⟨p, seg, q, hr⟩ := runs_sound hu
  have hp : p ≠ [] := by
    rintro rfl
    obtain ⟨x, r, h1, h2⟩ := hr.fr
    have e := hr.sp.eq
    rw [h1] at e
    have hne : encT rs ≠ [] := fun e0 => by
      rw [e0, items_nil] at e
      cases e
    rw [items_step hne] at e
    injection e with e1 e2
    rw [h2, ← e1] at hfr
    exact absurd hfr (Nat.lt_irrefl 0)
  have hq : q ≠ [] := by
    rintro rfl
    obtain ⟨r, x, h1, h2⟩ := hr.to'
    have e := hr.sp.eq
    rw [h1, List.append_nil, ← List.append_assoc] at e
    have := hi2 _ _ e
    omega
  have hrs : rs ≠ [] := by
    rintro rfl
    have e := hr.sp.eq
    have e0 : encT [] = [] := rfl
    rw [e0, items_nil] at e
    exact hp (by cases p with | nil => rfl | cons a b => cases e)
  obtain ⟨A, B, hs⟩ := ha.split hrs
  have hm := items_runes _ 0 l (Nat.le_refl _)
  rw [hs, ← hi1, hr.sp.eq, List.map_append, List.map_append] at hm
  have hm2 : (itemsOf 0 l).map (·.2) = (A ++ p.map (·.2)) ++ seg.map (·.2) ++ (q.map (·.2) ++ B) := by rw [hm]; simp
  obtain ⟨PS, Q, e1, e2, e3⟩ := List.map_eq_append_iff.1 hm2
  obtain ⟨P, S, e4, e5, e6⟩ := List.map_eq_append_iff.1 e2
  have hS : SegP (itemsOf 0 l) P S Q := by
    refine ⟨by rw [e1, e4], fun h0 => ?_, fun x hx => ?_, ?_, ?_⟩
    · rw [h0] at e6
      exact hr.sp.ne (List.map_eq_nil_iff.1 e6.symm)
    · have : x.2 ∈ seg.map (·.2) := by rw [← e6]; exact List.mem_map_of_mem hx
      obtain ⟨y, hy, e7⟩ := List.mem_map.1 this
      rw [← e7]; exact hr.sp.all y hy
    · rcases hr.sp.left with h1 | ⟨p', y, h1, h2⟩
      · exact absurd h1 hp
      · right
        rw [h1, List.map_append, ← List.append_assoc] at e5
        obtain ⟨P', z, e7, -, e8⟩ := List.map_eq_append_iff.1 e5
        cases z with
        | nil => cases e8
        | cons z r =>
          injection e8 with e9 e10
          have : r = [] := List.map_eq_nil_iff.1 e10
          subst this
          exact ⟨P', z, e7, (congrArg wordR e9).trans h2⟩
    · rcases hr.sp.right with h1 | ⟨y, q', h1, h2⟩
      · exact absurd h1 hq
      · right
        rw [h1] at e3
        cases Q with
        | nil => cases e3
        | cons z Q' =>
          injection e3 with e9 e10
          exact ⟨z, Q', rfl, (congrArg wordR e9).trans h2⟩
  have hw2 := runs_comp hS
  rw [wordOf_snd e6, ← hr.word] at hw2
  obtain ⟨v, hv, he⟩ := List.mem_map.1 hw2
  exact List.mem_map.2 ⟨v, hv, by rw [he]⟩
theorem words_stand {l : Bs} {t : Re} (h : partB t (runesP l) = true) {w : Bs} (hw : w ∈ onceB ((needsP t).flatMap innerP)) : w ∈ onceB (wordsT l) := by
  rw [mem_onceB] at hw ⊢
  obtain ⟨x, hx, hw⟩ := List.mem_flatMap.1 hw
  unfold innerP at hw
  rw [mem_onceB] at hw
  obtain ⟨i, j, -, hm⟩ := part_iff.1 h
  rw [needsP, mem_onceB] at hx
  obtain ⟨rs, k, rfl, -, ha⟩ := litT_stands hm hx
  exact inner_words ha hw
end Garner
/-! text: Words, Set -/
namespace Garner
open Go
def wordsQ (L : List RunP) : List Bs := L.map fun u => encT u.word
theorem wordsT_eq (l : Bs) : wordsT l = wordsQ (runsT l) := rfl
theorem wordsQ_snoc (L : List RunP) (u : RunP) : wordsQ (L ++ [u]) = wordsQ L ++ [encT u.word] := by simp [wordsQ]
end Garner
namespace Go.Proofs.YtmcacicopgckmaaGreatDoor
open Go.RowKit Garner
set_option maxRecDepth 100000 in
set_option maxHeartbeats 32000000 in
theorem vTWords (S : ByteArray) (l : Bs) (hS : S = ⟨l.toArray⟩) (w : World) (hl : l.length ≤ 1000000000000) :
    Calls Tryz.prog 49 #[.string S] w fun e w' => ∃ v, e = .returned v ∧ w'.ownsRow w.heap.size 9 1 v (wordsT l).length ((wordsT l).map strV) ∧ Below w.heap.size w w' ∧ (wordsT l).length ≤ l.length := by
  have hr := vRuns S l hS w hl
  obtain ⟨N, hN⟩ : ∃ N, l.length = N := ⟨_, rfl⟩
  rw [hN] at hl hr ⊢
  have HR := Lib.hid hr; have HN := Lib.hid hN
  clear hr hN hS
  go_enter Tryz.func49, Tryz.ntmps49
  go_wp2_with fail
  refine HR.out.mono ?_
  rintro e w1 ⟨v1, ds, rfl, hds, hrun, hb1, hlen⟩
  obtain ⟨A1, c1, rfl, -⟩ := own_form hrun.own
  obtain ⟨M, hM⟩ : ∃ M, ds.length = M := ⟨_, rfl⟩
  rw [hM] at hrun hlen ⊢
  have HM := Lib.hid hM; have Hds := Lib.hid hds; have Hrun := Lib.hid hrun; have HB1 := Lib.hid hb1
  clear hM hds hrun hb1 HR
  go_wp2
  go_loopw [3, 9] (fun v i wr => ∃ (j : Nat) (out : List Bs), j ≤ M ∧ i = .int .i64 j ∧ Hid (out = wordsQ ((ds.take j).map (·.p))) ∧ Hid (wr.ownsRow w.heap.size 9 1 v out.length (out.map strV)) ∧ Hid (RunsD w.heap.size wr (.slice A1 M c1) ds) ∧ Hid (Below w.heap.size w wr) ∧ out.length ≤ j) (fun _ i _ => M - (intOf i).toNat)
  case atStart => exact ⟨0, [], Nat.zero_le _, rfl, Lib.hid rfl, Lib.hid (World.ownsRow_nil _ _ _ _), Hrun, HB1, Nat.le_refl _⟩
  case round =>
    obtain ⟨j, out, hj, rfl, hout, hown, hrun, hbw, hoj⟩ := hrel
    obtain ⟨wo, rfl⟩ : ∃ wo : World, wo = wr := ⟨_, rfl⟩
    obtain ⟨A3, c3, rfl, -⟩ := own_form hown.out
    obtain ⟨n3, hn3⟩ : ∃ n3, out.length = n3 := ⟨_, rfl⟩
    rw [hn3] at hown hoj ⊢
    have Hn3 := Lib.hid hn3
    clear hn3
    have hso := hbw.out.size
    have wj1 : IntKind.i64.wrap ((j : Int) + 1) = ((j + 1 : Nat) : Int) := by rw [IntKind.wrap_i64]; omega
    by_cases hlt : j < M
    · have z1 : (j : Int) < (M : Int) := by omega
      obtain ⟨d, hd⟩ : ∃ d, ds[j]? = some d := ⟨_, List.getElem?_eq_getElem (by rw [HM.out]; exact hlt)⟩
      obtain ⟨gL, cap, ev, k0, k1, k2⟩ := hrun.out.nth hd
      rw [HM.out] at ev
      cases ev
      have htk : (ds.take (j + 1)).map (·.p) = (ds.take j).map (·.p) ++ [d.p] := by rw [List.take_add_one, hd, Option.toList_some, List.map_append]; rfl
      have hq := wordsQ_snoc ((ds.take j).map (·.p)) d.p
      rw [← htk, ← hout.out] at hq
      have hdw := hrun.out.word d (List.mem_of_getElem? hd)
      obtain ⟨n, hn⟩ : ∃ n, d.p.word.length = n := ⟨_, rfl⟩
      obtain ⟨fr, hfr⟩ : ∃ fr, d.p.fr = fr := ⟨_, rfl⟩
      obtain ⟨te, hto⟩ : ∃ te, d.p.to = te := ⟨_, rfl⟩
      rw [hn] at k0
      rw [hfr] at k1
      rw [hto] at k2
      have hdv : d.v = .slice d.A n d.c := by unfold RunD.v; rw [hn]
      rw [hdv, hn] at hdw
      obtain ⟨X, hX⟩ : ∃ X, X = wo.alloc (.cells #[.slice d.A n d.c, .int .i64 fr, .int .i64 te] 102) := ⟨_, rfl⟩
      have hbX : Below wo.heap.size wo X := by rw [hX]; exact (Below.refl _ _).alloc (Nat.le_refl _) _
      have bX : Blk X wo.heap.size 102 [.slice d.A n d.c, .int .i64 fr, .int .i64 te] := by rw [hX]; exact Blk.new wo _ _
      have x0 : X.cell? ⟨wo.heap.size, 0, none⟩ = some (.slice d.A n d.c) := bX.cell 0
      have hcv := run_word (own_below hdw hbX)
      have hwX : Below w.heap.size w X := hbw.out.trans (hbX.mono hso)
      have hsX := hwX.size
      have OX := Lib.hid (own_below hown.out hbX); have RX := Lib.hid (hrun.out.below hbX); have HwX := Lib.hid hwX; have Hq := Lib.hid hq
      clear hdw hdv hbX bX hwX htk hd hn hfr hto hrun hown hbw hout hq
      go_upto_region 5 with fail
      rw [← hX]
      clear hX k0 k1 k2
      go_wp2_with (at_builtin; refine wpList_app _ rfl strE rfl rfl (OX.out.alloc _) rfl (row_new X _ [_]) (by simp [Value.oneCell']) (by first | omega | (simp; done) | (simp; omega)) (by simp; omega) ?_; intro v8 w8 own8 hg8 hb8 hx8)
      have hk8 := (RX.out.below ((Below.refl _ _).alloc (Nat.le_refl _) _)).kept (OX.out.alloc _) hg8
      have hw8 : Below w.heap.size w w8 := (HwX.out.alloc hsX _).trans hb8
      have K8 := Lib.hid hk8; have W8 := Lib.hid hw8; have O8 := Lib.hid own8
      clear hk8 hw8 own8 hg8 hb8 hx8 hcv x0
      go_wp2
      go_roundw
      case rel => exact ⟨j + 1, out ++ [encT d.p.word], by omega, by first | rfl | go_num, Lib.hid Hq.out.symm, Lib.hid (by rw [List.length_append, Hn3.out, List.map_append]; exact O8.out), K8, W8, by rw [List.length_append, Hn3.out]; show n3 + 1 ≤ _; omega⟩
      case measure => simp [intOf]; omega
    · obtain rfl : j = M := by omega
      have z1 : ¬ (j : Int) < (j : Int) := by omega
      have hfin : out = wordsT l := by rw [hout.out, List.take_of_length_le (by rw [HM.out]; exact Nat.le_refl _), Hds.out, wordsT_eq]
      have ho := hown.out
      rw [← Hn3.out, hfin] at ho
      have hle : (wordsT l).length ≤ N := by rw [← hfin, Hn3.out]; omega
      have HO := Lib.hid ho; have Hle := Lib.hid hle; have Hln : Hid ((wordsT l).length = n3) := Lib.hid (by rw [← hfin, Hn3.out])
      clear ho hle hfin hout hown hrun hoj hlen
      go_wp2
      go_ret
      refine ⟨_, rfl, ?_, hbw.out, Hle.out⟩
      have := HO.out
      rw [Hln.out] at this ⊢
      exact this
set_option maxRecDepth 100000 in
set_option maxHeartbeats 8000000 in
theorem vSet (S : ByteArray) (l : Bs) (hS : S = ⟨l.toArray⟩) (w : World) (hl : l.length ≤ 1000000000000) :
    Calls Tryz.prog 29 #[.string S] w fun e w' => ∃ v, e = .returned v ∧ w'.ownsRow w.heap.size 9 1 v (onceB (wordsT l)).length ((onceB (wordsT l)).map strV) ∧ Below w.heap.size w w' := by
  have hr := vTWords S l hS w hl
  have HR := Lib.hid hr; have Hl := Lib.hid hl
  clear hr hS hl
  go_enter Tryz.func29, Tryz.ntmps29
  go_wp2_with fail
  refine HR.out.mono ?_
  rintro e w1 ⟨v1, rfl, o1, hb1, hn1⟩
  have hs1 := hb1.size
  have hso := vSortS _ _ _ w1 o1 (by have := Hl.out; omega)
  have HSo := Lib.hid hso; have O1 := Lib.hid o1; have HB1 := Lib.hid hb1; have Hn1 := Lib.hid hn1
  clear hso o1 hb1 hn1
  go_wp2_with fail
  refine HSo.out.mono ?_
  rintro e w2 ⟨rfl, o2, hg2⟩
  have hb2 : Below w.heap.size w w2 := HB1.out.trans ((Below.refl _ _).grown hg2 hs1 fun k hk => (O1.out.lt k (by exact hk)).1)
  have hsl : (sortB (wordsT l)).length = (wordsT l).length := (sortB_perm _).length_eq
  have o2' : w2.ownsRow w.heap.size 9 1 v1 (sortB (wordsT l)).length ((sortB (wordsT l)).map strV) := by rw [hsl]; exact o2
  have hco := vCompactS _ _ _ w2 o2' (by rw [hsl]; have := Hl.out; have := Hn1.out; omega)
  have HCo := Lib.hid hco; have O2 := Lib.hid o2'; have HB2 := Lib.hid hb2
  have hs2 := hb2.size
  clear hco o2 o2' hb2 hg2 hsl
  go_wp2_with fail
  refine HCo.out.mono ?_
  rintro e w3 ⟨v3, rfl, o3, hg3⟩
  have hb3 : Below w.heap.size w w3 := HB2.out.trans ((Below.refl _ _).grown hg3 hs2 fun k hk => (O2.out.lt k (by exact hk)).1)
  have O3 := Lib.hid o3; have HB3 := Lib.hid hb3
  clear o3 hb3 hg3
  go_wp2
  go_ret
  exact ⟨_, rfl, O3.out, HB3.out⟩
end Go.Proofs.YtmcacicopgckmaaGreatDoor
