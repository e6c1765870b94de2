import Derived.Test.YtmcacicopgckmaaGreatDoorLn45
import Derived.Test.YtmcacicopgckmaaGreatDoorLn47
import Derived.Test.YtmcacicopgckmaaGreatDoorLn21
/-! lit: Words -/
namespace Garner
open Go
mutual
theorem litRow_all : ∀ (l : List Re) (run x : Bs), x ∈ litRow l run → x.length ≤ run.length + 4 * cnts l
  | [], run, x, h => by
    rw [litRow] at h
    unfold addL at h
    split at h
    · cases h
    · rw [List.mem_singleton.1 h]; omega
  | t :: ts, run, x, h => by
    rw [litRow] at h
    have hc := cnt_pos t
    rw [cnts]
    split at h
    · rename_i r _
      have h1 := litRow_all ts (run ++ encR r) x h
      have h2 := encR_len r
      rw [List.length_append] at h1; omega
    · rw [List.mem_append, List.mem_append] at h
      rcases h with h | h | h
      · unfold addL at h
        split at h
        · cases h
        · rw [List.mem_singleton.1 h]; omega
      · have := litSub_all t x h; omega
      · have := litRow_all ts [] x h
        simp at this; omega
theorem litSub_all : ∀ (t : Re) (x : Bs), x ∈ litSub t → x.length ≤ 4 * t.cnt
  | .emp, x, h => by simp [litSub] at h
  | .set _, x, h => by simp [litSub] at h
  | .seq l, x, h => by
    rw [litSub] at h
    have := litRow_all l [] x h
    rw [Re.cnt]; simp at this; omega
  | .alt _, x, h => by simp [litSub] at h
  | .rep k mn mx, x, h => by
    rw [litSub] at h
    rw [Re.cnt]
    split at h
    · split at h
      · rename_i r _
        unfold addL at h
        split at h
        · cases h
        · rw [List.mem_singleton.1 h]
          have := encR_len r
          omega
      · have := litSub_all k x h; omega
    · cases h
  | .bgn, x, h => by simp [litSub] at h
  | .fin, x, h => by simp [litSub] at h
end
theorem once_len (l : List Bs) : (onceB l).length ≤ l.length := by
  have h := compact_len (sortB l)
  rw [(sortB_perm l).length_eq] at h
  exact h
theorem inner_len (x : Bs) : (innerP x).length ≤ x.length := by
  have h1 := once_len (innerT x)
  have h2 := innerQ_len x.length (runsT x)
  rw [← innerT_eq] at h2
  have h3 := runsAt_len (itemsOf 0 x)
  have h4 := itemsGo_len x.length 0 x (Nat.le_refl _)
  have e1 : (runsAt (itemsOf 0 x)).1 = runsT x := rfl
  have e2 : (itemsOf 0 x).length = (itemsGo x.length 0 x).length := rfl
  rw [e1] at h3
  unfold innerP
  omega
end Garner
namespace Go.Proofs.YtmcacicopgckmaaGreatDoor
open Go.RowKit Garner
/-- bounds of what a pattern needs -/
theorem needs_few {l : Bs} {t : Re} (h : rexpP l = .ok t) : (needsP t).length ≤ 20001 ∧ ∀ x ∈ needsP t, x.length ≤ 40000 := by
  have hc := (rexp_good h).cnt
  refine ⟨?_, fun x hx => ?_⟩
  · have h1 := once_len (litT t)
    have h2 := litRow_len [t] []
    simp [cnts] at h2
    unfold needsP litT at *
    omega
  · rw [needsP, mem_onceB] at hx
    have := litRow_all [t] [] x hx
    simp [cnts] at this
    omega
def wordsE (l : Bs) : Except Nat (List Bs) := match needsE l with | .error k => .error k | .ok ns => .ok (onceB (ns.flatMap innerP))
theorem needs_ok {l : Bs} {ns : List Bs} (h : needsE l = .ok ns) : ns.length ≤ 20001 ∧ ∀ x ∈ ns, x.length ≤ 40000 := by
  unfold needsE at h
  split at h
  · cases h
  · rename_i t ht
    injection h with h
    subst h
    exact needs_few ht
theorem needs_err {l : Bs} {k : Nat} (h : needsE l = .error k) : k ≠ 0 := by
  unfold needsE at h
  split at h
  · rename_i k' hk
    injection h with h
    subst h
    have := err_pos hk
    omega
  · cases h
set_option maxRecDepth 100000 in
set_option maxHeartbeats 16000000 in
theorem vWords (l : Bs) (w : World) (hL : Lt w) (hl : l.length ≤ 9223372036854775807) :
    Calls Tryz.prog 11 #[str l] w fun e w' => Below w.heap.size w w' ∧ StrsP (wordsE l) w.heap.size e w' := by
  have hp := vNeeds l w hL hl
  have hf := fun ns => @needs_ok l ns
  have he := fun k => @needs_err l k
  unfold wordsE
  obtain ⟨OUT, hOUT⟩ : ∃ OUT, needsE l = OUT := ⟨_, rfl⟩
  rw [hOUT] at hp ⊢
  have HP := Lib.hid hp
  cases OUT with
  | error k =>
    have hk := he k hOUT
    have z1 : ¬ (k : Int) = 0 := by omega
    clear hp hf he hOUT hk
    go_enter Tryz.func11, Tryz.ntmps11
    go_wp2_with fail
    refine HP.out.mono ?_
    rintro e w1 ⟨hb, ho⟩
    obtain rfl : e = _ := ho
    go_wp2
    go_ret2
    exact ⟨hb, rfl⟩
  | ok ns =>
    obtain ⟨hn, hx⟩ := hf ns hOUT
    obtain ⟨N, hN⟩ : ∃ N, ns.length = N := ⟨_, rfl⟩
    rw [hN] at hn
    have Hx := Lib.hid hx; have HN := Lib.hid hN
    clear hp hf he hOUT hx hN
    go_enter Tryz.func11, Tryz.ntmps11
    go_wp2_with fail
    refine HP.out.mono ?_
    rintro e w1 ⟨hb, v, rfl, hown⟩
    obtain ⟨A, c, rfl, -⟩ := own_form hown
    rw [HN.out] at hown ⊢
    have HB := Lib.hid hb; have HOwn := Lib.hid hown
    have hs1 := hb.size
    clear hb hown
    go_wp2
    go_loopw [6, 19] (fun v i wr => ∃ (j : Nat) (out : List Bs), j ≤ N ∧ i = .int .i64 j ∧ Hid (out = (ns.take j).flatMap innerP) ∧ Hid (wr.ownsRow w1.heap.size 9 1 v out.length (out.map strV)) ∧ Hid (Below w1.heap.size w1 wr) ∧ out.length ≤ j * 40000) (fun _ i _ => N - (intOf i).toNat)
    case atStart => exact ⟨0, [], Nat.zero_le _, rfl, Lib.hid rfl, Lib.hid (World.ownsRow_nil _ _ _ _), Lib.hid (Below.refl _ _), by simp⟩
    case round =>
      obtain ⟨j, out, hj, rfl, hout, ho, hbw, hoj⟩ := hrel
      obtain ⟨wo, rfl⟩ : ∃ wo : World, wo = wr := ⟨_, rfl⟩
      obtain ⟨A3, c3, rfl, -⟩ := own_form ho.out
      obtain ⟨n3, hn3⟩ : ∃ n3, out.length = n3 := ⟨_, rfl⟩
      rw [hn3] at ho hoj ⊢
      have Hn3 := Lib.hid hn3
      clear hn3
      have hso := hbw.out.size
      have wj1 : IntKind.i64.wrap ((j : Int) + 1) = ((j + 1 : Nat) : Int) := by rw [IntKind.wrap_i64]; omega
      have bz1 : n3 ≤ 900000000 := by omega
      by_cases hlt : j < N
      · have z1 : (j : Int) < (N : Int) := by omega
        obtain ⟨x, hxj⟩ : ∃ x, ns[j]? = some x := ⟨_, List.getElem?_eq_getElem (by rw [HN.out]; exact hlt)⟩
        have hxl := Hx.out x (List.mem_of_getElem? hxj)
        have hrow := Row.of_own (own_below HOwn.out (hbw.out.mono (Nat.le_refl _)))
        obtain ⟨bs, os, rfl, -, cx⟩ := str_at hrow hxj
        have hin := vInner ⟨x.toArray⟩ x rfl wo (by omega)
        have hil := inner_len x
        have htk : (ns.take (j + 1)).flatMap innerP = out ++ innerP x := by rw [List.take_add_one, hxj, Option.toList_some, List.flatMap_append, ← hout.out]; simp
        obtain ⟨S, hS⟩ : ∃ S : ByteArray, S = ⟨x.toArray⟩ := ⟨_, rfl⟩
        rw [← hS] at cx hin
        obtain ⟨q, hq⟩ : ∃ q, (innerP x).length = q := ⟨_, rfl⟩
        rw [hq] at hil hin
        have hq2 : q ≤ 40000 := by omega
        have HIn := Lib.hid hin; have Htk := Lib.hid htk; have Hq := Lib.hid hq; have Hoj := Lib.hid hoj; have Hso := Lib.hid hso
        clear hin htk hq hil hxl hrow hxj hS hout hoj hso
        go_wp2_with (first | (with_reducible refine HIn.out.mono ?_; rintro e w2 ⟨v2, rfl, own2, hb2⟩; obtain ⟨A4, c4, rfl, -⟩ := own_form own2; have o3 := own_below ho.out hb2; have hs2 := hb2.size) | (at_builtin; refine wpList_app _ rfl strE rfl rfl o3 rfl (Row.of_own own2) (strV_one _) (by omega) (by have := Hso.out; omega) ?_; intro v8 w8 own8 hg8 hb8 hx8))
        have hbw8 : Below w1.heap.size w1 w8 := (hbw.out.trans (hb2.mono Hso.out)).trans hb8
        have O8 := Lib.hid own8; have B8 := Lib.hid hbw8
        clear own8 hbw8 hb8 hg8 hx8 o3 hs2 own2 hb2 cx HIn
        go_wp2
        go_roundw
        case rel => exact ⟨j + 1, out ++ innerP x, by omega, by first | rfl | go_num, Lib.hid Htk.out.symm, Lib.hid (by rw [List.length_append, Hn3.out, Hq.out, List.map_append]; exact O8.out), B8, by rw [List.length_append, Hn3.out, Hq.out]; have := Hoj.out; omega⟩
        case measure => simp [intOf]; omega
      · obtain rfl : j = N := by omega
        have z1 : ¬ (j : Int) < (j : Int) := by omega
        have hfin : out = ns.flatMap innerP := by rw [hout.out, List.take_of_length_le (by rw [HN.out]; exact Nat.le_refl _)]
        have hsort := vSortS _ out w1.heap.size wo (by rw [Hn3.out]; exact ho.out) (by rw [Hn3.out]; omega)
        have HSo := Lib.hid hsort; have HF := Lib.hid hfin
        clear hsort hfin hout hoj
        go_wp2_with fail
        refine HSo.out.mono ?_
        rintro e w2 ⟨rfl, own2, hg2⟩
        have hb2 : Below w1.heap.size w1 w2 := hbw.out.trans ((Below.refl _ _).grown hg2 hso fun k hk => (ho.out.lt k (by exact hk)).1)
        have hsl : (sortB out).length = n3 := by rw [(sortB_perm out).length_eq, Hn3.out]
        have own2' : w2.ownsRow w1.heap.size 9 1 (.slice A3 n3 c3) (sortB out).length ((sortB out).map strV) := by rw [hsl]; rw [Hn3.out] at own2; exact own2
        have hcomp := vCompactS _ (sortB out) w1.heap.size w2 own2' (by rw [hsl]; omega)
        have HCo := Lib.hid hcomp; have HB2 := Lib.hid hb2; have O2 := Lib.hid own2'; have HSl := Lib.hid hsl
        have hs2 := hb2.size
        clear hcomp hb2 own2 own2' hg2 hsl
        go_wp2_with fail
        refine HCo.out.mono ?_
        rintro e w3 ⟨v3, rfl, own3, hg3⟩
        have hb3 : Below w1.heap.size w1 w3 := HB2.out.trans ((Below.refl _ _).grown hg3 hs2 fun k hk => (O2.out.lt k (by exact hk)).1)
        have ei : Lib.compact (sortB out) = onceB (ns.flatMap innerP) := by rw [HF.out]; rfl
        rw [ei] at own3
        have O3 := Lib.hid (own_mono own3 hs1); have HB3 := Lib.hid (HB.out.trans (hb3.mono hs1))
        clear own3 hb3 hg3 ei
        go_wp2
        go_ret2
        exact ⟨HB3.out, _, rfl, O3.out⟩
end Go.Proofs.YtmcacicopgckmaaGreatDoor

/-! LitNeeds, plain: the document's words of what a pattern needs are the program's -/
namespace Garner
open Go
/-- a text made of runes that a text may have -/
def GoodT2 (x : Bs) : Prop := ∃ rs, (∀ r ∈ rs, goodR r) ∧ x = encT rs
theorem goodT2_nil : GoodT2 [] := ⟨[], fun r h => (by cases h), rfl⟩
theorem GoodT2.app {a : Bs} (h : GoodT2 a) {r : Nat} (hr : goodR r) : GoodT2 (a ++ encR r) := by
  obtain ⟨rs, h1, rfl⟩ := h
  refine ⟨rs ++ [r], fun x hx => ?_, by unfold encT encR; rw [List.flatMap_append]; simp⟩
  rcases List.mem_append.1 hx with hx | hx
  · exact h1 x hx
  · rw [List.mem_singleton.1 hx]; exact hr
theorem addL_good {run : Bs} (h : GoodT2 run) : ∀ x ∈ addL run, GoodT2 x := fun x hx => by
  unfold addL at hx
  split at hx
  · cases hx
  · rw [List.mem_singleton.1 hx]; exact h
mutual
theorem litRow_good : ∀ (l : List Re) (run : Bs), unis l → GoodT2 run → ∀ x ∈ litRow l run, GoodT2 x
  | [], run, _, hr, x, hx => by
    rw [litRow] at hx
    exact addL_good hr x hx
  | t :: ts, run, hu, hr, x, hx => by
    rw [litRow] at hx
    have hl := fun r => @Re.uni.lit t hu.1 r
    split at hx
    · rename_i r e
      exact litRow_good ts _ hu.2 (hr.app (hl r e)) x hx
    · rw [List.mem_append, List.mem_append] at hx
      rcases hx with hx | hx | hx
      · exact addL_good hr x hx
      · exact litSub_good t hu.1 x hx
      · exact litRow_good ts [] hu.2 goodT2_nil x hx
theorem litSub_good : ∀ (t : Re), t.uni → ∀ x ∈ litSub t, GoodT2 x
  | .emp, _, x, hx => by simp [litSub] at hx
  | .set _, _, x, hx => by simp [litSub] at hx
  | .seq l, hu, x, hx => by
    rw [litSub] at hx
    exact litRow_good l [] hu goodT2_nil x hx
  | .alt _, _, x, hx => by simp [litSub] at hx
  | .rep k mn mx, hu, x, hx => by
    rw [litSub] at hx
    have hl := fun r => @Re.uni.lit k hu r
    split at hx
    · split at hx
      · rename_i r e
        refine addL_good ?_ x hx
        have := goodT2_nil.app (hl r e)
        rwa [List.nil_append] at this
      · exact litSub_good k hu x hx
    · cases hx
  | .bgn, _, x, hx => by simp [litSub] at hx
  | .fin, _, x, hx => by simp [litSub] at hx
end
theorem litT_good {t : Re} (h : t.uni) : ∀ x ∈ litT t, GoodT2 x := litRow_good [t] [] ⟨h, trivial⟩ goodT2_nil
/-- where the runes of a text that is made of them stand -/
theorem pos_enc : ∀ (rs : List Nat) (pos : Nat), (∀ r ∈ rs, goodR r) → PosOk (pos + (encT rs).length) (itemsOf pos (encT rs)) ∧ ∀ x q, itemsOf pos (encT rs) = x :: q → x.1 = pos
  | [], pos, _ => by
    have e : encT [] = [] := rfl
    rw [e, items_nil]
    exact ⟨trivial, fun x q h => by cases h⟩
  | r :: rs, pos, h => by
    have hne : encR r ++ encT rs ≠ [] := by simp [encR_ne]
    have hp : 0 < (encR r).length := List.length_pos_iff.2 (encR_ne r)
    obtain ⟨h1, h2⟩ := pos_enc rs (pos + (encR r).length) fun x hx => h x (by simp [hx])
    rw [encT_cons, items_step hne, dec_enc (h r (by simp)), List.drop_left, List.length_append]
    refine ⟨?_, fun x q e => by injection e with e1 _; rw [← e1]⟩
    rw [show pos + ((encR r).length + (encT rs).length) = pos + (encR r).length + (encT rs).length by omega]
    cases hi : itemsOf (pos + (encR r).length) (encT rs) with
    | nil =>
      have hrs : rs = [] := by
        have := (items_enc rs (pos + (encR r).length) fun x hx => h x (by simp [hx])).1
        rw [hi] at this
        simpa using this.symm
      subst hrs
      refine ⟨?_, fun _ => ?_⟩
      · simp [encT]; omega
      · simp [encT]
    | cons y q =>
      rw [hi] at h1
      have := h2 y q hi
      exact ⟨by simp only; omega, fun _ => by simp only; omega, h1⟩
theorem runsT_runsW (l : Bs) : runsT l = runsW (itemsOf 0 l).length (itemsOf 0 l) := by
  unfold runsT runsAt
  have := (fold_runs _ (itemsOf 0 l) (Nat.le_refl _)).1 []
  rw [this, List.nil_append]
theorem innerT_all {x : Bs} (h : GoodT2 x) : innerT x = allW true false (runesP x) := by
  obtain ⟨rs, hg, rfl⟩ := h
  obtain ⟨h1, h2⟩ := pos_enc rs 0 hg
  rw [innerT_eq, runsT_runsW, words_inner _ _ (Nat.le_refl _) (by rw [Nat.zero_add] at h1; exact h1) false (fun x r e => by
    have := h2 x r e
    simp; omega), (items_enc rs 0 hg).1, runes_enc rs hg]
/-- the words of all words are the words told by the document -/
theorem wordsE_all {l : Bs} {t : Re} (h : rexpP l = .ok t) : onceB ((needsP t).flatMap innerP) = onceB ((needsP t).flatMap fun x => allW true false (runesP x)) := by
  refine onceB_eq fun y => ?_
  rw [List.mem_flatMap, List.mem_flatMap]
  have key : ∀ x ∈ needsP t, (y ∈ innerP x ↔ y ∈ allW true false (runesP x)) := fun x hx => by
    unfold innerP
    rw [mem_onceB, innerT_all (litT_good (rexp_uni h) x ((mem_onceB _ _).1 hx))]
  exact ⟨fun ⟨x, h1, h2⟩ => ⟨x, h1, (key x h1).1 h2⟩, fun ⟨x, h1, h2⟩ => ⟨x, h1, (key x h1).2 h2⟩⟩
end Garner

