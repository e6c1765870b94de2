import Derived.Test.YtkojmgnbmnjmmaaDoorNl40
import Derived.Test.YtkojmgnbmnjmmaaDoorNl42
import Derived.Test.YtkojmgnbmnjmmaaDoorNl38
import Derived.Lib.IndexAny
import Derived.Test.YtkojmgnbmnjmmaaDoorNl43
/-! lit: the finder; add; plain -/
namespace Garner
open Go
/-- a plain node's rune -/
def litN (n : NodeP) : Option Nat := if n.kind = 2 then (match n.set with | [a, b] => if a = b ∧ a ≠ 65533 then some a else none | _ => none) else none
end Garner
namespace Go.Proofs.YtkojmgnbmnjmmaaDoor
open Go.RowKit Garner
/-- a finder in memory; its texts are the call's own -/
def FindIs (B : Nat) (L : Value) (w : World) (g : Nat) (out : List Bs) : Prop :=
  ∃ O m, Blk w g 46 [L, .slice O out.length m] ∧ w.ownsRow B 9 1 (.slice O out.length m) out.length (out.map strV)
theorem FindIs.lt {B : Nat} {L : Value} {w : World} {g : Nat} {out : List Bs} (h : FindIs B L w g out) : g < w.heap.size := by
  obtain ⟨O, m, h1, -⟩ := h
  exact h1.lt
theorem FindIs.below {B : Nat} {L : Value} {w w' : World} {g : Nat} {out : List Bs} (h : FindIs B L w g out) (hb : Below w.heap.size w w') : FindIs B L w' g out := by
  obtain ⟨O, m, h1, h2⟩ := h
  exact ⟨O, m, h1.below hb h1.lt, own_below h2 hb⟩
/-- what a finder's calls leave as it was -/
structure QF (B : Nat) (w w' : World) : Prop where
  keep : KeepT [46, 9] w w'
  low : Below B w w'
theorem QF.refl (B : Nat) (w : World) : QF B w w := ⟨.refl _ _, .refl _ _⟩
theorem QF.trans {B : Nat} {a b c : World} (h : QF B a b) (k : QF B b c) : QF B a c := ⟨h.keep.trans k.keep, h.low.trans k.low⟩
theorem QF.of_below {B : Nat} {w w' : World} (h : Below w.heap.size w w') (hB : B ≤ w.heap.size) : QF B w w' := ⟨.of_below h, h.mono hB⟩
set_option maxRecDepth 100000 in
set_option maxHeartbeats 8000000 in
theorem vAdd {B : Nat} {L : Value} (S : ByteArray) (s : Bs) (hS : S = ⟨s.toArray⟩) (w : World) (g : Nat) (out : List Bs) (h : FindIs B L w g out) (hBg : B ≤ g) (hB : B ≤ w.heap.size) (hn : out.length + 1 ≤ 1000000000000) :
    Calls Tryd.prog 40 #[.pointer (some ⟨g, 0, none⟩), .string S] w fun e w' => e = .returned (.tuple #[]) ∧ FindIs B L w' g (out ++ addL s) ∧ QF B w w' := by
  obtain ⟨O, m, hb, hown⟩ := h
  obtain ⟨N, hN⟩ : ∃ N, out.length = N := ⟨_, rfl⟩
  rw [hN] at hb hown hn
  go_enter Tryd.func40, Tryd.ntmps40
  by_cases hs : s = []
  · subst hs
    have e0 : S = ⟨#[]⟩ := by rw [hS]
    subst e0
    go_wp2
    go_end0
    refine ⟨rfl, ⟨O, m, ?_, ?_⟩, QF.refl _ _⟩
    · rw [addL, if_pos rfl, List.append_nil, hN]; exact hb
    · rw [addL, if_pos rfl, List.append_nil, hN]; exact hown
  · have hq : S.toList.isEmpty = false := by
      rw [Lib.toList_data, hS]
      cases s with
      | nil => exact absurd rfl hs
      | cons _ _ => rfl
    have c1 : w.cell? ⟨g, 1, none⟩ = some (.slice O N m) := hb.cell 1
    have Hb := Lib.hid hb; have Ho := Lib.hid hown
    have HS := Lib.hid hS; have HN := Lib.hid hN; have hs' := hs
    have hg := hb.lt
    have hty := own_typed (own_below hown ((Below.refl w.heap.size w).alloc (Nat.le_refl _) (.cells #[.string S] 9)))
    have Hty := Lib.hid hty
    clear hb hown hS hN hty hs
    go_wp2_with (at_builtin; refine wpList_app _ rfl strE rfl rfl (Ho.out.alloc _) rfl (row_new w _ [_]) (by simp [Value.oneCell']) (by first | omega | (simp; done) | (simp; omega)) (by simp; omega) ?_; intro v8 w8 own8 hg8 hb8 hx8; obtain ⟨O2, m2, rfl, -⟩ := own_form own8; have z1 := (Hb.out.below ((Below.refl w.heap.size w).alloc (Nat.le_refl _) (.cells #[.string S] 9)) hg).grown hg8 (fun e => by obtain ⟨cs', t', z, h1, h2⟩ := Hty.out g e.symm; have h3 := Hb.out.below ((Below.refl w.heap.size w).alloc (Nat.le_refl _) (.cells #[.string S] 9)) hg; unfold Blk at h3; rw [h3] at h1; cases h1; cases h2); have cb : w8.cell? ⟨g, 1, none⟩ = some (.slice O N m) := z1.cell 1; have fb := z1.frozen 1)
    have b3 := z1.set_ 1 (.slice O2 (N + 1) m2)
    have kW : KeepT [46, 9] w w8 := (KeepT.of_below ((Below.refl w.heap.size w).alloc (Nat.le_refl _) (.cells #[.string S] 9))).trans (.grown hg8 fun k hk => by
      obtain ⟨cs, t, z, h1, h2⟩ := Hty.out k hk
      exact ⟨cs, t, z, h1, by rw [h2]; simp⟩)
    have lW : Below B w w8 := ((Below.refl w.heap.size w).alloc (Nat.le_refl _) (.cells #[.string S] 9)).mono hB |>.trans hb8
    have k3 := kW.setCell (p := ⟨g, 1, none⟩) z1 (by simp) (.slice O2 (N + 1) m2)
    have l3 := lW.setCell (p := ⟨g, 1, none⟩) hBg (.slice O2 (N + 1) m2)
    have o3 := own_but own8 ((But.refl [g] w8).setCell (p := ⟨g, 1, none⟩) (by simp) (.slice O2 (N + 1) m2)) (fun k hk hm => by
      simp only [List.mem_singleton] at hm
      subst hm
      exact own_blk own8 z1 (by decide) (by rw [hk]; simp))
    have eN : (out ++ addL s).length = N + 1 := by rw [List.length_append, HN.out, addL, if_neg hs']; rfl
    have hfi : FindIs B L (w8.setCell ⟨g, 1, none⟩ (.slice O2 (N + 1) m2)) g (out ++ addL s) := by
      refine ⟨O2, m2, ?_, ?_⟩
      · rw [eN]; exact b3
      · rw [eN, List.map_append, addL, if_neg hs']
        rw [HS.out] at o3
        exact o3
    have HF := Lib.hid hfi; have K3 := Lib.hid k3; have L3 := Lib.hid l3
    clear hfi k3 l3 o3 b3 kW lW z1 own8 hg8 hb8 hx8
    go_wp2
    go_end0
    exact ⟨rfl, HF.out, K3.out, L3.out⟩
theorem litN_none_kind {n : NodeP} (h : n.kind ≠ 2) : litN n = none := by unfold litN; rw [if_neg h]
theorem litN_none_len {n : NodeP} (h : n.set.length ≠ 2) : litN n = none := by
  unfold litN
  split
  · split
    · rename_i e; rw [e] at h; exact absurd rfl h
    · rfl
  · rfl
theorem litN_two {n : NodeP} {a b : Nat} (h : n.kind = 2) (hs : n.set = [a, b]) : litN n = if a = b ∧ a ≠ 65533 then some a else none := by
  unfold litN; rw [if_pos h, hs]
def litV (o : Option Nat) : Value := match o with | some r => .tuple #[.int .i32 r, .bool true] | none => .tuple #[.int .i32 0, .bool false]
set_option maxRecDepth 100000 in
set_option maxHeartbeats 8000000 in
theorem vPlain {F : Nat → Prop} {W0 : World} {B0 : Nat} {A : Option Addr} {c : Nat} {ns : List NodeP} (hN : NodesIs F W0 B0 (.slice A ns.length c) ns) {n : NodeP} {k : Nat} (hk : ns[k]? = some n) (w : World) (hb : Below W0.heap.size W0 w) (g : Nat) (c0 : w.cell? ⟨g, 0, none⟩ = some (.slice A ns.length c)) :
    Calls Tryd.prog 39 #[.pointer (some ⟨g, 0, none⟩), .int .i64 (k : Nat)] w fun e w' => e = .returned (litV (litN n)) ∧ Below w.heap.size w w' := by
  have hkl := (List.getElem?_eq_some_iff.1 hk).1
  obtain ⟨gN, d, rfl, hd, hok, hgN, hcell⟩ := hN.node hk
  obtain ⟨M, hM⟩ : ∃ M, ns.length = M := ⟨_, rfl⟩
  rw [hM] at hkl c0
  have cc : ∀ j, j < 5 → w.cell? ⟨gN, k * 5 + j, none⟩ = d.cells[j]? := fun j hj => by
    rw [hb.cell (p := ⟨gN, k * 5 + j, none⟩) hgN, hcell j hj]
  have k0 : w.cell? ⟨gN, k * 5, none⟩ = some (.int .i64 (d.n.kind : Nat)) := cc 0 (by omega)
  have k1 : w.cell? ⟨gN, k * 5 + 1, none⟩ = some (.slice d.kA d.n.kids.length d.kc) := cc 1 (by omega)
  have k2 : w.cell? ⟨gN, k * 5 + 2, none⟩ = some (.int .i64 (d.n.mn : Nat)) := cc 2 (by omega)
  have k3 : w.cell? ⟨gN, k * 5 + 3, none⟩ = some (.int .i64 d.n.mx) := cc 3 (by omega)
  have k4 : w.cell? ⟨gN, k * 5 + 4, none⟩ = some (.slice d.sA d.n.set.length d.sc) := cc 4 (by omega)
  have hset := hok.set.below hb
  rw [hd] at k0 k1 k2 k3 k4 hset
  obtain ⟨K, hK⟩ : ∃ K, n.kind = K := ⟨_, rfl⟩
  obtain ⟨Q, hQ⟩ : ∃ Q, n.set.length = Q := ⟨_, rfl⟩
  obtain ⟨kl, hkl2⟩ : ∃ kl, n.kids.length = kl := ⟨_, rfl⟩
  obtain ⟨mn, hmn⟩ : ∃ mn, n.mn = mn := ⟨_, rfl⟩
  obtain ⟨mx, hmx⟩ : ∃ mx, n.mx = mx := ⟨_, rfl⟩
  obtain ⟨sA, hsA⟩ : ∃ sA, d.sA = sA := ⟨_, rfl⟩
  obtain ⟨sc, hsc⟩ : ∃ sc, d.sc = sc := ⟨_, rfl⟩
  obtain ⟨kA, hkA⟩ : ∃ kA, d.kA = kA := ⟨_, rfl⟩
  obtain ⟨kc, hkc⟩ : ∃ kc, d.kc = kc := ⟨_, rfl⟩
  rw [hK] at k0
  rw [hkA, hkl2, hkc] at k1
  rw [hmn] at k2
  rw [hmx] at k3
  rw [hsA, hQ, hsc] at k4
  rw [hsA, hQ] at hset
  obtain ⟨X, hX⟩ : ∃ X, X = w.alloc (.cells #[.int .i64 K, .slice kA kl kc, .int .i64 mn, .int .i64 mx, .slice sA Q sc] 77) := ⟨_, rfl⟩
  have hbX : Below w.heap.size w X := by rw [hX]; exact (Below.refl _ _).alloc (Nat.le_refl _) _
  have bX : Blk X w.heap.size 77 [.int .i64 K, .slice kA kl kc, .int .i64 mn, .int .i64 mx, .slice sA Q sc] := by rw [hX]; exact Blk.new w _ _
  have x0 : X.cell? ⟨w.heap.size, 0, none⟩ = some (.int .i64 K) := bX.cell 0
  have x4 : X.cell? ⟨w.heap.size, 4, none⟩ = some (.slice sA Q sc) := bX.cell 4
  have hset2 := hset.below hbX
  have HbX := Lib.hid hbX
  have z1 : (k : Int) < (M : Int) := by omega
  have HK := Lib.hid hK; have HQ := Lib.hid hQ; have Hset := Lib.hid hset2
  obtain ⟨ANS, hA⟩ : ∃ ANS, litN n = ANS := ⟨_, rfl⟩
  rw [hA]
  have HA := Lib.hid hA
  clear hcell cc hok hb hN hM hK hQ hkl2 hmn hmx hsA hsc hkA hkc hset hset2 bX hbX hd hk hA
  go_enter Tryd.func39, Tryd.ntmps39
  go_upto_region 2 with fail
  rw [← hX]
  clear hX k0 k1 k2 k3 k4 c0
  by_cases hk2 : K = 2
  · subst hk2
    by_cases hq2 : Q = 2
    · subst hq2
      obtain ⟨a, b, hab⟩ : ∃ a b, n.set = [a, b] := by
        have := HQ.out
        match h : n.set, this with
        | [a, b], _ => exact ⟨a, b, rfl⟩
      have hl := litN_two HK.out hab
      obtain ⟨bs, os, rfl, ca⟩ := Hset.out.at_ (k := 0) (u := rv a) (by rw [hab]; rfl)
      obtain ⟨bs', os', e', cb⟩ := Hset.out.at_ (k := 1) (u := rv b) (by rw [hab]; rfl)
      cases e'
      have ca' : X.cell? ⟨bs, os, none⟩ = some (.int .i32 a) := ca
      have cb' : X.cell? ⟨bs, os + 1, none⟩ = some (.int .i32 b) := cb
      clear Hset HK HQ hab ca cb
      by_cases he : a = b
      · subst he
        by_cases hf : a = 65533
        · subst hf
          rw [if_neg (by simp), HA.out] at hl
          subst hl
          clear HA
          go_quiet (fail)
          go_wp2
          go_ret2
          exact ⟨rfl, below_drewN HbX.out _⟩
        · rw [if_pos ⟨rfl, hf⟩, HA.out] at hl
          subst hl
          have z5 : ((a : Int) == 65533) = false := by simp; omega
          have z6 : ¬ (a : Int) = 65533 := by omega
          clear hf HA
          go_quiet (fail)
          go_wp2
          go_ret2
          exact ⟨rfl, below_drewN HbX.out _⟩
      · rw [if_neg (fun h => he h.1), HA.out] at hl
        subst hl
        have z5 : ((a : Int) != (b : Int)) = true := by simp; omega
        have z6 : ¬ (a : Int) = (b : Int) := by omega
        clear he HA
        go_quiet (fail)
        go_wp2
        go_ret2
        exact ⟨rfl, below_drewN HbX.out _⟩
    · obtain rfl : ANS = none := by rw [← HA.out]; exact litN_none_len (by rw [HQ.out]; exact hq2)
      have z5 : ((Q : Int) != 2) = true := by simp; omega
      have z6 : ¬ (Q : Int) = 2 := by omega
      clear HQ hq2 Hset HK HA
      go_quiet (fail)
      go_wp2
      go_ret2
      exact ⟨rfl, below_drewN HbX.out _⟩
  · obtain rfl : ANS = none := by rw [← HA.out]; exact litN_none_kind (by rw [HK.out]; exact hk2)
    have z5 : ((K : Int) != 2) = true := by simp; omega
    have z6 : ¬ (K : Int) = 2 := by omega
    clear HK hk2 Hset HQ HA
    go_quiet (fail)
    go_wp2
    go_ret2
    exact ⟨rfl, below_drewN HbX.out _⟩
end Go.Proofs.YtkojmgnbmnjmmaaDoor
/-! text: runs in memory -/
namespace Go.Proofs.YtkojmgnbmnjmmaaDoor
open Go.RowKit Garner
/-- a run, and where its word lies -/
structure RunD where
  p : RunP
  A : Option Addr
  c : Nat
def RunD.cells (d : RunD) : List Value := [.slice d.A d.p.word.length d.c, .int .i64 d.p.fr, .int .i64 d.p.to]
def RunD.v (d : RunD) : Value := .slice d.A d.p.word.length d.c
theorem run_one (ds : List RunD) : ∀ u ∈ ds.flatMap RunD.cells, u.oneCell' = true := by
  intro u hu
  obtain ⟨d, -, h⟩ := List.mem_flatMap.1 hu
  simp [RunD.cells] at h
  rcases h with rfl | rfl | rfl <;> rfl
theorem runE : Elem Tryd.prog 59 63 (.agg #[.slice none 0 0, .int .i64 0, .int .i64 0]) 3 40 := ⟨Tryd.underlying59, by kernel_rfl, rfl, by omega, by omega⟩
/-- no two words lie in one block -/
def Apart (a b : RunD) : Prop := ∀ k, a.v.ownBlock = some k → b.v.ownBlock = some k → False
structure RunsD (B : Nat) (w : World) (v : Value) (ds : List RunD) : Prop where
  own : w.ownsRow B 63 3 v ds.length (ds.flatMap RunD.cells)
  word : ∀ d ∈ ds, w.ownsRow B 21 1 d.v d.p.word.length (d.p.word.map rv)
  apart : ds.Pairwise Apart
theorem RunsD.below {B : Nat} {w w' : World} {v : Value} {ds : List RunD} (h : RunsD B w v ds) (hb : Below w.heap.size w w') : RunsD B w' v ds := ⟨own_below h.own hb, fun d hd => own_below (h.word d hd) hb, h.apart⟩
theorem RunsD.iterAt {B : Nat} {w : World} {v : Value} {ds : List RunD} (h : RunsD B w v ds) {k : Nat} {s : ByteArray} {pos pos' : Nat} (hk : w.heap[k]? = some (.stringIter s pos)) : RunsD B (w.iterAt k s pos') v ds := ⟨own_iterAt h.own hk, fun d hd => own_iterAt (h.word d hd) hk, h.apart⟩
theorem RunsD.nil (B : Nat) (w : World) : RunsD B w (.slice none 0 0) [] := ⟨World.ownsRow_nil _ _ _ _, by simp, .nil⟩
theorem run_at {ds : List RunD} {k : Nat} {d : RunD} (h : ds[k]? = some d) (j : Nat) (hj : j < 3) : (ds.flatMap RunD.cells)[k * 3 + j]? = d.cells[j]? := by
  induction ds generalizing k with
  | nil => simp at h
  | cons x ds ih =>
    have hl : x.cells.length = 3 := rfl
    cases k with
    | zero =>
      simp at h; subst h
      rw [List.flatMap_cons, List.getElem?_append_left (by omega), Nat.zero_mul, Nat.zero_add]
    | succ k =>
      have := ih (by simpa using h)
      rw [List.flatMap_cons, List.getElem?_append_right (by omega), hl, show (k + 1) * 3 + j - 3 = k * 3 + j by omega]
      exact this
theorem run_set (ds : List RunD) (d d' : RunD) (j : Nat) (u : Value) (hj : j < 3) (hc : d'.cells = d.cells.set j u) : ((ds ++ [d]).flatMap RunD.cells).set (ds.length * 3 + j) u = (ds ++ [d']).flatMap RunD.cells := by
  have hlen : ∀ ds : List RunD, (ds.flatMap RunD.cells).length = ds.length * 3 := fun ds => by
    induction ds with
    | nil => rfl
    | cons x ds ih =>
      have hl : x.cells.length = 3 := rfl
      rw [List.flatMap_cons, List.length_append, ih, hl, List.length_cons]; omega
  rw [List.flatMap_append, List.flatMap_append, List.set_append, if_neg (by rw [hlen]; omega), hlen, show ds.length * 3 + j - ds.length * 3 = j by omega]
  simp [hc]
/-- a new run behind the others -/
theorem RunsD.push {B : Nat} {w w' : World} {v v' : Value} {ds : List RunD} {p : RunP} (h : RunsD B w v ds) (ho : w'.ownsRow B 63 3 v' (ds.length + 1) (ds.flatMap RunD.cells ++ (⟨p, none, 0⟩ : RunD).cells)) (hg : w.grownBy w' v.ownBlock) (hp : p.word = []) : RunsD B w' v' (ds ++ [⟨p, none, 0⟩]) := by
  refine ⟨by rw [List.length_append, List.flatMap_append]; simpa using ho, fun d hd => ?_, ?_⟩
  · rcases List.mem_append.1 hd with hd | hd
    · refine own_grown (h.word d hd) hg ?_
      rcases hb : d.v.ownBlock with _ | k
      · exact .inl rfl
      · refine .inr fun e => ?_
        have := own_own h.own (h.word d hd) (by decide) k hb
        rw [← e] at this
        simp at this
    · rw [List.mem_singleton.1 hd]
      show w'.ownsRow B _ 1 (.slice none p.word.length 0) p.word.length (p.word.map rv)
      rw [hp]
      exact World.ownsRow_nil _ _ _ _
  · rw [List.pairwise_append]
    refine ⟨h.apart, by simp, fun a ha b hb k h1 h2 => ?_⟩
    rw [List.mem_singleton.1 hb] at h2
    cases h2
/-- the last one's word is another row -/
theorem RunsD.put {B : Nat} {w w2 : World} {gL cap : Nat} {ds : List RunD} {d : RunD} (h : RunsD B w (.slice (some ⟨gL, 0, none⟩) (ds.length + 1) cap) (ds ++ [d])) {A' : Option Addr} {n' c' : Nat} {word' : List Nat}
    (hg : w.grownBy w2 d.v.ownBlock) (ho : w2.ownsRow B 21 1 (.slice A' n' c') n' (word'.map rv)) (hn : word'.length = n') (hv : (Value.slice A' n' c').ownBlock = d.v.ownBlock ∨ ∃ k, (Value.slice A' n' c').ownBlock = some k ∧ w.heap.size ≤ k) :
    RunsD B (w2.setCell ⟨gL, ds.length * 3, none⟩ (.slice A' n' c')) (.slice (some ⟨gL, 0, none⟩) (ds.length + 1) cap) (ds ++ [⟨⟨word', d.p.fr, d.p.to⟩, A', c'⟩]) := by
  have hl : (ds ++ [d]).length = ds.length + 1 := by simp
  have hown := h.own
  rw [hl] at hown
  have hdw := h.word d (by simp)
  have o1 : w2.ownsRow B 63 3 (.slice (some ⟨gL, 0, none⟩) (ds.length + 1) cap) (ds.length + 1) ((ds ++ [d]).flatMap RunD.cells) := own_grown hown hg (by
    rcases hb : (Value.slice (some ⟨gL, 0, none⟩) (ds.length + 1) cap).ownBlock with _ | k
    · exact .inl rfl
    · refine .inr fun e => ?_
      have := own_own hdw hown (by decide) k hb
      rw [← e] at this
      simp at this)
  have o2 := (o1.stored (ds.length * 3) (.slice A' n' c')).1
  rw [show ds.length * 3 = ds.length * 3 + 0 by omega, run_set ds d ⟨⟨word', d.p.fr, d.p.to⟩, A', c'⟩ 0 _ (by omega) (by simp [RunD.cells, hn])] at o2
  have hbut : But [gL] w2 (w2.setCell ⟨gL, ds.length * 3, none⟩ (.slice A' n' c')) := (But.refl _ _).setCell (by simp) _
  have keep : ∀ {v : Value} {n : Nat} {xs : List Value}, w2.ownsRow B 21 1 v n xs → (w2.setCell ⟨gL, ds.length * 3, none⟩ (.slice A' n' c')).ownsRow B 21 1 v n xs := fun hx => own_but hx hbut fun g hg2 hm => by
    have := own_own o1 hx (by decide) g hg2
    simp only [List.mem_singleton] at hm
    subst hm
    exact this (by show _ ∈ [g]; simp)
  refine ⟨by rw [List.length_append]; exact o2, fun x hx => ?_, ?_⟩
  · rcases List.mem_append.1 hx with hx | hx
    · refine keep (own_grown (h.word x (by simp [hx])) hg ?_)
      rcases hb : x.v.ownBlock with _ | k
      · exact .inl rfl
      · refine .inr fun e => ?_
        have := (List.pairwise_append.1 h.apart).2.2 x hx d (by simp) k hb e.symm
        exact this
    · rw [List.mem_singleton.1 hx]
      show (w2.setCell _ _).ownsRow B _ 1 (.slice A' word'.length c') word'.length (word'.map rv)
      rw [hn]
      exact keep ho
  · rw [List.pairwise_append]
    refine ⟨(List.pairwise_append.1 h.apart).1, by simp, fun a ha b hb k h1 h2 => ?_⟩
    rw [List.mem_singleton.1 hb] at h2
    have h2' : (Value.slice A' n' c').ownBlock = some k := by rw [← hn]; exact h2
    rcases hv with hv | ⟨k', hv, hk⟩
    · rw [hv] at h2'
      exact (List.pairwise_append.1 h.apart).2.2 a ha d (by simp) k h1 h2'
    · rw [hv] at h2'
      injection h2' with h2'
      have := ((h.word a (by simp [ha])).lt k h1).2
      omega
/-- the last one ends elsewhere -/
theorem RunsD.end_ {B : Nat} {w : World} {gL cap t : Nat} {ds : List RunD} {d : RunD} (h : RunsD B w (.slice (some ⟨gL, 0, none⟩) (ds.length + 1) cap) (ds ++ [d])) :
    RunsD B (w.setCell ⟨gL, ds.length * 3 + 2, none⟩ (.int .i64 t)) (.slice (some ⟨gL, 0, none⟩) (ds.length + 1) cap) (ds ++ [⟨⟨d.p.word, d.p.fr, t⟩, d.A, d.c⟩]) := by
  have hl : (ds ++ [d]).length = ds.length + 1 := by simp
  have hown := h.own
  rw [hl] at hown
  have o2 := (hown.stored (ds.length * 3 + 2) (.int .i64 t)).1
  rw [run_set ds d ⟨⟨d.p.word, d.p.fr, t⟩, d.A, d.c⟩ 2 _ (by omega) (by simp [RunD.cells])] at o2
  have hbut : But [gL] w (w.setCell ⟨gL, ds.length * 3 + 2, none⟩ (.int .i64 t)) := (But.refl _ _).setCell (by simp) _
  have keep : ∀ {v : Value} {n : Nat} {xs : List Value}, w.ownsRow B 21 1 v n xs → (w.setCell ⟨gL, ds.length * 3 + 2, none⟩ (.int .i64 t)).ownsRow B 21 1 v n xs := fun hx => own_but hx hbut fun g hg2 hm => by
    have := own_own hown hx (by decide) g hg2
    simp only [List.mem_singleton] at hm
    subst hm
    exact this (by show _ ∈ [g]; simp)
  refine ⟨by rw [List.length_append]; exact o2, fun x hx => ?_, ?_⟩
  · rcases List.mem_append.1 hx with hx | hx
    · exact keep (h.word x (by simp [hx]))
    · rw [List.mem_singleton.1 hx]
      exact keep (h.word d (by simp))
  · rw [List.pairwise_append]
    refine ⟨(List.pairwise_append.1 h.apart).1, by simp, fun a ha b hb k h1 h2 => ?_⟩
    rw [List.mem_singleton.1 hb] at h2
    exact (List.pairwise_append.1 h.apart).2.2 a ha d (by simp) k h1 h2
/-- what the last one's cells hold -/
theorem RunsD.look {B : Nat} {w : World} {v : Value} {ds : List RunD} {d : RunD} (h : RunsD B w v (ds ++ [d])) : ∃ gL cap, v = .slice (some ⟨gL, 0, none⟩) (ds.length + 1) cap ∧ B ≤ gL ∧ gL < w.heap.size ∧ ds.length + 1 ≤ cap ∧ w.cell? ⟨gL, ds.length * 3, none⟩ = some (.slice d.A d.p.word.length d.c) ∧ w.cell? ⟨gL, ds.length * 3 + 2, none⟩ = some (.int .i64 d.p.to) ∧ w.frozen? ⟨gL, ds.length * 3, none⟩ = false ∧ w.frozen? ⟨gL, ds.length * 3 + 2, none⟩ = false := by
  have hl : (ds ++ [d]).length = ds.length + 1 := by simp
  have hown := h.own
  rw [hl] at hown
  obtain ⟨A, c, rfl, hc⟩ := own_form hown
  obtain ⟨gL, rfl, hB, hg, -, -, hcell⟩ := own_at hown (by omega)
  have hd : (ds ++ [d])[ds.length]? = some d := by simp
  exact ⟨gL, c, rfl, hB, hg, hc, by rw [hcell _ (by omega)]; exact run_at hd 0 (by omega), by rw [hcell _ (by omega)]; exact run_at hd 2 (by omega), hown.frozenAt _, hown.frozenAt _⟩
end Go.Proofs.YtkojmgnbmnjmmaaDoor
