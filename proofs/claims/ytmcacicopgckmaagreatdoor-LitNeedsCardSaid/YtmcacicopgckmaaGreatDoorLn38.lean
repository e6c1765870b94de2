import Derived.Test.YtmcacicopgckmaaGreatDoorLn26
import Derived.Test.YtmcacicopgckmaaGreatDoorLn22
import Derived.Test.YtmcacicopgckmaaGreatDoorLn21
import Derived.Lib.IndexAny
import Derived.Test.YtmcacicopgckmaaGreatDoorLn37
import Derived.Test.YtmcacicopgckmaaGreatDoorLn09
/-! a tree's nodes in memory; rows cut; strings' iterators beside rows -/
namespace Go.Proofs.YtmcacicopgckmaaGreatDoor
open Go.RowKit Garner
theorem NodesIs.node {F : Nat → Prop} {w : World} {B c k : Nat} {A : Option Addr} {ns : List NodeP} {n : NodeP} (h : NodesIs F w B (.slice A ns.length c) ns) (hk : ns[k]? = some n) : ∃ g d, A = some ⟨g, 0, none⟩ ∧ NodeD.n d = n ∧ NodeOk F w d ∧ g < w.heap.size ∧ ∀ j, j < 5 → w.cell? ⟨g, k * 5 + j, none⟩ = (NodeD.cells d)[j]? := by
  obtain ⟨ds, hds, hown, hok⟩ := h
  obtain ⟨hlt, -⟩ := List.getElem?_eq_some_iff.1 hk
  obtain ⟨g, rfl, -, hg, -, -, hc⟩ := own_at hown (by omega)
  have hk' := hk
  rw [← hds, List.getElem?_map] at hk'
  cases hd : ds[k]? with
  | none => rw [hd] at hk'; cases hk'
  | some d =>
    rw [hd] at hk'
    injection hk' with e
    exact ⟨g, d, rfl, e, hok d (List.mem_of_getElem? hd), hg, fun j hj => by rw [hc (k * 5 + j) (by omega), cells_at hd j hj]⟩
/-- nodes that lie at b -/
def AtN (ns : List NodeP) (b : Nat) (l : List NodeP) : Prop := ∀ k n, l[k]? = some n → ns[b + k]? = some n
theorem AtN.left {ns l m : List NodeP} {b : Nat} (h : AtN ns b (l ++ m)) : AtN ns b l := fun k n hk => h k n (by
  rw [List.getElem?_append_left (List.getElem?_eq_some_iff.1 hk).1]; exact hk)
theorem AtN.right {ns l m : List NodeP} {b n : Nat} (h : AtN ns b (l ++ m)) (hn : l.length = n) : AtN ns (b + n) m := fun k x hk => by
  have := h (n + k) x (by rw [List.getElem?_append_right (by omega), hn, Nat.add_sub_cancel_left]; exact hk)
  rwa [← Nat.add_assoc] at this
theorem last_at {ns : List NodeP} {b : Nat} {l : List NodeP} {x : NodeP} {t : Re} (hf : t.flat b = l ++ [x]) (hl : t.cnt = l.length + 1) (h : AtN ns b (t.flat b)) : ns[b + t.cnt - 1]? = some x := by
  have := h l.length x (by rw [hf, List.getElem?_append_right (Nat.le_refl _), Nat.sub_self]; rfl)
  rw [show b + t.cnt - 1 = b + l.length by omega]; exact this
theorem split_at {l : List Re} {j : Nat} {t : Re} (h : l[j]? = some t) : ∃ a m, l = a ++ t :: m ∧ a.length = j ∧ l.take j = a ∧ l.take (j + 1) = a ++ [t] := by
  obtain ⟨hj, e⟩ := List.getElem?_eq_some_iff.1 h
  refine ⟨l.take j, l.drop (j + 1), ?_, by rw [List.length_take]; omega, rfl, ?_⟩
  · rw [← e, ← List.drop_eq_getElem_cons hj, List.take_append_drop]
  · rw [List.take_succ_eq_append_getElem hj, e]
theorem kid_root {l : List Re} {j : Nat} {t : Re} (h : l[j]? = some t) (b : Nat) : (roots b l)[j]? = some (b + cnts (l.take j) + t.cnt - 1) := by
  obtain ⟨a, m, e, hj, ht, -⟩ := split_at h
  rw [ht, e, roots_app, List.getElem?_append_right (by rw [roots_length]; omega), roots_length, hj, Nat.sub_self]
  rfl
theorem kid_nodes {ns : List NodeP} {l : List Re} {j : Nat} {t : Re} (h : l[j]? = some t) {b : Nat} (hat : AtN ns b (flats b l)) : AtN ns (b + cnts (l.take j)) (t.flat (b + cnts (l.take j))) := by
  obtain ⟨a, m, e, hj, ht, -⟩ := split_at h
  rw [ht]
  rw [e, flats_app] at hat
  have h1 := hat.right (flats_len a b)
  rw [flats] at h1
  exact h1.left
theorem own_cutA {w : World} {B : Nat} {e : TypeId} {n m c : Nat} {A : Option Addr} {xs : List Value} (h : w.ownsRow B e 1 (.slice A n c) n xs) (hm : m ≤ n) : w.ownsRow B e 1 (.slice A m c) m (xs.take m) := by
  obtain ⟨h1, h2⟩ := h
  rcases h2 with ⟨e1, h0⟩ | ⟨g', cap, cur, e1, hB, hh, hc, hm2, hs, hp⟩
  · injection e1 with e2 e3 e4
    obtain rfl : m = 0 := by omega
    subst e2; subst e4
    exact ⟨by simp, .inl ⟨rfl, rfl⟩⟩
  · injection e1 with e2 e3 e4
    subst e2; subst e4
    refine ⟨by rw [List.length_take]; omega, .inr ⟨g', c, cur, rfl, hB, hh, by omega, hm2, hs, ?_⟩⟩
    rw [← hp, List.take_take]; congr 1; omega
theorem own_iterAt {w : World} {B : Nat} {e : TypeId} {sz n : Nat} {v : Value} {xs : List Value} {k : Nat} {s : ByteArray} {pos pos' : Nat} (h : w.ownsRow B e sz v n xs) (hk : w.heap[k]? = some (.stringIter s pos)) : (w.iterAt k s pos').ownsRow B e sz v n xs := by
  obtain ⟨h1, h2⟩ := h
  refine ⟨h1, ?_⟩
  rcases h2 with h2 | ⟨g, cap, cur, hv, hg, hh, r⟩
  · exact Or.inl h2
  · refine Or.inr ⟨g, cap, cur, hv, hg, ?_, r⟩
    rw [Lib.iterAt_other]
    · exact hh
    · rintro rfl; rw [hk] at hh; cases hh
theorem Blk.iterAt {w : World} {g : Nat} {t : TypeId} {cs : List Value} {k : Nat} {s : ByteArray} {pos pos' : Nat} (h : Blk w g t cs) (hk : w.heap[k]? = some (.stringIter s pos)) : Blk (w.iterAt k s pos') g t cs := by
  unfold Blk at h ⊢
  rw [Lib.iterAt_other]
  · exact h
  · rintro rfl; rw [hk] at h; cases h
end Go.Proofs.YtmcacicopgckmaaGreatDoor

/-! lit: the finder; add; plain -/
namespace Garner
open Go
/-- a plain node's rune -/
def litN (n : NodeP) : Option Nat := if n.kind = 2 then (match n.set with | [a, b] => if a = b ∧ a ≠ 65533 then some a else none | _ => none) else none
end Garner
namespace Go.Proofs.YtmcacicopgckmaaGreatDoor
open Go.RowKit Garner
/-- a finder in memory; its texts are the call's own -/
def FindIs (B : Nat) (L : Value) (w : World) (g : Nat) (out : List Bs) : Prop :=
  ∃ O m, Blk w g 51 [L, .slice O out.length m] ∧ w.ownsRow B 9 1 (.slice O out.length m) out.length (out.map strV)
theorem FindIs.lt {B : Nat} {L : Value} {w : World} {g : Nat} {out : List Bs} (h : FindIs B L w g out) : g < w.heap.size := by
  obtain ⟨O, m, h1, -⟩ := h
  exact h1.lt
theorem FindIs.below {B : Nat} {L : Value} {w w' : World} {g : Nat} {out : List Bs} (h : FindIs B L w g out) (hb : Below w.heap.size w w') : FindIs B L w' g out := by
  obtain ⟨O, m, h1, h2⟩ := h
  exact ⟨O, m, h1.below hb h1.lt, own_below h2 hb⟩
/-- what a finder's calls leave as it was -/
structure QF (B : Nat) (w w' : World) : Prop where
  keep : KeepT [51, 9] w w'
  low : Below B w w'
theorem QF.refl (B : Nat) (w : World) : QF B w w := ⟨.refl _ _, .refl _ _⟩
theorem QF.trans {B : Nat} {a b c : World} (h : QF B a b) (k : QF B b c) : QF B a c := ⟨h.keep.trans k.keep, h.low.trans k.low⟩
theorem QF.of_below {B : Nat} {w w' : World} (h : Below w.heap.size w w') (hB : B ≤ w.heap.size) : QF B w w' := ⟨.of_below h, h.mono hB⟩
set_option maxRecDepth 100000 in
set_option maxHeartbeats 8000000 in
theorem vAdd {B : Nat} {L : Value} (S : ByteArray) (s : Bs) (hS : S = ⟨s.toArray⟩) (w : World) (g : Nat) (out : List Bs) (h : FindIs B L w g out) (hBg : B ≤ g) (hB : B ≤ w.heap.size) (hn : out.length + 1 ≤ 1000000000000) :
    Calls Tryz.prog 56 #[.pointer (some ⟨g, 0, none⟩), .string S] w fun e w' => e = .returned (.tuple #[]) ∧ FindIs B L w' g (out ++ addL s) ∧ QF B w w' := by
  obtain ⟨O, m, hb, hown⟩ := h
  obtain ⟨N, hN⟩ : ∃ N, out.length = N := ⟨_, rfl⟩
  rw [hN] at hb hown hn
  go_enter Tryz.func56, Tryz.ntmps56
  by_cases hs : s = []
  · subst hs
    have e0 : S = ⟨#[]⟩ := by rw [hS]
    subst e0
    go_wp2
    go_end0
    refine ⟨rfl, ⟨O, m, ?_, ?_⟩, QF.refl _ _⟩
    · rw [addL, if_pos rfl, List.append_nil, hN]; exact hb
    · rw [addL, if_pos rfl, List.append_nil, hN]; exact hown
  · have hq : S.toList.isEmpty = false := by
      rw [Lib.toList_data, hS]
      cases s with
      | nil => exact absurd rfl hs
      | cons _ _ => rfl
    have c1 : w.cell? ⟨g, 1, none⟩ = some (.slice O N m) := hb.cell 1
    have Hb := Lib.hid hb; have Ho := Lib.hid hown
    have HS := Lib.hid hS; have HN := Lib.hid hN; have hs' := hs
    have hg := hb.lt
    have hty := own_typed (own_below hown ((Below.refl w.heap.size w).alloc (Nat.le_refl _) (.cells #[.string S] 9)))
    have Hty := Lib.hid hty
    clear hb hown hS hN hty hs
    go_wp2_with (at_builtin; refine wpList_app _ rfl strE rfl rfl (Ho.out.alloc _) rfl (row_new w _ [_]) (by simp [Value.oneCell']) (by first | omega | (simp; done) | (simp; omega)) (by simp; omega) ?_; intro v8 w8 own8 hg8 hb8 hx8; obtain ⟨O2, m2, rfl, -⟩ := own_form own8; have z1 := (Hb.out.below ((Below.refl w.heap.size w).alloc (Nat.le_refl _) (.cells #[.string S] 9)) hg).grown hg8 (fun e => by obtain ⟨cs', t', z, h1, h2⟩ := Hty.out g e.symm; have h3 := Hb.out.below ((Below.refl w.heap.size w).alloc (Nat.le_refl _) (.cells #[.string S] 9)) hg; unfold Blk at h3; rw [h3] at h1; cases h1; cases h2); have cb : w8.cell? ⟨g, 1, none⟩ = some (.slice O N m) := z1.cell 1; have fb := z1.frozen 1)
    have b3 := z1.set_ 1 (.slice O2 (N + 1) m2)
    have kW : KeepT [51, 9] w w8 := (KeepT.of_below ((Below.refl w.heap.size w).alloc (Nat.le_refl _) (.cells #[.string S] 9))).trans (.grown hg8 fun k hk => by
      obtain ⟨cs, t, z, h1, h2⟩ := Hty.out k hk
      exact ⟨cs, t, z, h1, by rw [h2]; simp⟩)
    have lW : Below B w w8 := ((Below.refl w.heap.size w).alloc (Nat.le_refl _) (.cells #[.string S] 9)).mono hB |>.trans hb8
    have k3 := kW.setCell (p := ⟨g, 1, none⟩) z1 (by simp) (.slice O2 (N + 1) m2)
    have l3 := lW.setCell (p := ⟨g, 1, none⟩) hBg (.slice O2 (N + 1) m2)
    have o3 := own_but own8 ((But.refl [g] w8).setCell (p := ⟨g, 1, none⟩) (by simp) (.slice O2 (N + 1) m2)) (fun k hk hm => by
      simp only [List.mem_singleton] at hm
      subst hm
      exact own_blk own8 z1 (by decide) (by rw [hk]; simp))
    have eN : (out ++ addL s).length = N + 1 := by rw [List.length_append, HN.out, addL, if_neg hs']; rfl
    have hfi : FindIs B L (w8.setCell ⟨g, 1, none⟩ (.slice O2 (N + 1) m2)) g (out ++ addL s) := by
      refine ⟨O2, m2, ?_, ?_⟩
      · rw [eN]; exact b3
      · rw [eN, List.map_append, addL, if_neg hs']
        rw [HS.out] at o3
        exact o3
    have HF := Lib.hid hfi; have K3 := Lib.hid k3; have L3 := Lib.hid l3
    clear hfi k3 l3 o3 b3 kW lW z1 own8 hg8 hb8 hx8
    go_wp2
    go_end0
    exact ⟨rfl, HF.out, K3.out, L3.out⟩
theorem litN_none_kind {n : NodeP} (h : n.kind ≠ 2) : litN n = none := by unfold litN; rw [if_neg h]
theorem litN_none_len {n : NodeP} (h : n.set.length ≠ 2) : litN n = none := by
  unfold litN
  split
  · split
    · rename_i e; rw [e] at h; exact absurd rfl h
    · rfl
  · rfl
theorem litN_two {n : NodeP} {a b : Nat} (h : n.kind = 2) (hs : n.set = [a, b]) : litN n = if a = b ∧ a ≠ 65533 then some a else none := by
  unfold litN; rw [if_pos h, hs]
def litV (o : Option Nat) : Value := match o with | some r => .tuple #[.int .i32 r, .bool true] | none => .tuple #[.int .i32 0, .bool false]
set_option maxRecDepth 100000 in
set_option maxHeartbeats 8000000 in
theorem vPlain {F : Nat → Prop} {W0 : World} {B0 : Nat} {A : Option Addr} {c : Nat} {ns : List NodeP} (hN : NodesIs F W0 B0 (.slice A ns.length c) ns) {n : NodeP} {k : Nat} (hk : ns[k]? = some n) (w : World) (hb : Below W0.heap.size W0 w) (g : Nat) (c0 : w.cell? ⟨g, 0, none⟩ = some (.slice A ns.length c)) :
    Calls Tryz.prog 55 #[.pointer (some ⟨g, 0, none⟩), .int .i64 (k : Nat)] w fun e w' => e = .returned (litV (litN n)) ∧ Below w.heap.size w w' := by
  have hkl := (List.getElem?_eq_some_iff.1 hk).1
  obtain ⟨gN, d, rfl, hd, hok, hgN, hcell⟩ := hN.node hk
  obtain ⟨M, hM⟩ : ∃ M, ns.length = M := ⟨_, rfl⟩
  rw [hM] at hkl c0
  have cc : ∀ j, j < 5 → w.cell? ⟨gN, k * 5 + j, none⟩ = d.cells[j]? := fun j hj => by
    rw [hb.cell (p := ⟨gN, k * 5 + j, none⟩) hgN, hcell j hj]
  have k0 : w.cell? ⟨gN, k * 5, none⟩ = some (.int .i64 (d.n.kind : Nat)) := cc 0 (by omega)
  have k1 : w.cell? ⟨gN, k * 5 + 1, none⟩ = some (.slice d.kA d.n.kids.length d.kc) := cc 1 (by omega)
  have k2 : w.cell? ⟨gN, k * 5 + 2, none⟩ = some (.int .i64 (d.n.mn : Nat)) := cc 2 (by omega)
  have k3 : w.cell? ⟨gN, k * 5 + 3, none⟩ = some (.int .i64 d.n.mx) := cc 3 (by omega)
  have k4 : w.cell? ⟨gN, k * 5 + 4, none⟩ = some (.slice d.sA d.n.set.length d.sc) := cc 4 (by omega)
  have hset := hok.set.below hb
  rw [hd] at k0 k1 k2 k3 k4 hset
  obtain ⟨K, hK⟩ : ∃ K, n.kind = K := ⟨_, rfl⟩
  obtain ⟨Q, hQ⟩ : ∃ Q, n.set.length = Q := ⟨_, rfl⟩
  obtain ⟨kl, hkl2⟩ : ∃ kl, n.kids.length = kl := ⟨_, rfl⟩
  obtain ⟨mn, hmn⟩ : ∃ mn, n.mn = mn := ⟨_, rfl⟩
  obtain ⟨mx, hmx⟩ : ∃ mx, n.mx = mx := ⟨_, rfl⟩
  obtain ⟨sA, hsA⟩ : ∃ sA, d.sA = sA := ⟨_, rfl⟩
  obtain ⟨sc, hsc⟩ : ∃ sc, d.sc = sc := ⟨_, rfl⟩
  obtain ⟨kA, hkA⟩ : ∃ kA, d.kA = kA := ⟨_, rfl⟩
  obtain ⟨kc, hkc⟩ : ∃ kc, d.kc = kc := ⟨_, rfl⟩
  rw [hK] at k0
  rw [hkA, hkl2, hkc] at k1
  rw [hmn] at k2
  rw [hmx] at k3
  rw [hsA, hQ, hsc] at k4
  rw [hsA, hQ] at hset
  obtain ⟨X, hX⟩ : ∃ X, X = w.alloc (.cells #[.int .i64 K, .slice kA kl kc, .int .i64 mn, .int .i64 mx, .slice sA Q sc] 94) := ⟨_, rfl⟩
  have hbX : Below w.heap.size w X := by rw [hX]; exact (Below.refl _ _).alloc (Nat.le_refl _) _
  have bX : Blk X w.heap.size 94 [.int .i64 K, .slice kA kl kc, .int .i64 mn, .int .i64 mx, .slice sA Q sc] := by rw [hX]; exact Blk.new w _ _
  have x0 : X.cell? ⟨w.heap.size, 0, none⟩ = some (.int .i64 K) := bX.cell 0
  have x4 : X.cell? ⟨w.heap.size, 4, none⟩ = some (.slice sA Q sc) := bX.cell 4
  have hset2 := hset.below hbX
  have HbX := Lib.hid hbX
  have z1 : (k : Int) < (M : Int) := by omega
  have HK := Lib.hid hK; have HQ := Lib.hid hQ; have Hset := Lib.hid hset2
  obtain ⟨ANS, hA⟩ : ∃ ANS, litN n = ANS := ⟨_, rfl⟩
  rw [hA]
  have HA := Lib.hid hA
  clear hcell cc hok hb hN hM hK hQ hkl2 hmn hmx hsA hsc hkA hkc hset hset2 bX hbX hd hk hA
  go_enter Tryz.func55, Tryz.ntmps55
  go_upto_region 2 with fail
  rw [← hX]
  clear hX k0 k1 k2 k3 k4 c0
  by_cases hk2 : K = 2
  · subst hk2
    by_cases hq2 : Q = 2
    · subst hq2
      obtain ⟨a, b, hab⟩ : ∃ a b, n.set = [a, b] := by
        have := HQ.out
        match h : n.set, this with
        | [a, b], _ => exact ⟨a, b, rfl⟩
      have hl := litN_two HK.out hab
      obtain ⟨bs, os, rfl, ca⟩ := Hset.out.at_ (k := 0) (u := rv a) (by rw [hab]; rfl)
      obtain ⟨bs', os', e', cb⟩ := Hset.out.at_ (k := 1) (u := rv b) (by rw [hab]; rfl)
      cases e'
      have ca' : X.cell? ⟨bs, os, none⟩ = some (.int .i32 a) := ca
      have cb' : X.cell? ⟨bs, os + 1, none⟩ = some (.int .i32 b) := cb
      clear Hset HK HQ hab ca cb
      by_cases he : a = b
      · subst he
        by_cases hf : a = 65533
        · subst hf
          rw [if_neg (by simp), HA.out] at hl
          subst hl
          clear HA
          go_quiet (fail)
          go_wp2
          go_ret2
          exact ⟨rfl, below_drewN HbX.out _⟩
        · rw [if_pos ⟨rfl, hf⟩, HA.out] at hl
          subst hl
          have z5 : ((a : Int) == 65533) = false := by simp; omega
          have z6 : ¬ (a : Int) = 65533 := by omega
          clear hf HA
          go_quiet (fail)
          go_wp2
          go_ret2
          exact ⟨rfl, below_drewN HbX.out _⟩
      · rw [if_neg (fun h => he h.1), HA.out] at hl
        subst hl
        have z5 : ((a : Int) != (b : Int)) = true := by simp; omega
        have z6 : ¬ (a : Int) = (b : Int) := by omega
        clear he HA
        go_quiet (fail)
        go_wp2
        go_ret2
        exact ⟨rfl, below_drewN HbX.out _⟩
    · obtain rfl : ANS = none := by rw [← HA.out]; exact litN_none_len (by rw [HQ.out]; exact hq2)
      have z5 : ((Q : Int) != 2) = true := by simp; omega
      have z6 : ¬ (Q : Int) = 2 := by omega
      clear HQ hq2 Hset HK HA
      go_quiet (fail)
      go_wp2
      go_ret2
      exact ⟨rfl, below_drewN HbX.out _⟩
  · obtain rfl : ANS = none := by rw [← HA.out]; exact litN_none_kind (by rw [HK.out]; exact hk2)
    have z5 : ((K : Int) != 2) = true := by simp; omega
    have z6 : ¬ (K : Int) = 2 := by omega
    clear HK hk2 Hset HQ HA
    go_quiet (fail)
    go_wp2
    go_ret2
    exact ⟨rfl, below_drewN HbX.out _⟩
end Go.Proofs.YtmcacicopgckmaaGreatDoor

/-! garnerref18: Parse -/
namespace Go.Proofs.YtmcacicopgckmaaGreatDoor
open Go.RowKit Garner
set_option maxRecDepth 100000 in
set_option maxHeartbeats 16000000 in
theorem qParse (l : Bs) (w : World) (hl : l.length ≤ 9223372036854775807) :
    Calls Tryz.prog 16 #[str l] w fun e w' => Below w.heap.size w w' ∧ OutP (rexpP l) w e w' := by
  have hsz := str_size l
  obtain ⟨OUT, hOUT⟩ : ∃ OUT, rexpP l = OUT := ⟨_, rfl⟩
  have hx := hOUT
  unfold rexpP at hx
  rw [hOUT]
  have HX := Lib.hid hx
  clear hx hOUT
  go_enter Tryz.func16, Tryz.ntmps16
  by_cases h128 : 128 < l.length
  · have hx := HX.out
    rw [if_pos h128] at hx
    have HX2 := Lib.hid hx
    have z1 : (128 : Int) < (l.length : Int) := by omega
    clear hx
    go_wp2
    go_ret2
    exact ⟨Below.refl _ _, by rw [← HX2.out]; exact rfl⟩
  · have hl2 : l.length ≤ 128 := by omega
    have hx := HX.out
    rw [if_neg h128] at hx
    have z1 : ¬ (128 : Int) < (l.length : Int) := by omega
    have hv := vRunes ⟨l.toArray⟩ l rfl w (by omega)
    cases hval : Lib.validD l with
    | false =>
      rw [hval] at hv
      rw [if_pos hval] at hx
      have HX2 := Lib.hid hx; have Hv := Lib.hid hv
      clear hx hv hval
      go_wp2_with fail
      refine Hv.out.mono ?_
      rintro e w2 ⟨v, rfl, -, b2⟩
      go_wp2
      go_ret2
      exact ⟨b2, by rw [← HX2.out]; exact rfl⟩
    | true =>
      rw [hval] at hv
      rw [if_neg (by rw [hval]; decide)] at hx
      have HX2 := Lib.hid hx; have Hv := Lib.hid hv
      clear hx hv hval
      go_wp2_with fail
      refine Hv.out.mono ?_
      rintro e w2 ⟨v, rfl, hown, b2⟩
      obtain ⟨A, c, rfl, -⟩ := own_form hown
      have hrl := runes_len _ l (Nat.le_refl _)
      obtain ⟨n, hn⟩ : ∃ n, (runesP l).length = n := ⟨_, rfl⟩
      have hr2 := RowT.of_own hown
      have hlt := hown.lt
      rw [hn] at hr2 hrl hlt ⊢
      have s2 := b2.size
      obtain ⟨w4, hw4⟩ : ∃ w4, w4 = w2.alloc (.cells #[.slice A n c, .int .i64 0, .slice none 0 0, .int .i64 0, .int .i64 0, .bool false] 66) := ⟨_, rfl⟩
      have b4 : Below w2.heap.size w2 w4 := by rw [hw4]; exact (Below.refl _ _).alloc (Nat.le_refl _) _
      have hbk : Blk w4 w2.heap.size 66 [.slice A n c, .int .i64 0, .slice none 0 0, .int .i64 0, .int .i64 0, .bool false] := by
        rw [hw4]; exact Blk.new w2 _ _
      have hs4 : w4.heap.size = w2.heap.size + 1 := by rw [hw4]; simp
      have hqs : QS (fun k => w.heap.size ≤ k ∧ k < w2.heap.size) w4 w2.heap.size n (runesP l) [] 0 0 := by
        refine ⟨⟨A, c, none, 0, runesP l, 0, hbk, hr2.below b4, fun a e => hlt a.block (by rw [e]; rfl), ⟨[], rfl, World.ownsRow_nil _ _ _ _, by simp⟩, by simp, Nat.zero_le _, hn, runes_le _ l (Nat.le_refl _)⟩, fun k hk => by omega, Nat.le_refl _, by omega, by simp, by omega⟩
      have ha := allQ (runesP l).length _ w2.heap.size n w4 (runesP l) [] 0 0 (Nat.le_refl _) hqs (by simp; omega) (by omega)
      have hw24 : Below w.heap.size w w4 := b2.trans (b4.mono s2)
      have HA := Lib.hid ha; have Hn := Lib.hid hn; have Hw4 := Lib.hid hw4
      clear ha hn hw4 hbk hr2 hlt hown
      go_wp2_with fail
      rw [← Hw4.out]
      refine HA.out.mono ?_
      rintro e w5 ⟨k5, o5⟩
      have hw5 := hw24.trans (k5.low.mono s2)
      cases hal : altF (runesP l) with
      | none =>
        rw [hal] at o5
        obtain ⟨x, m, rfl, hx5, -⟩ := o5
        obtain ⟨c5, f5⟩ := hx5.cell5
        have hrd : readR (runesP l) = .error 40 := by
          unfold readR
          rw [show altsR (4 * (runesP l).length + 4) (runesP l) = none from hal]
        have hOUT := HX2.out
        rw [hrd] at hOUT
        have HX3 := Lib.hid hOUT
        clear hrd hOUT hal hx5 HA k5
        go_wp2
        go_ret2
        exact ⟨hw5, by rw [← HX3.out]; exact rfl⟩
      | some q =>
        obtain ⟨ts, r, d⟩ := q
        rw [hal] at o5
        obtain ⟨rfl, h5⟩ := o5
        dsimp only at h5
        rw [show max 0 (0 + d) = d by omega, List.nil_append] at h5
        have hrd : readR (runesP l) = if r ≠ [] then .error 40 else if 16 < d then .error 9 else if 1000 < (manyR .alt ts).size then .error 3 else .ok (manyR .alt ts) := by
          unfold readR
          rw [show altsR (4 * (runesP l).length + 4) (runesP l) = some (ts, r, d) from hal]
        have hOUT := HX2.out
        rw [hrd] at hOUT
        obtain ⟨A5, c5, O5, m5, rs0, p, hb5, hr5, hA5, hn5, hdr, hpn, hrs0, -⟩ := h5.ex
        have hcn := (altF_cnt hal).1
        have hlim : (manyR .alt ts).lim := many_lim (mk := .alt) (fun _ => rfl) ((parse_lim _).1 hal)
        obtain ⟨t, ht⟩ : ∃ t, manyR .alt ts = t := ⟨_, rfl⟩
        rw [ht] at hb5 hn5 hOUT hlim
        have htc : t.cnt ≤ cnts ts + 1 := by rw [← ht]; exact many_cnt .alt (fun _ => rfl) ts
        obtain ⟨N, hN⟩ : ∃ N, (t.flat 0).length = N := ⟨_, rfl⟩
        have e0 : ([] : List NodeP).length = 0 := rfl
        rw [e0] at hb5 hn5
        rw [hN] at hb5 hn5
        have hNc : N = t.cnt := by rw [← hN, flat_len]
        have hcp := cnt_pos t
        have g1 : w5.cell? ⟨w2.heap.size, 1, none⟩ = some (.int .i64 (p : Nat)) := hb5.cell 1
        have g2 : w5.cell? ⟨w2.heap.size, 2, none⟩ = some (.slice O5 N m5) := hb5.cell 2
        have g4 : w5.cell? ⟨w2.heap.size, 4, none⟩ = some (.int .i64 (d : Nat)) := hb5.cell 4
        have g5 : w5.cell? ⟨w2.heap.size, 5, none⟩ = some (.bool false) := hb5.cell 5
        have HX3 := Lib.hid hOUT; have Hn5 := Lib.hid hn5
        have hrp : r = [] ↔ p = n := by
          rw [hdr, List.drop_eq_nil_iff, hrs0]; omega
        have Hrp := Lib.hid hrp
        have hN4 : N ≤ 10000 := by have := Hn.out; omega
        obtain ⟨x, hxs, hsz2⟩ : ∃ x : Nat, (1000 < x ↔ 1000 < t.size) ∧ Calls Tryz.prog 42 #[.slice O5 N m5, .int .i64 ((N - 1 : Nat) : Int)] w5 fun e w' => e = .returned (.int .i64 (x : Nat)) ∧ w' = w5 := by
          refine ⟨(sizesGo [] (t.flat 0)).getD (N - 1) 0, ?_, qSize _ O5 m5 N (t.flat 0) w5 hN hn5 hN4 (fun i n hn k hk => by have := wf_flat t 0 i n hn k hk; omega) (fun n hn => (flat_lim t 0 hlim n hn).mono (by omega)) (N - 1 + 1) (N - 1) (Nat.lt_succ_self _) (by omega)⟩
          have h1 := size_root t
          rw [List.getLast?_eq_getElem?, sizesGo_len, hN] at h1
          rw [List.getD_eq_getElem?_getD, show N - 1 = ([] : List Nat).length + N - 1 by simp, h1, Option.getD_some]
          omega
        have hroot : ([] : List NodeP).length + (manyR Re.alt ts).cnt - 1 = N - 1 := by rw [ht, hNc]; simp
        rw [hroot]
        have Hsz := Lib.hid hsz2; have Hxs := Lib.hid hxs
        have s5 := k5.low.size
        have hS5 : NodesIs (fun k => w.heap.size ≤ k ∧ k < w5.heap.size) w5 w.heap.size (.slice O5 N m5) (t.flat 0) := hn5.weak (by omega) (fun k hk => by
          rcases hk with hk | hk
          · exact ⟨hk.1, by omega⟩
          · exact ⟨by omega, hk.2⟩)
        have HS5 := Lib.hid hS5
        clear hsz2 hxs hS5 hroot hn5 hb5 hr5 hOUT hrd hal hrp hlim h5 hdr hpn hrs0 hcn htc hNc hN ht e0 HA k5 hA5
        by_cases hp : p = n
        · have hq1 : ((p : Int) != (n : Int)) = false := by simp; omega
          have hr0 : r = [] := Hrp.out.2 hp
          have hx3 := HX3.out
          rw [if_neg (fun e => e hr0)] at hx3
          have HX4 := Lib.hid hx3
          clear hx3 hr0 hp
          by_cases h16 : 16 < d
          · have z16 : (16 : Int) < (d : Int) := by omega
            have hx4 := HX4.out
            rw [if_pos h16] at hx4
            have HX5 := Lib.hid hx4
            clear hx4
            go_wp2
            go_ret2
            exact ⟨hw5, by rw [← HX5.out]; exact rfl⟩
          · have z16 : ¬ (16 : Int) < (d : Int) := by omega
            have hx4 := HX4.out
            rw [if_neg h16] at hx4
            have HX5 := Lib.hid hx4
            clear hx4
            go_wp2_with fail
            refine Hsz.out.mono ?_
            rintro e w6 ⟨rfl, hw6⟩
            obtain rfl : w5 = w6 := hw6.symm
            by_cases hbig : 1000 < x
            · have zb : (1000 : Int) < (x : Int) := by omega
              have hx5 := HX5.out
              rw [if_pos (Hxs.out.1 hbig)] at hx5
              have HX6 := Lib.hid hx5
              clear hx5
              go_wp2
              go_ret2
              exact ⟨hw5, by rw [← HX6.out]; exact rfl⟩
            · have zb : ¬ (1000 : Int) < (x : Int) := by omega
              have hx5 := HX5.out
              rw [if_neg (fun h => hbig (Hxs.out.2 h))] at hx5
              have HX6 := Lib.hid hx5
              clear hx5
              go_wp2
              go_ret2
              exact ⟨hw5, by rw [← HX6.out]; exact ⟨_, rfl, HS5.out⟩⟩
        · have hq1 : ((p : Int) != (n : Int)) = true := by simp; omega
          have hx3 := HX3.out
          rw [if_pos (fun e => hp (Hrp.out.1 e))] at hx3
          have HX4 := Lib.hid hx3
          clear hx3 hp
          go_wp2
          go_ret2
          exact ⟨hw5, by rw [← HX4.out]; exact rfl⟩
end Go.Proofs.YtmcacicopgckmaaGreatDoor

/-! garnerref19: join, same -/
namespace Garner
open Go
theorem take_set {l : List Bool} {k n : Nat} {x : Bool} (h : l[k]? = some x) (hk : k < n) : (l.take k ++ List.replicate (n - k) false).set k x = l.take (k + 1) ++ List.replicate (n - (k + 1)) false := by
  obtain ⟨h1, h2⟩ := List.getElem?_eq_some_iff.1 h
  have hl : (l.take k).length = k := by rw [List.length_take]; omega
  rw [List.set_append, if_neg (by omega), hl, Nat.sub_self, show n - k = (n - (k + 1)) + 1 by omega, List.replicate_succ, List.set_cons_zero, List.take_succ_eq_append_getElem h1, h2, List.append_assoc]
  rfl
end Garner
namespace Go.Proofs.YtmcacicopgckmaaGreatDoor
open Go.RowKit Garner
end Go.Proofs.YtmcacicopgckmaaGreatDoor

/-! garnerref19: sets; rows of places -/
namespace Garner
open Go
/-- a row of places tells a set of places -/
def IsP (L : List Bool) (n : Nat) (P : Nat → Prop) : Prop := L.length = n + 1 ∧ ∀ j, j ≤ n → (L[j]? = some true ↔ P j)
theorem IsP.congr {L : List Bool} {n : Nat} {P Q : Nat → Prop} (h : IsP L n P) (hq : ∀ j, j ≤ n → (P j ↔ Q j)) : IsP L n Q := ⟨h.1, fun j hj => (h.2 j hj).trans (hq j hj)⟩
theorem IsP.none (n : Nat) : IsP (List.replicate (n + 1) false) n (fun _ => False) := by
  refine ⟨List.length_replicate, fun j hj => ?_⟩
  rw [List.getElem?_replicate, if_pos (by omega)]
  simp
end Garner
namespace Go.Proofs.YtmcacicopgckmaaGreatDoor
open Go.RowKit Garner
end Go.Proofs.YtmcacicopgckmaaGreatDoor

/-! garnerref19: sets of places, plain -/
namespace Garner
open Go
section
variable {n : Nat} {R : Nat → Nat → Prop} {P : Nat → Prop}
end
theorem IsP.put {L : List Bool} {n k : Nat} {P : Nat → Prop} (h : IsP L n P) (hk : k ≤ n) : IsP (L.set k true) n (fun j => P j ∨ j = k) := by
  refine ⟨by rw [List.length_set, h.1], fun j hj => ?_⟩
  rw [List.getElem?_set]
  by_cases e : k = j
  · subst e
    rw [if_pos rfl, if_pos (by rw [h.1]; omega)]
    simp
  · rw [if_neg e]
    rw [h.2 j hj]
    exact ⟨.inl, fun h => h.resolve_right fun e2 => e e2.symm⟩
theorem IsP.all (n : Nat) : IsP (List.replicate (n + 1) true) n (fun _ => True) := by
  refine ⟨List.length_replicate, fun j hj => ?_⟩
  rw [List.getElem?_replicate, if_pos (by omega)]
  simp
theorem IsP.at_ {L : List Bool} {n k : Nat} {P : Nat → Prop} (h : IsP L n P) (hk : k ≤ n) : ∃ x, L[k]? = some x ∧ (x = true ↔ P k) := by
  obtain ⟨x, hx⟩ : ∃ x, L[k]? = some x := ⟨_, List.getElem?_eq_getElem (by rw [h.1]; omega)⟩
  refine ⟨x, hx, ?_⟩
  rw [← h.2 k hk, hx]
  simp
end Garner

