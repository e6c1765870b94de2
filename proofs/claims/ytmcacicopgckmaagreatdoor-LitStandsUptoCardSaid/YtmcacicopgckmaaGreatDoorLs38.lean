import Derived.Test.YtmcacicopgckmaaGreatDoorLs34
import Derived.Test.YtmcacicopgckmaaGreatDoorLs27
import Derived.Test.YtmcacicopgckmaaGreatDoorLs28
import Derived.Test.YtmcacicopgckmaaGreatDoorLs33
import Derived.Lib.IndexAny
import Derived.Test.YtmcacicopgckmaaGreatDoorLs37
/-! lit: the finder; add; plain -/
namespace Garner
open Go
/-- a plain node's rune -/
def litN (n : NodeP) : Option Nat := if n.kind = 2 then (match n.set with | [a, b] => if a = b ∧ a ≠ 65533 then some a else none | _ => none) else none
end Garner
namespace Go.Proofs.YtmcacicopgckmaaGreatDoor
open Go.RowKit Garner
/-- a finder in memory; its texts are the call's own -/
def FindIs (B : Nat) (L : Value) (w : World) (g : Nat) (out : List Bs) : Prop :=
  ∃ O m, Blk w g 51 [L, .slice O out.length m] ∧ w.ownsRow B 9 1 (.slice O out.length m) out.length (out.map strV)
theorem FindIs.lt {B : Nat} {L : Value} {w : World} {g : Nat} {out : List Bs} (h : FindIs B L w g out) : g < w.heap.size := by
  obtain ⟨O, m, h1, -⟩ := h
  exact h1.lt
theorem FindIs.below {B : Nat} {L : Value} {w w' : World} {g : Nat} {out : List Bs} (h : FindIs B L w g out) (hb : Below w.heap.size w w') : FindIs B L w' g out := by
  obtain ⟨O, m, h1, h2⟩ := h
  exact ⟨O, m, h1.below hb h1.lt, own_below h2 hb⟩
/-- what a finder's calls leave as it was -/
structure QF (B : Nat) (w w' : World) : Prop where
  keep : KeepT [51, 9] w w'
  low : Below B w w'
theorem QF.refl (B : Nat) (w : World) : QF B w w := ⟨.refl _ _, .refl _ _⟩
theorem QF.trans {B : Nat} {a b c : World} (h : QF B a b) (k : QF B b c) : QF B a c := ⟨h.keep.trans k.keep, h.low.trans k.low⟩
theorem QF.of_below {B : Nat} {w w' : World} (h : Below w.heap.size w w') (hB : B ≤ w.heap.size) : QF B w w' := ⟨.of_below h, h.mono hB⟩
set_option maxRecDepth 100000 in
set_option maxHeartbeats 8000000 in
theorem vAdd {B : Nat} {L : Value} (S : ByteArray) (s : Bs) (hS : S = ⟨s.toArray⟩) (w : World) (g : Nat) (out : List Bs) (h : FindIs B L w g out) (hBg : B ≤ g) (hB : B ≤ w.heap.size) (hn : out.length + 1 ≤ 1000000000000) :
    Calls Tryz.prog 56 #[.pointer (some ⟨g, 0, none⟩), .string S] w fun e w' => e = .returned (.tuple #[]) ∧ FindIs B L w' g (out ++ addL s) ∧ QF B w w' := by
  obtain ⟨O, m, hb, hown⟩ := h
  obtain ⟨N, hN⟩ : ∃ N, out.length = N := ⟨_, rfl⟩
  rw [hN] at hb hown hn
  go_enter Tryz.func56, Tryz.ntmps56
  by_cases hs : s = []
  · subst hs
    have e0 : S = ⟨#[]⟩ := by rw [hS]
    subst e0
    go_wp2
    go_end0
    refine ⟨rfl, ⟨O, m, ?_, ?_⟩, QF.refl _ _⟩
    · rw [addL, if_pos rfl, List.append_nil, hN]; exact hb
    · rw [addL, if_pos rfl, List.append_nil, hN]; exact hown
  · have hq : S.toList.isEmpty = false := by
      rw [Lib.toList_data, hS]
      cases s with
      | nil => exact absurd rfl hs
      | cons _ _ => rfl
    have c1 : w.cell? ⟨g, 1, none⟩ = some (.slice O N m) := hb.cell 1
    have Hb := Lib.hid hb; have Ho := Lib.hid hown
    have HS := Lib.hid hS; have HN := Lib.hid hN; have hs' := hs
    have hg := hb.lt
    have hty := own_typed (own_below hown ((Below.refl w.heap.size w).alloc (Nat.le_refl _) (.cells #[.string S] 9)))
    have Hty := Lib.hid hty
    clear hb hown hS hN hty hs
    go_wp2_with (at_builtin; refine wpList_app _ rfl strE rfl rfl (Ho.out.alloc _) rfl (row_new w _ [_]) (by simp [Value.oneCell']) (by first | omega | (simp; done) | (simp; omega)) (by simp; omega) ?_; intro v8 w8 own8 hg8 hb8 hx8; obtain ⟨O2, m2, rfl, -⟩ := own_form own8; have z1 := (Hb.out.below ((Below.refl w.heap.size w).alloc (Nat.le_refl _) (.cells #[.string S] 9)) hg).grown hg8 (fun e => by obtain ⟨cs', t', z, h1, h2⟩ := Hty.out g e.symm; have h3 := Hb.out.below ((Below.refl w.heap.size w).alloc (Nat.le_refl _) (.cells #[.string S] 9)) hg; unfold Blk at h3; rw [h3] at h1; cases h1; cases h2); have cb : w8.cell? ⟨g, 1, none⟩ = some (.slice O N m) := z1.cell 1; have fb := z1.frozen 1)
    have b3 := z1.set_ 1 (.slice O2 (N + 1) m2)
    have kW : KeepT [51, 9] w w8 := (KeepT.of_below ((Below.refl w.heap.size w).alloc (Nat.le_refl _) (.cells #[.string S] 9))).trans (.grown hg8 fun k hk => by
      obtain ⟨cs, t, z, h1, h2⟩ := Hty.out k hk
      exact ⟨cs, t, z, h1, by rw [h2]; simp⟩)
    have lW : Below B w w8 := ((Below.refl w.heap.size w).alloc (Nat.le_refl _) (.cells #[.string S] 9)).mono hB |>.trans hb8
    have k3 := kW.setCell (p := ⟨g, 1, none⟩) z1 (by simp) (.slice O2 (N + 1) m2)
    have l3 := lW.setCell (p := ⟨g, 1, none⟩) hBg (.slice O2 (N + 1) m2)
    have o3 := own_but own8 ((But.refl [g] w8).setCell (p := ⟨g, 1, none⟩) (by simp) (.slice O2 (N + 1) m2)) (fun k hk hm => by
      simp only [List.mem_singleton] at hm
      subst hm
      exact own_blk own8 z1 (by decide) (by rw [hk]; simp))
    have eN : (out ++ addL s).length = N + 1 := by rw [List.length_append, HN.out, addL, if_neg hs']; rfl
    have hfi : FindIs B L (w8.setCell ⟨g, 1, none⟩ (.slice O2 (N + 1) m2)) g (out ++ addL s) := by
      refine ⟨O2, m2, ?_, ?_⟩
      · rw [eN]; exact b3
      · rw [eN, List.map_append, addL, if_neg hs']
        rw [HS.out] at o3
        exact o3
    have HF := Lib.hid hfi; have K3 := Lib.hid k3; have L3 := Lib.hid l3
    clear hfi k3 l3 o3 b3 kW lW z1 own8 hg8 hb8 hx8
    go_wp2
    go_end0
    exact ⟨rfl, HF.out, K3.out, L3.out⟩
theorem litN_none_kind {n : NodeP} (h : n.kind ≠ 2) : litN n = none := by unfold litN; rw [if_neg h]
theorem litN_none_len {n : NodeP} (h : n.set.length ≠ 2) : litN n = none := by
  unfold litN
  split
  · split
    · rename_i e; rw [e] at h; exact absurd rfl h
    · rfl
  · rfl
theorem litN_two {n : NodeP} {a b : Nat} (h : n.kind = 2) (hs : n.set = [a, b]) : litN n = if a = b ∧ a ≠ 65533 then some a else none := by
  unfold litN; rw [if_pos h, hs]
def litV (o : Option Nat) : Value := match o with | some r => .tuple #[.int .i32 r, .bool true] | none => .tuple #[.int .i32 0, .bool false]
set_option maxRecDepth 100000 in
set_option maxHeartbeats 8000000 in
theorem vPlain {F : Nat → Prop} {W0 : World} {B0 : Nat} {A : Option Addr} {c : Nat} {ns : List NodeP} (hN : NodesIs F W0 B0 (.slice A ns.length c) ns) {n : NodeP} {k : Nat} (hk : ns[k]? = some n) (w : World) (hb : Below W0.heap.size W0 w) (g : Nat) (c0 : w.cell? ⟨g, 0, none⟩ = some (.slice A ns.length c)) :
    Calls Tryz.prog 55 #[.pointer (some ⟨g, 0, none⟩), .int .i64 (k : Nat)] w fun e w' => e = .returned (litV (litN n)) ∧ Below w.heap.size w w' := by
  have hkl := (List.getElem?_eq_some_iff.1 hk).1
  obtain ⟨gN, d, rfl, hd, hok, hgN, hcell⟩ := hN.node hk
  obtain ⟨M, hM⟩ : ∃ M, ns.length = M := ⟨_, rfl⟩
  rw [hM] at hkl c0
  have cc : ∀ j, j < 5 → w.cell? ⟨gN, k * 5 + j, none⟩ = d.cells[j]? := fun j hj => by
    rw [hb.cell (p := ⟨gN, k * 5 + j, none⟩) hgN, hcell j hj]
  have k0 : w.cell? ⟨gN, k * 5, none⟩ = some (.int .i64 (d.n.kind : Nat)) := cc 0 (by omega)
  have k1 : w.cell? ⟨gN, k * 5 + 1, none⟩ = some (.slice d.kA d.n.kids.length d.kc) := cc 1 (by omega)
  have k2 : w.cell? ⟨gN, k * 5 + 2, none⟩ = some (.int .i64 (d.n.mn : Nat)) := cc 2 (by omega)
  have k3 : w.cell? ⟨gN, k * 5 + 3, none⟩ = some (.int .i64 d.n.mx) := cc 3 (by omega)
  have k4 : w.cell? ⟨gN, k * 5 + 4, none⟩ = some (.slice d.sA d.n.set.length d.sc) := cc 4 (by omega)
  have hset := hok.set.below hb
  rw [hd] at k0 k1 k2 k3 k4 hset
  obtain ⟨K, hK⟩ : ∃ K, n.kind = K := ⟨_, rfl⟩
  obtain ⟨Q, hQ⟩ : ∃ Q, n.set.length = Q := ⟨_, rfl⟩
  obtain ⟨kl, hkl2⟩ : ∃ kl, n.kids.length = kl := ⟨_, rfl⟩
  obtain ⟨mn, hmn⟩ : ∃ mn, n.mn = mn := ⟨_, rfl⟩
  obtain ⟨mx, hmx⟩ : ∃ mx, n.mx = mx := ⟨_, rfl⟩
  obtain ⟨sA, hsA⟩ : ∃ sA, d.sA = sA := ⟨_, rfl⟩
  obtain ⟨sc, hsc⟩ : ∃ sc, d.sc = sc := ⟨_, rfl⟩
  obtain ⟨kA, hkA⟩ : ∃ kA, d.kA = kA := ⟨_, rfl⟩
  obtain ⟨kc, hkc⟩ : ∃ kc, d.kc = kc := ⟨_, rfl⟩
  rw [hK] at k0
  rw [hkA, hkl2, hkc] at k1
  rw [hmn] at k2
  rw [hmx] at k3
  rw [hsA, hQ, hsc] at k4
  rw [hsA, hQ] at hset
  obtain ⟨X, hX⟩ : ∃ X, X = w.alloc (.cells #[.int .i64 K, .slice kA kl kc, .int .i64 mn, .int .i64 mx, .slice sA Q sc] 94) := ⟨_, rfl⟩
  have hbX : Below w.heap.size w X := by rw [hX]; exact (Below.refl _ _).alloc (Nat.le_refl _) _
  have bX : Blk X w.heap.size 94 [.int .i64 K, .slice kA kl kc, .int .i64 mn, .int .i64 mx, .slice sA Q sc] := by rw [hX]; exact Blk.new w _ _
  have x0 : X.cell? ⟨w.heap.size, 0, none⟩ = some (.int .i64 K) := bX.cell 0
  have x4 : X.cell? ⟨w.heap.size, 4, none⟩ = some (.slice sA Q sc) := bX.cell 4
  have hset2 := hset.below hbX
  have HbX := Lib.hid hbX
  have z1 : (k : Int) < (M : Int) := by omega
  have HK := Lib.hid hK; have HQ := Lib.hid hQ; have Hset := Lib.hid hset2
  obtain ⟨ANS, hA⟩ : ∃ ANS, litN n = ANS := ⟨_, rfl⟩
  rw [hA]
  have HA := Lib.hid hA
  clear hcell cc hok hb hN hM hK hQ hkl2 hmn hmx hsA hsc hkA hkc hset hset2 bX hbX hd hk hA
  go_enter Tryz.func55, Tryz.ntmps55
  go_upto_region 2 with fail
  rw [← hX]
  clear hX k0 k1 k2 k3 k4 c0
  by_cases hk2 : K = 2
  · subst hk2
    by_cases hq2 : Q = 2
    · subst hq2
      obtain ⟨a, b, hab⟩ : ∃ a b, n.set = [a, b] := by
        have := HQ.out
        match h : n.set, this with
        | [a, b], _ => exact ⟨a, b, rfl⟩
      have hl := litN_two HK.out hab
      obtain ⟨bs, os, rfl, ca⟩ := Hset.out.at_ (k := 0) (u := rv a) (by rw [hab]; rfl)
      obtain ⟨bs', os', e', cb⟩ := Hset.out.at_ (k := 1) (u := rv b) (by rw [hab]; rfl)
      cases e'
      have ca' : X.cell? ⟨bs, os, none⟩ = some (.int .i32 a) := ca
      have cb' : X.cell? ⟨bs, os + 1, none⟩ = some (.int .i32 b) := cb
      clear Hset HK HQ hab ca cb
      by_cases he : a = b
      · subst he
        by_cases hf : a = 65533
        · subst hf
          rw [if_neg (by simp), HA.out] at hl
          subst hl
          clear HA
          go_quiet (fail)
          go_wp2
          go_ret2
          exact ⟨rfl, below_drewN HbX.out _⟩
        · rw [if_pos ⟨rfl, hf⟩, HA.out] at hl
          subst hl
          have z5 : ((a : Int) == 65533) = false := by simp; omega
          have z6 : ¬ (a : Int) = 65533 := by omega
          clear hf HA
          go_quiet (fail)
          go_wp2
          go_ret2
          exact ⟨rfl, below_drewN HbX.out _⟩
      · rw [if_neg (fun h => he h.1), HA.out] at hl
        subst hl
        have z5 : ((a : Int) != (b : Int)) = true := by simp; omega
        have z6 : ¬ (a : Int) = (b : Int) := by omega
        clear he HA
        go_quiet (fail)
        go_wp2
        go_ret2
        exact ⟨rfl, below_drewN HbX.out _⟩
    · obtain rfl : ANS = none := by rw [← HA.out]; exact litN_none_len (by rw [HQ.out]; exact hq2)
      have z5 : ((Q : Int) != 2) = true := by simp; omega
      have z6 : ¬ (Q : Int) = 2 := by omega
      clear HQ hq2 Hset HK HA
      go_quiet (fail)
      go_wp2
      go_ret2
      exact ⟨rfl, below_drewN HbX.out _⟩
  · obtain rfl : ANS = none := by rw [← HA.out]; exact litN_none_kind (by rw [HK.out]; exact hk2)
    have z5 : ((K : Int) != 2) = true := by simp; omega
    have z6 : ¬ (K : Int) = 2 := by omega
    clear HK hk2 Hset HQ HA
    go_quiet (fail)
    go_wp2
    go_ret2
    exact ⟨rfl, below_drewN HbX.out _⟩
end Go.Proofs.YtmcacicopgckmaaGreatDoor
/-! autom: node of a repetition -/
namespace Go.Proofs.YtmcacicopgckmaaGreatDoor
open Go.RowKit Garner
set_option maxRecDepth 100000 in
set_option maxHeartbeats 16000000 in
theorem nodeRepN {F : Nat → Prop} {W0 : World} {B0 : Nat} {A : Option Addr} {c : Nat} {ns : List NodeP} (hN : NodesIs F W0 B0 (.slice A ns.length c) ns) (t : Re) (mn : Nat) (hmn : mn ≤ 8) (ih : CodeC W0 A c ns t) : CodeC W0 A c ns (.rep t mn none) := by
  intro b w g ins hat hBg hp hb hsz
  have hn := last_at (t := .rep t mn none) (l := t.flat b) rfl (by rw [flat_len]; rfl) hat
  have hat2 : AtN ns b (t.flat b) := AtN.left (m := [_]) hat
  have hkl := (List.getElem?_eq_some_iff.1 hn).1
  obtain ⟨gN, d, rfl, hd, hok, hgN, hcell⟩ := hN.node hn
  obtain ⟨k, hk⟩ : ∃ k, b + Re.cnt (.rep t mn none) - 1 = k := ⟨_, rfl⟩
  rw [hk] at hn hkl hcell ⊢
  have cc : ∀ j, j < 5 → w.cell? ⟨gN, k * 5 + j, none⟩ = d.cells[j]? := fun j hj => by
    rw [hb.cell (p := ⟨gN, k * 5 + j, none⟩) hgN, hcell j hj]
  have c0 : w.cell? ⟨gN, k * 5, none⟩ = some (.int .i64 (d.n.kind : Nat)) := cc 0 (by omega)
  have c1 : w.cell? ⟨gN, k * 5 + 1, none⟩ = some (.slice d.kA d.n.kids.length d.kc) := cc 1 (by omega)
  have c2 : w.cell? ⟨gN, k * 5 + 2, none⟩ = some (.int .i64 (d.n.mn : Nat)) := cc 2 (by omega)
  have c3 : w.cell? ⟨gN, k * 5 + 3, none⟩ = some (.int .i64 d.n.mx) := cc 3 (by omega)
  have c4 : w.cell? ⟨gN, k * 5 + 4, none⟩ = some (.slice d.sA d.n.set.length d.sc) := cc 4 (by omega)
  have hkids := hok.kids
  rw [hd] at c0 c1 c2 c3 c4 hkids
  have hg := hp.lt
  have f0 : w.cell? ⟨g, 0, none⟩ = some (.slice (some ⟨gN, 0, none⟩) ns.length c) := by
    obtain ⟨O, m, h1, -⟩ := hp.ex
    exact h1.cell 0
  obtain ⟨sA, hsA⟩ : ∃ sA, d.sA = sA := ⟨_, rfl⟩
  obtain ⟨sc, hsc⟩ : ∃ sc, d.sc = sc := ⟨_, rfl⟩
  obtain ⟨kA, hkA⟩ : ∃ kA, d.kA = kA := ⟨_, rfl⟩
  obtain ⟨kc, hkc⟩ : ∃ kc, d.kc = kc := ⟨_, rfl⟩
  rw [hsA, hsc] at c4
  rw [hkA, hkc] at c1
  rw [hkA] at hkids
  dsimp only at c1 c2 c3 hkids
  have hbX : Below w.heap.size w (w.alloc (.cells #[.int .i64 5, .slice kA 1 kc, .int .i64 (mn : Nat), .int .i64 (-1), .slice sA 0 sc] 94)) := (Below.refl _ _).alloc (Nat.le_refl _) _
  have pX := hp.below hbX
  have qX := QK.of_below hbX hb.size
  have z1 : (k : Int) < (ns.length : Int) := by omega
  have he := vRepN ih mn b hat2 hmn kA kc sA sc _ g ins hkids hBg pX (QK.from hb qX) hsz
  have He := Lib.hid he; have QX := Lib.hid qX
  clear hcell cc hok hp pX hb hbX hat hat2 hn hN qX hkids ih hsz he
  go_enter Tryz.func64, Tryz.ntmps64
  go_wp2_with fail
  refine He.out.mono ?_
  rintro e w2 ⟨rfl, p2, q2⟩
  have P2 := Lib.hid p2; have Q2 := Lib.hid q2
  clear p2 q2
  go_wp2
  go_end0
  exact ⟨rfl, P2.out, QX.out.trans Q2.out⟩
set_option maxRecDepth 100000 in
set_option maxHeartbeats 16000000 in
theorem nodeRepM {F : Nat → Prop} {W0 : World} {B0 : Nat} {A : Option Addr} {c : Nat} {ns : List NodeP} (hN : NodesIs F W0 B0 (.slice A ns.length c) ns) (t : Re) (mn mx : Nat) (hmn : mn ≤ 8) (hmx : mx ≤ 8) (hle : mn ≤ mx) (ih : CodeC W0 A c ns t) : CodeC W0 A c ns (.rep t mn (some mx)) := by
  intro b w g ins hat hBg hp hb hsz
  have hn := last_at (t := .rep t mn (some mx)) (l := t.flat b) rfl (by rw [flat_len]; rfl) hat
  have hat2 : AtN ns b (t.flat b) := AtN.left (m := [_]) hat
  have hkl := (List.getElem?_eq_some_iff.1 hn).1
  obtain ⟨gN, d, rfl, hd, hok, hgN, hcell⟩ := hN.node hn
  obtain ⟨k, hk⟩ : ∃ k, b + Re.cnt (.rep t mn (some mx)) - 1 = k := ⟨_, rfl⟩
  rw [hk] at hn hkl hcell ⊢
  have cc : ∀ j, j < 5 → w.cell? ⟨gN, k * 5 + j, none⟩ = d.cells[j]? := fun j hj => by
    rw [hb.cell (p := ⟨gN, k * 5 + j, none⟩) hgN, hcell j hj]
  have c0 : w.cell? ⟨gN, k * 5, none⟩ = some (.int .i64 (d.n.kind : Nat)) := cc 0 (by omega)
  have c1 : w.cell? ⟨gN, k * 5 + 1, none⟩ = some (.slice d.kA d.n.kids.length d.kc) := cc 1 (by omega)
  have c2 : w.cell? ⟨gN, k * 5 + 2, none⟩ = some (.int .i64 (d.n.mn : Nat)) := cc 2 (by omega)
  have c3 : w.cell? ⟨gN, k * 5 + 3, none⟩ = some (.int .i64 d.n.mx) := cc 3 (by omega)
  have c4 : w.cell? ⟨gN, k * 5 + 4, none⟩ = some (.slice d.sA d.n.set.length d.sc) := cc 4 (by omega)
  have hkids := hok.kids
  rw [hd] at c0 c1 c2 c3 c4 hkids
  have hg := hp.lt
  have f0 : w.cell? ⟨g, 0, none⟩ = some (.slice (some ⟨gN, 0, none⟩) ns.length c) := by
    obtain ⟨O, m, h1, -⟩ := hp.ex
    exact h1.cell 0
  obtain ⟨sA, hsA⟩ : ∃ sA, d.sA = sA := ⟨_, rfl⟩
  obtain ⟨sc, hsc⟩ : ∃ sc, d.sc = sc := ⟨_, rfl⟩
  obtain ⟨kA, hkA⟩ : ∃ kA, d.kA = kA := ⟨_, rfl⟩
  obtain ⟨kc, hkc⟩ : ∃ kc, d.kc = kc := ⟨_, rfl⟩
  rw [hsA, hsc] at c4
  rw [hkA, hkc] at c1
  rw [hkA] at hkids
  dsimp only at c1 c2 c3 hkids
  have hbX : Below w.heap.size w (w.alloc (.cells #[.int .i64 5, .slice kA 1 kc, .int .i64 (mn : Nat), .int .i64 (mx : Nat), .slice sA 0 sc] 94)) := (Below.refl _ _).alloc (Nat.le_refl _) _
  have pX := hp.below hbX
  have qX := QK.of_below hbX hb.size
  have z1 : (k : Int) < (ns.length : Int) := by omega
  have he := vRepM ih mn mx b hat2 hmn hmx hle kA kc sA sc _ g ins hkids hBg pX (QK.from hb qX) hsz
  have He := Lib.hid he; have QX := Lib.hid qX
  clear hcell cc hok hp pX hb hbX hat hat2 hn hN qX hkids ih hsz he
  go_enter Tryz.func64, Tryz.ntmps64
  go_wp2_with fail
  refine He.out.mono ?_
  rintro e w2 ⟨rfl, p2, q2⟩
  have P2 := Lib.hid p2; have Q2 := Lib.hid q2
  clear p2 q2
  go_wp2
  go_end0
  exact ⟨rfl, P2.out, QX.out.trans Q2.out⟩
end Go.Proofs.YtmcacicopgckmaaGreatDoor
/-! autom: alt -/
namespace Go.Proofs.YtmcacicopgckmaaGreatDoor
open Go.RowKit Garner
/-- kids behind a fork and before an out -/
def altP : List Re → Nat → Nat → List InstP
  | [], _, _ => []
  | t :: ts, p, e => ⟨1, p + 1, p + (t.len + 2), []⟩ :: (t.code (p + 1) ++ (⟨1, e, e, []⟩ :: altP ts (p + (t.len + 2)) e))
def altPL : List Re → Nat
  | [] => 0
  | t :: ts => (t.len + 2) + altPL ts
def outP : List Re → Nat → List Nat
  | [], _ => []
  | t :: ts, p => (p + (t.len + 1)) :: outP ts (p + (t.len + 2))
theorem altP_len : ∀ (ts : List Re) (p e : Nat), (altP ts p e).length = altPL ts
  | [], _, _ => rfl
  | t :: ts, p, e => by simp only [altP, altPL, List.length_cons, List.length_append, code_len, altP_len ts]; omega
theorem outP_len : ∀ (ts : List Re) (p : Nat), (outP ts p).length = ts.length
  | [], _ => rfl
  | t :: ts, p => by simp only [outP, List.length_cons, outP_len ts]
theorem altP_snoc : ∀ (ts : List Re) (t : Re) (p e : Nat), altP (ts ++ [t]) p e = altP ts p e ++ (⟨1, p + altPL ts + 1, p + altPL ts + (t.len + 2), []⟩ :: (t.code (p + altPL ts + 1) ++ [⟨1, e, e, []⟩]))
  | [], t, p, e => by simp [altP, altPL]
  | u :: ts, t, p, e => by
    have ih := altP_snoc ts t (p + (u.len + 2)) e
    rw [show p + (u.len + 2) + altPL ts = p + altPL (u :: ts) by rw [altPL]; omega] at ih
    rw [List.cons_append, altP, ih, altP]
    simp
theorem altPL_snoc : ∀ (ts : List Re) (t : Re), altPL (ts ++ [t]) = altPL ts + (t.len + 2)
  | [], t => by simp [altPL]
  | u :: ts, t => by rw [List.cons_append, altPL, altPL_snoc ts t, altPL]; omega
theorem outP_snoc : ∀ (ts : List Re) (t : Re) (p : Nat), outP (ts ++ [t]) p = outP ts p ++ [p + altPL ts + (t.len + 1)]
  | [], t, p => by simp [outP, altPL]
  | u :: ts, t, p => by
    have ih := outP_snoc ts t (p + (u.len + 2))
    rw [show p + (u.len + 2) + altPL ts = p + altPL (u :: ts) by rw [altPL]; omega] at ih
    rw [List.cons_append, outP, ih, outP]; rfl
theorem altC_snoc : ∀ (ts : List Re) (t : Re) (p e : Nat), altC (ts ++ [t]) p e = altP ts p e ++ t.code (p + altPL ts)
  | [], t, p, e => by simp [altP, altPL, altC]
  | [u], t, p, e => by simp [altP, altPL, altC]
  | u :: v :: ts, t, p, e => by
    have ih := altC_snoc (v :: ts) t (p + (u.len + 2)) e
    rw [show p + (u.len + 2) + altPL (v :: ts) = p + altPL (u :: v :: ts) by rw [altPL.eq_def (u :: v :: ts)]; dsimp only; omega] at ih
    show ⟨1, p + 1, p + (u.len + 2), []⟩ :: (u.code (p + 1) ++ (⟨1, e, e, []⟩ :: altC ((v :: ts) ++ [t]) (p + (u.len + 2)) e)) = _
    rw [ih, altP.eq_def (u :: v :: ts)]
    simp
theorem altLen_snoc : ∀ (ts : List Re) (t : Re), altLen (ts ++ [t]) = altPL ts + t.len
  | [], t => by simp [altPL, altLen]
  | [u], t => by simp [altPL, altLen]
  | u :: v :: ts, t => by
    have ih := altLen_snoc (v :: ts) t
    show u.len + 2 + altLen ((v :: ts) ++ [t]) = _
    rw [ih, altPL.eq_def (u :: v :: ts)]
    dsimp only
    omega
end Go.Proofs.YtmcacicopgckmaaGreatDoor
