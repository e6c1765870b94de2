import Derived.Test.YtmcacicopgckmaaGreatDoorLn39
import Derived.Test.YtmcacicopgckmaaGreatDoorLn38
import Derived.Test.YtmcacicopgckmaaGreatDoorLn40
import Derived.Test.YtmcacicopgckmaaGreatDoorLn37
/-! garnerref06: Bytes; garnerref21: plain -/
namespace Garner
open Go
/-- a plain node's text -/
def plS (n : NodeP) : Bs := match litN n with
  | some r => encR r
  | none => []
end Garner
namespace Go.Proofs.YtmcacicopgckmaaGreatDoor
open Go.RowKit Garner
theorem bv_nat {n : Nat} (h : n < 256) : bv n.toUInt8 = .int .u8 (n : Int) := by
  unfold bv
  congr 1
  rw [show n.toUInt8.toNat = n by simp; omega]
def OutB (w : World) (r : Nat) (e : Ending) (w' : World) : Prop := ∃ A n c, e = .returned (.slice A n c) ∧ Bytes w' w'.heap.size A n (encR r) ∧ Below w.heap.size w w'
theorem outB_new (w : World) (r : Nat) (vs : List Value) (k : Nat) (hk : vs.length = k) (h : (encR r).map bv = vs) : OutB w r (.returned (.slice (some ⟨w.heap.size, 0, none⟩) k k)) (w.alloc (.cells vs.toArray 5)) := by
  refine ⟨_, _, _, rfl, ?_, (Below.refl _ _).alloc (Nat.le_refl _) _⟩
  have h1 := row_new w 5 vs
  rw [hk] at h1
  unfold Bytes
  rw [h]
  exact h1.more (by simp)
set_option maxRecDepth 100000 in
set_option maxHeartbeats 16000000 in
theorem gBytes (r : Nat) (w : World) (hr : goodR r) :
    Calls Tryz.prog 62 #[.int .i32 r] w fun e w' => OutB w r e w' := by
  unfold goodR at hr
  go_enter Tryz.func62, Tryz.ntmps62
  have hcase : r < 128 ∨ (128 ≤ r ∧ r < 2048) ∨ (2048 ≤ r ∧ r < 65536) ∨ (65536 ≤ r ∧ r ≤ 1114111) := by omega
  rcases hcase with h | h | h | h
  · have z1 : (r : Int) < 128 := by omega
    go_wp2
    go_ret
    exact outB_new w r [.int .u8 (r : Int)] 1 rfl (by rw [encR_one h]; simp only [List.map_cons, List.map_nil]; rw [bv_nat (by omega)])
  · have z1 : ¬ (r : Int) < 128 := by omega
    have z2 : (r : Int) < 2048 := by omega
    go_wp2
    go_ret
    exact outB_new w r [.int .u8 (192 + (r : Int) / 64), .int .u8 (128 + (r : Int) % 64)] 2 rfl (by
      rw [encR_two h]; simp only [List.map_cons, List.map_nil]; rw [bv_nat (by omega), bv_nat (by omega)]
      simp)
  · have z1 : ¬ (r : Int) < 128 := by omega
    have z2 : ¬ (r : Int) < 2048 := by omega
    have z3 : (r : Int) < 65536 := by omega
    go_wp2
    go_ret
    exact outB_new w r [.int .u8 (224 + (r : Int) / 4096), .int .u8 (128 + (r : Int) / 64 % 64), .int .u8 (128 + (r : Int) % 64)] 3 rfl (by
      rw [encR_three h (by omega)]; simp only [List.map_cons, List.map_nil]; rw [bv_nat (by omega), bv_nat (by omega), bv_nat (by omega)]
      simp)
  · have z1 : ¬ (r : Int) < 128 := by omega
    have z2 : ¬ (r : Int) < 2048 := by omega
    have z3 : ¬ (r : Int) < 65536 := by omega
    go_wp2
    go_ret
    exact outB_new w r [.int .u8 (240 + (r : Int) / 262144), .int .u8 (128 + (r : Int) / 4096 % 64), .int .u8 (128 + (r : Int) / 64 % 64), .int .u8 (128 + (r : Int) % 64)] 4 rfl (by
      rw [encR_four h]; simp only [List.map_cons, List.map_nil]; rw [bv_nat (by omega), bv_nat (by omega), bv_nat (by omega), bv_nat (by omega)]
      simp)
theorem plS_some {n : NodeP} {r : Nat} (h : litN n = some r) : plS n = encR r := by unfold plS; rw [h]
theorem plS_none {n : NodeP} (h : litN n = none) : plS n = [] := by unfold plS; rw [h]
set_option maxRecDepth 100000 in
set_option maxHeartbeats 8000000 in
theorem gPlain (n : NodeP) (kA sA : Option Addr) (kl kc sc : Nat) (Q : Nat) (hQ : n.set.length = Q) (w : World) (hs : RowT w 21 sA Q (n.set.map rv)) (hg : ∀ r, litN n = some r → goodR r) :
    Calls Tryz.prog 59 #[.agg #[.int .i64 (n.kind : Nat), .slice kA kl kc, .int .i64 (n.mn : Nat), .int .i64 n.mx, .slice sA Q sc]] w fun e w' => e = .returned (str (plS n)) ∧ Below w.heap.size w w' := by
  obtain ⟨K, hK⟩ : ∃ K, n.kind = K := ⟨_, rfl⟩
  obtain ⟨mn, hmn⟩ : ∃ mn, n.mn = mn := ⟨_, rfl⟩
  obtain ⟨mx, hmx⟩ : ∃ mx, n.mx = mx := ⟨_, rfl⟩
  obtain ⟨ANS, hA⟩ : ∃ ANS, plS n = ANS := ⟨_, rfl⟩
  rw [hK, hmn, hmx, hA]
  obtain ⟨X, hX⟩ : ∃ X, X = w.alloc (.cells #[.int .i64 K, .slice kA kl kc, .int .i64 mn, .int .i64 mx, .slice sA Q sc] 94) := ⟨_, rfl⟩
  have hbX : Below w.heap.size w X := by rw [hX]; exact (Below.refl _ _).alloc (Nat.le_refl _) _
  have bX : Blk X w.heap.size 94 [.int .i64 K, .slice kA kl kc, .int .i64 mn, .int .i64 mx, .slice sA Q sc] := by rw [hX]; exact Blk.new w _ _
  have x0 : X.cell? ⟨w.heap.size, 0, none⟩ = some (.int .i64 K) := bX.cell 0
  have x4 : X.cell? ⟨w.heap.size, 4, none⟩ = some (.slice sA Q sc) := bX.cell 4
  have hset := hs.below hbX
  have HbX := Lib.hid hbX; have HK := Lib.hid hK; have HQ := Lib.hid hQ; have Hset := Lib.hid hset; have HA := Lib.hid hA; have HG := Lib.hid hg
  have HxD : ∀ q, (X.drewN q).cell? ⟨w.heap.size, 4, none⟩ = some (.slice sA Q sc) := fun q => x4
  clear hs hK hQ hset hA hg bX hbX hmn hmx
  go_enter Tryz.func59, Tryz.ntmps59
  go_upto_region 1 with fail
  rw [← hX]
  clear hX
  by_cases hk2 : K = 2
  · subst hk2
    by_cases hq2 : Q = 2
    · subst hq2
      obtain ⟨a, b, hab⟩ : ∃ a b, n.set = [a, b] := by
        have := HQ.out
        match h : n.set, this with
        | [a, b], _ => exact ⟨a, b, rfl⟩
      have hl := litN_two HK.out hab
      obtain ⟨bs, os, rfl, ca⟩ := Hset.out.at_ (k := 0) (u := rv a) (by rw [hab]; rfl)
      obtain ⟨bs', os', e', cb⟩ := Hset.out.at_ (k := 1) (u := rv b) (by rw [hab]; rfl)
      cases e'
      have ca' : X.cell? ⟨bs, os, none⟩ = some (.int .i32 a) := ca
      have cb' : X.cell? ⟨bs, os + 1, none⟩ = some (.int .i32 b) := cb
      have HaD : ∀ q, (X.drewN q).cell? ⟨bs, os, none⟩ = some (.int .i32 a) := fun q => ca'
      clear Hset HK HQ hab ca cb
      by_cases he : a = b
      · subst he
        by_cases hf : a = 65533
        · subst hf
          rw [if_neg (by simp)] at hl
          obtain rfl : ANS = [] := by rw [← HA.out]; exact plS_none hl
          clear HA hl HG
          go_quiet (fail)
          go_wp2
          go_ret
          exact ⟨rfl, below_drewN HbX.out _⟩
        · rw [if_pos ⟨rfl, hf⟩] at hl
          obtain rfl : ANS = encR a := by rw [← HA.out]; exact plS_some hl
          have z5 : ((a : Int) == 65533) = false := by simp; omega
          have z6 : ¬ (a : Int) = 65533 := by omega
          have hgb := fun q => gBytes a (X.drewN q) (HG.out a hl)
          have HGB := Lib.hid hgb
          clear hf HA hl HG hgb
          go_quiet (fail)
          go_wp2_with fail
          refine (HGB.out _).mono ?_
          rintro e w3 ⟨A3, n3, c3, rfl, hby, hb3⟩
          have hst := run_str (c := c3) hby
          have HB3 := Lib.hid ((below_drewN HbX.out _).trans (hb3.mono (below_drewN HbX.out _).size))
          clear hby hb3
          go_wp2
          go_ret
          exact ⟨rfl, HB3.out⟩
      · rw [if_neg (fun h => he h.1)] at hl
        obtain rfl : ANS = [] := by rw [← HA.out]; exact plS_none hl
        have z5 : ((a : Int) == (b : Int)) = false := by simp; omega
        have z6 : ¬ (a : Int) = (b : Int) := by omega
        clear he HA hl HG
        go_quiet (fail)
        go_wp2
        go_ret
        exact ⟨rfl, below_drewN HbX.out _⟩
    · obtain rfl : ANS = [] := by rw [← HA.out]; exact plS_none (litN_none_len (by rw [HQ.out]; exact hq2))
      have z5 : ((Q : Int) == 2) = false := by simp; omega
      have z6 : ¬ (Q : Int) = 2 := by omega
      clear HQ hq2 Hset HK HA HG
      go_quiet (fail)
      go_wp2
      go_ret
      exact ⟨rfl, below_drewN HbX.out _⟩
  · obtain rfl : ANS = [] := by rw [← HA.out]; exact plS_none (litN_none_kind (by rw [HK.out]; exact hk2))
    have z5 : ((K : Int) == 2) = false := by simp; omega
    have z6 : ¬ (K : Int) = 2 := by omega
    clear HK hk2 Hset HQ HA HG
    go_quiet (fail)
    go_wp2
    go_ret
    exact ⟨rfl, below_drewN HbX.out _⟩
end Go.Proofs.YtmcacicopgckmaaGreatDoor

/-! text: runs in memory -/
namespace Go.Proofs.YtmcacicopgckmaaGreatDoor
open Go.RowKit Garner
/-- a run, and where its word lies -/
structure RunD where
  p : RunP
  A : Option Addr
  c : Nat
def RunD.cells (d : RunD) : List Value := [.slice d.A d.p.word.length d.c, .int .i64 d.p.fr, .int .i64 d.p.to]
def RunD.v (d : RunD) : Value := .slice d.A d.p.word.length d.c
theorem runE : Elem Tryz.prog 99 102 (.agg #[.slice none 0 0, .int .i64 0, .int .i64 0]) 3 40 := ⟨Tryz.underlying99, by kernel_rfl, rfl, by omega, by omega⟩
/-- no two words lie in one block -/
def Apart (a b : RunD) : Prop := ∀ k, a.v.ownBlock = some k → b.v.ownBlock = some k → False
structure RunsD (B : Nat) (w : World) (v : Value) (ds : List RunD) : Prop where
  own : w.ownsRow B 102 3 v ds.length (ds.flatMap RunD.cells)
  word : ∀ d ∈ ds, w.ownsRow B 21 1 d.v d.p.word.length (d.p.word.map rv)
  apart : ds.Pairwise Apart
theorem RunsD.below {B : Nat} {w w' : World} {v : Value} {ds : List RunD} (h : RunsD B w v ds) (hb : Below w.heap.size w w') : RunsD B w' v ds := ⟨own_below h.own hb, fun d hd => own_below (h.word d hd) hb, h.apart⟩
theorem RunsD.iterAt {B : Nat} {w : World} {v : Value} {ds : List RunD} (h : RunsD B w v ds) {k : Nat} {s : ByteArray} {pos pos' : Nat} (hk : w.heap[k]? = some (.stringIter s pos)) : RunsD B (w.iterAt k s pos') v ds := ⟨own_iterAt h.own hk, fun d hd => own_iterAt (h.word d hd) hk, h.apart⟩
theorem RunsD.nil (B : Nat) (w : World) : RunsD B w (.slice none 0 0) [] := ⟨World.ownsRow_nil _ _ _ _, by simp, .nil⟩
theorem run_at {ds : List RunD} {k : Nat} {d : RunD} (h : ds[k]? = some d) (j : Nat) (hj : j < 3) : (ds.flatMap RunD.cells)[k * 3 + j]? = d.cells[j]? := by
  induction ds generalizing k with
  | nil => simp at h
  | cons x ds ih =>
    have hl : x.cells.length = 3 := rfl
    cases k with
    | zero =>
      simp at h; subst h
      rw [List.flatMap_cons, List.getElem?_append_left (by omega), Nat.zero_mul, Nat.zero_add]
    | succ k =>
      have := ih (by simpa using h)
      rw [List.flatMap_cons, List.getElem?_append_right (by omega), hl, show (k + 1) * 3 + j - 3 = k * 3 + j by omega]
      exact this
theorem run_set (ds : List RunD) (d d' : RunD) (j : Nat) (u : Value) (hj : j < 3) (hc : d'.cells = d.cells.set j u) : ((ds ++ [d]).flatMap RunD.cells).set (ds.length * 3 + j) u = (ds ++ [d']).flatMap RunD.cells := by
  have hlen : ∀ ds : List RunD, (ds.flatMap RunD.cells).length = ds.length * 3 := fun ds => by
    induction ds with
    | nil => rfl
    | cons x ds ih =>
      have hl : x.cells.length = 3 := rfl
      rw [List.flatMap_cons, List.length_append, ih, hl, List.length_cons]; omega
  rw [List.flatMap_append, List.flatMap_append, List.set_append, if_neg (by rw [hlen]; omega), hlen, show ds.length * 3 + j - ds.length * 3 = j by omega]
  simp [hc]
/-- a new run behind the others -/
theorem RunsD.push {B : Nat} {w w' : World} {v v' : Value} {ds : List RunD} {p : RunP} (h : RunsD B w v ds) (ho : w'.ownsRow B 102 3 v' (ds.length + 1) (ds.flatMap RunD.cells ++ (⟨p, none, 0⟩ : RunD).cells)) (hg : w.grownBy w' v.ownBlock) (hp : p.word = []) : RunsD B w' v' (ds ++ [⟨p, none, 0⟩]) := by
  refine ⟨by rw [List.length_append, List.flatMap_append]; simpa using ho, fun d hd => ?_, ?_⟩
  · rcases List.mem_append.1 hd with hd | hd
    · refine own_grown (h.word d hd) hg ?_
      rcases hb : d.v.ownBlock with _ | k
      · exact .inl rfl
      · refine .inr fun e => ?_
        have := own_own h.own (h.word d hd) (by decide) k hb
        rw [← e] at this
        simp at this
    · rw [List.mem_singleton.1 hd]
      show w'.ownsRow B _ 1 (.slice none p.word.length 0) p.word.length (p.word.map rv)
      rw [hp]
      exact World.ownsRow_nil _ _ _ _
  · rw [List.pairwise_append]
    refine ⟨h.apart, by simp, fun a ha b hb k h1 h2 => ?_⟩
    rw [List.mem_singleton.1 hb] at h2
    cases h2
/-- the last one's word is another row -/
theorem RunsD.put {B : Nat} {w w2 : World} {gL cap : Nat} {ds : List RunD} {d : RunD} (h : RunsD B w (.slice (some ⟨gL, 0, none⟩) (ds.length + 1) cap) (ds ++ [d])) {A' : Option Addr} {n' c' : Nat} {word' : List Nat}
    (hg : w.grownBy w2 d.v.ownBlock) (ho : w2.ownsRow B 21 1 (.slice A' n' c') n' (word'.map rv)) (hn : word'.length = n') (hv : (Value.slice A' n' c').ownBlock = d.v.ownBlock ∨ ∃ k, (Value.slice A' n' c').ownBlock = some k ∧ w.heap.size ≤ k) :
    RunsD B (w2.setCell ⟨gL, ds.length * 3, none⟩ (.slice A' n' c')) (.slice (some ⟨gL, 0, none⟩) (ds.length + 1) cap) (ds ++ [⟨⟨word', d.p.fr, d.p.to⟩, A', c'⟩]) := by
  have hl : (ds ++ [d]).length = ds.length + 1 := by simp
  have hown := h.own
  rw [hl] at hown
  have hdw := h.word d (by simp)
  have o1 : w2.ownsRow B 102 3 (.slice (some ⟨gL, 0, none⟩) (ds.length + 1) cap) (ds.length + 1) ((ds ++ [d]).flatMap RunD.cells) := own_grown hown hg (by
    rcases hb : (Value.slice (some ⟨gL, 0, none⟩) (ds.length + 1) cap).ownBlock with _ | k
    · exact .inl rfl
    · refine .inr fun e => ?_
      have := own_own hdw hown (by decide) k hb
      rw [← e] at this
      simp at this)
  have o2 := (o1.stored (ds.length * 3) (.slice A' n' c')).1
  rw [show ds.length * 3 = ds.length * 3 + 0 by omega, run_set ds d ⟨⟨word', d.p.fr, d.p.to⟩, A', c'⟩ 0 _ (by omega) (by simp [RunD.cells, hn])] at o2
  have hbut : But [gL] w2 (w2.setCell ⟨gL, ds.length * 3, none⟩ (.slice A' n' c')) := (But.refl _ _).setCell (by simp) _
  have keep : ∀ {v : Value} {n : Nat} {xs : List Value}, w2.ownsRow B 21 1 v n xs → (w2.setCell ⟨gL, ds.length * 3, none⟩ (.slice A' n' c')).ownsRow B 21 1 v n xs := fun hx => own_but hx hbut fun g hg2 hm => by
    have := own_own o1 hx (by decide) g hg2
    simp only [List.mem_singleton] at hm
    subst hm
    exact this (by show _ ∈ [g]; simp)
  refine ⟨by rw [List.length_append]; exact o2, fun x hx => ?_, ?_⟩
  · rcases List.mem_append.1 hx with hx | hx
    · refine keep (own_grown (h.word x (by simp [hx])) hg ?_)
      rcases hb : x.v.ownBlock with _ | k
      · exact .inl rfl
      · refine .inr fun e => ?_
        have := (List.pairwise_append.1 h.apart).2.2 x hx d (by simp) k hb e.symm
        exact this
    · rw [List.mem_singleton.1 hx]
      show (w2.setCell _ _).ownsRow B _ 1 (.slice A' word'.length c') word'.length (word'.map rv)
      rw [hn]
      exact keep ho
  · rw [List.pairwise_append]
    refine ⟨(List.pairwise_append.1 h.apart).1, by simp, fun a ha b hb k h1 h2 => ?_⟩
    rw [List.mem_singleton.1 hb] at h2
    have h2' : (Value.slice A' n' c').ownBlock = some k := by rw [← hn]; exact h2
    rcases hv with hv | ⟨k', hv, hk⟩
    · rw [hv] at h2'
      exact (List.pairwise_append.1 h.apart).2.2 a ha d (by simp) k h1 h2'
    · rw [hv] at h2'
      injection h2' with h2'
      have := ((h.word a (by simp [ha])).lt k h1).2
      omega
/-- the last one ends elsewhere -/
theorem RunsD.end_ {B : Nat} {w : World} {gL cap t : Nat} {ds : List RunD} {d : RunD} (h : RunsD B w (.slice (some ⟨gL, 0, none⟩) (ds.length + 1) cap) (ds ++ [d])) :
    RunsD B (w.setCell ⟨gL, ds.length * 3 + 2, none⟩ (.int .i64 t)) (.slice (some ⟨gL, 0, none⟩) (ds.length + 1) cap) (ds ++ [⟨⟨d.p.word, d.p.fr, t⟩, d.A, d.c⟩]) := by
  have hl : (ds ++ [d]).length = ds.length + 1 := by simp
  have hown := h.own
  rw [hl] at hown
  have o2 := (hown.stored (ds.length * 3 + 2) (.int .i64 t)).1
  rw [run_set ds d ⟨⟨d.p.word, d.p.fr, t⟩, d.A, d.c⟩ 2 _ (by omega) (by simp [RunD.cells])] at o2
  have hbut : But [gL] w (w.setCell ⟨gL, ds.length * 3 + 2, none⟩ (.int .i64 t)) := (But.refl _ _).setCell (by simp) _
  have keep : ∀ {v : Value} {n : Nat} {xs : List Value}, w.ownsRow B 21 1 v n xs → (w.setCell ⟨gL, ds.length * 3 + 2, none⟩ (.int .i64 t)).ownsRow B 21 1 v n xs := fun hx => own_but hx hbut fun g hg2 hm => by
    have := own_own hown hx (by decide) g hg2
    simp only [List.mem_singleton] at hm
    subst hm
    exact this (by show _ ∈ [g]; simp)
  refine ⟨by rw [List.length_append]; exact o2, fun x hx => ?_, ?_⟩
  · rcases List.mem_append.1 hx with hx | hx
    · exact keep (h.word x (by simp [hx]))
    · rw [List.mem_singleton.1 hx]
      exact keep (h.word d (by simp))
  · rw [List.pairwise_append]
    refine ⟨(List.pairwise_append.1 h.apart).1, by simp, fun a ha b hb k h1 h2 => ?_⟩
    rw [List.mem_singleton.1 hb] at h2
    exact (List.pairwise_append.1 h.apart).2.2 a ha d (by simp) k h1 h2
/-- what the last one's cells hold -/
theorem RunsD.look {B : Nat} {w : World} {v : Value} {ds : List RunD} {d : RunD} (h : RunsD B w v (ds ++ [d])) : ∃ gL cap, v = .slice (some ⟨gL, 0, none⟩) (ds.length + 1) cap ∧ B ≤ gL ∧ gL < w.heap.size ∧ ds.length + 1 ≤ cap ∧ w.cell? ⟨gL, ds.length * 3, none⟩ = some (.slice d.A d.p.word.length d.c) ∧ w.cell? ⟨gL, ds.length * 3 + 2, none⟩ = some (.int .i64 d.p.to) ∧ w.frozen? ⟨gL, ds.length * 3, none⟩ = false ∧ w.frozen? ⟨gL, ds.length * 3 + 2, none⟩ = false := by
  have hl : (ds ++ [d]).length = ds.length + 1 := by simp
  have hown := h.own
  rw [hl] at hown
  obtain ⟨A, c, rfl, hc⟩ := own_form hown
  obtain ⟨gL, rfl, hB, hg, -, -, hcell⟩ := own_at hown (by omega)
  have hd : (ds ++ [d])[ds.length]? = some d := by simp
  exact ⟨gL, c, rfl, hB, hg, hc, by rw [hcell _ (by omega)]; exact run_at hd 0 (by omega), by rw [hcell _ (by omega)]; exact run_at hd 2 (by omega), hown.frozenAt _, hown.frozenAt _⟩
end Go.Proofs.YtmcacicopgckmaaGreatDoor

