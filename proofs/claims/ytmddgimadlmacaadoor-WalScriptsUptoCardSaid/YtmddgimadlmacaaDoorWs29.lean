import Derived.Test.YtmddgimadlmacaaDoorWs23
import Derived.Test.YtmddgimadlmacaaDoorWs24
import Derived.Test.YtmddgimadlmacaaDoorWs28
import Derived.Test.YtmddgimadlmacaaDoorWs08
import Derived.Test.YtmddgimadlmacaaDoorWs22
import Derived.Deep.DeepCutAuto
import Derived.Outline
/-! layer 10: names, what bytes hold -/
namespace Go.Proofs.YtmddgimadlmacaaDoor
open Go.RowKit Garner

/-- name n can be made here -/
def NmAt (w : World) (n : Nat) : Prop := Calls Tryd.prog 19 #[.int .i64 n] w fun e w' => e = .returned (.string (nmS (walNm n))) ∧ Below w.heap.size w w'
/-- the names up to m can be made, whatever is done from B on -/
def Nms (B : Nat) (w : World) (m : Nat) : Prop := ∀ n w', 1 ≤ n → n ≤ m → Below B w w' → NmAt w' n
theorem Nms.below {B m : Nat} {w w' : World} (h : Nms B w m) (hb : Below B w w') : Nms B w' m := fun n x h1 h2 h3 => h n x h1 h2 (hb.trans h3)
theorem Nms.mono {B m m' : Nat} {w : World} (h : Nms B w m) (hm : m' ≤ m) : Nms B w m' := fun n x h1 h2 h3 => h n x h1 (Nat.le_trans h2 hm) h3
theorem wal_str (n : Nat) : (⟨#[119, 97, 108, 45]⟩ : ByteArray) ++ ⟨(Lib.decDigits n).toArray⟩ = nmS (walNm n) := by
  apply ByteArray.ext
  simp [walNm]
theorem vNm_small (n : Nat) (w : World) (h1 : 1 ≤ (n : Int)) (h2 : (n : Int) < 100) : NmAt w n := by
  have h2' : n < 100 := by omega
  have d1 : decide ((n : Int) < 1) = false := decide_eq_false (by omega)
  have d2 : decide ((n : Int) > 1000000000) = false := decide_eq_false (by omega)
  have hsz : ¬ 9223372036854775807 < 4 + (Lib.decDigits n).length := by have := dec_len (n := n) (by omega); omega
  have hs := wal_str n
  have Hs := Lib.hid hs
  clear hs
  unfold NmAt
  go_enter Tryd.func19, Tryd.ntmps19
  go_wp2_with fail
  refine (Tryd.strconv_Itoa_small n h2' w).mono ?_
  rintro e w' ⟨rfl, rfl⟩
  go_wp2
  go_ret
  refine ⟨?_, Below.refl _ _⟩
  rw [← Hs.out]; rfl
theorem nms_small (B : Nat) (w : World) {m : Nat} (hm : m < 100) : Nms B w m := fun n w' h1 h2 _ => vNm_small n w' (by omega) (by omega)
theorem vNm_none (n : Int) (w : World) (h : n < 1 ∨ 1000000000 < n) : Calls Tryd.prog 19 #[.int .i64 n] w fun e w' => e = .returned (.string .empty) ∧ w' = w := by
  by_cases h1 : n < 1
  · have d1 : decide (n < 1) = true := decide_eq_true h1
    clear h
    go_enter Tryd.func19, Tryd.ntmps19
    go_wp2
    go_ret
    exact ⟨rfl, rfl⟩
  · have d1 : decide (n < 1) = false := decide_eq_false h1
    have d2 : decide (n > 1000000000) = true := decide_eq_true (by omega)
    clear h
    go_enter Tryd.func19, Tryd.ntmps19
    go_wp2
    go_ret
    exact ⟨rfl, rfl⟩
/-! rows of bytes of the call's own -/
theorem rowsE : Elem Tryd.prog 22 23 (.slice none 0 0) 1 24 := ⟨Tryd.underlying22, by kernel_rfl, rfl, by omega, by omega⟩
theorem bys_one (ps : List ByS) : ∀ u ∈ ps.map ByS.v, u.oneCell' = true := by
  intro u hu; obtain ⟨c, _, rfl⟩ := List.mem_map.1 hu; rfl
structure Pays (w : World) (B : Nat) (v : Value) (ps : List ByS) : Prop where
  own : w.ownsRow B 23 1 v ps.length (ps.map ByS.v)
  all : ∀ p ∈ ps, OwnB w B p.v p.data
theorem Pays.below {w w' : World} {B : Nat} {v : Value} {ps : List ByS} (h : Pays w B v ps) (hb : Below w.heap.size w w') : Pays w' B v ps :=
  ⟨own_below h.own hb, fun p hp => own_below (h.all p hp) hb⟩
theorem Pays.mono {w : World} {B B' : Nat} {v : Value} {ps : List ByS} (h : Pays w B v ps) (hB : B' ≤ B) : Pays w B' v ps :=
  ⟨own_mono h.own hB, fun p hp => own_mono (h.all p hp) hB⟩
theorem Pays.nil (w : World) (B : Nat) : Pays w B (.slice none 0 0) [] := ⟨World.ownsRow_nil _ _ _ _, by simp⟩
/-- worlds that differ in blocks that are elder -/
theorem Pays.but {S : List Nat} {w w' : World} {B : Nat} {v : Value} {ps : List ByS} (h : Pays w B v ps) (hb : But S w w') (hS : ∀ k ∈ S, k < B ∨ w.heap.size ≤ k) : Pays w' B v ps :=
  ⟨own_but h.own hb (fun g hg hm => by have := h.own.lt g hg; have := hS g hm; omega), fun p hp => own_but (h.all p hp) hb (fun g hg hm => by have := (h.all p hp).lt g hg; have := hS g hm; omega)⟩
/-- what an append onto the row leaves of the pieces -/
theorem pay_grown {w w' : World} {B B' sz n : Nat} {v : Value} {xs : List Value} {p : ByS} (h : OwnB w B p.v p.data) (hv : w.ownsRow B' 23 sz v n xs) (hg : w.grownBy w' v.ownBlock) : OwnB w' B p.v p.data := by
  refine own_grown h hg ?_
  by_cases e : p.v.ownBlock = none
  · exact Or.inl e
  · refine Or.inr fun e2 => ?_
    obtain ⟨q, hq⟩ := Option.ne_none_iff_exists'.1 e
    have h1 := own_own h hv (by decide) q (by rw [← e2]; exact hq)
    rw [hq] at h1
    exact h1 (by simp)
theorem Pays.snoc {w w' : World} {B : Nat} {v v' : Value} {ps : List ByS} {p : ByS} (h : Pays w B v ps) (hp : OwnB w B p.v p.data) (hg : w.grownBy w' v.ownBlock) (ho : w'.ownsRow B 23 1 v' (ps.length + 1) (ps.map ByS.v ++ [p.v])) : Pays w' B v' (ps ++ [p]) := by
  refine ⟨by simpa using ho, fun q hq => ?_⟩
  rcases List.mem_append.1 hq with hq | hq
  · exact pay_grown (h.all q hq) h.own hg
  · rw [List.mem_singleton] at hq; subst hq
    exact pay_grown hp h.own hg
theorem Pays.app {w w' : World} {B : Nat} {v v' : Value} {ps qs : List ByS} (h : Pays w B v ps) (hq : ∀ p ∈ qs, OwnB w B p.v p.data) (hg : w.grownBy w' v.ownBlock) (ho : w'.ownsRow B 23 1 v' (ps.length + qs.length) (ps.map ByS.v ++ qs.map ByS.v)) : Pays w' B v' (ps ++ qs) := by
  refine ⟨by simpa using ho, fun q hq' => ?_⟩
  rcases List.mem_append.1 hq' with hq' | hq'
  · exact pay_grown (h.all q hq') h.own hg
  · exact pay_grown (hq q hq') h.own hg
theorem held_go {b p : Bs} {k k' : Nat} (h : fread b k = .ok (p, k')) : heldA (b.length + 1) b k = p :: heldA (b.length + 1) b k' := by
  have := fread_next h
  rw [heldA_ok h, heldA_fuel b.length (b.length + 1) b k' (by omega) (by omega)]
set_option maxRecDepth 100000 in
set_option maxHeartbeats 4000000 in
theorem vHeld (b : Bs) (A : Option Addr) (c B : Nat) (w : World) (hr : Bytes w B A b.length b) (hB : B ≤ w.heap.size) (hc : b.length ≤ c) (hl : b.length ≤ 140737488355328) (hn : (held b).length * 24 ≤ 140737488355328) :
    Calls Tryd.prog 43 #[.slice A b.length c] w fun e w' => ∃ v ps, e = .returned v ∧ Pays w' w.heap.size v ps ∧ ps.map (·.data) = held b ∧ Below w.heap.size w w' := by
  obtain ⟨hh, hhe⟩ : ∃ h, h = held b := ⟨_, rfl⟩
  rw [← hhe] at hn ⊢
  unfold held at hhe
  have Hh := Lib.hid hhe
  clear hhe
  go_enter Tryd.func43, Tryd.ntmps43
  go_wp2_with fail
  go_loopw [3, 4] (fun v i wr => ∃ (ps : List ByS) (k : Nat), i = .int .i64 k ∧ k ≤ b.length ∧ Pays wr w.heap.size v ps ∧ Hid (hh = ps.map (·.data) ++ heldA (b.length + 1) b k) ∧ Below w.heap.size w wr) (fun _ i _ => b.length - (intOf i).toNat)
  case atStart => exact ⟨[], 0, rfl, Nat.zero_le _, Pays.nil _ _, Lib.hid (by rw [Hh.out]; rfl), Below.refl _ _⟩
  case round =>
    clear Hh
    obtain ⟨ps, k, rfl, hk, hp, H, hb⟩ := hrel
    obtain ⟨wo, rfl⟩ : ∃ wo : World, wo = wr := ⟨_, rfl⟩
    go_wp2_with fail
    refine (vRead b A c B wo k (hr.below (hb.mono hB)) (Nat.le_trans hB hb.size) hc hk hl).mono ?_
    rintro e w1 hpost
    cases hf : fread b k with
    | error er =>
      rw [hf] at hpost
      obtain ⟨rfl, hb1⟩ := hpost
      have hz : ((er : Int) != 0) = true := by
        rw [bne_iff_ne]
        intro h0
        have h0' : er = 0 := by omega
        subst h0'
        unfold fread at hf
        split at hf
        · rename_i e1 he1; have := vget_err he1; injection hf with hf; omega
        · split at hf
          · injection hf with hf; omega
          · split at hf
            · injection hf with hf; omega
            · split at hf
              · cases hf
              · injection hf with hf; omega
      have hgo : Hid (hh = ps.map (·.data)) := Lib.hid (by rw [H.out, heldA_err hf, List.append_nil])
      clear H hf
      have hp1 := hp.below hb1
      have hb01 := hb.trans (hb1.mono hb.size)
      clear hp hb hb1
      go_wp2
      go_ret
      exact ⟨_, ps, rfl, hp1, hgo.out.symm, hb01⟩
    | ok r =>
      obtain ⟨p, kx⟩ := r
      rw [hf] at hpost
      obtain ⟨v1, rfl, hown1, hb1⟩ := hpost
      have hnx := fread_next hf
      have hgo : Hid (hh = (ps.map (·.data) ++ [p]) ++ heldA (b.length + 1) b kx) := Lib.hid (by rw [H.out, held_go hf]; simp)
      have hcnt : (ps.length + 1) * 24 ≤ 140737488355328 := by
        have := congrArg List.length hgo.out
        simp only [List.length_append, List.length_map, List.length_cons, List.length_nil] at this
        omega
      clear H hf
      have hp1 := hp.below hb1
      have hb01 := hb.trans (hb1.mono hb.size)
      obtain ⟨A1, c1, rfl, _⟩ := own_form hown1
      have hq1 : OwnB w1 w.heap.size (ByS.v ⟨A1, c1, p⟩) p := own_mono hown1 hb.size
      have hs01 := hb01.size
      obtain ⟨n1, hn1⟩ : ∃ n, n = p.length := ⟨_, rfl⟩
      clear hp hb hb1 hown1
      go_wp2_with (at_builtin; refine wpList_app _ rfl rowsE rfl rfl (hp1.own.alloc _) rfl (row_new w1 _ [_]) (by simp [Value.oneCell']) (by simpa using hcnt) (by simp; omega) ?_; intro v4 w4 hown4 hg4 hb4 hx4)
      have hbX : Below w1.heap.size w1 (w1.alloc (.cells #[.slice A1 p.length c1] 23)) := (Below.refl _ _).alloc (Nat.le_refl _) _
      have hp4 := (hp1.below hbX).snoc (own_below hq1 hbX) hg4 hown4
      have hb04 := (hb01.trans (hbX.mono hs01)).trans hb4
      go_roundw
      case rel => exact ⟨ps ++ [⟨A1, c1, p⟩], kx, rfl, by omega, hp4, Lib.hid (by rw [hgo.out]; simp), hb04⟩
      case measure => simp [intOf]; omega
end Go.Proofs.YtmddgimadlmacaaDoor
namespace Go.Proofs.YtmddgimadlmacaaDoor
open Go.RowKit Garner

/-- what Open finds from file n on: an error, the number at which it ends, the payloads -/
def wScan (d : AD) : Nat → Nat → Nat × Nat × List Bs
  | 0, n => (3, n, [])
  | f + 1, n =>
    if (aRead (walNm n) d).2 = 21 then (0, n, [])
    else if (aRead (walNm n) d).2 ≠ 0 then ((aRead (walNm n) d).2, n, [])
    else ((wScan d f (n + 1)).1, (wScan d f (n + 1)).2.1, held (aRead (walNm n) d).1 ++ (wScan d f (n + 1)).2.2)
def wOpen (first : Nat) (d : AD) : Nat × Nat × List Bs := wScan d (1000000001 - first) first
theorem wOpen_none {n : Nat} {d : AD} (hn : n ≤ 1000000000) (h : (aRead (walNm n) d).2 = 21) : wOpen n d = (0, n, []) := by
  unfold wOpen
  rw [show 1000000001 - n = (1000000000 - n) + 1 by omega, wScan, if_pos h]
theorem wOpen_err {n : Nat} {d : AD} (hn : n ≤ 1000000000) (h : (aRead (walNm n) d).2 ≠ 21) (h' : (aRead (walNm n) d).2 ≠ 0) : wOpen n d = ((aRead (walNm n) d).2, n, []) := by
  unfold wOpen
  rw [show 1000000001 - n = (1000000000 - n) + 1 by omega, wScan, if_neg h, if_pos h']
theorem wOpen_go {n : Nat} {d : AD} (hn : n ≤ 1000000000) (h : (aRead (walNm n) d).2 = 0) : wOpen n d = ((wOpen (n + 1) d).1, (wOpen (n + 1) d).2.1, held (aRead (walNm n) d).1 ++ (wOpen (n + 1) d).2.2) := by
  unfold wOpen
  rw [show 1000000001 - n = (1000000001 - (n + 1)) + 1 by omega, wScan, if_neg (by rw [h]; decide), if_neg (by rw [h]; decide)]
theorem wOpen_last (d : AD) : wOpen 1000000001 d = (3, 1000000001, []) := rfl
theorem wScan_ge (d : AD) : ∀ (f n : Nat), n ≤ (wScan d f n).2.1
  | 0, n => Nat.le_refl _
  | f + 1, n => by
    rw [wScan]
    split
    · exact Nat.le_refl _
    · split
      · exact Nat.le_refl _
      · have := wScan_ge d f (n + 1)
        simp only
        omega
theorem wOpen_ge (n : Nat) (d : AD) : n ≤ (wOpen n d).2.1 := wScan_ge d _ n
/-- a log lies at gl -/
abbrev logV (g first n : Nat) (wr : Bool) : List Value := [.pointer (some ⟨g, 0, none⟩), .int .i64 first, .int .i64 n, .bool wr]
def OpenPost (w : World) (g first : Nat) (r : Nat × Nat × List Bs) (e : Ending) (w' : World) : Prop :=
  Below w.heap.size w w' ∧
  ((r.1 ≠ 0 ∧ e = .returned (.tuple #[.pointer none, .slice none 0 0, .int .i64 r.1])) ∨
   (r.1 = 0 ∧ ∃ gl v ps, e = .returned (.tuple #[.pointer (some ⟨gl, 0, none⟩), v, .int .i64 0]) ∧ w.heap.size ≤ gl ∧ Blk w' gl 83 (logV g first r.2.1 false) ∧ Pays w' w.heap.size v ps ∧ ps.map (·.data) = r.2.2))
set_option maxRecDepth 100000 in
set_option maxHeartbeats 4000000 in
theorem vOpen (first base g mp : Nat) (d : AD) (w : World) (h : DiskA base w g mp d) (hf1 : 1 ≤ first) (hf2 : first ≤ 1000000000) (r : Nat × Nat × List Bs) (hr : r = wOpen first d) (hnm : Nms base w r.2.1) (hn : r.2.1 ≤ 1000000000) (hlen : r.2.2.length * 24 ≤ 140737488355328) :
    Calls Tryd.prog 11 #[.pointer (some ⟨g, 0, none⟩), .int .i64 first] w fun e w' => OpenPost w g first r e w' := by
  have Hr := Lib.hid hr
  clear hr
  have d1 : decide ((first : Int) < 1) = false := decide_eq_false (by omega)
  have d2 : decide ((first : Int) > 1000000000) = false := decide_eq_false (by omega)
  go_enter Tryd.func11, Tryd.ntmps11
  go_wp2_with fail
  go_loopw [7, 8] (fun v i wr => ∃ (ps : List ByS) (k : Nat), i = .int .i64 k ∧ first ≤ k ∧ k ≤ 1000000000 ∧ Pays wr w.heap.size v ps ∧ Hid (r = ((wOpen k d).1, (wOpen k d).2.1, ps.map (·.data) ++ (wOpen k d).2.2)) ∧ Below w.heap.size w wr) (fun _ i _ => 1000000001 - (intOf i).toNat)
  case atStart => exact ⟨[], first, rfl, Nat.le_refl _, hf2, Pays.nil _ _, Lib.hid (by rw [Hr.out]; simp), Below.refl _ _⟩
  case round =>
    clear Hr
    obtain ⟨ps, k, rfl, hk1, hk2, hp, H, hb⟩ := hrel
    obtain ⟨wo, rfl⟩ : ∃ wo : World, wo = wr := ⟨_, rfl⟩
    have hkr : k ≤ r.2.1 := by rw [H.out]; exact wOpen_ge k d
    have hbb : Below base w wo := hb.mono h.hb
    have hnk := hnm k wo (by omega) hkr hbb
    have Hnk := Lib.hid hnk
    clear hnk
    go_wp2_with fail
    refine Hnk.out.mono ?_
    rintro e w1 ⟨rfl, hb1⟩
    have hp1 := hp.below hb1
    have hb01 := hb.trans (hb1.mono hb.size)
    have hd1 := h.below hb01
    clear hp hb hb1 Hnk
    go_wp2_with fail
    have hrl := hd1.rlen (walNm k)
    refine (aRead_calls (walNm k) base g mp d w1 hd1).mono ?_
    rintro e w2 ⟨A2, c2, rfl, hown2, hb2⟩
    obtain ⟨q, hq⟩ : ∃ q, q = aRead (walNm k) d := ⟨_, rfl⟩
    rw [← hq] at hown2 hrl ⊢
    have hp2 := hp1.below hb2
    have hb02 := hb01.trans (hb2.mono hb01.size)
    clear hp1 hd1
    by_cases h21 : q.2 = 21
    · have hz : ((q.2 : Int) == 21) = true := by rw [h21]; rfl
      have hgo : Hid (r = (0, k, ps.map (·.data))) := Lib.hid (by rw [H.out, wOpen_none hk2 (by rw [← hq]; exact h21)]; simp)
      clear H hq h21
      go_wp2
      refine bodyPost_ret (v := .tuple #[.pointer (some ⟨w2.heap.size, 0, none⟩), _, .int .i64 0]) (by simp [results, Tryd.results11, go_sem]; rfl) rfl ?_
      have hbX : Below w2.heap.size w2 (w2.alloc (.cells #[.pointer (some ⟨g, 0, none⟩), .int .i64 first, .int .i64 k, .bool false] 83)) := (Below.refl _ _).alloc (Nat.le_refl _) _
      refine ⟨hb02.trans (hbX.mono hb02.size), Or.inr ⟨by rw [hgo.out], w2.heap.size, _, ps, rfl, hb02.size, ?_, hp2.below hbX, by rw [hgo.out]⟩⟩
      rw [hgo.out]
      exact Blk.new w2 _ (logV g first k false)
    · have hz : ((q.2 : Int) == 21) = false := by rw [beq_eq_false_iff_ne]; omega
      by_cases h0 : q.2 = 0
      · have hz0 : ((q.2 : Int) != 0) = false := by rw [h0]; rfl
        have hstep := wOpen_go hk2 (d := d) (by rw [← hq]; exact h0)
        rw [← hq] at hstep
        have hgo : Hid (r = ((wOpen (k + 1) d).1, (wOpen (k + 1) d).2.1, (ps.map (·.data) ++ held q.1) ++ (wOpen (k + 1) d).2.2)) := Lib.hid (by rw [H.out, hstep]; simp)
        have hcnt : (ps.length + (held q.1).length) * 24 ≤ 140737488355328 := by
          rw [hgo.out] at hlen
          simp only [List.length_append, List.length_map] at hlen
          omega
        have hk3 : k ≠ 1000000000 := by
          intro e
          have h1 := wOpen_ge (k + 1) d
          rw [hgo.out] at hn
          simp only at hn
          omega
        have hzl : ((k : Int) == 1000000000) = false := by rw [beq_eq_false_iff_ne]; omega
        clear H hq hstep h21 h0
        go_wp2_with fail
        have hrow2 : Bytes w2 w2.heap.size A2 q.1.length q.1 := Row.of_own hown2
        obtain ⟨A2', c2', he2, hc2⟩ := own_form hown2
        simp only [Value.slice.injEq, true_and] at he2
        obtain ⟨rfl, rfl⟩ := he2
        refine (vHeld q.1 A2 c2 w2.heap.size w2 hrow2 (Nat.le_refl _) hc2 hrl (by omega)).mono ?_
        rintro e w3 ⟨v3, qs, rfl, hq3, hqd, hb3⟩
        obtain ⟨A3, c3, rfl, _⟩ := own_form hq3.own
        have hql : qs.length = (held q.1).length := by rw [← hqd, List.length_map]
        have hcnt' : (ps.length + qs.length) * 24 ≤ 140737488355328 := by omega
        have hp3 := hp2.below hb3
        have hb03 := hb02.trans (hb3.mono hb02.size)
        have hs03 := hb03.size
        have hgo' : Hid (r = ((wOpen (k + 1) d).1, (wOpen (k + 1) d).2.1, (ps ++ qs).map (·.data) ++ (wOpen (k + 1) d).2.2)) := Lib.hid (by rw [hgo.out, ← hqd]; simp)
        have hq3' := hq3.mono hb02.size
        have hrow3 : Row w3 w3.heap.size 1 A3 qs.length (qs.map ByS.v) := Row.of_own hq3.own
        clear hgo hqd hp2 hb02 hb3 hown2 hrow2 hql hcnt hq3
        go_wp2_with (at_builtin; refine wpList_app _ rfl rowsE rfl rfl hp3.own rfl hrow3 (bys_one _) (by omega) hs03 ?_; intro v4 w4 hown4 hg4 hb4 hx4)
        have hp4 := hp3.app hq3'.all hg4 hown4
        have hb04 := hb03.trans hb4
        go_roundw
        case rel => exact ⟨ps ++ qs, k + 1, by go_num, by omega, by omega, hp4, hgo', hb04⟩
        case measure => simp [intOf]; omega
      · have hz0 : ((q.2 : Int) != 0) = true := by rw [bne_iff_ne]; omega
        have hgo : Hid (r = (q.2, k, ps.map (·.data))) := Lib.hid (by rw [H.out, wOpen_err hk2 (by rw [← hq]; exact h21) (by rw [← hq]; exact h0), ← hq]; simp)
        clear H hq
        go_wp2
        go_ret3
        refine ⟨hb02, Or.inl ⟨by rw [hgo.out]; exact h0, by rw [hgo.out]; rfl⟩⟩
end Go.Proofs.YtmddgimadlmacaaDoor
