import Derived.Test.YtecejnilajbdpaaGreatDoorTz20
set_option maxRecDepth 100000
set_option maxHeartbeats 16000000
namespace Go.Proofs.YtecejnilajbdpaaGreatDoor
open Go.RowKit Garner
theorem ta_no (w : World) : (Instr.typeAssert .nilIface 20 149 true).run Tryz.prog w = .ok (.tuple #[.agg #[.int .i64 0], .bool false]) w := by kernel_rfl
theorem ta_yes (w : World) : (Instr.typeAssert (.iface 149 faultV) 20 149 true).run Tryz.prog w = .ok (.tuple #[faultV, .bool true]) w := by kernel_rfl
theorem catch_idle (p q : Addr) (w : World) :
  CallsD Tryz.prog 88 #[.pointer (some p), .pointer (some q)] .returning w fun e u' w' => e = .returned (.tuple #[]) ∧ u' = .returning ∧ Below w.heap.size w w' := by
 refine callsD_of_wpS Tryz.func88 rfl fun c₀ cs hu => ?_
 apply wpS_seq
 apply wpS_region
 simp [wpOpsS, go_sem, recoverD, hu, Tryz.ntmps88, Exit.thenS, ta_no]
 refine wpS_of_wp ?_
 show Code.wp Tryz.prog _ _ ⟨#[.pointer (some p), .pointer (some q), .pointer (some ⟨w.heap.size, 0, none⟩), .bool false, .tuple #[.agg #[.int .i64 0], .bool false], .nilIface, .tuple #[.agg #[.int .i64 0], .bool false], .agg #[.int .i64 0], .bool false, undef, undef, undef], []⟩ _
 go_wp2
 cases c₀
 simp_all [bodyPostS, results, Tryz.results88]
 exact (Below.refl _ _).alloc (Nat.le_refl _) _
theorem catch_panic (b c : Nat) (w : World) (old : List PanicEntry) (hp : Blk w b 105 [.slice none 0 0]) (hq : Blk w c 29 [.int .i64 0]) (hbc : b ≠ c) :
  CallsD Tryz.prog 88 #[.pointer (some ⟨b, 0, none⟩), .pointer (some ⟨c, 0, none⟩)] (.panicking ({ v := .iface 149 faultV, recovered := false } :: old)) w fun e u' w' => e = .returned (.tuple #[]) ∧ u' = .panicking ({ v := .iface 149 faultV, recovered := true } :: old) ∧ Blk w' b 105 [.slice none 0 0] ∧ Blk w' c 29 [.int .i64 40] ∧ But [b, c] w w' := by
 refine callsD_of_wpS Tryz.func88 rfl fun c₀ cs hu => ?_
 apply wpS_seq
 apply wpS_region
 simp [wpOpsS, go_sem, recoverD, hu, Tryz.ntmps88, Exit.thenS, ta_yes]
 unfold faultV
 simp [go_sem]
 refine wpS_of_wp ?_
 have hpl := hp.lt
 have hql := hq.lt
 obtain ⟨X, hX⟩ : ∃ X, X = w.alloc (.cells #[.int .i64 40] 149) := ⟨_, rfl⟩
 have x0 : Blk X w.heap.size 149 [.int .i64 40] := by rw [hX]; exact Blk.new w _ _
 have xp : Blk X b 105 [.slice none 0 0] := by rw [hX]; exact hp.alloc _
 have xq : Blk X c 29 [.int .i64 0] := by rw [hX]; exact hq.alloc _
 have hwX : Below w.heap.size w X := by rw [hX]; exact (Below.refl _ _).alloc (Nat.le_refl _) _
 have n1 : b ≠ w.heap.size := by omega
 have n2 : c ≠ w.heap.size := by omega
 rw [← hX]
 show Code.wp Tryz.prog _ _ ⟨#[.pointer (some ⟨b, 0, none⟩), .pointer (some ⟨c, 0, none⟩), .pointer (some ⟨w.heap.size, 0, none⟩), .bool true, .tuple #[.agg #[.int .i64 40], .bool true], .iface 149 (.agg #[.int .i64 40]), .tuple #[.agg #[.int .i64 40], .bool true], .agg #[.int .i64 40], .bool true, undef, undef, undef], []⟩ _
 obtain ⟨B, hB⟩ : ∃ B, B = w.heap.size := ⟨_, rfl⟩
 rw [← hB] at x0 n1 n2 ⊢
 have HB := Lh hB
 have c0 : X.cell? ⟨B, 0, none⟩ = some (.int .i64 40) := x0.cell 0
 have cp : X.cell? ⟨b, 0, none⟩ = some (.slice none 0 0) := xp.cell 0
 have cq : X.cell? ⟨c, 0, none⟩ = some (.int .i64 0) := xq.cell 0
 have fp := xp.frozen 0
 have fq := xq.frozen 0
 clear hB hX x0
 go_upto_region 2 with fail
 go_region
 all_goals
  cases c₀
  show bodyPostS _ _ _ _ _ _ _ _ _
  simp [bodyPostS, results, Tryz.results88]
  have p1 := xp.set_ 0 (.slice none 0 0)
  have p2 := xq.far (p := ⟨b, 0, none⟩) (fun e => hbc e.symm) (.slice none 0 0)
  exact ⟨(p1.far (p := ⟨c, 0, none⟩) hbc _).drew, (p2.set_ 0 _).drew, ((((But.of_below hwX).setCell (p := ⟨b, 0, none⟩) (by simp) _).setCell (p := ⟨c, 0, none⟩) (by simp) _).drew)⟩
theorem NodesIs.weak {F F' : Nat → Prop} {w : World} {B B' : Nat} {v : Value} {ns : List NodeP} (h : NodesIs F w B v ns) (hB : B' ≤ B) (hF : ∀ k, F k → F' k) : NodesIs F' w B' v ns := by
 obtain ⟨ds, e, ho, hd⟩ := h
 exact ⟨ds, e, own_mono ho hB, fun d hm => ⟨(hd d hm).kids, (hd d hm).set, fun a ha => hF _ ((hd d hm).kF a ha), fun a ha => hF _ ((hd d hm).sF a ha)⟩⟩
theorem res_cells {w5 W : World} {B : Nat} {a b : Value} (q5 : Blk w5 B 105 [.slice none 0 0]) (r5 : Blk w5 (B + 1) 29 [.int .i64 0]) (hW : W = (w5.setCell ⟨B, 0, none⟩ a).setCell ⟨B + 1, 0, none⟩ b) : Blk W B 105 [a] ∧ Blk W (B + 1) 29 [b] ∧ Below B w5 W ∧ KeepT [105, 29] w5 W := by
 subst hW
 have p1 := q5.set_ 0 a
 have p2 := r5.far (p := ⟨B, 0, none⟩) (by simp) a
 exact ⟨p1.far (p := ⟨B + 1, 0, none⟩) (by simp) b, p2.set_ 0 b, ((Below.refl _ _).setCell (p := ⟨B, 0, none⟩) (Nat.le_refl _) a).setCell (p := ⟨B + 1, 0, none⟩) (by simp) b, ((KeepT.refl _ _).setCell (p := ⟨B, 0, none⟩) q5 (by simp) a).setCell (p := ⟨B + 1, 0, none⟩) p2 (by simp) b⟩
theorem vSizeT {F : Nat → Prop} (B : Nat) (A : Option Addr) (c N : Nat) (t : Re) (w : World) (hN : (t.flat 0).length = N) (h : NodesIs F w B (.slice A N c) (t.flat 0)) (hlim : t.lim) (hc : N ≤ 10000) :
  ∃ x : Nat, (1000 < x ↔ 1000 < t.size) ∧ Calls Tryz.prog 91 #[.slice A N c] w fun e w' => e = .returned (.int .i64 (x : Nat)) ∧ Below w.heap.size w w' := by
 subst hN
 refine ⟨(sizesGo [] (t.flat 0)).getLastD 0, ?_, vSize B A c (t.flat 0) w h ?_ hc ?_ ?_⟩
 ·rw [List.getLastD_eq_getLast?, size_root, Option.getD_some]
  omega
 ·intro e
  have h1 := flat_len t 0
  have h2 := cnt_pos t
  rw [e] at h1
  simp only [List.length_nil] at h1
  omega
 ·intro i n hn k hk
  have := wf_flat t 0 i n hn k hk
  omega
 intro n hn
 rw [flat_len] at hc
 exact (flat_lim t 0 hlim n hn).mono hc
def OutP (o : Except Nat Re) (w : World) (e : Ending) (w' : World) : Prop := match o with
 | .error k => e = .returned (.tuple #[.slice none 0 0, .int .i64 (k : Nat)])
 | .ok t => ∃ v, e = .returned (.tuple #[v, .int .i64 0]) ∧ NodesIs (fun k => w.heap.size ≤ k ∧ k < w'.heap.size) w' w.heap.size v (t.flat 0)
theorem vParse (l : Bs) (w : World) (hL : Lt w) (hl : l.length ≤ 9223372036854775807) :
  Calls Tryz.prog 60 #[str l] w fun e w' => Below w.heap.size w w' ∧ OutP (rexpP l) w e w' := by
 have hmf : ∀ (fn : Fn) (first cap : Array Value) (w : World), (Instr.makeFunc fn first cap).run Tryz.prog w = .ok (.func fn first cap) w := fun _ _ _ _ => rfl
 have hsz := str_size l
 obtain ⟨OUT, hOUT⟩ : ∃ OUT, rexpP l = OUT := ⟨_, rfl⟩
 have hx := hOUT
 unfold rexpP at hx
 rw [hOUT]
 have HX := Lh hx
 clear hx hOUT
 obtain ⟨X, hX⟩ : ∃ X, X = (w.alloc (.cells #[.slice none 0 0] 105)).alloc (.cells #[.int .i64 0] 29) := ⟨_, rfl⟩
 have hwX : Below w.heap.size w X := by rw [hX]; exact ((Below.refl _ _).alloc (Nat.le_refl _) _).alloc (by simp) _
 have xp : Blk X w.heap.size 105 [.slice none 0 0] := by rw [hX]; exact (Blk.new w _ [.slice none 0 0]).alloc _
 have xq : Blk X (w.heap.size + 1) 29 [.int .i64 0] := by
  rw [hX]
  have := Blk.new (w.alloc (.cells #[.slice none 0 0] 105)) 29 [.int .i64 0]
  simpa using this
 have hXs : X.heap.size = w.heap.size + 2 := by rw [hX]; simp
 go_enter_defers Tryz.func60, Tryz.ntmps60
 by_cases h128 : 128 < l.length
 ·have hx := HX.out
  rw [if_pos h128] at hx
  have HX2 := Lh hx
  clear hx
  go_wp2
  simp [bodyPostD, Leaves, results, Tryz.results60, go_sem]
  refine ⟨((Below.refl _ _).alloc (Nat.le_refl _) _).alloc (by simp) _, ?_⟩
  rw [← HX2.out]
  exact rfl
 have hl2 : l.length ≤ 128 := by omega
 have hx := HX.out
 rw [if_neg h128] at hx
 have hv := cValid l X (hL.below hwX) hl
 have z1 : ¬ (128 : Int) < (l.length : Int) := by omega
 cases hval : Lib.validD l with
 | false =>
  rw [hval] at hv
  rw [if_pos hval] at hx
  have HX2 := Lh hx; have Hv := Lh hv; have HxX := Lh hX
  clear hx hv hval hX
  go_wp2_with fail
  rw [← HxX.out]
  refine Hv.out.mono ?_
  rintro e w2 ⟨rfl, b2⟩
  have yp := xp.below b2 xp.lt
  have yq := xq.below b2 xq.lt
  have cp : w2.cell? ⟨w.heap.size, 0, none⟩ = some (.slice none 0 0) := yp.cell 0
  have cq : w2.cell? ⟨w.heap.size + 1, 0, none⟩ = some (.int .i64 0) := yq.cell 0
  have fp := yp.frozen 0
  have fq := yq.frozen 0
  have hw2 := hwX.trans (b2.mono hwX.size)
  go_wp2
  simp [bodyPostD, Leaves, results, Tryz.results60, go_sem, cp, cq]
  refine ⟨(hw2.setCell (p := ⟨w.heap.size, 0, none⟩) (Nat.le_refl _) _).setCell (p := ⟨w.heap.size + 1, 0, none⟩) (by simp) _, ?_⟩
  rw [← HX2.out]
  exact rfl
 | true =>
  rw [hval] at hv
  rw [if_neg (by rw [hval]; decide)] at hx
  have HX2 := Lh hx; have Hv := Lh hv; have HxX := Lh hX
  clear hx hv hval hX
  go_wp2_with fail
  rw [← HxX.out]
  refine Hv.out.mono ?_
  rintro e w2 ⟨rfl, b2⟩
  have yp := xp.below b2 xp.lt
  have yq := xq.below b2 xq.lt
  have cp : w2.cell? ⟨w.heap.size, 0, none⟩ = some (.slice none 0 0) := yp.cell 0
  have cq : w2.cell? ⟨w.heap.size + 1, 0, none⟩ = some (.int .i64 0) := yq.cell 0
  have fp := yp.frozen 0
  have fq := yq.frozen 0
  have hw2 := hwX.trans (b2.mono hwX.size)
  obtain ⟨c, w3, hcv, hrow, b3, hcap, hs3⟩ := conv_runes l w2 (by omega)
  have hs2 := b2.size
  have hrl := runes_len _ l (Nat.le_refl _)
  obtain ⟨n, hn⟩ : ∃ n, (runesP l).length = n := ⟨_, rfl⟩
  have hcap2 : n ≤ c := by omega
  obtain ⟨w4, hw4⟩ : ∃ w4, w4 = w3.alloc (.cells #[.slice (some ⟨w2.heap.size, 0, none⟩) n c, .slice none 0 0, .int .i64 0, .int .i64 0] 147) := ⟨_, rfl⟩
  have b4 : Below w3.heap.size w3 w4 := by rw [hw4]; exact (Below.refl _ _).alloc (Nat.le_refl _) _
  have hbk : Blk w4 (w2.heap.size + 1) 147 [.slice (some ⟨w2.heap.size, 0, none⟩) n c, .slice none 0 0, .int .i64 0, .int .i64 0] := by
   rw [hw4, ← hs3]; exact Blk.new w3 _ _
  have hs4 : w4.heap.size = w2.heap.size + 2 := by rw [hw4]; simp [hs3]
  have hps : PS (fun k => k = w2.heap.size) w4 (w2.heap.size + 1) (runesP l) [] 0 0 := by
   refine ⟨⟨some ⟨w2.heap.size, 0, none⟩, c, none, 0, by rw [hn]; exact hbk, hrow.below b4, hcap, ⟨fun e => (by cases e), fun a e => (by cases e; rfl)⟩, [], rfl, World.ownsRow_nil _ _ _ _, by simp⟩, fun k hk => by subst hk; omega, Nat.le_refl _, by omega, runes_le _ l (Nat.le_refl _), by simp, by omega⟩
  have ha := allC (runesP l).length _ (w2.heap.size + 1) w4 (runesP l) [] 0 0 (Nat.le_refl _) hps (by simp; omega) (by omega)
  have hw24 : Below w.heap.size w w4 := hw2.trans ((b3.mono (by omega)).trans (b4.mono (by omega)))
  have zp : Blk w4 w.heap.size 105 [.slice none 0 0] := (yp.below b3 yp.lt).below b4 (by omega)
  have zq : Blk w4 (w.heap.size + 1) 29 [.int .i64 0] := (yq.below b3 yq.lt).below b4 (by omega)
  rw [hn] at hcv
  have HA := Lh ha; have Hn := Lh hn; have Hw4 := Lh hw4
  clear ha hn hw4 hps hbk hrow hcap
  go_wp2_with fail
  rw [← Hw4.out]
  refine HA.out.mono ?_
  rintro e w5 ⟨k5, o5⟩
  have q5 := zp.below k5.low (by omega)
  have r5 := zq.below k5.low (by omega)
  have hw5 := hw24.trans (k5.low.mono (by omega))
  cases hal : altF (runesP l) with
  | none =>
   rw [hal] at o5
   obtain rfl : e = faulted := o5
   have hrd : readR (runesP l) = .error 40 := by
    unfold readR
    rw [show altsR (4 * (runesP l).length + 4) (runesP l) = none from hal]
   have s5 := k5.low.size
   have hw45 := hw5.size
   refine leaves_cons (f := 88) (args := #[.pointer (some ⟨w.heap.size, 0, none⟩), .pointer (some ⟨w.heap.size + 1, 0, none⟩)]) (by simp) (by simp [go_sem]) ?_
   refine (catch_panic w.heap.size (w.heap.size + 1) w5 [] q5 r5 (by omega)).mono ?_
   rintro e u' w9 ⟨rfl, rfl, p9, q9, hb9⟩
   have c9 : w9.cell? ⟨w.heap.size, 0, none⟩ = some (.slice none 0 0) := p9.cell 0
   have d9 : w9.cell? ⟨w.heap.size + 1, 0, none⟩ = some (.int .i64 40) := q9.cell 0
   simp [Leaves, settle, results, Tryz.results60, go_sem, c9, d9]
   refine ⟨hw5.trans (hb9.below (by omega) (by simp)), ?_⟩
   rw [← HX2.out, hrd]
   exact rfl
  | some q =>
   obtain ⟨ts, r, d⟩ := q
   rw [hal] at o5
   obtain ⟨rfl, h5⟩ := o5
   dsimp only at h5
   rw [show max 0 (0 + d) = d by omega, List.nil_append] at h5
   have hrd : readR (runesP l) = if r ≠ [] then .error 40 else if 16 < d then .error 9 else if 1000 < (manyR .alt ts).size then .error 3 else .ok (manyR .alt ts) := by
    unfold readR
    rw [show altsR (4 * (runesP l).length + 4) (runesP l) = some (ts, r, d) from hal]
   have hOUT := HX2.out
   rw [hrd] at hOUT
   have HX3 := Lh hOUT
   obtain ⟨A5, c5, O5, m5, hb5, hr5, hc5, hA5, hn5⟩ := h5.ex
   have hcn := (altF_cnt hal).1
   have hlim : (manyR .alt ts).lim := many_lim (mk := .alt) (fun _ => rfl) ((parse_lim _).1 hal)
   obtain ⟨t, ht⟩ : ∃ t, manyR .alt ts = t := ⟨_, rfl⟩
   rw [ht] at h5 hb5 hn5 HX3 hlim
   have Hlim := Lh hlim; clear hlim
   have htc : t.cnt ≤ cnts ts + 1 := by rw [← ht]; exact many_cnt .alt (fun _ => rfl) ts
   obtain ⟨N, hN⟩ : ∃ N, (t.flat 0).length = N := ⟨_, rfl⟩
   have e0 : ([] : List NodeP).length = 0 := rfl
   rw [e0] at hb5 hn5
   rw [hN] at hb5 hn5
   have hNc : N = t.cnt := by rw [← hN, flat_len]
   have g0 : w5.cell? ⟨w2.heap.size + 1, 0, none⟩ = some (.slice A5 r.length c5) := hb5.cell 0
   have g1 : w5.cell? ⟨w2.heap.size + 1, 1, none⟩ = some (.slice O5 N m5) := hb5.cell 1
   have g3 : w5.cell? ⟨w2.heap.size + 1, 3, none⟩ = some (.int .i64 (d : Nat)) := hb5.cell 3
   have s5 := k5.low.size
   have s45 := k5.keep.size
   have c5p : w5.cell? ⟨w.heap.size, 0, none⟩ = some (.slice none 0 0) := q5.cell 0
   have c5q : w5.cell? ⟨w.heap.size + 1, 0, none⟩ = some (.int .i64 0) := r5.cell 0
   have f5p := q5.frozen 0
   have f5q := r5.frozen 0
   have Hn5 := Lh hn5
   have H5 := Lh h5
   clear hrd hOUT hal hr5 hA5 hn5 h5 hb5 ht e0 hc5 HX2 HA k5
   have hN4 : N ≤ 10000 := by omega
   by_cases hr : r = []
   ·subst hr
    go_wp2_with fail
    refine (vMust_t _ rfl _).mono ?_
    rintro e w6 ⟨rfl, hw6⟩
    obtain rfl : w5 = w6 := hw6.symm
    by_cases h16 : 16 < d
    ·have z16 : (16 : Int) < (d : Int) := by omega
     go_wp2
     obtain ⟨W, hW⟩ : ∃ W, W = (w5.setCell ⟨w.heap.size, 0, none⟩ (.slice none 0 0)).setCell ⟨w.heap.size + 1, 0, none⟩ (.int .i64 9) := ⟨_, rfl⟩
     obtain ⟨Wp, Wq, bW, kW⟩ := res_cells q5 r5 hW
     rw [← hW]
     refine leaves_cons (f := 88) (args := #[.pointer (some ⟨w.heap.size, 0, none⟩), .pointer (some ⟨w.heap.size + 1, 0, none⟩)]) (by simp) (by simp [go_sem]) ?_
     refine (catch_idle ⟨w.heap.size, 0, none⟩ ⟨w.heap.size + 1, 0, none⟩ _).mono ?_
     rintro e u' w9 ⟨rfl, rfl, b9⟩
     have c9 : w9.cell? ⟨w.heap.size, 0, none⟩ = some (.slice none 0 0) := (Wp.below b9 Wp.lt).cell 0
     have d9 : w9.cell? ⟨w.heap.size + 1, 0, none⟩ = some (.int .i64 9) := (Wq.below b9 Wq.lt).cell 0
     simp [Leaves, settle, results, Tryz.results60, go_sem, c9, d9]
     have sW := bW.size
     refine ⟨(hw5.trans bW).trans (b9.mono (by omega)), ?_⟩
     rw [← HX3.out, if_neg (by simp), if_pos h16]
     exact rfl
    have z16 : ¬ (16 : Int) < (d : Int) := by omega
    obtain ⟨x, hx2, hsz⟩ := vSizeT _ O5 m5 N t w5 hN Hn5.out Hlim.out hN4
    have Hsz := Lh hsz; have Hx := Lh hx2
    clear hsz hx2 hN hNc htc hcn
    go_wp2_with fail
    refine Hsz.out.mono ?_
    rintro e w6 ⟨rfl, b6⟩
    have q6 := q5.below b6 q5.lt
    have r6 := r5.below b6 r5.lt
    have c6p : w6.cell? ⟨w.heap.size, 0, none⟩ = some (.slice none 0 0) := q6.cell 0
    have c6q : w6.cell? ⟨w.heap.size + 1, 0, none⟩ = some (.int .i64 0) := r6.cell 0
    have f6p := q6.frozen 0
    have f6q := r6.frozen 0
    have g1' : w6.cell? ⟨w2.heap.size + 1, 1, none⟩ = some (.slice O5 N m5) := by
     rw [b6.cell (p := ⟨w2.heap.size + 1, 1, none⟩) (by show w2.heap.size + 1 < _; omega)]; exact g1
    have s6 := b6.size
    by_cases h1000 : 1000 < x
    ·have z17 : (1000 : Int) < (x : Int) := by omega
     have ht3 : 1000 < t.size := Hx.out.1 h1000
     go_wp2
     obtain ⟨W, hW⟩ : ∃ W, W = (w6.setCell ⟨w.heap.size, 0, none⟩ (.slice none 0 0)).setCell ⟨w.heap.size + 1, 0, none⟩ (.int .i64 3) := ⟨_, rfl⟩
     obtain ⟨Wp, Wq, bW, kW⟩ := res_cells q6 r6 hW
     rw [← hW]
     refine leaves_cons (f := 88) (args := #[.pointer (some ⟨w.heap.size, 0, none⟩), .pointer (some ⟨w.heap.size + 1, 0, none⟩)]) (by simp) (by simp [go_sem]) ?_
     refine (catch_idle ⟨w.heap.size, 0, none⟩ ⟨w.heap.size + 1, 0, none⟩ _).mono ?_
     rintro e u' w9 ⟨rfl, rfl, b9⟩
     have c9 : w9.cell? ⟨w.heap.size, 0, none⟩ = some (.slice none 0 0) := (Wp.below b9 Wp.lt).cell 0
     have d9 : w9.cell? ⟨w.heap.size + 1, 0, none⟩ = some (.int .i64 3) := (Wq.below b9 Wq.lt).cell 0
     simp [Leaves, settle, results, Tryz.results60, go_sem, c9, d9]
     have sW := bW.size
     refine ⟨((hw5.trans (b6.mono (by omega))).trans bW).trans (b9.mono (by omega)), ?_⟩
     rw [← HX3.out, if_neg (by simp), if_neg h16, if_pos ht3]
     exact rfl
    have z17 : ¬ (1000 : Int) < (x : Int) := by omega
    have ht3 : ¬ 1000 < t.size := fun h => h1000 (Hx.out.2 h)
    go_wp2
    obtain ⟨W, hW⟩ : ∃ W, W = (w6.setCell ⟨w.heap.size, 0, none⟩ (.slice O5 N m5)).setCell ⟨w.heap.size + 1, 0, none⟩ (.int .i64 0) := ⟨_, rfl⟩
    obtain ⟨Wp, Wq, bW, kW⟩ := res_cells q6 r6 hW
    rw [← hW]
    refine leaves_cons (f := 88) (args := #[.pointer (some ⟨w.heap.size, 0, none⟩), .pointer (some ⟨w.heap.size + 1, 0, none⟩)]) (by simp) (by simp [go_sem]) ?_
    refine (catch_idle ⟨w.heap.size, 0, none⟩ ⟨w.heap.size + 1, 0, none⟩ _).mono ?_
    rintro e u' w9 ⟨rfl, rfl, b9⟩
    have c9 : w9.cell? ⟨w.heap.size, 0, none⟩ = some (.slice O5 N m5) := (Wp.below b9 Wp.lt).cell 0
    have d9 : w9.cell? ⟨w.heap.size + 1, 0, none⟩ = some (.int .i64 0) := (Wq.below b9 Wq.lt).cell 0
    simp [Leaves, settle, results, Tryz.results60, go_sem, c9, d9]
    have sW := bW.size
    refine ⟨((hw5.trans (b6.mono (by omega))).trans bW).trans (b9.mono (by omega)), ?_⟩
    rw [← HX3.out, if_neg (by simp), if_neg h16, if_neg ht3]
    have s9 := b9.size
    have kk : KeepT [105, 29] w5 w9 := (KeepT.of_below b6).trans (kW.trans (.of_below b9))
    refine ⟨_, rfl, ((Hn5.out.keep kk (by decide) (by decide) (by decide)).weak (by omega) fun k hk => ?_)⟩
    rcases hk with hk | hk
    ·subst hk; exact ⟨by omega, by omega⟩
    exact ⟨by omega, by omega⟩
   obtain ⟨rl, hrl2⟩ : ∃ rl, r.length = rl := ⟨_, rfl⟩
   have hrl3 : ¬ rl = 0 := fun e => hr (List.eq_nil_of_length_eq_zero (by rw [hrl2, e]))
   rw [hrl2] at g0
   have z5 : ((rl : Int) == 0) = false := by simp; omega
   have z5' : ¬ (rl : Int) = 0 := by omega
   have HX4 : Hid (OUT = .error 40) := Lh (by rw [← HX3.out, if_pos hr])
   clear hr hrl2 hrl3
   go_wp2_with fail
   refine (vMust_f _ rfl _).mono ?_
   rintro e w6 ⟨rfl, hw6⟩
   obtain rfl : w5 = w6 := hw6.symm
   refine leaves_cons (f := 88) (args := #[.pointer (some ⟨w.heap.size, 0, none⟩), .pointer (some ⟨w.heap.size + 1, 0, none⟩)]) (by simp) (by simp [go_sem]) ?_
   refine (catch_panic w.heap.size (w.heap.size + 1) w5 [] q5 r5 (by omega)).mono ?_
   rintro e u' w9 ⟨rfl, rfl, p9, q9, hb9⟩
   have c9 : w9.cell? ⟨w.heap.size, 0, none⟩ = some (.slice none 0 0) := p9.cell 0
   have d9 : w9.cell? ⟨w.heap.size + 1, 0, none⟩ = some (.int .i64 40) := q9.cell 0
   simp [Leaves, settle, results, Tryz.results60, go_sem, c9, d9]
   refine ⟨hw5.trans (hb9.below (by omega) (by simp)), ?_⟩
   rw [HX4.out]
   exact rfl
structure InstD where
 p : InstP
 sA : Option Addr
 sc : Nat
def InstD.cells (d : InstD) : List Value := [.int .i64 d.p.kind, .int .i64 d.p.x, .int .i64 d.p.y, .slice d.sA d.p.runes.length d.sc]
theorem inst_one (ds : List InstD) : ∀ u ∈ ds.flatMap InstD.cells, u.oneCell' = true := by
 intro u hu
 obtain ⟨d, -, h⟩ := List.mem_flatMap.1 hu
 simp [InstD.cells] at h
 rcases h with rfl | rfl | rfl | rfl <;> rfl
theorem instE : Elem Tryz.prog 155 160 (.agg #[.int .i64 0, .int .i64 0, .int .i64 0, .slice none 0 0]) 4 48 := ⟨Tryz.underlying155, by kernel_rfl, rfl, by omega, by omega⟩
structure ProgIs (W0 : World) (B : Nat) (L : Value) (w : World) (g : Nat) (ins : List InstP) : Prop where
 ex : ∃ O m, Blk w g 157 [L, .slice O ins.length m] ∧ ∃ ds : List InstD, ds.map (·.p) = ins ∧ w.ownsRow B 160 4 (.slice O ins.length m) ins.length (ds.flatMap InstD.cells) ∧ ∀ d ∈ ds, RowT W0 21 d.sA d.p.runes.length (d.p.runes.map rv)
 nb : ins.length ≤ 200000
structure QK (B : Nat) (w w' : World) : Prop where
 keep : KeepT [157, 160] w w'
 low : Below B w w'
theorem QK.refl (B : Nat) (w : World) : QK B w w := ⟨.refl _ _, .refl _ _⟩
theorem QK.trans {B : Nat} {a b c : World} (h : QK B a b) (k : QK B b c) : QK B a c := ⟨h.keep.trans k.keep, h.low.trans k.low⟩
theorem QK.of_below {B : Nat} {w w' : World} (h : Below w.heap.size w w') (hB : B ≤ w.heap.size) : QK B w w' := ⟨.of_below h, h.mono hB⟩
theorem ProgIs.below {W0 : World} {B : Nat} {L : Value} {w w' : World} {g : Nat} {ins : List InstP} (h : ProgIs W0 B L w g ins) (hb : Below w.heap.size w w') : ProgIs W0 B L w' g ins := by
 obtain ⟨O, m, h1, ds, h2, h3, h4⟩ := h.ex
 exact ⟨⟨O, m, h1.below hb h1.lt, ds, h2, own_below h3 hb, h4⟩, h.nb⟩
theorem ProgIs.lt {W0 : World} {B : Nat} {L : Value} {w : World} {g : Nat} {ins : List InstP} (h : ProgIs W0 B L w g ins) : g < w.heap.size := by
 obtain ⟨O, m, h1, -⟩ := h.ex
 exact h1.lt
theorem vHere {W0 : World} {B : Nat} {L : Value} (w : World) (g : Nat) (ins : List InstP) (h : ProgIs W0 B L w g ins) :
  Calls Tryz.prog 127 #[.pointer (some ⟨g, 0, none⟩)] w fun e w' => e = .returned (.int .i64 (ins.length : Nat)) ∧ w' = w := by
 obtain ⟨O, m, hb, -⟩ := h.ex
 obtain ⟨n, hn⟩ : ∃ n, ins.length = n := ⟨_, rfl⟩
 rw [hn] at hb ⊢
 have c1 : w.cell? ⟨g, 1, none⟩ = some (.slice O n m) := hb.cell 1
 clear hn
 go_enter Tryz.func127, Tryz.ntmps127
 go_wp2
 go_ret
 exact ⟨rfl, rfl⟩
theorem vEmit {W0 : World} {B : Nat} {L : Value} (d : InstD) (w : World) (g : Nat) (ins : List InstP) (h : ProgIs W0 B L w g ins) (hB : B ≤ w.heap.size) (hgB : B ≤ g) (hd : RowT W0 21 d.sA d.p.runes.length (d.p.runes.map rv)) (hn : ins.length < 100000) :
  Calls Tryz.prog 94 #[.pointer (some ⟨g, 0, none⟩), .agg #[.int .i64 d.p.kind, .int .i64 d.p.x, .int .i64 d.p.y, .slice d.sA d.p.runes.length d.sc]] w fun e w' => e = .returned (.int .i64 (ins.length : Nat)) ∧ ProgIs W0 B L w' g (ins ++ [d.p]) ∧ QK B w w' := by
 obtain ⟨O, m, hb, ds, hds, hown, hall⟩ := h.ex
 obtain ⟨N, hN⟩ : ∃ N, ins.length = N := ⟨_, rfl⟩
 have hg := hb.lt
 obtain ⟨X, hX⟩ : ∃ X, X = w.alloc (.cells d.cells.toArray 160) := ⟨_, rfl⟩
 have hwX : Below w.heap.size w X := by rw [hX]; exact (Below.refl _ _).alloc (Nat.le_refl _) _
 have bX : Blk X w.heap.size 160 d.cells := by rw [hX]; exact Blk.new w _ _
 have bP := hb.below hwX hb.lt
 have oX := own_below hown hwX
 rw [hN] at bP oX
 have hX' : X = w.alloc (.cells #[.int .i64 d.p.kind, .int .i64 d.p.x, .int .i64 d.p.y, .slice d.sA d.p.runes.length d.sc] 160) := hX
 go_enter Tryz.func94, Tryz.ntmps94
 go_upto_region 1 with fail
 rw [← hX']
 clear hX hX'
 have sS : Blk X.drew g 157 [L, .slice O N m] ∧ Blk X.drew w.heap.size 160 d.cells := ⟨bP, bX⟩
 refine rgQ (fun w' => Blk w' g 157 [L, .slice O N m] ∧ Blk w' w.heap.size 160 d.cells) 10 (by kernel_rfl) (fun _ _ d _ _ h => by cases d <;> exact h) fun qP => ?_
 apply tkq 0 (by kernel_rfl) rfl qP sS
 ·intro w' hS'; go_simp; exact ⟨rfl, rfl⟩
 apply tkq 1 (by kernel_rfl) rfl qP sS
 ·intro w' hS'; go_simp; exact ⟨rfl, rfl⟩
 apply tkq 2 (by kernel_rfl) rfl qP sS
 ·intro w' hS'; go_simp; exact ⟨rfl, rfl⟩
 apply tkq 3 (by kernel_rfl) rfl qP sS
 ·intro w' hS'; go_simp; exact ⟨rfl, rfl⟩
 apply tkq 4 (v := (.slice O N m)) (by kernel_rfl) rfl qP sS
 ·intro w' hS'; have hk : w'.cell? ⟨g, 1, none⟩ = some (.slice O N m) := hS'.1.cell 1; go_simp; exact ⟨rfl, rfl⟩
 apply tkq 5 (v := (.agg #[.int .i64 d.p.kind, .int .i64 d.p.x, .int .i64 d.p.y, .slice d.sA d.p.runes.length d.sc])) (by kernel_rfl) rfl qP sS
 ·intro w' hS'; have k0 : w'.cell? ⟨w.heap.size, 0, none⟩ = some (.int .i64 d.p.kind) := hS'.2.cell 0; have k1 : w'.cell? ⟨w.heap.size, 1, none⟩ = some (.int .i64 d.p.x) := hS'.2.cell 1; have k2 : w'.cell? ⟨w.heap.size, 2, none⟩ = some (.int .i64 d.p.y) := hS'.2.cell 2; have k3 : w'.cell? ⟨w.heap.size, 3, none⟩ = some (.slice d.sA d.p.runes.length d.sc) := hS'.2.cell 3; go_simp; exact ⟨rfl, rfl⟩
 (try simp only [Act.put]); (try simp only [List.setIfInBounds_toArray]); (try simp only [List.set])
 refine rnL 6 (by kernel_rfl) rfl (by kernel_rfl) (fun K hK => ?_)
 go_simp
 obtain ⟨Y, hY⟩ : ∃ Y, Y = (X.alloc (.cells #[.int .i64 d.p.kind, .int .i64 d.p.x, .int .i64 d.p.y, .slice d.sA d.p.runes.length d.sc] 160)).drew := ⟨_, rfl⟩
 rw [← hY]
 have hXY : Below X.heap.size X Y := by rw [hY]; exact ((Below.refl _ _).alloc (Nat.le_refl _) _).drew
 have y1 : Blk Y g 157 [L, .slice O N m] := bP.below hXY bP.lt
 have y2 : Blk Y w.heap.size 160 d.cells := Blk.below bX hXY bX.lt
 have y3 := own_below oX hXY
 have xrow : Row Y (X.heap.size + 1) 4 (some ⟨X.heap.size, 0, none⟩) 1 d.cells := by
  rw [hY]; exact (row_newN X 160 4 1 d.cells rfl).drew
 have hwY : Below w.heap.size w Y := hwX.trans (hXY.mono hwX.size)
 have sY := hwY.size
 clear hY oX bP bX
 have sT : Blk Y g 157 [L, .slice O N m] ∧ Blk Y w.heap.size 160 d.cells := ⟨y1, y2⟩
 refine hK _ _ (fun _ => sT) ?_
 clear hK K
 (try simp only [Act.put]); (try simp only [List.setIfInBounds_toArray]); (try simp only [List.set])
 refine rnL 7 (by kernel_rfl) rfl (by kernel_rfl) (fun K hK => ?_)
 refine wp_app Y instE rfl rfl y3 rfl xrow (by have := inst_one [d]; simpa using this) (by omega) (by omega) ?_
 intro v W q hg6 hb6 hv6
 have hty := own_typed y3
 have nB : ∀ k cs t, Blk Y k t cs → t ≠ 160 → some k ≠ (Value.slice O N m).ownBlock := fun k cs t hk ht e => by
  obtain ⟨cs', t', z, h1, h2⟩ := hty k e.symm
  unfold Blk at hk
  rw [hk] at h1
  cases h1
  exact ht h2
 have z1 := y1.grown hg6 (nB _ _ _ y1 (by decide))
 have nZ : some w.heap.size ≠ (Value.slice O N m).ownBlock := fun e => by
  have h1 := (own_ge hown w.heap.size (by rw [hN, ← e]; simp)).2
  omega
 have z2 := y2.grown hg6 nZ
 have kW : KeepT [157, 160] w W := (KeepT.of_below hwY).trans (.grown hg6 fun k hk => by
  obtain ⟨cs, t, z, h1, h2⟩ := hty k hk
  exact ⟨cs, t, z, h1, by rw [h2]; simp⟩)
 have lW : Below B w W := (hwY.mono (by omega)).trans (hb6.mono (by omega))
 obtain ⟨O2, m2, rfl, -⟩ := own_form q
 have sU : Blk W g 157 [L, .slice O N m] ∧ Blk W w.heap.size 160 d.cells := ⟨z1, z2⟩
 have cb : W.cell? ⟨g, 1, none⟩ = some (.slice O N m) := z1.cell 1
 have fb := z1.frozen 1
 refine hK _ _ (fun _ => sU) ?_
 clear hK K
 (try simp only [Act.put]); (try simp only [List.setIfInBounds_toArray]); (try simp only [List.set])
 refine rnL 8 (by kernel_rfl) rfl (by kernel_rfl) (fun K hK => ?_)
 go_simp
 refine hK _ _ (fun _ => sU) ?_
 clear hK K
 (try simp only [Act.put]); (try simp only [List.setIfInBounds_toArray]); (try simp only [List.set])
 refine rnL 9 (by kernel_rfl) rfl (by kernel_rfl) (fun K hK => ?_)
 go_simp
 refine hK _ _ (fun _ => sU) ?_
 clear hK K
 (try simp only [Act.put]); (try simp only [List.setIfInBounds_toArray]); (try simp only [List.set])
 refine rnL 10 (by kernel_rfl) rfl (by kernel_rfl) (fun K hK => ?_)
 go_simp
 refine hK _ _ (fun h => absurd rfl h) ?_
 clear hK K
 (try simp only [Act.put])
 refine dnL (by kernel_rfl) ?_ _
 have e1 : IntKind.i64.wrap ((N : Int) + 1 - 1) = (N : Int) := by rw [IntKind.wrap_i64]; omega
 have b3 := z1.set_ 1 (.slice O2 (N + 1) m2)
 have k3 : KeepT [157, 160] w (W.setCell ⟨g, 1, none⟩ (.slice O2 (N + 1) m2)) := kW.setCell (p := ⟨g, 1, none⟩) z1 (by simp) _
 have l3 : Below B w (W.setCell ⟨g, 1, none⟩ (.slice O2 (N + 1) m2)) := lW.setCell (p := ⟨g, 1, none⟩) hgB _
 have o3 := own_but q ((But.refl [g] W).setCell (p := ⟨g, 1, none⟩) (by simp) (.slice O2 (N + 1) m2)) (fun k hk hm => by
  simp only [List.mem_singleton] at hm
  subst hm
  exact own_blk q z1 (by decide) (by rw [hk]; simp))
 have eN : (ins ++ [d.p]).length = N + 1 := by rw [List.length_append, hN]; rfl
 have hps : ProgIs W0 B L (W.setCell ⟨g, 1, none⟩ (.slice O2 (N + 1) m2)) g (ins ++ [d.p]) := by
  refine ⟨⟨O2, m2, ?_, ds ++ [d], by rw [List.map_append, hds]; rfl, ?_, ?_⟩, by omega⟩
  ·rw [eN]; exact b3
  ·rw [eN, List.flatMap_append]; simpa using o3
  intro x hx
  rcases List.mem_append.1 hx with hx | hx
  ·exact hall x hx
  rw [List.mem_singleton.1 hx]; exact hd
 have Hps := Lh hps; have K3 := Lh k3; have L3 := Lh l3
 clear hps k3 l3 o3 b3 kW lW z1 z2 sU q hty nB nZ
 go_wp2
 go_ret
 exact ⟨by rw [hN]; rfl, Hps.out, K3.out, L3.out⟩
end Go.Proofs.YtecejnilajbdpaaGreatDoor
namespace Garner
open Go
section
variable {P : Program} {ops : Array Oper} {Q : Exit → Act → World → Prop} {md : Region.Mode} {S : World → Prop}
def reachO (md : Region.Mode) (ops : Array Oper) : Nat → Nat → Nat → Bool
 | 0, _, _ => false
 | f + 1, n, i => match ops[n]? with
  | some o => o.after.any fun e => Region.binds md e && (e.on == i || reachO md ops f e.on i)
  | none => false
def ClosedO (md : Region.Mode) (ops : Array Oper) (listed : Array Bool) : Prop := ∀ (m : Nat) (o : Oper), ops[m]? = some o → listed.getD m false = true → ∀ e ∈ o.after, Region.binds md e = true → listed.getD e.on false = true
def closedB (md : Region.Mode) (ops : Array Oper) (listed : Array Bool) : Bool := (List.range ops.size).all fun m => !(listed.getD m false) || (match ops[m]? with
 | some o => o.after.all fun e => !(Region.binds md e) || listed.getD e.on false
 | none => true)
theorem closed_of {listed : Array Bool} (h : closedB md ops listed = true) : ClosedO md ops listed := fun m o hm hl e he hb => by
 have h1 := List.all_eq_true.1 h m (List.mem_range.2 (by
  rcases Nat.lt_or_ge m ops.size with h' | h'
  ·exact h'
  rw [Array.getElem?_eq_none h'] at hm; cases hm))
 simp only [hm, hl, Bool.not_true, Bool.false_or] at h1
 have h2 := Array.all_eq_true'.1 h1 e he
 simpa [hb] using h2
theorem reach_listed {listed : Array Bool} (hc : ClosedO md ops listed) : ∀ (f n i : Nat), reachO md ops f n i = true → (∀ o, ops[n]? = some o → ∀ e ∈ o.after, Region.binds md e = true → listed.getD e.on false = true) → listed.getD i false = true
 | 0, _, _, h, _ => by cases h
 | f + 1, n, i, h, hn => by
  rw [reachO] at h
  cases ho : ops[n]? with
  | none => rw [ho] at h; cases h
  | some o =>
   rw [ho] at h
   obtain ⟨e, he, hb⟩ := Array.any_eq_true'.1 h
   rw [Bool.and_eq_true, Bool.or_eq_true] at hb
   have h1 := hn o ho e he hb.1
   rcases hb.2 with h2 | h2
   ·rw [beq_iff_eq] at h2; rw [← h2]; exact h1
   exact reach_listed hc f e.on i h2 fun o' ho' => hc e.on o' ho' h1
theorem ClosedO.add {listed : Array Bool} {j : Nat} {oj : Oper} (hc : ClosedO md ops listed) (hj : ops[j]? = some oj) (h : ∀ e ∈ oj.after, Region.binds md e = true → listed.getD e.on false = true) : ClosedO md ops (listed.setIfInBounds j true) := fun m o hm hl e he hb => by
 by_cases hjm : j = m
 ·subst hjm
  rw [hj] at hm
  cases hm
  exact getD_set_true (h e he hb)
 rw [getD_set_ne false hjm] at hl
 exact getD_set_true (hc m o hm hl e he hb)
theorem wpAnyN_firstT {n i f : Nat} {oi : Oper} {v : Value} (hi : ops[i]? = some oi) (hsel : ∀ (j : Nat) (o : Oper) cs b, ops[j]? = some o → o.op ≠ .select cs b)
  (hQ : ∀ c a w, Q (.panic c) (a.put oi.dst v) w → Q (.panic c) a w) (hn : reachO md ops f n i = true) :
  ∀ (fuel : Nat) (listed : Array Bool) (a : Act) (w : World), ClosedO md ops listed →
   (∀ j oj, ops[j]? = some oj → j ≠ i → listed.getD j true = false → (∀ e ∈ oj.after, Region.binds md e = true → e.on ≠ i) → oi.apart ops oj = true) →
   i ∈ Region.ready md ops listed → YieldsG P ops S oi v a → S w →
   wpAnyN P md ops Q S n fuel (listed.setIfInBounds i true) (a.put oi.dst v) w → wpAnyN P md ops Q S n (fuel + 1) listed a w := by
 intro fuel
 induction fuel with
 | zero =>
  intro listed a w _ _ hr hy hS H
  refine ⟨fun h => (by rw [h] at hr; cases hr), fun j hj => ?_⟩
  by_cases hji : j = i
  ·subst hji; exact hy.wpOp hi hS ⟨fun _ => hS, H⟩
  have := ready_mono hj hji
  rw [H.1] at this
  cases this
 | succ fuel ih =>
  intro listed a w hcl hfree hr hy hS H
  refine ⟨fun h => (by rw [h] at hr; cases hr), fun j hj => ?_⟩
  by_cases hji : j = i
  ·subst hji; exact hy.wpOp hi hS ⟨fun _ => hS, H⟩
  have h1 := H.2 j (ready_mono hj hji)
  obtain ⟨hjun, oj, hoj, hall⟩ := mem_ready.1 hj
  have hunl : listed.getD i false ≠ true := fun h1 => by
   have h0 := (mem_ready.1 hr).1
   rcases Nat.lt_or_ge i listed.size with h' | h'
   ·simp [h'] at h0 h1; rw [h0] at h1; cases h1
   simp [Array.getElem?_eq_none h'] at h1
  have hnot : ∀ e ∈ oj.after, Region.binds md e = true → e.on ≠ i := fun e he hb heq => by
   have h1 := hall e he hb
   rw [heq] at h1
   exact hunl h1
  have hjn : j ≠ n := fun e => by
   subst e
   exact hunl (reach_listed hcl f j i hn fun o ho => (by rw [hoj] at ho; cases ho; exact hall))
  have h2 := wpOp_putG hoj (hfree j oj hoj hji hjun hnot) (fun cs b => hsel i oi cs b hi) (fun cs b => hsel j oj cs b hoj) hQ hy h1
  have hfree' : ∀ k ok, ops[k]? = some ok → k ≠ i → (listed.setIfInBounds j true).getD k true = false →
    (∀ e ∈ ok.after, Region.binds md e = true → e.on ≠ i) → oi.apart ops ok = true := fun k ok hk hki hun hno => by
   refine hfree k ok hk hki ?_ hno
   by_cases hjk : j = k
   ·subst hjk; exact hjun
   rw [getD_set_ne true hjk] at hun; exact hun
  refine wpOp_mono (fun a' w' h3 => ⟨h3.2.1, ih (listed.setIfInBounds j true) a' w' (hcl.add hoj hall) hfree' (ready_mono hr (Ne.symm hji)) h3.1 (h3.2.1 hjn) ?_⟩) h2
  rw [Array.setIfInBounds_comm _ _ hji]
  exact h3.2.2
def mayTakeT (md : Region.Mode) (ops : Array Oper) (n : Nat) (listed : Array Bool) (i : Nat) : Bool :=
 Region.noSelect ops && Region.free md ops listed i && (Region.ready md ops listed).contains i && closedB md ops listed && reachO md ops ops.size n i
theorem tkT (i : Nat) {n : Nat} {oi : Oper} {v : Value} {fuel : Nat} {listed : Array Bool} {a : Act} {w : World} (hm : mayTakeT md ops n listed i = true) (hi : ops.toList[i]? = some oi)
  (hQ : ∀ c a w, Q (.panic c) (a.put oi.dst v) w → Q (.panic c) a w) (hw : Region.wanted oi (yielded ops a.tmps) = true) (hS : S w) (hy : ∀ w, S w → stillRun P v w ((execOp a.eval oi).run P w))
  (h : wpAnyN P md ops Q S n fuel (listed.setIfInBounds i true) (a.put oi.dst v) w) : wpAnyN P md ops Q S n (fuel + 1) listed a w := by
 simp only [mayTakeT, Bool.and_eq_true] at hm
 obtain ⟨⟨⟨⟨h1, h2⟩, h3⟩, h4⟩, h5⟩ := hm
 exact wpAnyN_firstT (of_toList hi) (Region.noSelect_spec h1) hQ h5 fuel listed a w (closed_of h4) (Region.free_spec (of_toList hi) h2) (by simpa using h3) ⟨hw, hy⟩ hS h
end
open Go
def byteN (l : Bs) (i : Nat) : Nat := (l.getD i 0).toNat
def sixN (c : Nat) (b : Nat → Nat) : Nat → Nat
 | 0 => c
 | k + 1 => sixN c b k * 64 + b (k + 1) % 64
open Classical in
noncomputable def leadN (n c low N : Nat) (b : Nat → Nat) : Nat × Nat :=
 if ∀ m, 1 ≤ m → m ≤ n → m < N ∧ b m / 64 = 2 then
  (if sixN c b n < low ∨ 1114111 < sixN c b n ∨ (55296 ≤ sixN c b n ∧ sixN c b n ≤ 57343) then (65533, 1) else (sixN c b n, n + 1))
 else (65533, 1)
theorem all1 {p : Nat → Prop} : (∀ m, 1 ≤ m → m ≤ 1 → p m) ↔ p 1 :=
 ⟨fun h => h 1 (by omega) (by omega), fun h m h1 h2 => by
  obtain rfl : m = 1 := by omega
  exact h⟩
theorem allS {p : Nat → Prop} {n : Nat} : (∀ m, 1 ≤ m → m ≤ n + 1 → p m) ↔ (∀ m, 1 ≤ m → m ≤ n → p m) ∧ p (n + 1) :=
 ⟨fun h => ⟨fun m h1 h2 => h m h1 (by omega), h _ (by omega) (by omega)⟩, fun h m h1 h2 => by
  rcases Nat.lt_or_ge m (n + 1) with h3 | h3
  ·exact h.1 m h1 (by omega)
  obtain rfl : m = n + 1 := by omega
  exact h.2⟩
theorem lead_dec (N : Nat) (b : Nat → Nat) (hb : b 0 < 256) : Lib.decodeN N (b 0) (b 1) (b 2) (b 3) =
  if b 0 < 128 then (b 0, 1) else if 192 ≤ b 0 ∧ b 0 < 224 then leadN 1 (b 0 - 192) 128 N b else if 224 ≤ b 0 ∧ b 0 < 240 then leadN 2 (b 0 - 224) 2048 N b
  else if 240 ≤ b 0 ∧ b 0 < 248 then leadN 3 (b 0 - 240) 65536 N b else (65533, 1) := by
 unfold Lib.decodeN
 by_cases h1 : b 0 < 128
 ·rw [if_pos h1, if_pos h1]
 rw [if_neg h1, if_neg h1]
 by_cases h2 : 192 ≤ b 0 ∧ b 0 < 224
 ·rw [if_pos h2, leadN, all1]
  have s1 : sixN (b 0 - 192) b 1 = (b 0 - 192) * 64 + b 1 % 64 := rfl
  rw [s1]
  have e1 : b 0 / 32 = 6 := by omega
  have e2 : b 0 % 32 = b 0 - 192 := by omega
  have e3 : ¬ b 0 / 16 = 14 := by omega
  have e4 : ¬ b 0 / 8 = 30 := by omega
  simp only [e1, e2, e3, e4, true_and, false_and, if_false]
  by_cases h3 : 1 < N ∧ b 1 / 64 = 2
  ·rw [if_pos h3, if_pos h3]
   repeat' split
   all_goals first | rfl | (exfalso; omega)
  rw [if_neg h3, if_neg h3]
 rw [if_neg h2]
 rw [if_neg (by omega)]
 by_cases h3 : 224 ≤ b 0 ∧ b 0 < 240
 ·rw [if_pos h3, leadN, show (2 : Nat) = 1 + 1 from rfl, allS, all1]
  have s1 : sixN (b 0 - 224) b (1 + 1) = ((b 0 - 224) * 64 + b 1 % 64) * 64 + b 2 % 64 := rfl
  rw [s1]
  have e1 : b 0 / 16 = 14 := by omega
  have e2 : b 0 % 16 = b 0 - 224 := by omega
  have e4 : ¬ b 0 / 8 = 30 := by omega
  simp only [e1, e2, e4, true_and, false_and, if_false]
  by_cases h5 : (1 < N ∧ b 1 / 64 = 2) ∧ 2 < N ∧ b 2 / 64 = 2
  ·rw [if_pos h5, if_pos h5]
   have e5 : (b 0 - 224) * 4096 + b 1 % 64 * 64 + b 2 % 64 = ((b 0 - 224) * 64 + b 1 % 64) * 64 + b 2 % 64 := by omega
   rw [e5]
   repeat' split
   all_goals first | rfl | (exfalso; omega)
  rw [if_neg h5, if_neg h5]
 rw [if_neg h3]
 rw [if_neg (by omega)]
 by_cases h4 : 240 ≤ b 0 ∧ b 0 < 248
 ·rw [if_pos h4, leadN, show (3 : Nat) = 1 + 1 + 1 from rfl, allS, allS, all1]
  have s1 : sixN (b 0 - 240) b (1 + 1 + 1) = (((b 0 - 240) * 64 + b 1 % 64) * 64 + b 2 % 64) * 64 + b 3 % 64 := rfl
  rw [s1]
  have e1 : b 0 / 8 = 30 := by omega
  have e2 : b 0 % 8 = b 0 - 240 := by omega
  simp only [e1, e2, true_and]
  by_cases h5 : ((1 < N ∧ b 1 / 64 = 2) ∧ 1 + 1 < N ∧ b (1 + 1) / 64 = 2) ∧ 1 + 1 + 1 < N ∧ b (1 + 1 + 1) / 64 = 2
  ·rw [if_pos h5, if_pos (by exact ⟨h5.1.1, h5.1.2, h5.2⟩)]
   have e5 : (b 0 - 240) * 262144 + b 1 % 64 * 4096 + b 2 % 64 * 64 + b 3 % 64 = (((b 0 - 240) * 64 + b 1 % 64) * 64 + b 2 % 64) * 64 + b 3 % 64 := by omega
   rw [e5]
   repeat' split
   all_goals first | rfl | (exfalso; omega)
  rw [if_neg h5, if_neg (fun h => h5 ⟨⟨h.1, h.2.1⟩, h.2.2⟩)]
 rw [if_neg h4, if_neg (by omega)]
theorem byteN_lt (l : Bs) (i : Nat) : byteN l i < 256 := by unfold byteN; exact UInt8.toNat_lt _
theorem decode_byteN (l : Bs) (i : Nat) : Utf8.decode ⟨l.toArray⟩ i = Lib.decodeN (l.length - i) (byteN l i) (byteN l (i + 1)) (byteN l (i + 2)) (byteN l (i + 3)) := by
 rw [Lib.decode_at]
 have e : ∀ k, ((⟨l.toArray⟩ : ByteArray).get! k).toNat = byteN l k := fun k => by
  unfold byteN
  simp [ByteArray.get!, List.getD]
  rfl
 rw [e, e, e, e]
 simp [ByteArray.size]
theorem getD_byte (s : ByteArray) (i : Nat) (hi : i < s.size) : s[i] = s.data.toList.getD i 0 := by
 show s.data[i] = _
 rw [List.getD_eq_getElem?_getD, List.getElem?_eq_getElem (by rw [Array.length_toList]; exact hi)]
 simp
theorem idx_byte {P : Program} (t : TypeId) (ht : P.underlying t = some .string) (S : ByteArray) (l : Bs) (hS : S = ⟨l.toArray⟩) (z : Int) (i : Nat) (hz : z = (i : Int)) (hi : i < l.length) (w : World) :
  (Instr.index t (.string S) (.int .i64 z)).run P w = .ok (.int .u8 (byteN l i : Nat)) w := by
 subst hz; subst hS
 have hs : (⟨l.toArray⟩ : ByteArray).size = l.length := by simp [ByteArray.size]
 rw [run_index_string w t _ .i64 _ ht, dif_pos ⟨by omega, by rw [hs]; omega⟩]
 have e : ((i : Int)).toNat = i := by omega
 simp only [e]
 rw [getD_byte _ i (by rw [hs]; exact hi)]
 simp [byteN]
end Garner
