import Derived.Test.YtecejnilajbdpaaGreatDoorTu17
import Derived.Test.YtecejnilajbdpaaGreatDoorTu23
import Derived.Test.YtecejnilajbdpaaGreatDoorTu20
import Derived.Recover
import Derived.Defers
import Derived.Laws.Pointers
import Derived.RegionTactic
import Derived.ChangeAlike
/-! rexp: Parse -/
namespace Go.Proofs.YtecejnilajbdpaaGreatDoor
open Go.RowKit Garner
theorem ta_no (w : World) : (Instr.typeAssert .nilIface 20 149 true).run Tryz.prog w = .ok (.tuple #[.agg #[.int .i64 0], .bool false]) w := by kernel_rfl
theorem ta_yes (w : World) : (Instr.typeAssert (.iface 149 faultV) 20 149 true).run Tryz.prog w = .ok (.tuple #[faultV, .bool true]) w := by kernel_rfl
set_option maxRecDepth 100000 in
theorem catch_idle (p q : Addr) (w : World) :
    CallsD Tryz.prog 88 #[.pointer (some p), .pointer (some q)] .returning w fun e u' w' => e = .returned (.tuple #[]) ∧ u' = .returning ∧ Below w.heap.size w w' := by
  refine callsD_of_wpS Tryz.func88 rfl fun c₀ cs hu => ?_
  apply wpS_seq
  apply wpS_region
  simp [wpOpsS, go_sem, recoverD, hu, Tryz.ntmps88, Exit.thenS, ta_no]
  refine wpS_of_wp ?_
  show Code.wp Tryz.prog _ _ ⟨#[.pointer (some p), .pointer (some q), .pointer (some ⟨w.heap.size, 0, none⟩), .bool false, .tuple #[.agg #[.int .i64 0], .bool false], .nilIface, .tuple #[.agg #[.int .i64 0], .bool false], .agg #[.int .i64 0], .bool false, undef, undef, undef], []⟩ _
  go_wp2
  cases c₀
  simp_all [bodyPostS, results, Tryz.results88]
  exact (Below.refl _ _).alloc (Nat.le_refl _) _
set_option maxRecDepth 100000 in
set_option maxHeartbeats 1000000 in
theorem catch_panic (b c : Nat) (w : World) (old : List PanicEntry) (hp : Blk w b 105 [.slice none 0 0]) (hq : Blk w c 29 [.int .i64 0]) (hbc : b ≠ c) :
    CallsD Tryz.prog 88 #[.pointer (some ⟨b, 0, none⟩), .pointer (some ⟨c, 0, none⟩)] (.panicking ({ v := .iface 149 faultV, recovered := false } :: old)) w fun e u' w' => e = .returned (.tuple #[]) ∧ u' = .panicking ({ v := .iface 149 faultV, recovered := true } :: old) ∧ Blk w' b 105 [.slice none 0 0] ∧ Blk w' c 29 [.int .i64 40] ∧ But [b, c] w w' := by
  refine callsD_of_wpS Tryz.func88 rfl fun c₀ cs hu => ?_
  apply wpS_seq
  apply wpS_region
  simp [wpOpsS, go_sem, recoverD, hu, Tryz.ntmps88, Exit.thenS, ta_yes]
  unfold faultV
  simp [go_sem]
  refine wpS_of_wp ?_
  have hpl := hp.lt
  have hql := hq.lt
  obtain ⟨X, hX⟩ : ∃ X, X = w.alloc (.cells #[.int .i64 40] 149) := ⟨_, rfl⟩
  have x0 : Blk X w.heap.size 149 [.int .i64 40] := by rw [hX]; exact Blk.new w _ _
  have xp : Blk X b 105 [.slice none 0 0] := by rw [hX]; exact hp.alloc _
  have xq : Blk X c 29 [.int .i64 0] := by rw [hX]; exact hq.alloc _
  have hwX : Below w.heap.size w X := by rw [hX]; exact (Below.refl _ _).alloc (Nat.le_refl _) _
  have n1 : b ≠ w.heap.size := by omega
  have n2 : c ≠ w.heap.size := by omega
  rw [← hX]
  show Code.wp Tryz.prog _ _ ⟨#[.pointer (some ⟨b, 0, none⟩), .pointer (some ⟨c, 0, none⟩), .pointer (some ⟨w.heap.size, 0, none⟩), .bool true, .tuple #[.agg #[.int .i64 40], .bool true], .iface 149 (.agg #[.int .i64 40]), .tuple #[.agg #[.int .i64 40], .bool true], .agg #[.int .i64 40], .bool true, undef, undef, undef], []⟩ _
  obtain ⟨B, hB⟩ : ∃ B, B = w.heap.size := ⟨_, rfl⟩
  rw [← hB] at x0 n1 n2 ⊢
  have HB := Lib.hid hB
  have c0 : X.cell? ⟨B, 0, none⟩ = some (.int .i64 40) := x0.cell 0
  have cp : X.cell? ⟨b, 0, none⟩ = some (.slice none 0 0) := xp.cell 0
  have cq : X.cell? ⟨c, 0, none⟩ = some (.int .i64 0) := xq.cell 0
  have fp := xp.frozen 0
  have fq := xq.frozen 0
  clear hB hX x0
  go_upto_region 2 with fail
  go_region
  all_goals
    cases c₀
    show bodyPostS _ _ _ _ _ _ _ _ _
    simp [bodyPostS, results, Tryz.results88]
    have p1 := xp.set_ 0 (.slice none 0 0)
    have p2 := xq.far (p := ⟨b, 0, none⟩) (fun e => hbc e.symm) (.slice none 0 0)
    exact ⟨(p1.far (p := ⟨c, 0, none⟩) hbc _).drew, (p2.set_ 0 _).drew, ((((But.of_below hwX).setCell (p := ⟨b, 0, none⟩) (by simp) _).setCell (p := ⟨c, 0, none⟩) (by simp) _).drew)⟩
theorem NodesIs.weak {F F' : Nat → Prop} {w : World} {B B' : Nat} {v : Value} {ns : List NodeP} (h : NodesIs F w B v ns) (hB : B' ≤ B) (hF : ∀ k, F k → F' k) : NodesIs F' w B' v ns := by
  obtain ⟨ds, e, ho, hd⟩ := h
  exact ⟨ds, e, own_mono ho hB, fun d hm => ⟨(hd d hm).kids, (hd d hm).set, fun a ha => hF _ ((hd d hm).kF a ha), fun a ha => hF _ ((hd d hm).sF a ha)⟩⟩
theorem res_cells {w5 W : World} {B : Nat} {a b : Value} (q5 : Blk w5 B 105 [.slice none 0 0]) (r5 : Blk w5 (B + 1) 29 [.int .i64 0]) (hW : W = (w5.setCell ⟨B, 0, none⟩ a).setCell ⟨B + 1, 0, none⟩ b) : Blk W B 105 [a] ∧ Blk W (B + 1) 29 [b] ∧ Below B w5 W ∧ KeepT [105, 29] w5 W := by
  subst hW
  have p1 := q5.set_ 0 a
  have p2 := r5.far (p := ⟨B, 0, none⟩) (by simp) a
  exact ⟨p1.far (p := ⟨B + 1, 0, none⟩) (by simp) b, p2.set_ 0 b, ((Below.refl _ _).setCell (p := ⟨B, 0, none⟩) (Nat.le_refl _) a).setCell (p := ⟨B + 1, 0, none⟩) (by simp) b, ((KeepT.refl _ _).setCell (p := ⟨B, 0, none⟩) q5 (by simp) a).setCell (p := ⟨B + 1, 0, none⟩) p2 (by simp) b⟩
theorem vSizeT {F : Nat → Prop} (B : Nat) (A : Option Addr) (c N : Nat) (t : Re) (w : World) (hN : (t.flat 0).length = N) (h : NodesIs F w B (.slice A N c) (t.flat 0)) (hlim : t.lim) (hc : N ≤ 10000) :
    ∃ x : Nat, (1000 < x ↔ 1000 < t.size) ∧ Calls Tryz.prog 91 #[.slice A N c] w fun e w' => e = .returned (.int .i64 (x : Nat)) ∧ Below w.heap.size w w' := by
  subst hN
  refine ⟨(sizesGo [] (t.flat 0)).getLastD 0, ?_, vSize B A c (t.flat 0) w h ?_ hc ?_ ?_⟩
  · rw [List.getLastD_eq_getLast?, size_root, Option.getD_some]
    omega
  · intro e
    have h1 := flat_len t 0
    have h2 := cnt_pos t
    rw [e] at h1
    simp only [List.length_nil] at h1
    omega
  · intro i n hn k hk
    have := wf_flat t 0 i n hn k hk
    omega
  · intro n hn
    rw [flat_len] at hc
    exact (flat_lim t 0 hlim n hn).mono hc
/-- what Parse answers -/
def OutP (o : Except Nat Re) (w : World) (e : Ending) (w' : World) : Prop := match o with
  | .error k => e = .returned (.tuple #[.slice none 0 0, .int .i64 (k : Nat)])
  | .ok t => ∃ v, e = .returned (.tuple #[v, .int .i64 0]) ∧ NodesIs (fun k => w.heap.size ≤ k ∧ k < w'.heap.size) w' w.heap.size v (t.flat 0)
set_option maxRecDepth 100000 in
set_option maxHeartbeats 16000000 in
theorem vParse (l : Bs) (w : World) (hL : Lt w) (hl : l.length ≤ 9223372036854775807) :
    Calls Tryz.prog 60 #[str l] w fun e w' => Below w.heap.size w w' ∧ OutP (rexpP l) w e w' := by
  have hmf : ∀ (fn : Fn) (first cap : Array Value) (w : World), (Instr.makeFunc fn first cap).run Tryz.prog w = .ok (.func fn first cap) w := fun _ _ _ _ => rfl
  have hsz := str_size l
  obtain ⟨OUT, hOUT⟩ : ∃ OUT, rexpP l = OUT := ⟨_, rfl⟩
  have hx := hOUT
  unfold rexpP at hx
  rw [hOUT]
  have HX := Lib.hid hx
  clear hx hOUT
  obtain ⟨X, hX⟩ : ∃ X, X = (w.alloc (.cells #[.slice none 0 0] 105)).alloc (.cells #[.int .i64 0] 29) := ⟨_, rfl⟩
  have hwX : Below w.heap.size w X := by rw [hX]; exact ((Below.refl _ _).alloc (Nat.le_refl _) _).alloc (by simp) _
  have xp : Blk X w.heap.size 105 [.slice none 0 0] := by rw [hX]; exact (Blk.new w _ [.slice none 0 0]).alloc _
  have xq : Blk X (w.heap.size + 1) 29 [.int .i64 0] := by
    rw [hX]
    have := Blk.new (w.alloc (.cells #[.slice none 0 0] 105)) 29 [.int .i64 0]
    simpa using this
  have hXs : X.heap.size = w.heap.size + 2 := by rw [hX]; simp
  go_enter_defers Tryz.func60, Tryz.ntmps60
  by_cases h128 : 128 < l.length
  · have hx := HX.out
    rw [if_pos h128] at hx
    have HX2 := Lib.hid hx
    clear hx
    go_wp2
    simp [bodyPostD, Leaves, results, Tryz.results60, go_sem]
    refine ⟨((Below.refl _ _).alloc (Nat.le_refl _) _).alloc (by simp) _, ?_⟩
    rw [← HX2.out]
    exact rfl
  · have hl2 : l.length ≤ 128 := by omega
    have hx := HX.out
    rw [if_neg h128] at hx
    have hv := cValid l X (hL.below hwX) hl
    have z1 : ¬ (128 : Int) < (l.length : Int) := by omega
    cases hval : Lib.validD l with
    | false =>
      rw [hval] at hv
      rw [if_pos hval] at hx
      have HX2 := Lib.hid hx; have Hv := Lib.hid hv; have HxX := Lib.hid hX
      clear hx hv hval hX
      go_wp2_with fail
      rw [← HxX.out]
      refine Hv.out.mono ?_
      rintro e w2 ⟨rfl, b2⟩
      have yp := xp.below b2 xp.lt
      have yq := xq.below b2 xq.lt
      have cp : w2.cell? ⟨w.heap.size, 0, none⟩ = some (.slice none 0 0) := yp.cell 0
      have cq : w2.cell? ⟨w.heap.size + 1, 0, none⟩ = some (.int .i64 0) := yq.cell 0
      have fp := yp.frozen 0
      have fq := yq.frozen 0
      have hw2 := hwX.trans (b2.mono hwX.size)
      go_wp2
      simp [bodyPostD, Leaves, results, Tryz.results60, go_sem, cp, cq]
      refine ⟨(hw2.setCell (p := ⟨w.heap.size, 0, none⟩) (Nat.le_refl _) _).setCell (p := ⟨w.heap.size + 1, 0, none⟩) (by simp) _, ?_⟩
      rw [← HX2.out]
      exact rfl
    | true =>
      rw [hval] at hv
      rw [if_neg (by rw [hval]; decide)] at hx
      have HX2 := Lib.hid hx; have Hv := Lib.hid hv; have HxX := Lib.hid hX
      clear hx hv hval hX
      go_wp2_with fail
      rw [← HxX.out]
      refine Hv.out.mono ?_
      rintro e w2 ⟨rfl, b2⟩
      have yp := xp.below b2 xp.lt
      have yq := xq.below b2 xq.lt
      have cp : w2.cell? ⟨w.heap.size, 0, none⟩ = some (.slice none 0 0) := yp.cell 0
      have cq : w2.cell? ⟨w.heap.size + 1, 0, none⟩ = some (.int .i64 0) := yq.cell 0
      have fp := yp.frozen 0
      have fq := yq.frozen 0
      have hw2 := hwX.trans (b2.mono hwX.size)
      obtain ⟨c, w3, hcv, hrow, b3, hcap, hs3⟩ := conv_runes l w2 (by omega)
      have hs2 := b2.size
      have hrl := runes_len _ l (Nat.le_refl _)
      obtain ⟨n, hn⟩ : ∃ n, (runesP l).length = n := ⟨_, rfl⟩
      have hcap2 : n ≤ c := by omega
      obtain ⟨w4, hw4⟩ : ∃ w4, w4 = w3.alloc (.cells #[.slice (some ⟨w2.heap.size, 0, none⟩) n c, .slice none 0 0, .int .i64 0, .int .i64 0] 147) := ⟨_, rfl⟩
      have b4 : Below w3.heap.size w3 w4 := by rw [hw4]; exact (Below.refl _ _).alloc (Nat.le_refl _) _
      have hbk : Blk w4 (w2.heap.size + 1) 147 [.slice (some ⟨w2.heap.size, 0, none⟩) n c, .slice none 0 0, .int .i64 0, .int .i64 0] := by
        rw [hw4, ← hs3]; exact Blk.new w3 _ _
      have hs4 : w4.heap.size = w2.heap.size + 2 := by rw [hw4]; simp [hs3]
      have hps : PS (fun k => k = w2.heap.size) w4 (w2.heap.size + 1) (runesP l) [] 0 0 := by
        refine ⟨⟨some ⟨w2.heap.size, 0, none⟩, c, none, 0, by rw [hn]; exact hbk, hrow.below b4, hcap, ⟨fun e => (by cases e), fun a e => (by cases e; rfl)⟩, [], rfl, World.ownsRow_nil _ _ _ _, by simp⟩, fun k hk => by subst hk; omega, Nat.le_refl _, by omega, runes_le _ l (Nat.le_refl _), by simp, by omega⟩
      have ha := allC (runesP l).length _ (w2.heap.size + 1) w4 (runesP l) [] 0 0 (Nat.le_refl _) hps (by simp; omega) (by omega)
      have hw24 : Below w.heap.size w w4 := hw2.trans ((b3.mono (by omega)).trans (b4.mono (by omega)))
      have zp : Blk w4 w.heap.size 105 [.slice none 0 0] := (yp.below b3 yp.lt).below b4 (by omega)
      have zq : Blk w4 (w.heap.size + 1) 29 [.int .i64 0] := (yq.below b3 yq.lt).below b4 (by omega)
      rw [hn] at hcv
      have HA := Lib.hid ha; have Hn := Lib.hid hn; have Hw4 := Lib.hid hw4
      clear ha hn hw4 hps hbk hrow hcap
      go_wp2_with fail
      rw [← Hw4.out]
      refine HA.out.mono ?_
      rintro e w5 ⟨k5, o5⟩
      have q5 := zp.below k5.low (by omega)
      have r5 := zq.below k5.low (by omega)
      have hw5 := hw24.trans (k5.low.mono (by omega))
      cases hal : altF (runesP l) with
      | none =>
        rw [hal] at o5
        obtain rfl : e = faulted := o5
        have hrd : readR (runesP l) = .error 40 := by
          unfold readR
          rw [show altsR (4 * (runesP l).length + 4) (runesP l) = none from hal]
        have s5 := k5.low.size
        have hw45 := hw5.size
        refine leaves_cons (f := 88) (args := #[.pointer (some ⟨w.heap.size, 0, none⟩), .pointer (some ⟨w.heap.size + 1, 0, none⟩)]) (by simp) (by simp [go_sem]) ?_
        refine (catch_panic w.heap.size (w.heap.size + 1) w5 [] q5 r5 (by omega)).mono ?_
        rintro e u' w9 ⟨rfl, rfl, p9, q9, hb9⟩
        have c9 : w9.cell? ⟨w.heap.size, 0, none⟩ = some (.slice none 0 0) := p9.cell 0
        have d9 : w9.cell? ⟨w.heap.size + 1, 0, none⟩ = some (.int .i64 40) := q9.cell 0
        simp [Leaves, settle, results, Tryz.results60, go_sem, c9, d9]
        refine ⟨hw5.trans (hb9.below (by omega) (by simp)), ?_⟩
        rw [← HX2.out, hrd]
        exact rfl
      | some q =>
        obtain ⟨ts, r, d⟩ := q
        rw [hal] at o5
        obtain ⟨rfl, h5⟩ := o5
        dsimp only at h5
        rw [show max 0 (0 + d) = d by omega, List.nil_append] at h5
        have hrd : readR (runesP l) = if r ≠ [] then .error 40 else if 16 < d then .error 9 else if 1000 < (manyR .alt ts).size then .error 3 else .ok (manyR .alt ts) := by
          unfold readR
          rw [show altsR (4 * (runesP l).length + 4) (runesP l) = some (ts, r, d) from hal]
        have hOUT := HX2.out
        rw [hrd] at hOUT
        have HX3 := Lib.hid hOUT
        obtain ⟨A5, c5, O5, m5, hb5, hr5, hc5, hA5, hn5⟩ := h5.ex
        have hcn := (altF_cnt hal).1
        have hlim : (manyR .alt ts).lim := many_lim (mk := .alt) (fun _ => rfl) ((parse_lim _).1 hal)
        obtain ⟨t, ht⟩ : ∃ t, manyR .alt ts = t := ⟨_, rfl⟩
        rw [ht] at h5 hb5 hn5 HX3 hlim
        have Hlim := Lib.hid hlim; clear hlim
        have htc : t.cnt ≤ cnts ts + 1 := by rw [← ht]; exact many_cnt .alt (fun _ => rfl) ts
        obtain ⟨N, hN⟩ : ∃ N, (t.flat 0).length = N := ⟨_, rfl⟩
        have e0 : ([] : List NodeP).length = 0 := rfl
        rw [e0] at hb5 hn5
        rw [hN] at hb5 hn5
        have hNc : N = t.cnt := by rw [← hN, flat_len]
        have g0 : w5.cell? ⟨w2.heap.size + 1, 0, none⟩ = some (.slice A5 r.length c5) := hb5.cell 0
        have g1 : w5.cell? ⟨w2.heap.size + 1, 1, none⟩ = some (.slice O5 N m5) := hb5.cell 1
        have g3 : w5.cell? ⟨w2.heap.size + 1, 3, none⟩ = some (.int .i64 (d : Nat)) := hb5.cell 3
        have s5 := k5.low.size
        have s45 := k5.keep.size
        have c5p : w5.cell? ⟨w.heap.size, 0, none⟩ = some (.slice none 0 0) := q5.cell 0
        have c5q : w5.cell? ⟨w.heap.size + 1, 0, none⟩ = some (.int .i64 0) := r5.cell 0
        have f5p := q5.frozen 0
        have f5q := r5.frozen 0
        have Hn5 := Lib.hid hn5
        have H5 := Lib.hid h5
        clear hrd hOUT hal hr5 hA5 hn5 h5 hb5 ht e0 hc5 HX2 HA k5
        have hN4 : N ≤ 10000 := by omega
        by_cases hr : r = []
        · subst hr
          go_wp2_with fail
          refine (vMust_t _ rfl _).mono ?_
          rintro e w6 ⟨rfl, hw6⟩
          obtain rfl : w5 = w6 := hw6.symm
          by_cases h16 : 16 < d
          · have z16 : (16 : Int) < (d : Int) := by omega
            go_wp2
            obtain ⟨W, hW⟩ : ∃ W, W = (w5.setCell ⟨w.heap.size, 0, none⟩ (.slice none 0 0)).setCell ⟨w.heap.size + 1, 0, none⟩ (.int .i64 9) := ⟨_, rfl⟩
            obtain ⟨Wp, Wq, bW, kW⟩ := res_cells q5 r5 hW
            rw [← hW]
            refine leaves_cons (f := 88) (args := #[.pointer (some ⟨w.heap.size, 0, none⟩), .pointer (some ⟨w.heap.size + 1, 0, none⟩)]) (by simp) (by simp [go_sem]) ?_
            refine (catch_idle ⟨w.heap.size, 0, none⟩ ⟨w.heap.size + 1, 0, none⟩ _).mono ?_
            rintro e u' w9 ⟨rfl, rfl, b9⟩
            have c9 : w9.cell? ⟨w.heap.size, 0, none⟩ = some (.slice none 0 0) := (Wp.below b9 Wp.lt).cell 0
            have d9 : w9.cell? ⟨w.heap.size + 1, 0, none⟩ = some (.int .i64 9) := (Wq.below b9 Wq.lt).cell 0
            simp [Leaves, settle, results, Tryz.results60, go_sem, c9, d9]
            have sW := bW.size
            refine ⟨(hw5.trans bW).trans (b9.mono (by omega)), ?_⟩
            rw [← HX3.out, if_neg (by simp), if_pos h16]
            exact rfl
          · have z16 : ¬ (16 : Int) < (d : Int) := by omega
            obtain ⟨x, hx2, hsz⟩ := vSizeT _ O5 m5 N t w5 hN Hn5.out Hlim.out hN4
            have Hsz := Lib.hid hsz; have Hx := Lib.hid hx2
            clear hsz hx2 hN hNc htc hcn
            go_wp2_with fail
            refine Hsz.out.mono ?_
            rintro e w6 ⟨rfl, b6⟩
            have q6 := q5.below b6 q5.lt
            have r6 := r5.below b6 r5.lt
            have c6p : w6.cell? ⟨w.heap.size, 0, none⟩ = some (.slice none 0 0) := q6.cell 0
            have c6q : w6.cell? ⟨w.heap.size + 1, 0, none⟩ = some (.int .i64 0) := r6.cell 0
            have f6p := q6.frozen 0
            have f6q := r6.frozen 0
            have g1' : w6.cell? ⟨w2.heap.size + 1, 1, none⟩ = some (.slice O5 N m5) := by
              rw [b6.cell (p := ⟨w2.heap.size + 1, 1, none⟩) (by show w2.heap.size + 1 < _; omega)]; exact g1
            have s6 := b6.size
            by_cases h1000 : 1000 < x
            · have z17 : (1000 : Int) < (x : Int) := by omega
              have ht3 : 1000 < t.size := Hx.out.1 h1000
              go_wp2
              obtain ⟨W, hW⟩ : ∃ W, W = (w6.setCell ⟨w.heap.size, 0, none⟩ (.slice none 0 0)).setCell ⟨w.heap.size + 1, 0, none⟩ (.int .i64 3) := ⟨_, rfl⟩
              obtain ⟨Wp, Wq, bW, kW⟩ := res_cells q6 r6 hW
              rw [← hW]
              refine leaves_cons (f := 88) (args := #[.pointer (some ⟨w.heap.size, 0, none⟩), .pointer (some ⟨w.heap.size + 1, 0, none⟩)]) (by simp) (by simp [go_sem]) ?_
              refine (catch_idle ⟨w.heap.size, 0, none⟩ ⟨w.heap.size + 1, 0, none⟩ _).mono ?_
              rintro e u' w9 ⟨rfl, rfl, b9⟩
              have c9 : w9.cell? ⟨w.heap.size, 0, none⟩ = some (.slice none 0 0) := (Wp.below b9 Wp.lt).cell 0
              have d9 : w9.cell? ⟨w.heap.size + 1, 0, none⟩ = some (.int .i64 3) := (Wq.below b9 Wq.lt).cell 0
              simp [Leaves, settle, results, Tryz.results60, go_sem, c9, d9]
              have sW := bW.size
              refine ⟨((hw5.trans (b6.mono (by omega))).trans bW).trans (b9.mono (by omega)), ?_⟩
              rw [← HX3.out, if_neg (by simp), if_neg h16, if_pos ht3]
              exact rfl
            · have z17 : ¬ (1000 : Int) < (x : Int) := by omega
              have ht3 : ¬ 1000 < t.size := fun h => h1000 (Hx.out.2 h)
              go_wp2
              obtain ⟨W, hW⟩ : ∃ W, W = (w6.setCell ⟨w.heap.size, 0, none⟩ (.slice O5 N m5)).setCell ⟨w.heap.size + 1, 0, none⟩ (.int .i64 0) := ⟨_, rfl⟩
              obtain ⟨Wp, Wq, bW, kW⟩ := res_cells q6 r6 hW
              rw [← hW]
              refine leaves_cons (f := 88) (args := #[.pointer (some ⟨w.heap.size, 0, none⟩), .pointer (some ⟨w.heap.size + 1, 0, none⟩)]) (by simp) (by simp [go_sem]) ?_
              refine (catch_idle ⟨w.heap.size, 0, none⟩ ⟨w.heap.size + 1, 0, none⟩ _).mono ?_
              rintro e u' w9 ⟨rfl, rfl, b9⟩
              have c9 : w9.cell? ⟨w.heap.size, 0, none⟩ = some (.slice O5 N m5) := (Wp.below b9 Wp.lt).cell 0
              have d9 : w9.cell? ⟨w.heap.size + 1, 0, none⟩ = some (.int .i64 0) := (Wq.below b9 Wq.lt).cell 0
              simp [Leaves, settle, results, Tryz.results60, go_sem, c9, d9]
              have sW := bW.size
              refine ⟨((hw5.trans (b6.mono (by omega))).trans bW).trans (b9.mono (by omega)), ?_⟩
              rw [← HX3.out, if_neg (by simp), if_neg h16, if_neg ht3]
              have s9 := b9.size
              have kk : KeepT [105, 29] w5 w9 := (KeepT.of_below b6).trans (kW.trans (.of_below b9))
              refine ⟨_, rfl, ((Hn5.out.keep kk (by decide) (by decide) (by decide)).weak (by omega) fun k hk => ?_)⟩
              rcases hk with hk | hk
              · subst hk; exact ⟨by omega, by omega⟩
              · exact ⟨by omega, by omega⟩
        · obtain ⟨rl, hrl2⟩ : ∃ rl, r.length = rl := ⟨_, rfl⟩
          have hrl3 : ¬ rl = 0 := fun e => hr (List.eq_nil_of_length_eq_zero (by rw [hrl2, e]))
          rw [hrl2] at g0
          have z5 : ((rl : Int) == 0) = false := by simp; omega
          have z5' : ¬ (rl : Int) = 0 := by omega
          have HX4 : Hid (OUT = .error 40) := Lib.hid (by rw [← HX3.out, if_pos hr])
          clear hr hrl2 hrl3
          go_wp2_with fail
          refine (vMust_f _ rfl _).mono ?_
          rintro e w6 ⟨rfl, hw6⟩
          obtain rfl : w5 = w6 := hw6.symm
          refine leaves_cons (f := 88) (args := #[.pointer (some ⟨w.heap.size, 0, none⟩), .pointer (some ⟨w.heap.size + 1, 0, none⟩)]) (by simp) (by simp [go_sem]) ?_
          refine (catch_panic w.heap.size (w.heap.size + 1) w5 [] q5 r5 (by omega)).mono ?_
          rintro e u' w9 ⟨rfl, rfl, p9, q9, hb9⟩
          have c9 : w9.cell? ⟨w.heap.size, 0, none⟩ = some (.slice none 0 0) := p9.cell 0
          have d9 : w9.cell? ⟨w.heap.size + 1, 0, none⟩ = some (.int .i64 40) := q9.cell 0
          simp [Leaves, settle, results, Tryz.results60, go_sem, c9, d9]
          refine ⟨hw5.trans (hb9.below (by omega) (by simp)), ?_⟩
          rw [HX4.out]
          exact rfl
end Go.Proofs.YtecejnilajbdpaaGreatDoor

