import Derived.Test.YtecejnilajbdpaaGreatDoorTs36
import Derived.Test.YtecejnilajbdpaaGreatDoorTs30
import Derived.Test.YtecejnilajbdpaaGreatDoorTs23
import Derived.Test.YtecejnilajbdpaaGreatDoorTs06
namespace Go.Proofs.YtecejnilajbdpaaGreatDoor
open Go.RowKit Garner
set_option maxRecDepth 100000 in
set_option maxHeartbeats 16000000 in
theorem qParse (l : Bs) (w : World) (hl : l.length ≤ 9223372036854775807) :
  Calls Tryz.prog 56 #[str l] w fun e w' => Below w.heap.size w w' ∧ OutP (rexpP l) w e w' := by
 have hsz := str_size l
 obtain ⟨OUT, hOUT⟩ : ∃ OUT, rexpP l = OUT := ⟨_, rfl⟩
 have hx := hOUT
 unfold rexpP at hx
 rw [hOUT]
 have HX := Lib.hid hx
 clear hx hOUT
 go_enter Tryz.func56, Tryz.ntmps56
 by_cases h128 : 128 < l.length
 ·have hx := HX.out
  rw [if_pos h128] at hx
  have HX2 := Lib.hid hx
  have z1 : (128 : Int) < (l.length : Int) := by omega
  clear hx
  go_wp2
  go_ret2
  exact ⟨Below.refl _ _, by rw [← HX2.out]; exact rfl⟩
 ·have hl2 : l.length ≤ 128 := by omega
  have hx := HX.out
  rw [if_neg h128] at hx
  have z1 : ¬ (128 : Int) < (l.length : Int) := by omega
  have hv := vRunes ⟨l.toArray⟩ l rfl w (by omega)
  cases hval : Lib.validD l with
  | false =>
   rw [hval] at hv
   rw [if_pos hval] at hx
   have HX2 := Lib.hid hx; have Hv := Lib.hid hv
   clear hx hv hval
   go_wp2_with fail
   refine Hv.out.mono ?_
   rintro e w2 ⟨v, rfl, -, b2⟩
   go_wp2
   go_ret2
   exact ⟨b2, by rw [← HX2.out]; exact rfl⟩
  | true =>
   rw [hval] at hv
   rw [if_neg (by rw [hval]; decide)] at hx
   have HX2 := Lib.hid hx; have Hv := Lib.hid hv
   clear hx hv hval
   go_wp2_with fail
   refine Hv.out.mono ?_
   rintro e w2 ⟨v, rfl, hown, b2⟩
   obtain ⟨A, c, rfl, -⟩ := own_form hown
   have hrl := runes_len _ l (Nat.le_refl _)
   obtain ⟨n, hn⟩ : ∃ n, (runesP l).length = n := ⟨_, rfl⟩
   have hr2 := RowT.of_own hown
   have hlt := hown.lt
   rw [hn] at hr2 hrl hlt ⊢
   have s2 := b2.size
   obtain ⟨w4, hw4⟩ : ∃ w4, w4 = w2.alloc (.cells #[.slice A n c, .int .i64 0, .slice none 0 0, .int .i64 0, .int .i64 0, .bool false] 132) := ⟨_, rfl⟩
   have b4 : Below w2.heap.size w2 w4 := by rw [hw4]; exact (Below.refl _ _).alloc (Nat.le_refl _) _
   have hbk : Blk w4 w2.heap.size 132 [.slice A n c, .int .i64 0, .slice none 0 0, .int .i64 0, .int .i64 0, .bool false] := by
    rw [hw4]; exact Blk.new w2 _ _
   have hs4 : w4.heap.size = w2.heap.size + 1 := by rw [hw4]; simp
   have hqs : QS (fun k => w.heap.size ≤ k ∧ k < w2.heap.size) w4 w2.heap.size n (runesP l) [] 0 0 := by
    refine ⟨⟨A, c, none, 0, runesP l, 0, hbk, hr2.below b4, fun a e => hlt a.block (by rw [e]; rfl), ⟨[], rfl, World.ownsRow_nil _ _ _ _, by simp⟩, by simp, Nat.zero_le _, hn, runes_le _ l (Nat.le_refl _)⟩, fun k hk => by omega, Nat.le_refl _, by omega, by simp, by omega⟩
   have ha := allQ (runesP l).length _ w2.heap.size n w4 (runesP l) [] 0 0 (Nat.le_refl _) hqs (by simp; omega) (by omega)
   have hw24 : Below w.heap.size w w4 := b2.trans (b4.mono s2)
   have HA := Lib.hid ha; have Hn := Lib.hid hn; have Hw4 := Lib.hid hw4
   clear ha hn hw4 hbk hr2 hlt hown
   go_wp2_with fail
   rw [← Hw4.out]
   refine HA.out.mono ?_
   rintro e w5 ⟨k5, o5⟩
   have hw5 := hw24.trans (k5.low.mono s2)
   cases hal : altF (runesP l) with
   | none =>
    rw [hal] at o5
    obtain ⟨x, m, rfl, hx5, -⟩ := o5
    obtain ⟨c5, f5⟩ := hx5.cell5
    have hrd : readR (runesP l) = .error 40 := by
     unfold readR
     rw [show altsR (4 * (runesP l).length + 4) (runesP l) = none from hal]
    have hOUT := HX2.out
    rw [hrd] at hOUT
    have HX3 := Lib.hid hOUT
    clear hrd hOUT hal hx5 HA k5
    go_wp2
    go_ret2
    exact ⟨hw5, by rw [← HX3.out]; exact rfl⟩
   | some q =>
    obtain ⟨ts, r, d⟩ := q
    rw [hal] at o5
    obtain ⟨rfl, h5⟩ := o5
    dsimp only at h5
    rw [show max 0 (0 + d) = d by omega, List.nil_append] at h5
    have hrd : readR (runesP l) = if r ≠ [] then .error 40 else if 16 < d then .error 9 else if 1000 < (manyR .alt ts).size then .error 3 else .ok (manyR .alt ts) := by
     unfold readR
     rw [show altsR (4 * (runesP l).length + 4) (runesP l) = some (ts, r, d) from hal]
    have hOUT := HX2.out
    rw [hrd] at hOUT
    obtain ⟨A5, c5, O5, m5, rs0, p, hb5, hr5, hA5, hn5, hdr, hpn, hrs0, -⟩ := h5.ex
    have hcn := (altF_cnt hal).1
    have hlim : (manyR .alt ts).lim := many_lim (mk := .alt) (fun _ => rfl) ((parse_lim _).1 hal)
    obtain ⟨t, ht⟩ : ∃ t, manyR .alt ts = t := ⟨_, rfl⟩
    rw [ht] at hb5 hn5 hOUT hlim
    have htc : t.cnt ≤ cnts ts + 1 := by rw [← ht]; exact many_cnt .alt (fun _ => rfl) ts
    obtain ⟨N, hN⟩ : ∃ N, (t.flat 0).length = N := ⟨_, rfl⟩
    have e0 : ([] : List NodeP).length = 0 := rfl
    rw [e0] at hb5 hn5
    rw [hN] at hb5 hn5
    have hNc : N = t.cnt := by rw [← hN, flat_len]
    have hcp := cnt_pos t
    have g1 : w5.cell? ⟨w2.heap.size, 1, none⟩ = some (.int .i64 (p : Nat)) := hb5.cell 1
    have g2 : w5.cell? ⟨w2.heap.size, 2, none⟩ = some (.slice O5 N m5) := hb5.cell 2
    have g4 : w5.cell? ⟨w2.heap.size, 4, none⟩ = some (.int .i64 (d : Nat)) := hb5.cell 4
    have g5 : w5.cell? ⟨w2.heap.size, 5, none⟩ = some (.bool false) := hb5.cell 5
    have HX3 := Lib.hid hOUT; have Hn5 := Lib.hid hn5
    have hrp : r = [] ↔ p = n := by
     rw [hdr, List.drop_eq_nil_iff, hrs0]; omega
    have Hrp := Lib.hid hrp
    have hN4 : N ≤ 10000 := by have := Hn.out; omega
    obtain ⟨x, hxs, hsz2⟩ : ∃ x : Nat, (1000 < x ↔ 1000 < t.size) ∧ Calls Tryz.prog 82 #[.slice O5 N m5, .int .i64 ((N - 1 : Nat) : Int)] w5 fun e w' => e = .returned (.int .i64 (x : Nat)) ∧ w' = w5 := by
     refine ⟨(sizesGo [] (t.flat 0)).getD (N - 1) 0, ?_, qSize _ O5 m5 N (t.flat 0) w5 hN hn5 hN4 (fun i n hn k hk => by have := wf_flat t 0 i n hn k hk; omega) (fun n hn => (flat_lim t 0 hlim n hn).mono (by omega)) (N - 1 + 1) (N - 1) (Nat.lt_succ_self _) (by omega)⟩
     have h1 := size_root t
     rw [List.getLast?_eq_getElem?, sizesGo_len, hN] at h1
     rw [List.getD_eq_getElem?_getD, show N - 1 = ([] : List Nat).length + N - 1 by simp, h1, Option.getD_some]
     omega
    have hroot : ([] : List NodeP).length + (manyR Re.alt ts).cnt - 1 = N - 1 := by rw [ht, hNc]; simp
    rw [hroot]
    have Hsz := Lib.hid hsz2; have Hxs := Lib.hid hxs
    have s5 := k5.low.size
    have hS5 : NodesIs (fun k => w.heap.size ≤ k ∧ k < w5.heap.size) w5 w.heap.size (.slice O5 N m5) (t.flat 0) := hn5.weak (by omega) (fun k hk => by
     rcases hk with hk | hk
     ·exact ⟨hk.1, by omega⟩
     ·exact ⟨by omega, hk.2⟩)
    have HS5 := Lib.hid hS5
    clear hsz2 hxs hS5 hroot hn5 hb5 hr5 hOUT hrd hal hrp hlim h5 hdr hpn hrs0 hcn htc hNc hN ht e0 HA k5 hA5
    by_cases hp : p = n
    ·have hq1 : ((p : Int) != (n : Int)) = false := by simp; omega
     have hr0 : r = [] := Hrp.out.2 hp
     have hx3 := HX3.out
     rw [if_neg (fun e => e hr0)] at hx3
     have HX4 := Lib.hid hx3
     clear hx3 hr0 hp
     by_cases h16 : 16 < d
     ·have z16 : (16 : Int) < (d : Int) := by omega
      have hx4 := HX4.out
      rw [if_pos h16] at hx4
      have HX5 := Lib.hid hx4
      clear hx4
      go_wp2
      go_ret2
      exact ⟨hw5, by rw [← HX5.out]; exact rfl⟩
     ·have z16 : ¬ (16 : Int) < (d : Int) := by omega
      have hx4 := HX4.out
      rw [if_neg h16] at hx4
      have HX5 := Lib.hid hx4
      clear hx4
      go_wp2_with fail
      refine Hsz.out.mono ?_
      rintro e w6 ⟨rfl, hw6⟩
      obtain rfl : w5 = w6 := hw6.symm
      by_cases hbig : 1000 < x
      ·have zb : (1000 : Int) < (x : Int) := by omega
       have hx5 := HX5.out
       rw [if_pos (Hxs.out.1 hbig)] at hx5
       have HX6 := Lib.hid hx5
       clear hx5
       go_wp2
       go_ret2
       exact ⟨hw5, by rw [← HX6.out]; exact rfl⟩
      ·have zb : ¬ (1000 : Int) < (x : Int) := by omega
       have hx5 := HX5.out
       rw [if_neg (fun h => hbig (Hxs.out.2 h))] at hx5
       have HX6 := Lib.hid hx5
       clear hx5
       go_wp2
       go_ret2
       exact ⟨hw5, by rw [← HX6.out]; exact ⟨_, rfl, HS5.out⟩⟩
    ·have hq1 : ((p : Int) != (n : Int)) = true := by simp; omega
     have hx3 := HX3.out
     rw [if_pos (fun e => hp (Hrp.out.1 e))] at hx3
     have HX4 := Lib.hid hx3
     clear hx3 hp
     go_wp2
     go_ret2
     exact ⟨hw5, by rw [← HX4.out]; exact rfl⟩
end Go.Proofs.YtecejnilajbdpaaGreatDoor
namespace Garner
open Go
def orB (a b : List Bool) : List Bool := List.zipWith (fun x y => x || y) a b
theorem orB_len {a b : List Bool} (h : b.length = a.length) : (orB a b).length = a.length := by
 unfold orB; rw [List.length_zipWith, h, Nat.min_self]
theorem orB_at {a b : List Bool} {k : Nat} {x y : Bool} (h1 : a[k]? = some x) (h2 : b[k]? = some y) : (orB a b)[k]? = some (x || y) := by
 unfold orB; rw [List.getElem?_zipWith, h1, h2]
theorem take_set {l : List Bool} {k n : Nat} {x : Bool} (h : l[k]? = some x) (hk : k < n) : (l.take k ++ List.replicate (n - k) false).set k x = l.take (k + 1) ++ List.replicate (n - (k + 1)) false := by
 obtain ⟨h1, h2⟩ := List.getElem?_eq_some_iff.1 h
 have hl : (l.take k).length = k := by rw [List.length_take]; omega
 rw [List.set_append, if_neg (by omega), hl, Nat.sub_self, show n - k = (n - (k + 1)) + 1 by omega, List.replicate_succ, List.set_cons_zero, List.take_succ_eq_append_getElem h1, h2, List.append_assoc]
 rfl
end Garner
namespace Go.Proofs.YtecejnilajbdpaaGreatDoor
open Go.RowKit Garner
theorem boolE : Elem Tryz.prog 153 4 (.bool false) 1 1 := ⟨Tryz.underlying153, by kernel_rfl, rfl, by omega, by omega⟩
theorem mkBools (n : Nat) (u : World) (hn : n ≤ 2000000) : ∃ w', (Instr.makeSlice 153 (.int .i64 n) (.int .i64 n)).run Tryz.prog u = .ok (.slice (some ⟨u.heap.size, 0, none⟩) n n) w' ∧
  w'.ownsRow u.heap.size 4 1 (.slice (some ⟨u.heap.size, 0, none⟩) n n) n ((List.replicate n false).map Value.bool) ∧ Below u.heap.size u w' := by
 obtain ⟨i, hi, hz, hsz, hby⟩ : ∃ i, Tryz.prog.info? 4 = some i ∧ i.zero = some (.bool false) ∧ i.size = 1 ∧ i.bytes = 1 := by
  have h := boolE.info
  cases hi : Tryz.prog.info? 4 with
  | none => rw [hi] at h; cases h
  | some i => rw [hi] at h; simp at h; exact ⟨i, rfl, h.1, h.2.1, h.2.2⟩
 obtain ⟨w', h1, h2, h3⟩ := run_make_full (P := Tryz.prog) u u.heap.size 153 4 i _ 1 boolE.slice hi hz hsz .i64 .i64 n (by rw [hby]; omega) (by unfold maxLen; omega) (Nat.le_refl _)
 refine ⟨w', h1, ?_, (But.grown (S := []) h3 (by simp)).below (Nat.le_refl _) (by simp)⟩
 have e : (madeCells (Value.bool false).cells (n * 1)).toList = (List.replicate n false).map Value.bool := by
  rw [Nat.mul_one, List.map_replicate]
  apply List.ext_getElem
  ·simp [madeCells]
  ·intro k h1 h2
   simp [madeCells, Nat.mod_one, Value.cells]
 rw [← e]; exact h2
set_option maxRecDepth 100000 in
set_option maxHeartbeats 8000000 in
theorem wJoin (a b : List Bool) (A B : Option Addr) (c c' n : Nat) (w : World) (ha : a.length = n) (hb : b.length = n) (hn : n ≤ 2000000) (ra : RowT w 4 A n (a.map Value.bool)) (rb : RowT w 4 B n (b.map Value.bool)) :
  Calls Tryz.prog 125 #[.slice A n c, .slice B n c'] w fun e w' => ∃ C c2, e = .returned (.slice C n c2) ∧ w'.ownsRow w.heap.size 4 1 (.slice C n c2) n ((orB a b).map Value.bool) ∧ Below w.heap.size w w' := by
 obtain ⟨R, hR⟩ : ∃ R, orB a b = R := ⟨_, rfl⟩
 have hRl : R.length = n := by rw [← hR, orB_len (hb.trans ha.symm), ha]
 obtain ⟨w1, hmk, own1, b1⟩ := mkBools n w hn
 have HR := Lib.hid hR; have HRl := Lib.hid hRl; have Ha := Lib.hid ha; have Hb := Lib.hid hb
 have s1 := b1.size
 rw [hR]
 clear hR hRl ha hb
 go_enter Tryz.func125, Tryz.ntmps125
 go_wp2
 go_loopw [6] (fun i wr => ∃ k : Nat, k ≤ n ∧ i = .int .i64 k ∧ wr.ownsRow w.heap.size 4 1 (.slice (some ⟨w.heap.size, 0, none⟩) n n) n ((R.take k ++ List.replicate (n - k) false).map Value.bool) ∧ Below w.heap.size w wr) (fun i _ => n - (intOf i).toNat)
 case atStart => exact ⟨0, Nat.zero_le _, rfl, by simpa using own1, b1⟩
 case round =>
  obtain ⟨k, hk, rfl, hown, hbel⟩ := hrel
  obtain ⟨wo, rfl⟩ : ∃ wo : World, wo = wr := ⟨_, rfl⟩
  have wk1 : IntKind.i64.wrap ((k : Int) + 1) = ((k + 1 : Nat) : Int) := by rw [IntKind.wrap_i64]; omega
  by_cases hlt : k < n
  ·have z1 : (k : Int) < (n : Int) := by omega
   obtain ⟨x, hx⟩ : ∃ x, a[k]? = some x := ⟨_, List.getElem?_eq_getElem (by rw [Ha.out]; exact hlt)⟩
   obtain ⟨y, hy⟩ : ∃ y, b[k]? = some y := ⟨_, List.getElem?_eq_getElem (by rw [Hb.out]; exact hlt)⟩
   have hxy : R[k]? = some (x || y) := by rw [← HR.out]; exact orB_at hx hy
   have hset := take_set hxy hlt
   obtain ⟨ba, oa, rfl, ca⟩ := (ra.below hbel).at_ (k := k) (u := .bool x) (by rw [List.getElem?_map, hx]; rfl)
   obtain ⟨bb, ob, rfl, cb⟩ := (rb.below hbel).at_ (k := k) (u := .bool y) (by rw [List.getElem?_map, hy]; rfl)
   have oY := own_setQ (j := k) (u := .bool (x || y)) hown
   rw [show ((R.take k ++ List.replicate (n - k) false).map Value.bool).set k (.bool (x || y)) = (R.take (k + 1) ++ List.replicate (n - (k + 1)) false).map Value.bool by rw [← hset, List.map_set]] at oY
   have ck := hown.cellAt k (by omega)
   obtain ⟨u0, hu0⟩ : ∃ u0, wo.cell? ⟨w.heap.size, k, none⟩ = some u0 := by
    rw [ck]
    exact ⟨_, List.getElem?_eq_getElem (by simp [HRl.out]; omega)⟩
   have fk := hown.frozenAt k
   have OY := Lib.hid oY
   have hbY := hbel.setCell (p := ⟨w.heap.size, k, none⟩) (Nat.le_refl _) (.bool (x || y))
   have HBY := Lib.hid hbY
   clear hset hxy hx hy oY ck hbY
   cases x with
   | true =>
    go_wp2
    go_roundw
    case rel => exact ⟨k + 1, by omega, rfl, OY.out, HBY.out⟩
    case measure => simp [intOf]; omega
   | false =>
    go_wp2
    go_roundw
    case rel => exact ⟨k + 1, by omega, rfl, by have := OY.out; rwa [Bool.false_or] at this, by have := HBY.out; rwa [Bool.false_or] at this⟩
    case measure => simp [intOf]; omega
  ·obtain rfl : k = n := by omega
   have z1 : ¬ (k : Int) < (k : Int) := by omega
   have hfin : R.take k ++ List.replicate (k - k) false = R := by rw [Nat.sub_self, List.take_of_length_le (by rw [HRl.out]; exact Nat.le_refl _)]; simp
   rw [hfin] at hown
   clear hfin
   go_wp2
   go_ret
   exact ⟨_, _, rfl, hown, hbel⟩
set_option maxRecDepth 100000 in
set_option maxHeartbeats 8000000 in
theorem wSame (a b : List Bool) (A B : Option Addr) (c c' n : Nat) (w : World) (ha : a.length = n) (hb : b.length = n) (hn : n ≤ 2000000) (ra : RowT w 4 A n (a.map Value.bool)) (rb : RowT w 4 B n (b.map Value.bool)) :
  Calls Tryz.prog 149 #[.slice A n c, .slice B n c'] w fun e w' => e = .returned (.bool (decide (a = b))) ∧ Below w.heap.size w w' := by
 obtain ⟨ANS, hANS⟩ : ∃ ANS, decide (a = b) = ANS := ⟨_, rfl⟩
 rw [hANS]
 have HA := Lib.hid hANS; have Ha := Lib.hid ha; have Hb := Lib.hid hb
 clear hANS ha hb
 go_enter Tryz.func149, Tryz.ntmps149
 go_wp2
 go_loopw [5] (fun i wr => ∃ k : Nat, k ≤ n ∧ i = .int .i64 k ∧ Hid (a.take k = b.take k) ∧ Below w.heap.size w wr) (fun i _ => n - (intOf i).toNat)
 case atStart => exact ⟨0, Nat.zero_le _, rfl, Lib.hid rfl, Below.refl _ _⟩
 case round =>
  obtain ⟨k, hk, rfl, heq, hbel⟩ := hrel
  obtain ⟨wo, rfl⟩ : ∃ wo : World, wo = wr := ⟨_, rfl⟩
  have wk1 : IntKind.i64.wrap ((k : Int) + 1) = ((k + 1 : Nat) : Int) := by rw [IntKind.wrap_i64]; omega
  by_cases hlt : k < n
  ·have z1 : (k : Int) < (n : Int) := by omega
   obtain ⟨x, hx⟩ : ∃ x, a[k]? = some x := ⟨_, List.getElem?_eq_getElem (by rw [Ha.out]; exact hlt)⟩
   obtain ⟨y, hy⟩ : ∃ y, b[k]? = some y := ⟨_, List.getElem?_eq_getElem (by rw [Hb.out]; exact hlt)⟩
   obtain ⟨ba, oa, rfl, ca⟩ := (ra.below hbel).at_ (k := k) (u := .bool x) (by rw [List.getElem?_map, hx]; rfl)
   obtain ⟨bb, ob, rfl, cb⟩ := (rb.below hbel).at_ (k := k) (u := .bool y) (by rw [List.getElem?_map, hy]; rfl)
   by_cases hxy : x = y
   ·subst hxy
    have hnext : a.take (k + 1) = b.take (k + 1) := by
     rw [List.take_add_one, List.take_add_one, hx, hy, heq.out]
    have HN := Lib.hid hnext
    clear hnext hx hy heq
    cases x
    all_goals
     go_upto_region 4 with fail
     go_quiet (fail)
     go_wp2
     go_roundw
     case rel => exact ⟨k + 1, by omega, rfl, HN, belowN hbel _⟩
     case measure => simp [intOf]; omega
   ·have hans : ANS = false := by
     rw [← HA.out]
     refine decide_eq_false fun e => hxy ?_
     rw [e, hy] at hx
     injection hx with hx
     exact hx.symm
    have HAn := Lib.hid hans
    clear hans hx hy heq
    cases x <;> cases y <;> first | exact absurd rfl hxy | skip
    all_goals
     clear hxy
     go_upto_region 4 with fail
     go_quiet (fail)
     go_wp2
     go_ret
     exact ⟨by rw [HAn.out]; rfl, belowN hbel _⟩
  ·obtain rfl : k = n := by omega
   have z1 : ¬ (k : Int) < (k : Int) := by omega
   have hans : ANS = true := by
    rw [← HA.out]
    refine decide_eq_true ?_
    have := heq.out
    rwa [List.take_of_length_le (by rw [Ha.out]; exact Nat.le_refl _), List.take_of_length_le (by rw [Hb.out]; exact Nat.le_refl _)] at this
   have HAn := Lib.hid hans
   clear hans heq
   go_wp2
   go_ret
   exact ⟨by rw [HAn.out]; rfl, hbel⟩
end Go.Proofs.YtecejnilajbdpaaGreatDoor
namespace Garner
open Go
def IsP (L : List Bool) (n : Nat) (P : Nat → Prop) : Prop := L.length = n + 1 ∧ ∀ j, j ≤ n → (L[j]? = some true ↔ P j)
theorem IsP.congr {L : List Bool} {n : Nat} {P Q : Nat → Prop} (h : IsP L n P) (hq : ∀ j, j ≤ n → (P j ↔ Q j)) : IsP L n Q := ⟨h.1, fun j hj => (h.2 j hj).trans (hq j hj)⟩
theorem IsP.orB {L M : List Bool} {n : Nat} {P Q : Nat → Prop} (h : IsP L n P) (k : IsP M n Q) : IsP (orB L M) n (fun j => P j ∨ Q j) := by
 refine ⟨by rw [orB_len (by rw [h.1, k.1]), h.1], fun j hj => ?_⟩
 obtain ⟨x, hx⟩ : ∃ x, L[j]? = some x := ⟨_, List.getElem?_eq_getElem (by rw [h.1]; omega)⟩
 obtain ⟨y, hy⟩ : ∃ y, M[j]? = some y := ⟨_, List.getElem?_eq_getElem (by rw [k.1]; omega)⟩
 show _ ↔ P j ∨ Q j
 rw [orB_at hx hy, ← h.2 j hj, ← k.2 j hj, hx, hy]
 cases x <;> cases y <;> simp
theorem IsP.none (n : Nat) : IsP (List.replicate (n + 1) false) n (fun _ => False) := by
 refine ⟨List.length_replicate, fun j hj => ?_⟩
 rw [List.getElem?_replicate, if_pos (by omega)]
 simp
theorem IsP.eq_iff {L M : List Bool} {n : Nat} {P Q : Nat → Prop} (h : IsP L n P) (k : IsP M n Q) : L = M ↔ ∀ j, j ≤ n → (P j ↔ Q j) := by
 constructor
 ·rintro rfl j hj
  rw [← h.2 j hj, k.2 j hj]
 ·intro he
  refine List.ext_getElem (by rw [h.1, k.1]) fun j h1 h2 => ?_
  have hj : j ≤ n := by rw [h.1] at h1; omega
  have := (h.2 j hj).trans ((he j hj).trans (k.2 j hj).symm)
  rw [List.getElem?_eq_getElem h1, List.getElem?_eq_getElem h2] at this
  generalize L[j] = x at this ⊢
  generalize M[j] = y at this ⊢
  cases x <;> cases y <;> simp_all
end Garner
namespace Go.Proofs.YtecejnilajbdpaaGreatDoor
open Go.RowKit Garner
set_option maxRecDepth 100000 in
set_option maxHeartbeats 8000000 in
theorem qHasL (l : List Nat) (A : Option Addr) (c n x : Nat) (w : World) (hn : n = l.length) (hr : RowT w 21 A n (l.map rv)) (hl : n ≤ 100000) :
  Calls Tryz.prog 124 #[.slice A n c, .int .i32 (x : Nat)] w fun e w' => e = .returned (.bool (hasR l x)) ∧ w' = w := by
 obtain ⟨ANS, hANS⟩ : ∃ ANS, hasR l x = ANS := ⟨_, rfl⟩
 rw [hANS]
 have HA := Lib.hid hANS; clear hANS
 have Hn := Lib.hid hn; clear hn
 go_enter Tryz.func124, Tryz.ntmps124
 go_wp2
 go_loopw [5] (fun i wr => ∃ j : Nat, j ≤ n + 1 ∧ i = .int .i64 j ∧ Hid (hasR (l.drop j) x = ANS) ∧ wr = w) (fun i _ => n + 1 - (intOf i).toNat)
 case atStart => exact ⟨0, Nat.zero_le _, rfl, Lib.hid HA.out, rfl⟩
 case round =>
  obtain ⟨j, hj, rfl, hno, hwr⟩ := hrel
  obtain rfl : w = wr := hwr.symm
  have hnn := Hn.out
  have w1 : IntKind.i64.wrap ((j : Int) + 1) = (j : Int) + 1 := by rw [IntKind.wrap_i64]; omega
  by_cases hlt : j + 1 < n
  ·obtain ⟨a, ha⟩ : ∃ a, l[j]? = some a := ⟨_, List.getElem?_eq_getElem (by omega)⟩
   obtain ⟨b, hb⟩ : ∃ b, l[j + 1]? = some b := ⟨_, List.getElem?_eq_getElem (by omega)⟩
   have hdr : l.drop j = a :: b :: l.drop (j + 2) := by
    obtain ⟨h1, h2⟩ := List.getElem?_eq_some_iff.1 ha
    obtain ⟨h3, h4⟩ := List.getElem?_eq_some_iff.1 hb
    rw [List.drop_eq_getElem_cons h1, h2, List.drop_eq_getElem_cons h3, h4]
   have hh := hno.out
   rw [hdr, hasR] at hh
   obtain ⟨bb, off, rfl, c1'⟩ := hr.at_ (k := j) (u := rv a) (by rw [List.getElem?_map, ha]; rfl)
   obtain ⟨bb', off', e', c2'⟩ := hr.at_ (k := j + 1) (u := rv b) (by rw [List.getElem?_map, hb]; rfl)
   cases e'
   have c1 : w.cell? ⟨bb, off + j, none⟩ = some (.int .i32 (a : Nat)) := c1'
   have c2 : w.cell? ⟨bb, off + (j + 1), none⟩ = some (.int .i32 (b : Nat)) := c2'
   have z1 : (j : Int) + 1 < (n : Int) := by omega
   have z0 : (j : Int) < (n : Int) := by omega
   have w2 : IntKind.i64.wrap ((j : Int) + 2) = ((j + 2 : Nat) : Int) := by rw [IntKind.wrap_i64]; omega
   have Hh := Lib.hid hh
   clear c1' c2' ha hb hdr hnn hno hh
   by_cases h1 : a ≤ x
   ·have h1' : (a : Int) ≤ (x : Int) := by omega
    by_cases h2 : x ≤ b
    ·have h2' : (x : Int) ≤ (b : Int) := by omega
     have hans : ANS = true := by rw [← Hh.out, decide_eq_true h1, decide_eq_true h2]; rfl
     have HAn := Lib.hid hans
     clear hans
     go_wp2
     go_ret
     exact ⟨by rw [HAn.out]; rfl, rfl⟩
    ·have h2' : ¬ (x : Int) ≤ (b : Int) := by omega
     have hans : hasR (l.drop (j + 2)) x = ANS := by rw [← Hh.out, decide_eq_false h2, Bool.and_false, Bool.false_or]
     have HAn := Lib.hid hans
     clear hans
     go_wp2
     go_roundw
     case rel => exact ⟨j + 2, by omega, rfl, HAn, by first | rfl | trivial⟩
     case measure => simp [intOf]; omega
   ·have h1' : ¬ (a : Int) ≤ (x : Int) := by omega
    have hans : hasR (l.drop (j + 2)) x = ANS := by rw [← Hh.out, decide_eq_false h1, Bool.false_and, Bool.false_or]
    have HAn := Lib.hid hans
    clear hans
    go_wp2
    go_roundw
    case rel => exact ⟨j + 2, by omega, rfl, HAn, by first | rfl | trivial⟩
    case measure => simp [intOf]; omega
  ·have z1 : ¬ (j : Int) + 1 < (n : Int) := by omega
   have hans : ANS = false := by
    rw [← hno.out]
    have hl2 : (l.drop j).length ≤ 1 := by rw [List.length_drop]; omega
    generalize l.drop j = m at hl2
    match m, hl2 with
    | [], _ => rfl
    | [_], _ => rfl
   have HAn := Lib.hid hans
   clear hans hnn hno
   go_wp2
   go_ret
   exact ⟨by rw [HAn.out]; rfl, rfl⟩
end Go.Proofs.YtecejnilajbdpaaGreatDoor
namespace Garner
open Go
def imgP (n : Nat) (R : Nat → Nat → Prop) (P : Nat → Prop) : Nat → Prop := fun j => ∃ i, i ≤ n ∧ P i ∧ R i j
def betP (n : Nat) (R : Nat → Nat → Prop) (P : Nat → Prop) (a b : Nat) : Nat → Prop := fun j => ∃ m, a ≤ m ∧ m ≤ b ∧ imgP n (iterR R m) P j
section
variable {n : Nat} {R : Nat → Nat → Prop} {P : Nat → Prop}
theorem img_zero {j : Nat} (hj : j ≤ n) : imgP n (iterR R 0) P j ↔ P j := by
 constructor
 ·rintro ⟨i, -, hp, h⟩
  have h : i = j := h
  subst h; exact hp
 ·exact fun h => ⟨j, hj, h, rfl⟩
theorem img_succ (hR : ∀ {i j}, R i j → i ≤ n → i ≤ j ∧ j ≤ n) (k j : Nat) : imgP n (iterR R (k + 1)) P j ↔ imgP n R (imgP n (iterR R k) P) j := by
 constructor
 ·rintro ⟨i, hi, hp, h⟩
  obtain ⟨q, h1, r, h3, h4⟩ := iter_add.1 h
  have h4 : r = j := h4
  subst h4
  exact ⟨q, (iter_le hR k h1 hi).2, ⟨i, hi, hp, h1⟩, h3⟩
 ·rintro ⟨q, hq, ⟨i, hi, hp, h1⟩, h2⟩
  exact ⟨i, hi, hp, iter_add.2 ⟨q, h1, _, h2, rfl⟩⟩
theorem bet_self (a j : Nat) : betP n R P a a j ↔ imgP n (iterR R a) P j := by
 constructor
 ·rintro ⟨m, h1, h2, h⟩
  obtain rfl : m = a := by omega
  exact h
 ·exact fun h => ⟨a, Nat.le_refl _, Nat.le_refl _, h⟩
theorem bet_succ {a b : Nat} (hab : a ≤ b) (j : Nat) : betP n R P a (b + 1) j ↔ betP n R P a b j ∨ imgP n (iterR R (b + 1)) P j := by
 constructor
 ·rintro ⟨m, h1, h2, h⟩
  by_cases hm : m = b + 1
  ·subst hm; exact .inr h
  ·exact .inl ⟨m, h1, by omega, h⟩
 ·rintro (⟨m, h1, h2, h⟩ | h)
  ·exact ⟨m, h1, by omega, h⟩
  ·exact ⟨b + 1, by omega, Nat.le_refl _, h⟩
theorem bet_closed (hR : ∀ {i j}, R i j → i ≤ n → i ≤ j ∧ j ≤ n) {a b : Nat} (hab : a ≤ b) (hc : ∀ j, j ≤ n → imgP n (iterR R (b + 1)) P j → betP n R P a b j) : ∀ m, a ≤ m → ∀ j, j ≤ n → imgP n (iterR R m) P j → betP n R P a b j := by
 intro m
 induction m with
 | zero => exact fun h j _ hj => ⟨0, h, by omega, hj⟩
 | succ m ih =>
  intro h j hjn hj
  by_cases hm : m + 1 ≤ b
  ·exact ⟨m + 1, h, hm, hj⟩
  ·by_cases hm2 : m < a
   ·obtain rfl : b = m := by omega
    exact hc j hjn hj
   ·obtain ⟨q, hq, h1, h2⟩ := (img_succ hR m j).1 hj
    obtain ⟨m2, h3, h4, h5⟩ := ih (by omega) q hq h1
    have h6 := (img_succ hR m2 j).2 ⟨q, hq, h5, h2⟩
    by_cases hm3 : m2 + 1 ≤ b
    ·exact ⟨m2 + 1, by omega, hm3, h6⟩
    ·obtain rfl : b = m2 := by omega
     exact hc j hjn h6
end
def trues : List Bool → Nat
 | [] => 0
 | b :: l => (if b = true then 1 else 0) + trues l
theorem trues_le : ∀ l : List Bool, trues l ≤ l.length
 | [] => Nat.le_refl _
 | b :: l => by
  have := trues_le l
  rw [trues, List.length_cons]
  split <;> omega
theorem trues_or_le : ∀ (a b : List Bool), b.length = a.length → trues a ≤ trues (orB a b)
 | [], _, _ => Nat.zero_le _
 | x :: a, [], h => by cases h
 | x :: a, y :: b, h => by
  have := trues_or_le a b (by simpa using h)
  show trues (x :: a) ≤ trues ((x || y) :: orB a b)
  rw [trues, trues]
  cases x <;> cases y <;> simp <;> omega
theorem trues_or : ∀ (a b : List Bool), b.length = a.length → orB a b ≠ a → trues a + 1 ≤ trues (orB a b)
 | [], b, _, h => absurd rfl h
 | x :: a, [], h, _ => by cases h
 | x :: a, y :: b, h, hne => by
  have hl : b.length = a.length := by simpa using h
  have h0 := trues_or_le a b hl
  have e : orB (x :: a) (y :: b) = (x || y) :: orB a b := rfl
  rw [e] at hne ⊢
  rw [trues, trues]
  by_cases hx : (x || y) = x
  ·rw [hx] at hne ⊢
   have := trues_or a b hl fun e => hne (by rw [e])
   omega
  ·cases x
   ·cases y
    ·exact absurd rfl hx
    ·simp; omega
   ·exact absurd rfl hx
theorem IsP.set_at (n k : Nat) (hk : k ≤ n) (x : Bool) : IsP ((List.replicate (n + 1) false).set k x) n (fun j => j = k ∧ x = true) := by
 refine ⟨by simp, fun j hj => ?_⟩
 rw [List.getElem?_set]
 by_cases h : k = j
 ·subst h
  rw [if_pos rfl, if_pos (by simp; omega)]
  simp
 ·rw [if_neg h, List.getElem?_replicate, if_pos (by omega)]
  simp
  intro e; exact absurd e.symm h
theorem IsP.put {L : List Bool} {n k : Nat} {P : Nat → Prop} (h : IsP L n P) (hk : k ≤ n) : IsP (L.set k true) n (fun j => P j ∨ j = k) := by
 refine ⟨by rw [List.length_set, h.1], fun j hj => ?_⟩
 rw [List.getElem?_set]
 by_cases e : k = j
 ·subst e
  rw [if_pos rfl, if_pos (by rw [h.1]; omega)]
  simp
 ·rw [if_neg e]
  rw [h.2 j hj]
  exact ⟨.inl, fun h => h.resolve_right fun e2 => e e2.symm⟩
theorem IsP.all (n : Nat) : IsP (List.replicate (n + 1) true) n (fun _ => True) := by
 refine ⟨List.length_replicate, fun j hj => ?_⟩
 rw [List.getElem?_replicate, if_pos (by omega)]
 simp
theorem IsP.at_ {L : List Bool} {n k : Nat} {P : Nat → Prop} (h : IsP L n P) (hk : k ≤ n) : ∃ x, L[k]? = some x ∧ (x = true ↔ P k) := by
 obtain ⟨x, hx⟩ : ∃ x, L[k]? = some x := ⟨_, List.getElem?_eq_getElem (by rw [h.1]; omega)⟩
 refine ⟨x, hx, ?_⟩
 rw [← h.2 k hk, hx]
 simp
theorem Ma_app2 {s : List Nat} : ∀ {ts us : List Re} {i j : Nat}, Ma s (ts ++ us) i j ↔ Ma s ts i j ∨ Ma s us i j
 | [], us, i, j => by simp [Ma]
 | t :: ts, us, i, j => by
  show (t.M s i j ∨ Ma s (ts ++ us) i j) ↔ (t.M s i j ∨ Ma s ts i j) ∨ Ma s us i j
  rw [Ma_app2, or_assoc]
theorem img_row {s : List Nat} {n : Nat} (hn : s.length = n) {l : List Re} {k : Nat} {t : Re} (ht : l[k]? = some t) (P : Nat → Prop) (j : Nat) : imgP n (Ms s (l.take (k + 1))) P j ↔ imgP n (t.M s) (imgP n (Ms s (l.take k)) P) j := by
 rw [List.take_add_one, ht, Option.toList_some]
 constructor
 ·rintro ⟨i, hi, hp, h⟩
  obtain ⟨q, h1, r, h2, h3⟩ := Ms_app2.1 h
  have h3 : r = j := h3
  subst h3
  exact ⟨q, by rw [← hn] at hi ⊢; exact (Ms_le _ h1 hi).2, ⟨i, hi, hp, h1⟩, h2⟩
 ·rintro ⟨q, hq, ⟨i, hi, hp, h1⟩, h2⟩
  exact ⟨i, hi, hp, Ms_app2.2 ⟨q, h1, _, h2, rfl⟩⟩
theorem img_row0 {s : List Nat} {n : Nat} (P : Nat → Prop) (j : Nat) (hj : j ≤ n) : imgP n (Ms s []) P j ↔ P j := by
 constructor
 ·rintro ⟨i, -, hp, h⟩
  have h : i = j := h
  subst h; exact hp
 ·exact fun h => ⟨j, hj, h, rfl⟩
theorem img_alt {s : List Nat} {n : Nat} {l : List Re} {k : Nat} {t : Re} (ht : l[k]? = some t) (P : Nat → Prop) (j : Nat) : imgP n (Ma s (l.take (k + 1))) P j ↔ imgP n (Ma s (l.take k)) P j ∨ imgP n (t.M s) P j := by
 rw [List.take_add_one, ht, Option.toList_some]
 constructor
 ·rintro ⟨i, hi, hp, h⟩
  rcases Ma_app2.1 h with h | h | h
  ·exact .inl ⟨i, hi, hp, h⟩
  ·exact .inr ⟨i, hi, hp, h⟩
  ·exact h.elim
 ·rintro (⟨i, hi, hp, h⟩ | ⟨i, hi, hp, h⟩)
  ·exact ⟨i, hi, hp, Ma_app2.2 (.inl h)⟩
  ·exact ⟨i, hi, hp, Ma_app2.2 (.inr (.inl h))⟩
theorem img_alt0 {s : List Nat} {n : Nat} (P : Nat → Prop) (j : Nat) : imgP n (Ma s []) P j ↔ False :=
 ⟨fun ⟨_, _, _, h⟩ => h, fun h => h.elim⟩
theorem img_rep {s : List Nat} {n mn m : Nat} {k : Re} (P : Nat → Prop) (j : Nat) : imgP n ((Re.rep k mn (some m)).M s) P j ↔ betP n (k.M s) P mn m j := by
 constructor
 ·rintro ⟨i, hi, hp, q, h1, h2, h3⟩
  exact ⟨q, h1, h2 m rfl, i, hi, hp, h3⟩
 ·rintro ⟨q, h1, h2, i, hi, hp, h3⟩
  exact ⟨i, hi, hp, q, h1, fun m' e => (by cases e; exact h2), h3⟩
theorem img_repN {s : List Nat} {n mn b : Nat} {k : Re} (hn : s.length = n) (hb : mn ≤ b) (P : Nat → Prop) (hc : ∀ j, j ≤ n → imgP n (iterR (k.M s) (b + 1)) P j → betP n (k.M s) P mn b j) (j : Nat) (hj : j ≤ n) : imgP n ((Re.rep k mn none).M s) P j ↔ betP n (k.M s) P mn b j := by
 have hR : ∀ {i j}, k.M s i j → i ≤ n → i ≤ j ∧ j ≤ n := fun h hi => by subst hn; exact M_le k h hi
 constructor
 ·rintro ⟨i, hi, hp, q, h1, h2, h3⟩
  exact bet_closed hR hb hc q h1 j hj ⟨i, hi, hp, h3⟩
 ·rintro ⟨q, h1, h2, i, hi, hp, h3⟩
  exact ⟨i, hi, hp, q, h1, fun m' e => (by cases e), h3⟩
end Garner
