import Derived.Test.YtmddgimadlmacaaDoorWs27
import Derived.Deep.RegionHeld3
import Derived.Deep.RegionWith
namespace Go.Proofs.YtmddgimadlmacaaDoor
open Go.RowKit Garner

theorem below_drewN {B : Nat} {a w : World} (h : Below B a w) (n : Nat) : Below B a (w.drewN n) := ⟨h.os, h.tape, h.output, h.size, h.block⟩
theorem Row.drewN {w : World} {B sz n : Nat} {A : Option Addr} {xs : List Value} (h : Row w B sz A n xs) (k : Nat) : Row (w.drewN k) B sz A n xs := h

def FreadPost (w : World) (r : Except Nat (Bs × Nat)) (e : Ending) (w' : World) : Prop :=
  match r with
  | .error k => e = .returned (.tuple #[.slice none 0 0, .int .i64 0, .int .i64 k]) ∧ Below w.heap.size w w'
  | .ok (p, to) => ∃ v, e = .returned (.tuple #[v, .int .i64 to, .int .i64 0]) ∧ OwnB w' w.heap.size v p ∧ Below w.heap.size w w'

theorem vSumN (n : Nat) (l : List UInt8) (hn : l.length = n) (A : Option Addr) (c0 B g : Nat) (w : World) (hg : w.cell? ⟨g, 0, none⟩ = some (.slice A n c0)) (hr : Bytes w B A n l) (hl : n ≤ 140737488355328) :
    Calls Tryd.prog 38 #[.slice (some ⟨g, 0, none⟩) 1 1] w fun e w' => e = .returned (.int .u32 (crc l)) ∧ w = w' := by
  subst hn; exact vSum l A c0 B g w hg hr hl

theorem or4 (a b c d : Nat) (ha : a < 256) (hb : b < 256) (hc : c < 256) (hd : d < 256) :
    bits .or .u32 (bits .or .u32 (bits .or .u32 (a : Int) ((b : Int) * 256)) ((c : Int) * 65536)) ((d : Int) * 16777216) = (un4 a b c d : Nat) := by
  have e1 : bits .or .u32 (a : Int) ((b : Int) * 256) = ((a + 256 * b : Nat) : Int) := by
    rw [show (b : Int) * 256 = ((b * 256 : Nat) : Int) by omega, u32_or_nat _ _ (by omega) (by omega), Nat.or_comm, nat_join 8 _ _ (by omega) (by omega)]; omega
  have e2 : bits .or .u32 ((a + 256 * b : Nat) : Int) ((c : Int) * 65536) = ((a + 256 * b + 65536 * c : Nat) : Int) := by
    rw [show (c : Int) * 65536 = ((c * 65536 : Nat) : Int) by omega, u32_or_nat _ _ (by omega) (by omega), Nat.or_comm, nat_join 16 _ _ (by omega) (by omega)]; omega
  rw [e1, e2, show (d : Int) * 16777216 = ((d * 16777216 : Nat) : Int) by omega, u32_or_nat _ _ (by omega) (by omega), Nat.or_comm, nat_join 24 _ _ (by omega) (by omega)]
  unfold un4; omega

set_option maxHeartbeats 1000000 in
theorem vRead (l : List UInt8) (A : Option Addr) (c B : Nat) (w : World) (i0 : Nat) (hr : Bytes w B A l.length l) (hB : B ≤ w.heap.size) (hc : l.length ≤ c) (hi0 : i0 ≤ l.length) (hl : l.length ≤ 140737488355328) :
    Calls Tryd.prog 58 #[.slice A l.length c, .int .i64 i0] w fun e w' => FreadPost w (fread l i0) e w' := by
  have hget := vGet l A c B w i0 hr hc hi0 hl
  cases hv : vget l i0 with
  | error k =>
    rw [hv] at hget
    have hk0 : (k : Int) ≠ 0 := by have := vget_err hv; omega
    have Hget := Lib.hid hget; clear hget
    have Hv := Lib.hid hv; clear hv
    have ek : ((k : Int) == 0) = false := beq_eq_false_iff_ne.2 hk0
    go_enter Tryd.func58, Tryd.ntmps58
    go_wp2_with fail
    refine Hget.out.mono ?_
    rintro e w1 ⟨rfl, rfl⟩
    simp only [vgetV]
    go_wp2
    go_ret3
    rw [fread_e1 Hv.out]
    exact ⟨rfl, Below.refl _ _⟩
  | ok r =>
    obtain ⟨n, fr⟩ := r
    rw [hv] at hget
    have Hget := Lib.hid hget; clear hget
    obtain ⟨hn64, hfr, _, hfl⟩ := vget_ok hv
    have Hv := Lib.hid hv; clear hv hfr
    by_cases h1 : 65536 < (n : Int)
    · have Hn64 := Lib.hid hn64; clear hn64
      go_enter Tryd.func58, Tryd.ntmps58
      go_wp2_with fail
      refine Hget.out.mono ?_
      rintro e w1 ⟨rfl, rfl⟩
      simp only [vgetV]
      go_wp2
      go_ret3
      rw [fread_e2 Hv.out (by omega)]
      exact ⟨rfl, Below.refl _ _⟩
    · have hn2 : (n : Int) ≤ 65536 := by omega
      clear hn64
      by_cases h2 : (l.length : Int) < fr + n + 4
      · have h2' : (l.length : Int) - fr < n + 4 := by omega
        go_enter Tryd.func58, Tryd.ntmps58
        go_wp2_with fail
        refine Hget.out.mono ?_
        rintro e w1 ⟨rfl, rfl⟩
        simp only [vgetV]
        go_wp2
        go_ret3
        rw [fread_e3 Hv.out (by omega) (by omega)]
        exact ⟨rfl, Below.refl _ _⟩
      · have h2' : ¬ (l.length : Int) - fr < n + 4 := by omega
        have hp : ((l.drop fr).take n).length = n := by rw [List.length_take, List.length_drop]; omega
        obtain ⟨b, off, rfl, hb, hcell⟩ := hr.at_ (k := fr) (by omega)
        have hcut := hr.cut (lo := fr) (hi := fr + n) (by omega) (by omega) rfl
        rw [show fr + n - fr = n by omega, ← List.map_drop, ← List.map_take] at hcut
        have hd4 := drop_four (b := l) (k := fr + n) (by omega)
        obtain ⟨x0, hx0⟩ : ∃ x, x = l[fr + n]'(by omega) := ⟨_, rfl⟩
        obtain ⟨x1, hx1⟩ : ∃ x, x = l[fr + n + 1]'(by omega) := ⟨_, rfl⟩
        obtain ⟨x2, hx2⟩ : ∃ x, x = l[fr + n + 2]'(by omega) := ⟨_, rfl⟩
        obtain ⟨x3, hx3⟩ : ∃ x, x = l[fr + n + 3]'(by omega) := ⟨_, rfl⟩
        rw [← hx0, ← hx1, ← hx2, ← hx3] at hd4
        have hb0 : w.cell? ⟨b, off + (fr + n), none⟩ = some (.int .u8 (x0.toNat : Nat)) := by have := hcell (fr + n) (by simp; omega); rw [hx0]; simpa [bv] using this
        have hb1 : w.cell? ⟨b, off + (fr + n + 1), none⟩ = some (.int .u8 (x1.toNat : Nat)) := by have := hcell (fr + n + 1) (by simp; omega); rw [hx1]; simpa [bv] using this
        have hb2 : w.cell? ⟨b, off + (fr + n + 2), none⟩ = some (.int .u8 (x2.toNat : Nat)) := by have := hcell (fr + n + 2) (by simp; omega); rw [hx2]; simpa [bv] using this
        have hb3 : w.cell? ⟨b, off + (fr + n + 3), none⟩ = some (.int .u8 (x3.toNat : Nat)) := by have := hcell (fr + n + 3) (by simp; omega); rw [hx3]; simpa [bv] using this
        clear hcell hx0 hx1 hx2 hx3
        have hl0 := x0.toNat_lt; have hl1 := x1.toNat_lt; have hl2 := x2.toNat_lt; have hl3 := x3.toNat_lt
        have i0' : (fr : Int) + n < l.length := by omega
        have i1' : (fr : Int) + n + 1 < l.length := by omega
        have i2' : (fr : Int) + n + 2 < l.length := by omega
        have i3' : (fr : Int) + n + 3 < l.length := by omega
        have hcf : ¬ c = fr := by omega
        have Hd4 := Lib.hid hd4; clear hd4
        have Hp := Lib.hid hp; clear hp
        have hcl := crc_lt ((l.drop fr).take n)
        obtain ⟨q, hq⟩ : ∃ q, (bits .or .u32 (bits .or .u32 (bits .or .u32 (x0.toNat : Int) ((x1.toNat : Int) * 256)) ((x2.toNat : Int) * 65536)) ((x3.toNat : Int) * 16777216) != ((crc ((l.drop fr).take n) : Nat) : Int)) = q := ⟨_, rfl⟩
        have Hq : Hid (q = true ↔ four (crc ((l.drop fr).take n)) ≠ (l.drop (fr + n)).take 4) := by
          rw [Hid, ← hq, or4 _ _ _ _ hl0 hl1 hl2 hl3, Hd4.out, Ne, four_eq hcl]
          simp only [bne_iff_ne, ne_eq, Int.natCast_inj]
        clear hcl
        cases q
        all_goals
          go_enter Tryd.func58, Tryd.ntmps58
          go_wp2_with fail
          refine Hget.out.mono ?_
          rintro e w1 ⟨rfl, rfl⟩
          simp only [vgetV]
          go_wp2_with fail
          go_quiet (fail)
          go_wp2_with fail
          refine (vSumN n _ Hp.out _ _ B _ _ (cell_new _ _ _ _ _ rfl) ((hcut.drewN _).alloc hB _) (by omega)).mono ?_
          rintro e w2 ⟨rfl, rfl⟩
        · go_wp2_with (at_builtin; refine wpList_app _ rfl bytesE (base := w.heap.size) rfl rfl (World.ownsRow_nil _ _ _ _) rfl ((hcut.drewN _).alloc hB _) (bv_one _) (by omega) (by first | omega | (simp; done) | (simp; omega)) ?_; intro v3 w3 hown3 _ hbel3 _)
          go_ret3
          rw [fread_e5 Hv.out (by omega) (by omega) (Decidable.byContradiction fun h => by have := Hq.out.2 h; cases this)]
          refine ⟨_, congrArg (fun z : Int => Ending.returned (.tuple #[_, .int .i64 z, _])) (by omega), ?_, ((below_drewN (Below.refl _ _) _).alloc (Nat.le_refl _) _).trans hbel3⟩
          unfold OwnB
          rw [Hp.out]
          simpa using hown3
        · go_wp2
          go_ret3
          rw [fread_e4 Hv.out (by omega) (by omega) (Hq.out.1 (by first | rfl | trivial))]
          exact ⟨rfl, (below_drewN (Below.refl _ _) _).alloc (Nat.le_refl _) _⟩
end Go.Proofs.YtmddgimadlmacaaDoor
namespace Go.Proofs.YtmddgimadlmacaaDoor
open Go.RowKit Garner

set_option maxRecDepth 100000 in
set_option maxHeartbeats 1000000 in
theorem rRead (l : List UInt8) (A : Option Addr) (c B : Nat) (w : World) (i0 : Nat) (hr : Bytes w B A l.length l) (hB : B ≤ w.heap.size) (hc : l.length ≤ c) (hi0 : i0 ≤ l.length) (hl : l.length ≤ 140737488355328) :
    Calls Tryd.prog 63 #[.slice A l.length c, .int .i64 i0] w fun e w' => FreadPost w (fread l i0) e w' := by
  have hget := rGet l A c B w i0 hr hi0 hl
  cases hv : vget l i0 with
  | error k =>
    rw [hv] at hget
    have hk0 : (k : Int) ≠ 0 := by have := vget_err hv; omega
    have Hget := Lib.hid hget; clear hget
    have Hv := Lib.hid hv; clear hv
    have ek : ((k : Int) == 0) = false := beq_eq_false_iff_ne.2 hk0
    go_enter Tryd.func63, Tryd.ntmps63
    go_wp2_with fail
    refine Hget.out.mono ?_
    rintro e w1 ⟨rfl, rfl⟩
    simp only [vgetV]
    go_wp2
    go_ret3
    rw [fread_e1 Hv.out]
    exact ⟨rfl, Below.refl _ _⟩
  | ok r =>
    obtain ⟨n, fr⟩ := r
    rw [hv] at hget
    have Hget := Lib.hid hget; clear hget
    obtain ⟨hn64, hfr, _, hfl⟩ := vget_ok hv
    have Hv := Lib.hid hv; clear hv hfr
    by_cases h1 : 65536 < (n : Int)
    · have Hn64 := Lib.hid hn64; clear hn64
      go_enter Tryd.func63, Tryd.ntmps63
      go_wp2_with fail
      refine Hget.out.mono ?_
      rintro e w1 ⟨rfl, rfl⟩
      simp only [vgetV]
      go_wp2
      go_ret3
      rw [fread_e2 Hv.out (by omega)]
      exact ⟨rfl, Below.refl _ _⟩
    · have hn2 : (n : Int) ≤ 65536 := by omega
      clear hn64
      by_cases h2 : (l.length : Int) < fr + n + 4
      · go_enter Tryd.func63, Tryd.ntmps63
        go_wp2_with fail
        refine Hget.out.mono ?_
        rintro e w1 ⟨rfl, rfl⟩
        simp only [vgetV]
        go_wp2
        go_ret3
        rw [fread_e3 Hv.out (by omega) (by omega)]
        exact ⟨rfl, Below.refl _ _⟩
      · have hp : ((l.drop fr).take n).length = n := by rw [List.length_take, List.length_drop]; omega
        obtain ⟨b, off, rfl, hb, hcell⟩ := hr.at_ (k := fr) (by omega)
        have hcut := hr.cut (lo := fr) (hi := fr + n) (by omega) (by omega) rfl
        have hcut4 := hr.cut (lo := fr + n) (hi := fr + n + 4) (by omega) (by omega) rfl
        rw [show fr + n - fr = n by omega, ← List.map_drop, ← List.map_take] at hcut
        rw [show fr + n + 4 - (fr + n) = 4 by omega, ← List.map_drop, ← List.map_take] at hcut4
        clear hcell
        have hcf : ¬ c = fr := by omega
        have hcf4 : ¬ c = fr + n := by omega
        have i2' : (fr : Int) + n + 4 ≤ l.length := by omega
        have e4 : IntKind.i64.wrap ((fr : Int) + n + 4) = (fr : Int) + n + 4 := IntWalk.i64_in _ ⟨by omega, by omega⟩
        have z1 : (0 : Int) ≤ (fr : Int) + n := by omega
        have z2 : (fr : Int) + n ≤ (fr : Int) + n + 4 := by omega
        have z3 : (fr : Int) + n + 4 ≤ c := by omega
        have z4 : ((fr : Int) + n).toNat = fr + n := by omega
        have z5 : ((fr : Int) + n + 4).toNat = fr + n + 4 := by omega
        have z6 : fr + n + 4 - (fr + n) = 4 := by omega
        have Hp := Lib.hid hp; clear hp
        obtain ⟨p, hpe⟩ : ∃ p, p = (l.drop fr).take n := ⟨_, rfl⟩
        rw [← hpe] at hcut Hp
        have Hpe := Lib.hid hpe; clear hpe
        have Hcl := Lib.hid (crc_lt p)
        have hcl : ((crc p : Nat) : Int) ≤ 4294967295 := by have := Hcl.out; omega
        go_enter Tryd.func63, Tryd.ntmps63
        go_wp2_with fail
        refine Hget.out.mono ?_
        rintro e w1 ⟨rfl, rfl⟩
        simp only [vgetV]
        go_wp2_with (at_builtin; refine wpList_app _ rfl bytesE (base := w.heap.size) rfl rfl (World.ownsRow_nil _ _ _ _) rfl hcut (bv_one _) (by omega) (by omega) ?_; intro v3 w3 hown3 _ hbel3 _)
        have hown3' : OwnB w3 w.heap.size v3 p := by unfold OwnB; rw [Hp.out]; simpa using hown3
        clear hown3
        obtain ⟨A3, c3, rfl, hrow3⟩ := hown3'.shape
        have hcut4' := hcut4.below (hbel3.mono hB)
        have hl3 : p.length ≤ 65536 := by have := Hp.out; omega
        have hBw3 : B ≤ w3.heap.size := Nat.le_trans hB hbel3.size
        have hcv1 : ∀ (c' : Nat), (convert 23 9 (.slice (some ⟨b, off + (fr + n), none⟩) 4 c')).run Tryd.prog w3.drew = .ok (.string ⟨((l.drop (fr + n)).take 4).toArray⟩) w3.drew := fun c' => run_str (hcut4'.below (Below.refl _ _).drew)
        have hcv2 : ∀ (c' : Nat) (o : Obj), (convert 23 9 (.slice (some ⟨b, off + (fr + n), none⟩) 4 c')).run Tryd.prog (w3.alloc o).drew = .ok (.string ⟨((l.drop (fr + n)).take 4).toArray⟩) (w3.alloc o).drew := fun c' o => run_str (hcut4'.below ((Below.refl _ _).alloc hBw3 _).drew)
        go_region_with (first
            | (go_at_call 66; refine (rSum p A3 c3 w3.heap.size w3.drew hrow3 (by omega)).mono ?_; rintro e w4 ⟨rfl, rfl⟩)
            | (go_at_call 65; refine (rFour (crc p) _ (by omega)).mono ?_; rintro e w4 ⟨v4, rfl, hown4, rfl⟩; obtain ⟨A4, c4, rfl, hrow4⟩ := hown4.shape; have hconv : (convert 23 9 (.slice A4 (four (crc p)).length c4)).run Tryd.prog (w3.alloc (.cells ((four (crc p)).map bv).toArray 5)).drew = .ok (.string ⟨(four (crc p)).toArray⟩) (w3.alloc (.cells ((four (crc p)).map bv).toArray 5)).drew := run_str hrow4))
        all_goals (clear hcv1 hcv2 hconv)
        all_goals
          have hb4 : Below w.heap.size w (w3.alloc (.cells ((four (crc p)).map bv).toArray 5)).drew := (hbel3.alloc hbel3.size _).drew
          have hown5 : OwnB (w3.alloc (.cells ((four (crc p)).map bv).toArray 5)).drew w.heap.size (.slice A3 p.length c3) p := own_below hown3' (((Below.refl _ _).alloc (Nat.le_refl _) _).drew)
          go_wp2
        all_goals
          go_ret3
          first
            | (have hne : (!four (crc p) == List.take 4 (List.drop (fr + n) l)) = true := by assumption
               rw [fread_e4 Hv.out (by omega) (by omega) (by rw [← Hpe.out]; simpa using hne)]
               exact ⟨rfl, hb4⟩)
            | (have hne : (!four (crc p) == List.take 4 (List.drop (fr + n) l)) = false := by assumption
               rw [fread_e5 Hv.out (by omega) (by omega) (by rw [← Hpe.out]; simpa using hne), ← Hpe.out]
               exact ⟨_, congrArg (fun z : Int => Ending.returned (.tuple #[_, .int .i64 z, _])) (by omega), hown5, hb4⟩)
end Go.Proofs.YtmddgimadlmacaaDoor
