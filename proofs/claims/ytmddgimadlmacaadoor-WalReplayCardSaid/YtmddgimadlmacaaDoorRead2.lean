import Derived.Test.YtmddgimadlmacaaDoorRead
import Derived.Deep.RegionWith
namespace Go.Proofs.YtmddgimadlmacaaDoor
open Go.RowKit Garner

set_option maxRecDepth 100000 in
set_option maxHeartbeats 1000000 in
theorem rRead (l : List UInt8) (A : Option Addr) (c B : Nat) (w : World) (i0 : Nat) (hr : Bytes w B A l.length l) (hB : B ≤ w.heap.size) (hc : l.length ≤ c) (hi0 : i0 ≤ l.length) (hl : l.length ≤ 140737488355328) :
    Calls Tryd.prog 63 #[.slice A l.length c, .int .i64 i0] w fun e w' => FreadPost w (fread l i0) e w' := by
  have hget := rGet l A c B w i0 hr hi0 hl
  cases hv : vget l i0 with
  | error k =>
    rw [hv] at hget
    have hk0 : (k : Int) ≠ 0 := by have := vget_err hv; omega
    have Hget := Lib.hid hget; clear hget
    have Hv := Lib.hid hv; clear hv
    have ek : ((k : Int) == 0) = false := beq_eq_false_iff_ne.2 hk0
    go_enter Tryd.func63, Tryd.ntmps63
    go_wp2_with fail
    refine Hget.out.mono ?_
    rintro e w1 ⟨rfl, rfl⟩
    simp only [vgetV]
    go_wp2
    go_ret3
    rw [fread_e1 Hv.out]
    exact ⟨rfl, Below.refl _ _⟩
  | ok r =>
    obtain ⟨n, fr⟩ := r
    rw [hv] at hget
    have Hget := Lib.hid hget; clear hget
    obtain ⟨hn64, hfr, _, hfl⟩ := vget_ok hv
    have Hv := Lib.hid hv; clear hv hfr
    by_cases h1 : 65536 < (n : Int)
    · have Hn64 := Lib.hid hn64; clear hn64
      go_enter Tryd.func63, Tryd.ntmps63
      go_wp2_with fail
      refine Hget.out.mono ?_
      rintro e w1 ⟨rfl, rfl⟩
      simp only [vgetV]
      go_wp2
      go_ret3
      rw [fread_e2 Hv.out (by omega)]
      exact ⟨rfl, Below.refl _ _⟩
    · have hn2 : (n : Int) ≤ 65536 := by omega
      clear hn64
      by_cases h2 : (l.length : Int) < fr + n + 4
      · go_enter Tryd.func63, Tryd.ntmps63
        go_wp2_with fail
        refine Hget.out.mono ?_
        rintro e w1 ⟨rfl, rfl⟩
        simp only [vgetV]
        go_wp2
        go_ret3
        rw [fread_e3 Hv.out (by omega) (by omega)]
        exact ⟨rfl, Below.refl _ _⟩
      · have hp : ((l.drop fr).take n).length = n := by rw [List.length_take, List.length_drop]; omega
        obtain ⟨b, off, rfl, hb, hcell⟩ := hr.at_ (k := fr) (by omega)
        have hcut := hr.cut (lo := fr) (hi := fr + n) (by omega) (by omega) rfl
        have hcut4 := hr.cut (lo := fr + n) (hi := fr + n + 4) (by omega) (by omega) rfl
        rw [show fr + n - fr = n by omega, ← List.map_drop, ← List.map_take] at hcut
        rw [show fr + n + 4 - (fr + n) = 4 by omega, ← List.map_drop, ← List.map_take] at hcut4
        clear hcell
        have hcf : ¬ c = fr := by omega
        have hcf4 : ¬ c = fr + n := by omega
        have i2' : (fr : Int) + n + 4 ≤ l.length := by omega
        have e4 : IntKind.i64.wrap ((fr : Int) + n + 4) = (fr : Int) + n + 4 := IntWalk.i64_in _ ⟨by omega, by omega⟩
        have z1 : (0 : Int) ≤ (fr : Int) + n := by omega
        have z2 : (fr : Int) + n ≤ (fr : Int) + n + 4 := by omega
        have z3 : (fr : Int) + n + 4 ≤ c := by omega
        have z4 : ((fr : Int) + n).toNat = fr + n := by omega
        have z5 : ((fr : Int) + n + 4).toNat = fr + n + 4 := by omega
        have z6 : fr + n + 4 - (fr + n) = 4 := by omega
        have Hp := Lib.hid hp; clear hp
        obtain ⟨p, hpe⟩ : ∃ p, p = (l.drop fr).take n := ⟨_, rfl⟩
        rw [← hpe] at hcut Hp
        have Hpe := Lib.hid hpe; clear hpe
        have Hcl := Lib.hid (crc_lt p)
        have hcl : ((crc p : Nat) : Int) ≤ 4294967295 := by have := Hcl.out; omega
        go_enter Tryd.func63, Tryd.ntmps63
        go_wp2_with fail
        refine Hget.out.mono ?_
        rintro e w1 ⟨rfl, rfl⟩
        simp only [vgetV]
        go_wp2_with (at_builtin; refine wpList_app _ rfl bytesE (base := w.heap.size) rfl rfl (World.ownsRow_nil _ _ _ _) rfl hcut (bv_one _) (by omega) (by omega) ?_; intro v3 w3 hown3 _ hbel3 _)
        have hown3' : OwnB w3 w.heap.size v3 p := by unfold OwnB; rw [Hp.out]; simpa using hown3
        clear hown3
        obtain ⟨A3, c3, rfl, hrow3⟩ := hown3'.shape
        have hcut4' := hcut4.below (hbel3.mono hB)
        have hl3 : p.length ≤ 65536 := by have := Hp.out; omega
        have hBw3 : B ≤ w3.heap.size := Nat.le_trans hB hbel3.size
        have hcv1 : ∀ (c' : Nat), (convert 23 9 (.slice (some ⟨b, off + (fr + n), none⟩) 4 c')).run Tryd.prog w3.drew = .ok (.string ⟨((l.drop (fr + n)).take 4).toArray⟩) w3.drew := fun c' => run_str (hcut4'.below (Below.refl _ _).drew)
        have hcv2 : ∀ (c' : Nat) (o : Obj), (convert 23 9 (.slice (some ⟨b, off + (fr + n), none⟩) 4 c')).run Tryd.prog (w3.alloc o).drew = .ok (.string ⟨((l.drop (fr + n)).take 4).toArray⟩) (w3.alloc o).drew := fun c' o => run_str (hcut4'.below ((Below.refl _ _).alloc hBw3 _).drew)
        go_region_with (first
            | (go_at_call 66; refine (rSum p A3 c3 w3.heap.size w3.drew hrow3 (by omega)).mono ?_; rintro e w4 ⟨rfl, rfl⟩)
            | (go_at_call 65; refine (rFour (crc p) _ (by omega)).mono ?_; rintro e w4 ⟨v4, rfl, hown4, rfl⟩; obtain ⟨A4, c4, rfl, hrow4⟩ := hown4.shape; have hconv : (convert 23 9 (.slice A4 (four (crc p)).length c4)).run Tryd.prog (w3.alloc (.cells ((four (crc p)).map bv).toArray 5)).drew = .ok (.string ⟨(four (crc p)).toArray⟩) (w3.alloc (.cells ((four (crc p)).map bv).toArray 5)).drew := run_str hrow4))
        all_goals (clear hcv1 hcv2 hconv)
        all_goals
          have hb4 : Below w.heap.size w (w3.alloc (.cells ((four (crc p)).map bv).toArray 5)).drew := (hbel3.alloc hbel3.size _).drew
          have hown5 : OwnB (w3.alloc (.cells ((four (crc p)).map bv).toArray 5)).drew w.heap.size (.slice A3 p.length c3) p := own_below hown3' (((Below.refl _ _).alloc (Nat.le_refl _) _).drew)
          go_wp2
        all_goals
          go_ret3
          first
            | (have hne : (!four (crc p) == List.take 4 (List.drop (fr + n) l)) = true := by assumption
               rw [fread_e4 Hv.out (by omega) (by omega) (by rw [← Hpe.out]; simpa using hne)]
               exact ⟨rfl, hb4⟩)
            | (have hne : (!four (crc p) == List.take 4 (List.drop (fr + n) l)) = false := by assumption
               rw [fread_e5 Hv.out (by omega) (by omega) (by rw [← Hpe.out]; simpa using hne), ← Hpe.out]
               exact ⟨_, congrArg (fun z : Int => Ending.returned (.tuple #[_, .int .i64 z, _])) (by omega), hown5, hb4⟩)
end Go.Proofs.YtmddgimadlmacaaDoor
