import Derived.Test.YtecejnilajbdpaaGreatDoorTs51
import Derived.Test.YtecejnilajbdpaaGreatDoorTs46
namespace Garner
open Go
end Garner
namespace Go.Proofs.YtecejnilajbdpaaGreatDoor
open Go.RowKit Go.Shelf Garner
set_option maxRecDepth 100000 in
set_option maxHeartbeats 8000000 in
theorem pTOffNil (tv sv : Int) (LA : Option Addr) (ln lc : Nat) (R : ByteArray) (w : World) : Calls Tryz.prog 14 #[.pointer none, .agg #[.int .i64 tv, .int .u64 sv, .slice LA ln lc, .string R]] w fun e w' => e = .returned (.bool false) ∧ Below w.heap.size w w' := by
 obtain ⟨X, hX⟩ : ∃ X, X = w.alloc (.cells #[.int .i64 tv, .int .u64 sv, .slice LA ln lc, .string R] 38) := ⟨_, rfl⟩
 have hwX : Below w.heap.size w X := by rw [hX]; exact (Below.refl _ _).alloc (Nat.le_refl _) _
 have hH : Below X.heap.size X X.drew := (Below.refl _ _).drew
 go_enter Tryz.func14, Tryz.ntmps14
 go_upto_region 1 with fail
 rw [← hX]
 clear hX
 refine rgN (fun w' => Below X.heap.size X w') 100 (by kernel_rfl) ?_
 apply tkL 0 (by kernel_rfl) rfl (fun _ _ _ h => h) (by kernel_rfl) hH
 ·intro w' hS'; go_simp; exact ⟨rfl, rfl⟩
 apply tkL 1 (by kernel_rfl) rfl (fun _ _ _ h => h) (by kernel_rfl) hH
 ·intro w' hS'; go_simp; exact ⟨rfl, rfl⟩
 apply tkL 2 (by kernel_rfl) rfl (fun _ _ _ h => h) (by kernel_rfl) hH
 ·intro w' hS'; go_simp; exact ⟨rfl, rfl⟩
 refine skL 3 (by kernel_rfl) rfl (fun _ _ _ h => h) (by kernel_rfl) hH ?_
 refine skL 4 (by kernel_rfl) rfl (fun _ _ _ h => h) (by kernel_rfl) hH ?_
 refine skL 5 (by kernel_rfl) rfl (fun _ _ _ h => h) (by kernel_rfl) hH ?_
 refine skL 6 (by kernel_rfl) rfl (fun _ _ _ h => h) (by kernel_rfl) hH ?_
 apply tkL 7 (by kernel_rfl) rfl (fun _ _ _ h => h) (by kernel_rfl) hH
 ·intro w' hS'; go_simp; exact ⟨rfl, rfl⟩
 apply tkL 8 (by kernel_rfl) rfl (fun _ _ _ h => h) (by kernel_rfl) hH
 ·intro w' hS'; go_simp; exact ⟨rfl, rfl⟩
 refine skL 9 (by kernel_rfl) rfl (fun _ _ _ h => h) (by kernel_rfl) hH ?_
 refine skL 10 (by kernel_rfl) rfl (fun _ _ _ h => h) (by kernel_rfl) hH ?_
 refine skL 11 (by kernel_rfl) rfl (fun _ _ _ h => h) (by kernel_rfl) hH ?_
 refine skL 12 (by kernel_rfl) rfl (fun _ _ _ h => h) (by kernel_rfl) hH ?_
 refine skL 13 (by kernel_rfl) rfl (fun _ _ _ h => h) (by kernel_rfl) hH ?_
 refine skL 14 (by kernel_rfl) rfl (fun _ _ _ h => h) (by kernel_rfl) hH ?_
 refine skL 15 (by kernel_rfl) rfl (fun _ _ _ h => h) (by kernel_rfl) hH ?_
 apply tkL 16 (by kernel_rfl) rfl (fun _ _ _ h => h) (by kernel_rfl) hH
 ·intro w' hS'; go_simp; exact ⟨rfl, rfl⟩
 (try simp only [Act.put]); (try simp only [List.setIfInBounds_toArray]); (try simp only [List.set])
 refine dnL (by kernel_rfl) ?_ _
 go_wp2
 go_ret
 exact ⟨rfl, hwX.trans (hH.mono hwX.size)⟩
set_option maxRecDepth 100000 in
set_option maxHeartbeats 8000000 in
theorem gTOffNil (tv sv : Int) (LA : Option Addr) (ln lc : Nat) (R : ByteArray) (w : World) : Calls Tryz.prog 15 #[.pointer none, .agg #[.int .i64 tv, .int .u64 sv, .slice LA ln lc, .string R]] w fun e w' => e = .returned (.bool false) ∧ Below w.heap.size w w' := by
 obtain ⟨X, hX⟩ : ∃ X, X = w.alloc (.cells #[.int .i64 tv, .int .u64 sv, .slice LA ln lc, .string R] 38) := ⟨_, rfl⟩
 have hwX : Below w.heap.size w X := by rw [hX]; exact (Below.refl _ _).alloc (Nat.le_refl _) _
 have hH : Below X.heap.size X X.drew := (Below.refl _ _).drew
 go_enter Tryz.func15, Tryz.ntmps15
 go_upto_region 1 with fail
 rw [← hX]
 clear hX
 refine rgN (fun w' => Below X.heap.size X w') 100 (by kernel_rfl) ?_
 apply tkL 0 (by kernel_rfl) rfl (fun _ _ _ h => h) (by kernel_rfl) hH
 ·intro w' hS'; go_simp; exact ⟨rfl, rfl⟩
 apply tkL 1 (by kernel_rfl) rfl (fun _ _ _ h => h) (by kernel_rfl) hH
 ·intro w' hS'; go_simp; exact ⟨rfl, rfl⟩
 apply tkL 2 (by kernel_rfl) rfl (fun _ _ _ h => h) (by kernel_rfl) hH
 ·intro w' hS'; go_simp; exact ⟨rfl, rfl⟩
 refine skL 3 (by kernel_rfl) rfl (fun _ _ _ h => h) (by kernel_rfl) hH ?_
 refine skL 4 (by kernel_rfl) rfl (fun _ _ _ h => h) (by kernel_rfl) hH ?_
 refine skL 5 (by kernel_rfl) rfl (fun _ _ _ h => h) (by kernel_rfl) hH ?_
 refine skL 6 (by kernel_rfl) rfl (fun _ _ _ h => h) (by kernel_rfl) hH ?_
 apply tkL 7 (by kernel_rfl) rfl (fun _ _ _ h => h) (by kernel_rfl) hH
 ·intro w' hS'; go_simp; exact ⟨rfl, rfl⟩
 apply tkL 8 (by kernel_rfl) rfl (fun _ _ _ h => h) (by kernel_rfl) hH
 ·intro w' hS'; go_simp; exact ⟨rfl, rfl⟩
 refine skL 9 (by kernel_rfl) rfl (fun _ _ _ h => h) (by kernel_rfl) hH ?_
 refine skL 10 (by kernel_rfl) rfl (fun _ _ _ h => h) (by kernel_rfl) hH ?_
 refine skL 11 (by kernel_rfl) rfl (fun _ _ _ h => h) (by kernel_rfl) hH ?_
 refine skL 12 (by kernel_rfl) rfl (fun _ _ _ h => h) (by kernel_rfl) hH ?_
 refine skL 13 (by kernel_rfl) rfl (fun _ _ _ h => h) (by kernel_rfl) hH ?_
 refine skL 14 (by kernel_rfl) rfl (fun _ _ _ h => h) (by kernel_rfl) hH ?_
 refine skL 15 (by kernel_rfl) rfl (fun _ _ _ h => h) (by kernel_rfl) hH ?_
 apply tkL 16 (by kernel_rfl) rfl (fun _ _ _ h => h) (by kernel_rfl) hH
 ·intro w' hS'; go_simp; exact ⟨rfl, rfl⟩
 (try simp only [Act.put]); (try simp only [List.setIfInBounds_toArray]); (try simp only [List.set])
 refine dnL (by kernel_rfl) ?_ _
 go_wp2
 go_ret
 exact ⟨rfl, hwX.trans (hH.mono hwX.size)⟩
theorem pTTakeNil (n : Int) (w : World) : Calls Tryz.prog 16 #[.pointer none, .int .i64 n] w fun e w' => e = .returned (.tuple #[.slice none 0 0, .bool false]) ∧ w' = w := by
 go_enter Tryz.func16, Tryz.ntmps16
 go_wp2
 go_ret2
 exact ⟨rfl, rfl⟩
theorem pTWaitNil (w : World) : Calls Tryz.prog 19 #[.pointer none] w fun e w' => e = .returned (.int .i64 0) ∧ w' = w := by
 go_enter Tryz.func19, Tryz.ntmps19
 go_wp2
 go_ret
 exact ⟨rfl, rfl⟩
theorem pTOverNil (w : World) : Calls Tryz.prog 21 #[.pointer none] w fun e w' => e = .returned (.bool false) ∧ w' = w := by
 go_enter Tryz.func21, Tryz.ntmps21
 go_wp2
 go_ret
 exact ⟨rfl, rfl⟩
theorem gTTakeNil (n : Int) (w : World) : Calls Tryz.prog 17 #[.pointer none, .int .i64 n] w fun e w' => e = .returned (.tuple #[.slice none 0 0, .bool false]) ∧ w' = w := by
 go_enter Tryz.func17, Tryz.ntmps17
 go_wp2
 go_ret2
 exact ⟨rfl, rfl⟩
section
variable {B : Nat} {w w' : World} {g f : Nat} {q : QueryP} {ds : List RecD} {ov : Bool} {V : Value} {T : List TypeId}
theorem FilAt.keepG (h : FilAt B w g q) (hk : KeepM T w w') (h0 : 116 ∉ T) (h1 : 157 ∉ T) (h2 : 160 ∉ T) (h3 : 21 ∉ T) (h4 : 82 ∉ T) (h5 : 69 ∉ T) (h6 : 71 ∉ T) (h7 : 84 ∉ T) : FilAt B w' g q := by
 obtain ⟨v1, v2, P, Q, pv, e1, e2⟩ := h
 exact ⟨v1, v2, P, Q, pv, e1.keepT hk h0 h1 h2 h3 h4 h5 h6 h7, e2⟩
theorem TailIs.otherL {S : List Nat} (h : TailIs B w g q ds ov f V) (hb : But S w w') (hk : KeepM [43] w w') (hS : ∀ k ∈ tailS g V, k ∉ S) (hl : ∀ d ∈ ds, ∀ k, (Value.slice d.A d.r.labels.length d.c).ownBlock = some k → k ∉ S) : TailIs B w' g q ds ov f V :=
 ⟨h.blk.but hb (hS _ (by simp [tailS])), h.fil.keepG hk (by decide) (by decide) (by decide) (by decide) (by decide) (by decide) (by decide) (by decide), own_but h.row hb fun k hk' => hS k (by simp [tailS, hk']), fun d hd => own_but (h.lab d hd) hb (hl d hd), h.ms, h.fs, h.low⟩
theorem TailIs.otherR {S : List Nat} (h : TailIs B w g q ds ov f V) (hb : But S w w') (hk : KeepM TR w w') (hS : ∀ k ∈ tailS g V, k ∉ S) : TailIs B w' g q ds ov f V :=
 ⟨h.blk.but hb (hS _ (by simp [tailS])), h.fil.keepG hk (by decide) (by decide) (by decide) (by decide) (by decide) (by decide) (by decide) (by decide), own_but h.row hb fun k hk' => hS k (by simp [tailS, hk']), fun d hd => hk.own (h.lab d hd) (by decide), h.ms, h.fs, h.low⟩
end
structure ScS (w0 wr : World) (q : QueryP) (rs : List RecD) (a fa r : Nat) (MV FV VA VR : Value) (ov : Bool) (da dr : List RecD) (gone : Nat) : Prop where
 ta : TailIs w0.heap.size wr a q da ov fa VA
 ra : RTail w0.heap.size wr r MV FV dr gone ov VR
 eq : (dr.drop gone).map RecD.r = da.map RecD.r
 le : da.length ≤ 8
 sw : ∀ d ∈ dr, d ∈ rs
 dis : ∀ k ∈ tailS a VA, k ∉ tailS r VR
 low : Below w0.heap.size w0 wr
section
variable {w0 wr w1 w2 w3 w4 w' : World} {q : QueryP} {rs : List RecD} {a fa r : Nat} {MV FV VA VR L : Value} {ov : Bool} {da dr : List RecD} {gone K : Nat} {e1 e2 : Ending} {x y : RecD}
theorem ScS.len (h : ScS w0 wr q rs a fa r MV FV VA VR ov da dr gone) : dr.length - gone = da.length := by
 have := congrArg List.length h.eq
 simpa [List.length_drop] using this
theorem ScS.below (h : ScS w0 wr q rs a fa r MV FV VA VR ov da dr gone) (hb : Below wr.heap.size wr w') : ScS w0 w' q rs a fa r MV FV VA VR ov da dr gone :=
 ⟨h.ta.below hb, h.ra.below hb, h.eq, h.le, h.sw, h.dis, h.low.trans (hb.mono h.low.size)⟩
theorem ScS.spoilX {xb : Nat} (h : ScS w0 wr q rs a fa r MV FV VA VR ov da dr gone) (hb : But [xb] wr w') (hk : KeepM [43] wr w') (h1 : xb ∉ tailS a VA) (h2 : xb ∉ tailS r VR) (h3 : w0.heap.size ≤ xb) (h4 : ∀ d ∈ da, ∀ k, (Value.slice d.A d.r.labels.length d.c).ownBlock = some k → k ≠ xb) : ScS w0 w' q rs a fa r MV FV VA VR ov da dr gone :=
 ⟨h.ta.otherL hb hk (fun k hk1 hk2 => by rw [List.mem_singleton] at hk2; exact h1 (hk2 ▸ hk1)) fun d hd k hk1 hk2 => by rw [List.mem_singleton] at hk2; exact h4 d hd k hk1 hk2,
  h.ra.other hb hk fun k hk1 hk2 => by rw [List.mem_singleton] at hk2; exact h2 (hk2 ▸ hk1), h.eq, h.le, h.sw, h.dis, h.low.trans (hb.below h.low.size fun k hk1 => by rw [List.mem_singleton] at hk1; rw [hk1]; exact h3)⟩
theorem ScS.spoilL {xb : Nat} (h : ScS w0 wr q rs a fa r MV FV VA VR ov da dr gone) (hb : But [xb] wr w') (hk : KeepM TT wr w') (h1 : xb ∉ tailS a VA) (h2 : xb ∉ tailS r VR) (h3 : w0.heap.size ≤ xb) : ScS w0 w' q rs a fa r MV FV VA VR ov da dr gone :=
 ⟨h.ta.other hb hk fun k hk1 hk2 => (by rw [List.mem_singleton] at hk2; exact h1 (hk2 ▸ hk1)), h.ra.other hb hk fun k hk1 hk2 => (by rw [List.mem_singleton] at hk2; exact h2 (hk2 ▸ hk1)), h.eq, h.le, h.sw, h.dis, h.low.trans (hb.below h.low.size fun k hk1 => by rw [List.mem_singleton] at hk1; rw [hk1]; exact h3)⟩
theorem ScS.both (h : ScS w0 w1 q rs a fa r MV FV VA VR ov da dr gone) (ho : OfferO w0.heap.size a q da ov fa VA x.r w1 e1 w2) (hb : Below w2.heap.size w2 w3) (hr : ROfferO w0.heap.size r q MV FV dr gone ov VR y w3 e2 w4) (hxy : x.r = y.r) (hy : y ∈ rs) :
  ∃ b ov' da' dr' VA' VR', e1 = .returned (.bool b) ∧ e2 = .returned (.bool b) ∧ ScS w0 w4 q rs a fa r MV FV VA' VR' ov' da' dr' gone ∧ (∀ d ∈ da', d ∈ da ∨ LabOwn w1.heap.size w4 d) ∧ (∀ k ∈ tailS a VA', k ∈ tailS a VA ∨ w1.heap.size ≤ k) ∧ (∀ k ∈ tailS r VR', k ∈ tailS r VR ∨ w1.heap.size ≤ k) ∧ dr'.length ≤ dr.length + 1 := by
 obtain ⟨b, ds', ov', V', rfl, hT, hbu, hk, hs, hc⟩ := ho
 have ra2 := (h.ra.other hbu hk fun k hk1 hk2 => h.dis k hk2 hk1).below hb
 obtain ⟨b2, dr', ov2, VR', rfl, hR, hbu2, hk2, hs2, hc2⟩ := hr
 have ta4 := (hT.below hb).otherR hbu2 hk2 fun k hk1 hk3 => by
  rcases hs k hk1 with h1 | h1
  ·exact h.dis k h1 hk3
  ·have := (h.ra.lt k hk3).2; omega
 have hlen := h.len
 have heq := h.eq
 have h8 := h.le
 rw [← hxy] at hc2
 have hlow : Below w0.heap.size w0 w4 := ((h.low.trans (hbu.below h.low.size fun k hk1 => (h.ta.lt k hk1).1)).trans (hb.mono (Nat.le_trans h.low.size hbu.size))).trans (hbu2.below (Nat.le_trans h.low.size (Nat.le_trans hbu.size hb.size)) fun k hk1 => (h.ra.lt k hk1).1)
 have hs2' : ∀ k ∈ tailS r VR', k ∈ tailS r VR ∨ w3.heap.size ≤ k := hs2
 have hw13 : w1.heap.size ≤ w3.heap.size := Nat.le_trans hbu.size hb.size
 have hdis : ∀ k ∈ tailS a V', k ∉ tailS r VR' := fun k hk1 hk3 => by
  rcases hs k hk1 with h1 | h1
  ·rcases hs2 k hk3 with h4 | h4
   ·exact h.dis k h1 h4
   ·have := (h.ta.lt k h1).2; omega
  ·rcases hs2 k hk3 with h4 | h4
   ·have := (h.ra.lt k h4).2; omega
   ·have := (hT.lt k hk1).2
    have := hb.size
    omega
 have hle : gone ≤ dr.length := h.ra.le
 have key : b2 = b ∧ ov2 = ov' ∧ (dr'.drop gone).map RecD.r = ds'.map RecD.r ∧ ds'.length ≤ 8 ∧ (∀ d ∈ dr', d ∈ rs) ∧ (∀ d ∈ ds', d ∈ da ∨ LabOwn w1.heap.size w4 d) ∧ dr'.length ≤ dr.length + 1 := by
  rcases hc with ⟨hc, rfl, rfl, rfl⟩ | ⟨h0, hh, h9, rfl, rfl, rfl⟩ | ⟨h0, hh, h9, rfl, ⟨d, hd, rfl, hld⟩, rfl⟩
  ·rcases hc2 with ⟨-, rfl, rfl, rfl⟩ | ⟨g0, gh, -⟩ | ⟨g0, gh, -⟩
   ·exact ⟨rfl, rfl, heq, h8, h.sw, fun d hd => .inl hd, by omega⟩
   ·rcases hc with hc | hc
    ·rw [g0] at hc; cases hc
    ·rw [gh] at hc; cases hc
   ·rcases hc with hc | hc
    ·rw [g0] at hc; cases hc
    ·rw [gh] at hc; cases hc
  ·rcases hc2 with ⟨hc2, -⟩ | ⟨-, -, -, rfl, rfl, rfl⟩ | ⟨-, -, g8, -⟩
   ·rcases hc2 with hc2 | hc2
    ·rw [h0] at hc2; cases hc2
    ·rw [hh] at hc2; cases hc2
   ·exact ⟨rfl, rfl, heq, h8, h.sw, fun d hd => .inl hd, by omega⟩
   ·omega
  ·rcases hc2 with ⟨hc2, -⟩ | ⟨-, -, g8, -⟩ | ⟨-, -, g8, rfl, rfl, rfl⟩
   ·rcases hc2 with hc2 | hc2
    ·rw [h0] at hc2; cases hc2
    ·rw [hh] at hc2; cases hc2
   ·omega
   ·refine ⟨rfl, rfl, ?_, by rw [List.length_append]; simp; omega, fun z hz => ?_, fun z hz => ?_, by rw [List.length_append]; simp⟩
    ·rw [List.drop_append_of_le_length hle, List.map_append, heq, List.map_append]
     simp [hd, hxy]
    ·rcases List.mem_append.1 hz with hz | hz
     ·exact h.sw z hz
     ·rw [List.mem_singleton] at hz; rw [hz]; exact hy
    ·rcases List.mem_append.1 hz with hz | hz
     ·exact .inl hz
     ·rw [List.mem_singleton] at hz
      rw [hz]
      exact .inr (hk2.own (own_below hld hb) (by decide))
 obtain ⟨rfl, rfl, k3, k4, k5, k6, k7⟩ := key
 exact ⟨b2, ov2, ds', dr', V', VR', rfl, rfl, ⟨ta4, hR, k3, k4, k5, hdis, hlow⟩, k6, fun k hk1 => hs k hk1, fun k hk1 => (hs2 k hk1).imp_right fun h1 => Nat.le_trans hw13 h1, k7⟩
theorem ScS.takes {n : Int} (h : ScS w0 w1 q rs a fa r MV FV VA VR ov da dr gone) (ho : TakeO (takeN n da.length) w0.heap.size a q da ov fa w1 e1 w2) (hb : Below w2.heap.size w2 w3) (hr : RTakeO (takeN n (dr.length - gone)) w0.heap.size r MV FV dr gone ov VR w3 e2 w4) (hrs : ∀ d ∈ rs, Row w0 w0.heap.size 2 d.A d.r.labels.length (d.r.labels.flatMap labCells)) (hfew : ∀ d ∈ rs, d.r.labels.length ≤ 1000000000000) :
  ∃ K LA lc MA mc bb VA', K ≤ 8 ∧ e1 = .returned (.tuple #[.slice LA K lc, .bool bb]) ∧ e2 = .returned (.tuple #[.slice MA K mc, .bool bb]) ∧ ScS w0 w4 q rs a fa r MV FV VA' VR ov (da.drop K) dr (gone + K) ∧ RecsAt w4 LA K (da.take K) ∧ RecsAt w4 MA K ((dr.drop gone).take K) ∧ (da.take K).map RecD.r = ((dr.drop gone).take K).map RecD.r ∧
   (∃ xs, w4.ownsRow w0.heap.size 38 4 (.slice LA K lc) K xs) ∧ (∀ k, (Value.slice LA K lc).ownBlock = some k → k ∉ tailS a VA' ∧ k ∉ tailS r VR ∧ w0.heap.size ≤ k) := by
 obtain ⟨L, V', rfl, oL, hT, hbu, hk, hv, hdj⟩ := ho
 have hlen := h.len
 rw [hlen] at hr
 have hKl := takeN_le n da.length
 obtain ⟨K, hK⟩ : ∃ K, takeN n da.length = K := ⟨_, rfl⟩
 rw [hK] at oL hT hKl hr
 have h8 := h.le
 have hle := h.ra.le
 have ha : a ∈ tailS a VA := by simp [tailS]
 have ra2 := (h.ra.other hbu hk fun k hk1 hk2 => by rw [List.mem_singleton] at hk2; exact h.dis a ha (hk2 ▸ hk1)).below hb
 obtain ⟨M, rfl, oM, hR, hbu2, hk2⟩ := hr
 obtain ⟨LA, lc, rfl, -⟩ := own_form oL
 obtain ⟨MA, mc, rfl, -⟩ := own_form oM
 have hw13 : w1.heap.size ≤ w3.heap.size := Nat.le_trans hbu.size hb.size
 have hsub : ∀ k ∈ ([r] : List Nat), k ∈ tailS r VR := fun k hk1 => by rw [List.mem_singleton] at hk1; rw [hk1]; simp [tailS]
 have hdis : ∀ k ∈ tailS a V', k ∉ tailS r VR := fun k hk1 hk3 => by
  rcases List.mem_cons.1 hk1 with rfl | hk1
  ·exact h.dis k ha hk3
  ·have := hv k (Option.mem_toList.1 hk1)
   have := (h.ra.lt k hk3).2
   omega
 have ta4 := (hT.below hb).otherR hbu2 hk2 fun k hk1 hk3 => hdis k hk1 (hsub k hk3)
 have hlow : Below w0.heap.size w0 w4 := ((h.low.trans (hbu.below h.low.size fun k hk1 => by rw [List.mem_singleton] at hk1; rw [hk1]; exact h.ta.low)).trans (hb.mono (Nat.le_trans h.low.size hbu.size))).trans (hbu2.below (Nat.le_trans h.low.size hw13) fun k hk1 => (h.ra.lt k (hsub k hk1)).1)
 have heq : (da.take K).map RecD.r = ((dr.drop gone).take K).map RecD.r := by rw [List.map_take, List.map_take, h.eq]
 have hrm : ∀ d ∈ (dr.drop gone).take K, d ∈ rs := fun d hd => h.sw d (List.mem_of_mem_drop (List.mem_of_mem_take hd))
 have oL4 : w4.ownsRow w1.heap.size 38 4 (.slice LA K lc) K ((da.take K).flatMap RecD.cells) := own_but (own_below oL hb) hbu2 fun k hk1 hk3 => by
  rw [List.mem_singleton] at hk3
  have h1 := (oL.lt k hk1).1
  have h2 := (h.ra.lt k (by rw [hk3]; simp [tailS])).2
  omega
 have l1 : (da.take K).length = K := by rw [List.length_take]; omega
 have l2 : ((dr.drop gone).take K).length = K := by rw [List.length_take, List.length_drop]; omega
 have few : ∀ d ∈ da.take K, d.r.labels.length ≤ 1000000000000 := fun d hd => by
  have h1 : d.r ∈ ((dr.drop gone).take K).map RecD.r := by rw [← heq]; exact List.mem_map.2 ⟨d, hd, rfl⟩
  obtain ⟨d2, hd2, he⟩ := List.mem_map.1 h1
  rw [← he]
  exact hfew d2 (hrm d2 hd2)
 have hbb : decide (dr.length - gone - K = 0) = decide (da.length - K = 0) := by rw [hlen]
 refine ⟨K, LA, lc, MA, mc, ov && decide (da.length - K = 0), V', by omega, by rw [hK], by rw [hlen], ⟨ta4, hR, ?_, by rw [List.length_drop]; omega, h.sw, hdis, hlow⟩, ⟨Row.of_own oL4, l1, fun d hd => ?_, few⟩, ⟨Row.of_own oM, l2, fun d hd => ((hrs d (hrm d hd)).below hlow).more hlow.size, fun d hd => hfew d (hrm d hd)⟩, heq, ⟨_, own_mono oL4 h.low.size⟩, fun k hk1 => ⟨hdj k hk1, fun hk3 => ?_, Nat.le_trans h.low.size (oL.lt k hk1).1⟩⟩
 ·rw [← List.drop_drop, List.map_drop, h.eq, ← List.map_drop]
 ·exact Row.of_own (hk2.own (own_below (hk.own (h.ta.lab d (List.mem_of_mem_take hd)) (by decide)) hb) (by decide))
 ·have h1 := (oL.lt k hk1).1
  have h2 := (h.ra.lt k hk3).2
  omega
end
open Go.RowKit Go.Shelf Garner
abbrev recV (d : RecD) : Value := .agg #[.int .i64 d.r.time, .int .u64 d.r.seq, .slice d.A d.r.labels.length d.c, strB d.r.line]
abbrev But0 (n : Nat) (w w' : World) : Prop := But (List.range n) w w'
structure TwoT (w0 : World) (P R : Option Addr) (rs : List RecD) (St : Nat → World → Prop) (St2 : Nat → Nat → Nat → World → Prop) (St3 : Nat → Option Nat → World → Prop) : Prop where
 low : ∀ k wr, St k wr → Below w0.heap.size w0 wr
 bel : ∀ k wr w', St k wr → Below wr.heap.size wr w' → St k w'
 more : ∀ k wr, St k wr → St (k + 1) wr
 off : ∀ k wr w1 (x y : RecD), k ≤ 1048576 → St k wr → y ∈ rs → x.r = y.r → Below wr.heap.size wr w1 → Row w1 w1.heap.size 2 x.A x.r.labels.length (x.r.labels.flatMap labCells) →
  Calls Tryz.prog 14 #[.pointer P, recV x] w1 fun e w2 => ∃ b, e = .returned (.bool b) ∧ But0 wr.heap.size w1 w2 ∧ ∀ w3, Below w2.heap.size w2 w3 →
   Calls Tryz.prog 15 #[.pointer R, recV y] w3 fun e w4 => e = .returned (.bool b) ∧ But0 wr.heap.size w3 w4 ∧ St2 (k + 1) wr.heap.size w1.heap.size w4
 low2 : ∀ k lo hi w, St2 k lo hi w → St k w
 bel2 : ∀ k lo hi w w', St2 k lo hi w → Below w.heap.size w w' → St2 k lo hi w'
 spo2 : ∀ k lo hi w w' xb, St2 k lo hi w → lo ≤ xb → xb < hi → But [xb] w w' → KeepM [43] w w' → St2 k lo hi w'
 take : ∀ k wr w1 (n : Int), k ≤ 1048576 → St k wr → Below wr.heap.size wr w1 →
  Calls Tryz.prog 16 #[.pointer P, .int .i64 n] w1 fun e w2 => ∃ LA K lc bb, e = .returned (.tuple #[.slice LA K lc, .bool bb]) ∧ But0 wr.heap.size w1 w2 ∧ K ≤ 8 ∧ ∀ w3, Below w2.heap.size w2 w3 →
   Calls Tryz.prog 17 #[.pointer R, .int .i64 n] w3 fun e w4 => ∃ MA mc d1 d2 xs, e = .returned (.tuple #[.slice MA K mc, .bool bb]) ∧ But0 wr.heap.size w3 w4 ∧ RecsAt w4 LA K d1 ∧ RecsAt w4 MA K d2 ∧ d1.map RecD.r = d2.map RecD.r ∧ w4.ownsRow w0.heap.size 38 4 (.slice LA K lc) K xs ∧ St3 k (Value.slice LA K lc).ownBlock w4
 low3 : ∀ k lb w, St3 k lb w → St k w
 bel3 : ∀ k lb w w', St3 k lb w → Below w.heap.size w w' → St3 k lb w'
 spo3 : ∀ k lb w w', St3 k lb w → But lb.toList w w' → KeepM TT w w' → St3 k lb w'
 wait : ∀ k wr, k ≤ 1048577 → St k wr → ∃ m : Nat, (∀ w1, Below wr.heap.size wr w1 → Calls Tryz.prog 19 #[.pointer P] w1 fun e w2 => e = .returned (.int .i64 m) ∧ w2 = w1) ∧ (∀ w1, Below wr.heap.size wr w1 → Calls Tryz.prog 20 #[.pointer R] w1 fun e w2 => e = .returned (.int .i64 m) ∧ Below w1.heap.size w1 w2)
 over : ∀ k wr, St k wr → ∃ o : Bool, (∀ w1, Below wr.heap.size wr w1 → Calls Tryz.prog 21 #[.pointer P] w1 fun e w2 => e = .returned (.bool o) ∧ w2 = w1) ∧ ((R = none ∧ o = false) ∨ ∃ r, R = some ⟨r, 0, none⟩ ∧ ∀ w1, Below wr.heap.size wr w1 → w1.cell? ⟨r, 4, none⟩ = some (.bool o))
theorem But0.of_below {n : Nat} {w w' : World} (h : Below w.heap.size w w') : But0 n w w' := But.of_below h
theorem But0.blk {n g : Nat} {w w' : World} {t : TypeId} {cs : List Value} (h : But0 n w w') (hb : Blk w g t cs) (hg : n ≤ g) : Blk w' g t cs := hb.but h (by rw [List.mem_range]; omega)
theorem But0.own {n B sz m : Nat} {w w' : World} {e : TypeId} {v : Value} {xs : List Value} (h : But0 n w w') (ho : w.ownsRow B e sz v m xs) (hB : n ≤ B) : w'.ownsRow B e sz v m xs := own_but ho h fun k hk hk2 => by
 rw [List.mem_range] at hk2
 have := (ho.lt k hk).1
 omega
theorem two_nil (w0 : World) (rs : List RecD) : TwoT w0 none none rs (fun _ w => Below w0.heap.size w0 w) (fun _ lo _ w => Below w0.heap.size w0 w ∧ w0.heap.size ≤ lo) (fun _ lb w => Below w0.heap.size w0 w ∧ lb = none) where
 low := fun _ _ h => h
 bel := fun _ _ _ h hb => h.trans (hb.mono h.size)
 more := fun _ _ h => h
 off := fun k wr w1 x y _ h _ _ hb _ => by
  obtain ⟨R1, e1, -⟩ := str_form x.r.line
  obtain ⟨R2, e2, -⟩ := str_form y.r.line
  unfold recV
  rw [e1, e2]
  refine (pTOffNil _ _ _ _ _ _ w1).mono ?_
  rintro e w2 ⟨rfl, hb2⟩
  refine ⟨false, rfl, .of_below hb2, fun w3 hb3 => ?_⟩
  refine (gTOffNil _ _ _ _ _ _ w3).mono ?_
  rintro e w4 ⟨rfl, hb4⟩
  have h1 := h.trans (hb.mono h.size)
  have h2 := h1.trans (hb2.mono h1.size)
  have h3 := h2.trans (hb3.mono h2.size)
  exact ⟨rfl, .of_below hb4, h3.trans (hb4.mono h3.size), h.size⟩
 low2 := fun _ _ _ _ h => h.1
 bel2 := fun _ _ _ _ _ h hb => ⟨h.1.trans (hb.mono h.1.size), h.2⟩
 spo2 := fun _ _ _ _ _ xb h h1 _ hb _ => ⟨h.1.trans (hb.below h.1.size fun k hk => by rw [List.mem_singleton] at hk; have := h.2; omega), h.2⟩
 take := fun k wr w1 n _ h hb => by
  refine (pTTakeNil n w1).mono ?_
  rintro e w2 ⟨rfl, rfl⟩
  refine ⟨none, 0, 0, false, rfl, But.refl _ _, Nat.zero_le _, fun w3 hb3 => ?_⟩
  refine (gTTakeNil n w3).mono ?_
  rintro e w4 ⟨rfl, rfl⟩
  have h1 := h.trans (hb.mono h.size)
  have hn : RecsAt w4 none 0 [] := ⟨Row.none_, rfl, (by simp), (by simp)⟩
  exact ⟨none, 0, [], [], [], rfl, But.refl _ _, hn, hn, rfl, World.ownsRow_nil _ _ _ _, h1.trans (hb3.mono h1.size), rfl⟩
 low3 := fun _ _ _ h => h.1
 bel3 := fun _ _ _ _ h hb => ⟨h.1.trans (hb.mono h.1.size), h.2⟩
 spo3 := fun _ lb _ _ h hb _ => ⟨h.1.trans (hb.below h.1.size fun k hk => by rw [h.2] at hk; cases hk), h.2⟩
 wait := fun _ _ _ _ => ⟨0, fun w1 _ => (pTWaitNil w1).mono fun e w2 h => h, fun w1 _ => (gTWaitNil w1).mono fun e w2 h => ⟨h.1, h.2 ▸ Below.refl _ _⟩⟩
 over := fun _ _ _ => ⟨false, fun w1 _ => pTOverNil w1, .inl ⟨rfl, rfl⟩⟩
def StR (w0 : World) (q : QueryP) (rs : List RecD) (a fa r : Nat) (MV FV : Value) (k : Nat) (wr : World) : Prop := ∃ VA VR ov da dr gone, ScS w0 wr q rs a fa r MV FV VA VR ov da dr gone ∧ dr.length ≤ k
def StR2 (w0 : World) (q : QueryP) (rs : List RecD) (a fa r : Nat) (MV FV : Value) (k lo hi : Nat) (wr : World) : Prop := w0.heap.size ≤ lo ∧ ∃ VA VR ov da dr gone, ScS w0 wr q rs a fa r MV FV VA VR ov da dr gone ∧ dr.length ≤ k ∧ (∀ b, lo ≤ b → b < hi → b ∉ tailS a VA ∧ b ∉ tailS r VR ∧ ∀ d ∈ da, ∀ k, (Value.slice d.A d.r.labels.length d.c).ownBlock = some k → k ≠ b)
def StR3 (w0 : World) (q : QueryP) (rs : List RecD) (a fa r : Nat) (MV FV : Value) (k : Nat) (lb : Option Nat) (wr : World) : Prop := ∃ VA VR ov da dr gone, ScS w0 wr q rs a fa r MV FV VA VR ov da dr gone ∧ dr.length ≤ k ∧ (∀ b, lb = some b → b ∉ tailS a VA ∧ b ∉ tailS r VR ∧ w0.heap.size ≤ b)
theorem two_real {w0 : World} {q : QueryP} {rs : List RecD} {a fa r : Nat} {MA FA : Option Addr} {nm nf cm cf : Nat} (hck : checkQ q = 0) (hL : Lt w0) (hq : QueryAt w0 MA nm FA nf q)
  (hlab : ∀ d ∈ rs, Row w0 w0.heap.size 2 d.A d.r.labels.length (d.r.labels.flatMap labCells)) (hfew : ∀ d ∈ rs, d.r.labels.length ≤ 1000000000000) (hline : ∀ d ∈ rs, d.r.line.length ≤ 1500000) (hvals : ∀ d ∈ rs, ∀ y ∈ d.r.labels, y.2.length ≤ 1500000) :
  TwoT w0 (some ⟨a, 0, none⟩) (some ⟨r, 0, none⟩) rs (StR w0 q rs a fa r (.slice MA nm cm) (.slice FA nf cf)) (StR2 w0 q rs a fa r (.slice MA nm cm) (.slice FA nf cf)) (StR3 w0 q rs a fa r (.slice MA nm cm) (.slice FA nf cf)) where
 low := fun _ _ ⟨_, _, _, _, _, _, h, _⟩ => h.low
 bel := fun _ _ _ ⟨VA, VR, ov, da, dr, gone, h, hk⟩ hb => ⟨VA, VR, ov, da, dr, gone, h.below hb, hk⟩
 more := fun _ _ ⟨VA, VR, ov, da, dr, gone, h, hk⟩ => ⟨VA, VR, ov, da, dr, gone, h, by omega⟩
 off := fun k wr w1 x y hk1 ⟨VA, VR, ov, da, dr, gone, h, hk⟩ hy hxy hb hrow => by
  have h1 := h.below hb
  have few := hfew y hy
  have lin := hline y hy
  have val := hvals y hy
  refine (vOffer x.r w0.heap.size a q da ov fa VA x.A x.r.labels.length x.c w1 h1.ta (hL.below h1.low) h1.low.size h1.le hrow rfl (by rw [hxy]; exact few) (by rw [hxy]; omega)).mono ?_
  intro e w2 ho
  have ho2 := ho
  obtain ⟨b, ds', ov', V', rfl, hT, hbu, hkk, hs, -⟩ := ho2
  have hin : ∀ k ∈ tailS a VA, k ∈ List.range wr.heap.size := fun k hk2 => by rw [List.mem_range]; exact (h.ta.lt k hk2).2
  refine ⟨b, rfl, hbu.mono hin, fun w3 hb3 => ?_⟩
  have hl2 : Below w0.heap.size w0 w2 := h1.low.trans (hbu.below h1.low.size fun k hk2 => (h1.ta.lt k hk2).1)
  have hl3 := hl2.trans (hb3.mono hl2.size)
  have hR3 := (h1.ra.other hbu hkk fun k hk2 hk3 => h1.dis k hk3 hk2).below hb3
  refine (gTOffer q y w0.heap.size r MA FA nm nf cm cf dr gone ov VR w3 hck (hq.below hl3) hR3 hl3.size (by omega) (((hlab y hy).below hl3).more hl3.size) (by omega) lin val).mono ?_
  intro e w4 hr
  have hr2 := hr
  obtain ⟨b2, ds2, ov2, V2, rfl, -, hbu2, -, -, -⟩ := hr2
  obtain ⟨b3, ov3, da3, dr3, VA3, VR3, e1, e2, hS, hnew, hA, hR, hlen⟩ := h1.both ho hb3 hr hxy hy
  injection e1 with e1; injection e1 with e1
  injection e2 with e2; injection e2 with e2
  have hin2 : ∀ k ∈ tailS r VR, k ∈ List.range wr.heap.size := fun k hk2 => by rw [List.mem_range]; exact (h.ra.lt k hk2).2
  refine ⟨by rw [e1, e2], hbu2.mono hin2, h.low.size, VA3, VR3, ov3, da3, dr3, gone, hS, by omega, fun xb l1 l2 => ⟨fun hx => ?_, fun hx => ?_, fun d hd k hk2 => ?_⟩⟩
  ·rcases hA xb hx with hx | hx
   ·have := (h.ta.lt xb hx).2; omega
   ·omega
  ·rcases hR xb hx with hx | hx
   ·have := (h.ra.lt xb hx).2; omega
   ·omega
  ·rcases hnew d hd with h5 | h5
   ·have := ((h.ta.lab d h5).lt k hk2).2; omega
   ·have := (h5.lt k hk2).1; omega
 low2 := fun _ _ _ _ ⟨_, VA, VR, ov, da, dr, gone, h, hk, _⟩ => ⟨VA, VR, ov, da, dr, gone, h, hk⟩
 bel2 := fun _ _ _ _ _ ⟨h0, VA, VR, ov, da, dr, gone, h, hk, hx⟩ hb => ⟨h0, VA, VR, ov, da, dr, gone, h.below hb, hk, hx⟩
 spo2 := fun _ _ _ _ _ xb ⟨h0, VA, VR, ov, da, dr, gone, h, hk, hx⟩ l1 l2 hb hkk => by
  obtain ⟨x1, x2, x3⟩ := hx xb l1 l2
  exact ⟨h0, VA, VR, ov, da, dr, gone, h.spoilX hb hkk x1 x2 (by omega) x3, hk, hx⟩
 take := fun k wr w1 n hk1 ⟨VA, VR, ov, da, dr, gone, h, hk⟩ hb => by
  have h1 := h.below hb
  refine (vTTake n w0.heap.size a q da ov fa VA w1 h1.ta h1.low.size h1.le).mono ?_
  intro e w2 ho
  have ho2 := ho
  obtain ⟨L, V', rfl, oL, -, hbu, hkk, -, -⟩ := ho2
  obtain ⟨LA, lc, rfl, -⟩ := own_form oL
  have ha : a ∈ tailS a VA := by simp [tailS]
  have hin : ∀ k ∈ [a], k ∈ List.range wr.heap.size := fun k hk2 => by rw [List.mem_singleton] at hk2; rw [List.mem_range, hk2]; exact (h.ta.lt a ha).2
  have hKl := takeN_le n da.length
  have h8 := h.le
  refine ⟨LA, takeN n da.length, lc, _, rfl, hbu.mono hin, by omega, fun w3 hb3 => ?_⟩
  have hR3 := (h1.ra.other hbu hkk fun k hk2 hk3 => by rw [List.mem_singleton] at hk3; exact h1.dis a ha (hk3 ▸ hk2)).below hb3
  refine (gTTake n hR3 (by omega)).mono ?_
  intro e w4 hr
  have hr2 := hr
  obtain ⟨M, rfl, oM, -, hbu2, -⟩ := hr2
  obtain ⟨K, LA2, lc2, MA, mc, bb, VA', hK8, e1, e2, hS, r1, r2, heq, ⟨xs, oX⟩, hL3⟩ := h1.takes ho hb3 hr hlab hfew
  have hin2 : ∀ k ∈ [r], k ∈ List.range wr.heap.size := fun k hk2 => by rw [List.mem_singleton] at hk2; rw [List.mem_range, hk2]; exact (h.ra.lt r (by simp [tailS])).2
  injection e1 with e1; injection e1 with e1
  simp only [Array.mk.injEq, List.cons.injEq, Value.slice.injEq, Value.bool.injEq, and_true] at e1
  obtain ⟨⟨rfl, rfl, rfl⟩, hbb⟩ := e1
  injection e2 with e2
  refine ⟨MA, mc, _, _, xs, by rw [e2, hbb], hbu2.mono hin2, r1, r2, heq, oX, VA', VR, ov, _, dr, _, hS, hk, fun b hb5 => ?_⟩
  exact hL3 b hb5
 low3 := fun _ _ _ ⟨VA, VR, ov, da, dr, gone, h, hk, _⟩ => ⟨VA, VR, ov, da, dr, gone, h, hk⟩
 bel3 := fun _ _ _ _ ⟨VA, VR, ov, da, dr, gone, h, hk, hx⟩ hb => ⟨VA, VR, ov, da, dr, gone, h.below hb, hk, hx⟩
 spo3 := fun _ lb w w' ⟨VA, VR, ov, da, dr, gone, h, hk, hx⟩ hb hkk => by
  cases lb with
  | none =>
   have hbb : Below w.heap.size w w' := hb.below (Nat.le_refl _) (by simp)
   exact ⟨VA, VR, ov, da, dr, gone, h.below hbb, hk, hx⟩
  | some b =>
   obtain ⟨x1, x2, x3⟩ := hx b rfl
   exact ⟨VA, VR, ov, da, dr, gone, h.spoilL hb hkk x1 x2 x3, hk, hx⟩
 wait := fun k wr hk1 ⟨VA, VR, ov, da, dr, gone, h, hk⟩ => ⟨da.length, fun w1 hb => vWaiting w0.heap.size a q da ov fa VA w1 (h.ta.below hb), fun w1 hb => (gTWaiting (h.ra.below hb) (by omega)).mono fun e w2 h2 => ⟨by rw [h2.1, h.len], h2.2⟩⟩
 over := fun k wr ⟨VA, VR, ov, da, dr, gone, h, hk⟩ => ⟨ov, fun w1 hb => vOver w0.heap.size a q da ov fa VA w1 (h.ta.below hb), .inr ⟨r, rfl, fun w1 hb => (h.ra.blk.below hb h.ra.blk.lt).cell 4⟩⟩
end Go.Proofs.YtecejnilajbdpaaGreatDoor
