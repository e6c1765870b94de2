import Derived.Test.YtmcacicopgckmaaGreatDoorDt44
import Derived.Lib.AppendStr
import Derived.Lib.AppendIntMem
import Derived.Deep.CutBlock
import Derived.Test.YtmcacicopgckmaaGreatDoorDt45
import Derived.Test.YtmcacicopgckmaaGreatDoorDt06
import Derived.Test.YtmcacicopgckmaaGreatDoorDt46
import Derived.Test.YtmcacicopgckmaaGreatDoorDt39
import Derived.Test.YtmcacicopgckmaaGreatDoorDt22
import Derived.Test.YtmcacicopgckmaaGreatDoorDt01
import Derived.Test.YtmcacicopgckmaaGreatDoorDt38
/-! dfa: a state's name -/
namespace Garner
open Go
theorem itoa_nat (n : Nat) : Lib.itoa (n : Int) = Lib.decDigits n := by
  unfold Lib.itoa
  rw [if_neg (by omega)]
  rfl
end Garner
namespace Go.Proofs.YtmcacicopgckmaaGreatDoor
open Go.RowKit Garner
/-- the table of the library's number texts, whatever is done from B on -/
abbrev TabW (B : Nat) (w : World) : Prop := Lib.TabBelow Tryz.prog B w "internal/strconv.uint64pow10" .u64 Lib.pow10Tab
theorem TabW.mono {B B' : Nat} {w : World} (h : TabW B w) (hB : B ≤ B') : TabW B' w := fun w' hb => h w' (hb.mono hB)
theorem byteCells_bv (l : Bs) : Lib.byteCells l = l.map bv := rfl
set_option maxRecDepth 100000 in
set_option maxHeartbeats 4000000 in
theorem vAppBool (f : Bool) (w : World) :
    Calls Tryz.prog 120 #[.slice none 0 0, .bool f] w fun e w' => ∃ v, e = .returned v ∧ OwnB w' w.heap.size v (boolT f) ∧ Below w.heap.size w w' := by
  have key : Calls Tryz.prog 141 #[.slice none 0 0, .bool f] w fun e w' => ∃ v, e = .returned v ∧ OwnB w' w.heap.size v (boolT f) ∧ Below w.heap.size w w' := by
    obtain ⟨i, hi, hz, hs1, hb1⟩ := info_parts bytesE.info
    have own0 : w.ownsRow w.heap.size 5 1 (.slice none 0 0) 0 [] := World.ownsRow_nil _ _ _ _
    cases f
    all_goals
      go_enter Tryz.func141, Tryz.ntmps141
      go_wp2_with (at_builtin; refine Lib.wpList_append_own_string _ rfl _ _ _ _ rfl w.heap.size 5 i bytesE.slice Tryz.underlying9 hi hz hs1 hb1 _ _ _ rfl own0 _ rfl (by decide) (by decide) (Nat.le_refl _) ?_; intro v8 w8 own8 hg8 hn8)
      have hb8 : Below w.heap.size w w8 := (Below.refl _ _).grown hg8 (Nat.le_refl _) fun k hk => by cases hk
      have o8 := Lib.hid own8; have b8 := Lib.hid hb8
      clear own8 hg8 hn8 hb8
      go_wp2
      go_ret
      exact ⟨_, rfl, o8.out, b8.out⟩
  have HK := Lib.hid key
  clear key
  go_enter Tryz.func120, Tryz.ntmps120
  go_wp2_with fail
  refine HK.out.mono ?_
  rintro e w1 ⟨v, rfl, o1, b1⟩
  have O1 := Lib.hid o1; have B1 := Lib.hid b1
  clear o1 b1
  go_wp2
  go_ret
  exact ⟨_, rfl, O1.out, B1.out⟩
set_option maxRecDepth 100000 in
set_option maxHeartbeats 16000000 in
theorem vDName (f : Bool) (st : List Nat) (A : Option Addr) (n c : Nat) (hn : st.length = n) (hst : ∀ p ∈ st, p ≤ 1000000000) (hnl : n ≤ 100000) (w : World) (hr : RowT w 3 A n (st.map iv)) (hT : TabW w.heap.size w) :
    Calls Tryz.prog 106 #[.agg #[.slice A n c, .bool f]] w fun e w' => e = .returned (.string ⟨(nameT f st).toArray⟩) ∧ Below w.heap.size w w' := by
  obtain ⟨X, hX⟩ : ∃ X, X = w.alloc (.cells #[.slice A n c, .bool f] 70) := ⟨_, rfl⟩
  have hbX : Below w.heap.size w X := by rw [hX]; exact (Below.refl _ _).alloc (Nat.le_refl _) _
  have bX : Blk X w.heap.size 70 [.slice A n c, .bool f] := by rw [hX]; exact Blk.new w _ _
  have x0 : X.cell? ⟨w.heap.size, 0, none⟩ = some (.slice A n c) := bX.cell 0
  have x1 : X.cell? ⟨w.heap.size, 1, none⟩ = some (.bool f) := bX.cell 1
  have hv := vAppBool f X
  have hsX := hbX.size
  have HV := Lib.hid hv; have HB := Lib.hid hbX; have BX := Lib.hid bX; have Hn := Lib.hid hn; have Hst := Lib.hid hst; have HR := Lib.hid hr; have HT := Lib.hid hT
  clear hv hbX bX hn hst hr hT
  go_enter Tryz.func106, Tryz.ntmps106
  go_upto_region 1 with fail
  rw [← hX]
  clear hX
  go_wp2_with fail
  refine HV.out.mono ?_
  rintro e w1 ⟨v1, rfl, o1, b1⟩
  have hw1 := HB.out.trans (b1.mono hsX)
  have bX1 := BX.out.below b1 BX.out.lt
  have y0 : w1.cell? ⟨w.heap.size, 0, none⟩ = some (.slice A n c) := bX1.cell 0
  have hsz1 := hw1.size
  have O1 := Lib.hid (own_mono o1 hsX); have HW1 := Lib.hid hw1
  clear x0 x1 bX1 o1 b1 hw1 HV
  go_wp2
  go_loopw [3, 12] (fun v i wr => ∃ (j : Nat) (l : Bs), j ≤ n ∧ i = .int .i64 j ∧ Hid (l = nameT f (st.take j)) ∧ l.length ≤ 5 + 11 * j ∧ Hid (OwnB wr w.heap.size v l) ∧ Hid (Below w.heap.size w wr)) (fun _ i _ => n - (intOf i).toNat)
  case atStart => exact ⟨0, boolT f, Nat.zero_le _, rfl, Lib.hid (by simp [nameT, pcsT]), by cases f <;> decide, O1, HW1⟩
  case round =>
    obtain ⟨j, l, hj, rfl, hl, hll, hown, hbw⟩ := hrel
    obtain ⟨wo, rfl⟩ : ∃ wo : World, wo = wr := ⟨_, rfl⟩
    obtain ⟨A3, c3, rfl, -⟩ := own_form hown.out
    obtain ⟨n3, hn3⟩ : ∃ n3, l.length = n3 := ⟨_, rfl⟩
    have hso := hbw.out.size
    have wj1 : IntKind.i64.wrap ((j : Int) + 1) = ((j + 1 : Nat) : Int) := by rw [IntKind.wrap_i64]; omega
    by_cases hlt : j < n
    · have z1 : (j : Int) < (n : Int) := by omega
      obtain ⟨p, hp⟩ : ∃ p, st[j]? = some p := ⟨_, List.getElem?_eq_getElem (by rw [Hn.out]; exact hlt)⟩
      have hpl := Hst.out p (List.mem_of_getElem? hp)
      have hdl := dec_len hpl
      have hro := HR.out.below (hbw.out.mono (Nat.le_refl _))
      obtain ⟨b, off, rfl, hc⟩ := hro.at_ (k := j) (u := iv p) (by rw [List.getElem?_map, hp]; rfl)
      have hc : wo.cell? ⟨b, off + j, none⟩ = some (.int .i64 (p : Nat)) := hc
      have htk : nameT f (st.take (j + 1)) = (l ++ [32]) ++ Lib.decDigits p := by
        rw [List.take_add_one, hp, Option.toList_some, nameT, pcsT_snoc, hl.out, nameT]; simp
      obtain ⟨q, hq⟩ : ∃ q, (Lib.decDigits p).length = q := ⟨_, rfl⟩
      have hlen2 : (nameT f (st.take (j + 1))).length = n3 + 1 + q := by rw [htk, List.length_append, List.length_append, hn3, hq]; rfl
      rw [hn3] at hll
      rw [hq] at hdl
      rw [hn3] at hown ⊢
      have own3 : wo.ownsRow w.heap.size 5 1 (.slice A3 n3 c3) n3 (l.map bv) := by have := hown.out; rwa [OwnB, hn3] at this
      have Own3 := Lib.hid own3; have Hbw := Lib.hid hbw.out; have Htk := Lib.hid htk; have Hq := Lib.hid hq; have Hl2 := Lib.hid hlen2
      clear hown hbw hl htk hq hlen2 own3 hp hro hn3
      go_wp2_with (at_builtin; refine wpList_app _ rfl bytesE rfl rfl (Own3.out.alloc _) rfl (row_new wo _ [_]) (by simp [Value.oneCell']) (by first | omega | (simp; omega)) (by simp; omega) ?_; intro v8 w8 own8 hg8 hb8 hx8)
      have hb0 : Below w.heap.size w w8 := ((Hbw.out.alloc hso _).trans hb8)
      have hsz8 := hb0.size
      have own8' : w8.ownsRow w.heap.size 5 1 v8 (n3 + 1) ((l ++ [32]).map bv) := by rw [List.map_append]; exact own8
      have hai := Tryz.strconv_AppendInt_10 w.heap.size (n3 + 1) (p : Int) (by omega) (by omega) v8 _ w8 own8' hsz8 (by omega) (HT.out.on hb0)
      rw [itoa_nat, Hq.out] at hai
      have HA := Lib.hid hai; have B0 := Lib.hid hb0
      clear own8 own8' hg8 hb8 hx8 hb0 hai hc
      go_wp2_with fail
      refine HA.out.mono ?_
      rintro e w9 ⟨v9, rfl, own9, hb9, -⟩
      have hb19 := B0.out.trans hb9
      have own9' : OwnB w9 w.heap.size v9 (nameT f (st.take (j + 1))) := by
        rw [OwnB, Hl2.out, Htk.out, List.map_append]; exact own9
      have O9 := Lib.hid own9'; have B9 := Lib.hid hb19
      clear own9 own9' hb9 hb19 HA
      go_wp2
      go_roundw
      case rel => exact ⟨j + 1, _, by omega, by first | rfl | go_num, Lib.hid rfl, by rw [Hl2.out]; omega, O9, B9⟩
      case measure => simp [intOf]; omega
    · obtain rfl : j = n := by omega
      have z1 : ¬ (j : Int) < (j : Int) := by omega
      have hfin : l = nameT f st := by rw [hl.out, List.take_of_length_le (by rw [Hn.out]; exact Nat.le_refl _)]
      have hro : Bytes wo wo.heap.size A3 n3 l := by
        have h := hown.out
        unfold OwnB at h
        rw [hn3] at h
        exact Row.of_own h
      have hcv := run_str (c := c3) hro
      have Hf := Lib.hid hfin; have Hbw := Lib.hid hbw.out
      rw [hn3]
      clear hro hfin hown hbw hl hll hn3
      go_wp2
      go_ret
      exact ⟨by rw [Hf.out]; rfl, Hbw.out⟩
end Go.Proofs.YtmcacicopgckmaaGreatDoor
/-! dfa: a cache, and what calls leave of it -/
namespace Go.Proofs.YtmcacicopgckmaaGreatDoor
open Go.RowKit Garner
abbrev TC : List TypeId := [80, 129]
/-- a program whose runes lie where it does -/
theorem ProgIs.self {W0 w : World} {B : Nat} {L : Value} {g : Nat} {ins : List InstP} (h : ProgIs W0 B L w g ins) (hb : Below W0.heap.size W0 w) : ProgIs w B L w g ins := by
  obtain ⟨O, m, h3, ds, h4, h5, h6⟩ := h.ex
  exact ⟨⟨O, m, h3, ds, h4, h5, fun d hd => (h6 d hd).below hb⟩, h.nb⟩
theorem ProgIs.selfM {T : List TypeId} {w w' : World} {B : Nat} {L : Value} {g : Nat} {ins : List InstP} (h : ProgIs w B L w g ins) (hk : KeepM T w w') (h1 : 109 ∉ T) (h2 : 113 ∉ T) (h3 : 21 ∉ T) : ProgIs w' B L w' g ins := by
  obtain ⟨O, m, e3, ds, h4, h5, h6⟩ := h.ex
  exact ⟨⟨O, m, hk.blk e3 h1, ds, h4, hk.own h5 h2, fun d hd => (h6 d hd).keepM hk h3⟩, h.nb⟩
theorem ProgIs.selfB {w w' : World} {B : Nat} {L : Value} {g : Nat} {ins : List InstP} (h : ProgIs w B L w g ins) (hb : Below w.heap.size w w') : ProgIs w' B L w' g ins := h.selfM (T := []) (.of_below hb) (by simp) (by simp) (by simp)
/-- where a cache's parts lie, and what they hold -/
structure CacheD where
  g : Nat
  A : Option Addr
  cs : Nat
  mN : Nat
  mE : Nat
  nN : Nat
  nE : Nat
  nm : Bs → Option Value
  ed : EdgeP → Option Value
  ds : List KeptD
/-- the blocks that a cache's calls write -/
def CacheD.S (d : CacheD) (c : Nat) : List Nat := c :: d.mN :: d.mE :: (match d.A with | some a => [a.block] | none => [])
theorem CacheD.S_own {d : CacheD} {c n k : Nat} (h : (Value.slice d.A n d.cs).ownBlock = some k) : k ∈ d.S c := by
  unfold CacheD.S
  cases hA : d.A with
  | none => rw [hA] at h; cases h
  | some a =>
    rw [hA] at h
    have : a.block = k := by simpa [Value.ownBlock] using h
    simp [this]
structure CacheIs (B0 : Nat) (w : World) (c : Nat) (t : Re) (lim : Nat) (d : CacheD) : Prop where
  blk : Blk w c 80 [.pointer (some ⟨d.g, 0, none⟩), .int .i64 lim, .slice d.A d.ds.length d.cs, .map (some d.mN), .map (some d.mE)]
  prog : ∃ B L, ProgIs w B L w d.g (progR t)
  good : GoodT t
  own : w.ownsRow B0 129 4 (.slice d.A d.ds.length d.cs) d.ds.length (d.ds.flatMap KeptD.cells)
  rows : ∀ x ∈ d.ds, RowT w 3 x.A x.p.pcs.length (x.p.pcs.map iv) ∧ PlainA x.A x.c
  mapN : MapF strK w d.mN d.nN d.nm
  mapE : MapF edgeK w d.mE d.nE d.ed
  ne : d.mN ≠ d.mE
  gc : GoodC (progR t) lim (d.ds.map (·.p)) d.nm d.ed
  few : d.nE ≤ 4096
  low : B0 ≤ c ∧ B0 ≤ d.mN ∧ B0 ≤ d.mE ∧ B0 ≤ w.heap.size
section
variable {B0 : Nat} {w w' : World} {c : Nat} {t : Re} {lim : Nat} {d : CacheD}
theorem CacheIs.mem (h : CacheIs B0 w c t lim d) : ∀ k ∈ d.S c, B0 ≤ k ∧ k < w.heap.size := fun k hk => by
  unfold CacheD.S at hk
  rcases List.mem_cons.1 hk with rfl | hk
  · exact ⟨h.low.1, h.blk.lt⟩
  rcases List.mem_cons.1 hk with rfl | hk
  · exact ⟨h.low.2.1, h.mapN.lt⟩
  rcases List.mem_cons.1 hk with rfl | hk
  · exact ⟨h.low.2.2.1, h.mapE.lt⟩
  cases hA : d.A with
  | none => rw [hA] at hk; cases hk
  | some a =>
    rw [hA] at hk
    rw [List.mem_singleton] at hk
    subst hk
    exact h.own.lt _ (by rw [hA]; simp [Value.ownBlock])
/-- what is written lies elsewhere -/
theorem CacheIs.other {S : List Nat} (h : CacheIs B0 w c t lim d) (hb : But S w w') (hk : KeepM TC w w') (hS : ∀ k ∈ d.S c, k ∉ S) : CacheIs B0 w' c t lim d := by
  have m1 : c ∈ d.S c := by simp [CacheD.S]
  have m2 : d.mN ∈ d.S c := by simp [CacheD.S]
  have m3 : d.mE ∈ d.S c := by simp [CacheD.S]
  obtain ⟨B, L, hp⟩ := h.prog
  exact ⟨h.blk.but hb (hS _ m1), ⟨B, L, hp.selfM hk (by decide) (by decide) (by decide)⟩, h.good, own_but h.own hb fun g hg => hS _ (CacheD.S_own hg), fun x hx => ⟨(h.rows x hx).1.keepM hk (by decide), (h.rows x hx).2⟩,
    h.mapN.of_block (hb.block _ h.mapN.lt (hS _ m2)), h.mapE.of_block (hb.block _ h.mapE.lt (hS _ m3)), h.ne, h.gc, h.few, h.low.1, h.low.2.1, h.low.2.2.1, Nat.le_trans h.low.2.2.2 hb.size⟩
theorem CacheIs.below (h : CacheIs B0 w c t lim d) (hb : Below w.heap.size w w') : CacheIs B0 w' c t lim d := h.other (S := []) (.of_below hb) (.of_below hb) (by simp)
end
/-- what a call of a cache's leaves -/
structure CStep (c : Nat) (w : World) (d : CacheD) (w' : World) (d' : CacheD) : Prop where
  but : But (d.S c) w w'
  keep : KeepM TC w w'
  sub : ∀ k ∈ d'.S c, k ∈ d.S c ∨ w.heap.size ≤ k
  more : ∀ (j : Nat) x, d.ds[j]? = some x → d'.ds[j]? = some x
section
variable {B0 : Nat} {w w' w2 : World} {c : Nat} {t : Re} {lim : Nat} {d d' d2 : CacheD}
theorem CStep.refl : CStep c w d w d := ⟨.refl _ _, .refl _ _, fun _ hk => .inl hk, fun _ _ h => h⟩
theorem CStep.of_below (hb : Below w.heap.size w w') : CStep c w d w' d := ⟨.of_below hb, .of_below hb, fun _ hk => .inl hk, fun _ _ h => h⟩
theorem CStep.trans (h : CStep c w d w' d') (k : CStep c w' d' w2 d2) : CStep c w d w2 d2 :=
  ⟨h.but.old k.but h.sub, h.keep.trans k.keep, fun x hx => by
    rcases k.sub x hx with hx | hx
    · exact h.sub x hx
    · exact .inr (Nat.le_trans h.but.size hx), fun j x hx => k.more j x (h.more j x hx)⟩
theorem CStep.low (h : CStep c w d w' d') (hc : CacheIs B0 w c t lim d) : Below B0 w w' := h.but.below hc.low.2.2.2 fun k hk => (hc.mem k hk).1
end
end Go.Proofs.YtmcacicopgckmaaGreatDoor
/-! layer 19: awake; text.Has, utf.Count; matchers that are none -/
namespace Go.Proofs.YtmcacicopgckmaaGreatDoor
open Go.RowKit Garner
set_option maxRecDepth 100000 in
theorem nWhole (s : ByteArray) (w : World) : Calls Tryz.prog 17 #[.pointer none, .string s] w fun e w' => e = .returned (.bool false) ∧ w' = w := by
  go_enter Tryz.func17, Tryz.ntmps17
  go_wp2
  go_ret
  exact ⟨rfl, rfl⟩
set_option maxRecDepth 100000 in
theorem nPart (s : ByteArray) (w : World) : Calls Tryz.prog 18 #[.pointer none, .string s] w fun e w' => e = .returned (.bool false) ∧ w' = w := by
  go_enter Tryz.func18, Tryz.ntmps18
  go_wp2
  go_ret
  exact ⟨rfl, rfl⟩
set_option maxRecDepth 100000 in
set_option maxHeartbeats 8000000 in
theorem vAwake19 (w : World) (hL : Lt w) : Calls Tryz.prog 14 #[] w fun e w' => e = .returned (.bool true) ∧ Below w.heap.size w w' := by
  have h1 := vNew [97, 42, 98] w hL (by decide)
  rw [aw_ok] at h1
  have H1 := Lib.hid h1; have HL := Lib.hid hL
  clear h1 hL
  go_enter Tryz.func14, Tryz.ntmps14
  go_wp2_with fail
  refine H1.out.mono ?_
  rintro e w1 ⟨hb1, b, rfl, hm⟩
  have h2 := vNew [42] w1 (HL.out.below hb1) (by decide)
  rw [aw_no] at h2
  have H2 := Lib.hid h2; have Hm := Lib.hid hm; have HB1 := Lib.hid hb1
  clear h2 hm hb1
  go_wp2_with fail
  refine H2.out.mono ?_
  rintro e w2 ⟨hb2, he⟩
  obtain rfl : e = _ := he
  have hm2 := Hm.out.below hb2
  have h3 := vWhole awT b w2 hm2 [97, 97, 98]
  rw [aw_r1, aw_whole] at h3
  have hbw := HB1.out.trans (hb2.mono HB1.out.size)
  have H3 := Lib.hid h3; have Hm2 := Lib.hid hm2; have HBW := Lib.hid hbw
  clear h3 hm2 hbw hb2
  go_wp2_with fail
  refine H3.out.mono ?_
  rintro e w3 ⟨rfl, hb3⟩
  have hm3 := Hm2.out.below hb3
  have h4 := vWhole awT b w3 hm3 [97, 98, 120]
  rw [aw_r2, aw_not] at h4
  have hbw := HBW.out.trans (hb3.mono HBW.out.size)
  have H4 := Lib.hid h4; have Hm3 := Lib.hid hm3; have HBW3 := Lib.hid hbw
  clear h4 hm3 hbw hb3
  go_wp2_with fail
  refine H4.out.mono ?_
  rintro e w4 ⟨rfl, hb4⟩
  have hm4 := Hm3.out.below hb4
  have h5 := vPart awT b w4 hm4 [120, 97, 98, 121]
  rw [aw_r3, aw_part] at h5
  have hbw := HBW3.out.trans (hb4.mono HBW3.out.size)
  have H5 := Lib.hid h5; have HBW4 := Lib.hid hbw
  clear h5 hm4 hbw hb4
  go_wp2_with fail
  refine H5.out.mono ?_
  rintro e w5 ⟨rfl, hb5⟩
  go_wp2
  go_ret
  exact ⟨rfl, HBW4.out.trans (hb5.mono HBW4.out.size)⟩
end Go.Proofs.YtmcacicopgckmaaGreatDoor
/-! layer 19: what New answers, told as a pointer and a number; matchers that are asked again and again -/
namespace Garner
open Go
end Garner
namespace Go.Proofs.YtmcacicopgckmaaGreatDoor
open Go.RowKit Garner
/-- a matcher that is asked at a text, again and again -/
abbrev WholeA (Z : World) (b : Nat) (S : ByteArray) (ans : Bool) : Prop := ∀ wx, Below Z.heap.size Z wx → Calls Tryz.prog 17 #[.pointer (some ⟨b, 0, none⟩), .string S] wx fun e w' => e = .returned (.bool ans) ∧ Below Z.heap.size Z w'
abbrev PartA (Z : World) (b : Nat) (S : ByteArray) (ans : Bool) : Prop := ∀ wx, Below Z.heap.size Z wx → Calls Tryz.prog 18 #[.pointer (some ⟨b, 0, none⟩), .string S] wx fun e w' => e = .returned (.bool ans) ∧ Below Z.heap.size Z w'
theorem MatIs.wholeA {Z : World} {b : Nat} {t : Re} (h : MatIs Z b t) {S : ByteArray} {l : Bs} (hS : S = ⟨l.toArray⟩) : WholeA Z b S (wholeB t (runesP l)) := fun wx hx => by
  subst hS
  exact (vWhole t b wx (h.below hx) l).mono fun e w' h => ⟨h.1, hx.trans (h.2.mono hx.size)⟩
theorem MatIs.partA {Z : World} {b : Nat} {t : Re} (h : MatIs Z b t) {S : ByteArray} {l : Bs} (hS : S = ⟨l.toArray⟩) : PartA Z b S (partB t (runesP l)) := fun wx hx => by
  subst hS
  exact (vPart t b wx (h.below hx) l).mono fun e w' h => ⟨h.1, hx.trans (h.2.mono hx.size)⟩
/-- what New answers: a pointer and a number -/
def NewK (o : Except Nat Re) (p : Option Addr) (k : Nat) (w' : World) : Prop := match o with
  | .error n => p = none ∧ k = n ∧ 0 < n ∧ n ≤ 40
  | .ok t => k = 0 ∧ ∃ b, p = some ⟨b, 0, none⟩ ∧ MatIs w' b t
theorem NewK.below {o : Except Nat Re} {p : Option Addr} {k : Nat} {w w' : World} (h : NewK o p k w) (hb : Below w.heap.size w w') : NewK o p k w' := by
  cases o with
  | error n => exact h
  | ok t =>
    obtain ⟨h1, b, h2, h3⟩ := h
    exact ⟨h1, b, h2, h3.below hb⟩
theorem NewK.zero {o : Except Nat Re} {p : Option Addr} {k : Nat} {w : World} (h : NewK o p k w) (hk : k = 0) : ∃ t b, o = .ok t ∧ p = some ⟨b, 0, none⟩ ∧ MatIs w b t := by
  cases o with
  | error n =>
    obtain ⟨-, h1, h2, -⟩ := h
    omega
  | ok t =>
    obtain ⟨-, b, h2, h3⟩ := h
    exact ⟨t, b, rfl, h2, h3⟩
theorem NewK.pos {o : Except Nat Re} {p : Option Addr} {k : Nat} {w : World} (h : NewK o p k w) (hk : k ≠ 0) : o = .error k ∧ p = none := by
  cases o with
  | error n =>
    obtain ⟨h0, h1, h2, -⟩ := h
    exact ⟨by rw [h1], h0⟩
  | ok t => exact absurd h.1 hk
theorem vNewA (l : Bs) (S : ByteArray) (hS : S = ⟨l.toArray⟩) (w : World) (hL : Lt w) (hl : l.length ≤ 9223372036854775807) :
    Calls Tryz.prog 15 #[.string S] w fun e w' => ∃ (p : Option Addr) (k : Nat), e = .returned (.tuple #[.pointer p, .int .i64 (k : Nat)]) ∧ Below w.heap.size w w' ∧ NewK (rexpP l) p k w' := by
  subst hS
  refine (vNew l w hL hl).mono ?_
  intro e w' ⟨hb, h⟩
  have he := fun k => @err_pos l k
  cases ho : rexpP l with
  | error n =>
    rw [ho] at h
    obtain ⟨h1, h2⟩ := he n ho
    exact ⟨none, n, h, hb, rfl, rfl, h1, h2⟩
  | ok t =>
    rw [ho] at h
    obtain ⟨b, rfl, hm⟩ := h
    exact ⟨some ⟨b, 0, none⟩, 0, rfl, hb, rfl, b, rfl, hm⟩
theorem vNewOk (l : Bs) (S : ByteArray) (hS : S = ⟨l.toArray⟩) (t : Re) (h : rexpP l = .ok t) (w : World) (hL : Lt w) :
    Calls Tryz.prog 15 #[.string S] w fun e w' => ∃ b, e = .returned (.tuple #[.pointer (some ⟨b, 0, none⟩), .int .i64 0]) ∧ Below w.heap.size w w' ∧ MatIs w' b t := by
  subst hS
  have hl : l.length ≤ 9223372036854775807 := by
    unfold rexpP at h
    split at h
    · cases h
    · omega
  refine (vNew l w hL hl).mono ?_
  intro e w' ⟨hb, hx⟩
  rw [h] at hx
  obtain ⟨b, rfl, hm⟩ := hx
  exact ⟨b, rfl, hb, hm⟩
end Go.Proofs.YtmcacicopgckmaaGreatDoor
