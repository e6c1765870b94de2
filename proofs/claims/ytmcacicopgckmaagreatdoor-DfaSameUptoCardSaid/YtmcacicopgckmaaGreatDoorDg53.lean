import Derived.Test.YtmcacicopgckmaaGreatDoorDg47
import Derived.Test.YtmcacicopgckmaaGreatDoorDg52
import Derived.Test.YtmcacicopgckmaaGreatDoorDg48
/-! DfaSame: the walk -/
namespace Garner
open Go
/-- a look: a text, whole or in part, perhaps behind a reset -/
structure LookP where
  text : ByteArray
  part : Bool
  reset : Bool
def LookP.cells (l : LookP) : List Value := [.string l.text, .bool l.part, .bool l.reset]
theorem look_at : ∀ {ls : List LookP} {k : Nat} {x : LookP}, ls[k]? = some x → ∀ j, j < 3 → (ls.flatMap LookP.cells)[k * 3 + j]? = x.cells[j]?
  | [], k, x, h, j, hj => by simp at h
  | y :: ls, 0, x, h, j, hj => by
    simp at h; subst h
    rw [List.flatMap_cons, List.getElem?_append_left (by show 0 * 3 + j < 3; omega), Nat.zero_mul, Nat.zero_add]
  | y :: ls, k + 1, x, h, j, hj => by
    have ih := look_at (ls := ls) (k := k) (x := x) (by simpa using h) j hj
    have hl : y.cells.length = 3 := rfl
    rw [List.flatMap_cons, List.getElem?_append_right (by omega), hl, show (k + 1) * 3 + j - 3 = k * 3 + j by omega]
    exact ih
end Garner
namespace Go.Proofs.YtmcacicopgckmaaGreatDoor
open Go.RowKit Garner
theorem NodesIs.keepM {F : Nat → Prop} {T : List TypeId} {w w' : World} {B : Nat} {v : Value} {ns : List NodeP} (h : NodesIs F w B v ns) (hk : KeepM T w w') (h1 : 3 ∉ T) (h2 : 21 ∉ T) (h3 : 94 ∉ T) : NodesIs F w' B v ns := by
  obtain ⟨ds, e, ho, hd⟩ := h
  exact ⟨ds, e, hk.own ho h3, fun d hm => ⟨(hd d hm).kids.keepM hk h1, (hd d hm).set.keepM hk h2, (hd d hm).kF, (hd d hm).sF⟩⟩
def New20 (lim : Int) (o : Except Nat Re) (w : World) (e : Ending) (w' : World) : Prop := Below w.heap.size w w' ∧ ((lim < 0 ∨ 32 < lim) → e = .returned (.tuple #[.slice none 0 0, .int .i64 1])) ∧ (¬ (lim < 0 ∨ 32 < lim) → OutP o w e w')
set_option maxRecDepth 100000 in
set_option maxHeartbeats 8000000 in
theorem rNew20 (l : Bs) (S : ByteArray) (hS : S = ⟨l.toArray⟩) (lim : Int) (w : World) (hl : l.length ≤ 9223372036854775807) :
    Calls Tryz.prog 23 #[.string S, .int .i64 lim] w fun e w' => New20 lim (rexpP l) w e w' := by
  have hp := qParse l w hl
  rw [show str l = .string S by rw [hS]] at hp
  have HP := Lib.hid hp
  clear hp hS
  by_cases hlim : lim < 0 ∨ 32 < lim
  · have hc : lim < 0 ∨ (¬ lim < 0 ∧ lim > 32) := by omega
    have HLim := Lib.hid hlim
    clear hlim HP
    go_enter Tryz.func23, Tryz.ntmps23
    rcases hc with z1 | ⟨z1, z2⟩
    all_goals
      go_wp2
      go_ret2
      exact ⟨Below.refl _ _, fun _ => rfl, fun h => absurd HLim.out h⟩
  · have z1 : ¬ lim < 0 := by omega
    have z2 : ¬ (32 : Int) < lim := by omega
    have HLim := Lib.hid hlim
    obtain ⟨OUT, hO⟩ : ∃ OUT, rexpP l = OUT := ⟨_, rfl⟩
    have hpo := HP.out
    rw [hO] at hpo ⊢
    have HPo := Lib.hid hpo
    clear hlim hpo hO HP
    go_enter Tryz.func23, Tryz.ntmps23
    go_wp2_with fail
    refine HPo.out.mono ?_
    rintro e w1 ⟨b1, ho⟩
    have HB1 := Lib.hid b1
    cases OUT with
    | error k =>
      obtain rfl := ho
      clear b1 HPo
      go_wp2
      go_ret2
      exact ⟨HB1.out, fun h => absurd h HLim.out, fun _ => rfl⟩
    | ok t =>
      obtain ⟨v, rfl, hN⟩ := ho
      have HN := Lib.hid hN
      clear b1 HPo hN
      go_wp2
      go_ret2
      exact ⟨HB1.out, fun h => absurd h HLim.out, fun _ => ⟨v, rfl, HN.out⟩⟩
set_option maxRecDepth 100000 in
set_option maxHeartbeats 64000000 in
theorem lawDF (S : ByteArray) (s : Bs) (lim : Int) (ls : List LookP) (A : Option Addr) (n c B : Nat) (hS : S = ⟨s.toArray⟩) (hn : ls.length = n) (w : World) (hr : Row w B 3 A n (ls.flatMap LookP.cells)) (hB : B ≤ w.heap.size) (hL : Lt w) (hT : TabW w.heap.size w) (b1 : s.length ≤ 140737488355328) (b2 : ∀ x ∈ ls, x.text.size ≤ 1048576) (b3 : n ≤ 140737488355328) :
    Calls Tryz.prog 5 #[.string S, .int .i64 lim, .slice A n c] w fun e w' => e = .returned (.bool true) ∧ Below w.heap.size w w' := by
  have h1 := vAwake20 w hL hT
  have he := fun q => @err_pos s q
  have hcells : ∀ (j : Nat) (x : LookP), ls[j]? = some x → ∃ b off, A = some ⟨b, off, none⟩ ∧ ∀ wq, Below w.heap.size w wq → wq.cell? ⟨b, off + j * 3, none⟩ = some (.string x.text) ∧ wq.cell? ⟨b, off + j * 3 + 1, none⟩ = some (.bool x.part) ∧ wq.cell? ⟨b, off + j * 3 + 2, none⟩ = some (.bool x.reset) := fun j x hx => by
    have hj := (List.getElem?_eq_some_iff.1 hx).1
    obtain ⟨b, off, e, hb, hc⟩ := hr.2 (by omega)
    refine ⟨b, off, e, fun wq hq => ?_⟩
    have key : ∀ i v, i < 3 → x.cells[i]? = some v → wq.cell? ⟨b, off + (j * 3 + i), none⟩ = some v := fun i v hi hv => by
      rw [hq.cell (p := ⟨b, off + (j * 3 + i), none⟩) (by show b < _; omega)]
      exact hc _ v (by rw [look_at hx i hi]; exact hv)
    refine ⟨key 0 _ (by omega) rfl, ?_, ?_⟩
    · have := key 1 _ (by omega) rfl
      rwa [← Nat.add_assoc] at this
    · have := key 2 _ (by omega) rfl
      rwa [← Nat.add_assoc] at this
  have HS := Lib.hid hS; have HL := Lib.hid hL; have H1 := Lib.hid h1; have Hn := Lib.hid hn; have HT := Lib.hid hT; have HB2 := Lib.hid b2; have HE := Lib.hid he; have HCells := Lib.hid hcells
  clear h1 hS hL hn hr hT b2 he hcells
  go_enter Tryz.func5, Tryz.ntmps5
  go_wp2_with fail
  refine H1.out.mono ?_
  rintro e w1 ⟨rfl, hb1⟩
  have h2 := vDNew s S HS.out lim w1 (HL.out.below hb1) (by omega)
  have H2 := Lib.hid h2; have HW1 := Lib.hid hb1
  clear h2 hb1
  go_wp2_with fail
  refine H2.out.mono ?_
  rintro e w2 ⟨pa, ka, rfl, hb2, hna⟩
  have hw2 := HW1.out.trans (hb2.mono HW1.out.size)
  have h3 := rNew20 s S HS.out lim w2 (by omega)
  have H3 := Lib.hid h3; have HW2 := Lib.hid hw2; have HNa := Lib.hid hna
  clear h3 hb2 hna hw2
  go_wp2_with fail
  refine H3.out.mono ?_
  rintro e w3 ⟨hb3, ho1, ho2⟩
  have hw3 := HW2.out.trans (hb3.mono HW2.out.size)
  have hcase : (∃ kb : Nat, kb ≠ 0 ∧ pa = none ∧ ka = kb ∧ e = .returned (.tuple #[.slice none 0 0, .int .i64 (kb : Nat)])) ∨ ∃ (t : Re) (lm : Nat), rexpP s = .ok t ∧ lim = (lm : Int) ∧ ka = 0 ∧ OutP (.ok t) w2 e w3 ∧ ∃ (ca : Nat) (d : CacheD), pa = some ⟨ca, 0, none⟩ ∧ CacheIs w1.heap.size w2 ca t lm d := by
    have hna := HNa.out
    unfold NewDK at hna
    by_cases hlim : lim < 0 ∨ 32 < lim
    · rw [if_pos hlim] at hna
      exact .inl ⟨1, by decide, hna.1, hna.2, ho1 hlim⟩
    · rw [if_neg hlim] at hna
      have ho := ho2 hlim
      cases hx : rexpP s with
      | error q =>
        rw [hx] at hna ho
        obtain ⟨h4, h5, h6, -⟩ := hna
        exact .inl ⟨q, by omega, h4, h5, ho⟩
      | ok t =>
        rw [hx] at hna ho
        obtain ⟨h4, ca, m, d, h5, h6, h7, -⟩ := hna
        exact .inr ⟨t, m, rfl, h5, h4, ho, ca, d, h6, h7⟩
  clear ho1 ho2 HNa H3 H2
  rcases hcase with ⟨kb, hkb, rfl, rfl, rfl⟩ | ⟨t, lm, hx, rfl, rfl, ho, ca, d, rfl, hca⟩
  · have z1 : ¬ (ka : Int) = 0 := by omega
    have z1b : ((ka : Int) != 0) = true := by simp; omega
    have HW3 := Lib.hid hw3
    clear hb3 hw3 hkb HE
    go_wp2
    go_loopw [11] (fun i wr => ∃ j : Nat, j ≤ n ∧ i = .int .i64 j ∧ wr = w3) (fun i _ => n - (intOf i).toNat)
    case atStart => exact ⟨0, Nat.zero_le _, rfl, rfl⟩
    case round =>
      obtain ⟨j, hj, rfl, hwr⟩ := hrel
      obtain rfl : w3 = wr := hwr.symm
      have wj1 : IntKind.i64.wrap ((j : Int) + 1) = ((j + 1 : Nat) : Int) := by rw [IntKind.wrap_i64]; omega
      by_cases hlt : j < n
      · have z2 : (j : Int) < (n : Int) := by omega
        obtain ⟨lk, hlk⟩ : ∃ lk, ls[j]? = some lk := ⟨_, List.getElem?_eq_getElem (by rw [Hn.out]; exact hlt)⟩
        obtain ⟨b, off, rfl, hc⟩ := HCells.out j lk hlk
        obtain ⟨x, p, r⟩ := lk
        obtain ⟨t0, t1, t2⟩ := hc w3 HW3.out
        have Q1 := Lib.hid (nReset w3); have Q2 := Lib.hid (nStates w3); have Q3 := Lib.hid (nDWhole x w3); have Q4 := Lib.hid (nDPart x w3)
        clear hc hlk HCells
        cases p <;> cases r
        all_goals
          go_wp2_with (first | (with_reducible refine Q1.out.mono ?_; rintro e wy ⟨rfl, hz⟩; obtain rfl : w3 = wy := hz.symm) | (with_reducible refine Q2.out.mono ?_; rintro e wy ⟨rfl, hz⟩; obtain rfl : w3 = wy := hz.symm) | (with_reducible refine Q3.out.mono ?_; rintro e wy ⟨rfl, hz⟩; obtain rfl : w3 = wy := hz.symm) | (with_reducible refine Q4.out.mono ?_; rintro e wy ⟨rfl, hz⟩; obtain rfl : w3 = wy := hz.symm))
          go_roundw
          case rel => exact ⟨j + 1, by omega, by go_num, by first | rfl | trivial⟩
          case measure => simp [intOf]; omega
      · obtain rfl : j = n := by omega
        have z2 : ¬ (j : Int) < (j : Int) := by omega
        go_wp2_with fail
        go_ret
        exact ⟨rfl, HW3.out⟩
  · obtain ⟨vN, rfl, hN⟩ := ho
    obtain ⟨NA, nc, rfl⟩ : ∃ NA nc, vN = .slice NA (t.flat 0).length nc := by
      obtain ⟨ds, -, h1, -⟩ := hN
      obtain ⟨NA, nc, h, -⟩ := own_form h1
      exact ⟨NA, nc, h⟩
    obtain ⟨N, hNl⟩ : ∃ N, (t.flat 0).length = N := ⟨_, rfl⟩
    have hg := rexp_goodE hx
    obtain ⟨F, hN⟩ : ∃ F, NodesIs F w3 w2.heap.size (.slice NA (t.flat 0).length nc) (t.flat 0) := ⟨_, hN⟩
    have HC := Lib.hid ((hca.below hb3).mono HW1.out.size); have HN := Lib.hid hN; have HL0 := Lib.hid hw3; have HNl := Lib.hid hNl; have HG := Lib.hid hg
    rw [hNl]
    clear hca hN hw3 hNl hg hb3 hx HE HW2
    go_wp2
    go_loopw [11] (fun i wr => ∃ (j : Nat) (d : CacheD), j ≤ n ∧ i = .int .i64 j ∧ Hid (CacheIs w.heap.size wr ca t lm d) ∧ Hid (NodesIs F wr w2.heap.size (.slice NA (t.flat 0).length nc) (t.flat 0)) ∧ Hid (Below w.heap.size w wr)) (fun i _ => n - (intOf i).toNat)
    case atStart => exact ⟨0, d, Nat.zero_le _, rfl, HC, HN, HL0⟩
    case round =>
      clear HC HN HL0
      obtain ⟨j, d, hj, rfl, HC, HN, HL0⟩ := hrel
      have wj1 : IntKind.i64.wrap ((j : Int) + 1) = ((j + 1 : Nat) : Int) := by rw [IntKind.wrap_i64]; omega
      by_cases hlt : j < n
      · have z2 : (j : Int) < (n : Int) := by omega
        obtain ⟨lk, hlk⟩ : ∃ lk, ls[j]? = some lk := ⟨_, List.getElem?_eq_getElem (by rw [Hn.out]; exact hlt)⟩
        obtain ⟨b, off, rfl, hc⟩ := HCells.out j lk hlk
        have hxs := HB2.out lk (List.mem_of_getElem? hlk)
        obtain ⟨x, p, r⟩ := lk
        have CXX := Lib.hid hc
        obtain ⟨xl, hxl⟩ : ∃ xl : Bs, x.data.toList = xl := ⟨_, rfl⟩
        have ex2 : x = ⟨xl.toArray⟩ := by rw [← hxl]
        have hxl2 : xl.length ≤ 1048576 := by rw [← hxl, ← Lib.size_eq]; exact hxs
        obtain ⟨px, hpx⟩ : ∃ px, partB t (runesP xl) = px := ⟨_, rfl⟩
        obtain ⟨wy, hwy⟩ : ∃ wy, wholeB t (runesP xl) = wy := ⟨_, rfl⟩
        have Hpx := Lib.hid hpx; have Hwy := Lib.hid hwy; have Ex2 := Lib.hid ex2; have HXL := Lib.hid hxl2
        clear hpx hwy ex2 hxl2 hxs hc hlk hxl HCells
        dsimp only at CXX
        cases r with
        | false =>
          cases p with
          | false =>
            have cr := CXX.out wr HL0.out
            obtain ⟨t0, t1, t2⟩ := cr
            have p3 := vDWhole _ ca t lm d x xl Ex2.out wr HC.out (HT.out.on HL0.out)
            rw [Hwy.out] at p3
            have P3 := Lib.hid p3
            clear p3
            go_wp2_with fail
            refine P3.out.mono ?_
            rintro e v2 ⟨rfl, d2, hc2, hs2, hp2⟩
            have hl2 := HL0.out.trans (hs2.low HC.out)
            have HC2 := Lib.hid hc2; have HN2 := Lib.hid (HN.out.keepM hs2.keep (by decide) (by decide) (by decide)); have HL2 := Lib.hid hl2; have HP2 := Lib.hid hp2
            obtain ⟨t0, t1, t2⟩ := CXX.out v2 hl2
            clear hc2 hs2 hl2 hp2 P3
            have p5 := wWhole t HG.out HN2.out x xl Ex2.out (by have := HXL.out; omega) v2 (Below.refl _ _)
            rw [HNl.out, Hwy.out] at p5
            have P5 := Lib.hid p5
            clear p5
            go_wp2_with fail
            with_reducible refine P5.out.mono ?_
            rintro e v5 ⟨rfl, hb5⟩
            have hl5 := HL2.out.trans (hb5.mono HL2.out.size)
            have HC5 := Lib.hid (HC2.out.below hb5); have HN5 := Lib.hid (HN2.out.keep (T := []) (.of_below hb5) (by simp) (by simp) (by simp)); have HL5 := Lib.hid hl5
            obtain ⟨t0, t1, t2⟩ := CXX.out v5 hl5
            clear hb5 hl5 P5
            obtain ⟨M, hM⟩ : ∃ M, d2.ds.length = M := ⟨_, rfl⟩
            have hMk := HC5.out.gc.len
            rw [List.length_map, hM] at hMk
            have hM1 := HP2.out
            rw [hM] at hM1
            have p7 := vStates _ ca t lm d2 v5 HC5.out
            rw [hM] at p7
            have P7 := Lib.hid p7
            have zM : ¬ (lm : Int) < (M : Int) := by omega
            clear p7 hM hMk
            by_cases hx0 : 0 < x.size
            · have y1 : (0 : Int) < (x.size : Int) := by omega
              by_cases hl0 : 0 < lm
              · have y2 : (0 : Int) < (lm : Int) := by omega
                have y3 : ¬ (M : Int) < 1 := by have := hM1 hl0; omega
                clear hM1
                go_wp2_with (with_reducible refine P7.out.mono ?_; rintro e wy ⟨rfl, hz⟩; obtain rfl : v5 = wy := hz.symm)
                go_roundw
                case rel => exact ⟨j + 1, d2, by omega, by go_num, HC5, HN5, HL5⟩
                case measure => simp [intOf]; omega
              · have y2 : ¬ (0 : Int) < (lm : Int) := by omega
                clear hM1
                go_wp2_with (with_reducible refine P7.out.mono ?_; rintro e wy ⟨rfl, hz⟩; obtain rfl : v5 = wy := hz.symm)
                go_roundw
                case rel => exact ⟨j + 1, d2, by omega, by go_num, HC5, HN5, HL5⟩
                case measure => simp [intOf]; omega
            · have y1 : ¬ (0 : Int) < (x.size : Int) := by omega
              clear hM1
              go_wp2_with (with_reducible refine P7.out.mono ?_; rintro e wy ⟨rfl, hz⟩; obtain rfl : v5 = wy := hz.symm)
              go_roundw
              case rel => exact ⟨j + 1, d2, by omega, by go_num, HC5, HN5, HL5⟩
              case measure => simp [intOf]; omega
          | true =>
            have cr := CXX.out wr HL0.out
            obtain ⟨t0, t1, t2⟩ := cr
            have p3 := vDWhole _ ca t lm d x xl Ex2.out wr HC.out (HT.out.on HL0.out)
            rw [Hwy.out] at p3
            have P3 := Lib.hid p3
            clear p3
            go_wp2_with fail
            refine P3.out.mono ?_
            rintro e v2 ⟨rfl, d2, hc2, hs2, hp2⟩
            have hl2 := HL0.out.trans (hs2.low HC.out)
            have HC2 := Lib.hid hc2; have HN2 := Lib.hid (HN.out.keepM hs2.keep (by decide) (by decide) (by decide)); have HL2 := Lib.hid hl2; have HP2 := Lib.hid hp2
            obtain ⟨t0, t1, t2⟩ := CXX.out v2 hl2
            clear hc2 hs2 hl2 hp2 P3
            have p4 := vDPart _ ca t lm d2 x xl Ex2.out v2 HC2.out (HT.out.on HL2.out)
            rw [Hpx.out] at p4
            have P4 := Lib.hid p4
            clear p4
            go_wp2_with fail
            refine P4.out.mono ?_
            rintro e v3 ⟨rfl, d3, hc3, hs3, hp3⟩
            have hl3 := HL2.out.trans (hs3.low HC2.out)
            have HC3 := Lib.hid hc3; have HN3 := Lib.hid (HN2.out.keepM hs3.keep (by decide) (by decide) (by decide)); have HL3 := Lib.hid hl3; have HP3 := Lib.hid hp3
            obtain ⟨t0, t1, t2⟩ := CXX.out v3 hl3
            clear hc3 hs3 hl3 hp3 P4
            have p5 := wWhole t HG.out HN3.out x xl Ex2.out (by have := HXL.out; omega) v3 (Below.refl _ _)
            rw [HNl.out, Hwy.out] at p5
            have P5 := Lib.hid p5
            clear p5
            go_wp2_with fail
            with_reducible refine P5.out.mono ?_
            rintro e v5 ⟨rfl, hb5⟩
            have hl5 := HL3.out.trans (hb5.mono HL3.out.size)
            have HC5 := Lib.hid (HC3.out.below hb5); have HN5 := Lib.hid (HN3.out.keep (T := []) (.of_below hb5) (by simp) (by simp) (by simp)); have HL5 := Lib.hid hl5
            obtain ⟨t0, t1, t2⟩ := CXX.out v5 hl5
            clear hb5 hl5 P5
            have p6 := wPart t HG.out HN5.out x xl Ex2.out (by have := HXL.out; omega) v5 (Below.refl _ _)
            rw [HNl.out, Hpx.out] at p6
            have P6 := Lib.hid p6
            clear p6
            go_wp2_with fail
            with_reducible refine P6.out.mono ?_
            rintro e v6 ⟨rfl, hb6⟩
            have hl6 := HL5.out.trans (hb6.mono HL5.out.size)
            have HC6 := Lib.hid (HC5.out.below hb6); have HN6 := Lib.hid (HN5.out.keep (T := []) (.of_below hb6) (by simp) (by simp) (by simp)); have HL6 := Lib.hid hl6
            obtain ⟨t0, t1, t2⟩ := CXX.out v6 hl6
            clear hb6 hl6 P6
            obtain ⟨M, hM⟩ : ∃ M, d3.ds.length = M := ⟨_, rfl⟩
            have hMk := HC6.out.gc.len
            rw [List.length_map, hM] at hMk
            have hM1 := HP3.out
            rw [hM] at hM1
            have p7 := vStates _ ca t lm d3 v6 HC6.out
            rw [hM] at p7
            have P7 := Lib.hid p7
            have zM : ¬ (lm : Int) < (M : Int) := by omega
            clear p7 hM hMk
            by_cases hx0 : 0 < x.size
            · have y1 : (0 : Int) < (x.size : Int) := by omega
              by_cases hl0 : 0 < lm
              · have y2 : (0 : Int) < (lm : Int) := by omega
                have y3 : ¬ (M : Int) < 1 := by have := hM1 hl0; omega
                clear hM1
                go_wp2_with (with_reducible refine P7.out.mono ?_; rintro e wy ⟨rfl, hz⟩; obtain rfl : v6 = wy := hz.symm)
                go_roundw
                case rel => exact ⟨j + 1, d3, by omega, by go_num, HC6, HN6, HL6⟩
                case measure => simp [intOf]; omega
              · have y2 : ¬ (0 : Int) < (lm : Int) := by omega
                clear hM1
                go_wp2_with (with_reducible refine P7.out.mono ?_; rintro e wy ⟨rfl, hz⟩; obtain rfl : v6 = wy := hz.symm)
                go_roundw
                case rel => exact ⟨j + 1, d3, by omega, by go_num, HC6, HN6, HL6⟩
                case measure => simp [intOf]; omega
            · have y1 : ¬ (0 : Int) < (x.size : Int) := by omega
              clear hM1
              go_wp2_with (with_reducible refine P7.out.mono ?_; rintro e wy ⟨rfl, hz⟩; obtain rfl : v6 = wy := hz.symm)
              go_roundw
              case rel => exact ⟨j + 1, d3, by omega, by go_num, HC6, HN6, HL6⟩
              case measure => simp [intOf]; omega
        | true =>
          cases p with
          | false =>
            have cr := CXX.out wr HL0.out
            obtain ⟨t0, t1, t2⟩ := cr
            have p1 := vReset _ ca t lm d wr HC.out
            have P1 := Lib.hid p1
            clear p1
            go_wp2_with fail
            refine P1.out.mono ?_
            rintro e v1 ⟨rfl, d1, hc1, hd1, hbu1, hke1, -⟩
            have hl1 := HL0.out.trans (hbu1.below HL0.out.size fun k hk => (HC.out.mem k hk).1)
            have HC1 := Lib.hid hc1; have HN1 := Lib.hid (HN.out.keepM hke1 (by decide) (by decide) (by decide)); have HL1 := Lib.hid hl1
            have p2 := vStates _ ca t lm d1 v1 hc1
            rw [hd1] at p2
            have P2 := Lib.hid p2
            obtain ⟨t0, t1, t2⟩ := CXX.out v1 hl1
            clear p2 hd1 hbu1 hke1 hl1 hc1 P1
            go_wp2_with fail
            with_reducible refine P2.out.mono ?_
            rintro e wy1 ⟨rfl, hz⟩
            obtain rfl : v1 = wy1 := hz.symm
            clear P2
            have p3 := vDWhole _ ca t lm d1 x xl Ex2.out v1 HC1.out (HT.out.on HL1.out)
            rw [Hwy.out] at p3
            have P3 := Lib.hid p3
            clear p3
            go_wp2_with fail
            refine P3.out.mono ?_
            rintro e v2 ⟨rfl, d2, hc2, hs2, hp2⟩
            have hl2 := HL1.out.trans (hs2.low HC1.out)
            have HC2 := Lib.hid hc2; have HN2 := Lib.hid (HN1.out.keepM hs2.keep (by decide) (by decide) (by decide)); have HL2 := Lib.hid hl2; have HP2 := Lib.hid hp2
            obtain ⟨t0, t1, t2⟩ := CXX.out v2 hl2
            clear hc2 hs2 hl2 hp2 P3
            have p5 := wWhole t HG.out HN2.out x xl Ex2.out (by have := HXL.out; omega) v2 (Below.refl _ _)
            rw [HNl.out, Hwy.out] at p5
            have P5 := Lib.hid p5
            clear p5
            go_wp2_with fail
            with_reducible refine P5.out.mono ?_
            rintro e v5 ⟨rfl, hb5⟩
            have hl5 := HL2.out.trans (hb5.mono HL2.out.size)
            have HC5 := Lib.hid (HC2.out.below hb5); have HN5 := Lib.hid (HN2.out.keep (T := []) (.of_below hb5) (by simp) (by simp) (by simp)); have HL5 := Lib.hid hl5
            obtain ⟨t0, t1, t2⟩ := CXX.out v5 hl5
            clear hb5 hl5 P5
            obtain ⟨M, hM⟩ : ∃ M, d2.ds.length = M := ⟨_, rfl⟩
            have hMk := HC5.out.gc.len
            rw [List.length_map, hM] at hMk
            have hM1 := HP2.out
            rw [hM] at hM1
            have p7 := vStates _ ca t lm d2 v5 HC5.out
            rw [hM] at p7
            have P7 := Lib.hid p7
            have zM : ¬ (lm : Int) < (M : Int) := by omega
            clear p7 hM hMk
            by_cases hx0 : 0 < x.size
            · have y1 : (0 : Int) < (x.size : Int) := by omega
              by_cases hl0 : 0 < lm
              · have y2 : (0 : Int) < (lm : Int) := by omega
                have y3 : ¬ (M : Int) < 1 := by have := hM1 hl0; omega
                clear hM1
                go_wp2_with (with_reducible refine P7.out.mono ?_; rintro e wy ⟨rfl, hz⟩; obtain rfl : v5 = wy := hz.symm)
                go_roundw
                case rel => exact ⟨j + 1, d2, by omega, by go_num, HC5, HN5, HL5⟩
                case measure => simp [intOf]; omega
              · have y2 : ¬ (0 : Int) < (lm : Int) := by omega
                clear hM1
                go_wp2_with (with_reducible refine P7.out.mono ?_; rintro e wy ⟨rfl, hz⟩; obtain rfl : v5 = wy := hz.symm)
                go_roundw
                case rel => exact ⟨j + 1, d2, by omega, by go_num, HC5, HN5, HL5⟩
                case measure => simp [intOf]; omega
            · have y1 : ¬ (0 : Int) < (x.size : Int) := by omega
              clear hM1
              go_wp2_with (with_reducible refine P7.out.mono ?_; rintro e wy ⟨rfl, hz⟩; obtain rfl : v5 = wy := hz.symm)
              go_roundw
              case rel => exact ⟨j + 1, d2, by omega, by go_num, HC5, HN5, HL5⟩
              case measure => simp [intOf]; omega
          | true =>
            have cr := CXX.out wr HL0.out
            obtain ⟨t0, t1, t2⟩ := cr
            have p1 := vReset _ ca t lm d wr HC.out
            have P1 := Lib.hid p1
            clear p1
            go_wp2_with fail
            refine P1.out.mono ?_
            rintro e v1 ⟨rfl, d1, hc1, hd1, hbu1, hke1, -⟩
            have hl1 := HL0.out.trans (hbu1.below HL0.out.size fun k hk => (HC.out.mem k hk).1)
            have HC1 := Lib.hid hc1; have HN1 := Lib.hid (HN.out.keepM hke1 (by decide) (by decide) (by decide)); have HL1 := Lib.hid hl1
            have p2 := vStates _ ca t lm d1 v1 hc1
            rw [hd1] at p2
            have P2 := Lib.hid p2
            obtain ⟨t0, t1, t2⟩ := CXX.out v1 hl1
            clear p2 hd1 hbu1 hke1 hl1 hc1 P1
            go_wp2_with fail
            with_reducible refine P2.out.mono ?_
            rintro e wy1 ⟨rfl, hz⟩
            obtain rfl : v1 = wy1 := hz.symm
            clear P2
            have p3 := vDWhole _ ca t lm d1 x xl Ex2.out v1 HC1.out (HT.out.on HL1.out)
            rw [Hwy.out] at p3
            have P3 := Lib.hid p3
            clear p3
            go_wp2_with fail
            refine P3.out.mono ?_
            rintro e v2 ⟨rfl, d2, hc2, hs2, hp2⟩
            have hl2 := HL1.out.trans (hs2.low HC1.out)
            have HC2 := Lib.hid hc2; have HN2 := Lib.hid (HN1.out.keepM hs2.keep (by decide) (by decide) (by decide)); have HL2 := Lib.hid hl2; have HP2 := Lib.hid hp2
            obtain ⟨t0, t1, t2⟩ := CXX.out v2 hl2
            clear hc2 hs2 hl2 hp2 P3
            have p4 := vDPart _ ca t lm d2 x xl Ex2.out v2 HC2.out (HT.out.on HL2.out)
            rw [Hpx.out] at p4
            have P4 := Lib.hid p4
            clear p4
            go_wp2_with fail
            refine P4.out.mono ?_
            rintro e v3 ⟨rfl, d3, hc3, hs3, hp3⟩
            have hl3 := HL2.out.trans (hs3.low HC2.out)
            have HC3 := Lib.hid hc3; have HN3 := Lib.hid (HN2.out.keepM hs3.keep (by decide) (by decide) (by decide)); have HL3 := Lib.hid hl3; have HP3 := Lib.hid hp3
            obtain ⟨t0, t1, t2⟩ := CXX.out v3 hl3
            clear hc3 hs3 hl3 hp3 P4
            have p5 := wWhole t HG.out HN3.out x xl Ex2.out (by have := HXL.out; omega) v3 (Below.refl _ _)
            rw [HNl.out, Hwy.out] at p5
            have P5 := Lib.hid p5
            clear p5
            go_wp2_with fail
            with_reducible refine P5.out.mono ?_
            rintro e v5 ⟨rfl, hb5⟩
            have hl5 := HL3.out.trans (hb5.mono HL3.out.size)
            have HC5 := Lib.hid (HC3.out.below hb5); have HN5 := Lib.hid (HN3.out.keep (T := []) (.of_below hb5) (by simp) (by simp) (by simp)); have HL5 := Lib.hid hl5
            obtain ⟨t0, t1, t2⟩ := CXX.out v5 hl5
            clear hb5 hl5 P5
            have p6 := wPart t HG.out HN5.out x xl Ex2.out (by have := HXL.out; omega) v5 (Below.refl _ _)
            rw [HNl.out, Hpx.out] at p6
            have P6 := Lib.hid p6
            clear p6
            go_wp2_with fail
            with_reducible refine P6.out.mono ?_
            rintro e v6 ⟨rfl, hb6⟩
            have hl6 := HL5.out.trans (hb6.mono HL5.out.size)
            have HC6 := Lib.hid (HC5.out.below hb6); have HN6 := Lib.hid (HN5.out.keep (T := []) (.of_below hb6) (by simp) (by simp) (by simp)); have HL6 := Lib.hid hl6
            obtain ⟨t0, t1, t2⟩ := CXX.out v6 hl6
            clear hb6 hl6 P6
            obtain ⟨M, hM⟩ : ∃ M, d3.ds.length = M := ⟨_, rfl⟩
            have hMk := HC6.out.gc.len
            rw [List.length_map, hM] at hMk
            have hM1 := HP3.out
            rw [hM] at hM1
            have p7 := vStates _ ca t lm d3 v6 HC6.out
            rw [hM] at p7
            have P7 := Lib.hid p7
            have zM : ¬ (lm : Int) < (M : Int) := by omega
            clear p7 hM hMk
            by_cases hx0 : 0 < x.size
            · have y1 : (0 : Int) < (x.size : Int) := by omega
              by_cases hl0 : 0 < lm
              · have y2 : (0 : Int) < (lm : Int) := by omega
                have y3 : ¬ (M : Int) < 1 := by have := hM1 hl0; omega
                clear hM1
                go_wp2_with (with_reducible refine P7.out.mono ?_; rintro e wy ⟨rfl, hz⟩; obtain rfl : v6 = wy := hz.symm)
                go_roundw
                case rel => exact ⟨j + 1, d3, by omega, by go_num, HC6, HN6, HL6⟩
                case measure => simp [intOf]; omega
              · have y2 : ¬ (0 : Int) < (lm : Int) := by omega
                clear hM1
                go_wp2_with (with_reducible refine P7.out.mono ?_; rintro e wy ⟨rfl, hz⟩; obtain rfl : v6 = wy := hz.symm)
                go_roundw
                case rel => exact ⟨j + 1, d3, by omega, by go_num, HC6, HN6, HL6⟩
                case measure => simp [intOf]; omega
            · have y1 : ¬ (0 : Int) < (x.size : Int) := by omega
              clear hM1
              go_wp2_with (with_reducible refine P7.out.mono ?_; rintro e wy ⟨rfl, hz⟩; obtain rfl : v6 = wy := hz.symm)
              go_roundw
              case rel => exact ⟨j + 1, d3, by omega, by go_num, HC6, HN6, HL6⟩
              case measure => simp [intOf]; omega
      · obtain rfl : j = n := by omega
        have z2 : ¬ (j : Int) < (j : Int) := by omega
        go_wp2_with fail
        go_ret
        exact ⟨rfl, HL0.out⟩
end Go.Proofs.YtmcacicopgckmaaGreatDoor

