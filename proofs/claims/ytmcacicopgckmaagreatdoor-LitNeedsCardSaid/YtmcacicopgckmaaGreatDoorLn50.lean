import Derived.Test.YtmcacicopgckmaaGreatDoorLn41
import Derived.Test.YtmcacicopgckmaaGreatDoorLn47
import Derived.Test.YtmcacicopgckmaaGreatDoorLn37
import Derived.Test.YtmcacicopgckmaaGreatDoorLn01
/-! garnerref07: All -/
namespace Garner
open Go
theorem tw_lt : ∀ {seg : List Nat} {d : Nat}, d < (seg.takeWhile wordR).length → ∃ x, seg[d]? = some x ∧ (seg.takeWhile wordR)[d]? = some x ∧ wordR x = true
  | [], d, h => by simp at h
  | x :: seg, d, h => by
    rw [List.takeWhile_cons] at h ⊢
    by_cases hx : wordR x = true
    · rw [if_pos hx] at h ⊢
      cases d with
      | zero => exact ⟨x, rfl, rfl, hx⟩
      | succ d =>
        obtain ⟨y, h1, h2, h3⟩ := tw_lt (seg := seg) (d := d) (by rw [List.length_cons] at h; omega)
        exact ⟨y, by simpa using h1, by simpa using h2, h3⟩
    · rw [if_neg hx] at h
      simp at h
theorem tw_drop : ∀ (seg : List Nat), seg.drop (seg.takeWhile wordR).length = seg.dropWhile wordR
  | [] => rfl
  | x :: seg => by
    rw [List.takeWhile_cons, List.dropWhile_cons]
    split
    · rw [List.length_cons, List.drop_succ_cons, tw_drop seg]
    · rfl
theorem tw_end : ∀ {seg : List Nat} {x : Nat}, seg[(seg.takeWhile wordR).length]? = some x → wordR x = false
  | [], x, h => by simp at h
  | y :: seg, x, h => by
    rw [List.takeWhile_cons] at h
    by_cases hy : wordR y = true
    · rw [if_pos hy, List.length_cons, List.getElem?_cons_succ] at h
      exact tw_end h
    · rw [if_neg hy] at h
      simp at h
      subst h
      simpa using hy
theorem encT_snoc (a : List Nat) (x : Nat) : encT (a ++ [x]) = encT a ++ encR x := by unfold encT encR; rw [List.flatMap_append]; simp
theorem encT_le : ∀ (a : List Nat), (encT a).length ≤ 4 * a.length
  | [] => by simp [encT]
  | x :: a => by
    have := encT_le a
    have h2 := encR_len x
    rw [encT_cons, List.length_append, List.length_cons]; omega
/-- the word of so many word runes -/
def wordS (tw : List Nat) (d : Nat) : Bs := encT (((tw.take d).take 32).map smallR)
theorem wordS_zero (tw : List Nat) : wordS tw 0 = [] := by simp [wordS, encT]
theorem wordS_step {tw : List Nat} {d x : Nat} (h : tw[d]? = some x) : wordS tw (d + 1) = if d < 32 then wordS tw d ++ encR (smallR x) else wordS tw d := by
  have hd := (List.getElem?_eq_some_iff.1 h).1
  have e : tw.take (d + 1) = tw.take d ++ [x] := by rw [List.take_add_one, h]; rfl
  unfold wordS
  rw [e]
  have hl : (tw.take d).length = d := by rw [List.length_take]; omega
  by_cases h32 : d < 32
  · rw [if_pos h32, List.take_of_length_le (l := tw.take d ++ [x]) (by simp; omega), List.take_of_length_le (l := tw.take d) (by omega), List.map_append, List.map_cons, List.map_nil, encT_snoc]
  · rw [if_neg h32, List.take_append_of_le_length (by omega)]
theorem wordS_len (tw : List Nat) (d : Nat) : (wordS tw d).length ≤ 128 := by
  unfold wordS
  have := encT_le (((tw.take d).take 32).map smallR)
  rw [List.length_map, List.length_take] at this
  omega
theorem allGo_len : ∀ (n : Nat) (inner st : Bool) (rs : List Nat), (allGo n inner st rs).length ≤ rs.length
  | 0, _, _, _ => by simp [allGo]
  | _ + 1, _, _, [] => by simp [allGo]
  | n + 1, inner, st, r :: rs => by
    have h1 := allGo_len n inner true (rs.dropWhile wordR)
    have h2 := allGo_len n inner true rs
    have h3 := dropWhile_len wordR rs
    rw [allGo]
    split
    · rw [List.length_append, List.length_cons]
      split <;> simp <;> omega
    · rw [List.length_cons]; omega
theorem allW_len (inner st : Bool) (rs : List Nat) : (allW inner st rs).length ≤ rs.length := allGo_len _ _ _ _
end Garner
namespace Go.Proofs.YtmcacicopgckmaaGreatDoor
open Go.RowKit Garner
set_option maxRecDepth 100000 in
set_option maxHeartbeats 32000000 in
theorem gAll (S : ByteArray) (l : Bs) (hS : S = ⟨l.toArray⟩) (inner : Bool) (w : World) (hl : l.length ≤ 1000000000000) :
    Calls Tryz.prog 38 #[.string S, .bool inner] w fun e w' => ∃ v, e = .returned v ∧ w'.ownsRow w.heap.size 9 1 v (allW inner false (runesP l)).length ((allW inner false (runesP l)).map strV) ∧ Below w.heap.size w w' := by
  have hv := vRunes S l hS w hl
  have hgood := runes_good _ l (Nat.le_refl _)
  have hrl := runes_len _ l (Nat.le_refl _)
  obtain ⟨rs, hrs⟩ : ∃ rs, runesP l = rs := ⟨_, rfl⟩
  rw [hrs] at hv hgood hrl ⊢
  obtain ⟨n, hn⟩ : ∃ n, rs.length = n := ⟨_, rfl⟩
  rw [hn] at hv hrl
  obtain ⟨TOT, hTOT⟩ : ∃ TOT, allW inner false rs = TOT := ⟨_, rfl⟩
  have hTl : TOT.length ≤ n := by rw [← hTOT, ← hn]; exact allW_len _ _ _
  rw [hTOT]
  have HV := Lib.hid hv; have Hn := Lib.hid hn; have HT := Lib.hid hTOT; have HG := Lib.hid hgood; have HTl := Lib.hid hTl
  have hn9 : n ≤ 1000000000000 := by omega
  clear hv hn hTOT hgood hrs hS hrl hTl
  go_enter Tryz.func38, Tryz.ntmps38
  go_wp2_with fail
  refine HV.out.mono ?_
  rintro e w1 ⟨v, rfl, o1, b1⟩
  obtain ⟨RA, rc, rfl, -⟩ := own_form o1
  have HR := Lib.hid (RowT.of_own o1); have HB1 := Lib.hid b1
  clear o1 b1 HV
  go_wp2
  go_loopw [7, 8] (fun v i wr => ∃ (p : Nat) (st : Bool) (out : List Bs), p ≤ n ∧ i = .int .i64 p ∧ (st = true ↔ 0 < p) ∧ Hid (wr.ownsRow w1.heap.size 9 1 v out.length (out.map strV)) ∧ Hid (Below w1.heap.size w1 wr) ∧ Hid (out ++ allW inner st (rs.drop p) = TOT)) (fun _ i _ => n - (intOf i).toNat)
  case atStart => exact ⟨0, false, [], Nat.zero_le _, rfl, by simp, Lib.hid (World.ownsRow_nil _ _ _ _), Lib.hid (Below.refl _ _), HT⟩
  case round =>
    obtain ⟨p, st, out, hp, rfl, hst, hO, hbw, heq⟩ := hrel
    obtain ⟨wo, rfl⟩ : ∃ wo : World, wo = wr := ⟨_, rfl⟩
    obtain ⟨OA, oc, rfl, -⟩ := own_form hO.out
    obtain ⟨on, hon⟩ : ∃ on, out.length = on := ⟨_, rfl⟩
    have hon9 : on ≤ 1000000000000 := by
      have h1 := congrArg List.length heq.out
      have h2 := HTl.out
      rw [List.length_append] at h1; omega
    rw [hon] at hO ⊢
    have Hon := Lib.hid hon; have HSt := Lib.hid hst
    clear hon hst
    have wp1 : IntKind.i64.wrap ((p : Int) + 1) = ((p + 1 : Nat) : Int) := by rw [IntKind.wrap_i64]; omega
    by_cases hlt : p < n
    · have z1 : (p : Int) < (n : Int) := by omega
      obtain ⟨r, hr⟩ : ∃ r, rs[p]? = some r := ⟨_, List.getElem?_eq_getElem (by rw [Hn.out]; exact hlt)⟩
      obtain ⟨bR, oR, rfl, c0⟩ := (HR.out.below hbw.out).at_ (k := p) (u := rv r) (by rw [List.getElem?_map, hr]; rfl)
      have c1 : wo.cell? ⟨bR, oR + p, none⟩ = some (.int .i32 (r : Nat)) := c0
      have hdr : rs.drop p = r :: rs.drop (p + 1) := by
        obtain ⟨h1, h2⟩ := List.getElem?_eq_some_iff.1 hr
        rw [List.drop_eq_getElem_cons h1, h2]
      have hw := gWord r wo (HG.out r (List.mem_of_getElem? hr))
      cases hwr : wordR r with
      | false =>
        rw [hwr] at hw
        have heq2 : out ++ allW inner true (rs.drop (p + 1)) = TOT := by rw [← heq.out, hdr, allW_off inner st _ hwr]
        have HW := Lib.hid hw; have HEq2 := Lib.hid heq2
        clear hw heq2 hdr hr c0 hwr heq
        go_wp2_with (with_reducible refine HW.out.mono ?_; rintro e wy ⟨rfl, hz⟩; obtain rfl : wo = wy := hz.symm)
        go_roundw
        case rel => exact ⟨p + 1, true, out, by omega, by first | rfl | go_num, by simp, by rw [Hon.out]; exact hO, hbw, HEq2⟩
        case measure => simp [intOf]; omega
      | true =>
        rw [hwr] at hw
        obtain ⟨seg, hseg⟩ : ∃ seg, rs.drop p = seg := ⟨_, rfl⟩
        obtain ⟨tw, htw⟩ : ∃ tw, seg.takeWhile wordR = tw := ⟨_, rfl⟩
        have htw1 : tw = r :: (rs.drop (p + 1)).takeWhile wordR := by rw [← htw, ← hseg, hdr, List.takeWhile_cons, if_pos hwr]
        have htwn : tw.length + p ≤ n := by
          have h1 : (seg.takeWhile wordR).length ≤ seg.length := by
            have := congrArg List.length (take_drop_while wordR seg)
            rw [List.length_append] at this; omega
          rw [htw, ← hseg, List.length_drop, Hn.out] at h1
          omega
        have hdw : rs.drop (p + tw.length) = (rs.drop (p + 1)).dropWhile wordR := by
          rw [← List.drop_drop, hseg, ← htw, tw_drop, ← hseg, hdr, List.dropWhile_cons, if_pos hwr]
        have heq2 : out ++ ((if inner = false ∨ (st = true ∧ rs.drop (p + tw.length) ≠ []) then [wordS tw tw.length] else []) ++ allW inner true (rs.drop (p + tw.length))) = TOT := by
          rw [← heq.out, hdr, allW_on inner st _ hwr, hdw, wordS, List.take_of_length_le (Nat.le_refl _), htw1]
        obtain ⟨T, hT⟩ : ∃ T, tw.length = T := ⟨_, rfl⟩
        rw [hT] at heq2 htwn
        have hT1 : 1 ≤ T := by rw [← hT, htw1]; simp
        have hat : ∀ d, d < T → ∃ x, rs[p + d]? = some x ∧ tw[d]? = some x ∧ wordR x = true := fun d hd => by
          obtain ⟨x, h1, h2, h3⟩ := tw_lt (seg := seg) (d := d) (by rw [htw, hT]; exact hd)
          rw [← hseg, List.getElem?_drop] at h1
          rw [htw] at h2
          exact ⟨x, h1, h2, h3⟩
        have hend : ∀ x, rs[p + T]? = some x → wordR x = false := fun x hx => by
          refine tw_end (seg := seg) ?_
          rw [htw, hT, ← hseg, List.getElem?_drop]; exact hx
        have HW := Lib.hid hw; have HEq2 := Lib.hid heq2; have HAt := Lib.hid hat; have HEnd := Lib.hid hend; have HTw := Lib.hid hT
        clear hw heq2 hdr hr c0 hwr heq hat hend hdw htw1 htw hseg hT
        go_wp2_with (with_reducible refine HW.out.mono ?_; rintro e wy ⟨rfl, hz⟩; obtain rfl : wo = wy := hz.symm)
        go_loopw [8, 10] (fun i v wr => ∃ (q d : Nat) (Z : ByteArray), d ≤ T ∧ q ≤ n ∧ i = .int .i64 (q : Nat) ∧ v = .string Z ∧ Hid (q = p + d) ∧ Hid (Z = ⟨(wordS tw d).toArray⟩) ∧ Hid (Below wo.heap.size wo wr)) (fun i _ _ => n - (intOf i).toNat)
        case atStart => exact ⟨p, 0, ⟨#[]⟩, Nat.zero_le _, by omega, rfl, rfl, Lib.hid rfl, Lib.hid (by rw [wordS_zero]), Lib.hid (Below.refl _ _)⟩
        case round =>
          obtain ⟨q, d, Z, hd, hqn, rfl, rfl, hq, hZ, hbi⟩ := hrel
          obtain ⟨wi, rfl⟩ : ∃ wi : World, wi = wr := ⟨_, rfl⟩
          have hq' := hq.out
          have wq1 : IntKind.i64.wrap ((q : Int) + 1) = ((q + 1 : Nat) : Int) := by rw [IntKind.wrap_i64]; omega
          have wqp : IntKind.i64.wrap ((q : Int) - (p : Int)) = (d : Int) := by rw [IntKind.wrap_i64]; omega
          have hbel := hbw.out.trans (hbi.out.mono hbw.out.size)
          by_cases hdT : d < T
          · have z2 : (q : Int) < (n : Int) := by omega
            obtain ⟨x, hx, hxt, hxw⟩ := HAt.out d hdT
            rw [← hq'] at hx
            have hxg := HG.out x (List.mem_of_getElem? hx)
            obtain ⟨bR', oR', e', c0⟩ := (HR.out.below hbel).at_ (k := q) (u := rv x) (by rw [List.getElem?_map, hx]; rfl)
            cases e'
            have c1' : wi.cell? ⟨bR, oR + q, none⟩ = some (.int .i32 (x : Nat)) := c0
            have hw2 := gWord x wi hxg
            rw [hxw] at hw2
            have hsm := gSmall x wi (by unfold goodR at hxg; omega)
            have hst := wordS_step hxt
            have HW2 := Lib.hid hw2; have HSm := Lib.hid hsm; have HSt2 := Lib.hid hst; have HXg := Lib.hid (smallR_good hxg)
            clear hw2 hsm hst hxg hx hxt hxw c0 hbel hq'
            by_cases h32 : d < 32
            · have z3 : (d : Int) < 32 := by omega
              have hst2 := HSt2.out
              rw [if_pos h32] at hst2
              obtain ⟨EN, hEN⟩ : ∃ EN : ByteArray, EN = ⟨(encR (smallR x)).toArray⟩ := ⟨_, rfl⟩
              obtain ⟨C, hC, hC2, hC3⟩ := cat2 hZ.out hEN
              have hZs : Z.size = (wordS tw d).length := by rw [hZ.out]; exact str_size _
              have hEs : EN.size = (encR (smallR x)).length := by rw [hEN]; exact str_size _
              have hxl := encR_len (smallR x)
              have hwl := wordS_len tw d
              have bz1 : Z.size ≤ 128 := by omega
              have bz2 : EN.size ≤ 4 := by omega
              rw [← hst2] at hC2
              have hby := gBytes (smallR x) wi HXg.out
              have HBy := Lib.hid hby; have HC2 := Lib.hid hC2; have HEN := Lib.hid hEN
              clear hby hC2 hst2 hEN hZs hEs hxl hwl hC3 HSt2
              go_wp2_with (with_reducible refine HW2.out.mono ?_; rintro e wy ⟨rfl, hz⟩; obtain rfl : wi = wy := hz.symm)
              refine HSm.out.mono ?_
              rintro e wy ⟨rfl, hz⟩
              obtain rfl : wi = wy := hz.symm
              go_wp2_with fail
              refine HBy.out.mono ?_
              rintro e w3 ⟨A3, n3, c3, rfl, hby3, hb3⟩
              have hcv := run_str (c := c3) hby3
              rw [← HEN.out] at hcv
              have HB3 := Lib.hid (hbi.out.trans (hb3.mono hbi.out.size))
              clear hby3 hb3
              go_wp2
              go_roundw
              case rel => exact ⟨q + 1, d + 1, C, by omega, by omega, by first | rfl | go_num, rfl, Lib.hid (by have := hq.out; omega), HC2, HB3⟩
              case measure => simp [intOf]; omega
            · have z3 : ¬ (d : Int) < 32 := by omega
              have hst2 := HSt2.out
              rw [if_neg h32] at hst2
              have HZ2 : Hid (Z = ⟨(wordS tw (d + 1)).toArray⟩) := Lib.hid (by rw [hst2]; exact hZ.out)
              clear hst2 HSt2
              go_wp2_with (with_reducible refine HW2.out.mono ?_; rintro e wy ⟨rfl, hz⟩; obtain rfl : wi = wy := hz.symm)
              go_roundw
              case rel => exact ⟨q + 1, d + 1, Z, by omega, by omega, by first | rfl | go_num, rfl, Lib.hid (by have := hq.out; omega), HZ2, hbi⟩
              case measure => simp [intOf]; omega
          · obtain rfl : d = T := by omega
            have HqT := Lib.hid hq'
            have OI := Lib.hid (own_below hO.out hbi.out); have BI := Lib.hid hbel
            have hpq : p < q := by omega
            have HStt := HSt.out
            have hsi : w1.heap.size ≤ wi.heap.size := BI.out.size
            clear hbel
            by_cases hqn2 : q < n
            · have z2 : (q : Int) < (n : Int) := by omega
              obtain ⟨x, hx⟩ : ∃ x, rs[q]? = some x := ⟨_, List.getElem?_eq_getElem (by rw [Hn.out]; exact hqn2)⟩
              have hxw := HEnd.out x (by rw [← HqT.out]; exact hx)
              obtain ⟨bR', oR', e', c0⟩ := (HR.out.below BI.out).at_ (k := q) (u := rv x) (by rw [List.getElem?_map, hx]; rfl)
              cases e'
              have c1' : wi.cell? ⟨bR, oR + q, none⟩ = some (.int .i32 (x : Nat)) := c0
              have hne : rs.drop q ≠ [] := fun h => by
                have := congrArg List.length h
                rw [List.length_drop, Hn.out] at this
                simp only [List.length_nil] at this
                omega
              have hw2 := gWord x wi (HG.out x (List.mem_of_getElem? hx))
              rw [hxw] at hw2
              have HW2 := Lib.hid hw2
              clear hw2 hx hxw c0 hq'
              cases inner with
              | false =>
                have he := HEq2.out
                rw [← HqT.out, if_pos (.inl rfl)] at he
                have HE := Lib.hid he
                clear he
                go_wp2_with (first | (with_reducible refine HW2.out.mono ?_; rintro e wy ⟨rfl, hz⟩; obtain rfl : wi = wy := hz.symm) | (at_builtin; refine wpList_app _ rfl strE rfl rfl (OI.out.alloc _) rfl (row_new wi _ [_]) (by simp [Value.oneCell']) (by first | omega | (simp; omega)) (by simp; omega) ?_; intro v8 w8 own8 hg8 hb8 hx8))
                have hO8 : Hid (w8.ownsRow w1.heap.size 9 1 v8 (out ++ [wordS tw d]).length ((out ++ [wordS tw d]).map strV)) := Lib.hid (by
                  rw [List.length_append, Hon.out, List.map_append]
                  rw [hZ.out] at own8
                  exact own8)
                have hB8 := Lib.hid ((BI.out.alloc BI.out.size (.cells #[.string Z] 9)).trans hb8)
                clear own8 hg8 hb8 hx8
                go_wp2
                go_roundw
                case rel => exact ⟨q, true, out ++ [wordS tw d], by omega, by first | rfl | go_num, by constructor <;> intro _ <;> first | omega | rfl, hO8, hB8, Lib.hid (by rw [← HE.out]; simp)⟩
                case measure => simp [intOf]; omega
              | true =>
                by_cases hp0 : 0 < p
                · have z4 : (0 : Int) < (p : Int) := by omega
                  have he := HEq2.out
                  rw [← HqT.out, if_pos (.inr ⟨HStt.2 hp0, hne⟩)] at he
                  have HE := Lib.hid he
                  clear he
                  go_wp2_with (first | (with_reducible refine HW2.out.mono ?_; rintro e wy ⟨rfl, hz⟩; obtain rfl : wi = wy := hz.symm) | (at_builtin; refine wpList_app _ rfl strE rfl rfl (OI.out.alloc _) rfl (row_new wi _ [_]) (by simp [Value.oneCell']) (by first | omega | (simp; omega)) (by simp; omega) ?_; intro v8 w8 own8 hg8 hb8 hx8))
                  have hO8 : Hid (w8.ownsRow w1.heap.size 9 1 v8 (out ++ [wordS tw d]).length ((out ++ [wordS tw d]).map strV)) := Lib.hid (by
                    rw [List.length_append, Hon.out, List.map_append]
                    rw [hZ.out] at own8
                    exact own8)
                  have hB8 := Lib.hid ((BI.out.alloc BI.out.size (.cells #[.string Z] 9)).trans hb8)
                  clear own8 hg8 hb8 hx8
                  go_wp2
                  go_roundw
                  case rel => exact ⟨q, true, out ++ [wordS tw d], by omega, by first | rfl | go_num, by constructor <;> intro _ <;> first | omega | rfl, hO8, hB8, Lib.hid (by rw [← HE.out]; simp)⟩
                  case measure => simp [intOf]; omega
                · have z4 : ¬ (0 : Int) < (p : Int) := by omega
                  have he := HEq2.out
                  rw [← HqT.out, if_neg (fun h => h.elim (fun h => by cases h) fun h => hp0 (HStt.1 h.1)), List.nil_append] at he
                  have HE := Lib.hid he
                  clear he
                  go_wp2_with (with_reducible refine HW2.out.mono ?_; rintro e wy ⟨rfl, hz⟩; obtain rfl : wi = wy := hz.symm)
                  go_roundw
                  case rel => exact ⟨q, true, out, by omega, by first | rfl | go_num, by constructor <;> intro _ <;> first | omega | rfl, by rw [Hon.out]; exact OI, BI, HE⟩
                  case measure => simp [intOf]; omega
            · obtain rfl : q = n := by omega
              have z2 : ¬ (q : Int) < (q : Int) := by omega
              have hnil : rs.drop q = [] := List.drop_eq_nil_of_le (by rw [Hn.out]; exact Nat.le_refl _)
              clear hq'
              cases inner with
              | false =>
                have he := HEq2.out
                rw [← HqT.out, if_pos (.inl rfl)] at he
                have HE := Lib.hid he
                clear he
                go_wp2_with (at_builtin; refine wpList_app _ rfl strE rfl rfl (OI.out.alloc _) rfl (row_new wi _ [_]) (by simp [Value.oneCell']) (by first | omega | (simp; omega)) (by simp; omega) ?_; intro v8 w8 own8 hg8 hb8 hx8)
                have hO8 : Hid (w8.ownsRow w1.heap.size 9 1 v8 (out ++ [wordS tw d]).length ((out ++ [wordS tw d]).map strV)) := Lib.hid (by
                  rw [List.length_append, Hon.out, List.map_append]
                  rw [hZ.out] at own8
                  exact own8)
                have hB8 := Lib.hid ((BI.out.alloc BI.out.size (.cells #[.string Z] 9)).trans hb8)
                clear own8 hg8 hb8 hx8
                go_wp2
                go_roundw
                case rel => exact ⟨q, true, out ++ [wordS tw d], by omega, by first | rfl | go_num, by constructor <;> intro _ <;> first | omega | rfl, hO8, hB8, Lib.hid (by rw [← HE.out]; simp)⟩
                case measure => simp [intOf]; omega
              | true =>
                by_cases hp0 : 0 < p
                · have z4 : (0 : Int) < (p : Int) := by omega
                  have he := HEq2.out
                  rw [← HqT.out, if_neg (fun h => h.elim (fun h => by cases h) fun h => h.2 hnil), List.nil_append] at he
                  have HE := Lib.hid he
                  clear he
                  go_wp2_with fail
                  go_roundw
                  case rel => exact ⟨q, true, out, by omega, by first | rfl | go_num, by constructor <;> intro _ <;> first | omega | rfl, by rw [Hon.out]; exact OI, BI, HE⟩
                  case measure => simp [intOf]; omega
                · have z4 : ¬ (0 : Int) < (p : Int) := by omega
                  have he := HEq2.out
                  rw [← HqT.out, if_neg (fun h => h.elim (fun h => by cases h) fun h => h.2 hnil), List.nil_append] at he
                  have HE := Lib.hid he
                  clear he
                  go_wp2_with fail
                  go_roundw
                  case rel => exact ⟨q, true, out, by omega, by first | rfl | go_num, by constructor <;> intro _ <;> first | omega | rfl, by rw [Hon.out]; exact OI, BI, HE⟩
                  case measure => simp [intOf]; omega
    · obtain rfl : p = n := by omega
      have z1 : ¬ (p : Int) < (p : Int) := by omega
      have hfin : out = TOT := by
        have h1 := heq.out
        rwa [List.drop_eq_nil_of_le (by rw [Hn.out]; exact Nat.le_refl _), allW_nil, List.append_nil] at h1
      have HFin := Lib.hid hfin.symm
      clear hfin heq
      go_wp2
      go_ret
      exact ⟨_, rfl, by rw [HFin.out, Hon.out]; exact own_mono hO.out HB1.out.size, HB1.out.trans (hbw.out.mono HB1.out.size)⟩
end Go.Proofs.YtmcacicopgckmaaGreatDoor

