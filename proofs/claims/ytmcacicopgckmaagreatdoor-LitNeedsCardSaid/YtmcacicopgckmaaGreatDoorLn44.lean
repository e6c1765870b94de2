import Derived.Test.YtmcacicopgckmaaGreatDoorLn22
import Derived.Sort.Walk0
import Derived.Deep.CutBlock
/-! garnerref07: Once -/
namespace Go.Proofs.YtmcacicopgckmaaGreatDoor
open Go.RowKit Garner
theorem bytes_less {a b : Bs} : Op.bytesLess a b = decide (a < b) := by rw [Proofs.bytesLess_eq]
theorem row_empty {w : World} {B : Nat} {A : Option Addr} : Row w B 1 A 0 [] := ⟨by simp, fun h => absurd h (Nat.lt_irrefl 0)⟩
theorem no_one : ∀ u ∈ ([] : List Value), u.oneCell' = true := fun u hu => by cases hu
theorem once_take (l : List Bs) (k : Nat) {x : Bs} (h : l[k]? = some x) : onceR (l.take (k + 1)) = insO x (onceR (l.take k)) := by rw [List.take_add_one, h, Option.toList_some, onceR_snoc]
theorem onceR_len (l : List Bs) : (onceR l).length ≤ l.length := by
  have key : ∀ (l out : List Bs), (l.foldl (fun out x => insO x out) out).length ≤ out.length + l.length := by
    have h1 : ∀ (x : Bs) (l : List Bs), (insO x l).length ≤ l.length + 1 := fun x l => by
      induction l with
      | nil => simp [insO]
      | cons y r ih =>
        rw [insO]
        split
        · simp only [List.length_cons]; omega
        · split <;> simp
    intro l
    induction l with
    | nil => intro out; simp
    | cons a r ih =>
      intro out
      have := ih (insO a out)
      have := h1 a out
      rw [List.foldl_cons, List.length_cons]; omega
  have := key l []
  simpa [onceR] using this
theorem Row.head_ {w : World} {B n j : Nat} {A : Option Addr} {xs : List Value} (h : Row w B 1 A n xs) (hj : j ≤ n) : Row w B 1 A j (xs.take j) := by
  refine ⟨by have := h.1; rw [List.length_take]; omega, fun hn => ?_⟩
  obtain ⟨b, off, e, hb, hc⟩ := h.2 (by omega)
  refine ⟨b, off, e, hb, fun k u hu => hc k u ?_⟩
  rw [List.getElem?_take] at hu
  split at hu
  · exact hu
  · cases hu
theorem Row.tail_ {w : World} {B n j b off : Nat} {xs : List Value} (h : Row w B 1 (some ⟨b, off, none⟩) n xs) (hj : j ≤ n) : Row w B 1 (some ⟨b, off + j, none⟩) (n - j) (xs.drop j) := by
  refine ⟨by have := h.1; rw [List.length_drop]; omega, fun hn => ?_⟩
  obtain ⟨b', off', e, hb, hc⟩ := h.2 (by omega)
  cases e
  refine ⟨b, off + j, rfl, hb, fun k u hu => ?_⟩
  rw [List.getElem?_drop] at hu
  rw [Nat.add_assoc]
  exact hc _ u hu
theorem once_last {n : Nat} {l : List Bs} (hn : l.length = n) : onceR (l.take n) = onceB l := by rw [List.take_of_length_le (by omega), onceR_eq]
set_option maxRecDepth 100000 in
set_option maxHeartbeats 32000000 in
theorem vOnce7 (l : List Bs) (A : Option Addr) (n c B : Nat) (w : World) (hn : l.length = n) (ha : Row w B 1 A n (l.map strV)) (hB : B ≤ w.heap.size) (hl : n ≤ 1000000000000) :
    Calls Tryz.prog 35 #[.slice A n c] w fun e w' => ∃ v, e = .returned v ∧ w'.ownsRow w.heap.size 9 1 v (onceB l).length ((onceB l).map strV) ∧ Below w.heap.size w w' := by
  have Hn := Lib.hid hn; have Ha := Lib.hid ha
  clear hn ha
  go_enter Tryz.func35, Tryz.ntmps35
  go_wp2_with fail
  go_loopw [3, 4] (fun v i wr => ∃ k : Nat, k ≤ n ∧ i = .int .i64 k ∧ Hid (wr.ownsRow w.heap.size 9 1 v (onceR (l.take k)).length ((onceR (l.take k)).map strV)) ∧ Hid (Below w.heap.size w wr)) (fun _ i _ => n - (intOf i).toNat)
  case atStart => exact ⟨0, Nat.zero_le _, rfl, Lib.hid (World.ownsRow_nil _ _ _ _), Lib.hid (Below.refl _ _)⟩
  case round =>
    obtain ⟨k, hk, rfl, hown, hbw⟩ := hrel
    obtain ⟨wo, rfl⟩ : ∃ wo : World, wo = wr := ⟨_, rfl⟩
    have wk1 : IntKind.i64.wrap ((k : Int) + 1) = ((k + 1 : Nat) : Int) := by rw [IntKind.wrap_i64]; omega
    obtain ⟨out, hout⟩ : ∃ out, onceR (l.take k) = out := ⟨_, rfl⟩
    rw [hout] at hown
    obtain ⟨A3, c3, rfl, hc3⟩ := own_form hown.out
    obtain ⟨m, hm⟩ : ∃ m, out.length = m := ⟨_, rfl⟩
    have hmk : m ≤ k := by
      rw [← hm, ← hout]
      have := onceR_len (l.take k)
      rw [List.length_take] at this
      omega
    rw [hm] at hown hc3 ⊢
    by_cases hlt : k < n
    · have z1 : (k : Int) < (n : Int) := by omega
      obtain ⟨x, hx⟩ : ∃ x, l[k]? = some x := ⟨_, List.getElem?_eq_getElem (by rw [Hn.out]; exact hlt)⟩
      have hnx := once_take l k hx
      rw [hout] at hnx
      have Hnx := Lib.hid hnx; have Hm := Lib.hid hm; have Hx := Lib.hid hx
      clear hnx hout hm hx
      go_wp2_with fail
      go_loopw [5] (fun i wr => ∃ j : Nat, j ≤ m ∧ i = .int .i64 j ∧ Hid (∀ y ∈ out.take j, y < x) ∧ Hid (Below wo.heap.size wo wr)) (fun i _ => m - (intOf i).toNat)
      case atStart => exact ⟨0, Nat.zero_le _, rfl, Lib.hid (by simp), Lib.hid (Below.refl _ _)⟩
      case round =>
        obtain ⟨j, hj, rfl, hlo, hbo⟩ := hrel
        obtain ⟨wi, rfl⟩ : ∃ wi : World, wi = wr := ⟨_, rfl⟩
        have wj1 : IntKind.i64.wrap ((j : Int) + 1) = ((j + 1 : Nat) : Int) := by rw [IntKind.wrap_i64]; omega
        have hbi : Below w.heap.size w wi := hbw.out.trans (hbo.out.mono hbw.out.size)
        have hown2 := own_below hown.out hbo.out
        obtain ⟨b1, o1, rfl, -, cx⟩ := str_at (Ha.out.below (hbi.mono hB)) Hx.out
        have cx2 : ∀ q, (wi.drewN q).cell? ⟨b1, o1 + k, none⟩ = some (.string ⟨x.toArray⟩) := fun _ => cx
        have HBi := Lib.hid hbi; have Own2 := Lib.hid hown2
        clear hbi
        by_cases hjm : j < m
        · have z2 : (j : Int) < (m : Int) := by omega
          obtain ⟨y, hy⟩ : ∃ y, out[j]? = some y := ⟨_, List.getElem?_eq_getElem (by rw [Hm.out]; exact hjm)⟩
          obtain ⟨b2, o2, rfl, -, cy⟩ := str_at (Row.of_own hown2) hy
          clear hown2
          by_cases hyx : y < x
          · have hq : Op.bytesLess y x = true := by rw [bytes_less, decide_eq_true hyx]
            have hlo2 : ∀ z ∈ out.take (j + 1), z < x := fun z hz => by
              rw [List.take_add_one, hy] at hz
              rcases List.mem_append.1 hz with hz | hz
              · exact hlo.out z hz
              · simp at hz; subst hz; exact hyx
            have Hlo := Lib.hid hlo2
            clear hlo2 hyx hy hlo
            go_wp2_with fail
            go_quiet (fail)
            go_wp2
            go_roundw
            case rel =>
              first
                | exact ⟨j + 1, by omega, by go_num, Hlo, Lib.hid (below_drewN hbo.out _)⟩
                | ((repeat apply Exists.intro); exact ⟨⟨j + 1, by omega, by go_num, Hlo, Lib.hid (below_drewN hbo.out _)⟩, rfl⟩)
            case measure => simp [intOf]; omega
          · have hq : Op.bytesLess y x = false := by rw [bytes_less, decide_eq_false hyx]
            by_cases he : y = x
            · have hq2 : (y == x) = true := beq_iff_eq.2 he
              have hf : insO x out = out := by
                have h := insO_split (x := x) (a := out.take j) (b := out.drop j) hlo.out (fun z hz => by
                  rw [List.head?_drop, hy] at hz
                  cases hz; exact hyx)
                rw [List.take_append_drop] at h
                rw [h, List.head?_drop, hy, he, if_pos rfl, List.take_append_drop]
              rw [hf] at Hnx
              have hbo1 : ∀ q, Below wo.heap.size wo (wi.drewN q) := fun q => below_drewN hbo.out q
              clear hf hyx hy hlo he
              go_wp2_with fail
              go_quiet (fail)
              go_wp2_with fail
              go_quiet (fail)
              go_wp2
              go_roundw
              case rel =>
                exact ⟨k + 1, by omega, by go_num, Lib.hid (by rw [Hnx.out, Hm.out]; exact own_below Own2.out (below_drewN (Below.refl _ _) _)), Lib.hid (below_drewN HBi.out _)⟩
              case measure => simp [intOf]; omega
            · have hq2 : (y == x) = false := beq_eq_false_iff_ne.2 he
              have hf : out.take j ++ [x] ++ out.drop j = insO x out := by
                have h := insO_split (x := x) (a := out.take j) (b := out.drop j) hlo.out (fun z hz => by
                  rw [List.head?_drop, hy] at hz
                  cases hz; exact hyx)
                rw [List.take_append_drop] at h
                rw [h, List.head?_drop, hy, if_neg (by simp; exact he)]
                simp
              rw [← hf] at Hnx
              clear hyx hy hlo he hf
              go_wp2_with fail
              go_quiet (fail)
              go_wp2_with fail
              go_quiet (fail)
              clear cy
              go_upto_region 10 with fail
              generalize hD : World.drewN _ _ = D
              have hiD : Below wi.heap.size wi D := by rw [← hD]; first | exact below_drewN (below_drewN (Below.refl _ _) _) _ | exact below_drewN (Below.refl _ _) _
              have oD := own_below Own2.out hiD
              have hwD : Below w.heap.size w D := HBi.out.trans (hiD.mono HBi.out.size)
              clear hD cx cx2
              have hsD := hwD.size
              have rD := Row.of_own oD
              go_upto_region 11 with (at_builtin; refine wpList_app _ rfl strE rfl rfl (World.ownsRow_nil D w.heap.size 9 1) rfl (rD.head_ hj) (by rw [← List.map_take]; exact strV_one _) (by omega) hsD ?_; intro v5 w5 own5 hg5 hb5 hx5)
              have hg5' : D.grownBy w5 none := hg5
              have b5 : Below D.heap.size D w5 := (Below.refl _ _).grown hg5' (Nat.le_refl _) (fun q hq => by cases hq)
              have hw5 : Below w.heap.size w w5 := hwD.trans (b5.mono hsD)
              have hs5 := hw5.size
              rw [Nat.zero_add, List.nil_append] at own5
              obtain ⟨A5, c5, rfl, -⟩ := own_form own5
              obtain ⟨_, _, e5, -, cx5⟩ := str_at (Ha.out.below (hw5.mono hB)) Hx.out
              cases e5
              have hx5' : (Value.slice A5 j c5).ownBlock = none ∨ (Value.slice A5 j c5).ownBlock = some D.heap.size := hx5
              have ne5 : ∀ q, (Value.slice A5 j c5).ownBlock = some q → D.heap.size ≤ q := fun q hq => by
                rcases hx5' with h | h
                · rw [h] at hq; cases hq
                · rw [h] at hq; injection hq with hq; omega
              have Own5 := Lib.hid own5; have OD := Lib.hid oD; have Hw5 := Lib.hid hw5; have B5 := Lib.hid b5; have NE5 := Lib.hid ne5
              clear own5 oD hw5 b5 ne5 hg5 hg5' hb5 hx5 hx5' rD hiD hwD
              have hsD5 := B5.out.size
              go_upto_region 12 with (at_builtin; refine wpList_app _ rfl strE rfl rfl (Own5.out.alloc _) rfl (row_new w5 _ [_]) (by simp [Value.oneCell']) (by first | omega | (simp; done) | (simp; omega)) (by simp; omega) ?_; intro v6 w6 own6 hg6 hb6 hx6)
              have b6 : Below w.heap.size w w6 := (Hw5.out.alloc hs5 _).trans hb6
              have o6 : w6.ownsRow w.heap.size 9 1 (.slice (some ⟨b2, o2, none⟩) m c3) m (out.map strV) := own_grown ((own_below OD.out B5.out).alloc _) hg6 (by
                rcases hb : (Value.slice (some ⟨b2, o2, none⟩) m c3).ownBlock with _ | q
                · exact .inl rfl
                · refine .inr fun e => ?_
                  have h1 := NE5.out q e.symm
                  have h2 := (OD.out.lt q hb).2
                  omega)
              have hs6 := b6.size
              have r6 := Row.of_own o6
              have Own6 := Lib.hid own6; have Hw6 := Lib.hid b6
              clear own6 b6 hg6 hb6 hx6 o6 cx5 Own5 OD Hw5 B5 NE5
              go_wp2_with (at_builtin; refine wpList_app _ rfl strE rfl rfl Own6.out rfl (r6.tail_ hj) (by rw [← List.map_drop]; exact strV_one _) (by first | omega | (simp; done) | (simp; omega)) hs6 ?_; intro v7 w7 own7 hg7 hb7 hx7)
              have hw7 : Below w.heap.size w w7 := Hw6.out.trans hb7
              have e7 : (out.map strV).take j ++ [Value.string ⟨x.toArray⟩] ++ (out.map strV).drop j = (out.take j ++ [x] ++ out.drop j).map strV := by first | (rw [List.map_append, List.map_append, List.map_take, List.map_drop]; rfl) | (rw [List.drop_eq_nil_of_le (by rw [Hm.out]; exact Nat.le_refl _), List.map_append, List.map_append, List.map_take]; rfl)
              have l7 : (out.take j ++ [x] ++ out.drop j).length = j + 1 + (m - j) := by simp [Hm.out]; try omega
              rw [e7] at own7
              have Own7 := Lib.hid own7; have Hw7 := Lib.hid hw7; have L7 := Lib.hid l7
              clear own7 hw7 hg7 hb7 hx7 e7 l7 r6
              (try simp only [Nat.sub_self, Nat.add_zero] at Own7 L7)
              go_wp2
              go_roundw
              case rel => exact ⟨k + 1, by omega, by go_num, Lib.hid (by rw [Hnx.out, L7.out]; exact Own7.out), Hw7⟩
              case measure => simp [intOf]; omega
        · obtain rfl : j = m := by omega
          have z2 : ¬ (j : Int) < (j : Int) := by omega
          have hf : out.take j ++ [x] ++ out.drop j = insO x out := by
            have h := insO_split (x := x) (a := out.take j) (b := []) hlo.out (fun z hz => by cases hz)
            rw [List.append_nil, List.take_of_length_le (by rw [Hm.out]; exact Nat.le_refl _)] at h
            rw [h, List.take_of_length_le (by rw [Hm.out]; exact Nat.le_refl _), List.drop_eq_nil_of_le (by rw [Hm.out]; exact Nat.le_refl _)]
            simp
          rw [← hf] at Hnx
          clear hlo hf hjm hown2
          have hc3a : (∃ gA, A3 = some ⟨gA, 0, none⟩ ∧ j < c3) ∨ (∃ gA, A3 = some ⟨gA, 0, none⟩ ∧ j = c3) ∨ (A3 = none ∧ j = 0 ∧ c3 = 0) := by
            rcases hown.out.2 with ⟨e, e2⟩ | ⟨gA, cap, cur, e, -, -, hcc, -⟩
            · cases e; exact .inr (.inr ⟨rfl, rfl, rfl⟩)
            · cases e
              rcases Nat.lt_or_ge j c3 with h | h
              · exact .inl ⟨gA, rfl, h⟩
              · exact .inr (.inl ⟨gA, rfl, by omega⟩)
          rcases hc3a with ⟨gA, rfl, hcc⟩ | ⟨gA, rfl, rfl⟩ | ⟨rfl, rfl, rfl⟩
          · have zc : (j : Int) < (c3 : Int) := by omega
            go_wp2_with fail
            go_quiet (fail)
            go_wp2_with fail
            go_quiet (fail)
            go_upto_region 10 with fail
            generalize hD : World.drewN _ _ = D
            have hiD : Below wi.heap.size wi D := by rw [← hD]; first | exact below_drewN (below_drewN (Below.refl _ _) _) _ | exact below_drewN (Below.refl _ _) _
            have oD := own_below Own2.out hiD
            have hwD : Below w.heap.size w D := HBi.out.trans (hiD.mono HBi.out.size)
            clear hD cx cx2
            have hsD := hwD.size
            have rD := Row.of_own oD
            go_upto_region 11 with (at_builtin; refine wpList_app _ rfl strE rfl rfl (World.ownsRow_nil D w.heap.size 9 1) rfl (rD.head_ (Nat.le_refl _)) (by rw [← List.map_take]; exact strV_one _) (by omega) hsD ?_; intro v5 w5 own5 hg5 hb5 hx5)
            have hg5' : D.grownBy w5 none := hg5
            have b5 : Below D.heap.size D w5 := (Below.refl _ _).grown hg5' (Nat.le_refl _) (fun q hq => by cases hq)
            have hw5 : Below w.heap.size w w5 := hwD.trans (b5.mono hsD)
            have hs5 := hw5.size
            rw [Nat.zero_add, List.nil_append] at own5
            obtain ⟨A5, c5, rfl, -⟩ := own_form own5
            obtain ⟨_, _, e5, -, cx5⟩ := str_at (Ha.out.below (hw5.mono hB)) Hx.out
            cases e5
            have hx5' : (Value.slice A5 j c5).ownBlock = none ∨ (Value.slice A5 j c5).ownBlock = some D.heap.size := hx5
            have ne5 : ∀ q, (Value.slice A5 j c5).ownBlock = some q → D.heap.size ≤ q := fun q hq => by
              rcases hx5' with h | h
              · rw [h] at hq; cases hq
              · rw [h] at hq; injection hq with hq; omega
            have Own5 := Lib.hid own5; have OD := Lib.hid oD; have Hw5 := Lib.hid hw5; have B5 := Lib.hid b5; have NE5 := Lib.hid ne5
            clear own5 oD hw5 b5 ne5 hg5 hg5' hb5 hx5 hx5' rD hiD hwD
            have hsD5 := B5.out.size
            go_upto_region 12 with (at_builtin; refine wpList_app _ rfl strE rfl rfl (Own5.out.alloc _) rfl (row_new w5 _ [_]) (by simp [Value.oneCell']) (by first | omega | (simp; done) | (simp; omega)) (by simp; omega) ?_; intro v6 w6 own6 hg6 hb6 hx6)
            have b6 : Below w.heap.size w w6 := (Hw5.out.alloc hs5 _).trans hb6
            have o6 : w6.ownsRow w.heap.size 9 1 (.slice (some ⟨gA, 0, none⟩) j c3) j (out.map strV) := own_grown ((own_below OD.out B5.out).alloc _) hg6 (by
              rcases hb : (Value.slice (some ⟨gA, 0, none⟩) j c3).ownBlock with _ | q
              · exact .inl rfl
              · refine .inr fun e => ?_
                have h1 := NE5.out q e.symm
                have h2 := (OD.out.lt q hb).2
                omega)
            have hs6 := b6.size
            have r6 := Row.of_own o6
            have Own6 := Lib.hid own6; have Hw6 := Lib.hid b6
            clear own6 b6 hg6 hb6 hx6 o6 cx5 Own5 OD Hw5 B5 NE5
            go_wp2_with (at_builtin; refine wpList_app _ rfl strE rfl rfl Own6.out rfl (row_empty (B := 0)) no_one (by first | omega | (simp; done) | (simp; omega)) hs6 ?_; intro v7 w7 own7 hg7 hb7 hx7)
            have hw7 : Below w.heap.size w w7 := Hw6.out.trans hb7
            have e7 : (out.map strV).take j ++ [Value.string ⟨x.toArray⟩] ++ [] = (out.take j ++ [x] ++ out.drop j).map strV := by first | (rw [List.map_append, List.map_append, List.map_take, List.map_drop]; rfl) | (rw [List.drop_eq_nil_of_le (by rw [Hm.out]; exact Nat.le_refl _), List.map_append, List.map_append, List.map_take]; rfl)
            have l7 : (out.take j ++ [x] ++ out.drop j).length = j + 1 + (j - j) := by simp [Hm.out]; try omega
            rw [e7] at own7
            have Own7 := Lib.hid own7; have Hw7 := Lib.hid hw7; have L7 := Lib.hid l7
            clear own7 hw7 hg7 hb7 hx7 e7 l7 r6
            (try simp only [Nat.sub_self, Nat.add_zero] at Own7 L7)
            go_wp2
            go_roundw
            case rel => exact ⟨k + 1, by omega, by go_num, Lib.hid (by rw [Hnx.out, L7.out]; exact Own7.out), Hw7⟩
            case measure => simp [intOf]; omega
          · have zc : ¬ (j : Int) < (j : Int) := by omega
            go_wp2_with fail
            go_quiet (fail)
            go_wp2_with fail
            go_quiet (fail)
            go_upto_region 10 with fail
            generalize hD : World.drewN _ _ = D
            have hiD : Below wi.heap.size wi D := by rw [← hD]; first | exact below_drewN (below_drewN (Below.refl _ _) _) _ | exact below_drewN (Below.refl _ _) _
            have oD := own_below Own2.out hiD
            have hwD : Below w.heap.size w D := HBi.out.trans (hiD.mono HBi.out.size)
            clear hD cx cx2
            have hsD := hwD.size
            have rD := Row.of_own oD
            go_upto_region 11 with (at_builtin; refine wpList_app _ rfl strE rfl rfl (World.ownsRow_nil D w.heap.size 9 1) rfl (rD.head_ (Nat.le_refl _)) (by rw [← List.map_take]; exact strV_one _) (by omega) hsD ?_; intro v5 w5 own5 hg5 hb5 hx5)
            have hg5' : D.grownBy w5 none := hg5
            have b5 : Below D.heap.size D w5 := (Below.refl _ _).grown hg5' (Nat.le_refl _) (fun q hq => by cases hq)
            have hw5 : Below w.heap.size w w5 := hwD.trans (b5.mono hsD)
            have hs5 := hw5.size
            rw [Nat.zero_add, List.nil_append] at own5
            obtain ⟨A5, c5, rfl, -⟩ := own_form own5
            obtain ⟨_, _, e5, -, cx5⟩ := str_at (Ha.out.below (hw5.mono hB)) Hx.out
            cases e5
            have hx5' : (Value.slice A5 j c5).ownBlock = none ∨ (Value.slice A5 j c5).ownBlock = some D.heap.size := hx5
            have ne5 : ∀ q, (Value.slice A5 j c5).ownBlock = some q → D.heap.size ≤ q := fun q hq => by
              rcases hx5' with h | h
              · rw [h] at hq; cases hq
              · rw [h] at hq; injection hq with hq; omega
            have Own5 := Lib.hid own5; have OD := Lib.hid oD; have Hw5 := Lib.hid hw5; have B5 := Lib.hid b5; have NE5 := Lib.hid ne5
            clear own5 oD hw5 b5 ne5 hg5 hg5' hb5 hx5 hx5' rD hiD hwD
            have hsD5 := B5.out.size
            go_upto_region 12 with (at_builtin; refine wpList_app _ rfl strE rfl rfl (Own5.out.alloc _) rfl (row_new w5 _ [_]) (by simp [Value.oneCell']) (by first | omega | (simp; done) | (simp; omega)) (by simp; omega) ?_; intro v6 w6 own6 hg6 hb6 hx6)
            have b6 : Below w.heap.size w w6 := (Hw5.out.alloc hs5 _).trans hb6
            have o6 : w6.ownsRow w.heap.size 9 1 (.slice (some ⟨gA, 0, none⟩) j j) j (out.map strV) := own_grown ((own_below OD.out B5.out).alloc _) hg6 (by
              rcases hb : (Value.slice (some ⟨gA, 0, none⟩) j j).ownBlock with _ | q
              · exact .inl rfl
              · refine .inr fun e => ?_
                have h1 := NE5.out q e.symm
                have h2 := (OD.out.lt q hb).2
                omega)
            have hs6 := b6.size
            have r6 := Row.of_own o6
            have Own6 := Lib.hid own6; have Hw6 := Lib.hid b6
            clear own6 b6 hg6 hb6 hx6 o6 cx5 Own5 OD Hw5 B5 NE5
            go_wp2_with (at_builtin; refine wpList_app _ rfl strE rfl rfl Own6.out rfl (row_empty (B := 0)) no_one (by first | omega | (simp; done) | (simp; omega)) hs6 ?_; intro v7 w7 own7 hg7 hb7 hx7)
            have hw7 : Below w.heap.size w w7 := Hw6.out.trans hb7
            have e7 : (out.map strV).take j ++ [Value.string ⟨x.toArray⟩] ++ [] = (out.take j ++ [x] ++ out.drop j).map strV := by first | (rw [List.map_append, List.map_append, List.map_take, List.map_drop]; rfl) | (rw [List.drop_eq_nil_of_le (by rw [Hm.out]; exact Nat.le_refl _), List.map_append, List.map_append, List.map_take]; rfl)
            have l7 : (out.take j ++ [x] ++ out.drop j).length = j + 1 + (j - j) := by simp [Hm.out]; try omega
            rw [e7] at own7
            have Own7 := Lib.hid own7; have Hw7 := Lib.hid hw7; have L7 := Lib.hid l7
            clear own7 hw7 hg7 hb7 hx7 e7 l7 r6
            (try simp only [Nat.sub_self, Nat.add_zero] at Own7 L7)
            go_wp2
            go_roundw
            case rel => exact ⟨k + 1, by omega, by go_num, Lib.hid (by rw [Hnx.out, L7.out]; exact Own7.out), Hw7⟩
            case measure => simp [intOf]; omega
          · have zc : ¬ (0 : Int) < (0 : Int) := by omega
            go_wp2_with fail
            go_quiet (fail)
            go_wp2_with fail
            go_quiet (fail)
            go_upto_region 10 with fail
            generalize hD : World.drewN _ _ = D
            have hiD : Below wi.heap.size wi D := by rw [← hD]; first | exact below_drewN (below_drewN (Below.refl _ _) _) _ | exact below_drewN (Below.refl _ _) _
            have oD := own_below Own2.out hiD
            have hwD : Below w.heap.size w D := HBi.out.trans (hiD.mono HBi.out.size)
            clear hD cx cx2
            have hsD := hwD.size
            have rD := Row.of_own oD
            go_upto_region 11 with (at_builtin; refine wpList_app _ rfl strE rfl rfl (World.ownsRow_nil D w.heap.size 9 1) rfl (rD.head_ (Nat.le_refl _)) (by rw [← List.map_take]; exact strV_one _) (by omega) hsD ?_; intro v5 w5 own5 hg5 hb5 hx5)
            have hg5' : D.grownBy w5 none := hg5
            have b5 : Below D.heap.size D w5 := (Below.refl _ _).grown hg5' (Nat.le_refl _) (fun q hq => by cases hq)
            have hw5 : Below w.heap.size w w5 := hwD.trans (b5.mono hsD)
            have hs5 := hw5.size
            rw [Nat.zero_add, List.nil_append] at own5
            obtain ⟨A5, c5, rfl, -⟩ := own_form own5
            obtain ⟨_, _, e5, -, cx5⟩ := str_at (Ha.out.below (hw5.mono hB)) Hx.out
            cases e5
            have hx5' : (Value.slice A5 0 c5).ownBlock = none ∨ (Value.slice A5 0 c5).ownBlock = some D.heap.size := hx5
            have ne5 : ∀ q, (Value.slice A5 0 c5).ownBlock = some q → D.heap.size ≤ q := fun q hq => by
              rcases hx5' with h | h
              · rw [h] at hq; cases hq
              · rw [h] at hq; injection hq with hq; omega
            have Own5 := Lib.hid own5; have OD := Lib.hid oD; have Hw5 := Lib.hid hw5; have B5 := Lib.hid b5; have NE5 := Lib.hid ne5
            clear own5 oD hw5 b5 ne5 hg5 hg5' hb5 hx5 hx5' rD hiD hwD
            have hsD5 := B5.out.size
            go_upto_region 12 with (at_builtin; refine wpList_app _ rfl strE rfl rfl (Own5.out.alloc _) rfl (row_new w5 _ [_]) (by simp [Value.oneCell']) (by first | omega | (simp; done) | (simp; omega)) (by simp; omega) ?_; intro v6 w6 own6 hg6 hb6 hx6)
            have b6 : Below w.heap.size w w6 := (Hw5.out.alloc hs5 _).trans hb6
            have o6 : w6.ownsRow w.heap.size 9 1 (.slice none 0 0) 0 (out.map strV) := own_grown ((own_below OD.out B5.out).alloc _) hg6 (by
              rcases hb : (Value.slice none 0 0).ownBlock with _ | q
              · exact .inl rfl
              · refine .inr fun e => ?_
                have h1 := NE5.out q e.symm
                have h2 := (OD.out.lt q hb).2
                omega)
            have hs6 := b6.size
            have r6 := Row.of_own o6
            have Own6 := Lib.hid own6; have Hw6 := Lib.hid b6
            clear own6 b6 hg6 hb6 hx6 o6 cx5 Own5 OD Hw5 B5 NE5
            go_wp2_with (at_builtin; refine wpList_app _ rfl strE rfl rfl Own6.out rfl (row_empty (B := 0)) no_one (by first | omega | (simp; done) | (simp; omega)) hs6 ?_; intro v7 w7 own7 hg7 hb7 hx7)
            have hw7 : Below w.heap.size w w7 := Hw6.out.trans hb7
            have e7 : (out.map strV).take 0 ++ [Value.string ⟨x.toArray⟩] ++ [] = (out.take 0 ++ [x] ++ out.drop 0).map strV := by first | (rw [List.map_append, List.map_append, List.map_take, List.map_drop]; rfl) | (rw [List.drop_eq_nil_of_le (by rw [Hm.out]; exact Nat.le_refl _), List.map_append, List.map_append, List.map_take]; rfl)
            have l7 : (out.take 0 ++ [x] ++ out.drop 0).length = 0 + 1 + (0 - 0) := by simp [Hm.out]; try omega
            rw [e7] at own7
            have Own7 := Lib.hid own7; have Hw7 := Lib.hid hw7; have L7 := Lib.hid l7
            clear own7 hw7 hg7 hb7 hx7 e7 l7 r6
            (try simp only [Nat.sub_self, Nat.add_zero] at Own7 L7)
            go_wp2
            go_roundw
            case rel => exact ⟨k + 1, by omega, by go_num, Lib.hid (by rw [Hnx.out, L7.out]; exact Own7.out), Hw7⟩
            case measure => simp [intOf]; omega
    · have e := once_last (l := l) Hn.out
      obtain rfl : k = n := by omega
      rw [e] at hout
      have Hout := Lib.hid hout; have Hm := Lib.hid hm
      clear hout e hm
      go_wp2_with fail
      go_ret
      exact ⟨_, rfl, by rw [Hout.out, Hm.out]; exact hown.out, hbw.out⟩
end Go.Proofs.YtmcacicopgckmaaGreatDoor

