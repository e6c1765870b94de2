import Derived.Test.YtmddgimadlmacaaDoorWs13
import Derived.Test.YtmddgimadlmacaaDoorWs07
import Derived.Test.YtmddgimadlmacaaDoorWs14
import Derived.Sort.OwnSorted
namespace Go.Proofs.YtmddgimadlmacaaDoor
open Go.RowKit Garner

abbrev strV (s : Bs) : Value := .string ⟨s.toArray⟩
theorem strE : Elem Tryd.prog 46 9 (.string .empty) 1 16 := ⟨Tryd.underlying46, by kernel_rfl, rfl, by omega, by omega⟩
/-- names in their order -/
def sortN (l : List Bs) : List Bs := l.mergeSort fun x y => decide (x ≤ y)
theorem sortN_len (l : List Bs) : (sortN l).length = l.length := List.length_mergeSort ..
theorem le_tot (a b : Bs) : (decide (a ≤ b) || decide (b ≤ a)) = true := by
  simp only [Bool.or_eq_true, decide_eq_true_eq]; exact List.le_total a b
theorem sort_perm {l l' : List Bs} (h : l.Perm l') : sortN l = sortN l' := by
  have h1 : (sortN l).Pairwise fun x y => decide (x ≤ y) = true := List.pairwise_mergeSort (fun a b c h1 h2 => by simp only [decide_eq_true_eq] at *; exact List.le_trans h1 h2) le_tot l
  have h2 : (sortN l').Pairwise fun x y => decide (x ≤ y) = true := List.pairwise_mergeSort (fun a b c h1 h2 => by simp only [decide_eq_true_eq] at *; exact List.le_trans h1 h2) le_tot l'
  refine List.Perm.eq_of_pairwise (le := fun x y => decide (x ≤ y) = true) (fun a b _ _ ha hb => ?_) h1 h2 ((List.mergeSort_perm l _).trans (h.trans (List.mergeSort_perm l' _).symm))
  simp only [decide_eq_true_eq] at ha hb
  exact List.le_antisymm ha hb
theorem strV_one (l : List Bs) : ∀ u ∈ l.map strV, u.oneCell' = true := by
  intro u hu; obtain ⟨c, _, rfl⟩ := List.mem_map.1 hu; rfl
theorem vSort (v : Value) (l : List Bs) (B : Nat) (w : World) (hown : w.ownsRow B 9 1 v l.length (l.map strV)) (hl : l.length < 4611686018427387904) :
    Calls Tryd.prog 60 #[v] w fun e w' => e = .returned (.tuple #[]) ∧ w'.ownsRow B 9 1 v l.length ((sortN l).map strV) ∧ w.grownBy w' v.ownBlock := by
  rcases hown.2 with ⟨rfl, h0⟩ | ⟨g, cap, cur, rfl, hbase, hb, h1, h2, h3, h4⟩
  · have hnil : l = [] := List.eq_nil_of_length_eq_zero h0
    subst hnil
    refine (Tryd.slices_Sort_string_none none 0 w).mono ?_
    rintro e w' ⟨rfl, rfl⟩
    exact ⟨rfl, by simpa [sortN] using hown, World.grownBy.refl _ _⟩
  · have hH := Go.holds_of_block hb (by simpa using h4)
    refine (Tryd.slices_Sort_string g 0 cap l w hH (Array.getElem?_eq_some_iff.1 hb).1 hl).mono ?_
    rintro e w' ⟨rfl, n, os, rfl⟩
    exact ⟨rfl, Go.ownsRow_sorted (sortN_len l) hbase hb h1 h2 h3, Go.grownBy_sorted _⟩

set_option maxRecDepth 100000 in
set_option maxHeartbeats 4000000 in
theorem vNames (g mp : Nat) (al : List (Bs × Value)) (fl dn : Bool) (left : Int) (w : World) (hd : Blk w g 76 (diskV mp fl dn left)) (hm : MapIs strKey w mp al) (hn : al.length * 16 ≤ 140737488351232) :
    Calls Tryd.prog 45 #[.pointer (some ⟨g, 0, none⟩)] w fun e w' => ∃ v, e = .returned v ∧ w'.ownsRow w.heap.size 9 1 v al.length ((sortN (al.map (·.1))).map strV) ∧ Below w.heap.size w w' := by
  have hgw : g < w.heap.size := hd.lt
  have hmw : mp < w.heap.size := hm.lt
  have c0 : w.cell? ⟨g, 0, none⟩ = some (.map (some mp)) := hd.cell 0
  go_enter Tryd.func45, Tryd.ntmps45
  go_wp2_with (at_range; refine wpList_rangeM rfl _ _ rfl Tryd.underlying74 rfl hm ?_; intro ob hrng0)
  go_frame
  clear c0
  go_loopw [3] (fun v wr => ∃ done todo, Rng strKey wr mp w.heap.size al done todo ∧ wr.ownsRow (w.heap.size + 1) 9 1 v done.length ((done.map (·.1)).map strV) ∧ Below w.heap.size w wr) (fun _ wr => wr.rangeLeft mp w.heap.size)
  case atStart => exact ⟨[], al, hrng0, World.ownsRow_nil _ _ _ _, (Below.refl _ _).alloc (Nat.le_refl _) _⟩
  case round =>
    obtain ⟨done, todo, hrng, hown, hbel⟩ := hrel
    obtain ⟨wo, rfl⟩ : ∃ wo : World, wo = wr := ⟨_, rfl⟩
    have hlen := (Rng.perm hrng).length_eq
    rw [List.length_append] at hlen
    have hlo := hrng.lt
    have HL := Lib.hid hlen; clear hlen
    go_wp2_with (at_next; refine wpList_nextM rfl _ rfl rfl hrng ?_ ?_)
    · intro h0
      subst h0
      have hp := Rng.perm hrng
      rw [List.append_nil] at hp
      have hlen : done.length = al.length := hp.length_eq
      have hso : sortN (done.map (·.1)) = sortN (al.map (·.1)) := sort_perm (hp.map _)
      have hown' := hown
      rw [show done.length = (done.map (·.1)).length by simp] at hown'
      have hdl : (done.map (·.1)).length < 4611686018427387904 := by rw [List.length_map]; omega
      have Hso := Lib.hid hso; have Hlen := Lib.hid hlen
      clear hlen hso hp hrng hown
      go_wp2_with fail
      refine (vSort _ _ _ wo hown' hdl).mono ?_
      rintro e w2 ⟨rfl, hown2, hg2⟩
      have hlt := own_ge hown'
      have hb2 : Below w.heap.size w w2 := hbel.trans ((But.grown hg2 (fun q hq => by rw [hq]; simp)).below (S := (Value.ownBlock _).toList) hbel.size fun q hq => by have := (hlt q hq).1; omega)
      rw [List.length_map, Hso.out, Hlen.out] at hown2
      go_wp2
      go_ret
      exact ⟨_, rfl, own_mono hown2 (by omega), hb2⟩
    · intro kp vp todo' w1 hperm hr1 hb1 hs1 hen
      have hs1' : w1.heap.size ≤ wo.heap.size := by omega
      have hs1'' : wo.heap.size ≤ w1.heap.size := by omega
      have hlt := own_ge hown
      have hown1 := own_but hown hb1 (fun q hq hm => by have := (hlt q (by simpa using hq)).1; simp only [List.mem_singleton] at hm; omega)
      have hbel1 : Below w.heap.size w w1 := hbel.trans (hb1.below hbel.size fun q hq => by simp only [List.mem_singleton] at hq; omega)
      have hpl := hperm.length_eq
      rw [List.length_cons] at hpl
      have hdl : (done.length : Int) + 1 ≤ al.length := by have := HL.out; omega
      have Hpl := Lib.hid hpl
      clear hs1 hpl hlt hperm hb1
      have hrow : Row (w1.alloc (.cells #[strV kp] 9)) (w1.heap.size + 1) 1 (some ⟨w1.heap.size, 0, none⟩) 1 [strV kp] := row_new w1 9 [strV kp]
      go_wp2_with (at_builtin; refine wpList_app _ rfl strE rfl rfl (hown1.alloc _) rfl hrow (strV_one [kp]) (by omega) (by simp; omega) ?_; intro v3 w3 hown3 hg3 hb3 _)
      have hge := own_ge hown1
      have hr3 := (hr1.but (S := []) (But.of_below ((Below.refl _ _).alloc (Nat.le_refl _) _)) (by simp) (by simp)).but (But.grown hg3 (S := (Value.ownBlock _).toList) (fun q hq => by rw [hq]; simp)) (fun hq => by have := (hge mp hq).1; omega) (fun hq => by have := (hge w.heap.size hq).1; omega)
      constructor
      · exact ⟨done ++ [(kp, vp)], todo', hr3, by simpa using hown3, (hbel1.alloc hbel1.size _).trans (hb3.mono (by omega))⟩
      · rw [hr3.left_eq, hrng.left_eq, Hpl.out]; omega
end Go.Proofs.YtmddgimadlmacaaDoor
