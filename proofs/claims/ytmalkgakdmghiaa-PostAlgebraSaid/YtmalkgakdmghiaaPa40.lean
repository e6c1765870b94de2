import Derived.Test.YtmalkgakdmghiaaPa34
import Derived.Test.YtmalkgakdmghiaaPa38
import Derived.Test.YtmalkgakdmghiaaPa39
/-! layer 11: Or and And of all lists -/
namespace Go.Proofs.Ytmalkgakdmghiaa
open Go.RowKit Go.Shelf Go.Lib Go.Sort Garner

theorem orP_nil : orP [] = [] := by simp [orP, once]
theorem orP_le (l : List Nat) : (orP l).length ≤ l.length := by
  rw [← cmp_ms]
  exact Nat.le_trans (cmpL_le _) (by rw [List.length_mergeSort]; exact Nat.le_refl _)

set_option maxRecDepth 100000 in
set_option maxHeartbeats 4000000 in
theorem vOrG (ls : List SlU) (A : Option Addr) (c B : Nat) (w : World) (hr : Row w B 1 A ls.length (ls.map SlU.v)) (hB : B ≤ w.heap.size) (hs : ∀ p ∈ ls, Row w B 1 p.1 p.2.2.length (p.2.2.map u64v)) (hl : (catU ls).length ≤ 35184372088832) (hn : ls.length ≤ 1000) :
    Calls Try.prog 12 #[.slice A ls.length c] w fun e w' => ∃ v, e = .returned v ∧ OwnU w' w.heap.size v (orP (catU ls)) ∧ Below w.heap.size w w' := by
  obtain ⟨l, hL⟩ : ∃ l, l = catU ls := ⟨_, rfl⟩
  have HL := Lib.hid hL
  rw [← hL] at hl ⊢
  clear hL
  by_cases h0 : 0 < l.length
  · go_enter Try.func12, Try.ntmps12
    go_wp2_with fail
    refine (vConcatG ls A c B w hr hB hs (by rw [← HL.out]; omega) (by rw [← HL.out]; exact h0) (by omega)).mono ?_
    rintro e w1 ⟨v1, rfl, own1, hb1⟩
    rw [← HL.out] at own1
    obtain ⟨A1, c1, rfl, -⟩ := own_form own1
    obtain ⟨g, rfl, hg1, -, -, -, -⟩ := own_at own1 h0
    go_wp2_with fail
    refine (vSortG l c1 w.heap.size g w1 own1 (by omega)).mono ?_
    rintro e w2 ⟨rfl, own2, hbut2⟩
    have hb2 : Below w.heap.size w w2 := hb1.trans (hbut2.below hb1.size (by simp; omega))
    obtain ⟨m, hm⟩ : ∃ m, m = l.mergeSort fun a b => decide (a ≤ b) := ⟨_, rfl⟩
    have hml : l.length = m.length := by rw [hm, List.length_mergeSort]
    have hor : cmpL m = orP l := by rw [hm, cmp_ms]
    rw [← hm] at own2
    have Hor := Lib.hid hor; clear hor
    have own2' : OwnU w2 w.heap.size (.slice (some ⟨g, 0, none⟩) m.length c1) m := by unfold OwnU; rw [← hml]; unfold OwnU at own2; rw [← hml] at own2; exact own2
    clear hm own2
    have Hml := Lib.hid hml
    rw [hml]
    clear hml
    go_wp2_with fail
    refine (vCompact m c1 w.heap.size g w2 own2' (by have := Hml.out; omega)).mono ?_
    rintro e w3 ⟨rfl, own3, hbut3⟩
    go_wp2
    go_ret
    exact ⟨_, rfl, by rw [← Hor.out]; exact own3, hb2.trans (hbut3.below hb2.size (by simp; omega))⟩
  · have hln : l = [] := List.length_eq_zero_iff.1 (by omega)
    subst hln
    go_enter Try.func12, Try.ntmps12
    go_wp2_with fail
    refine (vConcat ls A c B w hr hB hs (by rw [← HL.out]; simp) (by omega)).mono ?_
    rintro e w1 ⟨v1, rfl, own1, hb1⟩
    rw [← HL.out] at own1
    obtain ⟨A1, c1, rfl, -⟩ := own_form own1
    go_wp2_with fail
    refine (vSortS [] A1 c1 w.heap.size w1 own1 (by simp)).mono ?_
    rintro e w2 ⟨rfl, own2, hbut2⟩
    have hb2 : Below w.heap.size w w2 := hb1.trans (hbut2.below hb1.size (fun k hk => (own_ge own1 k (by simpa using hk)).1))
    simp only [List.length_nil] at own2 own1 ⊢
    go_wp2_with fail
    refine (vCompact0 A1 c1 w2).mono ?_
    rintro e w3 ⟨rfl, hb3⟩
    go_wp2
    go_ret
    refine ⟨_, rfl, ?_, hb2.trans (hb3.mono hb2.size)⟩
    rw [orP_nil]
    exact own_below own2 hb3

def andG (ls : List SlU) : List Nat := match ls with | [] => [] | p :: r => r.foldl (fun o p => o.filter fun x => decide (x ∈ orP p.2.2)) (orP p.2.2)
def andH (p : SlU) (r : List SlU) (k : Nat) : List Nat := (r.take k).foldl (fun o p => o.filter fun x => decide (x ∈ orP p.2.2)) (orP p.2.2)
theorem andH_succ (p : SlU) (r : List SlU) (k : Nat) (h : k < r.length) : andH p r (k + 1) = (andH p r k).filter fun x => decide (x ∈ orP r[k].2.2) := by
  unfold andH; rw [List.take_succ_eq_append_getElem h, List.foldl_append]; rfl
theorem andH_le (p : SlU) (r : List SlU) : ∀ k, (andH p r k).length ≤ p.2.2.length
  | 0 => by unfold andH; exact orP_le _
  | k + 1 => by
    by_cases h : k < r.length
    · rw [andH_succ p r k h]; exact Nat.le_trans (List.length_filter_le _ _) (andH_le p r k)
    · have := andH_le p r k
      unfold andH at this ⊢
      rw [List.take_of_length_le (by omega)] at this ⊢
      exact this

set_option maxRecDepth 100000 in
set_option maxHeartbeats 4000000 in
theorem vAndG (p0 : SlU) (r : List SlU) (A : Option Addr) (c B : Nat) (w : World) (hr : Row w B 1 A (r.length + 1) ((p0 :: r).map SlU.v)) (hB : B ≤ w.heap.size) (hs : ∀ p ∈ p0 :: r, Row w B 1 p.1 p.2.2.length (p.2.2.map u64v) ∧ p.2.2.length ≤ 35184372088832) (hn : r.length ≤ 1000) (hc : r.length + 1 ≤ c) :
    Calls Try.prog 11 #[.slice A (r.length + 1 : Nat) c] w fun e w' => ∃ v, e = .returned v ∧ OwnU w' w.heap.size v (andG (p0 :: r)) ∧ Below w.heap.size w w' := by
  obtain ⟨m, hm⟩ : ∃ m, m = r.length + 1 := ⟨_, rfl⟩
  have hm1 : m - 1 = r.length := by omega
  rw [← hm] at hr hc ⊢
  have Hm := Lib.hid hm; clear hm
  obtain ⟨b, off, rfl, hb, hcell⟩ := hr.at_ (k := 0) (by have := Hm.out; omega)
  have cp0 : w.cell? ⟨b, off, none⟩ = some (.slice p0.1 p0.2.2.length p0.2.1) := hcell 0 (by simp)
  obtain ⟨hrow0, h01⟩ := hs p0 (by simp)
  have lm : (0 : Int) < (m : Int) := by have := Hm.out; omega
  have lm1 : ¬ (m : Int) = 0 := by omega
  have lmc : (m : Int) ≤ (c : Int) := by omega
  have l1m : (1 : Int) ≤ (m : Int) := by omega
  have l1c : (1 : Int) ≤ (c : Int) := by omega
  have Hm1 := Lib.hid hm1; clear hm1
  go_enter Try.func11, Try.ntmps11
  go_wp2_with fail
  refine (vOrG [p0] (some ⟨w.heap.size, 0, none⟩) 1 (w.heap.size + 1) _ (row_new w 22 ([p0].map SlU.v)) (by simp) (fun p hp => by rw [List.mem_singleton.1 hp]; exact (hrow0.alloc hB _).more (by omega)) (by simp [catU]; omega) (by simp)).mono ?_
  rintro e w1 ⟨v1, rfl, own1, hb1⟩
  have own1' : OwnU w1 w.heap.size v1 (orP p0.2.2) := by
    have := own_mono own1 (B' := w.heap.size) (by simp)
    simpa [catU] using this
  have hb1' : Below w.heap.size w w1 := ((Below.refl _ _).alloc (Nat.le_refl _) _).trans (hb1.mono (by simp))
  clear own1 hb1
  have s1 := hb1'.size
  obtain ⟨A1, c1, rfl, -⟩ := own_form own1'
  obtain ⟨AA, hAA⟩ : ∃ AA : Option Addr, (if c = 1 then some (⟨b, off, none⟩ : Addr) else some ⟨b, off + 1, none⟩) = AA := ⟨_, rfl⟩
  go_wp2
  go_loopw [3, 18] (fun v i wr => ∃ (k cg : Nat) (Ag : Option Addr) (o : List Nat), k ≤ r.length ∧ i = .int .i64 k ∧ Hid (o = andH p0 r k) ∧ v = .slice Ag o.length cg ∧ OwnU wr w.heap.size (.slice Ag o.length cg) o ∧ Below w.heap.size w wr ∧ w1.heap.size ≤ wr.heap.size) (fun _ i _ => r.length - (intOf i).toNat)
  case atStart => exact ⟨0, c1, A1, orP p0.2.2, by omega, rfl, Lib.hid (by simp [andH]), rfl, own1', hb1', Nat.le_refl _⟩
  case round =>
    obtain ⟨k, cg, Ag, o, hk, rfl, ho, rfl, own2, hbel, hsz⟩ := hrel
    obtain ⟨wo, rfl⟩ : ∃ wo : World, wo = wr := ⟨_, rfl⟩
    have sB := hbel.size
    have hol : o.length ≤ 35184372088832 := by rw [ho.out]; exact Nat.le_trans (andH_le _ _ _) h01
    by_cases hlt : k < r.length
    · have hc1 : ¬ c = 1 := by have := Hm.out; omega
      rw [if_neg hc1] at hAA
      subst hAA
      obtain ⟨p, hp⟩ : ∃ p, p = r[k] := ⟨_, rfl⟩
      have hpm : p ∈ p0 :: r := by rw [hp]; exact List.mem_cons_of_mem _ (List.getElem_mem _)
      obtain ⟨hrow, q1⟩ := hs p hpm
      have cp : wo.cell? ⟨b, off + 1 + k, none⟩ = some (.slice p.1 p.2.2.length p.2.1) := by
        rw [hbel.cell (p := ⟨b, off + 1 + k, none⟩) (by show b < _; omega), Nat.add_assoc, hcell (1 + k) (by simp; omega), List.getElem_map]
        rw [hp]
        simp [Nat.add_comm 1 k, SlU.v]
      have lk : (k : Int) < ((m - 1 : Nat) : Int) := by rw [Hm1.out]; omega
      have lk2 : k < m - 1 := by rw [Hm1.out]; exact hlt
      have w1' : IntKind.i64.wrap ((k : Int) + 1) = (k : Int) + 1 := by rw [IntKind.wrap_i64]; omega
      have Hp := Lib.hid hp; clear hp
      go_wp2_with fail
      refine (vOrG [p] (some ⟨wo.heap.size, 0, none⟩) 1 (wo.heap.size + 1) _ (row_new wo 22 ([p].map SlU.v)) (by simp) (fun p' hp' => by rw [List.mem_singleton.1 hp']; exact ((hrow.below (hbel.mono hB)).alloc (by omega) _).more (by omega)) (by simp [catU]; omega) (by simp)).mono ?_
      rintro e w3 ⟨v3, rfl, own3, hb3⟩
      have own3' : OwnU w3 wo.heap.size v3 (orP p.2.2) := by
        have := own_mono own3 (B' := wo.heap.size) (by simp)
        simpa [catU] using this
      have hb3' : Below wo.heap.size wo w3 := ((Below.refl _ _).alloc (Nat.le_refl _) _).trans (hb3.mono (by simp))
      clear own3 hb3
      have s3 := hb3'.size
      obtain ⟨A3, c3, rfl, -⟩ := own_form own3'
      have hol2 := orP_le p.2.2
      have q3 : (orP p.2.2).Pairwise (· < ·) := orP_asc _
      have own2b := own_below own2 hb3'
      obtain ⟨l, hL⟩ : ∃ l, l = orP p.2.2 := ⟨_, rfl⟩
      rw [← hL] at own3' q3 hol2 ⊢
      have HL := Lib.hid hL; clear hL
      go_upto_region 8 with fail
      obtain ⟨W4, hW4⟩ : ∃ W4, W4 = w3.alloc (.cells #[.slice A3 l.length c3] 22) := ⟨_, rfl⟩
      have ol4 : OwnU W4 wo.heap.size (.slice A3 l.length c3) l := by rw [hW4]; exact own3'.alloc _
      have oo4 : OwnU W4 w.heap.size (.slice Ag o.length cg) o := by rw [hW4]; exact own2b.alloc _
      have cb4 : W4.cell? ⟨w3.heap.size, 0, none⟩ = some (.slice A3 l.length c3) := by rw [hW4]; exact cell_new _ _ _ _ _ rfl
      have hb4 : Below wo.heap.size wo W4 := by rw [hW4]; exact hb3'.alloc s3 _
      rw [← hW4]
      have HW4 := Lib.hid hW4; clear hW4
      by_cases ho0 : 0 < o.length
      · obtain ⟨g, rfl, hg1, -, -, -, -⟩ := own_at own2 ho0
        have hg2 : g < wo.heap.size := (own_ge own2 g (by simp [Value.ownBlock])).2
        have hgo : (Value.slice A3 l.length c3).ownBlock ≠ some g := fun e => by have := (own_ge own3' g (by rw [e]; simp)).1; omega
        go_wp2_with fail
        refine (vDel o l cg c3 w.heap.size wo.heap.size g w3.heap.size A3 W4 oo4 ol4 hgo q3 (by omega) (by omega) cb4 (by omega)).mono ?_
        rintro e w5 ⟨q, hq, rfl, own5, hbut5⟩
        have Hq := Lib.hid hq; clear hq
        have hb5 : Below w.heap.size w w5 := (hbel.trans (hb4.mono sB)).trans (hbut5.below (by have := hb4.size; omega) (by simp; omega))
        go_wp2
        case roundEnd =>
          refine ⟨⟨k + 1, cg, some ⟨g, 0, none⟩, q, by omega, by simp, Lib.hid ?_, rfl, own5, hb5, by have := hb4.size; have := hbut5.size; omega⟩, by simp [intOf]; omega⟩
          rw [andH_succ p0 r k hlt, Hq.out, ho.out, HL.out, Hp.out]
      · have hon : o = [] := List.length_eq_zero_iff.1 (by omega)
        subst hon
        simp only [List.length_nil] at own2 own2b oo4 ⊢
        go_wp2_with fail
        refine (vDel0 Ag cg _ W4).mono ?_
        rintro e w5 ⟨rfl, hb5⟩
        go_wp2
        case roundEnd =>
          refine ⟨⟨k + 1, cg, Ag, [], by omega, by simp, Lib.hid ?_, rfl, own_below oo4 hb5, (hbel.trans (hb4.mono sB)).trans (hb5.mono (by have := hb4.size; omega)), by have := hb4.size; have := hb5.size; omega⟩, by simp [intOf]; omega⟩
          rw [andH_succ p0 r k hlt, ← ho.out]; rfl
    · obtain rfl : k = r.length := by omega
      have lk : ¬ (r.length : Int) < ((m - 1 : Nat) : Int) := by rw [Hm1.out]; omega
      have lk2 : ¬ r.length < m - 1 := by rw [Hm1.out]; omega
      have ho2 : andG (p0 :: r) = o := by rw [ho.out]; unfold andH; rw [List.take_length]; rfl
      have Ho2 := Lib.hid ho2; clear ho2
      go_wp2
      go_ret
      exact ⟨_, rfl, by rw [Ho2.out]; exact own2, hbel⟩

/-- And, Or of no list -/
theorem vAndN (c : Nat) (w : World) : Calls Try.prog 11 #[.slice none 0 c] w fun e w' => e = .returned (.slice none 0 0) ∧ Below w.heap.size w w' := by
  go_enter Try.func11, Try.ntmps11
  go_wp2
  go_ret
  exact ⟨rfl, Below.refl _ _⟩
end Go.Proofs.Ytmalkgakdmghiaa
