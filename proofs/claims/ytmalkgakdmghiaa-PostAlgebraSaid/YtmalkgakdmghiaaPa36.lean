import Derived.Test.YtmalkgakdmghiaaPa35
/-! layer 11: And at short rows; Same -/
namespace Go.Proofs.Ytmalkgakdmghiaa
open Go.RowKit Go.Shelf Go.Lib Go.Sort Garner

theorem but_sortWorld (w : World) (g n : Nat) (dk : Array Nat) (os : Array Obj) : But [g] w (sortWorld u64v w g 0 n dk os) := by
  refine ⟨rfl, rfl, rfl, by simp [sortWorld, Sort.ahead], fun k hk hne => ?_⟩
  have : g ≠ k := fun e => hne (by simp [e])
  unfold sortWorld
  rw [heap_grow_old _ _ (by simpa [Sort.ahead] using hk)]
  simp [putRow, mapBlock, Sort.ahead, Array.getElem?_modify, this]

theorem vDel (o l : List Nat) (c cl B B2 g b : Nat) (A : Option Addr) (w : World) (ho : OwnU w B (.slice (some ⟨g, 0, none⟩) o.length c) o) (hl : OwnU w B2 (.slice A l.length cl) l) (hg : (Value.slice A l.length cl).ownBlock ≠ some g) (hp : l.Pairwise (· < ·)) (hol : o.length ≤ 35184372088832) (hll : l.length ≤ 35184372088832)
    (hb : w.cell? ⟨b, 0, none⟩ = some (.slice A l.length cl)) (hbg : b ≠ g) :
    Calls Try.prog 23 #[.slice (some ⟨g, 0, none⟩) o.length c, .func (.func 24) #[] #[.pointer (some ⟨b, 0, none⟩)]] w fun e w' => ∃ q, q = o.filter (fun x => decide (x ∈ l)) ∧ e = .returned (.slice (some ⟨g, 0, none⟩) q.length c) ∧ OwnU w' B (.slice (some ⟨g, 0, none⟩) q.length c) q ∧ But [g] w w' := by
  have eg : ∀ args w, (callFunc 24 args).run Try.prog w = .ok (.enter 24 args) w := enters_of Try.func24 (by kernel_rfl) rfl
  have hbs : b < w.heap.size := by
    rcases Nat.lt_or_ge b w.heap.size with h | h
    · exact h
    · rw [World.cell?] at hb; simp [Array.getElem?_eq_none h] at hb
  have hc : o.length ≤ c := by obtain ⟨_, _, e, h⟩ := own_form ho; cases e; exact h
  have pa : PredAt Try.prog 24 #[.pointer (some ⟨b, 0, none⟩)] u64v (fun x => !decide (x ∈ l)) w := fun W x hB =>
    vAnd1 l x cl W.heap.size b A W (Row.of_own (own_below hl hB)) hp hll ((hB.cell (p := ⟨b, 0, none⟩) hbs).trans hb)
  have po : PredOver Try.prog 24 #[.pointer (some ⟨b, 0, none⟩)] u64v (fun x => !decide (x ∈ l)) g 0 o.toArray.size w := fun n os dk x _ => by
    have hbut := but_sortWorld w g n dk os
    exact vAnd1 l x cl _ b A _ (Row.of_own (own_but hl hbut (fun k hk => by simp; intro e; rw [e] at hk; exact hg hk))) hp hll ((hbut.cell (p := ⟨b, 0, none⟩) hbs (by simp; exact hbg)).trans hb)
  have h := AnyE.slices_DeleteFunc Try.eDelete u64v (fun _ => rfl) (fun x => !decide (x ∈ l)) 24 #[.pointer (some ⟨b, 0, none⟩)] eg 0 Try.zeroValue31 g 0 c o.toArray w pa po (holds_own ho rfl) (by simp; omega) (by simpa using hc)
  change Calls Try.prog 23 _ _ _ at h
  refine h.mono ?_
  rintro e w' ⟨rfl, q, rfl⟩
  have e1 : (o.filter fun x => !(!decide (x ∈ l))) = o.filter (fun x => decide (x ∈ l)) := by simp
  simp only at *
  rw [e1]
  have hle : (o.filter (fun x => decide (x ∈ l))).length ≤ o.length := List.length_filter_le _ _
  obtain ⟨h1, h2⟩ := own_put (q := q) (l := o.filter (fun x => decide (x ∈ l)) ++ List.replicate (o.toArray.size - (o.filter (fun x => decide (x ∈ l))).length) 0) ho (by simp; omega)
  refine ⟨_, rfl, rfl, ?_, h2⟩
  have h3 := own_cut h1 hle
  rw [List.map_append, List.take_left' (by simp)] at h3
  exact h3

def andS (ls : List SlU) : List Nat := match ls with | [] => [] | p :: r => r.foldl (fun o p => o.filter fun x => decide (x ∈ orS p.2.2)) (orS p.2.2)
def andK (p : SlU) (r : List SlU) (k : Nat) : List Nat := (r.take k).foldl (fun o p => o.filter fun x => decide (x ∈ orS p.2.2)) (orS p.2.2)
theorem andK_succ (p : SlU) (r : List SlU) (k : Nat) (h : k < r.length) : andK p r (k + 1) = (andK p r k).filter fun x => decide (x ∈ orS r[k].2.2) := by
  unfold andK; rw [List.take_succ_eq_append_getElem h, List.foldl_append]; rfl
theorem orS_le (l : List Nat) : (orS l).length ≤ l.length := by unfold orS; exact Nat.le_trans (cmpL_le _) (by rw [insAll_len]; exact Nat.le_refl _)
theorem andK_le (p : SlU) (r : List SlU) : ∀ k, (andK p r k).length ≤ p.2.2.length
  | 0 => by unfold andK; exact orS_le _
  | k + 1 => by
    by_cases h : k < r.length
    · rw [andK_succ p r k h]; exact Nat.le_trans (List.length_filter_le _ _) (andK_le p r k)
    · have := andK_le p r k
      unfold andK at this ⊢
      rw [List.take_of_length_le (by omega)] at this ⊢
      exact this

set_option maxRecDepth 100000 in
set_option maxHeartbeats 4000000 in
theorem vAndS (p0 : SlU) (r : List SlU) (A : Option Addr) (c B : Nat) (w : World) (hr : Row w B 1 A (r.length + 1) ((p0 :: r).map SlU.v)) (hB : B ≤ w.heap.size) (hs : ∀ p ∈ p0 :: r, Row w B 1 p.1 p.2.2.length (p.2.2.map u64v) ∧ 0 < p.2.2.length ∧ p.2.2.length ≤ 12 ∧ 0 < (orS p.2.2).length ∧ (orS p.2.2).Pairwise (· < ·)) (hn : r.length ≤ 1000) (hc : r.length + 1 ≤ c) :
    Calls Try.prog 11 #[.slice A (r.length + 1 : Nat) c] w fun e w' => ∃ v, e = .returned v ∧ OwnU w' w.heap.size v (andS (p0 :: r)) ∧ Below w.heap.size w w' := by
  obtain ⟨m, hm⟩ : ∃ m, m = r.length + 1 := ⟨_, rfl⟩
  have hm1 : m - 1 = r.length := by omega
  rw [← hm] at hr hc ⊢
  have Hm := Lib.hid hm; clear hm
  obtain ⟨b, off, rfl, hb, hcell⟩ := hr.at_ (k := 0) (by have := Hm.out; omega)
  have cp0 : w.cell? ⟨b, off, none⟩ = some (.slice p0.1 p0.2.2.length p0.2.1) := hcell 0 (by simp)
  obtain ⟨hrow0, h00, h01, h02, h03⟩ := hs p0 (by simp)
  have lm : (0 : Int) < (m : Int) := by have := Hm.out; omega
  have lm1 : ¬ (m : Int) = 0 := by omega
  have lmc : (m : Int) ≤ (c : Int) := by omega
  have l1m : (1 : Int) ≤ (m : Int) := by omega
  have l1c : (1 : Int) ≤ (c : Int) := by omega
  have Hm1 := Lib.hid hm1; clear hm1
  go_enter Try.func11, Try.ntmps11
  go_wp2_with fail
  refine (vOrS [p0] (some ⟨w.heap.size, 0, none⟩) 1 (w.heap.size + 1) _ (row_new w 22 ([p0].map SlU.v)) (by simp) (fun p hp => by rw [List.mem_singleton.1 hp]; exact (hrow0.alloc hB _).more (by omega)) (by simp [catU]; omega) (by simp [catU]; omega) (by simp)).mono ?_
  rintro e w1 ⟨v1, rfl, own1, hb1⟩
  have own1' : OwnU w1 w.heap.size v1 (orS p0.2.2) := by
    have := own_mono own1 (B' := w.heap.size) (by simp)
    simpa [catU] using this
  have hb1' : Below w.heap.size w w1 := ((Below.refl _ _).alloc (Nat.le_refl _) _).trans (hb1.mono (by simp))
  clear own1 hb1
  have s1 := hb1'.size
  obtain ⟨A1, c1, rfl, -⟩ := own_form own1'
  obtain ⟨g, rfl, hg1, -, -, -, -⟩ := own_at own1' h02
  obtain ⟨AA, hAA⟩ : ∃ AA : Option Addr, (if c = 1 then some (⟨b, off, none⟩ : Addr) else some ⟨b, off + 1, none⟩) = AA := ⟨_, rfl⟩
  go_wp2
  go_loopw [3, 18] (fun v i wr => ∃ (k cg : Nat) (o : List Nat), k ≤ r.length ∧ i = .int .i64 k ∧ Hid (o = andK p0 r k) ∧ v = .slice (some ⟨g, 0, none⟩) o.length cg ∧ OwnU wr w.heap.size (.slice (some ⟨g, 0, none⟩) o.length cg) o ∧ Below w.heap.size w wr ∧ w1.heap.size ≤ wr.heap.size) (fun _ i _ => r.length - (intOf i).toNat)
  case atStart => exact ⟨0, c1, orS p0.2.2, by omega, rfl, Lib.hid (by simp [andK]), rfl, own1', hb1', Nat.le_refl _⟩
  case round =>
    obtain ⟨k, cg, o, hk, rfl, ho, rfl, own2, hbel, hsz⟩ := hrel
    obtain ⟨wo, rfl⟩ : ∃ wo : World, wo = wr := ⟨_, rfl⟩
    have sB := hbel.size
    have hol : o.length ≤ 12 := by rw [ho.out]; exact Nat.le_trans (andK_le _ _ _) h01
    by_cases hlt : k < r.length
    · have hc1 : ¬ c = 1 := by have := Hm.out; omega
      rw [if_neg hc1] at hAA
      subst hAA
      obtain ⟨p, hp⟩ : ∃ p, p = r[k] := ⟨_, rfl⟩
      have hpm : p ∈ p0 :: r := by rw [hp]; exact List.mem_cons_of_mem _ (List.getElem_mem _)
      obtain ⟨hrow, q0, q1, q2, q3⟩ := hs p hpm
      have cp : wo.cell? ⟨b, off + 1 + k, none⟩ = some (.slice p.1 p.2.2.length p.2.1) := by
        rw [hbel.cell (p := ⟨b, off + 1 + k, none⟩) (by show b < _; omega), Nat.add_assoc, hcell (1 + k) (by simp; omega), List.getElem_map]
        rw [hp]
        simp [Nat.add_comm 1 k, SlU.v]
      have lk : (k : Int) < ((m - 1 : Nat) : Int) := by rw [Hm1.out]; omega
      have lk2 : k < m - 1 := by rw [Hm1.out]; exact hlt
      have w1' : IntKind.i64.wrap ((k : Int) + 1) = (k : Int) + 1 := by rw [IntKind.wrap_i64]; omega
      have Hp := Lib.hid hp; clear hp
      go_wp2_with fail
      refine (vOrS [p] (some ⟨wo.heap.size, 0, none⟩) 1 (wo.heap.size + 1) _ (row_new wo 22 ([p].map SlU.v)) (by simp) (fun p' hp' => by rw [List.mem_singleton.1 hp']; exact ((hrow.below (hbel.mono hB)).alloc (by omega) _).more (by omega)) (by simp [catU]; omega) (by simp [catU]; omega) (by simp)).mono ?_
      rintro e w3 ⟨v3, rfl, own3, hb3⟩
      have own3' : OwnU w3 wo.heap.size v3 (orS p.2.2) := by
        have := own_mono own3 (B' := wo.heap.size) (by simp)
        simpa [catU] using this
      have hb3' : Below wo.heap.size wo w3 := ((Below.refl _ _).alloc (Nat.le_refl _) _).trans (hb3.mono (by simp))
      clear own3 hb3
      have s3 := hb3'.size
      obtain ⟨A3, c3, rfl, -⟩ := own_form own3'
      have hg2 : g < wo.heap.size := (own_ge own2 g (by simp [Value.ownBlock])).2
      have hgo : (Value.slice A3 (orS p.2.2).length c3).ownBlock ≠ some g := fun e => by have := (own_ge own3' g (by rw [e]; simp)).1; omega
      have hol2 := orS_le p.2.2
      have own2b := own_below own2 hb3'
      obtain ⟨l, hL⟩ : ∃ l, l = orS p.2.2 := ⟨_, rfl⟩
      rw [← hL] at own3' hgo q3 hol2 ⊢
      have HL := Lib.hid hL; clear hL
      go_upto_region 8 with fail
      obtain ⟨W4, hW4⟩ : ∃ W4, W4 = w3.alloc (.cells #[.slice A3 l.length c3] 22) := ⟨_, rfl⟩
      have ol4 : OwnU W4 wo.heap.size (.slice A3 l.length c3) l := by rw [hW4]; exact own3'.alloc _
      have oo4 : OwnU W4 w.heap.size (.slice (some ⟨g, 0, none⟩) o.length cg) o := by rw [hW4]; exact own2b.alloc _
      have cb4 : W4.cell? ⟨w3.heap.size, 0, none⟩ = some (.slice A3 l.length c3) := by rw [hW4]; exact cell_new _ _ _ _ _ rfl
      have hb4 : Below wo.heap.size wo W4 := by rw [hW4]; exact hb3'.alloc s3 _
      rw [← hW4]
      have HW4 := Lib.hid hW4; clear hW4
      go_wp2_with fail
      refine (vDel o l cg c3 w.heap.size wo.heap.size g w3.heap.size A3 W4 oo4 ol4 hgo q3 (by omega) (by omega) cb4 (by omega)).mono ?_
      rintro e w5 ⟨q, hq, rfl, own5, hbut5⟩
      have Hq := Lib.hid hq; clear hq
      have hb5 : Below w.heap.size w w5 := (hbel.trans (hb4.mono sB)).trans (hbut5.below (by have := hb4.size; omega) (by simp; omega))
      go_wp2
      case roundEnd =>
        refine ⟨⟨k + 1, cg, q, by omega, by simp, Lib.hid ?_, rfl, own5, hb5, by have := hb4.size; have := hbut5.size; omega⟩, by simp [intOf]; omega⟩
        rw [andK_succ p0 r k hlt, Hq.out, ho.out, HL.out, Hp.out]
    · obtain rfl : k = r.length := by omega
      have lk : ¬ (r.length : Int) < ((m - 1 : Nat) : Int) := by rw [Hm1.out]; omega
      have lk2 : ¬ r.length < m - 1 := by rw [Hm1.out]; omega
      have ho2 : andS (p0 :: r) = o := by rw [ho.out]; unfold andK; rw [List.take_length]; rfl
      have Ho2 := Lib.hid ho2; clear ho2
      go_wp2
      go_ret
      exact ⟨_, rfl, by rw [Ho2.out]; exact own2, hbel⟩

set_option maxRecDepth 100000 in
set_option maxHeartbeats 4000000 in
/-- Same of two lists that are the same -/
theorem vSame (l : List Nat) (A A' : Option Addr) (c c' B : Nat) (w : World) (h1 : Row w B 1 A l.length (l.map u64v)) (h2 : Row w B 1 A' l.length (l.map u64v)) (hB : B ≤ w.heap.size) (hl : l.length ≤ 35184372088832) :
    Calls Try.prog 13 #[.slice A l.length c, .slice A' l.length c'] w fun e w' => e = .returned (.bool true) ∧ Below w.heap.size w w' := by
  go_enter Try.func13, Try.ntmps13
  go_wp2
  go_loopw [5] (fun i wr => ∃ k : Nat, k ≤ l.length ∧ i = .int .i64 k ∧ Below w.heap.size w wr) (fun i _ => l.length - (intOf i).toNat)
  case atStart => exact ⟨0, by omega, rfl, Below.refl _ _⟩
  case round =>
    obtain ⟨k, hk, rfl, hbel⟩ := hrel
    obtain ⟨wo, rfl⟩ : ∃ wo : World, wo = wr := ⟨_, rfl⟩
    by_cases hlt : k < l.length
    · obtain ⟨b, off, rfl, hb, hc⟩ := h1.at_ hlt
      obtain ⟨b', off', rfl, hb', hc'⟩ := h2.at_ hlt
      have lt1 : (k : Int) < (l.length : Int) := by omega
      have w1 : IntKind.i64.wrap ((k : Int) + 1) = ((k + 1 : Nat) : Int) := by rw [IntKind.wrap_i64]; omega
      obtain ⟨x, hx⟩ : ∃ x, x = l[k] := ⟨_, rfl⟩
      have y0 : ∀ w', Below wo.heap.size wo w' → w'.cell? ⟨b, off + k, none⟩ = some (.int .u64 (x : Int)) := fun w' h => by
        rw [(hbel.trans (h.mono hbel.size)).cell (p := ⟨b, off + k, none⟩) (by show b < _; omega), hc k (by simpa using hlt), List.getElem_map, hx]; rfl
      have y1 : ∀ w', Below wo.heap.size wo w' → w'.cell? ⟨b', off' + k, none⟩ = some (.int .u64 (x : Int)) := fun w' h => by
        rw [(hbel.trans (h.mono hbel.size)).cell (p := ⟨b', off' + k, none⟩) (by show b' < _; omega), hc' k (by simpa using hlt), List.getElem_map, hx]; rfl
      clear hc hc'
      have Hx := Lib.hid hx; clear hx
      go_upto_region 6 with fail
      have hS0 : Below wo.heap.size wo wo.drew := (Below.refl _ _).drew
      refine wp_region_N (fun w' => Below wo.heap.size wo w') 100 (by kernel_rfl) ?_
      apply wpAnyN_takeL 0 (by kernel_rfl) rfl (fun _ _ _ h => h) (by kernel_rfl) hS0
      · intro w' hS'
        go_simp; exact ⟨rfl, rfl⟩
      (try simp only [Act.put]); (try simp only [List.setIfInBounds_toArray]); (try simp only [List.set])
      apply wpAnyN_takeL 1 (by kernel_rfl) rfl (fun _ _ _ h => h) (by kernel_rfl) hS0
      · intro w' hS'
        go_simp; exact ⟨rfl, rfl⟩
      (try simp only [Act.put]); (try simp only [List.setIfInBounds_toArray]); (try simp only [List.set])
      apply wpAnyN_takeL 2 (by kernel_rfl) rfl (fun _ _ _ h => h) (by kernel_rfl) hS0
      · intro w' hS'
        go_simp; exact ⟨rfl, rfl⟩
      (try simp only [Act.put]); (try simp only [List.setIfInBounds_toArray]); (try simp only [List.set])
      apply wpAnyN_takeL 3 (by kernel_rfl) rfl (fun _ _ _ h => h) (by kernel_rfl) hS0
      · intro w' hS'
        go_simp; exact ⟨rfl, rfl⟩
      (try simp only [Act.put]); (try simp only [List.setIfInBounds_toArray]); (try simp only [List.set])
      apply wpAnyN_takeL 4 (by kernel_rfl) rfl (fun _ _ _ h => h) (by kernel_rfl) hS0
      · intro w' hS'
        go_simp; exact ⟨rfl, rfl⟩
      (try simp only [Act.put]); (try simp only [List.setIfInBounds_toArray]); (try simp only [List.set])
      apply wpAnyN_takeL 5 (by kernel_rfl) rfl (fun _ _ _ h => h) (by kernel_rfl) hS0
      · intro w' hS'
        go_simp; exact ⟨rfl, rfl⟩
      (try simp only [Act.put]); (try simp only [List.setIfInBounds_toArray]); (try simp only [List.set])
      apply wpAnyN_takeL 6 (by kernel_rfl) rfl (fun _ _ _ h => h) (by kernel_rfl) hS0
      · intro w' hS'
        go_simp; exact ⟨rfl, rfl⟩
      (try simp only [Act.put]); (try simp only [List.setIfInBounds_toArray]); (try simp only [List.set])
      apply wpAnyN_takeL 7 (by kernel_rfl) rfl (fun _ _ _ h => h) (by kernel_rfl) hS0
      · intro w' hS'
        go_simp; exact ⟨rfl, rfl⟩
      (try simp only [Act.put]); (try simp only [List.setIfInBounds_toArray]); (try simp only [List.set])
      apply wpAnyN_takeL 8 (by kernel_rfl) rfl (fun _ _ _ h => h) (by kernel_rfl) hS0
      · intro w' hS'
        go_simp; exact ⟨rfl, rfl⟩
      (try simp only [Act.put]); (try simp only [List.setIfInBounds_toArray]); (try simp only [List.set])
      refine wpAnyN_done (by kernel_rfl) ?_ _
      go_wp2
      refine ⟨⟨k + 1, by omega, by simp, hbel.drew⟩, by simp [intOf]; omega⟩
    · obtain rfl : k = l.length := by omega
      go_wp2
      go_ret
      exact ⟨rfl, hbel⟩
end Go.Proofs.Ytmalkgakdmghiaa
