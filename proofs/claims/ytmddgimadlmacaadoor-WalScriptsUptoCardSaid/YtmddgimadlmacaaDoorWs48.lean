import Derived.Test.YtmddgimadlmacaaDoorWs29
namespace Go.Proofs.YtmddgimadlmacaaDoor
open Go.RowKit Garner

/-- a row of rows of bytes, to be read -/
structure Rds (w : World) (A : Option Addr) (ps : List ByS) : Prop where
  row : Row w w.heap.size 1 A ps.length (ps.map ByS.v)
  all : ∀ p ∈ ps, Bytes w w.heap.size p.A p.data.length p.data
theorem Rds.below {w w' : World} {A : Option Addr} {ps : List ByS} (h : Rds w A ps) (hb : Below w.heap.size w w') : Rds w' A ps :=
  ⟨(h.row.below hb).more hb.size, fun p hp => ((h.all p hp).below hb).more hb.size⟩
theorem Pieces.rds {w : World} {B : Nat} {A : Option Addr} {ps : List ByS} (h : Pieces w B A ps) (hB : B ≤ w.heap.size) : Rds w A ps :=
  ⟨h.row.more hB, fun p hp => (h.all p hp).row.more hB⟩
theorem own_bytes {w : World} {B c : Nat} {A : Option Addr} {l : Bs} (h : OwnB w B (.slice A l.length c) l) : Bytes w w.heap.size A l.length l := Row.of_own h
theorem Pays.rds {w : World} {B c : Nat} {A : Option Addr} {ps : List ByS} (h : Pays w B (.slice A ps.length c) ps) : Rds w A ps :=
  ⟨Row.of_own h.own, fun p hp => own_bytes (h.all p hp)⟩
theorem Rds.at_ {w : World} {A : Option Addr} {ps : List ByS} (h : Rds w A ps) {k : Nat} (hk : k < ps.length) : ∃ b off, A = some ⟨b, off, none⟩ ∧ b < w.heap.size ∧ w.cell? ⟨b, off + k, none⟩ = some (.slice ps[k].A ps[k].data.length ps[k].c) := by
  obtain ⟨b, off, e, hb, hc⟩ := h.row.at_ hk
  refine ⟨b, off, e, hb, ?_⟩
  rw [hc k (by simpa using hk)]
  simp [ByS.v]
/-- a beginning of a row -/
theorem Rds.take {w : World} {A : Option Addr} {ps : List ByS} (h : Rds w A ps) {k : Nat} (hk : k ≤ ps.length) : Rds w A (ps.take k) := by
  refine ⟨⟨by simp, fun hn => ?_⟩, fun p hp => h.all p (List.mem_of_mem_take hp)⟩
  have hl : (ps.take k).length = k := by rw [List.length_take]; omega
  obtain ⟨b, off, e, hb, hc⟩ := h.row.2 (by omega)
  refine ⟨b, off, e, hb, fun j u hu => hc j u ?_⟩
  rw [List.map_take, List.getElem?_take] at hu
  split at hu
  · exact hu
  · cases hu
theorem Rds.drop {w : World} {b off : Nat} {ps : List ByS} (h : Rds w (some ⟨b, off, none⟩) ps) {k : Nat} (hk : k ≤ ps.length) : Rds w (some ⟨b, off + k, none⟩) (ps.drop k) := by
  refine ⟨⟨by simp, fun hn => ?_⟩, fun p hp => h.all p (List.mem_of_mem_drop hp)⟩
  have hl : (ps.drop k).length = ps.length - k := by rw [List.length_drop]
  obtain ⟨b', off', e, hb, hc⟩ := h.row.2 (by omega)
  simp only [Option.some.injEq, Addr.mk.injEq, and_true] at e
  obtain ⟨rfl, rfl⟩ := e
  refine ⟨b, off + k, rfl, hb, fun j u hu => ?_⟩
  rw [Nat.add_assoc]
  refine hc (k + j) u ?_
  rw [List.map_drop, List.getElem?_drop] at hu
  exact hu
/-- what the comparison reads -/
structure S22 (bp op bq oq : Nat) (p q : ByS) (k B : Nat) (w' : World) : Prop where
  c1 : w'.cell? ⟨bp, op + k, none⟩ = some (.slice p.A p.data.length p.c)
  c2 : w'.cell? ⟨bq, oq + k, none⟩ = some (.slice q.A q.data.length q.c)
  a : Bytes w' B p.A p.data.length p.data
  b : Bytes w' B q.A q.data.length q.data
def eqN (ps qs : List ByS) : Bool := decide (ps.map (·.data) = qs.map (·.data))
theorem eqN_len {ps qs : List ByS} (h : ps.length ≠ qs.length) : eqN ps qs = false := decide_eq_false fun e => h (by have := congrArg List.length e; simpa using this)
theorem eqN_ne {ps qs : List ByS} {k : Nat} (h1 : k < ps.length) (h2 : k < qs.length) (h : ps[k].data ≠ qs[k].data) : eqN ps qs = false := decide_eq_false fun e => by
  have := congrArg (fun l => l[k]?) e
  simp only [List.getElem?_map, List.getElem?_eq_getElem h1, List.getElem?_eq_getElem h2, Option.map_some, Option.some.injEq] at this
  exact h this
theorem eqN_all {ps qs : List ByS} (hl : ps.length = qs.length) (h : (ps.take ps.length).map (·.data) = (qs.take ps.length).map (·.data)) : eqN ps qs = true := by
  refine decide_eq_true ?_
  rw [List.take_length, hl, List.take_length] at h
  exact h
theorem eqN_step {ps qs : List ByS} {k : Nat} (h1 : k < ps.length) (h2 : k < qs.length) (h : (ps.take k).map (·.data) = (qs.take k).map (·.data)) (he : ps[k].data = qs[k].data) : (ps.take (k + 1)).map (·.data) = (qs.take (k + 1)).map (·.data) := by
  rw [List.take_succ_eq_append_getElem h1, List.take_succ_eq_append_getElem h2, List.map_append, List.map_append, h, List.map_singleton, List.map_singleton, he]
set_option maxRecDepth 100000 in
set_option maxHeartbeats 4000000 in
theorem vSame10 (ps qs : List ByS) (A A' : Option Addr) (c c' : Nat) (w : World) (hp : Rds w A ps) (hq : Rds w A' qs) (hl : ps.length ≤ 140737488355328) :
    Calls Tryd.prog 12 #[.slice A ps.length c, .slice A' qs.length c'] w fun e w' => e = .returned (.bool (eqN ps qs)) ∧ Below w.heap.size w w' := by
  by_cases hlen : ps.length = qs.length
  · have hne : ((ps.length : Int) != (qs.length : Int)) = false := by rw [hlen]; simp
    have Hlen := Lib.hid hlen
    clear hlen
    go_enter Tryd.func12, Tryd.ntmps12
    go_wp2_with fail
    go_loopw [5] (fun i wr => ∃ k : Nat, i = .int .i64 k ∧ k ≤ ps.length ∧ Hid ((ps.take k).map (·.data) = (qs.take k).map (·.data)) ∧ Below w.heap.size w wr) (fun i _ => ps.length - (intOf i).toNat)
    case atStart => exact ⟨0, rfl, Nat.zero_le _, rfl, Below.refl _ _⟩
    case round =>
      obtain ⟨k, rfl, hk, H, hb⟩ := hrel
      obtain ⟨wo, rfl⟩ : ∃ wo : World, wo = wr := ⟨_, rfl⟩
      by_cases hlt : (k : Int) < ps.length
      · have hk1 : k < ps.length := by omega
        have hk2 : k < qs.length := by have := Hlen.out; omega
        have hltq : (k : Int) < qs.length := by omega
        have hp0 := hp.below hb
        have hq0 := hq.below hb
        obtain ⟨bp, op, rfl, _, e1⟩ := hp0.at_ hk1
        obtain ⟨bq, oq, rfl, _, e2⟩ := hq0.at_ hk2
        have hpb := hp0.all _ (List.getElem_mem hk1)
        have hqb := hq0.all _ (List.getElem_mem hk2)
        have hst := eqN_step hk1 hk2 H.out
        have hne' := eqN_ne hk1 hk2
        obtain ⟨p, hpe⟩ : ∃ p, p = ps[k] := ⟨_, rfl⟩
        obtain ⟨q, hqe⟩ : ∃ q, q = qs[k] := ⟨_, rfl⟩
        rw [← hpe] at e1 hpb hst hne'
        rw [← hqe] at e2 hqb hst hne'
        have Hst := Lib.hid hst; have Hne' := Lib.hid hne'
        have hS0 : S22 bp op bq oq p q k wo.heap.size wo.drew := ⟨e1, e2, hpb.drew, hqb.drew⟩
        have y1 : ∀ w' : World, S22 bp op bq oq p q k wo.heap.size w' → w'.cell? ⟨bp, op + k, none⟩ = some (.slice p.A p.data.length p.c) := fun w' h => h.c1
        have y2 : ∀ w' : World, S22 bp op bq oq p q k wo.heap.size w' → w'.cell? ⟨bq, oq + k, none⟩ = some (.slice q.A q.data.length q.c) := fun w' h => h.c2
        have hcv1 : ∀ w' : World, S22 bp op bq oq p q k wo.heap.size w' → ∀ c', (convert 23 9 (.slice p.A p.data.length c')).run Tryd.prog w' = .ok (.string ⟨p.data.toArray⟩) w' := fun w' h c' => run_str h.a
        have hcv2 : ∀ w' : World, S22 bp op bq oq p q k wo.heap.size w' → ∀ c', (convert 23 9 (.slice q.A q.data.length c')).run Tryd.prog w' = .ok (.string ⟨q.data.toArray⟩) w' := fun w' h c' => run_str h.b
        clear H hst hne' hpe hqe e1 e2 hpb hqb hp0 hq0 hp hq
        go_upto_region 6 with fail
        refine wp_region_N (S22 bp op bq oq p q k wo.heap.size) 100 (by kernel_rfl) ?_
        apply wpAnyN_takeL 0 (by kernel_rfl) rfl (fun _ _ _ h => h) (by kernel_rfl) hS0
        · intro w' hS'
          go_simp; exact ⟨rfl, rfl⟩
        (try simp only [Act.put]); (try simp only [List.setIfInBounds_toArray]); (try simp only [List.set])
        apply wpAnyN_takeL 1 (by kernel_rfl) rfl (fun _ _ _ h => h) (by kernel_rfl) hS0
        · intro w' hS'
          go_simp; exact ⟨rfl, rfl⟩
        (try simp only [Act.put]); (try simp only [List.setIfInBounds_toArray]); (try simp only [List.set])
        apply wpAnyN_takeL 2 (by kernel_rfl) rfl (fun _ _ _ h => h) (by kernel_rfl) hS0
        · intro w' hS'
          go_simp; exact ⟨rfl, rfl⟩
        (try simp only [Act.put]); (try simp only [List.setIfInBounds_toArray]); (try simp only [List.set])
        apply wpAnyN_takeL 3 (by kernel_rfl) rfl (fun _ _ _ h => h) (by kernel_rfl) hS0
        · intro w' hS'
          go_simp; exact ⟨rfl, rfl⟩
        (try simp only [Act.put]); (try simp only [List.setIfInBounds_toArray]); (try simp only [List.set])
        apply wpAnyN_takeL 4 (by kernel_rfl) rfl (fun _ _ _ h => h) (by kernel_rfl) hS0
        · intro w' hS'
          go_simp; exact ⟨rfl, rfl⟩
        (try simp only [Act.put]); (try simp only [List.setIfInBounds_toArray]); (try simp only [List.set])
        apply wpAnyN_takeL 5 (by kernel_rfl) rfl (fun _ _ _ h => h) (by kernel_rfl) hS0
        · intro w' hS'
          go_simp; exact ⟨rfl, rfl⟩
        (try simp only [Act.put]); (try simp only [List.setIfInBounds_toArray]); (try simp only [List.set])
        apply wpAnyN_takeL 6 (by kernel_rfl) rfl (fun _ _ _ h => h) (by kernel_rfl) hS0
        · intro w' hS'
          go_simp; exact ⟨rfl, rfl⟩
        (try simp only [Act.put]); (try simp only [List.setIfInBounds_toArray]); (try simp only [List.set])
        apply wpAnyN_takeL 7 (by kernel_rfl) rfl (fun _ _ _ h => h) (by kernel_rfl) hS0
        · intro w' hS'
          go_simp; exact ⟨rfl, rfl⟩
        (try simp only [Act.put]); (try simp only [List.setIfInBounds_toArray]); (try simp only [List.set])
        apply wpAnyN_takeL 8 (by kernel_rfl) rfl (fun _ _ _ h => h) (by kernel_rfl) hS0
        · intro w' hS'
          go_simp; exact ⟨rfl, rfl⟩
        (try simp only [Act.put]); (try simp only [List.setIfInBounds_toArray]); (try simp only [List.set])
        apply wpAnyN_takeL 9 (by kernel_rfl) rfl (fun _ _ _ h => h) (by kernel_rfl) hS0
        · intro w' hS'
          go_simp; exact ⟨rfl, rfl⟩
        (try simp only [Act.put]); (try simp only [List.setIfInBounds_toArray]); (try simp only [List.set])
        apply wpAnyN_takeL 10 (by kernel_rfl) rfl (fun _ _ _ h => h) (by kernel_rfl) hS0
        · intro w' hS'
          go_simp; exact ⟨rfl, rfl⟩
        (try simp only [Act.put]); (try simp only [List.setIfInBounds_toArray]); (try simp only [List.set])
        refine wpAnyN_done (by kernel_rfl) ?_ _
        clear y1 y2 hcv1 hcv2 hS0
        by_cases heq : p.data = q.data
        · have hz : (p.data == q.data) = true := beq_iff_eq.2 heq
          have hgo := Lib.hid (Hst.out heq)
          have hz' : (!p.data == q.data) = false := by rw [hz]; rfl
          clear Hst Hne' heq
          go_wp2
          any_goals (exfalso; rename_i hx; rw [hz'] at hx; cases hx; done)
          go_roundw
          case rel =>
            first
              | exact ⟨k + 1, by go_num, by omega, hgo, hb.drew⟩
              | ((repeat apply Exists.intro); exact ⟨⟨k + 1, by go_num, by omega, hgo, hb.drew⟩, rfl⟩)
          case measure => simp [intOf]; omega
        · have hz : (p.data == q.data) = false := beq_eq_false_iff_ne.2 heq
          have hgo := Lib.hid (Hne'.out heq)
          have hz' : (!p.data == q.data) = true := by rw [hz]; rfl
          clear Hst Hne' heq
          go_wp2
          any_goals (exfalso; rename_i hx; rw [hz'] at hx; cases hx; done)
          go_ret
          rw [hgo.out]
          exact ⟨rfl, hb.drew⟩
      · obtain rfl : k = ps.length := by omega
        have hgo := Lib.hid (eqN_all Hlen.out H.out)
        clear H
        go_wp2
        go_ret
        rw [hgo.out]
        exact ⟨rfl, hb⟩
  · have hne : ((ps.length : Int) != (qs.length : Int)) = true := by rw [bne_iff_ne]; omega
    have hgo := Lib.hid (eqN_len hlen)
    clear hlen
    go_enter Tryd.func12, Tryd.ntmps12
    go_wp2
    go_ret
    rw [hgo.out]
    exact ⟨rfl, Below.refl _ _⟩
end Go.Proofs.YtmddgimadlmacaaDoor
