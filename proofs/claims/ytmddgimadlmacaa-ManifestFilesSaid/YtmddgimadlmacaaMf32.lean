import Derived.Test.YtmddgimadlmacaaMf26
import Derived.Test.YtmddgimadlmacaaMf18
import Derived.Test.YtmddgimadlmacaaMf17
/-! the disk's Clone -/
namespace Go.Proofs.Ytmddgimadlmacaa
open Go.RowKit Garner
theorem perm_map {α β : Type} {f : α → β} {m l' : List β} (h : m.Perm l') : ∀ {l : List α}, l.map f = m → ∃ l2, l.Perm l2 ∧ l2.map f = l' := by
  induction h with
  | nil => intro l e; exact ⟨l, List.Perm.refl _, e⟩
  | cons x _ ih =>
    intro l e
    match l, e with
    | a :: t, e =>
      simp only [List.map_cons, List.cons.injEq] at e
      obtain ⟨l2, h1, h2⟩ := ih e.2
      exact ⟨a :: l2, h1.cons a, by rw [List.map_cons, h2, e.1]⟩
  | swap x y l0 =>
    intro l e
    match l, e with
    | a :: b :: t, e =>
      simp only [List.map_cons, List.cons.injEq] at e
      exact ⟨b :: a :: t, List.Perm.swap _ _ _, by rw [List.map_cons, List.map_cons, e.1, e.2.1, e.2.2]⟩
  | trans _ _ ih1 ih2 =>
    intro l e
    obtain ⟨l2, h1, h2⟩ := ih1 e
    obtain ⟨l3, h3, h4⟩ := ih2 h2
    exact ⟨l3, h1.trans h3, h4⟩
theorem aput_new {ν : Type} {a : Bs} {v : ν} : ∀ {l : List (Bs × ν)}, a ∉ l.map (·.1) → aput a v l = l ++ [(a, v)]
  | [], _ => rfl
  | (k, u) :: r, h => by
    simp only [List.map_cons, List.mem_cons, not_or] at h
    unfold aput
    rw [if_neg h.1, aput_new h.2]
    rfl
section
variable (g mp : Nat) (es : Files) (fl dn : Bool) (left : Int) (O : Nat → Prop) (w : World)
structure DcS (w0 : World) (g mp : Nat) (al : List (Bs × Value)) (fl dn : Bool) (left : Int) (es' : Files) (w' : World) : Prop where
  d : DiskIs (fun b => w0.heap.size + 3 ≤ b) w' (w0.heap.size + 1) w0.heap.size es' fl dn left
  b : Below w0.heap.size w0 w'
set_option maxRecDepth 100000 in
set_option maxHeartbeats 4000000 in
theorem vDiskClone (hd : DiskIs O w g mp es fl dn left) :
    Calls Try.prog 30 #[.pointer (some ⟨g, 0, none⟩)] w fun e w' => ∃ g' mp' es', e = .returned (.pointer (some ⟨g', 0, none⟩)) ∧ DiskIs (fun b => w.heap.size ≤ b) w' g' mp' es' fl dn left ∧ es'.abs.Perm es.abs ∧ w.heap.size ≤ g' ∧ w.heap.size ≤ mp' ∧ Below w.heap.size w w' := by
  have hg := hd.blk.lt; have hm := MapIs.lt hd.map
  have q0 : ∀ w', Below w.heap.size w w' → w'.cell? ⟨g, 0, none⟩ = some (.map (some mp)) := fun w' hb => (hd.blk.below hb hd.blk.lt).cell 0
  have q1 : ∀ w', Below w.heap.size w w' → w'.cell? ⟨g, 1, none⟩ = some (.bool fl) := fun w' hb => (hd.blk.below hb hd.blk.lt).cell 1
  have q2 : ∀ w', Below w.heap.size w w' → w'.cell? ⟨g, 2, none⟩ = some (.bool dn) := fun w' hb => (hd.blk.below hb hd.blk.lt).cell 2
  have q3 : ∀ w', Below w.heap.size w w' → w'.cell? ⟨g, 3, none⟩ = some (.int .i64 left) := fun w' hb => (hd.blk.below hb hd.blk.lt).cell 3
  go_enter Try.func30, Try.ntmps30
  go_upto_region 3 with fail
  have hS0 : Below w.heap.size w w.drew := (Below.refl _ _).drew
  refine wp_region_N (fun w' => Below w.heap.size w w') 15 (by kernel_rfl) ?_
  apply wpAnyN_takeL 1 (by kernel_rfl) rfl (fun _ _ _ h => h) (by kernel_rfl) hS0
  · intro w' hS'
    go_simp; exact ⟨rfl, rfl⟩
  (try simp only [Act.put]); (try simp only [List.setIfInBounds_toArray]); (try simp only [List.set])
  apply wpAnyN_takeL 2 (by kernel_rfl) rfl (fun _ _ _ h => h) (by kernel_rfl) hS0
  · intro w' hS'
    go_simp; exact ⟨rfl, rfl⟩
  (try simp only [Act.put]); (try simp only [List.setIfInBounds_toArray]); (try simp only [List.set])
  apply wpAnyN_takeL 3 (by kernel_rfl) rfl (fun _ _ _ h => h) (by kernel_rfl) hS0
  · intro w' hS'
    go_simp; exact ⟨rfl, rfl⟩
  (try simp only [Act.put]); (try simp only [List.setIfInBounds_toArray]); (try simp only [List.set])
  apply wpAnyN_takeL 4 (by kernel_rfl) rfl (fun _ _ _ h => h) (by kernel_rfl) hS0
  · intro w' hS'
    go_simp; exact ⟨rfl, rfl⟩
  (try simp only [Act.put]); (try simp only [List.setIfInBounds_toArray]); (try simp only [List.set])
  apply wpAnyN_takeL 5 (by kernel_rfl) rfl (fun _ _ _ h => h) (by kernel_rfl) hS0
  · intro w' hS'
    go_simp; exact ⟨rfl, rfl⟩
  (try simp only [Act.put]); (try simp only [List.setIfInBounds_toArray]); (try simp only [List.set])
  apply wpAnyN_takeL 6 (by kernel_rfl) rfl (fun _ _ _ h => h) (by kernel_rfl) hS0
  · intro w' hS'
    go_simp; exact ⟨rfl, rfl⟩
  (try simp only [Act.put]); (try simp only [List.setIfInBounds_toArray]); (try simp only [List.set])
  apply wpAnyN_takeL 7 (by kernel_rfl) rfl (fun _ _ _ h => h) (by kernel_rfl) hS0
  · intro w' hS'
    go_simp; exact ⟨rfl, rfl⟩
  (try simp only [Act.put]); (try simp only [List.setIfInBounds_toArray]); (try simp only [List.set])
  apply wpAnyN_takeL 8 (by kernel_rfl) rfl (fun _ _ _ h => h) (by kernel_rfl) hS0
  · intro w' hS'
    go_simp; exact ⟨rfl, rfl⟩
  (try simp only [Act.put]); (try simp only [List.setIfInBounds_toArray]); (try simp only [List.set])
  apply wpAnyN_takeL 9 (by kernel_rfl) rfl (fun _ _ _ h => h) (by kernel_rfl) hS0
  · intro w' hS'
    go_simp; exact ⟨rfl, rfl⟩
  (try simp only [Act.put]); (try simp only [List.setIfInBounds_toArray]); (try simp only [List.set])
  apply wpAnyN_takeL 10 (by kernel_rfl) rfl (fun _ _ _ h => h) (by kernel_rfl) hS0
  · intro w' hS'
    go_simp; exact ⟨rfl, rfl⟩
  (try simp only [Act.put]); (try simp only [List.setIfInBounds_toArray]); (try simp only [List.set])
  apply wpAnyN_takeL 11 (by kernel_rfl) rfl (fun _ _ _ h => h) (by kernel_rfl) hS0
  · intro w' hS'
    go_simp; exact ⟨rfl, rfl⟩
  (try simp only [Act.put]); (try simp only [List.setIfInBounds_toArray]); (try simp only [List.set])
  apply wpAnyN_takeL 12 (by kernel_rfl) rfl (fun _ _ _ h => h) (by kernel_rfl) hS0
  · intro w' hS'
    go_simp; exact ⟨rfl, rfl⟩
  (try simp only [Act.put]); (try simp only [List.setIfInBounds_toArray]); (try simp only [List.set])
  refine wpAnyN_runL 0 (by kernel_rfl) rfl (by kernel_rfl) (fun K hK => ?_)
  go_simp
  simp only [run_makeMap, Result.andThen]
  go_simp
  obtain ⟨w1, hw1⟩ : ∃ W, W = (w.alloc (.map #[] 0)).drew := ⟨_, rfl⟩
  rw [← hw1]
  have hS1 : Below w.heap.size w w1 := by rw [hw1]; exact ((Below.refl _ _).alloc (Nat.le_refl _) _).drew
  have hmap1 : MapIs strKey w1 w.heap.size [] := by rw [hw1]; exact (MapIs.made (key := strKey) w).of_block rfl
  have hs1 : w1.heap.size = w.heap.size + 1 := by rw [hw1]; simp
  clear hw1
  refine hK _ _ (fun _ => hS1) ?_
  clear hK K
  (try simp only [Act.put]); (try simp only [List.setIfInBounds_toArray]); (try simp only [List.set])
  apply wpAnyN_takeL 13 (by kernel_rfl) rfl (fun _ _ _ h => h) (by kernel_rfl) hS1
  · intro w' hS'
    go_simp; exact ⟨rfl, rfl⟩
  (try simp only [Act.put]); (try simp only [List.setIfInBounds_toArray]); (try simp only [List.set])
  refine wpAnyN_runL 14 (by kernel_rfl) rfl (by kernel_rfl) (fun K hK => ?_)
  go_simp
  obtain ⟨w2, hw2⟩ : ∃ W, W = w1.alloc (.cells #[.map (some w.heap.size), .bool fl, .bool dn, .int .i64 left] 97) := ⟨_, rfl⟩
  rw [← hw2]
  have hS2 : Below w.heap.size w w2 := by rw [hw2]; exact hS1.alloc hS1.size _
  have hk2 : Blk w2 (w.heap.size + 1) 97 (diskV w.heap.size fl dn left) := by rw [hw2, ← hs1]; exact Blk.new w1 _ [.map (some w.heap.size), .bool fl, .bool dn, .int .i64 left]
  have hmap2 : MapIs strKey w2 w.heap.size [] := by rw [hw2]; exact hmap1.alloc _
  have hs2 : w2.heap.size = w.heap.size + 2 := by rw [hw2]; simp [hs1]
  clear hw2
  refine hK _ _ (fun _ => hS2) ?_
  clear hK K
  (try simp only [Act.put]); (try simp only [List.setIfInBounds_toArray]); (try simp only [List.set])
  refine wpAnyN_runL 15 (by kernel_rfl) rfl (by kernel_rfl) (fun K hK => ?_)
  go_simp
  refine hK _ _ (fun _ => hS2) ?_
  clear hK K
  (try simp only [Act.put]); (try simp only [List.setIfInBounds_toArray]); (try simp only [List.set])
  refine wpAnyN_done (by kernel_rfl) ?_ _
  have c0 : w2.cell? ⟨g, 0, none⟩ = some (.map (some mp)) := q0 w2 hS2
  clear q0 q1 q2 q3
  have hd2 := hd.below hS2
  have hmw := hd2.map
  go_wp2_with (at_range; refine wpList_rangeM rfl _ _ rfl Try.underlying95 rfl hmw ?_; intro ob hrng0)
  rw [hs2]
  go_frame
  have hb3 : Below w.heap.size w (w2.alloc ob) := hS2.alloc hS2.size _
  have hk3 := hk2.alloc ob
  have hmap3 := hmap2.alloc ob
  have hsz3 : (w2.alloc ob).heap.size = w.heap.size + 3 := by simp [hs2]
  have hlo := hd.lo; have hhi := hd.hi
  rw [hs2] at hrng0
  clear c0 hmw hmap2 hk2 hmap1
  go_loopw [] (fun wr => ∃ ds ts es' : Files, Rng strKey wr mp (w.heap.size + 2) es.al ds.al ts.al ∧ (ds ++ ts).Perm es ∧ DiskIs (fun b => w.heap.size + 3 ≤ b) wr (w.heap.size + 1) w.heap.size es' fl dn left ∧ es'.abs = ds.abs ∧ w.heap.size + 3 ≤ wr.heap.size ∧ Below w.heap.size w wr) (fun wr => wr.rangeLeft mp (w.heap.size + 2))
  case atStart => exact ⟨[], es, [], hrng0, List.Perm.refl _, ⟨hk3, hmap3, by simp, by simp, hlo, hhi⟩, rfl, by omega, hb3⟩
  case round =>
    obtain ⟨ds, ts, es', hrng, hper, hdn, habs, hszr, hbel⟩ := hrel
    obtain ⟨wo, rfl⟩ : ∃ wo : World, wo = wr := ⟨_, rfl⟩
    have hlo := hrng.lt
    go_wp2_with (at_next; refine wpList_nextM rfl _ rfl rfl hrng ?_ ?_)
    · intro h0
      have h0' : ts = [] := List.map_eq_nil_iff.1 h0
      subst h0'
      rw [List.append_nil] at hper
      go_wp2
      go_ret
      exact ⟨_, _, es', rfl, hdn.mono (fun b hb => by omega), by rw [habs]; exact hper.map _, by omega, Nat.le_refl _, hbel⟩
    · intro kp vp todo' w4 hperm hr4 hb4 hs4 hen
      obtain ⟨l2, hp2, he2⟩ := perm_map (f := fun p : Bs × FileE => (p.1, p.2.v)) hperm (l := ts) rfl
      obtain ⟨q, ts2, rfl⟩ : ∃ q ts2, l2 = q :: ts2 := by
        cases l2 with
        | nil => cases he2
        | cons q ts2 => exact ⟨q, ts2, rfl⟩
      simp only [List.map_cons, List.cons.injEq, Prod.mk.injEq] at he2
      obtain ⟨⟨rfl, rfl⟩, rfl⟩ := he2
      obtain ⟨kp, e⟩ := q
      have hper2 : (ds ++ [(kp, e)] ++ ts2).Perm es := by
        rw [List.append_assoc]
        exact ((hp2.symm).append_left ds).trans hper
      have hbel4 : Below w.heap.size w w4 := hbel.trans (hb4.below hbel.size (by simp))
      have hmem : (kp, e) ∈ es := hper2.mem_iff.1 (by simp)
      have hfo : FileOk O w4 e := (hd.files _ hmem).but (S := []) (But.of_below hbel4) (by simp)
      have hd4 : DiskIs (fun b => w.heap.size + 3 ≤ b) w4 (w.heap.size + 1) w.heap.size es' fl dn left := hdn.but hb4 (by simp) (by simp) (fun b hb _ => by simp only [List.mem_singleton]; omega)
      have hnew : kp ∉ es'.map (·.1) := by
        rw [← abs_keys, habs, abs_keys]
        have hn : ((ds ++ [(kp, e)] ++ ts2).map (·.1)).Nodup := (hper2.map _).nodup_iff.2 hd.nodup
        simp only [List.map_append, List.map_cons, List.append_assoc, List.singleton_append] at hn
        intro hm
        exact (List.nodup_append.1 hn).2.2 _ hm _ (by simp) rfl
      simp only [FileE.v] at hen ⊢
      have hmea : ts2.length < wo.rangeLeft mp (w.heap.size + 2) := by
        rw [hrng.left_eq]
        have := hp2.length_eq
        simp only [Files.al, List.length_map, List.length_cons] at this ⊢
        omega
      have Hmea := Lib.hid hmea
      clear hmea
      clear hperm hb4 hmem hp2 hper hdn hbel hrng
      go_upto_region 7 with fail
      obtain ⟨X, hX⟩ : ∃ X, X = w4.alloc (.cells #[.slice e.A e.data.length e.c, .int .i64 e.synced] 100) := ⟨_, rfl⟩
      rw [← hX]
      have hbX : Below w4.heap.size w4 X := by rw [hX]; exact (Below.refl _ _).alloc (Nat.le_refl _) _
      have kX : Blk X wo.heap.size 100 [.slice e.A e.data.length e.c, .int .i64 e.synced] := by rw [hX, ← hs4]; exact Blk.new w4 _ [.slice e.A e.data.length e.c, .int .i64 e.synced]
      clear hX
      have hdX := hd4.below hbX
      have hfX : FileOk O X e := hfo.but (S := []) (But.of_below hbX) (by simp)
      have hrX := hr4.but (S := []) (But.of_below hbX) (by simp) (by simp)
      have hbelX : Below w.heap.size w X := hbel4.trans (hbX.mono hbel4.size)
      have hszX := hbX.size
      have hT0 : Below X.heap.size X X.drew := (Below.refl _ _).drew
      have z0 : ∀ w', Below X.heap.size X w' → w'.cell? ⟨w.heap.size + 1, 0, none⟩ = some (.map (some w.heap.size)) := fun w' h => (hdX.blk.below h hdX.blk.lt).cell 0
      have y0 : ∀ w', Below X.heap.size X w' → w'.cell? ⟨wo.heap.size, 0, none⟩ = some (.slice e.A e.data.length e.c) := fun w' h => (kX.below h kX.lt).cell 0
      have y1 : ∀ w', Below X.heap.size X w' → w'.cell? ⟨wo.heap.size, 1, none⟩ = some (.int .i64 e.synced) := fun w' h => (kX.below h kX.lt).cell 1
      clear hen
      refine wp_region_N (fun w' => Below X.heap.size X w') 11 (by kernel_rfl) ?_
      apply wpAnyN_takeL 0 (by kernel_rfl) rfl (fun _ _ _ h => h) (by kernel_rfl) hT0
      · intro w' hS'
        go_simp; exact ⟨rfl, rfl⟩
      (try simp only [Act.put]); (try simp only [List.setIfInBounds_toArray]); (try simp only [List.set])
      apply wpAnyN_takeL 1 (by kernel_rfl) rfl (fun _ _ _ h => h) (by kernel_rfl) hT0
      · intro w' hS'
        go_simp; exact ⟨rfl, rfl⟩
      (try simp only [Act.put]); (try simp only [List.setIfInBounds_toArray]); (try simp only [List.set])
      apply wpAnyN_takeL 2 (by kernel_rfl) rfl (fun _ _ _ h => h) (by kernel_rfl) hT0
      · intro w' hS'
        go_simp; exact ⟨rfl, rfl⟩
      (try simp only [Act.put]); (try simp only [List.setIfInBounds_toArray]); (try simp only [List.set])
      apply wpAnyN_takeL 3 (by kernel_rfl) rfl (fun _ _ _ h => h) (by kernel_rfl) hT0
      · intro w' hS'
        go_simp; exact ⟨rfl, rfl⟩
      (try simp only [Act.put]); (try simp only [List.setIfInBounds_toArray]); (try simp only [List.set])
      apply wpAnyN_takeL 4 (by kernel_rfl) rfl (fun _ _ _ h => h) (by kernel_rfl) hT0
      · intro w' hS'
        go_simp; exact ⟨rfl, rfl⟩
      (try simp only [Act.put]); (try simp only [List.setIfInBounds_toArray]); (try simp only [List.set])
      apply wpAnyN_takeL 5 (by kernel_rfl) rfl (fun _ _ _ h => h) (by kernel_rfl) hT0
      · intro w' hS'
        go_simp; exact ⟨rfl, rfl⟩
      (try simp only [Act.put]); (try simp only [List.setIfInBounds_toArray]); (try simp only [List.set])
      apply wpAnyN_takeL 6 (by kernel_rfl) rfl (fun _ _ _ h => h) (by kernel_rfl) hT0
      · intro w' hS'
        go_simp; exact ⟨rfl, rfl⟩
      (try simp only [Act.put]); (try simp only [List.setIfInBounds_toArray]); (try simp only [List.set])
      apply wpAnyN_takeL 8 (by kernel_rfl) rfl (fun _ _ _ h => h) (by kernel_rfl) hT0
      · intro w' hS'
        go_simp; exact ⟨rfl, rfl⟩
      (try simp only [Act.put]); (try simp only [List.setIfInBounds_toArray]); (try simp only [List.set])
      apply wpAnyN_takeL 9 (by kernel_rfl) rfl (fun _ _ _ h => h) (by kernel_rfl) hT0
      · intro w' hS'
        go_simp; exact ⟨rfl, rfl⟩
      (try simp only [Act.put]); (try simp only [List.setIfInBounds_toArray]); (try simp only [List.set])
      refine wpAnyN_runL 7 (by kernel_rfl) rfl (by kernel_rfl) (fun K hK => ?_)
      go_simp
      go_at_call 65
      refine (vClone e.data e.A e.c X.heap.size X.drew hfX.row.drew (by simp) hfX.len).mono ?_
      rintro ee w5 ⟨v5, rfl, hown5, hb5⟩
      obtain ⟨A5, c5, rfl, _⟩ := own_form hown5
      have hT5 : Below X.heap.size X w5 := hT0.trans hb5
      have hd5 := hdX.below hT5
      have hf5 : FileOk (fun b => w.heap.size + 3 ≤ b) w5 ⟨A5, c5, e.data, e.synced⟩ := (FileOk.of_own hown5 hfX.syn hfX.len).mono (fun b hb => by have := hb; simp only [World.drew] at this; omega)
      obtain ⟨w6, hrun6, hd6, hb6⟩ := DiskIs.put hd5 kp _ hf5
      simp only [FileE.v] at hrun6
      refine hK _ _ (fun _ => hT5) ?_
      clear hK K
      (try simp only [Act.put]); (try simp only [List.setIfInBounds_toArray]); (try simp only [List.set])
      apply wpAnyN_takeL 10 (by kernel_rfl) rfl (fun _ _ _ h => h) (by kernel_rfl) hT5
      · intro w' hS'
        go_simp; exact ⟨rfl, rfl⟩
      (try simp only [Act.put]); (try simp only [List.setIfInBounds_toArray]); (try simp only [List.set])
      refine wpAnyN_runL 11 (by kernel_rfl) rfl (by kernel_rfl) (fun K hK => ?_)
      go_simp
      refine hK _ _ (fun h => absurd rfl h) ?_
      clear hK K
      (try simp only [Act.put])
      refine wpAnyN_done (by kernel_rfl) ?_ _
      have hr6 := (hrX.but (S := []) (But.of_below hT5) (by simp) (by simp)).but hb6 (by simp only [List.mem_singleton]; omega) (by simp)
      have hs6 := hb6.size; have hs5 := hT5.size
      go_wp2
      constructor
      · refine ⟨ds ++ [(kp, e)], ts2, _, by simpa [Files.al] using hr6, hper2, hd6, ?_, by omega, (hbelX.trans (hT5.mono hbelX.size)).trans (hb6.below (by omega) (by simp))⟩
        rw [abs_aput, aput_new (by rw [abs_keys]; exact hnew), habs]
        simp [Files.abs]
      · rw [hr6.left_eq]
        have := Hmea.out
        simp only [List.length_map]
        omega
end
end Go.Proofs.Ytmddgimadlmacaa
