import Derived.Test.YtmddgimadlmacaaMf14
namespace Go.Proofs.Ytmddgimadlmacaa
open Go.RowKit Garner

theorem mreadP_e1 {b : Bs} {k : Nat} (h : fread b 0 = .error k) : mreadP b = none := by unfold mreadP; rw [h]
theorem mreadP_e2 {b p : Bs} {to : Nat} (h : fread b 0 = .ok (p, to)) (ht : to ≠ b.length) : mreadP b = none := by unfold mreadP; rw [h]; exact if_pos ht
theorem vMread (l : List UInt8) (A : Option Addr) (c B : Nat) (w : World) (hr : Bytes w B A l.length l) (hB : B ≤ w.heap.size) (hc : l.length ≤ c) (hl : l.length ≤ 140737488355328) :
    Calls Try.prog 14 #[.slice A l.length c] w fun e w' => MreadPost w (mreadP l) e w' := by
  cases hv : fread l 0 with
  | error k => rw [mreadP_e1 hv]; exact vMread1 l A c B w hr hB hc hl k hv
  | ok q =>
    obtain ⟨p, to⟩ := q
    by_cases ht : to = l.length
    · subst ht; exact vMread3 l A c B w hr hB hc hl p hv
    · rw [mreadP_e2 hv ht]; exact vMread2 l A c B w hr hB hc hl p to hv ht
theorem rMread (l : List UInt8) (A : Option Addr) (c B : Nat) (w : World) (hr : Bytes w B A l.length l) (hB : B ≤ w.heap.size) (hc : l.length ≤ c) (hl : l.length ≤ 140737488355328) :
    Calls Try.prog 15 #[.slice A l.length c] w fun e w' => MreadPost w (mreadP l) e w' := by
  cases hv : fread l 0 with
  | error k => rw [mreadP_e1 hv]; exact rMread1 l A c B w hr hB hc hl k hv
  | ok q =>
    obtain ⟨p, to⟩ := q
    rw [← mread_eq]; exact rMread2 l A c B w hr hB hc hl p to hv
theorem mread_nil : mreadP [] = none := by rfl
theorem mwrite_len {m : Man} {f : Bs} (h : mwrite m = .ok f) : f.length ≤ 70000 := by
  obtain ⟨_, h2⟩ := mwrite_inv h
  unfold frame at h2
  split at h2
  · cases h2
  · injection h2 with h2
    subst h2
    have h3 := put1_len (n := (vput (manNums m)).length) (by omega)
    simp only [List.length_append]
    have h4 : (four (crc (vput (manNums m)))).length = 4 := rfl
    omega
theorem small_may : may smallMan := by decide
theorem small_wf : smallMan.wf := ⟨by simp [smallMan, in64], by simp [smallMan, in64], by decide, by simp [smallMan, in64], fun s hs => by
  simp only [smallMan, List.mem_singleton] at hs
  subst hs
  constructor <;> simp [in64]⟩
theorem small_ok : ∃ f, mwrite smallMan = .ok f := ⟨_, (mwrite_ok small_wf small_may).2⟩
set_option maxRecDepth 100000 in
set_option maxHeartbeats 4000000 in
theorem vAwake (w : World) : Calls Try.prog 11 #[] w fun e w' => e = .returned (.bool true) ∧ Below w.heap.size w w' := by
  obtain ⟨f, hf⟩ := small_ok
  have hrd := (mread_mwrite small_wf hf).1
  have Hf := Lib.hid hf; have Hrd := Lib.hid hrd
  clear hf hrd
  go_enter Try.func11, Try.ntmps11
  go_wp2_with fail
  refine (vSmallMan w).mono ?_
  rintro e w1 ⟨A1, rfl, hs1, hb1⟩
  go_wp2_with fail
  refine (vWrite smallMan A1 1 w1.heap.size w1 hs1 (Nat.le_refl _) small_wf (by simp [smallMan])).mono ?_
  rintro e w2 hpost
  rw [Hf.out] at hpost
  obtain ⟨v2, rfl, hown2, hb2⟩ := hpost
  obtain ⟨A2, c2, rfl, hc2, hrow2⟩ := OwnB.shapeC hown2
  go_wp2_with fail
  have hlf := mwrite_len Hf.out
  refine (vMread f A2 c2 w2.heap.size w2 hrow2 (Nat.le_refl _) hc2 (by omega)).mono ?_
  rintro e w3 hpost
  rw [Hrd.out] at hpost
  obtain ⟨A3, c3, rfl, hown3, hb3⟩ := hpost
  have hb03 : Below w.heap.size w w3 := (hb1.trans (hb2.mono hb1.size)).trans (hb3.mono (Nat.le_trans hb1.size hb2.size))
  clear hown2 hrow2 hs1 hb1 hb2 hb3
  simp only [smallMan]
  go_wp2_with fail
  obtain ⟨X3, hX3⟩ : ∃ X, X = w3.alloc (manBox smallMan A3 c3) := ⟨_, rfl⟩
  change Calls _ _ _ (w3.alloc (manBox smallMan A3 c3)) _
  rw [← hX3]
  have hbX3 : Below w3.heap.size w3 X3 := by rw [hX3]; exact (Below.refl _ _).alloc (Nat.le_refl _) _
  have hk3 : Blk X3 w3.heap.size 25 [.int .i64 2, .int .i64 3, .int .u64 9, .int .i64 5, .slice A3 1 c3] := by rw [hX3]; exact Blk.new _ _ _
  have hown4 := own_below hown3 hbX3
  have hb04 : Below w.heap.size w X3 := hb03.trans (hbX3.mono hb03.size)
  clear hX3 hown3
  refine (vMread [] none 0 0 X3 Row.none_ (by omega) (by simp) (by simp)).mono ?_
  rintro e w4 hpost
  rw [mread_nil] at hpost
  obtain ⟨rfl, hb4⟩ := hpost
  have hk4 := hk3.below hb4 hk3.lt
  have hown5 := own_below hown4 hb4
  have hb05 : Below w.heap.size w w4 := hb04.trans (hb4.mono hb04.size)
  clear hown4 hb4 hbX3 hb03
  simp only [manZ]
  go_wp2_with fail
  obtain ⟨X4, hX4⟩ : ∃ X, X = w4.alloc (.cells #[.int .i64 0, .int .i64 0, .int .u64 0, .int .i64 0, .slice none 0 0] 25) := ⟨_, rfl⟩
  rw [← hX4]
  have hbX4 : Below w4.heap.size w4 X4 := by rw [hX4]; exact (Below.refl _ _).alloc (Nat.le_refl _) _
  clear hX4
  have hk5 := hk4.below hbX4 hk4.lt
  have hown6 := own_below hown5 hbX4
  have hb06 : Below w.heap.size w X4 := hb05.trans (hbX4.mono hb05.size)
  clear hown5 hb05 hbX4 hb04
  refine (vNew X4).mono ?_
  rintro e w5 ⟨rfl, hm5, hd5, hb5⟩
  have hk6 := hk5.below hb5 hk5.lt
  have hown7 := own_below hown6 hb5
  have hb07 : Below w.heap.size w w5 := hb06.trans (hb5.mono hb06.size)
  clear hown6 hb5
  go_wp2_with fail
  refine (vLoad0 _ _ _ _ w5 hm5 hd5).mono ?_
  rintro e w6 ⟨rfl, hb6⟩
  have hk7 := hk6.below hb6 hk6.lt
  have hown8 := own_below hown7 hb6
  have hb08 : Below w.heap.size w w6 := hb07.trans (hb6.mono hb07.size)
  clear hown7 hb6
  simp only [firstMan]
  go_wp2_with fail
  obtain ⟨X6, hX6⟩ : ∃ X, X = w6.alloc (.cells #[.int .i64 1, .int .i64 1, .int .u64 1, .int .i64 (-9223372036854775808), .slice none 0 0] 25) := ⟨_, rfl⟩
  rw [← hX6]
  have hbX6 : Below w6.heap.size w6 X6 := by rw [hX6]; exact (Below.refl _ _).alloc (Nat.le_refl _) _
  have hn6 : Blk X6 w6.heap.size 25 [.int .i64 1, .int .i64 1, .int .u64 1, .int .i64 (-9223372036854775808), .slice none 0 0] := by rw [hX6]; exact Blk.new _ _ _
  clear hX6
  have hk8 := hk7.below hbX6 hk7.lt
  have hown9 := own_below hown8 hbX6
  have hb09 : Below w.heap.size w X6 := hb08.trans (hbX6.mono hb08.size)
  clear hown8 hb08 hbX6 hk3 hk4 hk5 hk6 hk7 hm5 hd5 hb06 hb07
  have s3 : w3.heap.size < X6.heap.size := hk8.lt
  have s6 : w6.heap.size < X6.heap.size := hn6.lt
  have z0 : ∀ w' : World, (Blk w' w3.heap.size 25 [.int .i64 2, .int .i64 3, .int .u64 9, .int .i64 5, .slice A3 1 c3] ∧ Blk w' w6.heap.size 25 [.int .i64 1, .int .i64 1, .int .u64 1, .int .i64 (-9223372036854775808), .slice none 0 0]) → w'.cell? ⟨w3.heap.size, 0, none⟩ = some (.int .i64 2) := fun w' h => h.1.cell 0
  have z1 : ∀ w' : World, (Blk w' w3.heap.size 25 [.int .i64 2, .int .i64 3, .int .u64 9, .int .i64 5, .slice A3 1 c3] ∧ Blk w' w6.heap.size 25 [.int .i64 1, .int .i64 1, .int .u64 1, .int .i64 (-9223372036854775808), .slice none 0 0]) → w'.cell? ⟨w3.heap.size, 1, none⟩ = some (.int .i64 3) := fun w' h => h.1.cell 1
  have z2 : ∀ w' : World, (Blk w' w3.heap.size 25 [.int .i64 2, .int .i64 3, .int .u64 9, .int .i64 5, .slice A3 1 c3] ∧ Blk w' w6.heap.size 25 [.int .i64 1, .int .i64 1, .int .u64 1, .int .i64 (-9223372036854775808), .slice none 0 0]) → w'.cell? ⟨w3.heap.size, 2, none⟩ = some (.int .u64 9) := fun w' h => h.1.cell 2
  have z3 : ∀ w' : World, (Blk w' w3.heap.size 25 [.int .i64 2, .int .i64 3, .int .u64 9, .int .i64 5, .slice A3 1 c3] ∧ Blk w' w6.heap.size 25 [.int .i64 1, .int .i64 1, .int .u64 1, .int .i64 (-9223372036854775808), .slice none 0 0]) → w'.cell? ⟨w3.heap.size, 3, none⟩ = some (.int .i64 5) := fun w' h => h.1.cell 3
  have z4 : ∀ w' : World, (Blk w' w3.heap.size 25 [.int .i64 2, .int .i64 3, .int .u64 9, .int .i64 5, .slice A3 1 c3] ∧ Blk w' w6.heap.size 25 [.int .i64 1, .int .i64 1, .int .u64 1, .int .i64 (-9223372036854775808), .slice none 0 0]) → w'.cell? ⟨w3.heap.size, 4, none⟩ = some (.slice A3 1 c3) := fun w' h => h.1.cell 4
  have y0 : ∀ w' : World, (Blk w' w3.heap.size 25 [.int .i64 2, .int .i64 3, .int .u64 9, .int .i64 5, .slice A3 1 c3] ∧ Blk w' w6.heap.size 25 [.int .i64 1, .int .i64 1, .int .u64 1, .int .i64 (-9223372036854775808), .slice none 0 0]) → w'.cell? ⟨w6.heap.size, 0, none⟩ = some (.int .i64 1) := fun w' h => h.2.cell 0
  have y1 : ∀ w' : World, (Blk w' w3.heap.size 25 [.int .i64 2, .int .i64 3, .int .u64 9, .int .i64 5, .slice A3 1 c3] ∧ Blk w' w6.heap.size 25 [.int .i64 1, .int .i64 1, .int .u64 1, .int .i64 (-9223372036854775808), .slice none 0 0]) → w'.cell? ⟨w6.heap.size, 1, none⟩ = some (.int .i64 1) := fun w' h => h.2.cell 1
  have y2 : ∀ w' : World, (Blk w' w3.heap.size 25 [.int .i64 2, .int .i64 3, .int .u64 9, .int .i64 5, .slice A3 1 c3] ∧ Blk w' w6.heap.size 25 [.int .i64 1, .int .i64 1, .int .u64 1, .int .i64 (-9223372036854775808), .slice none 0 0]) → w'.cell? ⟨w6.heap.size, 2, none⟩ = some (.int .u64 1) := fun w' h => h.2.cell 2
  have y3 : ∀ w' : World, (Blk w' w3.heap.size 25 [.int .i64 2, .int .i64 3, .int .u64 9, .int .i64 5, .slice A3 1 c3] ∧ Blk w' w6.heap.size 25 [.int .i64 1, .int .i64 1, .int .u64 1, .int .i64 (-9223372036854775808), .slice none 0 0]) → w'.cell? ⟨w6.heap.size, 3, none⟩ = some (.int .i64 (-9223372036854775808)) := fun w' h => h.2.cell 3
  have y4 : ∀ w' : World, (Blk w' w3.heap.size 25 [.int .i64 2, .int .i64 3, .int .u64 9, .int .i64 5, .slice A3 1 c3] ∧ Blk w' w6.heap.size 25 [.int .i64 1, .int .i64 1, .int .u64 1, .int .i64 (-9223372036854775808), .slice none 0 0]) → w'.cell? ⟨w6.heap.size, 4, none⟩ = some (.slice none 0 0) := fun w' h => h.2.cell 4
  refine wp_region_N (fun w' => Blk w' w3.heap.size 25 [.int .i64 2, .int .i64 3, .int .u64 9, .int .i64 5, .slice A3 1 c3] ∧ Blk w' w6.heap.size 25 [.int .i64 1, .int .i64 1, .int .u64 1, .int .i64 (-9223372036854775808), .slice none 0 0]) 100 (by kernel_rfl) ?_
  have hS0 : (fun w' => Blk w' w3.heap.size 25 [.int .i64 2, .int .i64 3, .int .u64 9, .int .i64 5, .slice A3 1 c3] ∧ Blk w' w6.heap.size 25 [.int .i64 1, .int .i64 1, .int .u64 1, .int .i64 (-9223372036854775808), .slice none 0 0]) X6.drew := ⟨hk8.drew, hn6.drew⟩
  apply wpAnyN_takeG 0 (by kernel_rfl) rfl (fun _ _ _ h => h) (by kernel_rfl) hS0
  · intro w' hS'
    go_simp; exact ⟨rfl, rfl⟩
  (try simp only [Act.put]); (try simp only [List.setIfInBounds_toArray]); (try simp only [List.set])
  apply wpAnyN_takeG 1 (by kernel_rfl) rfl (fun _ _ _ h => h) (by kernel_rfl) hS0
  · intro w' hS'
    go_simp; exact ⟨rfl, rfl⟩
  (try simp only [Act.put]); (try simp only [List.setIfInBounds_toArray]); (try simp only [List.set])
  apply wpAnyN_takeG 2 (by kernel_rfl) rfl (fun _ _ _ h => h) (by kernel_rfl) hS0
  · intro w' hS'
    go_simp; exact ⟨rfl, rfl⟩
  (try simp only [Act.put]); (try simp only [List.setIfInBounds_toArray]); (try simp only [List.set])
  apply wpAnyN_takeG 3 (by kernel_rfl) rfl (fun _ _ _ h => h) (by kernel_rfl) hS0
  · intro w' hS'
    go_simp; exact ⟨rfl, rfl⟩
  (try simp only [Act.put]); (try simp only [List.setIfInBounds_toArray]); (try simp only [List.set])
  apply wpAnyN_takeG 4 (by kernel_rfl) rfl (fun _ _ _ h => h) (by kernel_rfl) hS0
  · intro w' hS'
    go_simp; exact ⟨rfl, rfl⟩
  (try simp only [Act.put]); (try simp only [List.setIfInBounds_toArray]); (try simp only [List.set])
  apply wpAnyN_takeG 5 (by kernel_rfl) rfl (fun _ _ _ h => h) (by kernel_rfl) hS0
  · intro w' hS'
    go_simp; exact ⟨rfl, rfl⟩
  (try simp only [Act.put]); (try simp only [List.setIfInBounds_toArray]); (try simp only [List.set])
  apply wpAnyN_takeG 6 (by kernel_rfl) rfl (fun _ _ _ h => h) (by kernel_rfl) hS0
  · intro w' hS'
    go_simp; exact ⟨rfl, rfl⟩
  (try simp only [Act.put]); (try simp only [List.setIfInBounds_toArray]); (try simp only [List.set])
  apply wpAnyN_takeG 7 (by kernel_rfl) rfl (fun _ _ _ h => h) (by kernel_rfl) hS0
  · intro w' hS'
    go_simp; exact ⟨rfl, rfl⟩
  (try simp only [Act.put]); (try simp only [List.setIfInBounds_toArray]); (try simp only [List.set])
  refine wpAnyN_runG 8 (by kernel_rfl) rfl (by kernel_rfl) (fun K hK => ?_)
  go_simp
  refine (vSmallMan _).mono ?_
  rintro e wa ⟨Aa, rfl, hsa, hba⟩
  have hSa : (fun w' => Blk w' w3.heap.size 25 [.int .i64 2, .int .i64 3, .int .u64 9, .int .i64 5, .slice A3 1 c3] ∧ Blk w' w6.heap.size 25 [.int .i64 1, .int .i64 1, .int .u64 1, .int .i64 (-9223372036854775808), .slice none 0 0]) wa := ⟨hk8.drew.below hba s3, hn6.drew.below hba s6⟩
  have howna := own_below (w := X6.drew) hown9 hba
  have hb10 : Below w.heap.size w wa := hb09.drew.trans (hba.mono hb09.size)
  have s3a := hSa.1.lt; have s6a := hSa.2.lt
  refine hK _ _ (fun _ => hSa) ?_
  clear hK K
  (try simp only [Act.put]); (try simp only [List.setIfInBounds_toArray]); (try simp only [List.set])
  refine wpAnyN_runG 9 (by kernel_rfl) rfl (by kernel_rfl) (fun K hK => ?_)
  go_simp
  refine (rSame smallMan A3 Aa c3 1 wa.heap.size wa (Row.of_own howna) hsa (Nat.le_refl _) (by simp [smallMan])).mono ?_
  rintro e wb ⟨rfl, hbb⟩
  have hSb : (fun w' => Blk w' w3.heap.size 25 [.int .i64 2, .int .i64 3, .int .u64 9, .int .i64 5, .slice A3 1 c3] ∧ Blk w' w6.heap.size 25 [.int .i64 1, .int .i64 1, .int .u64 1, .int .i64 (-9223372036854775808), .slice none 0 0]) wb := ⟨hSa.1.below hbb s3a, hSa.2.below hbb s6a⟩
  have hb11 : Below w.heap.size w wb := hb10.trans (hbb.mono hb10.size)
  have s3b := hSb.1.lt; have s6b := hSb.2.lt
  refine hK _ _ (fun _ => hSb) ?_
  clear hK K
  (try simp only [Act.put]); (try simp only [List.setIfInBounds_toArray]); (try simp only [List.set])
  apply wpAnyN_takeG 10 (by kernel_rfl) rfl (fun _ _ _ h => h) (by kernel_rfl) hSb
  · intro w' hS'
    go_simp; exact ⟨rfl, rfl⟩
  (try simp only [Act.put]); (try simp only [List.setIfInBounds_toArray]); (try simp only [List.set])
  apply wpAnyN_takeG 11 (by kernel_rfl) rfl (fun _ _ _ h => h) (by kernel_rfl) hSb
  · intro w' hS'
    go_simp; exact ⟨rfl, rfl⟩
  (try simp only [Act.put]); (try simp only [List.setIfInBounds_toArray]); (try simp only [List.set])
  apply wpAnyN_takeG 12 (by kernel_rfl) rfl (fun _ _ _ h => h) (by kernel_rfl) hSb
  · intro w' hS'
    go_simp; exact ⟨rfl, rfl⟩
  (try simp only [Act.put]); (try simp only [List.setIfInBounds_toArray]); (try simp only [List.set])
  apply wpAnyN_takeG 13 (by kernel_rfl) rfl (fun _ _ _ h => h) (by kernel_rfl) hSb
  · intro w' hS'
    go_simp; exact ⟨rfl, rfl⟩
  (try simp only [Act.put]); (try simp only [List.setIfInBounds_toArray]); (try simp only [List.set])
  apply wpAnyN_takeG 14 (by kernel_rfl) rfl (fun _ _ _ h => h) (by kernel_rfl) hSb
  · intro w' hS'
    go_simp; exact ⟨rfl, rfl⟩
  (try simp only [Act.put]); (try simp only [List.setIfInBounds_toArray]); (try simp only [List.set])
  apply wpAnyN_takeG 15 (by kernel_rfl) rfl (fun _ _ _ h => h) (by kernel_rfl) hSb
  · intro w' hS'
    go_simp; exact ⟨rfl, rfl⟩
  (try simp only [Act.put]); (try simp only [List.setIfInBounds_toArray]); (try simp only [List.set])
  apply wpAnyN_takeG 16 (by kernel_rfl) rfl (fun _ _ _ h => h) (by kernel_rfl) hSb
  · intro w' hS'
    go_simp; exact ⟨rfl, rfl⟩
  (try simp only [Act.put]); (try simp only [List.setIfInBounds_toArray]); (try simp only [List.set])
  apply wpAnyN_takeG 17 (by kernel_rfl) rfl (fun _ _ _ h => h) (by kernel_rfl) hSb
  · intro w' hS'
    go_simp; exact ⟨rfl, rfl⟩
  (try simp only [Act.put]); (try simp only [List.setIfInBounds_toArray]); (try simp only [List.set])
  apply wpAnyN_takeG 18 (by kernel_rfl) rfl (fun _ _ _ h => h) (by kernel_rfl) hSb
  · intro w' hS'
    go_simp; exact ⟨rfl, rfl⟩
  (try simp only [Act.put]); (try simp only [List.setIfInBounds_toArray]); (try simp only [List.set])
  apply wpAnyN_takeG 19 (by kernel_rfl) rfl (fun _ _ _ h => h) (by kernel_rfl) hSb
  · intro w' hS'
    go_simp; exact ⟨rfl, rfl⟩
  (try simp only [Act.put]); (try simp only [List.setIfInBounds_toArray]); (try simp only [List.set])
  apply wpAnyN_takeG 20 (by kernel_rfl) rfl (fun _ _ _ h => h) (by kernel_rfl) hSb
  · intro w' hS'
    go_simp; exact ⟨rfl, rfl⟩
  (try simp only [Act.put]); (try simp only [List.setIfInBounds_toArray]); (try simp only [List.set])
  refine wpAnyN_runG 21 (by kernel_rfl) rfl (by kernel_rfl) (fun K hK => ?_)
  go_simp
  refine (rFirst _).mono ?_
  rintro e wc ⟨rfl, hbc⟩
  have hSc : (fun w' => Blk w' w3.heap.size 25 [.int .i64 2, .int .i64 3, .int .u64 9, .int .i64 5, .slice A3 1 c3] ∧ Blk w' w6.heap.size 25 [.int .i64 1, .int .i64 1, .int .u64 1, .int .i64 (-9223372036854775808), .slice none 0 0]) wc := ⟨hSb.1.below hbc s3b, hSb.2.below hbc s6b⟩
  have hb12 : Below w.heap.size w wc := hb11.trans (hbc.mono hb11.size)
  have s3c := hSc.1.lt; have s6c := hSc.2.lt
  refine hK _ _ (fun _ => hSc) ?_
  clear hK K
  (try simp only [Act.put]); (try simp only [List.setIfInBounds_toArray]); (try simp only [List.set])
  refine wpAnyN_runG 22 (by kernel_rfl) rfl (by kernel_rfl) (fun K hK => ?_)
  go_simp
  refine (rSame firstMan none none 0 0 wc.heap.size wc Row.none_ Row.none_ (Nat.le_refl _) (by simp [firstMan])).mono ?_
  rintro e wd ⟨rfl, hbd⟩
  have hSd : (fun w' => Blk w' w3.heap.size 25 [.int .i64 2, .int .i64 3, .int .u64 9, .int .i64 5, .slice A3 1 c3] ∧ Blk w' w6.heap.size 25 [.int .i64 1, .int .i64 1, .int .u64 1, .int .i64 (-9223372036854775808), .slice none 0 0]) wd := ⟨hSc.1.below hbd s3c, hSc.2.below hbd s6c⟩
  have hb13 : Below w.heap.size w wd := hb12.trans (hbd.mono hb12.size)
  have s3d := hSd.1.lt; have s6d := hSd.2.lt
  refine hK _ _ (fun _ => hSd) ?_
  clear hK K
  (try simp only [Act.put]); (try simp only [List.setIfInBounds_toArray]); (try simp only [List.set])
  apply wpAnyN_takeG 23 (by kernel_rfl) rfl (fun _ _ _ h => h) (by kernel_rfl) hSd
  · intro w' hS'
    go_simp; exact ⟨rfl, rfl⟩
  (try simp only [Act.put]); (try simp only [List.setIfInBounds_toArray]); (try simp only [List.set])
  apply wpAnyN_takeG 24 (by kernel_rfl) rfl (fun _ _ _ h => h) (by kernel_rfl) hSd
  · intro w' hS'
    go_simp; exact ⟨rfl, rfl⟩
  (try simp only [Act.put]); (try simp only [List.setIfInBounds_toArray]); (try simp only [List.set])
  apply wpAnyN_takeG 26 (by kernel_rfl) rfl (fun _ _ _ h => h) (by kernel_rfl) hSd
  · intro w' hS'
    go_simp; exact ⟨rfl, rfl⟩
  (try simp only [Act.put]); (try simp only [List.setIfInBounds_toArray]); (try simp only [List.set])
  refine wpAnyN_runG 25 (by kernel_rfl) rfl (by kernel_rfl) (fun K hK => ?_)
  go_simp
  refine (vFirst _).mono ?_
  rintro e we ⟨rfl, hbe⟩
  have hSe : (fun w' => Blk w' w3.heap.size 25 [.int .i64 2, .int .i64 3, .int .u64 9, .int .i64 5, .slice A3 1 c3] ∧ Blk w' w6.heap.size 25 [.int .i64 1, .int .i64 1, .int .u64 1, .int .i64 (-9223372036854775808), .slice none 0 0]) we := ⟨hSd.1.below hbe s3d, hSd.2.below hbe s6d⟩
  have hb14 : Below w.heap.size w we := hb13.trans (hbe.mono hb13.size)
  have s3e := hSe.1.lt; have s6e := hSe.2.lt
  refine hK _ _ (fun _ => hSe) ?_
  clear hK K
  (try simp only [Act.put]); (try simp only [List.setIfInBounds_toArray]); (try simp only [List.set])
  refine wpAnyN_runG 27 (by kernel_rfl) rfl (by kernel_rfl) (fun K hK => ?_)
  go_simp
  refine (rSame firstMan none none 0 0 we.heap.size we Row.none_ Row.none_ (Nat.le_refl _) (by simp [firstMan])).mono ?_
  rintro e wf ⟨rfl, hbf⟩
  have hSf : (fun w' => Blk w' w3.heap.size 25 [.int .i64 2, .int .i64 3, .int .u64 9, .int .i64 5, .slice A3 1 c3] ∧ Blk w' w6.heap.size 25 [.int .i64 1, .int .i64 1, .int .u64 1, .int .i64 (-9223372036854775808), .slice none 0 0]) wf := ⟨hSe.1.below hbf s3e, hSe.2.below hbf s6e⟩
  have hb15 : Below w.heap.size w wf := hb14.trans (hbf.mono hb14.size)
  refine hK _ _ (fun _ => hSf) ?_
  clear hK K
  (try simp only [Act.put]); (try simp only [List.setIfInBounds_toArray]); (try simp only [List.set])
  apply wpAnyN_takeG 28 (by kernel_rfl) rfl (fun _ _ _ h => h) (by kernel_rfl) hSf
  · intro w' hS'
    go_simp; exact ⟨rfl, rfl⟩
  (try simp only [Act.put]); (try simp only [List.setIfInBounds_toArray]); (try simp only [List.set])
  apply wpAnyN_takeG 29 (by kernel_rfl) rfl (fun _ _ _ h => h) (by kernel_rfl) hSf
  · intro w' hS'
    go_simp; exact ⟨rfl, rfl⟩
  (try simp only [Act.put]); (try simp only [List.setIfInBounds_toArray]); (try simp only [List.set])
  refine wpAnyN_done (by kernel_rfl) ?_ _
  go_wp2
  go_ret
  exact ⟨rfl, hb15⟩
end Go.Proofs.Ytmddgimadlmacaa
