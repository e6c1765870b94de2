import Derived.Test.YtmddgimadlmacaaSimW
import Derived.BigQuiet
/-! garnerlaw05.all: a disk and the document's hold the same -/
namespace Go.Proofs.Ytmddgimadlmacaa
open Go.RowKit Garner
set_option maxRecDepth 100000 in
set_option maxHeartbeats 4000000 in
theorem vAllNil (w : World) : Calls Try.prog 33 #[.pointer none, .pointer none] w fun e w' => e = .returned (.bool true) ∧ Below w.heap.size w w' := by
  go_enter Try.func33, Try.ntmps33
  go_wp2_with fail
  refine (pDownNil w).mono ?_
  rintro e w1 ⟨rfl, rfl⟩
  go_wp2
  go_ret
  exact ⟨rfl, Below.refl _ _⟩
section
variable {w : World} {g mp gr fb : Nat} {d b : AD}
set_option maxRecDepth 100000 in
set_option maxHeartbeats 4000000 in
theorem vAllDown (hd : DiskO (fun _ => True) w g mp d) (hb : RefD w gr fb b) (hs : Sim d b) (hdn : b.dn = true) :
    Calls Try.prog 33 #[.pointer (some ⟨g, 0, none⟩), .pointer (some ⟨gr, 0, none⟩)] w fun e w' => e = .returned (.bool true) ∧ Below w.heap.size w w' := by
  obtain ⟨rs, h1, h2⟩ := hb.ex
  obtain ⟨A, c, k1, _, _⟩ := h1.own
  rw [hdn] at k1
  have q2 := k1.cell 2
  have hdd := hs.dn.trans hdn
  have ha := hd.a (base := 0) (fun _ _ => Nat.zero_le _) (Nat.zero_le _) (Nat.zero_le _) (Nat.zero_le _)
  clear h1 h2 k1 hs hb hdn
  go_enter Try.func33, Try.ntmps33
  go_wp2_with fail
  refine (aDown_calls (h := ha)).mono ?_
  rintro e w1 ⟨rfl, hb1⟩
  rw [hdd]
  go_wp2
  go_ret
  exact ⟨rfl, hb1⟩
end
end Go.Proofs.Ytmddgimadlmacaa
/-! garnerlaw05.all: a disk that is up -/
namespace Go.Proofs.Ytmddgimadlmacaa
open Go.RowKit Garner
section
variable {w : World} {g mp gr fb : Nat} {d b : AD}
set_option maxRecDepth 100000 in
set_option maxHeartbeats 4000000 in
theorem vAllUp (hd : DiskO (fun _ => True) w g mp d) (hb : RefD w gr fb b) (hs : Sim d b) (hok : Good b.fs) (hdn : b.dn = false) (hn : b.fs.length * 16 ≤ 140737488351232) :
    Calls Try.prog 33 #[.pointer (some ⟨g, 0, none⟩), .pointer (some ⟨gr, 0, none⟩)] w fun e w' => e = .returned (.bool true) ∧ Below w.heap.size w w' := by
  obtain ⟨rs, h1, h2⟩ := hb.ex
  rw [hdn] at h1
  obtain ⟨A, c, k1, _, _⟩ := h1.own
  have q2 := k1.cell 2
  have hdd := hs.dn.trans hdn
  have ha := hd.a (base := 0) (fun _ _ => Nat.zero_le _) (Nat.zero_le _) (Nat.zero_le _) (Nat.zero_le _)
  have hrl : b.fs.length = rs.length := by rw [← h2, abs_len]
  have hal : aList d = (rs.map (·.1), 0) := by
    rw [hs.list]; unfold bList; rw [hdn, ← h2, abs_keys]; rfl
  have hrd : ∀ (i : Nat) (hi : i < rs.length), aRead rs[i].1 d = (rs[i].2.data, 0) := fun i hi => by
    have hm : (rs[i].1, (rs[i].2.data, rs[i].2.synced)) ∈ b.fs := by
      rw [← h2]; unfold Files.abs
      exact List.mem_map.2 ⟨rs[i], List.getElem_mem hi, rfl⟩
    have hg : aget rs[i].1 b.fs = some (rs[i].2.data, rs[i].2.synced) := aget_of_mem (asc_nodup hs.asc) hm
    have hnm := hok rs[i].1 (by rw [hg]; rfl)
    rw [hs.read]
    unfold aRead
    have h0 : dmay [nmS rs[i].1] b.dn = 0 := by unfold dmay; rw [hdn]; simp [hnm]
    rw [if_neg (by rw [h0]; simp), hg]
  have hln : d.fs.length * 16 ≤ 140737488351232 := by rw [hs.len]; exact hn
  have hL := aList_calls (h := ha) (hn := hln)
  rw [hal] at hL
  simp only [List.length_map] at hL
  have Hrd := Lib.hid hrd
  have hrl2 : rs.length * 16 ≤ 140737488351232 := by omega
  clear hb hs hok hdn hn k1 hdd hd hal hrd hrl hln
  go_enter Try.func33, Try.ntmps33
  go_wp2_with fail
  refine hL.mono ?_
  rintro e w1 ⟨A1, c1, rfl, own1, hb1⟩
  have ha1 := ha.below hb1
  have h11 := h1.below hb1
  obtain ⟨A2, c2, k2, _, hc2, hA2⟩ := h11.ex
  have p0 := k2.cell 0
  have r1 := Row.of_own own1
  clear hL q2 ha h1 own1 k2
  go_wp2_with fail
  go_loopw [7] (fun v wr => ∃ i : Nat, i ≤ rs.length ∧ v = .int .i64 i ∧ Below w1.heap.size w1 wr) (fun v _ => rs.length - (intOf v).toNat)
  case atStart => exact ⟨0, Nat.zero_le _, rfl, Below.refl _ _⟩
  case round =>
    obtain ⟨i, hi, rfl, hbel⟩ := hrel
    by_cases hlt : i < rs.length
    · obtain ⟨bn, on, rfl, hbn, hcn⟩ := r1.at_ (k := i) hlt
      have hbn1 : bn < w1.heap.size := hbn
      have n0 : w1.cell? ⟨bn, on + i, none⟩ = some (.string (nmS rs[i].1)) := by rw [hcn i (by simpa using hlt)]; simp [strV, nmS]
      obtain ⟨c3, d0, hcc, dn0, dd0, _, _⟩ := h11.at_ hlt
      have hf := h11.files _ (List.getElem_mem hlt)
      have hgl := h11.glt.1; have hfl := h11.lt
      have hrdi := Hrd.out i hlt
      have har := aRead_calls (nm := rs[i].1) (h := ha1.below hbel)
      rw [hrdi] at har
      simp only at har
      obtain ⟨nm, hnm⟩ : ∃ x, x = rs[i].1 := ⟨_, rfl⟩
      obtain ⟨fe, hfe⟩ : ∃ x, x = rs[i].2 := ⟨_, rfl⟩
      rw [← hnm] at n0 dn0 har
      rw [← hfe] at dd0 hf har
      clear hnm hfe hcn hrdi
      have nr : wr.cell? ⟨bn, on + i, none⟩ = some (.string (nmS nm)) := (hbel.cell (p := ⟨bn, on + i, none⟩) hbn1).trans n0
      have hi0 : (0 : Int) ≤ (i : Int) := by omega
      have hilt : (i : Int) < (rs.length : Int) := by omega
      go_wp2_with fail
      refine har.mono ?_
      rintro e w3 ⟨A3, c4, rfl, own3, hb3⟩
      have hbel3 : Below w1.heap.size w1 w3 := hbel.trans (hb3.mono hbel.size)
      have tr : ∀ w', Below w3.heap.size w3 w' → Below w1.heap.size w1 w' := fun w' h => hbel3.trans (h.mono hbel3.size)
      have m0 : ∀ w', Below w3.heap.size w3 w' → w'.cell? ⟨bn, on + i, none⟩ = some (.string (nmS nm)) := fun w' h => ((tr w' h).cell (p := ⟨bn, on + i, none⟩) hbn1).trans n0
      have m1 : ∀ w', Below w3.heap.size w3 w' → w'.cell? ⟨gr, 0, none⟩ = some (.slice (some ⟨fb, 0, none⟩) rs.length c3) := fun w' h => ((tr w' h).cell (p := ⟨gr, 0, none⟩) hgl).trans d0
      have m2 : ∀ w', Below w3.heap.size w3 w' → w'.cell? ⟨fb, i * 3, none⟩ = some (.string (nmS nm)) := fun w' h => ((tr w' h).cell (p := ⟨fb, i * 3, none⟩) hfl).trans dn0
      have m3 : ∀ w', Below w3.heap.size w3 w' → w'.cell? ⟨fb, i * 3 + 1, none⟩ = some (.slice fe.A fe.data.length fe.c) := fun w' h => ((tr w' h).cell (p := ⟨fb, i * 3 + 1, none⟩) hfl).trans dd0
      have cv1 : ∀ w', Below w3.heap.size w3 w' → (convert 26 9 (.slice A3 fe.data.length c4)).run Try.prog w' = .ok (.string (nmS fe.data)) w' := fun w' h => run_str ((Row.of_own own3).below h)
      have cv2 : ∀ w', Below w3.heap.size w3 w' → (convert 26 9 (.slice fe.A fe.data.length fe.c)).run Try.prog w' = .ok (.string (nmS fe.data)) w' := fun w' h => run_str (hf.row.below (tr w' h))
      have hT : Below w3.heap.size w3 w3.drew := (Below.refl _ _).drew
      clear n0 d0 dn0 dd0 nr own3
      go_upto_region 12 with fail
      refine wp_region_N (fun w' => Below w3.heap.size w3 w') 100 (by kernel_rfl) ?_
      apply wpAnyN_takeL 0 (by kernel_rfl) rfl (fun _ _ _ h => h) (by kernel_rfl) hT
      · intro w' hS'
        go_simp; exact ⟨rfl, rfl⟩
      (try simp only [Act.put]); (try simp only [List.setIfInBounds_toArray]); (try simp only [List.set])
      apply wpAnyN_takeL 1 (by kernel_rfl) rfl (fun _ _ _ h => h) (by kernel_rfl) hT
      · intro w' hS'
        go_simp; exact ⟨rfl, rfl⟩
      (try simp only [Act.put]); (try simp only [List.setIfInBounds_toArray]); (try simp only [List.set])
      apply wpAnyN_takeL 2 (by kernel_rfl) rfl (fun _ _ _ h => h) (by kernel_rfl) hT
      · intro w' hS'
        go_simp; exact ⟨rfl, rfl⟩
      (try simp only [Act.put]); (try simp only [List.setIfInBounds_toArray]); (try simp only [List.set])
      apply wpAnyN_takeL 3 (by kernel_rfl) rfl (fun _ _ _ h => h) (by kernel_rfl) hT
      · intro w' hS'
        go_simp; exact ⟨rfl, rfl⟩
      (try simp only [Act.put]); (try simp only [List.setIfInBounds_toArray]); (try simp only [List.set])
      apply wpAnyN_takeL 4 (by kernel_rfl) rfl (fun _ _ _ h => h) (by kernel_rfl) hT
      · intro w' hS'
        go_simp; exact ⟨rfl, rfl⟩
      (try simp only [Act.put]); (try simp only [List.setIfInBounds_toArray]); (try simp only [List.set])
      apply wpAnyN_takeL 5 (by kernel_rfl) rfl (fun _ _ _ h => h) (by kernel_rfl) hT
      · intro w' hS'
        go_simp; exact ⟨rfl, rfl⟩
      (try simp only [Act.put]); (try simp only [List.setIfInBounds_toArray]); (try simp only [List.set])
      apply wpAnyN_takeL 6 (by kernel_rfl) rfl (fun _ _ _ h => h) (by kernel_rfl) hT
      · intro w' hS'
        go_simp; exact ⟨rfl, rfl⟩
      (try simp only [Act.put]); (try simp only [List.setIfInBounds_toArray]); (try simp only [List.set])
      apply wpAnyN_takeL 7 (by kernel_rfl) rfl (fun _ _ _ h => h) (by kernel_rfl) hT
      · intro w' hS'
        go_simp; exact ⟨rfl, rfl⟩
      (try simp only [Act.put]); (try simp only [List.setIfInBounds_toArray]); (try simp only [List.set])
      apply wpAnyN_takeL 8 (by kernel_rfl) rfl (fun _ _ _ h => h) (by kernel_rfl) hT
      · intro w' hS'
        go_simp; exact ⟨rfl, rfl⟩
      (try simp only [Act.put]); (try simp only [List.setIfInBounds_toArray]); (try simp only [List.set])
      apply wpAnyN_takeL 9 (by kernel_rfl) rfl (fun _ _ _ h => h) (by kernel_rfl) hT
      · intro w' hS'
        go_simp; exact ⟨rfl, rfl⟩
      (try simp only [Act.put]); (try simp only [List.setIfInBounds_toArray]); (try simp only [List.set])
      apply wpAnyN_takeL 10 (by kernel_rfl) rfl (fun _ _ _ h => h) (by kernel_rfl) hT
      · intro w' hS'
        go_simp; exact ⟨rfl, rfl⟩
      (try simp only [Act.put]); (try simp only [List.setIfInBounds_toArray]); (try simp only [List.set])
      apply wpAnyN_takeL 11 (by kernel_rfl) rfl (fun _ _ _ h => h) (by kernel_rfl) hT
      · intro w' hS'
        go_simp; exact ⟨rfl, rfl⟩
      (try simp only [Act.put]); (try simp only [List.setIfInBounds_toArray]); (try simp only [List.set])
      apply wpAnyN_takeL 12 (by kernel_rfl) rfl (fun _ _ _ h => h) (by kernel_rfl) hT
      · intro w' hS'
        go_simp; exact ⟨rfl, rfl⟩
      (try simp only [Act.put]); (try simp only [List.setIfInBounds_toArray]); (try simp only [List.set])
      apply wpAnyN_takeL 13 (by kernel_rfl) rfl (fun _ _ _ h => h) (by kernel_rfl) hT
      · intro w' hS'
        go_simp; exact ⟨rfl, rfl⟩
      (try simp only [Act.put]); (try simp only [List.setIfInBounds_toArray]); (try simp only [List.set])
      apply wpAnyN_takeL 14 (by kernel_rfl) rfl (fun _ _ _ h => h) (by kernel_rfl) hT
      · intro w' hS'
        go_simp; exact ⟨rfl, rfl⟩
      (try simp only [Act.put]); (try simp only [List.setIfInBounds_toArray]); (try simp only [List.set])
      apply wpAnyN_takeL 15 (by kernel_rfl) rfl (fun _ _ _ h => h) (by kernel_rfl) hT
      · intro w' hS'
        go_simp; exact ⟨rfl, rfl⟩
      (try simp only [Act.put]); (try simp only [List.setIfInBounds_toArray]); (try simp only [List.set])
      apply wpAnyN_takeL 16 (by kernel_rfl) rfl (fun _ _ _ h => h) (by kernel_rfl) hT
      · intro w' hS'
        go_simp; exact ⟨rfl, rfl⟩
      (try simp only [Act.put]); (try simp only [List.setIfInBounds_toArray]); (try simp only [List.set])
      apply wpAnyN_takeL 17 (by kernel_rfl) rfl (fun _ _ _ h => h) (by kernel_rfl) hT
      · intro w' hS'
        go_simp; exact ⟨rfl, rfl⟩
      (try simp only [Act.put]); (try simp only [List.setIfInBounds_toArray]); (try simp only [List.set])
      apply wpAnyN_takeL 18 (by kernel_rfl) rfl (fun _ _ _ h => h) (by kernel_rfl) hT
      · intro w' hS'
        go_simp; exact ⟨rfl, rfl⟩
      (try simp only [Act.put]); (try simp only [List.setIfInBounds_toArray]); (try simp only [List.set])
      apply wpAnyN_takeL 19 (by kernel_rfl) rfl (fun _ _ _ h => h) (by kernel_rfl) hT
      · intro w' hS'
        go_simp; exact ⟨rfl, rfl⟩
      (try simp only [Act.put]); (try simp only [List.setIfInBounds_toArray]); (try simp only [List.set])
      apply wpAnyN_takeL 20 (by kernel_rfl) rfl (fun _ _ _ h => h) (by kernel_rfl) hT
      · intro w' hS'
        go_simp; exact ⟨rfl, rfl⟩
      (try simp only [Act.put]); (try simp only [List.setIfInBounds_toArray]); (try simp only [List.set])
      apply wpAnyN_takeL 21 (by kernel_rfl) rfl (fun _ _ _ h => h) (by kernel_rfl) hT
      · intro w' hS'
        go_simp; exact ⟨rfl, rfl⟩
      (try simp only [Act.put]); (try simp only [List.setIfInBounds_toArray]); (try simp only [List.set])
      apply wpAnyN_takeL 22 (by kernel_rfl) rfl (fun _ _ _ h => h) (by kernel_rfl) hT
      · intro w' hS'
        go_simp; exact ⟨rfl, rfl⟩
      (try simp only [Act.put]); (try simp only [List.setIfInBounds_toArray]); (try simp only [List.set])
      apply wpAnyN_takeL 23 (by kernel_rfl) rfl (fun _ _ _ h => h) (by kernel_rfl) hT
      · intro w' hS'
        go_simp; exact ⟨rfl, rfl⟩
      (try simp only [Act.put]); (try simp only [List.setIfInBounds_toArray]); (try simp only [List.set])
      apply wpAnyN_takeL 24 (by kernel_rfl) rfl (fun _ _ _ h => h) (by kernel_rfl) hT
      · intro w' hS'
        go_simp; exact ⟨rfl, rfl⟩
      (try simp only [Act.put]); (try simp only [List.setIfInBounds_toArray]); (try simp only [List.set])
      apply wpAnyN_takeL 25 (by kernel_rfl) rfl (fun _ _ _ h => h) (by kernel_rfl) hT
      · intro w' hS'
        go_simp; exact ⟨rfl, rfl⟩
      (try simp only [Act.put]); (try simp only [List.setIfInBounds_toArray]); (try simp only [List.set])
      apply wpAnyN_takeL 26 (by kernel_rfl) rfl (fun _ _ _ h => h) (by kernel_rfl) hT
      · intro w' hS'
        go_simp; exact ⟨rfl, rfl⟩
      (try simp only [Act.put]); (try simp only [List.setIfInBounds_toArray]); (try simp only [List.set])
      apply wpAnyN_takeL 27 (by kernel_rfl) rfl (fun _ _ _ h => h) (by kernel_rfl) hT
      · intro w' hS'
        go_simp; exact ⟨rfl, rfl⟩
      (try simp only [Act.put]); (try simp only [List.setIfInBounds_toArray]); (try simp only [List.set])
      apply wpAnyN_takeL 28 (by kernel_rfl) rfl (fun _ _ _ h => h) (by kernel_rfl) hT
      · intro w' hS'
        go_simp; exact ⟨rfl, rfl⟩
      (try simp only [Act.put]); (try simp only [List.setIfInBounds_toArray]); (try simp only [List.set])
      apply wpAnyN_takeL 29 (by kernel_rfl) rfl (fun _ _ _ h => h) (by kernel_rfl) hT
      · intro w' hS'
        go_simp; exact ⟨rfl, rfl⟩
      (try simp only [Act.put]); (try simp only [List.setIfInBounds_toArray]); (try simp only [List.set])
      apply wpAnyN_takeL 30 (by kernel_rfl) rfl (fun _ _ _ h => h) (by kernel_rfl) hT
      · intro w' hS'
        go_simp; exact ⟨rfl, rfl⟩
      (try simp only [Act.put]); (try simp only [List.setIfInBounds_toArray]); (try simp only [List.set])
      refine wpAnyN_done (by kernel_rfl) ?_ _
      go_wp2
      go_roundw
      case rel => exact ⟨i + 1, by omega, by go_num, hbel3.trans (hT.mono hbel3.size)⟩
      case measure => simp [intOf]; omega
    · obtain rfl : i = rs.length := by omega
      go_wp2
      go_ret
      exact ⟨rfl, hb1.trans (hbel.mono hb1.size)⟩
end
end Go.Proofs.Ytmddgimadlmacaa
