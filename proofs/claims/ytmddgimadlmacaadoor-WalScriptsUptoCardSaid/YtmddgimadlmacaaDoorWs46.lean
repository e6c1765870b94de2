import Derived.Test.YtmddgimadlmacaaDoorWs44
import Derived.Test.YtmddgimadlmacaaDoorWs45
/-! layer 10: both logs alike, as plain data; sizes -/
namespace Go.Proofs.YtmddgimadlmacaaDoor
open Go.RowKit Garner

section
variable {d b : AD}
theorem Sim.wapp (h : Sim d b) (p : Bs) (L : WL) : (wApp p L d).1 = (rApp p L b).1 ∧ (wApp p L d).2.1 = (rApp p L b).2.1 ∧ Sim (wApp p L d).2.2 (rApp p L b).2.2 := by
  obtain ⟨h1, h2⟩ := h.append (walNm L.n) (frB p)
  unfold wApp rApp
  by_cases hp : 65536 < p.length
  · rw [if_pos hp, if_pos hp]; exact ⟨rfl, rfl, h⟩
  · rw [if_neg hp, if_neg hp]; exact ⟨h1, by rw [h1], h2⟩
theorem Sim.wsync (h : Sim d b) (L : WL) : (wSync L d).1 = (rSyn L b).1 ∧ Sim (wSync L d).2 (rSyn L b).2 := by
  unfold wSync rSyn
  split
  · exact h.sync _
  · exact ⟨rfl, h⟩
theorem Sim.wdrop : ∀ (k : Nat) (L : WL) {d b : AD}, Sim d b → (wDrop k L d).1 = (wDrop k L b).1 ∧ (wDrop k L d).2.1 = (wDrop k L b).2.1 ∧ Sim (wDrop k L d).2.2 (wDrop k L b).2.2
  | 0, L, d, b, h => ⟨rfl, rfl, h⟩
  | k + 1, L, d, b, h => by
    obtain ⟨h1, h2⟩ := h.delete (walNm L.first)
    rw [wDrop, wDrop, h1]
    split
    · exact ⟨rfl, rfl, h2⟩
    · exact Sim.wdrop k _ h2
theorem wScan_congr {d d' : AD} : ∀ (f n : Nat), (∀ m, n ≤ m → aRead (walNm m) d = aRead (walNm m) d') → wScan d f n = wScan d' f n
  | 0, n, _ => rfl
  | f + 1, n, h => by
    rw [wScan, wScan, h n (Nat.le_refl _), wScan_congr f (n + 1) (fun m hm => h m (by omega))]
theorem Sim.wopen (h : Sim d b) (n : Nat) : wOpen n d = wOpen n b := wScan_congr _ _ fun _ _ => h.read _
/-! sizes -/
def tot (fs : List (Bs × FileD)) : Nat := (fs.map fun q => q.2.1.length).sum
theorem tot_cons (q : Bs × FileD) (fs : List (Bs × FileD)) : tot (q :: fs) = q.2.1.length + tot fs := by simp [tot]
theorem tot_sput (nm : Bs) (f : FileD) : ∀ {fs : List (Bs × FileD)}, Asc fs → tot (sput nm f fs) + (fget nm fs).1.length = tot fs + f.1.length
  | [], _ => by rw [sput_nil, tot_cons]; simp [tot, fget, aget]
  | p :: r, h => by
    obtain ⟨a, v⟩ := p
    have hr : Asc r := (List.pairwise_cons.1 h).2
    have ih := tot_sput nm f hr
    rw [sput_cons]
    simp only
    by_cases e : a = nm
    · subst e
      rw [if_pos rfl, tot_cons, tot_cons]
      have : fget a ((a, v) :: r) = v := by unfold fget; simp [aget]
      rw [this]; simp only; omega
    · rw [if_neg e]
      have hg : fget nm ((a, v) :: r) = fget nm r := by
        unfold fget
        simp only [aget]
        rw [if_neg (fun h' => e h'.symm)]
      rw [hg]
      by_cases hlt : nm < a
      · rw [if_pos hlt]
        have hnone : fget nm r = ([], 0) := by
          unfold fget
          rw [aget_none (fun hm => ?_)]
          · rfl
          · obtain ⟨q, hq, rfl⟩ := List.mem_map.1 hm
            have h1 := (List.pairwise_cons.1 h).1 q hq
            exact absurd (List.lt_trans hlt h1) (List.lt_irrefl _)
        rw [tot_cons, tot_cons, hnone]; simp only [List.length_nil]; omega
      · rw [if_neg hlt, tot_cons, tot_cons]; simp only; omega
theorem tot_adel (nm : Bs) : ∀ fs : List (Bs × FileD), tot (adel nm fs) + (fget nm fs).1.length = tot fs
  | [] => by simp [adel, tot, fget, aget]
  | (a, v) :: r => by
    have ih := tot_adel nm r
    simp only [adel]
    by_cases e : nm = a
    · subst e
      rw [if_pos rfl, tot_cons]
      have : fget nm ((nm, v) :: r) = v := by unfold fget; simp [aget]
      rw [this]; simp only; omega
    · rw [if_neg e, tot_cons, tot_cons]
      have hg : fget nm ((a, v) :: r) = fget nm r := by
        unfold fget
        simp only [aget]
        rw [if_neg e]
      rw [hg]; simp only; omega
theorem get_le_tot (nm : Bs) (fs : List (Bs × FileD)) : (fget nm fs).1.length ≤ tot fs := by have := tot_adel nm fs; omega
theorem heldA_len : ∀ (f : Nat) (l : Bs) (i : Nat), i ≤ l.length → (heldA f l i).length * 5 + i ≤ l.length
  | 0, l, i, h => by simp [heldA, h]
  | f + 1, l, i, h => by
    cases hf : fread l i with
    | error k => rw [heldA_err hf]; simp [h]
    | ok r =>
      obtain ⟨p, k⟩ := r
      have hn := fread_next hf
      rw [heldA_ok hf]
      have := heldA_len f l k hn.2.1
      simp only [List.length_cons]; omega
theorem held_len (l : Bs) : (held l).length * 5 ≤ l.length := by have := heldA_len (l.length + 1) l 0 (Nat.zero_le _); exact this
theorem read_adel {nm nm' : Bs} (d : AD) (hn : (d.fs.map (·.1)).Nodup) (h : nm' ≠ nm) : aRead nm' { d with fs := adel nm d.fs } = aRead nm' d := by
  unfold aRead
  show (if dmay [nmS nm'] d.dn ≠ 0 then _ else match aget nm' (adel nm d.fs) with | none => _ | some f => _) = _
  rw [aget_adel' _ _ _ hn, if_neg h]
  rfl
theorem read_le (nm : Bs) (d : AD) : (aRead nm d).1.length ≤ (fget nm d.fs).1.length := by
  unfold aRead fget
  split
  · simp
  · cases aget nm d.fs with
    | none => simp
    | some f => exact Nat.le_refl _
theorem scan_len : ∀ (f n : Nat) (d : AD), (d.fs.map (·.1)).Nodup → (wScan d f n).2.2.length * 5 ≤ tot d.fs
  | 0, n, d, _ => by simp [wScan]
  | f + 1, n, d, hn => by
    have h1 := scan_len f (n + 1) { d with fs := adel (walNm n) d.fs } (nodup_adel hn)
    rw [← wScan_congr (d := d) f (n + 1) (fun m hm => (read_adel d hn (walNm_ne (by omega))).symm)] at h1
    have h2 := tot_adel (walNm n) d.fs
    have h3 := read_le (walNm n) d
    have h4 := held_len (aRead (walNm n) d).1
    rw [wScan]
    split
    · simp
    · split
      · simp
      · simp only [List.length_append]
        simp only at h1
        omega
/-- how large a disk may be -/
structure BdT (N : Nat) (fs : List (Bs × FileD)) : Prop where
  len : fs.length ≤ N
  tot : tot fs ≤ N * 1048576
theorem BdT.nil (N : Nat) : BdT N [] := ⟨Nat.zero_le _, by simp [Go.Proofs.YtmddgimadlmacaaDoor.tot]⟩
theorem BdT.mono {N : Nat} {fs : List (Bs × FileD)} (h : BdT N fs) : BdT (N + 1) fs := ⟨by have := h.len; omega, Nat.le_trans h.tot (Nat.mul_le_mul_right _ (Nat.le_succ N))⟩
theorem sput_lenT (nm : Bs) (f : FileD) : ∀ l : List (Bs × FileD), (sput nm f l).length ≤ l.length + 1
  | [] => by rw [sput_nil]; simp
  | p :: r => by
    rw [sput_cons]
    have := sput_lenT nm f r
    split
    · simp
    · split
      · simp
      · simp only [List.length_cons]; omega
theorem BdT.app {N : Nat} (h : BdT N b.fs) (ha : Asc b.fs) (nm data : Bs) (hd : data.length ≤ 1048576) : BdT (N + 1) (bAppend nm data b).2.fs := by
  unfold bAppend
  split
  · exact h.mono
  · split
    · exact h.mono
    · refine ⟨by have := sput_lenT nm ((fget nm b.fs).1 ++ data, (fget nm b.fs).2) b.fs; have := h.len; show (sput _ _ b.fs).length ≤ _; omega, ?_⟩
      have h1 := tot_sput nm ((fget nm b.fs).1 ++ data, (fget nm b.fs).2) ha
      have h2 := h.tot
      show Go.Proofs.YtmddgimadlmacaaDoor.tot (sput _ _ b.fs) ≤ _
      simp only [List.length_append] at h1
      rw [Nat.add_mul, Nat.one_mul]
      omega
theorem BdT.sync {N : Nat} (h : BdT N b.fs) (ha : Asc b.fs) (nm : Bs) : BdT (N + 1) (bSync nm b).2.fs := by
  unfold bSync
  split
  · exact h.mono
  · cases hg : aget nm b.fs with
    | none => exact h.mono
    | some f =>
      refine ⟨by have := sput_lenT nm (f.1, f.1.length) b.fs; have := h.len; show (sput _ _ b.fs).length ≤ _; omega, ?_⟩
      have h1 := tot_sput nm (f.1, f.1.length) ha
      have h2 := h.mono.tot
      have h3 : fget nm b.fs = f := by unfold fget; rw [hg]; rfl
      show Go.Proofs.YtmddgimadlmacaaDoor.tot (sput _ _ b.fs) ≤ _
      rw [h3] at h1
      simp only at h1
      omega
theorem BdT.delete {N : Nat} (h : BdT N b.fs) (nm : Bs) : BdT N (aDelete nm b).2.fs := by
  refine ⟨Nat.le_trans (del_len_le nm b) h.len, Nat.le_trans ?_ h.tot⟩
  unfold aDelete
  split
  · exact Nat.le_refl _
  · cases hg : aget nm b.fs with
    | none => exact Nat.le_refl _
    | some f => show Go.Proofs.YtmddgimadlmacaaDoor.tot (adel nm b.fs) ≤ _; have := tot_adel nm b.fs; omega
theorem BdT.drop {N : Nat} : ∀ (k : Nat) (L : WL) {b : AD}, BdT N b.fs → BdT N (wDrop k L b).2.2.fs
  | 0, _, _, h => h
  | k + 1, L, b, h => by
    rw [wDrop]
    split
    · exact h.delete _
    · exact BdT.drop k _ (h.delete _)
theorem BdT.arm {N : Nat} (h : BdT N b.fs) (n : Int) : BdT N (aArm n b).fs := by
  unfold aArm
  split
  · exact h
  · exact h
theorem BdT.restart {N : Nat} (h : BdT N b.fs) (keep : List Int) : BdT N (bRestart keep b).fs := by
  show BdT N (rstI keep b.fs.length b.fs)
  refine ⟨by unfold rstI; simpa using h.len, Nat.le_trans ?_ h.tot⟩
  unfold rstI
  have : ∀ (l : List (Bs × FileD)) (k m : Nat), Go.Proofs.YtmddgimadlmacaaDoor.tot (l.mapIdx fun j p => if j + k < m then (p.1, cutD keep (j + k) p.2) else p) ≤ Go.Proofs.YtmddgimadlmacaaDoor.tot l := by
    intro l
    induction l with
    | nil => intro k m; exact Nat.le_refl _
    | cons p r ih =>
      intro k m
      rw [List.mapIdx_cons, tot_cons, tot_cons]
      have h1 := ih (k + 1) m
      have e : (r.mapIdx fun j p => if j + 1 + k < m then (p.1, cutD keep (j + 1 + k) p.2) else p) = (r.mapIdx fun j p => if j + (k + 1) < m then (p.1, cutD keep (j + (k + 1)) p.2) else p) := by
        congr 1
        funext j p
        rw [show j + 1 + k = j + (k + 1) by omega]
      rw [e]
      refine Nat.add_le_add ?_ h1
      split
      · show (p.2.1.take _).length ≤ _
        rw [List.length_take]; exact Nat.min_le_right _ _
      · exact Nat.le_refl _
  exact this b.fs 0 b.fs.length
theorem BdT.get {N : Nat} (h : BdT N b.fs) (hN : N ≤ 1048576) (nm : Bs) : (fget nm b.fs).1.length ≤ 1099511627776 := by
  have h1 := get_le_tot nm b.fs
  have h2 := h.tot
  have h3 : N * 1048576 ≤ 1048576 * 1048576 := Nat.mul_le_mul_right _ hN
  have h4 : 1048576 * 1048576 = 1099511627776 := by decide
  omega
theorem BdT.open_ {N : Nat} (h : BdT N b.fs) (hN : N ≤ 1048576) (ha : Asc b.fs) (n : Nat) : (wOpen n b).2.2.length * 24 ≤ 140737488355328 := by
  have h1 := scan_len (1000000001 - n) n b (asc_nodup ha)
  have h2 := h.tot
  have h3 : N * 1048576 ≤ 1048576 * 1048576 := Nat.mul_le_mul_right _ hN
  have h4 : 1048576 * 1048576 = 1099511627776 := by decide
  show (wScan b (1000000001 - n) n).2.2.length * 24 ≤ _
  omega
end
end Go.Proofs.YtmddgimadlmacaaDoor
