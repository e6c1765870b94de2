import Derived.Test.YtmddgimadlmacaaDoorWalDr
import Derived.Test.YtmddgimadlmacaaDoorWalA
/-! disks that hold just a log's files, in plain lists -/
namespace Go.Proofs.YtmddgimadlmacaaDoor
open Go.RowKit Garner

section
variable {κ ν : Type} [DecidableEq κ]
theorem aput_new {a : κ} {v : ν} : ∀ {l : List (κ × ν)}, a ∉ l.map (·.1) → aput a v l = l ++ [(a, v)]
  | [], _ => rfl
  | (b, u) :: r, h => by
    simp only [List.map_cons, List.mem_cons, not_or] at h
    simp only [aput]
    rw [if_neg h.1, aput_new h.2]; rfl
end
theorem fget_new {nm : Bs} {l : List (Bs × FileD)} (h : nm ∉ l.map (·.1)) : fget nm l = ([], 0) := by
  unfold fget; rw [aget_none h]; rfl
/-- file j + 1, with one frame in it -/
def fl1 (l : List Bs) (j : Nat) : Bs × FileD := (walNm (j + 1), (frB (l.getD j []), 0))
def fsF (l : List Bs) (a n : Nat) : List (Bs × FileD) := ((List.range n).drop a).map (fl1 l)
theorem fsF_nil (l : List Bs) : fsF l 0 0 = [] := rfl
theorem fsF_keys {l : List Bs} {a n : Nat} {x : Bs} (h : x ∈ (fsF l a n).map (·.1)) : ∃ j, a ≤ j ∧ j < n ∧ x = walNm (j + 1) := by
  obtain ⟨p, hp, rfl⟩ := List.mem_map.1 h
  obtain ⟨j, hj, rfl⟩ := List.mem_map.1 hp
  obtain ⟨i, hi, e⟩ := List.mem_iff_getElem.1 hj
  rw [List.getElem_drop, List.getElem_range] at e
  rw [List.length_drop, List.length_range] at hi
  exact ⟨j, by omega, by omega, rfl⟩
theorem fsF_no {l : List Bs} {a n m : Nat} (h : m < a ∨ n ≤ m) : walNm (m + 1) ∉ (fsF l a n).map (·.1) := fun hm => by
  obtain ⟨j, h1, h2, e⟩ := fsF_keys hm
  have := walNm_inj e
  omega
theorem fsF_succ (l : List Bs) (a n : Nat) (h : a ≤ n) : fsF l a (n + 1) = fsF l a n ++ [fl1 l n] := by
  unfold fsF
  rw [List.range_succ, List.drop_append_of_le_length (by simpa using h), List.map_append]; rfl
theorem fsF_cons (l : List Bs) {a n : Nat} (h : a < n) : fsF l a n = (walNm (a + 1), (frB (l.getD a []), 0)) :: fsF l (a + 1) n := by
  unfold fsF
  rw [List.drop_eq_getElem_cons (by simpa using h), List.map_cons, List.getElem_range]; rfl
theorem fsF_get (l : List Bs) {a n f : Nat} (h1 : a ≤ f) (h2 : f < n) : aget (walNm (f + 1)) (fsF l a n) = some (frB (l.getD f []), 0) := by
  obtain ⟨k, rfl⟩ : ∃ k, f = a + k := ⟨f - a, by omega⟩
  induction k generalizing a with
  | zero =>
    rw [fsF_cons l (by omega)]
    simp only [aget, Nat.add_zero, if_true]
  | succ k ih =>
    rw [fsF_cons l (by omega)]
    simp only [aget]
    rw [if_neg (walNm_ne (by omega)), show a + (k + 1) + 1 = (a + 1) + k + 1 by omega, show a + (k + 1) = (a + 1) + k by omega]
    exact ih (by omega) (by omega)
theorem fsF_len (l : List Bs) (a n : Nat) : (fsF l a n).length = n - a := by simp [fsF]
/-- append into the next file -/
theorem wd_app {l : List Bs} {n : Nat} (hn : n < l.length) (hn2 : n < 1000) (hl : ¬ 65536 < l[n].length) : wApp l[n] ⟨1, n + 1, false⟩ ⟨fsF l 0 n, false, false, -1⟩ = (0, ⟨1, n + 1, true⟩, ⟨fsF l 0 (n + 1), false, false, -1⟩) := by
  have h1 := ap_up (walNm (n + 1)) (frB l[n]) (fsF l 0 n) (-1) (dW0 (n := n + 1) (by omega))
  rw [fget_new (fsF_no (Or.inr (Nat.le_refl _))), aput_new (fsF_no (Or.inr (Nat.le_refl _)))] at h1
  have e : fsF l 0 (n + 1) = fsF l 0 n ++ [(walNm (n + 1), (frB l[n], 0))] := by
    rw [fsF_succ l 0 n (Nat.zero_le _)]
    simp only [fl1]
    rw [List.getD_eq_getElem?_getD, List.getElem?_eq_getElem hn]; rfl
  unfold wApp
  rw [if_neg hl, h1, e]; rfl
theorem wd_rot {n : Nat} (hn2 : n < 1000) : wRot ⟨1, n + 1, true⟩ = (0, ⟨1, n + 1 + 1, false⟩) := by
  have h : ¬ n + 1 = 1000000000 := by omega
  unfold wRot
  simp only [h, if_false, if_true]
theorem wd_fget {l : List Bs} {n : Nat} : (fget (walNm (n + 1)) (fsF l 0 n)).1.length = 0 := by rw [fget_new (fsF_no (Or.inr (Nat.le_refl _)))]; rfl
/-- deletion of the first -/
theorem wd_del {l : List Bs} {a n : Nat} (ha : a < n) (hn : n < 1000) : aDelete (walNm (a + 1)) ⟨fsF l a n, false, false, -1⟩ = (0, ⟨fsF l (a + 1) n, false, false, -1⟩) := by
  unfold aDelete
  rw [if_neg (by rw [dW0 (by omega)]; decide)]
  simp only [fsF_get l (Nat.le_refl a) ha]
  have : adel (walNm (a + 1)) (fsF l a n) = fsF l (a + 1) n := by
    rw [fsF_cons l ha]; simp only [adel, if_true]
  rw [this]; rfl
theorem wd_drop {l : List Bs} {n N : Nat} {wr : Bool} (hn : n < 1000) : ∀ (k a : Nat), a + k ≤ n → wDrop k ⟨a + 1, N, wr⟩ ⟨fsF l a n, false, false, -1⟩ = (0, ⟨a + k + 1, N, wr⟩, ⟨fsF l (a + k) n, false, false, -1⟩)
  | 0, a, _ => by simp only [wDrop, Nat.add_zero]
  | k + 1, a, h => by
    have h0 := wDrop_go (k := k) (L := ⟨a + 1, N, wr⟩) (d := ⟨fsF l a n, false, false, -1⟩) (r := (0, ⟨fsF l (a + 1) n, false, false, -1⟩)) (wd_del (by omega) hn).symm (Or.inl rfl)
    rw [h0]
    have := wd_drop (l := l) (n := n) (N := N) (wr := wr) hn k (a + 1) (by omega)
    rw [this, show a + 1 + k = a + (k + 1) by omega]
/-- what a log that is opened from file f + 1 on holds -/
theorem wd_open {l : List Bs} {a n : Nat} (hl : ∀ p ∈ l.take n, p.length ≤ 65536) (hnl : n ≤ l.length) (hn : n < 1000) : ∀ (k f : Nat), f + k = n → a ≤ f → wOpen (f + 1) ⟨fsF l a n, false, false, -1⟩ = (0, n + 1, (l.take n).drop f)
  | 0, f, h, ha => by
    obtain rfl : f = n := by omega
    rw [wOpen_none (by omega) (by rw [rd_none (by omega) (aget_none (fsF_no (Or.inr (Nat.le_refl _))))]), List.drop_of_length_le (by rw [List.length_take]; omega)]
  | k + 1, f, h, ha => by
    have h1 := rd_some (n := f + 1) (by omega) (fs := fsF l a n) (fl := false) (L := -1) (fsF_get l ha (by omega : f < n))
    rw [wOpen_go (by omega) (by rw [h1]), h1, wd_open hl hnl hn k (f + 1) (by omega) (by omega)]
    have hfl : f < (l.take n).length := by rw [List.length_take]; omega
    have e : (l.take n)[f] = l.getD f [] := by rw [List.getElem_take, List.getD_eq_getElem?_getD, List.getElem?_eq_getElem (by omega)]; rfl
    have e2 : held (frB (l.getD f [])) = [l.getD f []] := by
      rw [← flat_one, held_flat0]
      intro p hp
      rw [List.mem_singleton] at hp; subst hp
      rw [← e]; exact hl _ (List.getElem_mem _)
    simp only [e2]
    rw [List.drop_eq_getElem_cons hfl, e]; rfl
theorem wd_open_far {l : List Bs} {a n m : Nat} (hm : n ≤ m) (hm2 : m < 1000) : wOpen (m + 1) ⟨fsF l a n, false, false, -1⟩ = (0, m + 1, []) :=
  wOpen_none (by omega) (by rw [rd_none (by omega) (aget_none (fsF_no (Or.inr hm)))])
theorem wd_list {l : List Bs} {a n : Nat} : (aList ⟨fsF l a n, false, false, -1⟩).1.length = n - a ∧ (aList ⟨fsF l a n, false, false, -1⟩).2 = 0 := by
  refine ⟨?_, rfl⟩
  show (sortN ((fsF l a n).map (·.1))).length = n - a
  rw [sortN_len, List.length_map, fsF_len]
end Go.Proofs.YtmddgimadlmacaaDoor
