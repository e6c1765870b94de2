import Derived.Test.YtmalkgakdmghiaaPa22
import Derived.Test.YtmalkgakdmghiaaPa32
import Derived.Test.YtmalkgakdmghiaaPa33
import Derived.Test.YtmalkgakdmghiaaPa30
/-! slices.Sort at []uint64, plain: what is sorted and told once -/
namespace Go.Proofs.Ytmalkgakdmghiaa
open Go.RowKit Go.Shelf Go.Lib Go.Sort Garner

theorem swo_ltN : SWO ltN := ⟨fun x => by simp [ltN], fun x y z h1 h2 => by simp [ltN] at *; omega, fun x y z h1 h2 => by simp [ltN] at *; omega⟩
theorem sort_ms (l : List Nat) : (sort ltN l.toArray).toList = l.mergeSort (fun a b => decide (a ≤ b)) := by
  obtain ⟨hP, hSo⟩ := sort_sorts ltN swo_ltN l.toArray
  have h := sorted_unique_holds swo_ltN (fun x y h1 h2 => by simp [ltN] at h1 h2; omega) l.toArray _ hP hSo
  rw [h]
  congr 1
  funext x y
  show (!decide (y < x)) = decide (x ≤ y)
  by_cases h : x ≤ y
  · simp [h]
  · simp [h]; omega
theorem keeps_low {d : Array Nat} : ∀ (j : Nat), ∃ k, k ≤ j ∧ keeps d k = true ∧ d[k]! = d[j]!
  | 0 => ⟨0, Nat.le_refl _, by simp [keeps], rfl⟩
  | j + 1 => by
    by_cases h : d[j + 1]! = d[j]!
    · obtain ⟨k, h1, h2, h3⟩ := keeps_low (d := d) j
      exact ⟨k, by omega, h2, by rw [h3, h]⟩
    · exact ⟨j + 1, Nat.le_refl _, by simp [keeps, h], rfl⟩
theorem mem_cmpL (l : List Nat) (x : Nat) : x ∈ cmpL l ↔ x ∈ l := by
  unfold cmpL compactUpTo
  rw [List.mem_map]
  constructor
  · rintro ⟨j, hj, rfl⟩
    have hj2 : j < l.length := by simpa using (List.mem_filter.1 hj).1
    rw [getElem!_pos l.toArray j (by simpa using hj2)]
    simp
  · intro h
    obtain ⟨j, hj, rfl⟩ := List.mem_iff_getElem.1 h
    obtain ⟨k, h1, h2, h3⟩ := keeps_low (d := l.toArray) j
    refine ⟨k, List.mem_filter.2 ⟨by simp; omega, h2⟩, ?_⟩
    rw [h3, getElem!_pos l.toArray j (by simpa using hj)]
    simp
theorem cmpL_asc {l : List Nat} (h : l.Pairwise (· ≤ ·)) : Ascn (cmpL l) := by
  unfold cmpL compactUpTo Ascn
  rw [List.pairwise_map]
  have hr : (List.range l.length).Pairwise (· < ·) := List.pairwise_lt_range
  have h2 := (hr.filter (keeps l.toArray))
  refine List.Pairwise.imp_of_mem ?_ h2
  intro i j hi hj hij
  have hj2 : j < l.length := by simpa using (List.mem_filter.1 hj).1
  have hk := (List.mem_filter.1 hj).2
  have e : ∀ k (hk : k < l.length), l.toArray[k]! = l[k] := fun k hk => by rw [getElem!_pos l.toArray k (by simpa using hk)]; simp
  have hk2 : l.toArray[j]! ≠ l.toArray[j - 1]! := by
    simp only [keeps, decide_eq_true_eq] at hk
    rcases hk with h | h
    · omega
    · exact h
  rw [e j hj2, e (j - 1) (by omega)] at hk2
  rw [e i (by omega), e j hj2]
  have h3 := List.pairwise_iff_getElem.1 h (j - 1) j (by omega) hj2 (by omega)
  by_cases e2 : i = j - 1
  · subst e2; omega
  · have h4 := List.pairwise_iff_getElem.1 h i (j - 1) (by omega) (by omega) (by omega)
    omega
/-- sorted, then told once: the numbers of a list, each once, rising -/
theorem cmp_ms (l : List Nat) : cmpL (l.mergeSort fun a b => decide (a ≤ b)) = orP l :=
  once_unique (cmpL_asc (sorted_ms l)) fun x => by rw [mem_cmpL, List.mem_mergeSort]
end Go.Proofs.Ytmalkgakdmghiaa
/-! slices.Sort at []uint64, every length; Or at all lists -/
namespace Go.Proofs.Ytmalkgakdmghiaa
open Go.RowKit Go.Shelf Go.Lib Go.Sort Garner

set_option maxRecDepth 100000 in
set_option maxHeartbeats 4000000 in
theorem vSortG (l : List Nat) (c B g : Nat) (w : World) (ho : OwnU w B (.slice (some ⟨g, 0, none⟩) l.length c) l) (hl : l.length ≤ 140737488355328) :
    Calls Try.prog 27 #[.slice (some ⟨g, 0, none⟩) l.length c] w fun e w' => e = .returned (.tuple #[]) ∧ OwnU w' B (.slice (some ⟨g, 0, none⟩) l.length c) (l.mergeSort fun a b => decide (a ≤ b)) ∧ But [g] w w' := by
  have w1 : IntKind.u64.wrap (l.length : Int) = (l.length : Int) := by rw [IntKind.wrap_u64]; omega
  have hS : Srt w B g l.length c l.toArray := ⟨by simp, by simpa using ho⟩
  have hbl : Lib.bitLen l.length = bitsLen l.length := bitLen_eq _ (by omega)
  have hb62 : bitsLen l.length ≤ 62 := (bitsLen_le_iff _ 62).2 (by omega)
  have hms := sort_ms l
  have Hms := Lib.hid hms; clear hms
  obtain ⟨z, hz⟩ : ∃ z, z = bitsLen l.length := ⟨_, rfl⟩
  have hpd : pdq ltN l.toArray 0 l.length z true true = sort ltN l.toArray := by unfold Sort.sort; rw [hz]; simp
  have Hpd := Lib.hid hpd; clear hpd
  rw [← hz] at hbl hb62
  have Hz := Lib.hid hz; clear hz
  have Hbl := Lib.hid hbl; clear hbl
  go_enter Try.func27, Try.ntmps27
  go_wp2_with fail
  refine (Try.bits_Len (l.length : Int) w (by omega) (by omega)).mono ?_
  rintro e w1 ⟨rfl, rfl⟩
  rw [Int.toNat_natCast, Hbl.out]
  go_wp2_with fail
  refine (vPdq B g l.length c hl (l.length - 0) l.toArray 0 l.length z w1 rfl (by omega) (Nat.le_refl _) (by omega) hS).mono ?_
  rintro e w' ⟨rfl, h1, h2⟩
  go_wp2
  go_end0
  refine ⟨rfl, ?_, h2⟩
  have h3 := h1.own
  rw [Hpd.out, Hms.out] at h3
  unfold OwnU
  rw [List.length_mergeSort]
  exact h3
end Go.Proofs.Ytmalkgakdmghiaa
