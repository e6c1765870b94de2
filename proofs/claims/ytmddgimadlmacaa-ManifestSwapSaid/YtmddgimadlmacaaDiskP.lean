import Derived.Test.YtmddgimadlmacaaDiskA
namespace Go.Proofs.Ytmddgimadlmacaa
open Go.RowKit Garner

theorem rst_one (keep : List Int) (k : Bs) (f : FileD) : rst keep [(k, f)] = [(k, cutD keep 0 f)] := by
  have h1 : sortN [k] = [k] := by simp [sortN]
  have h2 : List.idxOf k [k] = 0 := by simp
  simp only [rst, List.map_cons, List.map_nil, h1, rstUp, h2, List.length_cons, List.length_nil]
  rfl
theorem rst_two (n : Int) (fs : List (Bs × FileD)) (h : fs.length ≤ 2) : rst [n, n] fs = fs.map fun p => (p.1, cutD [n] 0 p.2) := by
  unfold rst rstUp
  refine List.map_congr_left fun p hp => ?_
  have hm : p.1 ∈ sortN (fs.map (·.1)) := mem_sortN.2 (List.mem_map.2 ⟨p, hp, rfl⟩)
  have hlt := List.idxOf_lt_length_of_mem hm
  rw [sortN_len, List.length_map] at hlt
  rw [if_pos hlt]
  congr 1
  generalize List.idxOf p.1 (sortN (fs.map (·.1))) = j at *
  unfold cutD keptN
  have : j = 0 ∨ j = 1 := by omega
  rcases this with rfl | rfl <;> rfl
theorem ap_dn (nm data : Bs) (fs : List (Bs × FileD)) (L : Int) (h : dmay [nmS nm] true = 23) : aAppend nm data ⟨fs, false, true, L⟩ = (23, ⟨fs, false, true, L⟩) := by unfold aAppend; rw [if_pos (by rw [h]; decide), h]
theorem sy_dn (nm : Bs) (fs : List (Bs × FileD)) (L : Int) (h : dmay [nmS nm] true = 23) : aSync nm ⟨fs, false, true, L⟩ = (23, ⟨fs, false, true, L⟩) := by unfold aSync; rw [if_pos (by rw [h]; decide), h]
theorem rn_dn (nm nm2 : Bs) (fs : List (Bs × FileD)) (L : Int) (h : dmay [nmS nm, nmS nm2] true = 23) : aRename nm nm2 ⟨fs, false, true, L⟩ = (23, ⟨fs, false, true, L⟩) := by unfold aRename; rw [if_pos (by rw [h]; decide), h]
theorem ap_up (nm data : Bs) (fs : List (Bs × FileD)) (L : Int) (h : dmay [nmS nm] false = 0) : aAppend nm data ⟨fs, false, false, L⟩ = (0, ⟨aput nm ((fget nm fs).1 ++ data, (fget nm fs).2) fs, false, armedD L false, armed L⟩) := by unfold aAppend; rw [if_neg (by rw [h]; decide)]; rfl
theorem sy_up (nm : Bs) (fs : List (Bs × FileD)) (L : Int) (f : FileD) (h : dmay [nmS nm] false = 0) (hf : aget nm fs = some f) : aSync nm ⟨fs, false, false, L⟩ = (0, ⟨aput nm (f.1, f.1.length) fs, false, armedD L false, armed L⟩) := by unfold aSync; rw [if_neg (by rw [h]; decide)]; simp only [hf]; rfl
theorem rn_up (nm nm2 : Bs) (fs : List (Bs × FileD)) (L : Int) (f : FileD) (h : dmay [nmS nm, nmS nm2] false = 0) (hf : aget nm fs = some f) : aRename nm nm2 ⟨fs, false, false, L⟩ = (0, ⟨aput nm2 f (adel nm fs), false, armedD L false, armed L⟩) := by unfold aRename; rw [if_neg (by rw [h]; decide)]; simp only [hf]; rfl
theorem cut_full (n : Int) (l : Bs) : cutD [n] 0 (l, l.length) = (l, l.length) := by
  have h : keptN [n] 0 (l, l.length) = l.length := by simp only [keptN, List.getElem?_cons_zero]; omega
  unfold cutD; rw [h]; simp
theorem u64_lo (n : Int) : 0 ≤ IntKind.u64.wrap n ∧ IntKind.u64.wrap n < 18446744073709551616 := by
  simp only [IntKind.wrap, IntKind.bits, IntKind.signed]
  simp
  omega
/-- a number without a sign, modulo a small one, as an int -/
theorem u64_mod (n : Int) (m : Nat) (hm : 0 < m) (hm2 : m ≤ 1000000) : ∃ k : Nat, k < m ∧ wrap64 ((IntKind.u64.wrap n).tmod m) = k := by
  obtain ⟨h1, h2⟩ := u64_lo n
  rw [Int.tmod_eq_emod_of_nonneg h1]
  have h3 := Int.emod_nonneg (IntKind.u64.wrap n) (show (m : Int) ≠ 0 by omega)
  have h4 := Int.emod_lt_of_pos (IntKind.u64.wrap n) (show (0 : Int) < m by omega)
  refine ⟨((IntKind.u64.wrap n) % m).toNat, by omega, ?_⟩
  rw [IntWalk.wrap64_in _ ⟨by omega, by omega⟩]; omega
end Go.Proofs.Ytmddgimadlmacaa
