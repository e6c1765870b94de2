import Derived.Test.YtmddgimadlmacaaMeth2
/-! what a restart leaves, in plain lists -/
namespace Garner
/-- what is known of a file's bytes -/
abbrev FileD := Bs × Nat
def keptN (keep : List Int) (j : Nat) (f : FileD) : Nat :=
  match keep[j]? with
  | some k => f.2 + (min (max k 0) ((f.1.length : Int) - (f.2 : Int))).toNat
  | none => f.2
def cutD (keep : List Int) (j : Nat) (f : FileD) : FileD := (f.1.take (keptN keep j f), keptN keep j f)
def rstUp (keep : List Int) (names : List Bs) (i : Nat) (fs : List (Bs × FileD)) : List (Bs × FileD) :=
  fs.map fun p => (p.1, if names.idxOf p.1 < i then cutD keep (names.idxOf p.1) p.2 else p.2)
theorem rstUp_zero (keep : List Int) (names : List Bs) (fs : List (Bs × FileD)) : rstUp keep names 0 fs = fs := by
  unfold rstUp
  conv => rhs; rw [← List.map_id fs]
  exact List.map_congr_left fun p _ => by simp
theorem rstUp_keys (keep : List Int) (names : List Bs) (i : Nat) (fs : List (Bs × FileD)) : (rstUp keep names i fs).map (·.1) = fs.map (·.1) := by
  unfold rstUp; rw [List.map_map]; rfl
section
variable {κ ν : Type} [DecidableEq κ]
theorem aput_map {a : κ} {v : ν} : ∀ {l : List (κ × ν)}, a ∈ l.map (·.1) → (l.map (·.1)).Nodup → aput a v l = l.map fun p => if p.1 = a then (a, v) else p
  | (b, u) :: r, hm, hn => by
    obtain ⟨h1, h2⟩ := List.nodup_cons.1 hn
    unfold aput
    by_cases e : a = b
    · subst e
      rw [if_pos rfl, List.map_cons, if_pos rfl]
      congr 1
      conv => lhs; rw [← List.map_id r]
      refine List.map_congr_left fun p hp => ?_
      rw [if_neg]
      · rfl
      · intro h; exact h1 (h ▸ List.mem_map.2 ⟨p, hp, rfl⟩)
    · rw [if_neg e, List.map_cons, if_neg (fun h => e h.symm)]
      rw [aput_map (List.mem_of_ne_of_mem e (by simpa using hm)) h2]
theorem aget_map' {ν' : Type} {f : κ → ν → ν'} (a : κ) : ∀ (l : List (κ × ν)), aget a (l.map fun p => (p.1, f p.1 p.2)) = (aget a l).map (f a)
  | [] => rfl
  | (b, u) :: r => by
    simp only [List.map_cons, aget]
    split
    · rename_i e; subst e; rfl
    · exact aget_map' a r
theorem aget_some {a : κ} : ∀ {l : List (κ × ν)}, a ∈ l.map (·.1) → ∃ v, aget a l = some v
  | (b, u) :: r, h => by
    unfold aget
    split
    · exact ⟨u, rfl⟩
    · rename_i e
      exact aget_some (List.mem_of_ne_of_mem e (by simpa using h))
theorem aget_of_mem {a : κ} {v : ν} : ∀ {l : List (κ × ν)}, (l.map (·.1)).Nodup → (a, v) ∈ l → aget a l = some v
  | (b, u) :: r, hn, h => by
    obtain ⟨h1, h2⟩ := List.nodup_cons.1 hn
    unfold aget
    rcases List.mem_cons.1 h with h' | h'
    · injection h' with e1 e2; subst e1; subst e2; rw [if_pos rfl]
    · rw [if_neg (fun e => h1 (by rw [← e]; exact List.mem_map.2 ⟨_, h', rfl⟩))]
      exact aget_of_mem h2 h'
theorem aget_none {a : κ} : ∀ {l : List (κ × ν)}, a ∉ l.map (·.1) → aget a l = none
  | [], _ => rfl
  | (b, u) :: r, h => by
    unfold aget
    rw [if_neg (fun e => h (by simp [e]))]
    exact aget_none (fun hm => h (List.mem_cons_of_mem _ hm))
end
theorem idx_at {names : List Bs} (hn : names.Nodup) {i : Nat} (hi : i < names.length) : names.idxOf names[i] = i := hn.idxOf_getElem i hi
theorem idx_inj {names : List Bs} {a b : Bs} (ha : a ∈ names) (h : names.idxOf a = names.idxOf b) : a = b := by
  have h1 := List.idxOf_lt_length_of_mem ha
  have h2 : names[names.idxOf a]? = some a := by rw [List.getElem?_eq_getElem h1, List.getElem_idxOf]
  rw [h] at h2 h1
  have h3 : names[names.idxOf b]? = some b := by rw [List.getElem?_eq_getElem h1, List.getElem_idxOf]
  rw [h3] at h2
  exact (Option.some.inj h2).symm
/-- the next name's file is cut -/
theorem rstUp_step (keep : List Int) {names : List Bs} (hn : names.Nodup) {fs : List (Bs × FileD)} (hk : (fs.map (·.1)).Nodup) {i : Nat} (hi : i < names.length) (hm : names[i] ∈ fs.map (·.1)) {f : FileD} (hf : aget names[i] fs = some f) :
    aput names[i] (cutD keep i f) (rstUp keep names i fs) = rstUp keep names (i + 1) fs := by
  rw [aput_map (by rw [rstUp_keys]; exact hm) (by rw [rstUp_keys]; exact hk)]
  unfold rstUp
  rw [List.map_map]
  refine List.map_congr_left fun p hp => ?_
  simp only [Function.comp_apply]
  by_cases e : p.1 = names[i]
  · rw [if_pos e, e, idx_at hn hi, if_pos (by omega)]
    have : aget names[i] fs = some p.2 := by
      obtain ⟨a, b⟩ := p
      simp only at e
      subst e
      exact aget_of_mem hk hp
    rw [this] at hf
    injection hf with hf
    rw [hf]
  · rw [if_neg e]
    have hne : names.idxOf p.1 ≠ i := fun h => e (by
      have hmem : p.1 ∈ names := List.idxOf_lt_length_iff.1 (by omega)
      exact (idx_inj hmem (h.trans (idx_at hn hi).symm)))
    by_cases h1 : names.idxOf p.1 < i
    · rw [if_pos h1, if_pos (by omega)]
    · rw [if_neg h1, if_neg (by omega)]
end Garner
