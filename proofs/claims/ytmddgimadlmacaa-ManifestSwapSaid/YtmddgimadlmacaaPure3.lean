import Derived.Test.YtmddgimadlmacaaPure2
/-! Plain functions of layer 15: what is read. -/
namespace Garner

theorem vallAux_nil (f : Nat) : vallAux f [] = .ok [] := by cases f <;> rfl
theorem vallAux_fuel : ∀ (f g : Nat) (b : Bs), b.length ≤ f → b.length ≤ g → vallAux f b = vallAux g b := by
  intro f
  induction f with
  | zero =>
    intro g b h _
    obtain rfl : b = [] := List.eq_nil_of_length_eq_zero (by omega)
    rw [vallAux_nil, vallAux_nil]
  | succ f ih =>
    intro g b hf hg
    cases b with
    | nil => rw [vallAux_nil, vallAux_nil]
    | cons c r =>
      simp only [List.length_cons] at hf hg
      obtain ⟨g, rfl⟩ : ∃ g', g = g' + 1 := ⟨g - 1, by omega⟩
      rw [vallAux, vallAux]
      cases hv : vgetAux (c :: r) 0 0 with
      | error e => rfl
      | ok q =>
        obtain ⟨n, k⟩ := q
        obtain ⟨m, _, _, e3, _, _⟩ := vgetAux_ok _ 0 0 _ _ (by omega) hv
        have hp := put1_pos m
        have hl : ((c :: r).drop k).length ≤ r.length := by rw [List.length_drop, List.length_cons]; omega
        simp only []
        rw [ih g _ (by omega) (by omega)]
theorem vall_nil : vall [] = .ok [] := rfl
theorem vall_at {p : Bs} {i : Nat} (hi : i < p.length) : vall (p.drop i) = match vget p i with
    | .error e => .error e
    | .ok (n, nx) => match vall (p.drop nx) with
      | .error e => .error e
      | .ok ns => .ok (n :: ns) := by
  unfold vget
  cases hb : p.drop i with
  | nil => have := congrArg List.length hb; rw [List.length_drop] at this; simp at this; omega
  | cons c r =>
    show vallAux (r.length + 1) (c :: r) = _
    rw [vallAux]
    cases hv : vgetAux (c :: r) 0 0 with
    | error e => rfl
    | ok q =>
      obtain ⟨n, k⟩ := q
      obtain ⟨m, _, _, e3, _, _⟩ := vgetAux_ok _ 0 0 _ _ (by omega) hv
      have hp := put1_pos m
      simp only []
      have hl : ((c :: r).drop k).length ≤ r.length := by rw [List.length_drop, List.length_cons]; omega
      rw [vallAux_fuel r.length ((c :: r).drop k).length _ hl (Nat.le_refl _), ← hb, List.drop_drop]
      rfl
/-- what stands ahead of number i reads as acc -/
def vallUpto (p : Bs) (i : Nat) (acc : List Nat) : Prop := vall p = match vall (p.drop i) with
  | .error e => .error e
  | .ok l => .ok (acc ++ l)
theorem vallUpto_zero (p : Bs) : vallUpto p 0 [] := by
  unfold vallUpto; rw [List.drop_zero]; cases vall p <;> rfl
theorem vallUpto_step {p : Bs} {i n nx : Nat} {acc : List Nat} (h : vallUpto p i acc) (hi : i < p.length) (hv : vget p i = .ok (n, nx)) : vallUpto p nx (acc ++ [n]) := by
  unfold vallUpto at *
  rw [h, vall_at hi, hv]
  simp only []
  cases vall (p.drop nx) <;> simp
theorem vallUpto_err {p : Bs} {i k : Nat} {acc : List Nat} (h : vallUpto p i acc) (hi : i < p.length) (hv : vget p i = .error k) : vall p = .error k := by
  unfold vallUpto at h
  rw [h, vall_at hi, hv]
theorem vallUpto_end {p : Bs} {i : Nat} {acc : List Nat} (h : vallUpto p i acc) (hi : p.length ≤ i) : vall p = .ok acc := by
  unfold vallUpto at h
  rw [h, List.drop_eq_nil_of_le hi, vall_nil]
  simp

instance decMadeOk (ns : List Nat) : Decidable (madeOk ns) := by unfold madeOk; infer_instance
/-- what the program reads -/
def mreadP (b : Bs) : Option Man :=
  match fread b 0 with
  | .error _ => none
  | .ok (p, to) => if to ≠ b.length then none else match vall p with
    | .error _ => none
    | .ok ns => if madeOk ns ∧ may (manOf smallN ns) then some (manOf smallN ns) else none
theorem fread_small {b p : Bs} {i to : Nat} (h : fread b i = .ok (p, to)) : p.length ≤ 65536 := by
  obtain ⟨f, hf, _⟩ := fread_ok h
  unfold frame at hf
  split at hf
  · cases hf
  · omega
theorem smallN_lo (n : Nat) : 0 ≤ smallN n ∧ smallN n ≤ 2147483647 := by unfold smallN; split <;> omega
theorem segsOf_wf {g : Nat → Int} (hg : ∀ n, in64 (g n)) : ∀ (l : List Nat), (∀ n ∈ l, n < 18446744073709551616) → ∀ s ∈ segsOf g l, s.wf
  | a :: b :: c :: d :: r, hl, s, hs => by
    rw [segsOf] at hs
    rcases List.mem_cons.1 hs with rfl | hs
    · exact ⟨hg _, hg _, zag_lo (hl c (by simp)), zag_lo (hl d (by simp))⟩
    · exact segsOf_wf hg r (fun n hn => hl n (by simp [hn])) s hs
  | [], _, s, hs => by simp [segsOf] at hs
  | [_], _, s, hs => by simp [segsOf] at hs
  | [_, _], _, s, hs => by simp [segsOf] at hs
  | [_, _, _], _, s, hs => by simp [segsOf] at hs
theorem manOf_wf {g : Nat → Int} (hg : ∀ n, in64 (g n)) {l : List Nat} (hl : ∀ n ∈ l, n < 18446744073709551616) : (manOf g l).wf := by
  have hi : ∀ i, l[i]?.getD 0 < 18446744073709551616 := fun i => by
    rcases Nat.lt_or_ge i l.length with h | h
    · rw [List.getElem?_eq_getElem h]; exact hl _ (List.getElem_mem h)
    · rw [List.getElem?_eq_none h]; simp
  exact ⟨hg _, hg _, hi 2, zag_lo (hi 3), segsOf_wf hg _ fun n hn => hl n (List.mem_of_mem_drop hn)⟩
theorem smallN_in (n : Nat) : in64 (smallN n) := by have := smallN_lo n; unfold in64; omega
theorem segsOf_len (g : Nat → Int) : ∀ l : List Nat, (segsOf g l).length ≤ l.length
  | a :: b :: c :: d :: r => by have := segsOf_len g r; simp only [segsOf, List.length_cons]; omega
  | [] => by simp [segsOf]
  | [_] => by simp [segsOf]
  | [_, _] => by simp [segsOf]
  | [_, _, _] => by simp [segsOf]
end Garner
