import Derived.Test.YtmddgimadlmacaaPure3
/-! The program's read and the reference's read are one function of the bytes. -/
namespace Garner

def numN (n : Nat) : Int := if 2000000000 < n then -1 else (n : Int)
theorem numN_in (n : Nat) : in64 (numN n) := by unfold numN in64; split <;> omega
theorem smallN_toNat {n : Nat} (h : smallN n ≤ 1000000000) : (smallN n).toNat = n := by unfold smallN at *; split at h <;> (split; omega; omega)
theorem num_small {n : Nat} (h : smallN n ≤ 1000000000) : numN n = smallN n := by unfold smallN at *; unfold numN; split at h <;> (repeat' split) <;> omega
theorem smallN_of {n : Int} (h1 : 1 ≤ n) (h2 : n ≤ 1000000000) : smallN n.toNat = n := by unfold smallN; split <;> omega
theorem numN_toNat {n : Nat} (h : 1 ≤ numN n) : (numN n).toNat = n := by unfold numN at *; split at h <;> (split <;> omega)

/-- a segment's numbers, read again -/
theorem segsOf_nums {next : Int} (hn : next ≤ 1000000000) : ∀ (l : List Seg) (seen : List Int), segsOk next seen l → segsOf smallN (l.flatMap segNums) = l
  | [], _, _ => rfl
  | s :: r, seen, h => by
    have ih := segsOf_nums hn r _ h.2
    have h1 := h.1
    rw [List.flatMap_cons]
    show segsOf smallN (s.id.toNat :: s.count.toNat :: zig s.mn :: zig s.mx :: r.flatMap segNums) = _
    rw [segsOf, ih, smallN_of h1.1 (by have := h1.2.1; omega), smallN_of h1.2.2.2.1 (by have := h1.2.2.2.2.1; omega), zag_zig, zag_zig]
theorem manOf_nums {m : Man} (h : may m) : manOf smallN (manNums m) = m := by
  obtain ⟨h1, h2, h3, h4, h5, h6⟩ := h
  unfold manOf manNums
  simp only [List.getElem?_cons_zero, List.getElem?_cons_succ, Option.getD_some, List.drop_succ_cons, List.drop_zero]
  rw [smallN_of h1 h2, smallN_of h3 h4, zag_zig, segsOf_nums h4 _ _ h6]
theorem madeOk_nums (m : Man) : madeOk (manNums m) := by
  have h := segsNums_len m.segs
  unfold madeOk manNums
  simp only [List.length_cons, List.getElem?_cons_zero, List.getElem?_cons_succ, Option.getD_some, h]
  omega
theorem nums_segsOf {next : Int} (hn : next ≤ 1000000000) {g : Nat → Int} (hg : ∀ n, 1 ≤ g n → g n ≤ 1000000000 → (g n).toNat = n) : ∀ (k : Nat) (l : List Nat) (seen : List Int), l.length = 4 * k → segsOk next seen (segsOf g l) → (segsOf g l).flatMap segNums = l
  | 0, l, _, h, _ => by
    have h0 : l = [] := List.eq_nil_of_length_eq_zero (by omega)
    rw [h0]; rfl
  | k + 1, a :: b :: c :: d :: r, seen, h, hok => by
    rw [segsOf] at hok ⊢
    obtain ⟨⟨o1, o2, _, o4, o5, _⟩, ho⟩ := hok
    rw [List.flatMap_cons, nums_segsOf hn hg k r _ (by simp only [List.length_cons] at h; omega) ho]
    show (g a).toNat :: (g b).toNat :: zig (zag c) :: zig (zag d) :: r = _
    simp only at o1 o2 o4 o5
    rw [hg a o1 (by omega), hg b o4 (by omega), zig_zag, zig_zag]
  | k + 1, [], _, h, _ => by simp at h
  | k + 1, [_], _, h, _ => by simp at h; omega
  | k + 1, [_, _], _, h, _ => by simp at h; omega
  | k + 1, [_, _, _], _, h, _ => by simp at h; omega
theorem segsOf_len4 (g : Nat → Int) : ∀ (k : Nat) (l : List Nat), l.length = 4 * k → (segsOf g l).length = k
  | 0, l, h => by
    have h0 : l = [] := List.eq_nil_of_length_eq_zero (by omega)
    rw [h0]; rfl
  | k + 1, a :: b :: c :: d :: r, h => by rw [segsOf, List.length_cons, segsOf_len4 g k r (by simp only [List.length_cons] at h; omega)]
  | k + 1, [], h => by simp at h
  | k + 1, [_], h => by simp at h; omega
  | k + 1, [_, _], h => by simp at h; omega
  | k + 1, [_, _, _], h => by simp at h; omega
theorem nums_manOf {ns : List Nat} (hm : madeOk ns) (h : may (manOf smallN ns)) : manNums (manOf smallN ns) = ns := by
  obtain ⟨m1, m2, m3⟩ := hm
  match ns, m1 with
  | a :: b :: c :: d :: e :: r, _ =>
    obtain ⟨h1, h2, h3, h4, h5, h6⟩ := h
    have hd : (a :: b :: c :: d :: e :: r).drop 5 = r := rfl
    have hr : r.length = 4 * (r.length / 4) := by simp only [List.length_cons] at m3; omega
    have he : e = r.length / 4 := by simpa using m2
    have e1 := nums_segsOf h4 (fun n _ hn => smallN_toNat hn) (r.length / 4) r _ hr h6
    have e2 := segsOf_len4 smallN (r.length / 4) r hr
    show (smallN a).toNat :: (smallN b).toNat :: c :: zig (zag d) :: (segsOf smallN r).length :: (segsOf smallN r).flatMap segNums = _
    rw [e1, e2, zig_zag, smallN_toNat (n := a) h2, smallN_toNat (n := b) h4, ← he]
theorem segsOf_num {next : Int} (hn : next ≤ 1000000000) : ∀ (l : List Nat) (seen : List Int), segsOk next seen (segsOf smallN l) → segsOf numN l = segsOf smallN l
  | a :: b :: c :: d :: r, seen, h => by
    rw [segsOf] at h ⊢
    obtain ⟨⟨o1, o2, _, o4, o5, _⟩, ho⟩ := h
    simp only at o1 o2 o4 o5
    rw [segsOf, segsOf_num hn r _ ho, num_small (by omega), num_small (by omega)]
  | [], _, _ => rfl
  | [_], _, _ => rfl
  | [_, _], _, _ => rfl
  | [_, _, _], _, _ => rfl
theorem manOf_num {ns : List Nat} (h : may (manOf smallN ns)) : manOf numN ns = manOf smallN ns := by
  obtain ⟨h1, h2, h3, h4, h5, h6⟩ := h
  unfold manOf at *
  rw [num_small h2, num_small h4, segsOf_num h4 _ _ h6]

/-- what the reference reads -/
def mreadR (b : Bs) : Option Man :=
  match fread b 0 with
  | .error _ => none
  | .ok (p, _) => match vall p with
    | .error _ => none
    | .ok ns => if ns.length < 5 then none else match mwrite (manOf numN ns) with
      | .error _ => none
      | .ok f => if f = b then some (manOf numN ns) else none
theorem mwrite_inv {m : Man} {f : Bs} (h : mwrite m = .ok f) : may m ∧ frame (vput (manNums m)) = .ok f := by
  unfold mwrite at h
  split at h
  · exact ⟨‹_›, h⟩
  · cases h
theorem vall_put {ns : List Nat} (h : ∀ n ∈ ns, n < 18446744073709551616) : vall (vput ns) = .ok ns := vall_vput ns _ h (Nat.le_refl _)
/-- read, what was written -/
theorem mread_mwrite {m : Man} {f : Bs} (hw : m.wf) (h : mwrite m = .ok f) : mreadP f = some m ∧ fread f 0 = .ok (vput (manNums m), f.length) := by
  obtain ⟨h1, h2⟩ := mwrite_inv h
  have h3 := fread_frame [] [] h2
  simp only [List.nil_append, List.append_nil, List.length_nil, Nat.zero_add] at h3
  refine ⟨?_, h3⟩
  unfold mreadP
  rw [h3]
  simp only [ne_eq, not_true_eq_false, ite_false]
  rw [vall_put (manNums_lt hw h1.2.2.2.2.1)]
  simp only []
  rw [manOf_nums h1, if_pos ⟨madeOk_nums m, h1⟩]
theorem mread_eq (b : Bs) : mreadR b = mreadP b := by
  cases hf : fread b 0 with
  | error k => unfold mreadR mreadP; rw [hf]
  | ok q =>
    obtain ⟨p, to⟩ := q
    obtain ⟨f, hff, hft, hto, htl⟩ := fread_ok hf
    cases hv : vall p with
    | error k =>
      have h1 : mreadP b = none := by unfold mreadP; rw [hf]; simp only []; rw [hv]; simp
      have h2 : mreadR b = none := by unfold mreadR; rw [hf]; simp only []; rw [hv]
      rw [h1, h2]
    | ok ns =>
      obtain ⟨hp, hlt⟩ := vall_ok _ _ _ hv
      have hR : mreadR b = if ns.length < 5 then none else match mwrite (manOf numN ns) with
          | .error _ => none
          | .ok f => if f = b then some (manOf numN ns) else none := by unfold mreadR; rw [hf]; simp only []; rw [hv]
      have hP : mreadP b = if to ≠ b.length then none else if madeOk ns ∧ may (manOf smallN ns) then some (manOf smallN ns) else none := by unfold mreadP; rw [hf]; simp only []; rw [hv]
      by_cases hok : to = b.length ∧ madeOk ns ∧ may (manOf smallN ns)
      · obtain ⟨k1, k2, k3⟩ := hok
        have hfb : f = b := by rw [← hft, List.drop_zero]; exact List.take_of_length_le (by omega)
        rw [hP, hR, if_neg (by have := k2.1; omega), if_neg (fun h => h k1), if_pos ⟨k2, k3⟩, manOf_num k3]
        have : mwrite (manOf smallN ns) = .ok b := by
          unfold mwrite; rw [if_pos k3, nums_manOf k2 k3, ← hp, hff, hfb]
        rw [this]; simp
      · have hPn : mreadP b = none := by
          rw [hP]
          split
          · rfl
          · split
            · exact absurd ⟨by omega, ‹_›⟩ hok
            · rfl
        rw [hPn, hR]
        split
        · rfl
        · cases hm : mwrite (manOf numN ns) with
          | error e => rfl
          | ok g =>
            simp only []
            split
            · exfalso
              rename_i hgb
              subst hgb
              have hwf := manOf_wf numN_in hlt
              obtain ⟨_, h3⟩ := mread_mwrite hwf hm
              rw [hf] at h3
              injection h3 with h3
              injection h3 with h3 h4
              obtain ⟨hmay, _⟩ := mwrite_inv hm
              have h5 : ns = manNums (manOf numN ns) := by
                have h6 := hv
                rw [h3, vall_put (manNums_lt hwf hmay.2.2.2.2.1)] at h6
                injection h6 with h6; exact h6.symm
              have h7 : manOf smallN ns = manOf numN ns := by
                have h8 := manOf_nums hmay
                rw [← h5] at h8; exact h8
              exact hok ⟨h4, h5 ▸ madeOk_nums _, h7 ▸ hmay⟩
            · rfl
end Garner
