import Derived.Test.YtmalkgakdmghiaaPa02
import Derived.Lib.AppendZerosOnto
/-! append(s, make([]T, k)...), whatever room there is -/
namespace Go.Proofs.Ytmalkgakdmghiaa
open Go.RowKit Garner

theorem zeroCells_one (z : Value) (k : Nat) : Builtin.zeroCells #[z] k = (List.replicate k z).toArray := by
  unfold Builtin.zeroCells
  apply Array.ext
  · simp
  · intro i h1 h2
    simp [Nat.mod_one]

section
variable {P : Program} (w : World)
theorem run_app_zeros {t tn e : TypeId} {z : Value} {bytes : Nat} (E : Elem P t e z 1 bytes) {kn : IntKind} (htn : P.underlying tn = some (.int kn)) (ty : TypeId) (hz1 : z.oneCell' = true) (hzc : z.cells = #[z]) {base : Nat}
    {v : Value} {n : Nat} {xs : List Value} (hown : w.ownsRow base e 1 v n xs) {k : Nat}
    (hbytes : (n + k) * bytes ≤ 140737488355328) (hbase : base ≤ w.heap.size) :
    ∃ v' w', (Builtin.append_ #[t, tn] ty #[v, .int .i64 k]).run P w = .ok v' w' ∧ w'.ownsRow base e 1 v' (n + k) (xs ++ List.replicate k z) ∧ w.grownBy w' v.ownBlock ∧ Below base w w' ∧
      (v'.ownBlock = v.ownBlock ∨ v'.ownBlock = some w.heap.size) := by
  obtain ⟨i, hi, hz, hsize, hby⟩ := info_parts E.info
  have h63 : n + k ≤ maxLen := by
    have := Nat.mul_le_mul_left (n + k) E.bpos
    simp only [maxLen]; omega
  have hk48 : k * bytes ≤ 140737488355328 := Nat.le_trans (Nat.mul_le_mul_right _ (by omega)) hbytes
  have fin : ∀ w', w.grownBy w' v.ownBlock → Below base w w' := fun w' hg => (Below.refl base w).grown hg hbase fun k hk => (hown.lt k hk).1
  have hlen : (xs ++ List.replicate k z).length = (n + k) * 1 := by rw [List.length_append, hown.1, List.length_replicate]; omega
  have grown : ∀ (old : Nat), old < n + k → ∀ (row : Option Nat),
      (w.drew.alloc (.cells (xs.toArray ++ Builtin.zeroCells z.cells k ++ Builtin.zeroCells z.cells (grownCap w (n + k) old e - (n + k))) e)).ownsRow base e 1
        (.slice (some ⟨w.heap.size, 0, none⟩) (n + k) (grownCap w (n + k) old e)) (n + k) (xs ++ List.replicate k z) ∧
      w.grownBy (w.drew.alloc (.cells (xs.toArray ++ Builtin.zeroCells z.cells k ++ Builtin.zeroCells z.cells (grownCap w (n + k) old e - (n + k))) e)) row := by
    intro old ho row
    have hge := grownCap_ge w (n + k) old e
    have hcm : grownCap w (n + k) old e ≤ maxLen := grownCap_le_maxLen w (n + k) old e h63
    have hx := hown.1
    refine ⟨⟨hlen, .inr ⟨w.heap.size, _, _, rfl, hbase, heap_alloc_new w.drew _, hge, hcm, ?_, ?_⟩⟩, ⟨rfl, rfl, rfl, by simp, fun k hk _ => Go.heap_alloc_old w.drew _ hk⟩⟩
    · rw [hzc, zeroCells_one, zeroCells_one]
      simp; omega
    · rw [hzc, zeroCells_one, zeroCells_one]
      simp only [Array.toList_append]
      rw [show (n + k) * 1 = (xs ++ List.replicate k z).length by rw [hlen]]
      exact List.take_left
  have hw : IntKind.i64.wrap (k : Int) = k := by rw [IntKind.wrap_i64]; have := h63; simp only [maxLen] at this; omega
  rcases Nat.eq_zero_or_pos k with h0 | h0
  · subst h0
    refine ⟨v, w, ?_, by simpa using hown, World.grownBy.refl w _, Below.refl _ _, .inl rfl⟩
    rcases hown.2 with ⟨rfl, rfl⟩ | ⟨g, cap, cur, rfl, _, _, hnc, _⟩
    · simp [Builtin.append_, run_underlying E.slice, run_underlying htn, sizeOf, typeInfo, hi, asInt, asIntOf, IntKind.wrap_i64]
    · simp [Builtin.append_, run_underlying E.slice, run_underlying htn, sizeOf, typeInfo, hi, asInt, asIntOf, IntKind.wrap_i64, hnc, storeCells]
  rcases hown.2 with ⟨rfl, rfl⟩ | ⟨g, cap, cur, rfl, hbg, hg, hnc, hcm, hcs, htake⟩
  · have hx : xs = [] := List.eq_nil_of_length_eq_zero (by simpa using hown.1)
    subst hx
    have hold : (Builtin.firstCells i.size 0 (.slice none 0 0)).run P w.drew = .ok ([] : List Value).toArray w.drew := run_firstCells_none w.drew i.size 0 0 0
    have hr := Lib.run_append_grow_zeros w t tn ty e i z .i64 kn E.slice htn hi hz none 0 0 [] hold k h0 (by omega) (by omega) (by simp only [maxLen] at h63; omega) (by rw [hby]; omega) (by
      rw [hby]; exact growslice_fits (by omega) hbytes)
    have hgr := grown 0 (by omega) (Value.ownBlock (.slice none 0 0))
    exact ⟨_, _, hr, hgr.1, hgr.2, fin _ hgr.2, .inr rfl⟩
  · by_cases hroom : n + k ≤ cap
    · have hfit : 0 + n + (List.replicate k z).length ≤ cur.size := by simp; omega
      have hst := run_storeCells_at P g n e (List.replicate k z) 0 cur w hg (by simp; omega) (fun u hu => by rw [List.eq_of_mem_replicate hu]; exact hz1)
      have hr : (Builtin.append_ #[t, tn] ty #[.slice (some ⟨g, 0, none⟩) n cap, .int .i64 k]).run P w = .ok (.slice (some ⟨g, 0, none⟩) (n + k) cap) (w.setRow g (cur.toList.take n ++ List.replicate k z ++ cur.toList.drop (n + (List.replicate k z).length)).toArray) := by
        have hneg : ¬ ((k : Int) < 0) := by omega
        have h48i : ¬ (281474976710656 < (k : Int) * (i.bytes : Int)) := by
          rw [← Int.natCast_mul, hby]
          omega
        simp only [Nat.add_zero, List.length_replicate] at hst ⊢
        have hk0 : k ≠ 0 := by omega
        simp [Builtin.append_, run_underlying E.slice, run_underlying htn, sizeOf, typeInfo, zeroValue, hi, hz, asInt, asIntOf, hw, hneg, h48i, hroom, hsize, hzc, hk0, zeroCells_one, Addr.add_lit, hst]
      have hg2 : w.grownBy (w.setRow g (cur.toList.take n ++ List.replicate k z ++ cur.toList.drop (n + (List.replicate k z).length)).toArray) (Value.ownBlock (.slice (some ⟨g, 0, none⟩) n cap)) :=
        ⟨rfl, rfl, rfl, by simp, fun k _ hk => setRow_other w g k _ (fun e => hk (by simp [Value.ownBlock, e]))⟩
      refine ⟨_, _, hr, ⟨hlen, .inr ⟨g, cap, _, rfl, hbg, setRow_heap w g cur _ e _ hg, hroom, hcm, ?_, ?_⟩⟩, hg2, fin _ hg2, .inl rfl⟩
      · simp only [List.size_toArray, List.length_append, List.length_take, List.length_drop, Array.length_toList, List.length_replicate] at hfit ⊢
        omega
      · simp only [Nat.mul_one] at htake hlen
        rw [htake, Nat.mul_one, ← hlen]
        exact List.take_left
    · have holds : ∀ j u, xs[j]? = some u → w.drew.cell? ((⟨g, 0, none⟩ : Addr).add j) = some u := hown.cells (g := g) rfl
      have hold : (Builtin.firstCells i.size n (.slice (some ⟨g, 0, none⟩) n cap)).run P w.drew = .ok xs.toArray w.drew := run_firstCells_some (P := P) w.drew i.size n ⟨g, 0, none⟩ n cap xs (by rw [hown.1, hsize]) holds
      have hr := Lib.run_append_grow_zeros w t tn ty e i z .i64 kn E.slice htn hi hz (some ⟨g, 0, none⟩) n cap xs hold k h0 (by omega) (by omega) (by simp only [maxLen] at h63; omega) (by rw [hby]; omega) (by
        rw [hby]; exact growslice_fits (by omega) hbytes)
      have hgr := grown cap (by omega) (Value.ownBlock (.slice (some ⟨g, 0, none⟩) n cap))
      exact ⟨_, _, hr, hgr.1, hgr.2, fin _ hgr.2, .inr rfl⟩
theorem wpList_app_zeros {ops : Array Oper} {rest : List Oper} {o : Oper} {a : Act} {Q : Exit → Act → World → Prop} (hgd : o.guard = none) {s x : Operand} {t tn e : TypeId} {z : Value} {bytes : Nat} (E : Elem P t e z 1 bytes) {kn : IntKind} (htn : P.underlying tn = some (.int kn)) (hz1 : z.oneCell' = true) (hzc : z.cells = #[z])
    (ho : o.op = .call { callee := .builtin .append, args := #[s, x], argTypes := #[t, tn] }) {base : Nat}
    {v : Value} {n : Nat} {xs : List Value} (hs : a.eval s = v) (hown : w.ownsRow base e 1 v n xs) {k : Nat} (hx : a.eval x = .int .i64 k)
    (hbytes : (n + k) * bytes ≤ 140737488355328) (hbase : base ≤ w.heap.size)
    (h : ∀ v' w', w'.ownsRow base e 1 v' (n + k) (xs ++ List.replicate k z) → w.grownBy w' v.ownBlock → Below base w w' → (v'.ownBlock = v.ownBlock ∨ v'.ownBlock = some w.heap.size) → wpList P ops Q rest (a.put o.dst v') w') : wpList P ops Q (o :: rest) a w := by
  obtain ⟨v', w', hrun, h2, h3, h4, h5⟩ := run_app_zeros (P := P) w E htn o.type hz1 hzc hown hbytes hbase
  exact Lib.wpList_append_run w hgd s x t tn ho v (.int .i64 k) hs hx v' w' hrun (h v' w' h2 h3 h4 h5)
end
end Go.Proofs.Ytmalkgakdmghiaa
