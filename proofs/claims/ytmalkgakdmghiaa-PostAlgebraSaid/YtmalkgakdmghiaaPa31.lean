import Derived.Test.YtmalkgakdmghiaaPa21
import Derived.Test.YtmalkgakdmghiaaPa17
import Derived.Test.YtmalkgakdmghiaaPa15
/-! slices at []uint64: Grow, Concat, Sort at short rows, Compact -/
namespace Go.Proofs.Ytmalkgakdmghiaa
open Go.RowKit Go.Shelf Go.Lib Go.Sort Garner

theorem own_cut {w : World} {B : Nat} {e : TypeId} {n m c g : Nat} {xs : List Value} (h : w.ownsRow B e 1 (.slice (some ⟨g, 0, none⟩) n c) n xs) (hm : m ≤ n) : w.ownsRow B e 1 (.slice (some ⟨g, 0, none⟩) m c) m (xs.take m) := by
  obtain ⟨h1, h2⟩ := h
  rcases h2 with ⟨e1, _⟩ | ⟨g', cap, cur, e1, hB, hh, hc, hm2, hs, hp⟩
  · cases e1
  · injection e1 with e2 e3 e4
    simp only [Option.some.injEq, Addr.mk.injEq, and_true] at e2
    subst e2; subst e4
    refine ⟨by rw [List.length_take]; omega, .inr ⟨g, c, cur, rfl, hB, hh, by omega, hm2, hs, ?_⟩⟩
    rw [← hp, List.take_take]; congr 1; omega
theorem holds_own {w : World} {B n c g : Nat} {l : List Nat} (h : w.ownsRow B 31 1 (.slice (some ⟨g, 0, none⟩) n c) n (l.map u64v)) (hn : n = l.length) : Holds u64v w g 0 l.toArray := by
  intro j hj
  have hj' : j < l.length := by simpa using hj
  refine ⟨?_, h.frozenAt _⟩
  obtain ⟨g', hg', -, -, -, -, hcell⟩ := own_at h (by omega)
  cases hg'
  rw [Nat.zero_add, hcell j (by omega), List.getElem?_map, List.getElem?_eq_getElem hj']
  simp [hj']
theorem own_put {w : World} {B n c g q : Nat} {l : List Nat} {xs : List Value} (h : w.ownsRow B 31 1 (.slice (some ⟨g, 0, none⟩) n c) n xs) (hl : l.length = n) :
    (putRow u64v (Sort.ahead w q) g 0 l.toArray).ownsRow B 31 1 (.slice (some ⟨g, 0, none⟩) n c) n (l.map u64v) ∧ But [g] w (putRow u64v (Sort.ahead w q) g 0 l.toArray) := by
  obtain ⟨h1, h2⟩ := h
  rcases h2 with ⟨e1, _⟩ | ⟨g', cap, cur, e1, hB, hh, hc, hm2, hs, hp⟩
  · cases e1
  · injection e1 with e2 e3 e4
    simp only [Option.some.injEq, Addr.mk.injEq, and_true] at e2
    subst e2; subst e4
    refine ⟨⟨by simp [hl], .inr ⟨g, c, putCells u64v 0 l.toArray cur, rfl, hB, ?_, hc, hm2, ?_, ?_⟩⟩, ?_⟩
    · simp [putRow, mapBlock, Sort.ahead, Array.getElem?_modify, hh, onCells]
    · simp [putCells, hs]
    · rw [Nat.mul_one]
      apply List.ext_getElem?
      intro j
      by_cases hj : j < n
      · rw [List.getElem?_take_of_lt hj, Array.getElem?_toList]
        simp [putCells, hl, hj, show j < cur.size by omega]
      · rw [List.getElem?_take_eq_none (by omega), List.getElem?_eq_none (by simp; omega)]
    · refine ⟨rfl, rfl, rfl, by simp [Sort.ahead], fun k hk hne => ?_⟩
      have : g ≠ k := fun e => hne (by simp [e])
      simp [putRow, mapBlock, Sort.ahead, Array.getElem?_modify, this]

set_option maxRecDepth 100000 in
set_option maxHeartbeats 4000000 in
theorem vGrow (n : Nat) (w : World) (hn : n ≤ 1000000000000) :
    Calls Try.prog 38 #[.slice none 0 0, .int .i64 n] w fun e w' => ∃ v, e = .returned v ∧ OwnU w' w.heap.size v [] ∧ Below w.heap.size w w' := by
  have w1 : IntKind.i64.wrap (n : Int) = (n : Int) := by rw [IntKind.wrap_i64]; omega
  have z0 : ¬ (n : Int) < 0 := by omega
  go_enter Try.func38, Try.ntmps38
  by_cases h0 : n = 0
  · subst h0
    go_wp2
    go_ret
    exact ⟨_, rfl, World.ownsRow_nil _ _ _ _, Below.refl _ _⟩
  · have z1 : (0 : Int) < (n : Int) := by omega
    have own0 : w.ownsRow w.heap.size 31 1 (.slice none 0 0) 0 [] := World.ownsRow_nil _ _ _ _
    go_wp2_with (at_builtin; refine wpList_app_zeros _ rfl u64E Try.underlying3 rfl rfl rfl rfl own0 rfl (by simp; omega) (Nat.le_refl _) ?_; intro v1 w1 own1 hg1 hb1 _; rw [Nat.zero_add] at own1; obtain ⟨A1, c1, rfl, -⟩ := own_form own1; obtain ⟨g, rfl, -, -, -, -, -⟩ := own_at own1 (by omega))
    go_ret
    exact ⟨_, rfl, own_cut own1 (Nat.zero_le _), hb1⟩

/-- a slice of uint64 that comes in: where, its capacity, what it holds -/
abbrev SlU := Option Addr × Nat × List Nat
def SlU.v (p : SlU) : Value := .slice p.1 p.2.2.length p.2.1
def catU (ls : List SlU) : List Nat := ls.flatMap fun p => p.2.2
theorem catU_take {ls : List SlU} {k : Nat} (h : k < ls.length) : catU (ls.take (k + 1)) = catU (ls.take k) ++ ls[k].2.2 := by
  unfold catU; rw [List.take_succ_eq_append_getElem h, List.flatMap_append, List.flatMap_cons, List.flatMap_nil, List.append_nil]
theorem catU_le (ls : List SlU) (k : Nat) : (catU (ls.take k)).length ≤ (catU ls).length := by
  have h : catU ls = catU (ls.take k) ++ catU (ls.drop k) := by unfold catU; rw [← List.flatMap_append, List.take_append_drop]
  rw [h, List.length_append]; omega

set_option maxRecDepth 100000 in
set_option maxHeartbeats 4000000 in
theorem vConcat (ls : List SlU) (A : Option Addr) (c B : Nat) (w : World) (hr : Row w B 1 A ls.length (ls.map SlU.v)) (hB : B ≤ w.heap.size) (hs : ∀ p ∈ ls, Row w B 1 p.1 p.2.2.length (p.2.2.map u64v)) (hl : (catU ls).length ≤ 1000000000000) (hn : ls.length ≤ 1000000000000) :
    Calls Try.prog 26 #[.slice A ls.length c] w fun e w' => ∃ v, e = .returned v ∧ OwnU w' w.heap.size v (catU ls) ∧ Below w.heap.size w w' := by
  obtain ⟨n, hn'⟩ : ∃ n, n = ls.length := ⟨_, rfl⟩
  rw [← hn'] at hn hr ⊢
  obtain ⟨N, hN⟩ : ∃ N, N = (catU ls).length := ⟨_, rfl⟩
  have HN := Lib.hid hN
  have Hn := Lib.hid hn'; clear hn'
  have hl' : N ≤ 1000000000000 := by rw [hN]; exact hl
  clear hN hl
  go_enter Try.func26, Try.ntmps26
  go_wp2
  go_loopw [3, 11] (fun z i wr => ∃ (k t : Nat), k ≤ n ∧ i = .int .i64 k ∧ z = .int .i64 t ∧ Hid (t = (catU (ls.take k)).length) ∧ Below w.heap.size w wr) (fun _ i _ => n - (intOf i).toNat)
  case atStart => exact ⟨0, 0, by omega, rfl, rfl, Lib.hid (by simp [catU]), Below.refl _ _⟩
  case round =>
    obtain ⟨k, t, hk, rfl, rfl, ht, hbel⟩ := hrel
    obtain ⟨wo, rfl⟩ : ∃ wo : World, wo = wr := ⟨_, rfl⟩
    have htN : t ≤ N := by rw [ht.out, HN.out]; exact catU_le ls k
    by_cases hlt : k < n
    · have hkl : k < ls.length := by rw [← Hn.out]; exact hlt
      have lt1 : (k : Int) < (n : Int) := by omega
      have w1 : IntKind.i64.wrap ((k : Int) + 1) = (k : Int) + 1 := by rw [IntKind.wrap_i64]; omega
      obtain ⟨b, off, rfl, hb, hc⟩ := hr.at_ hlt
      obtain ⟨p, hp⟩ : ∃ p, p = ls[k] := ⟨_, rfl⟩
      obtain ⟨t2, ht2⟩ : ∃ t2, t2 = t + p.2.2.length := ⟨_, rfl⟩
      have ht2' : t2 = (catU (ls.take (k + 1))).length := by rw [ht2, ht.out, hp, catU_take hkl, List.length_append]
      have ht2N : t2 ≤ N := by rw [ht2', HN.out]; exact catU_le ls _
      have cp : wo.cell? ⟨b, off + k, none⟩ = some (.slice p.1 p.2.2.length p.2.1) := by
        rw [hbel.cell (p := ⟨b, off + k, none⟩) (by show b < _; omega), hc k (by simpa using hkl), List.getElem_map, hp]; rfl
      have w2 : IntKind.i64.wrap ((t : Int) + (p.2.2.length : Int)) = (t2 : Int) := by rw [IntKind.wrap_i64]; omega
      have z0 : ¬ (t2 : Int) < 0 := by omega
      clear hc
      have Hp := Lib.hid hp; clear hp
      have Ht2 := Lib.hid ht2; clear ht2
      have Ht2' := Lib.hid ht2'; clear ht2'
      go_wp2
      refine ⟨⟨k + 1, t2, by omega, by simp, rfl, Lib.hid Ht2'.out, hbel⟩, by simp [intOf]; omega⟩
    · obtain rfl : k = n := by omega
      obtain rfl : t = N := by rw [ht.out, HN.out, Hn.out, List.take_length]
      have sB := hbel.size
      go_wp2_with fail
      refine (vGrow t wo hl').mono ?_
      rintro e w2 ⟨v2, rfl, own2, hb2⟩
      have own2' : OwnU w2 w.heap.size v2 [] := own_mono own2 sB
      have hb2' : Below w.heap.size w w2 := hbel.trans (hb2.mono sB)
      have s2 := hb2'.size
      clear own2 hb2
      go_wp2
      go_loopw [6, 27] (fun v i wr => ∃ (j : Nat), j ≤ k ∧ i = .int .i64 j ∧ OwnU wr w.heap.size v (catU (ls.take j)) ∧ Below w.heap.size w wr) (fun _ i _ => k - (intOf i).toNat)
      case atStart => exact ⟨0, by omega, rfl, own2', hb2'⟩
      case round =>
        obtain ⟨j, hj, rfl, own3, hbel3⟩ := hrel
        obtain ⟨wp, rfl⟩ : ∃ wp : World, wp = wr := ⟨_, rfl⟩
        have s3 := hbel3.size
        by_cases hlt : j < k
        · have hkl : j < ls.length := by rw [← Hn.out]; exact hlt
          have lt1 : (j : Int) < (k : Int) := by omega
          have w1 : IntKind.i64.wrap ((j : Int) + 1) = (j : Int) + 1 := by rw [IntKind.wrap_i64]; omega
          obtain ⟨b, off, rfl, hb, hc⟩ := hr.at_ hlt
          obtain ⟨p, hp⟩ : ∃ p, p = ls[j] := ⟨_, rfl⟩
          have hrow := (hs p (by rw [hp]; exact List.getElem_mem _)).below (hbel3.mono hB)
          have hlen : (catU (ls.take j)).length + p.2.2.length ≤ 1000000000000 := by
            have := catU_le ls (j + 1)
            rw [catU_take hkl, List.length_append, ← hp, ← HN.out] at this
            omega
          have cp : wp.cell? ⟨b, off + j, none⟩ = some (.slice p.1 p.2.2.length p.2.1) := by
            rw [hbel3.cell (p := ⟨b, off + j, none⟩) (by show b < _; omega), hc j (by simpa using hkl), List.getElem_map, hp]; rfl
          clear hc
          have Hp := Lib.hid hp; clear hp
          obtain ⟨T, hT⟩ : ∃ T, T = catU (ls.take j) := ⟨_, rfl⟩
          rw [← hT] at own3 hlen
          have HT := Lib.hid hT; clear hT
          go_wp2_with (at_builtin; refine wpList_app _ rfl u64E rfl rfl own3 rfl hrow (u64v_one _) (by omega) s3 ?_; intro v5 w5 own5 hg5 hb5 _)
          case roundEnd =>
            refine ⟨⟨j + 1, by omega, by simp, ?_, hbel3.trans hb5⟩, by simp [intOf]; omega⟩
            rw [catU_take hkl, ← HT.out, ← Hp.out]
            unfold OwnU
            rw [List.length_append, List.map_append]
            exact own5
        · obtain rfl : j = k := by omega
          rw [Hn.out, List.take_length] at own3
          go_wp2
          go_ret
          exact ⟨_, rfl, own3, hbel3⟩
end Go.Proofs.Ytmalkgakdmghiaa
