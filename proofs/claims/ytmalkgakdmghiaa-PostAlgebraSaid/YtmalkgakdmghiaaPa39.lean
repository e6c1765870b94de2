import Derived.Test.YtmalkgakdmghiaaPa31
/-! slices at []uint64: Concat as large as two lists that come in may be -/
namespace Go.Proofs.Ytmalkgakdmghiaa
open Go.RowKit Go.Shelf Go.Lib Go.Sort Garner

/-- append where there is room -/
theorem run_fit {P : Program} {t e : TypeId} (ty : TypeId) (w : World) {bytes : Nat} {z : Value} (E : Elem P t e z 1 bytes) {base g n cap : Nat} {l : List Nat}
    (hown : w.ownsRow base e 1 (.slice (some ⟨g, 0, none⟩) n cap) n (l.map u64v)) {B : Nat} {A : Option Addr} {m c : Nat} {news : List Nat} (hr : Row w B 1 A m (news.map u64v)) (hroom : n + m ≤ cap) (hbase : base ≤ w.heap.size) :
    ∃ w', (Builtin.append_ #[t, t] ty #[.slice (some ⟨g, 0, none⟩) n cap, .slice A m c]).run P w = .ok (.slice (some ⟨g, 0, none⟩) (n + m) cap) w' ∧ w'.ownsRow base e 1 (.slice (some ⟨g, 0, none⟩) (n + m) cap) (n + m) (l.map u64v ++ news.map u64v) ∧ Below base w w' ∧ w.grownBy w' (some g) := by
  obtain ⟨i, hi, hz, hsize, hby⟩ := info_parts E.info
  have fin : ∀ w', w.grownBy w' (Value.ownBlock (.slice (some ⟨g, 0, none⟩) n cap)) → Below base w w' := fun w' hg => (Below.refl base w).grown hg hbase fun k hk => (hown.lt k hk).1
  obtain ⟨g', cap', cur, hv, hbg, hg, hnc, hcm, hcs, htake⟩ := hown.2.resolve_left (by rintro ⟨h, -⟩; cases h)
  cases hv
  have hl : (news.map u64v).length = m := by have := hr.1; omega
  have hlen : (l.map u64v ++ news.map u64v).length = (n + m) * 1 := by rw [List.length_append, hown.1, hl]; omega
  have key : ∀ ad : Addr, A = some ad → (∀ j u, (news.map u64v)[j]? = some u → w.cell? (ad.add j) = some u) → ∃ w', (Builtin.append_ #[t, t] ty #[.slice (some ⟨g, 0, none⟩) n cap, .slice A m c]).run P w = .ok (.slice (some ⟨g, 0, none⟩) (n + m) cap) w' ∧ w'.ownsRow base e 1 (.slice (some ⟨g, 0, none⟩) (n + m) cap) (n + m) (l.map u64v ++ news.map u64v) ∧ Below base w w' ∧ w.grownBy w' (some g) := by
    rintro ad rfl hcells
    have hfit : n * i.size + (news.map u64v).length ≤ cur.size := by rw [hl, hsize]; omega
    have hrun := run_append_room (P := P) w t ty e i E.slice hi g n cap cur hg ad m c (news.map u64v) (by rw [hl, hsize]; omega) hcells (u64v_one _) hroom hfit
    have hg2 : w.grownBy (w.setRow g (cur.toList.take (n * i.size) ++ news.map u64v ++ cur.toList.drop (n * i.size + (news.map u64v).length)).toArray) (Value.ownBlock (.slice (some ⟨g, 0, none⟩) n cap)) :=
      ⟨rfl, rfl, rfl, by simp, fun k _ hk => setRow_other w g k _ (fun e => hk (by simp [Value.ownBlock, e]))⟩
    refine ⟨_, hrun, ⟨hlen, .inr ⟨g, cap, _, rfl, hbg, setRow_heap w g cur _ e _ hg, hroom, hcm, ?_, ?_⟩⟩, fin _ hg2, hg2⟩
    · simp only [List.size_toArray, List.length_append, List.length_take, List.length_drop, Array.length_toList]
      omega
    · rw [hsize, htake, ← hlen]
      exact List.take_left
  rcases Nat.eq_zero_or_pos m with h0 | h0
  · subst h0
    have hn : news = [] := by simpa using hl
    subst hn
    rcases A with _ | ad
    · exact ⟨w, run_append_of_nil w base t ty e i 1 E.slice hi _ n _ hown none c rfl, by simpa using hown, Below.refl _ _, World.grownBy.refl w _⟩
    · exact key ad rfl (by intro j u hu; simp at hu)
  · obtain ⟨b, off, rfl, _, hc⟩ := hr.2 h0
    exact key _ rfl fun j u hu => by rw [addr_add]; exact hc j u hu

/-- append(nil, make(..)...): as large as Go's append grants -/
theorem run_zeros0 {P : Program} {t tn e : TypeId} (w : World) {z : Value} {bytes : Nat} (E : Elem P t e z 1 bytes) {kn : IntKind} (htn : P.underlying tn = some (.int kn)) (ty : TypeId) (hzc : z.cells = #[z])
    {k : Nat} (h0 : 0 < k) (hbytes : k * bytes ≤ 281474976710656) :
    ∃ c w', (Builtin.append_ #[t, tn] ty #[.slice none 0 0, .int .i64 k]).run P w = .ok (.slice (some ⟨w.heap.size, 0, none⟩) k c) w' ∧ w'.ownsRow w.heap.size e 1 (.slice (some ⟨w.heap.size, 0, none⟩) k c) k (List.replicate k z) ∧ k ≤ c ∧ Below w.heap.size w w' := by
  obtain ⟨i, hi, hz, hsize, hby⟩ := info_parts E.info
  have h63 : k ≤ maxLen := by
    have := Nat.mul_le_mul_left k E.bpos
    simp only [maxLen]; omega
  have hge := grownCap_ge w k 0 e
  have hcm : grownCap w k 0 e ≤ maxLen := grownCap_le_maxLen w k 0 e h63
  have hold : (Builtin.firstCells i.size 0 (.slice none 0 0)).run P w.drew = .ok ([] : List Value).toArray w.drew := run_firstCells_none w.drew i.size 0 0 0
  have hnx : Builtin.nextslicecap k 0 = k := by unfold Builtin.nextslicecap; rw [if_pos (by omega)]
  have hr := Lib.run_append_grow_zeros w t tn ty e i z .i64 kn E.slice htn hi hz none 0 0 [] hold k h0 (by omega) (by omega) (by simp only [maxLen] at h63; omega) (by rw [hby]; omega) (by rw [hby, Nat.zero_add, hnx]; omega)
  rw [Nat.zero_add] at hr
  refine ⟨_, _, hr, ⟨by simp, .inr ⟨w.heap.size, _, _, rfl, Nat.le_refl _, heap_alloc_new w.drew _, hge, hcm, ?_, ?_⟩⟩, hge, ?_⟩
  · rw [hzc, zeroCells_one, zeroCells_one]
    simp; omega
  · rw [hzc, zeroCells_one, zeroCells_one]
    simp
  · exact (Below.refl _ _).drew.alloc (Nat.le_refl _) _

set_option maxRecDepth 100000 in
set_option maxHeartbeats 4000000 in
theorem vGrowG (n : Nat) (w : World) (hn : n ≤ 35184372088832) (h0 : 0 < n) :
    Calls Try.prog 38 #[.slice none 0 0, .int .i64 n] w fun e w' => ∃ g c, e = .returned (.slice (some ⟨g, 0, none⟩) 0 c) ∧ n ≤ c ∧ OwnU w' w.heap.size (.slice (some ⟨g, 0, none⟩) 0 c) [] ∧ Below w.heap.size w w' := by
  have w1 : IntKind.i64.wrap (n : Int) = (n : Int) := by rw [IntKind.wrap_i64]; omega
  have z0 : ¬ (n : Int) < 0 := by omega
  obtain ⟨c, w', hrun, own1, hc, hb1⟩ := run_zeros0 (P := Try.prog) w u64E Try.underlying3 22 rfl h0 (by omega)
  go_enter Try.func38, Try.ntmps38
  have z1 : (0 : Int) < (n : Int) := by omega
  go_wp2_with (at_builtin; refine Lib.wpList_append_run w rfl _ _ _ _ rfl _ _ rfl rfl _ _ hrun ?_)
  go_ret
  exact ⟨_, _, rfl, hc, own_cut own1 (Nat.zero_le _), hb1⟩

set_option maxRecDepth 100000 in
set_option maxHeartbeats 4000000 in
theorem vConcatG (ls : List SlU) (A : Option Addr) (c B : Nat) (w : World) (hr : Row w B 1 A ls.length (ls.map SlU.v)) (hB : B ≤ w.heap.size) (hs : ∀ p ∈ ls, Row w B 1 p.1 p.2.2.length (p.2.2.map u64v)) (hl : (catU ls).length ≤ 35184372088832) (h0 : 0 < (catU ls).length) (hn : ls.length ≤ 1000000000000) :
    Calls Try.prog 26 #[.slice A ls.length c] w fun e w' => ∃ v, e = .returned v ∧ OwnU w' w.heap.size v (catU ls) ∧ Below w.heap.size w w' := by
  obtain ⟨n, hn'⟩ : ∃ n, n = ls.length := ⟨_, rfl⟩
  rw [← hn'] at hn hr ⊢
  obtain ⟨N, hN⟩ : ∃ N, N = (catU ls).length := ⟨_, rfl⟩
  have HN := Lib.hid hN
  have Hn := Lib.hid hn'; clear hn'
  have hl' : N ≤ 35184372088832 := by rw [hN]; exact hl
  have h0' : 0 < N := by rw [hN]; exact h0
  clear hN hl h0
  go_enter Try.func26, Try.ntmps26
  go_wp2
  go_loopw [3, 11] (fun z i wr => ∃ (k t : Nat), k ≤ n ∧ i = .int .i64 k ∧ z = .int .i64 t ∧ Hid (t = (catU (ls.take k)).length) ∧ Below w.heap.size w wr) (fun _ i _ => n - (intOf i).toNat)
  case atStart => exact ⟨0, 0, by omega, rfl, rfl, Lib.hid (by simp [catU]), Below.refl _ _⟩
  case round =>
    obtain ⟨k, t, hk, rfl, rfl, ht, hbel⟩ := hrel
    obtain ⟨wo, rfl⟩ : ∃ wo : World, wo = wr := ⟨_, rfl⟩
    have htN : t ≤ N := by rw [ht.out, HN.out]; exact catU_le ls k
    by_cases hlt : k < n
    · have hkl : k < ls.length := by rw [← Hn.out]; exact hlt
      have lt1 : (k : Int) < (n : Int) := by omega
      have w1 : IntKind.i64.wrap ((k : Int) + 1) = (k : Int) + 1 := by rw [IntKind.wrap_i64]; omega
      obtain ⟨b, off, rfl, hb, hc⟩ := hr.at_ hlt
      obtain ⟨p, hp⟩ : ∃ p, p = ls[k] := ⟨_, rfl⟩
      obtain ⟨t2, ht2⟩ : ∃ t2, t2 = t + p.2.2.length := ⟨_, rfl⟩
      have ht2' : t2 = (catU (ls.take (k + 1))).length := by rw [ht2, ht.out, hp, catU_take hkl, List.length_append]
      have ht2N : t2 ≤ N := by rw [ht2', HN.out]; exact catU_le ls _
      have cp : wo.cell? ⟨b, off + k, none⟩ = some (.slice p.1 p.2.2.length p.2.1) := by
        rw [hbel.cell (p := ⟨b, off + k, none⟩) (by show b < _; omega), hc k (by simpa using hkl), List.getElem_map, hp]; rfl
      have w2 : IntKind.i64.wrap ((t : Int) + (p.2.2.length : Int)) = (t2 : Int) := by rw [IntKind.wrap_i64]; omega
      have z0 : ¬ (t2 : Int) < 0 := by omega
      clear hc
      have Hp := Lib.hid hp; clear hp
      have Ht2 := Lib.hid ht2; clear ht2
      have Ht2' := Lib.hid ht2'; clear ht2'
      go_wp2
      refine ⟨⟨k + 1, t2, by omega, by simp, rfl, Lib.hid Ht2'.out, hbel⟩, by simp [intOf]; omega⟩
    · obtain rfl : k = n := by omega
      obtain rfl : t = N := by rw [ht.out, HN.out, Hn.out, List.take_length]
      have sB := hbel.size
      go_wp2_with fail
      refine (vGrowG t wo hl' h0').mono ?_
      rintro e w2 ⟨g2, c2, rfl, hcc, own2, hb2⟩
      have own2' : OwnU w2 w.heap.size (.slice (some ⟨g2, 0, none⟩) 0 c2) [] := own_mono own2 sB
      have hb2' : Below w.heap.size w w2 := hbel.trans (hb2.mono sB)
      have s2 := hb2'.size
      clear own2 hb2
      go_wp2
      go_loopw [6, 27] (fun v i wr => ∃ (j : Nat), j ≤ k ∧ i = .int .i64 j ∧ v = .slice (some ⟨g2, 0, none⟩) (catU (ls.take j)).length c2 ∧ OwnU wr w.heap.size (.slice (some ⟨g2, 0, none⟩) (catU (ls.take j)).length c2) (catU (ls.take j)) ∧ Below w.heap.size w wr) (fun _ i _ => k - (intOf i).toNat)
      case atStart => exact ⟨0, by omega, rfl, rfl, own2', hb2'⟩
      case round =>
        obtain ⟨j, hj, rfl, rfl, own3, hbel3⟩ := hrel
        obtain ⟨wp, rfl⟩ : ∃ wp : World, wp = wr := ⟨_, rfl⟩
        have s3 := hbel3.size
        by_cases hlt : j < k
        · have hkl : j < ls.length := by rw [← Hn.out]; exact hlt
          have lt1 : (j : Int) < (k : Int) := by omega
          have w1 : IntKind.i64.wrap ((j : Int) + 1) = (j : Int) + 1 := by rw [IntKind.wrap_i64]; omega
          obtain ⟨b, off, rfl, hb, hc⟩ := hr.at_ hlt
          obtain ⟨p, hp⟩ : ∃ p, p = ls[j] := ⟨_, rfl⟩
          have hrow := (hs p (by rw [hp]; exact List.getElem_mem _)).below (hbel3.mono hB)
          have hlen : (catU (ls.take j)).length + p.2.2.length ≤ t := by
            have := catU_le ls (j + 1)
            rw [catU_take hkl, List.length_append, ← hp, ← HN.out] at this
            omega
          have cp : wp.cell? ⟨b, off + j, none⟩ = some (.slice p.1 p.2.2.length p.2.1) := by
            rw [hbel3.cell (p := ⟨b, off + j, none⟩) (by show b < _; omega), hc j (by simpa using hkl), List.getElem_map, hp]; rfl
          clear hc
          have Hp := Lib.hid hp; clear hp
          obtain ⟨T, hT⟩ : ∃ T, T = catU (ls.take j) := ⟨_, rfl⟩
          rw [← hT] at own3 hlen ⊢
          have HT := Lib.hid hT; clear hT
          obtain ⟨w5, hrun5, own5, hb5, -⟩ := run_fit (P := Try.prog) 22 wp u64E own3 hrow (c := p.2.1) (by omega) s3
          go_wp2_with (at_builtin; refine Lib.wpList_append_run wp rfl _ _ _ _ rfl _ _ rfl rfl _ _ hrun5 ?_)
          case roundEnd =>
            have hct : catU (ls.take (j + 1)) = T ++ p.2.2 := by rw [catU_take hkl, ← HT.out, ← Hp.out]
            refine ⟨⟨j + 1, by omega, by simp, by rw [hct, List.length_append], ?_, hbel3.trans hb5⟩, by simp [intOf]; omega⟩
            rw [hct]
            unfold OwnU
            rw [List.length_append, List.map_append]
            exact own5
        · obtain rfl : j = k := by omega
          have he : catU (ls.take j) = catU ls := by rw [Hn.out, List.take_length]
          have He := Lib.hid he; clear he
          go_wp2
          go_ret
          refine ⟨_, rfl, ?_, hbel3⟩
          rw [He.out] at own3
          show OwnU _ _ (.slice (some ⟨g2, 0, none⟩) (catU (ls.take j)).length c2) _
          rw [He.out]
          exact own3
end Go.Proofs.Ytmalkgakdmghiaa
