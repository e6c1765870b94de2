import Derived.Test.YtmddgimadlmacaaMay
namespace Go.Proofs.Ytmddgimadlmacaa
open Go.RowKit Garner

def headOk (m : Man) : Prop := 1 ≤ m.wal ∧ m.wal ≤ 1000000000 ∧ 1 ≤ m.next ∧ m.next ≤ 1000000000 ∧ (m.segs.length : Int) ≤ 1024
instance decHead (m : Man) : Decidable (headOk m) := by unfold headOk; infer_instance
theorem may_iff (m : Man) : may m ↔ headOk m ∧ segsOk m.next [] m.segs := by
  unfold may headOk
  constructor
  · rintro ⟨a, b, c, d, e, f⟩; exact ⟨⟨a, b, c, d, by omega⟩, f⟩
  · rintro ⟨⟨a, b, c, d, e⟩, f⟩; exact ⟨a, b, c, d, by omega, f⟩

theorem mem_ids_succ {l : List Seg} {j : Nat} (hj : j < l.length) (x : Int) : x ∈ ids (l.take (j + 1)) ↔ x ∈ ids (l.take j) ∨ x = l[j].id := by
  unfold ids; rw [List.take_succ_eq_append_getElem hj, List.map_append, List.mem_append]; simp
theorem mem_ids_mono {l : List Seg} {j k : Nat} (hjk : j ≤ k) (x : Int) (h : x ∈ ids (l.take j)) : x ∈ ids (l.take k) := by
  unfold ids at *
  obtain ⟨s, hs, rfl⟩ := List.mem_map.1 h
  refine List.mem_map.2 ⟨s, ?_, rfl⟩
  have : l.take j = (l.take k).take j := by rw [List.take_take, Nat.min_eq_left hjk]
  rw [this] at hs
  exact List.mem_of_mem_take hs

set_option maxRecDepth 100000 in
set_option maxHeartbeats 4000000 in
theorem rMay (m : Man) (A : Option Addr) (c B : Nat) (w : World) (hr : Segs w B A m.segs.length m.segs) (hB : B ≤ w.heap.size) (hw : m.wf) (hl : m.segs.length ≤ 140737488355328) :
    Calls Try.prog 51 #[manV m A c] w fun e w' => e = .returned (.bool (decide (may m))) ∧ Below w.heap.size w w' := by
  obtain ⟨b1, b2⟩ := hw.wal; obtain ⟨b3, b4⟩ := hw.next
  have Hw := Lib.hid hw; clear hw
  by_cases hhead : headOk m
  · have Hq0 : Hid (decide (headOk m ∧ segsOk m.next [] (m.segs.take 0)) = true) := decide_eq_true ⟨hhead, by simp [segsOk]⟩
    have Hhead := Lib.hid hhead
    unfold headOk at hhead
    obtain ⟨c1, c2, c3, c4, c5⟩ := hhead
    go_enter Try.func51, Try.ntmps51
    go_wp2
    go_loopw [3, 4] (fun q i wr => ∃ (k : Nat) (qq : Bool), k ≤ m.segs.length ∧ i = .int .i64 k ∧ q = .bool qq ∧ Hid (qq = decide (headOk m ∧ segsOk m.next [] (m.segs.take k))) ∧ Below (w.heap.size + 1) (w.alloc (manBox m A c)) wr) (fun _ i _ => m.segs.length - (intOf i).toNat)
    case atStart => exact ⟨0, _, by omega, rfl, rfl, Hq0.out.symm, Below.refl _ _⟩
    case round =>
      obtain ⟨k, qq, hk, rfl, rfl, Hqq, hbel⟩ := hrel
      obtain ⟨wo, rfl⟩ : ∃ wo : World, wo = wr := ⟨_, rfl⟩
      have hbw : Below w.heap.size w wo := ((Below.refl _ _).alloc (Nat.le_refl _) _).trans (hbel.mono (by omega))
      have hs0 : w.heap.size + 1 ≤ wo.heap.size := by have := hbel.size; simpa using this
      have hcn : wo.cell? ⟨w.heap.size, 1, none⟩ = some (.int .i64 m.next) := (hbel.cell (p := ⟨w.heap.size, 1, none⟩) (by show w.heap.size < _; omega)).trans (cell_new _ _ _ _ _ rfl)
      have hcs : wo.cell? ⟨w.heap.size, 4, none⟩ = some (.slice A m.segs.length c) := (hbel.cell (p := ⟨w.heap.size, 4, none⟩) (by show w.heap.size < _; omega)).trans (cell_new _ _ _ _ _ rfl)
      have hcn' : ∀ o : Obj, (wo.alloc o).cell? ⟨w.heap.size, 1, none⟩ = some (.int .i64 m.next) := fun o => (World.cell?_alloc_lt wo o ⟨w.heap.size, 1, none⟩ (by show w.heap.size < _; omega)).trans hcn
      by_cases hlt : (k : Int) < m.segs.length
      · have hlt' : k < m.segs.length := by omega
        obtain ⟨b, off, rfl, hb, g0, g1, g2, g3⟩ := seg_at hr rfl hlt'
        have hwf := Hw.out.segs _ (List.getElem_mem hlt')
        obtain ⟨s, hs⟩ : ∃ s, s = m.segs[k] := ⟨_, rfl⟩
        rw [← hs] at g0 g1 g2 g3 hwf
        obtain ⟨w1, w2⟩ := hwf.id; obtain ⟨w3, w4⟩ := hwf.count; obtain ⟨w5, w6⟩ := hwf.mn; obtain ⟨w7, w8⟩ := hwf.mx
        clear hwf
        have Hs := Lib.hid hs; clear hs
        have e0 := (hbw.cell (p := ⟨b, off + k * 4, none⟩) (by show b < _; omega)).trans g0
        have e1 := (hbw.cell (p := ⟨b, off + k * 4 + 1, none⟩) (by show b < _; omega)).trans g1
        have e2 := (hbw.cell (p := ⟨b, off + k * 4 + 2, none⟩) (by show b < _; omega)).trans g2
        have e3 := (hbw.cell (p := ⟨b, off + k * 4 + 3, none⟩) (by show b < _; omega)).trans g3
        clear g0 g1 g2 g3
        have Hr := Lib.hid hr; clear hr
        have Hbel := Lib.hid hbel; clear hbel
        have Hbw := Lib.hid hbw; clear hbw
        by_cases hpre : segsOk m.next [] (m.segs.take k)
        · obtain rfl : qq = true := Hqq.out.trans (decide_eq_true ⟨Hhead.out, hpre⟩)
          have Hpre := Lib.hid hpre; clear hpre
          by_cases hall : 1 ≤ s.id ∧ s.id < m.next ∧ 1 ≤ s.count ∧ s.count ≤ 65536 ∧ s.mn ≤ s.mx
          · obtain ⟨a1, a2, a3, a4, a5⟩ := hall
            go_wp2
            go_loopw [3, 6] (fun q j wi => ∃ (i : Nat) (qi : Bool), i ≤ k ∧ j = .int .i64 i ∧ q = .bool qi ∧ Hid (qi = decide (s.id ∉ ids (m.segs.take i))) ∧ Below (wo.heap.size + 1) (wo.alloc (.cells #[.int .i64 s.id, .int .i64 s.count, .int .i64 s.mn, .int .i64 s.mx] 36)) wi) (fun _ j _ => k - (intOf j).toNat)
            case atStart => exact ⟨0, true, by omega, rfl, rfl, by simp [Hid, ids], Below.refl _ _⟩
            case round =>
              obtain ⟨i, qi, hi, rfl, rfl, Hqi, hbi⟩ := hrel
              have hbo : Below wo.heap.size wo wr := ((Below.refl _ _).alloc (Nat.le_refl _) _).trans (hbi.mono (by omega))
              have x0 : wr.cell? ⟨wo.heap.size, 0, none⟩ = some (.int .i64 s.id) := (hbi.cell (p := ⟨wo.heap.size, 0, none⟩) (by show wo.heap.size < _; omega)).trans (cell_new _ _ _ _ _ rfl)
              have xs : wr.cell? ⟨w.heap.size, 4, none⟩ = some (.slice (some ⟨b, off, none⟩) m.segs.length c) := (hbo.cell (p := ⟨w.heap.size, 4, none⟩) (by show w.heap.size < _; omega)).trans hcs
              by_cases hik : (i : Int) < k
              · have hil : i < m.segs.length := by omega
                obtain ⟨b', off', hA', hb', g0, _⟩ := seg_at Hr.out rfl hil
                simp only [Option.some.injEq, Addr.mk.injEq, and_true] at hA'
                obtain ⟨rfl, rfl⟩ := hA'
                have y0 : wr.cell? ⟨b, off + i * 4, none⟩ = some (.int .i64 m.segs[i].id) := ((hbo.cell (p := ⟨b, off + i * 4, none⟩) (by show b < _; omega)).trans (Hbw.out.cell (p := ⟨b, off + i * 4, none⟩) (by show b < _; omega))).trans g0
                clear g0
                have hil2 : (i : Int) < m.segs.length := by omega
                by_cases hmem : s.id ∈ ids (m.segs.take i)
                · have Hmem := Lib.hid hmem
                  obtain rfl : qi = false := Hqi.out.trans (decide_eq_false fun h => h hmem)
                  clear hmem
                  go_wp2
                  go_roundw
                  case rel => exact ⟨k + 1, _, by omega, by go_num, rfl, (decide_eq_false fun h => ((segsOk_step Hpre.out hlt').1 h.2).2.2.1 (by rw [← Hs.out]; exact mem_ids_mono (by omega) _ Hmem.out)).symm, (Hbel.out.alloc (by omega) _).trans (hbi.mono (by omega))⟩
                  case measure => simp [intOf]; omega
                · have Hmem := Lib.hid hmem
                  obtain rfl : qi = true := Hqi.out.trans (decide_eq_true hmem)
                  clear hmem
                  go_wp2_with fail
                  go_quiet (fail)
                  go_wp2
                  go_roundw
                  case rel =>
                    refine ⟨i + 1, _, by omega, by go_num, rfl, ?_, below_drewN hbi _⟩
                    show _ = _
                    rw [Bool.eq_iff_iff]
                    simp only [bne_iff_ne, ne_eq, decide_eq_true_eq, mem_ids_succ hil, not_or]
                    exact ⟨fun h => ⟨Hmem.out, fun h' => h h'.symm⟩, fun h h' => h.2 h'.symm⟩
                  case measure => simp [intOf]; omega
              · obtain rfl : i = k := by omega
                go_wp2
                go_roundw
                case rel =>
                  refine ⟨i + 1, _, by omega, by go_num, rfl, ?_, (Hbel.out.alloc (by omega) _).trans (hbi.mono (by omega))⟩
                  show _ = _
                  rw [Hqi.out, Bool.eq_iff_iff, decide_eq_true_eq, decide_eq_true_eq, segsOk_step Hpre.out hlt', ← Hs.out]
                  exact ⟨fun h => ⟨Hhead.out, a1, a2, h, a3, a4, a5⟩, fun h => h.2.2.2.1⟩
                case measure => simp [intOf]; omega
          · have Hno : Hid (decide (headOk m ∧ segsOk m.next [] (m.segs.take (k + 1))) = false) := decide_eq_false fun h => hall (by
              have h2 := (segsOk_step Hpre.out hlt').1 h.2
              rw [← Hs.out] at h2; exact ⟨h2.1, h2.2.1, h2.2.2.2.1, h2.2.2.2.2.1, h2.2.2.2.2.2⟩)
            rcases (show ¬ 1 ≤ s.id ∨ ¬ s.id < m.next ∨ ¬ 1 ≤ s.count ∨ ¬ s.count ≤ 65536 ∨ ¬ s.mn ≤ s.mx by omega) with hx | hx | hx | hx | hx
            all_goals
              clear hall
              go_wp2
              all_goals
                refine wp_loop_rounds 1 ?_
                rw [rounds_succ]
                go_wp2
                all_goals
                  go_roundw
                  case rel => exact ⟨k + 1, _, by omega, by go_num, rfl, Hno.out.symm, Hbel.out.alloc (by omega) _⟩
                  case measure => simp [intOf]; omega
        · have hqf : Hid (∀ k', k ≤ k' → decide (headOk m ∧ segsOk m.next [] (m.segs.take k')) = false) := fun k' hk' => decide_eq_false fun h => hpre (by
            have := segsOk_take (k := k) h.2
            rwa [List.take_take, Nat.min_eq_left hk'] at this)
          obtain rfl : qq = false := Hqq.out.trans (hqf.out k (Nat.le_refl _))
          have Hpre := Lib.hid hpre; clear hpre
          go_wp2
          refine wp_loop_rounds 1 ?_
          rw [rounds_succ]
          go_wp2
          all_goals
            go_roundw
            case rel => exact ⟨k + 1, _, by omega, by go_num, rfl, (hqf.out _ (by omega)).symm, Hbel.out.alloc (by omega) _⟩
            case measure => simp [intOf]; omega
      · have hge : ¬ k < m.segs.length := by omega
        go_wp2
        go_ret
        refine ⟨?_, hbw⟩
        obtain rfl : k = m.segs.length := by omega
        have e : decide (may m) = qq := by rw [Hqq.out, List.take_length]; exact decide_eq_decide.2 (may_iff m)
        rw [e]
        rfl
  · have Hq0 : Hid (decide (headOk m ∧ segsOk m.next [] (m.segs.take 0)) = false) := decide_eq_false fun h => hhead h.1
    have Hhead := Lib.hid hhead
    unfold headOk at hhead
    rcases (show ¬ 1 ≤ m.wal ∨ ¬ m.wal ≤ 1000000000 ∨ ¬ 1 ≤ m.next ∨ ¬ m.next ≤ 1000000000 ∨ ¬ (m.segs.length : Int) ≤ 1024 by omega) with hx | hx | hx | hx | hx
    all_goals
      clear hhead
      go_enter Try.func51, Try.ntmps51
      go_wp2
    all_goals
      go_loopw [3, 4] (fun q i wr => ∃ (k : Nat) (qq : Bool), k ≤ m.segs.length ∧ i = .int .i64 k ∧ q = .bool qq ∧ Hid (qq = decide (headOk m ∧ segsOk m.next [] (m.segs.take k))) ∧ Below (w.heap.size + 1) (w.alloc (manBox m A c)) wr) (fun _ i _ => m.segs.length - (intOf i).toNat)
      case atStart => exact ⟨0, _, by omega, rfl, rfl, Hq0.out.symm, Below.refl _ _⟩
      case round =>
        obtain ⟨k, qq, hk, rfl, rfl, Hqq, hbel⟩ := hrel
        obtain ⟨wo, rfl⟩ : ∃ wo : World, wo = wr := ⟨_, rfl⟩
        have hbw : Below w.heap.size w wo := ((Below.refl _ _).alloc (Nat.le_refl _) _).trans (hbel.mono (by omega))
        have hs0 : w.heap.size + 1 ≤ wo.heap.size := by have := hbel.size; simpa using this
        have hcn : wo.cell? ⟨w.heap.size, 1, none⟩ = some (.int .i64 m.next) := (hbel.cell (p := ⟨w.heap.size, 1, none⟩) (by show w.heap.size < _; omega)).trans (cell_new _ _ _ _ _ rfl)
        have hcs : wo.cell? ⟨w.heap.size, 4, none⟩ = some (.slice A m.segs.length c) := (hbel.cell (p := ⟨w.heap.size, 4, none⟩) (by show w.heap.size < _; omega)).trans (cell_new _ _ _ _ _ rfl)
        have hcn' : ∀ o : Obj, (wo.alloc o).cell? ⟨w.heap.size, 1, none⟩ = some (.int .i64 m.next) := fun o => (World.cell?_alloc_lt wo o ⟨w.heap.size, 1, none⟩ (by show w.heap.size < _; omega)).trans hcn
        by_cases hlt : (k : Int) < m.segs.length
        · have hlt' : k < m.segs.length := by omega
          obtain ⟨b, off, rfl, hb, g0, g1, g2, g3⟩ := seg_at hr rfl hlt'
          have hwf := Hw.out.segs _ (List.getElem_mem hlt')
          obtain ⟨s, hs⟩ : ∃ s, s = m.segs[k] := ⟨_, rfl⟩
          rw [← hs] at g0 g1 g2 g3 hwf
          obtain ⟨w1, w2⟩ := hwf.id; obtain ⟨w3, w4⟩ := hwf.count; obtain ⟨w5, w6⟩ := hwf.mn; obtain ⟨w7, w8⟩ := hwf.mx
          clear hwf
          have Hs := Lib.hid hs; clear hs
          have e0 := (hbw.cell (p := ⟨b, off + k * 4, none⟩) (by show b < _; omega)).trans g0
          have e1 := (hbw.cell (p := ⟨b, off + k * 4 + 1, none⟩) (by show b < _; omega)).trans g1
          have e2 := (hbw.cell (p := ⟨b, off + k * 4 + 2, none⟩) (by show b < _; omega)).trans g2
          have e3 := (hbw.cell (p := ⟨b, off + k * 4 + 3, none⟩) (by show b < _; omega)).trans g3
          clear g0 g1 g2 g3
          have Hr := Lib.hid hr; clear hr
          have Hbel := Lib.hid hbel; clear hbel
          have Hbw := Lib.hid hbw; clear hbw
          have hqf : Hid (∀ k', decide (headOk m ∧ segsOk m.next [] (m.segs.take k')) = false) := fun k' => decide_eq_false fun h => Hhead.out h.1
          obtain rfl : qq = false := Hqq.out.trans (hqf.out k)
          go_wp2
          refine wp_loop_rounds 1 ?_
          rw [rounds_succ]
          go_wp2
          all_goals
            go_roundw
            case rel => exact ⟨k + 1, _, by omega, by go_num, rfl, (hqf.out _).symm, Hbel.out.alloc (by omega) _⟩
            case measure => simp [intOf]; omega
        · have hge : ¬ k < m.segs.length := by omega
          go_wp2
          go_ret
          refine ⟨?_, hbw⟩
          obtain rfl : k = m.segs.length := by omega
          have e : decide (may m) = qq := by rw [Hqq.out, List.take_length]; exact decide_eq_decide.2 (may_iff m)
          rw [e]
          rfl

end Go.Proofs.Ytmddgimadlmacaa
