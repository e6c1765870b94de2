import Derived.Test.YtmddgimadlmacaaMf07
import Derived.Test.YtmddgimadlmacaaMf04
import Derived.Test.YtmddgimadlmacaaMf03
import Derived.Maps.OwnOps
namespace Go.Proofs.Ytmddgimadlmacaa
open Go.RowKit Garner

theorem wpList_mput {P : Program} {κ : Type} [DecidableEq κ] {key : κ → Value} (w : World) {ops : Array Oper} {rest : List Oper} {o : Oper} {a : Act} {Q : Exit → Act → World → Prop}
    (hg : o.guard = none) {m x v : Operand} {t k e : TypeId} (hop : o.op = Op.mapUpdate t m x v) (K : KeyKind P k key) (ht : P.underlying t = some (.map k e)) {b : Nat} {al : List (κ × Value)}
    (hm : a.eval m = .map (some b)) (h : MapIs key w b al) {val : Value} (k0 : κ) (hx : a.eval x = key k0) (hv : a.eval v = val)
    (hK : ∀ w', MapIs key w' b (aput k0 val al) → w.grownBy w' (some b) → w'.heap.size = w.heap.size → wpList P ops Q rest (a.put o.dst undef) w') : wpList P ops Q (o :: rest) a w := by
  refine wpList_plain hg fun K' hK' => ?_
  obtain ⟨w', hrun, r1, r2, r3⟩ := run_put K ht h k0 val
  unfold Oper.wp
  simp [execOp, hop, hm, hx, hv, hrun, Result.andThen]
  exact hK' _ _ (hK w' r1 r2 r3)

def segV (s : Seg) : List Value := [.int .i64 s.id, .int .i64 s.count, .int .i64 s.mn, .int .i64 s.mx]
def segCells (l : List Seg) : List Value := l.flatMap segV
theorem segCells_len (l : List Seg) : (segCells l).length = l.length * 4 := by
  induction l with
  | nil => rfl
  | cons s l ih => unfold segCells at *; rw [List.flatMap_cons, List.length_append, ih, List.length_cons]; simp [segV]; omega
theorem segCells_at : ∀ (l : List Seg) (k j : Nat) (hk : k < l.length), j < 4 → (segCells l)[k * 4 + j]? = (segV l[k])[j]?
  | s :: l, 0, j, _, hj => by
    have : (segCells (s :: l)) = segV s ++ segCells l := rfl
    rw [this, List.getElem?_append_left (by simp [segV]; omega)]; simp
  | s :: l, k + 1, j, hk, hj => by
    have : (segCells (s :: l)) = segV s ++ segCells l := rfl
    rw [this, List.getElem?_append_right (by simp [segV]; omega)]
    have h4 : (segV s).length = 4 := rfl
    rw [h4, show (k + 1) * 4 + j - 4 = k * 4 + j by omega, segCells_at l k j (by simpa using hk) hj]
    rfl

abbrev manV (m : Man) (A : Option Addr) (c : Nat) : Value := .agg #[.int .i64 m.wal, .int .i64 m.next, .int .u64 m.seq, .int .i64 m.mark, .slice A m.segs.length c]
abbrev manBox (m : Man) (A : Option Addr) (c : Nat) : Obj := .cells #[.int .i64 m.wal, .int .i64 m.next, .int .u64 m.seq, .int .i64 m.mark, .slice A m.segs.length c] 25
abbrev Segs (w : World) (B : Nat) (A : Option Addr) (n : Nat) (l : List Seg) : Prop := Row w B 4 A n (segCells l)

theorem seg_at {w : World} {B : Nat} {A : Option Addr} {n : Nat} {l : List Seg} (h : Segs w B A n l) (hn : n = l.length) {k : Nat} (hk : k < l.length) :
    ∃ b off, A = some ⟨b, off, none⟩ ∧ b < B ∧ w.cell? ⟨b, off + k * 4, none⟩ = some (.int .i64 l[k].id) ∧ w.cell? ⟨b, off + k * 4 + 1, none⟩ = some (.int .i64 l[k].count) ∧
      w.cell? ⟨b, off + k * 4 + 2, none⟩ = some (.int .i64 l[k].mn) ∧ w.cell? ⟨b, off + k * 4 + 3, none⟩ = some (.int .i64 l[k].mx) := by
  obtain ⟨b, off, e, hb, hc⟩ := h.2 (by omega)
  refine ⟨b, off, e, hb, ?_, ?_, ?_, ?_⟩
  · have := hc (k * 4 + 0) _ (by rw [segCells_at l k 0 hk (by omega)]; rfl); simpa [Nat.add_assoc] using this
  · have := hc (k * 4 + 1) _ (by rw [segCells_at l k 1 hk (by omega)]; rfl); simpa [Nat.add_assoc] using this
  · have := hc (k * 4 + 2) _ (by rw [segCells_at l k 2 hk (by omega)]; rfl); simpa [Nat.add_assoc] using this
  · have := hc (k * 4 + 3) _ (by rw [segCells_at l k 3 hk (by omega)]; rfl); simpa [Nat.add_assoc] using this

def ones (l : List Int) : List (Int × Value) := l.map fun i => (i, .int .i64 1)
theorem ones_get (a : Int) : ∀ l : List Int, (aget a (ones l)).getD (.int .i64 0) = .int .i64 (if a ∈ l then 1 else 0)
  | [] => rfl
  | b :: l => by
    have e : ones (b :: l) = (b, .int .i64 1) :: ones l := rfl
    rw [e, aget]
    by_cases h : a = b
    · rw [if_pos h, if_pos (by simp [h])]; rfl
    · rw [if_neg h, ones_get a l]; simp [h]
theorem ones_put (a : Int) : ∀ l : List Int, a ∉ l → aput a (.int .i64 1) (ones l) = ones (l ++ [a])
  | [], _ => rfl
  | b :: l, h => by
    have e : ones (b :: l) = (b, .int .i64 1) :: ones l := rfl
    rw [e, aput, if_neg (fun e => h (by simp [e])), ones_put a l (fun h' => h (by simp [h']))]
    rfl

theorem zero3 (w : World) : (zeroValue 3).run Try.prog w = .ok (.int .i64 0) w := by kernel_rfl

set_option maxRecDepth 100000 in
set_option maxHeartbeats 2000000 in
theorem vMay (m : Man) (A : Option Addr) (c B : Nat) (w : World) (hr : Segs w B A m.segs.length m.segs) (hB : B ≤ w.heap.size) (hw : m.wf) (hl : m.segs.length ≤ 140737488355328) :
    Calls Try.prog 47 #[manV m A c] w fun e w' => e = .returned (.bool (decide (may m))) ∧ Below w.heap.size w w' := by
  obtain ⟨b1, b2⟩ := hw.wal; obtain ⟨b3, b4⟩ := hw.next
  have Hw := Lib.hid hw; clear hw
  by_cases hhead : 1 ≤ m.wal ∧ m.wal ≤ 1000000000 ∧ 1 ≤ m.next ∧ m.next ≤ 1000000000 ∧ (m.segs.length : Int) ≤ 1024
  · obtain ⟨c1, c2, c3, c4, c5⟩ := hhead
    have hmm := @run_makeMap Try.prog
    go_enter Try.func47, Try.ntmps47
    go_wp2
    go_loopw [34] (fun i wr => ∃ k : Nat, k ≤ m.segs.length ∧ i = .int .i64 k ∧ segsOk m.next [] (m.segs.take k) ∧ MapIs (fun n : Int => Value.int .i64 n) wr (w.heap.size + 1) (ones (ids (m.segs.take k))) ∧ Below (w.heap.size + 1) (w.alloc (manBox m A c)) wr) (fun i _ => m.segs.length - (intOf i).toNat)
    case atStart => exact ⟨0, by omega, rfl, by simp [segsOk], by simpa [ones, ids] using MapIs.made (w.alloc (manBox m A c)), (Below.refl _ _).alloc (by simp) _⟩
    case round =>
      obtain ⟨k, hk, rfl, hok, hmap, hbel⟩ := hrel
      have Hok := Lib.hid hok; clear hok
      have hbw : Below w.heap.size w wr := ((Below.refl _ _).alloc (Nat.le_refl _) _).trans (hbel.mono (by omega))
      have hs0 : w.heap.size + 1 ≤ wr.heap.size := by have := hbel.size; simpa using this
      have hcn : wr.cell? ⟨w.heap.size, 1, none⟩ = some (.int .i64 m.next) := (hbel.cell (p := ⟨w.heap.size, 1, none⟩) (by show w.heap.size < _; omega)).trans (cell_new _ _ _ _ _ rfl)
      have hcn' : ∀ o : Obj, (wr.alloc o).cell? ⟨w.heap.size, 1, none⟩ = some (.int .i64 m.next) := fun o => (World.cell?_alloc_lt wr o ⟨w.heap.size, 1, none⟩ (by show w.heap.size < _; omega)).trans hcn
      by_cases hlt : (k : Int) < m.segs.length
      · have hlt' : k < m.segs.length := by omega
        obtain ⟨b, off, rfl, hb, g0, g1, g2, g3⟩ := seg_at hr rfl hlt'
        have hwf := Hw.out.segs _ (List.getElem_mem hlt')
        obtain ⟨s, hs⟩ : ∃ s, s = m.segs[k] := ⟨_, rfl⟩
        rw [← hs] at g0 g1 g2 g3 hwf
        obtain ⟨w1, w2⟩ := hwf.id; obtain ⟨w3, w4⟩ := hwf.count; obtain ⟨w5, w6⟩ := hwf.mn; obtain ⟨w7, w8⟩ := hwf.mx
        clear hwf
        have Hs := Lib.hid hs; clear hs
        have e0 := (hbw.cell (p := ⟨b, off + k * 4, none⟩) (by show b < _; omega)).trans g0
        have e1 := (hbw.cell (p := ⟨b, off + k * 4 + 1, none⟩) (by show b < _; omega)).trans g1
        have e2 := (hbw.cell (p := ⟨b, off + k * 4 + 2, none⟩) (by show b < _; omega)).trans g2
        have e3 := (hbw.cell (p := ⟨b, off + k * 4 + 3, none⟩) (by show b < _; omega)).trans g3
        clear g0 g1 g2 g3
        have hlook : ∀ (o : Obj), (Instr.lookup 111 (.map (some (w.heap.size + 1))) (.int .i64 s.id) false).run Try.prog (wr.alloc o) = .ok (.int .i64 (if s.id ∈ ids (m.segs.take k) then 1 else 0)) (wr.alloc o) := fun o => by
          have := run_look (intKeys Try.underlying3) Try.underlying111 (hmap.alloc o) (zero3 _) s.id false
          rwa [ones_get] at this
        have Hmap := Lib.hid hmap; clear hmap
        by_cases hmem : s.id ∈ ids (m.segs.take k)
        · simp only [if_pos hmem] at hlook
          have Hno : Hid (decide (may m) = false) := decide_eq_false fun hm => segsOk_of_not hlt' Hok.out (fun h => h.2.2.1 (by rw [← Hs.out]; exact hmem)) hm.2.2.2.2.2
          have Hmem := Lib.hid hmem; clear hmem
          go_wp2
          all_goals
            go_ret
            rw [Hno.out]
            exact ⟨rfl, hbw.alloc (by omega) _⟩
        · simp only [if_neg hmem] at hlook
          have Hmem := Lib.hid hmem; clear hmem
          by_cases hall : 1 ≤ s.id ∧ s.id < m.next ∧ 1 ≤ s.count ∧ s.count ≤ 65536 ∧ s.mn ≤ s.mx
          · obtain ⟨a1, a2, a3, a4, a5⟩ := hall
            go_wp2_with (at_mapUpdate; refine wpList_mput (val := .int .i64 1) _ rfl rfl (intKeys Try.underlying3) Try.underlying111 rfl (Hmap.out.alloc _) s.id rfl rfl ?_; intro w2 hmap2 hg2 hz2)
            go_roundw
            case rel =>
              refine ⟨k + 1, by omega, by go_num, (segsOk_step Hok.out hlt').2 ?_, ?_, ?_⟩
              · rw [← Hs.out]; exact ⟨a1, a2, Hmem.out, a3, a4, a5⟩
              · rw [ones_put _ _ Hmem.out] at hmap2
                have e : ids (m.segs.take (k + 1)) = ids (m.segs.take k) ++ [s.id] := by
                  rw [List.take_succ_eq_append_getElem hlt', ← Hs.out]; simp [ids]
                rw [e]; exact hmap2
              · exact (hbel.alloc (by omega) _).grown hg2 (by simp; omega) (by simp)
            case measure => simp [intOf]; omega
          · have Hno : Hid (decide (may m) = false) := decide_eq_false fun hm => segsOk_of_not hlt' Hok.out (fun h => hall (by rw [← Hs.out] at h; exact ⟨h.1, h.2.1, h.2.2.2.1, h.2.2.2.2.1, h.2.2.2.2.2⟩)) hm.2.2.2.2.2
            have Hall := Lib.hid hall; clear hall
            go_wp2
            all_goals first
              | (go_ret; rw [Hno.out]; exact ⟨rfl, hbw.alloc (by omega) _⟩)
              | exact absurd ⟨by omega, by omega, by omega, by omega, by omega⟩ Hall.out
      · have hge : ¬ k < m.segs.length := by omega
        go_wp2
        go_ret
        refine ⟨?_, hbw⟩
        have hok := Hok.out
        rw [List.take_of_length_le (by omega)] at hok
        rw [decide_eq_true (show may m from ⟨c1, c2, c3, c4, by omega, hok⟩)]
        rfl
  · have Hno : Hid (decide (may m) = false) := decide_eq_false fun hm => hhead ⟨hm.1, hm.2.1, hm.2.2.1, hm.2.2.2.1, by have := hm.2.2.2.2.1; omega⟩
    have Hhead := Lib.hid hhead; clear hhead
    go_enter Try.func47, Try.ntmps47
    go_wp2
    all_goals first
      | (go_ret; rw [Hno.out]; exact ⟨rfl, (Below.refl _ _).alloc (Nat.le_refl _) _⟩)
      | exact absurd ⟨by omega, by omega, by omega, by omega, by omega⟩ Hhead.out
end Go.Proofs.Ytmddgimadlmacaa
namespace Go.Proofs.Ytmddgimadlmacaa
open Go.RowKit Garner

def headOk (m : Man) : Prop := 1 ≤ m.wal ∧ m.wal ≤ 1000000000 ∧ 1 ≤ m.next ∧ m.next ≤ 1000000000 ∧ (m.segs.length : Int) ≤ 1024
instance decHead (m : Man) : Decidable (headOk m) := by unfold headOk; infer_instance
theorem may_iff (m : Man) : may m ↔ headOk m ∧ segsOk m.next [] m.segs := by
  unfold may headOk
  constructor
  · rintro ⟨a, b, c, d, e, f⟩; exact ⟨⟨a, b, c, d, by omega⟩, f⟩
  · rintro ⟨⟨a, b, c, d, e⟩, f⟩; exact ⟨a, b, c, d, by omega, f⟩

theorem mem_ids_succ {l : List Seg} {j : Nat} (hj : j < l.length) (x : Int) : x ∈ ids (l.take (j + 1)) ↔ x ∈ ids (l.take j) ∨ x = l[j].id := by
  unfold ids; rw [List.take_succ_eq_append_getElem hj, List.map_append, List.mem_append]; simp
theorem mem_ids_mono {l : List Seg} {j k : Nat} (hjk : j ≤ k) (x : Int) (h : x ∈ ids (l.take j)) : x ∈ ids (l.take k) := by
  unfold ids at *
  obtain ⟨s, hs, rfl⟩ := List.mem_map.1 h
  refine List.mem_map.2 ⟨s, ?_, rfl⟩
  have : l.take j = (l.take k).take j := by rw [List.take_take, Nat.min_eq_left hjk]
  rw [this] at hs
  exact List.mem_of_mem_take hs

set_option maxRecDepth 100000 in
set_option maxHeartbeats 4000000 in
theorem rMay (m : Man) (A : Option Addr) (c B : Nat) (w : World) (hr : Segs w B A m.segs.length m.segs) (hB : B ≤ w.heap.size) (hw : m.wf) (hl : m.segs.length ≤ 140737488355328) :
    Calls Try.prog 51 #[manV m A c] w fun e w' => e = .returned (.bool (decide (may m))) ∧ Below w.heap.size w w' := by
  obtain ⟨b1, b2⟩ := hw.wal; obtain ⟨b3, b4⟩ := hw.next
  have Hw := Lib.hid hw; clear hw
  by_cases hhead : headOk m
  · have Hq0 : Hid (decide (headOk m ∧ segsOk m.next [] (m.segs.take 0)) = true) := decide_eq_true ⟨hhead, by simp [segsOk]⟩
    have Hhead := Lib.hid hhead
    unfold headOk at hhead
    obtain ⟨c1, c2, c3, c4, c5⟩ := hhead
    go_enter Try.func51, Try.ntmps51
    go_wp2
    go_loopw [3, 4] (fun q i wr => ∃ (k : Nat) (qq : Bool), k ≤ m.segs.length ∧ i = .int .i64 k ∧ q = .bool qq ∧ Hid (qq = decide (headOk m ∧ segsOk m.next [] (m.segs.take k))) ∧ Below (w.heap.size + 1) (w.alloc (manBox m A c)) wr) (fun _ i _ => m.segs.length - (intOf i).toNat)
    case atStart => exact ⟨0, _, by omega, rfl, rfl, Hq0.out.symm, Below.refl _ _⟩
    case round =>
      obtain ⟨k, qq, hk, rfl, rfl, Hqq, hbel⟩ := hrel
      obtain ⟨wo, rfl⟩ : ∃ wo : World, wo = wr := ⟨_, rfl⟩
      have hbw : Below w.heap.size w wo := ((Below.refl _ _).alloc (Nat.le_refl _) _).trans (hbel.mono (by omega))
      have hs0 : w.heap.size + 1 ≤ wo.heap.size := by have := hbel.size; simpa using this
      have hcn : wo.cell? ⟨w.heap.size, 1, none⟩ = some (.int .i64 m.next) := (hbel.cell (p := ⟨w.heap.size, 1, none⟩) (by show w.heap.size < _; omega)).trans (cell_new _ _ _ _ _ rfl)
      have hcs : wo.cell? ⟨w.heap.size, 4, none⟩ = some (.slice A m.segs.length c) := (hbel.cell (p := ⟨w.heap.size, 4, none⟩) (by show w.heap.size < _; omega)).trans (cell_new _ _ _ _ _ rfl)
      have hcn' : ∀ o : Obj, (wo.alloc o).cell? ⟨w.heap.size, 1, none⟩ = some (.int .i64 m.next) := fun o => (World.cell?_alloc_lt wo o ⟨w.heap.size, 1, none⟩ (by show w.heap.size < _; omega)).trans hcn
      by_cases hlt : (k : Int) < m.segs.length
      · have hlt' : k < m.segs.length := by omega
        obtain ⟨b, off, rfl, hb, g0, g1, g2, g3⟩ := seg_at hr rfl hlt'
        have hwf := Hw.out.segs _ (List.getElem_mem hlt')
        obtain ⟨s, hs⟩ : ∃ s, s = m.segs[k] := ⟨_, rfl⟩
        rw [← hs] at g0 g1 g2 g3 hwf
        obtain ⟨w1, w2⟩ := hwf.id; obtain ⟨w3, w4⟩ := hwf.count; obtain ⟨w5, w6⟩ := hwf.mn; obtain ⟨w7, w8⟩ := hwf.mx
        clear hwf
        have Hs := Lib.hid hs; clear hs
        have e0 := (hbw.cell (p := ⟨b, off + k * 4, none⟩) (by show b < _; omega)).trans g0
        have e1 := (hbw.cell (p := ⟨b, off + k * 4 + 1, none⟩) (by show b < _; omega)).trans g1
        have e2 := (hbw.cell (p := ⟨b, off + k * 4 + 2, none⟩) (by show b < _; omega)).trans g2
        have e3 := (hbw.cell (p := ⟨b, off + k * 4 + 3, none⟩) (by show b < _; omega)).trans g3
        clear g0 g1 g2 g3
        have Hr := Lib.hid hr; clear hr
        have Hbel := Lib.hid hbel; clear hbel
        have Hbw := Lib.hid hbw; clear hbw
        by_cases hpre : segsOk m.next [] (m.segs.take k)
        · obtain rfl : qq = true := Hqq.out.trans (decide_eq_true ⟨Hhead.out, hpre⟩)
          have Hpre := Lib.hid hpre; clear hpre
          by_cases hall : 1 ≤ s.id ∧ s.id < m.next ∧ 1 ≤ s.count ∧ s.count ≤ 65536 ∧ s.mn ≤ s.mx
          · obtain ⟨a1, a2, a3, a4, a5⟩ := hall
            go_wp2
            go_loopw [3, 6] (fun q j wi => ∃ (i : Nat) (qi : Bool), i ≤ k ∧ j = .int .i64 i ∧ q = .bool qi ∧ Hid (qi = decide (s.id ∉ ids (m.segs.take i))) ∧ Below (wo.heap.size + 1) (wo.alloc (.cells #[.int .i64 s.id, .int .i64 s.count, .int .i64 s.mn, .int .i64 s.mx] 36)) wi) (fun _ j _ => k - (intOf j).toNat)
            case atStart => exact ⟨0, true, by omega, rfl, rfl, by simp [Hid, ids], Below.refl _ _⟩
            case round =>
              obtain ⟨i, qi, hi, rfl, rfl, Hqi, hbi⟩ := hrel
              have hbo : Below wo.heap.size wo wr := ((Below.refl _ _).alloc (Nat.le_refl _) _).trans (hbi.mono (by omega))
              have x0 : wr.cell? ⟨wo.heap.size, 0, none⟩ = some (.int .i64 s.id) := (hbi.cell (p := ⟨wo.heap.size, 0, none⟩) (by show wo.heap.size < _; omega)).trans (cell_new _ _ _ _ _ rfl)
              have xs : wr.cell? ⟨w.heap.size, 4, none⟩ = some (.slice (some ⟨b, off, none⟩) m.segs.length c) := (hbo.cell (p := ⟨w.heap.size, 4, none⟩) (by show w.heap.size < _; omega)).trans hcs
              by_cases hik : (i : Int) < k
              · have hil : i < m.segs.length := by omega
                obtain ⟨b', off', hA', hb', g0, _⟩ := seg_at Hr.out rfl hil
                simp only [Option.some.injEq, Addr.mk.injEq, and_true] at hA'
                obtain ⟨rfl, rfl⟩ := hA'
                have y0 : wr.cell? ⟨b, off + i * 4, none⟩ = some (.int .i64 m.segs[i].id) := ((hbo.cell (p := ⟨b, off + i * 4, none⟩) (by show b < _; omega)).trans (Hbw.out.cell (p := ⟨b, off + i * 4, none⟩) (by show b < _; omega))).trans g0
                clear g0
                have hil2 : (i : Int) < m.segs.length := by omega
                by_cases hmem : s.id ∈ ids (m.segs.take i)
                · have Hmem := Lib.hid hmem
                  obtain rfl : qi = false := Hqi.out.trans (decide_eq_false fun h => h hmem)
                  clear hmem
                  go_wp2
                  go_roundw
                  case rel => exact ⟨k + 1, _, by omega, by go_num, rfl, (decide_eq_false fun h => ((segsOk_step Hpre.out hlt').1 h.2).2.2.1 (by rw [← Hs.out]; exact mem_ids_mono (by omega) _ Hmem.out)).symm, (Hbel.out.alloc (by omega) _).trans (hbi.mono (by omega))⟩
                  case measure => simp [intOf]; omega
                · have Hmem := Lib.hid hmem
                  obtain rfl : qi = true := Hqi.out.trans (decide_eq_true hmem)
                  clear hmem
                  go_wp2_with fail
                  go_quiet (fail)
                  go_wp2
                  go_roundw
                  case rel =>
                    refine ⟨i + 1, _, by omega, by go_num, rfl, ?_, below_drewN hbi _⟩
                    show _ = _
                    rw [Bool.eq_iff_iff]
                    simp only [bne_iff_ne, ne_eq, decide_eq_true_eq, mem_ids_succ hil, not_or]
                    exact ⟨fun h => ⟨Hmem.out, fun h' => h h'.symm⟩, fun h h' => h.2 h'.symm⟩
                  case measure => simp [intOf]; omega
              · obtain rfl : i = k := by omega
                go_wp2
                go_roundw
                case rel =>
                  refine ⟨i + 1, _, by omega, by go_num, rfl, ?_, (Hbel.out.alloc (by omega) _).trans (hbi.mono (by omega))⟩
                  show _ = _
                  rw [Hqi.out, Bool.eq_iff_iff, decide_eq_true_eq, decide_eq_true_eq, segsOk_step Hpre.out hlt', ← Hs.out]
                  exact ⟨fun h => ⟨Hhead.out, a1, a2, h, a3, a4, a5⟩, fun h => h.2.2.2.1⟩
                case measure => simp [intOf]; omega
          · have Hno : Hid (decide (headOk m ∧ segsOk m.next [] (m.segs.take (k + 1))) = false) := decide_eq_false fun h => hall (by
              have h2 := (segsOk_step Hpre.out hlt').1 h.2
              rw [← Hs.out] at h2; exact ⟨h2.1, h2.2.1, h2.2.2.2.1, h2.2.2.2.2.1, h2.2.2.2.2.2⟩)
            rcases (show ¬ 1 ≤ s.id ∨ ¬ s.id < m.next ∨ ¬ 1 ≤ s.count ∨ ¬ s.count ≤ 65536 ∨ ¬ s.mn ≤ s.mx by omega) with hx | hx | hx | hx | hx
            all_goals
              clear hall
              go_wp2
              all_goals
                refine wp_loop_rounds 1 ?_
                rw [rounds_succ]
                go_wp2
                all_goals
                  go_roundw
                  case rel => exact ⟨k + 1, _, by omega, by go_num, rfl, Hno.out.symm, Hbel.out.alloc (by omega) _⟩
                  case measure => simp [intOf]; omega
        · have hqf : Hid (∀ k', k ≤ k' → decide (headOk m ∧ segsOk m.next [] (m.segs.take k')) = false) := fun k' hk' => decide_eq_false fun h => hpre (by
            have := segsOk_take (k := k) h.2
            rwa [List.take_take, Nat.min_eq_left hk'] at this)
          obtain rfl : qq = false := Hqq.out.trans (hqf.out k (Nat.le_refl _))
          have Hpre := Lib.hid hpre; clear hpre
          go_wp2
          refine wp_loop_rounds 1 ?_
          rw [rounds_succ]
          go_wp2
          all_goals
            go_roundw
            case rel => exact ⟨k + 1, _, by omega, by go_num, rfl, (hqf.out _ (by omega)).symm, Hbel.out.alloc (by omega) _⟩
            case measure => simp [intOf]; omega
      · have hge : ¬ k < m.segs.length := by omega
        go_wp2
        go_ret
        refine ⟨?_, hbw⟩
        obtain rfl : k = m.segs.length := by omega
        have e : decide (may m) = qq := by rw [Hqq.out, List.take_length]; exact decide_eq_decide.2 (may_iff m)
        rw [e]
        rfl
  · have Hq0 : Hid (decide (headOk m ∧ segsOk m.next [] (m.segs.take 0)) = false) := decide_eq_false fun h => hhead h.1
    have Hhead := Lib.hid hhead
    unfold headOk at hhead
    rcases (show ¬ 1 ≤ m.wal ∨ ¬ m.wal ≤ 1000000000 ∨ ¬ 1 ≤ m.next ∨ ¬ m.next ≤ 1000000000 ∨ ¬ (m.segs.length : Int) ≤ 1024 by omega) with hx | hx | hx | hx | hx
    all_goals
      clear hhead
      go_enter Try.func51, Try.ntmps51
      go_wp2
    all_goals
      go_loopw [3, 4] (fun q i wr => ∃ (k : Nat) (qq : Bool), k ≤ m.segs.length ∧ i = .int .i64 k ∧ q = .bool qq ∧ Hid (qq = decide (headOk m ∧ segsOk m.next [] (m.segs.take k))) ∧ Below (w.heap.size + 1) (w.alloc (manBox m A c)) wr) (fun _ i _ => m.segs.length - (intOf i).toNat)
      case atStart => exact ⟨0, _, by omega, rfl, rfl, Hq0.out.symm, Below.refl _ _⟩
      case round =>
        obtain ⟨k, qq, hk, rfl, rfl, Hqq, hbel⟩ := hrel
        obtain ⟨wo, rfl⟩ : ∃ wo : World, wo = wr := ⟨_, rfl⟩
        have hbw : Below w.heap.size w wo := ((Below.refl _ _).alloc (Nat.le_refl _) _).trans (hbel.mono (by omega))
        have hs0 : w.heap.size + 1 ≤ wo.heap.size := by have := hbel.size; simpa using this
        have hcn : wo.cell? ⟨w.heap.size, 1, none⟩ = some (.int .i64 m.next) := (hbel.cell (p := ⟨w.heap.size, 1, none⟩) (by show w.heap.size < _; omega)).trans (cell_new _ _ _ _ _ rfl)
        have hcs : wo.cell? ⟨w.heap.size, 4, none⟩ = some (.slice A m.segs.length c) := (hbel.cell (p := ⟨w.heap.size, 4, none⟩) (by show w.heap.size < _; omega)).trans (cell_new _ _ _ _ _ rfl)
        have hcn' : ∀ o : Obj, (wo.alloc o).cell? ⟨w.heap.size, 1, none⟩ = some (.int .i64 m.next) := fun o => (World.cell?_alloc_lt wo o ⟨w.heap.size, 1, none⟩ (by show w.heap.size < _; omega)).trans hcn
        by_cases hlt : (k : Int) < m.segs.length
        · have hlt' : k < m.segs.length := by omega
          obtain ⟨b, off, rfl, hb, g0, g1, g2, g3⟩ := seg_at hr rfl hlt'
          have hwf := Hw.out.segs _ (List.getElem_mem hlt')
          obtain ⟨s, hs⟩ : ∃ s, s = m.segs[k] := ⟨_, rfl⟩
          rw [← hs] at g0 g1 g2 g3 hwf
          obtain ⟨w1, w2⟩ := hwf.id; obtain ⟨w3, w4⟩ := hwf.count; obtain ⟨w5, w6⟩ := hwf.mn; obtain ⟨w7, w8⟩ := hwf.mx
          clear hwf
          have Hs := Lib.hid hs; clear hs
          have e0 := (hbw.cell (p := ⟨b, off + k * 4, none⟩) (by show b < _; omega)).trans g0
          have e1 := (hbw.cell (p := ⟨b, off + k * 4 + 1, none⟩) (by show b < _; omega)).trans g1
          have e2 := (hbw.cell (p := ⟨b, off + k * 4 + 2, none⟩) (by show b < _; omega)).trans g2
          have e3 := (hbw.cell (p := ⟨b, off + k * 4 + 3, none⟩) (by show b < _; omega)).trans g3
          clear g0 g1 g2 g3
          have Hr := Lib.hid hr; clear hr
          have Hbel := Lib.hid hbel; clear hbel
          have Hbw := Lib.hid hbw; clear hbw
          have hqf : Hid (∀ k', decide (headOk m ∧ segsOk m.next [] (m.segs.take k')) = false) := fun k' => decide_eq_false fun h => Hhead.out h.1
          obtain rfl : qq = false := Hqq.out.trans (hqf.out k)
          go_wp2
          refine wp_loop_rounds 1 ?_
          rw [rounds_succ]
          go_wp2
          all_goals
            go_roundw
            case rel => exact ⟨k + 1, _, by omega, by go_num, rfl, (hqf.out _).symm, Hbel.out.alloc (by omega) _⟩
            case measure => simp [intOf]; omega
        · have hge : ¬ k < m.segs.length := by omega
          go_wp2
          go_ret
          refine ⟨?_, hbw⟩
          obtain rfl : k = m.segs.length := by omega
          have e : decide (may m) = qq := by rw [Hqq.out, List.take_length]; exact decide_eq_decide.2 (may_iff m)
          rw [e]
          rfl

end Go.Proofs.Ytmddgimadlmacaa
