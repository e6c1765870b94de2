import Derived.Test.YtmddgimadlmacaaDoorWs46
import Derived.Test.YtmddgimadlmacaaDoorWs47
import Derived.Test.YtmddgimadlmacaaDoorWs48
/-! layer 10: both disks and both logs in one memory -/
namespace Go.Proofs.YtmddgimadlmacaaDoor
open Go.RowKit Garner

def nmAt (n : Int) : Bs := if 1 ≤ n ∧ n ≤ 1000000000 then walNm n.toNat else []
theorem nmAt_size (n : Int) : (nmS (nmAt n)).size ≤ 140737488355328 := by
  unfold nmAt
  split
  · exact nm_size (by omega)
  · decide
theorem pName (n : Int) (w : World) (ht : TabP w) : Calls Tryd.prog 19 #[.int .i64 n] w fun e w' => e = .returned (.string (nmS (nmAt n))) ∧ Below w.heap.size w w' := by
  unfold nmAt
  by_cases h : 1 ≤ n ∧ n ≤ 1000000000
  · rw [if_pos h]
    obtain ⟨m, rfl⟩ : ∃ m : Nat, n = m := ⟨n.toNat, by omega⟩
    exact vNm_tab m w h.1 h.2 ht
  · rw [if_neg h]
    exact (vNm_none n w (by omega)).mono fun _ _ ⟨h1, h2⟩ => ⟨h1, by rw [h2]; exact Below.refl _ _⟩
theorem qName (n : Int) (w : World) : Calls Tryd.prog 20 #[.int .i64 n] w fun e w' => e = .returned (.string (nmS (nmAt n))) ∧ Below w.heap.size w w' := by
  unfold nmAt
  by_cases h : 1 ≤ n ∧ n ≤ 1000000000
  · rw [if_pos h]
    obtain ⟨m, rfl⟩ : ∃ m : Nat, n = m := ⟨n.toNat, by omega⟩
    exact rNm m w h.1 h.2
  · rw [if_neg h]
    exact (rNm_none n w (by omega)).mono fun _ _ ⟨h1, h2⟩ => ⟨h1, by rw [h2]; exact Below.refl _ _⟩
section
variable {w0 w w1 X : World} {g mp gr gl rl fb N : Nat} {d d' b b' : AD} {lv rv : Value} {L L1 L2 : WL}
theorem rlog_ne {base : Nat} (h : DiskA base w g mp d) (hk : RLog w gr rl L) : rl ≠ g ∧ rl ≠ mp := by
  obtain ⟨es, h1, _⟩ := h.ex
  refine ⟨fun e => (hk.ne_ h1.blk (by decide)) e, fun e => ?_⟩
  subst e
  obtain ⟨_, _, hm1, _⟩ := h1.map
  unfold RLog Blk at hk
  rw [hm1] at hk; cases hk
def LokW (L : WL) : Prop := 1 ≤ L.first ∧ 1 ≤ L.n ∧ L.n ≤ 1000000000
/-- both logs -/
inductive Logs (w0 w : World) (g gr : Nat) : Value → Value → Option (WL × WL) → Prop
  | nil : Logs w0 w g gr (.pointer none) (.pointer none) none
  | both {gl rl : Nat} {L1 L2 : WL} (h1 : LogAt w g gl L1) (h2 : RLog w gr rl L2) (hlo : w0.heap.size ≤ gl ∧ w0.heap.size ≤ rl) : Logs w0 w g gr (.pointer (some ⟨gl, 0, none⟩)) (.pointer (some ⟨rl, 0, none⟩)) (some (L1, L2))
theorem Logs.below {lo : Option (WL × WL)} (h : Logs w0 w g gr lv rv lo) (hb : Below w.heap.size w w1) : Logs w0 w1 g gr lv rv lo := by
  cases h with
  | nil => exact .nil
  | both h1 h2 h3 => exact .both (h1.below hb h1.lt) (h2.below hb h2.lt) h3
theorem Logs.p {lo : Option (WL × WL)} (h : Logs w0 w g gr lv rv lo) (hu : UU w0 w g mp gr d b) (hb : But [g, mp] w w1) : Logs w0 w1 g gr lv rv lo := by
  cases h with
  | nil => exact .nil
  | both h1 h2 h3 =>
    have e1 := log_ne hu.d h1
    have e2 := rlog_ne hu.d h2
    exact .both (h1.but hb (by simp only [List.mem_cons, List.not_mem_nil, or_false]; omega)) (h2.but hb (by simp only [List.mem_cons, List.not_mem_nil, or_false]; omega)) h3
/-- a block of the document's files that is neither log -/
theorem UU.fbx {lo : Option (WL × WL)} (hu : UU w0 w g mp gr d b) (hl : Logs w0 w g gr lv rv lo) : ∃ fb, RefD w gr fb b ∧ (∀ k ∈ [g, mp], k ∉ [gr, fb]) ∧ w0.heap.size ≤ fb ∧ (∀ w1, But [gr, fb] w w1 → Logs w0 w1 g gr lv rv lo) := by
  obtain ⟨fb, h1, h2, h3⟩ := hu.r
  have hlo := hu.lo
  cases hl with
  | nil => exact ⟨fb, h1, h2, h3, fun _ _ => .nil⟩
  | both k1 k2 k3 =>
    obtain ⟨f1, r1, c1, n1, m1⟩ := h1.pick k1 (by decide) (by decide)
    obtain ⟨f2, r2, c2, n2, m2⟩ := r1.pick k2 (by decide) (by decide)
    have hd : ∀ k ∈ [g, mp], k ∉ [gr, f2] := fun k hk hm => by
      have := h2 k hk
      simp only [List.mem_cons, List.not_mem_nil, or_false] at hm this
      omega
    refine ⟨f2, r2, hd, by omega, fun w1 hb => .both (k1.but hb ?_) (k2.but hb ?_) k3⟩
    · simp only [List.mem_cons, List.not_mem_nil, or_false]; omega
    · simp only [List.mem_cons, List.not_mem_nil, or_false]; omega
/-- the program's log and disk have changed -/
theorem UU.p3 (h : UU w0 w g mp gr d b) (h1 : LogAt w g gl L1) (h2 : RLog w gr rl L2) (hlo : w0.heap.size ≤ gl) (hd : DiskA w0.heap.size w1 g mp d') (hb : But [g, mp, gl] w w1) : UU w0 w1 g mp gr d' b ∧ RLog w1 gr rl L2 := by
  obtain ⟨fb0, k1, k2, k3⟩ := h.r
  obtain ⟨fb, r1, c1, n1, m1⟩ := k1.pick h1 (by decide) (by decide)
  have e1 := h.d.hg; have e2 := h.d.hm
  obtain ⟨q1, q2, _⟩ := h.d.o.nbs
  have e3 := rlog_ne h.d h2
  have e4 : gl ≠ rl := Blk.ne_ h1 h2 (by decide)
  have hl := h.lo
  have hdj : ∀ k ∈ [g, mp], k ∉ [gr, fb] := fun k hk hm => by
    have := k2 k hk
    simp only [List.mem_cons, List.not_mem_nil, or_false] at hm this
    omega
  have hg := hdj g (by simp); have hm := hdj mp (by simp)
  simp only [List.mem_cons, List.not_mem_nil, or_false] at hg hm
  refine ⟨⟨hd, ⟨fb, r1.butT hb (by simp only [List.mem_cons, List.not_mem_nil, or_false]; omega) (by simp only [List.mem_cons, List.not_mem_nil, or_false]; omega) (fun k hk => ?_), hdj, by omega⟩, hl, h.b.trans (hb.below h.b.size (fun k hk => ?_))⟩, h2.but hb (by simp only [List.mem_cons, List.not_mem_nil, or_false]; omega)⟩
  · simp only [List.mem_cons, List.not_mem_nil, or_false] at hk
    rcases hk with rfl | rfl | rfl
    · exact Or.inl q1
    · exact Or.inl q2
    · exact Or.inl (NB.blk h1 (by decide))
  · simp only [List.mem_cons, List.not_mem_nil, or_false] at hk; omega
/-- the document's log and disk have changed -/
theorem UU.q3 (h : UU w0 w g mp gr d b) (h1 : LogAt w g gl L1) (h2 : RLog w gr rl L2) (hlo : w0.heap.size ≤ rl) : ∃ fb, RefD w gr fb b ∧ ∀ w1 fb' b', RefD w1 gr fb' b' → (fb' = fb ∨ fb' = gr ∨ w.heap.size ≤ fb') → But [gr, fb, rl] w w1 → UU w0 w1 g mp gr d b' ∧ LogAt w1 g gl L1 := by
  obtain ⟨fb0, k1, k2, k3⟩ := h.r
  obtain ⟨fb, r1, c1, n1, m1⟩ := k1.pick h1 (by decide) (by decide)
  refine ⟨fb, r1, fun w1 fb' b' hr hf hb => ?_⟩
  have e1 := h.d.hg; have e2 := h.d.hm
  obtain ⟨_, _, q1, q2⟩ := r1.lts
  have e3 := rlog_ne h.d h2
  have e4 : gl ≠ rl := Blk.ne_ h1 h2 (by decide)
  have hl := h.lo
  have hlt := h.d.lt
  have hs := h.b.size
  have hdj : ∀ k ∈ [g, mp], k ∉ [gr, fb] := fun k hk hm => by
    have := k2 k hk
    simp only [List.mem_cons, List.not_mem_nil, or_false] at hm this
    omega
  have hg := hdj g (by simp); have hm := hdj mp (by simp)
  simp only [List.mem_cons, List.not_mem_nil, or_false] at hg hm
  refine ⟨⟨h.d.butT hb (by simp only [List.mem_cons, List.not_mem_nil, or_false]; omega) (by simp only [List.mem_cons, List.not_mem_nil, or_false]; omega) (fun k hk => ?_), ⟨fb', hr, fun k hk hm => ?_, by omega⟩, hl, h.b.trans (hb.below h.b.size (fun k hk => ?_))⟩, h1.but hb (by simp only [List.mem_cons, List.not_mem_nil, or_false]; omega)⟩
  · simp only [List.mem_cons, List.not_mem_nil, or_false] at hk
    rcases hk with rfl | rfl | rfl
    · exact Or.inl q1
    · exact Or.inl q2
    · exact Or.inl (NB.blk h2 (by decide))
  · simp only [List.mem_cons, List.not_mem_nil, or_false] at hk hm; omega
  · simp only [List.mem_cons, List.not_mem_nil, or_false] at hk; omega
end
end Go.Proofs.YtmddgimadlmacaaDoor
/-! both logs at nil (printed by gen_wsn.py) -/
namespace Go.Proofs.YtmddgimadlmacaaDoor
open Go.RowKit Garner

set_option maxRecDepth 100000 in
set_option maxHeartbeats 1000000 in
theorem pLogAppendNil (A : Option Addr) (n c : Nat) (w : World) : Calls Tryd.prog 14 #[.pointer none, .slice A n c] w fun e w' => e = .returned (.int .i64 2) ∧ w' = w := by
  go_enter Tryd.func14, Tryd.ntmps14
  go_wp2
  go_ret
  exact ⟨rfl, rfl⟩

set_option maxRecDepth 100000 in
set_option maxHeartbeats 1000000 in
theorem pLogSyncNil (w : World) : Calls Tryd.prog 24 #[.pointer none] w fun e w' => e = .returned (.int .i64 2) ∧ w' = w := by
  go_enter Tryd.func24, Tryd.ntmps24
  go_wp2
  go_ret
  exact ⟨rfl, rfl⟩

set_option maxRecDepth 100000 in
set_option maxHeartbeats 1000000 in
theorem pLogRotateNil (w : World) : Calls Tryd.prog 16 #[.pointer none] w fun e w' => e = .returned (.int .i64 2) ∧ w' = w := by
  go_enter Tryd.func16, Tryd.ntmps16
  go_wp2
  go_ret
  exact ⟨rfl, rfl⟩

set_option maxRecDepth 100000 in
set_option maxHeartbeats 1000000 in
theorem pLogDropNil (n : Int) (w : World) : Calls Tryd.prog 17 #[.pointer none, .int .i64 n] w fun e w' => e = .returned (.int .i64 2) ∧ w' = w := by
  go_enter Tryd.func17, Tryd.ntmps17
  go_wp2
  go_ret
  exact ⟨rfl, rfl⟩

set_option maxRecDepth 100000 in
set_option maxHeartbeats 1000000 in
theorem pLogNumberNil (w : World) : Calls Tryd.prog 13 #[.pointer none] w fun e w' => e = .returned (.int .i64 0) ∧ w' = w := by
  go_enter Tryd.func13, Tryd.ntmps13
  go_wp2
  go_ret
  exact ⟨rfl, rfl⟩

set_option maxRecDepth 100000 in
set_option maxHeartbeats 1000000 in
theorem qLogAppendNil (A : Option Addr) (n c : Nat) (w : World) : Calls Tryd.prog 23 #[.pointer none, .slice A n c] w fun e w' => e = .returned (.int .i64 2) ∧ w' = w := by
  go_enter Tryd.func23, Tryd.ntmps23
  go_wp2
  go_ret
  exact ⟨rfl, rfl⟩

set_option maxRecDepth 100000 in
set_option maxHeartbeats 1000000 in
theorem qLogSyncNil (w : World) : Calls Tryd.prog 25 #[.pointer none] w fun e w' => e = .returned (.int .i64 2) ∧ w' = w := by
  go_enter Tryd.func25, Tryd.ntmps25
  go_wp2
  go_ret
  exact ⟨rfl, rfl⟩

set_option maxRecDepth 100000 in
set_option maxHeartbeats 1000000 in
theorem qLogRotateNil (w : World) : Calls Tryd.prog 26 #[.pointer none] w fun e w' => e = .returned (.int .i64 2) ∧ w' = w := by
  go_enter Tryd.func26, Tryd.ntmps26
  go_wp2
  go_ret
  exact ⟨rfl, rfl⟩

set_option maxRecDepth 100000 in
set_option maxHeartbeats 1000000 in
theorem qLogDropNil (n : Int) (w : World) : Calls Tryd.prog 27 #[.pointer none, .int .i64 n] w fun e w' => e = .returned (.int .i64 2) ∧ w' = w := by
  go_enter Tryd.func27, Tryd.ntmps27
  go_wp2
  go_ret
  exact ⟨rfl, rfl⟩

end Go.Proofs.YtmddgimadlmacaaDoor
