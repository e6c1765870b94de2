import Derived.Test.YtmddgimadlmacaaMf29
import Derived.Test.YtmddgimadlmacaaMf34
/-! the disks' methods at a nil receiver (printed by wip/gen_nil.py) -/
namespace Go.Proofs.Ytmddgimadlmacaa
open Go.RowKit Garner

set_option maxRecDepth 100000 in
theorem rChangeNil (a b : ByteArray) (w : World) : Calls Try.prog 83 #[.pointer none, .string a, .string b] w fun e w' => e = .returned (.int .i64 2) ∧ w' = w := by
  go_enter Try.func83, Try.ntmps83
  go_wp2
  go_ret
  exact ⟨rfl, rfl⟩
set_option maxRecDepth 100000 in
set_option maxHeartbeats 1000000 in
theorem pAppendNil (s : ByteArray) (A : Option Addr) (n c : Nat) (w : World) : Calls Try.prog 19 #[.pointer none, .string s, .slice A n c] w fun e w' => e = .returned (.int .i64 2) ∧ Below w.heap.size w w' := by
  go_enter Try.func19, Try.ntmps19
  go_wp2
  go_ret
  exact ⟨rfl, (Below.refl _ _).alloc (Nat.le_refl _) _⟩
set_option maxRecDepth 100000 in
set_option maxHeartbeats 1000000 in
theorem pSyncNil (s : ByteArray) (w : World) : Calls Try.prog 20 #[.pointer none, .string s] w fun e w' => e = .returned (.int .i64 2) ∧ Below w.heap.size w w' := by
  go_enter Try.func20, Try.ntmps20
  go_wp2
  go_ret
  exact ⟨rfl, (Below.refl _ _).alloc (Nat.le_refl _) _⟩
set_option maxRecDepth 100000 in
set_option maxHeartbeats 1000000 in
theorem pRenameNil (s s2 : ByteArray) (w : World) : Calls Try.prog 24 #[.pointer none, .string s, .string s2] w fun e w' => e = .returned (.int .i64 2) ∧ Below w.heap.size w w' := by
  go_enter Try.func24, Try.ntmps24
  go_wp2
  go_ret
  exact ⟨rfl, (Below.refl _ _).alloc (Nat.le_refl _) _⟩
set_option maxRecDepth 100000 in
set_option maxHeartbeats 1000000 in
theorem pDeleteNil (s : ByteArray) (w : World) : Calls Try.prog 28 #[.pointer none, .string s] w fun e w' => e = .returned (.int .i64 2) ∧ Below w.heap.size w w' := by
  go_enter Try.func28, Try.ntmps28
  go_wp2
  go_ret
  exact ⟨rfl, (Below.refl _ _).alloc (Nat.le_refl _) _⟩
set_option maxRecDepth 100000 in
set_option maxHeartbeats 1000000 in
theorem pReadNil (s : ByteArray) (w : World) : Calls Try.prog 22 #[.pointer none, .string s] w fun e w' => e = .returned (.tuple #[.slice none 0 0, .int .i64 2]) ∧ Below w.heap.size w w' := by
  go_enter Try.func22, Try.ntmps22
  go_wp2
  go_ret2
  exact ⟨rfl, (Below.refl _ _).alloc (Nat.le_refl _) _⟩
set_option maxRecDepth 100000 in
set_option maxHeartbeats 1000000 in
theorem pListNil  (w : World) : Calls Try.prog 26 #[.pointer none] w fun e w' => e = .returned (.tuple #[.slice none 0 0, .int .i64 2]) ∧ w' = w := by
  go_enter Try.func26, Try.ntmps26
  go_wp2
  go_ret2
  exact ⟨rfl, rfl⟩
set_option maxRecDepth 100000 in
set_option maxHeartbeats 1000000 in
theorem pFillNil (b : Bool) (w : World) : Calls Try.prog 27 #[.pointer none, .bool b] w fun e w' => e = .returned (.tuple #[]) ∧ w' = w := by
  go_enter Try.func27, Try.ntmps27
  go_wp2
  first | (refine bodyPost_end (results_none rfl _ _ _) rfl ?_; exact ⟨rfl, rfl⟩) | (refine bodyPost_ret (results_none rfl _ _ _) rfl ?_; exact ⟨rfl, rfl⟩)
set_option maxRecDepth 100000 in
set_option maxHeartbeats 1000000 in
theorem pArmNil (n : Int) (w : World) : Calls Try.prog 23 #[.pointer none, .int .i64 n] w fun e w' => e = .returned (.tuple #[]) ∧ w' = w := by
  go_enter Try.func23, Try.ntmps23
  go_wp2
  first | (refine bodyPost_end (results_none rfl _ _ _) rfl ?_; exact ⟨rfl, rfl⟩) | (refine bodyPost_ret (results_none rfl _ _ _) rfl ?_; exact ⟨rfl, rfl⟩)
set_option maxRecDepth 100000 in
set_option maxHeartbeats 1000000 in
theorem pRestartNil (A : Option Addr) (n c : Nat) (w : World) : Calls Try.prog 21 #[.pointer none, .slice A n c] w fun e w' => e = .returned (.tuple #[]) ∧ w' = w := by
  go_enter Try.func21, Try.ntmps21
  go_wp2
  first | (refine bodyPost_end (results_none rfl _ _ _) rfl ?_; exact ⟨rfl, rfl⟩) | (refine bodyPost_ret (results_none rfl _ _ _) rfl ?_; exact ⟨rfl, rfl⟩)
set_option maxRecDepth 100000 in
set_option maxHeartbeats 1000000 in
theorem pCloneNil  (w : World) : Calls Try.prog 30 #[.pointer none] w fun e w' => e = .returned (.pointer none) ∧ w' = w := by
  go_enter Try.func30, Try.ntmps30
  go_wp2
  go_ret
  exact ⟨rfl, rfl⟩
set_option maxRecDepth 100000 in
set_option maxHeartbeats 1000000 in
theorem rAppendNil (s : ByteArray) (A : Option Addr) (n c : Nat) (w : World) : Calls Try.prog 67 #[.pointer none, .string s, .slice A n c] w fun e w' => e = .returned (.int .i64 2) ∧ w' = w := by
  go_enter Try.func67, Try.ntmps67
  go_wp2_with fail
  refine (rChangeNil s s w).mono ?_
  rintro e w1 ⟨rfl, rfl⟩
  go_wp2
  go_ret
  exact ⟨rfl, rfl⟩
set_option maxRecDepth 100000 in
set_option maxHeartbeats 1000000 in
theorem rSyncNil (s : ByteArray) (w : World) : Calls Try.prog 68 #[.pointer none, .string s] w fun e w' => e = .returned (.int .i64 2) ∧ w' = w := by
  go_enter Try.func68, Try.ntmps68
  go_wp2_with fail
  refine (rChangeNil s s w).mono ?_
  rintro e w1 ⟨rfl, rfl⟩
  go_wp2
  go_ret
  exact ⟨rfl, rfl⟩
set_option maxRecDepth 100000 in
set_option maxHeartbeats 1000000 in
theorem rRenameNil (s s2 : ByteArray) (w : World) : Calls Try.prog 69 #[.pointer none, .string s, .string s2] w fun e w' => e = .returned (.int .i64 2) ∧ w' = w := by
  go_enter Try.func69, Try.ntmps69
  go_wp2_with fail
  refine (rChangeNil s s2 w).mono ?_
  rintro e w1 ⟨rfl, rfl⟩
  go_wp2
  go_ret
  exact ⟨rfl, rfl⟩
set_option maxRecDepth 100000 in
set_option maxHeartbeats 1000000 in
theorem rDeleteNil (s : ByteArray) (w : World) : Calls Try.prog 70 #[.pointer none, .string s] w fun e w' => e = .returned (.int .i64 2) ∧ w' = w := by
  go_enter Try.func70, Try.ntmps70
  go_wp2_with fail
  refine (rChangeNil s s w).mono ?_
  rintro e w1 ⟨rfl, rfl⟩
  go_wp2
  go_ret
  exact ⟨rfl, rfl⟩
set_option maxRecDepth 100000 in
set_option maxHeartbeats 1000000 in
theorem rReadNil (s : ByteArray) (w : World) : Calls Try.prog 43 #[.pointer none, .string s] w fun e w' => e = .returned (.tuple #[.slice none 0 0, .int .i64 2]) ∧ w' = w := by
  go_enter Try.func43, Try.ntmps43
  go_wp2
  go_ret2
  exact ⟨rfl, rfl⟩
set_option maxRecDepth 100000 in
set_option maxHeartbeats 1000000 in
theorem rListNil  (w : World) : Calls Try.prog 42 #[.pointer none] w fun e w' => e = .returned (.tuple #[.slice none 0 0, .int .i64 2]) ∧ w' = w := by
  go_enter Try.func42, Try.ntmps42
  go_wp2
  go_ret2
  exact ⟨rfl, rfl⟩
set_option maxRecDepth 100000 in
set_option maxHeartbeats 1000000 in
theorem rFillNil (b : Bool) (w : World) : Calls Try.prog 37 #[.pointer none, .bool b] w fun e w' => e = .returned (.tuple #[]) ∧ w' = w := by
  go_enter Try.func37, Try.ntmps37
  go_wp2
  first | (refine bodyPost_end (results_none rfl _ _ _) rfl ?_; exact ⟨rfl, rfl⟩) | (refine bodyPost_ret (results_none rfl _ _ _) rfl ?_; exact ⟨rfl, rfl⟩)
set_option maxRecDepth 100000 in
set_option maxHeartbeats 1000000 in
theorem rArmNil (n : Int) (w : World) : Calls Try.prog 36 #[.pointer none, .int .i64 n] w fun e w' => e = .returned (.tuple #[]) ∧ w' = w := by
  go_enter Try.func36, Try.ntmps36
  go_wp2
  first | (refine bodyPost_end (results_none rfl _ _ _) rfl ?_; exact ⟨rfl, rfl⟩) | (refine bodyPost_ret (results_none rfl _ _ _) rfl ?_; exact ⟨rfl, rfl⟩)
set_option maxRecDepth 100000 in
set_option maxHeartbeats 1000000 in
theorem rRestartNil (A : Option Addr) (n c : Nat) (w : World) : Calls Try.prog 34 #[.pointer none, .slice A n c] w fun e w' => e = .returned (.tuple #[]) ∧ w' = w := by
  go_enter Try.func34, Try.ntmps34
  go_wp2
  first | (refine bodyPost_end (results_none rfl _ _ _) rfl ?_; exact ⟨rfl, rfl⟩) | (refine bodyPost_ret (results_none rfl _ _ _) rfl ?_; exact ⟨rfl, rfl⟩)
set_option maxRecDepth 100000 in
set_option maxHeartbeats 1000000 in
theorem rCloneNil  (w : World) : Calls Try.prog 31 #[.pointer none] w fun e w' => e = .returned (.pointer none) ∧ w' = w := by
  go_enter Try.func31, Try.ntmps31
  go_wp2
  go_ret
  exact ⟨rfl, rfl⟩
set_option maxRecDepth 100000 in
set_option maxHeartbeats 1000000 in
theorem pDownNil  (w : World) : Calls Try.prog 25 #[.pointer none] w fun e w' => e = .returned (.bool false) ∧ w' = w := by
  go_enter Try.func25, Try.ntmps25
  go_wp2
  go_ret
  exact ⟨rfl, rfl⟩
end Go.Proofs.Ytmddgimadlmacaa
/-! a disk of the program's and one of the document's in one memory -/
namespace Go.Proofs.Ytmddgimadlmacaa
open Go.RowKit Garner
section
variable {O : Nat → Prop} {w w' : World} {g mp gr fb : Nat} {d b : AD}
/-- blocks without bytes written -/
theorem DiskO.butT {S : List Nat} (h : DiskO O w g mp d) (hb : But S w w') (hg : g ∉ S) (hm : mp ∉ S) (hS : ∀ s ∈ S, NB w s ∨ w.heap.size ≤ s) : DiskO O w' g mp d := by
  obtain ⟨es, h1, h2⟩ := h
  exact ⟨es, ⟨h1.blk.but hb hg, h1.map.of_block (hb.block mp (MapIs.lt h1.map) hm), fun p hp => (h1.files p hp).butT hb hS, h1.nodup, h1.lo, h1.hi⟩, h2⟩
theorem DiskO.nbs (h : DiskO O w g mp d) : NB w g ∧ NB w mp ∧ g ≠ mp := by
  obtain ⟨es, h1, h2⟩ := h
  exact ⟨NB.blk h1.blk (by decide), NB.map h1.map, h1.ne⟩
/-- a pair: both nil, or both there and alike -/
inductive Pair (w : World) : Value → Value → List Nat → Option AD → Prop
  | nil : Pair w (.pointer none) (.pointer none) [] none
  | both {g mp gr fb : Nat} {d b : AD} (hd : DiskO (fun _ => True) w g mp d) (hb : RefD w gr fb b) (hs : Sim d b) (hn : ∀ k ∈ [g, mp], k ∉ [gr, fb]) : Pair w (.pointer (some ⟨g, 0, none⟩)) (.pointer (some ⟨gr, 0, none⟩)) [g, mp, gr, fb] (some b)
theorem Pair.butT {v u : Value} {bs S : List Nat} {o : Option AD} (h : Pair w v u bs o) (hb : But S w w') (hd : ∀ k ∈ bs, k ∉ S) (hS : ∀ s ∈ S, NB w s ∨ w.heap.size ≤ s) : Pair w' v u bs o := by
  cases h with
  | nil => exact .nil
  | both h1 h2 h3 h4 => exact .both (h1.butT hb (hd _ (by simp)) (hd _ (by simp)) hS) (h2.butT hb (hd _ (by simp)) (hd _ (by simp)) hS) h3 h4
theorem Pair.nbs {v u : Value} {bs : List Nat} {o : Option AD} (h : Pair w v u bs o) : ∀ k ∈ bs, NB w k ∧ k < w.heap.size := by
  cases h with
  | nil => simp
  | both h1 h2 h3 h4 =>
    intro k hk
    simp only [List.mem_cons, List.not_mem_nil, or_false] at hk
    obtain ⟨a1, a2, _⟩ := h1.nbs
    obtain ⟨b1, b2⟩ := h1.ltg
    obtain ⟨c1, c2, c3, c4⟩ := h2.lts
    rcases hk with rfl | rfl | rfl | rfl
    · exact ⟨a1, b1⟩
    · exact ⟨a2, b2⟩
    · exact ⟨c3, c1⟩
    · exact ⟨c4, c2⟩
end
end Go.Proofs.Ytmddgimadlmacaa
/-! every name on the disk is a good one -/
namespace Go.Proofs.Ytmddgimadlmacaa
open Go.RowKit Garner

theorem dmay_ok1 {nm : Bs} {dn : Bool} (h : dmay [nmS nm] dn = 0) : nameOk (nmS nm) = true := by
  cases hn : nameOk (nmS nm) with
  | true => rfl
  | false =>
    have : dmay [nmS nm] dn = 1 := by unfold dmay; simp [hn]
    omega
theorem dmay_ok2 {nm nm2 : Bs} {dn : Bool} (h : dmay [nmS nm, nmS nm2] dn = 0) : nameOk (nmS nm2) = true := by
  cases hn : nameOk (nmS nm2) with
  | true => rfl
  | false =>
    have : dmay [nmS nm, nmS nm2] dn = 1 := by unfold dmay; simp [hn]
    omega
/-- all names are good -/
def Good (fs : List (Bs × FileD)) : Prop := ∀ nm, (aget nm fs).isSome = true → nameOk (nmS nm) = true
theorem Good.nil : Good [] := fun nm h => by cases h
theorem Good.sput {fs : List (Bs × FileD)} (h : Good fs) {nm : Bs} (hn : nameOk (nmS nm) = true) (f : FileD) : Good (sput nm f fs) := fun nm' hs => by
  rw [aget_sput] at hs
  by_cases e : nm' = nm
  · subst e; exact hn
  · rw [if_neg e] at hs; exact h nm' hs
theorem Good.adel {fs : List (Bs × FileD)} (h : Good fs) (ha : Asc fs) (nm : Bs) : Good (adel nm fs) := fun nm' hs => by
  rw [aget_adel' _ _ _ (asc_nodup ha)] at hs
  by_cases e : nm' = nm
  · rw [if_pos e] at hs; cases hs
  · rw [if_neg e] at hs; exact h nm' hs
section
variable {b : AD}
theorem Good.append (h : Good b.fs) (nm data : Bs) : Good (bAppend nm data b).2.fs := by
  unfold bAppend
  by_cases h0 : dmay [nmS nm] b.dn ≠ 0
  · rw [if_pos h0]; exact h
  · rw [if_neg h0]
    split
    · exact h
    · exact h.sput (dmay_ok1 (Classical.not_not.1 h0)) _
theorem Good.sync (h : Good b.fs) (nm : Bs) : Good (bSync nm b).2.fs := by
  unfold bSync
  by_cases h0 : dmay [nmS nm] b.dn ≠ 0
  · rw [if_pos h0]; exact h
  · rw [if_neg h0]
    cases aget nm b.fs with
    | none => exact h
    | some f => exact h.sput (dmay_ok1 (Classical.not_not.1 h0)) _
theorem Good.delete (h : Good b.fs) (ha : Asc b.fs) (nm : Bs) : Good (aDelete nm b).2.fs := by
  unfold aDelete
  by_cases h0 : dmay [nmS nm] b.dn ≠ 0
  · rw [if_pos h0]; exact h
  · rw [if_neg h0]
    cases aget nm b.fs with
    | none => exact h
    | some f => exact h.adel ha nm
theorem Good.rename (h : Good b.fs) (ha : Asc b.fs) (nm nm2 : Bs) : Good (bRename nm nm2 b).2.fs := by
  unfold bRename
  by_cases h0 : dmay [nmS nm, nmS nm2] b.dn ≠ 0
  · rw [if_pos h0]; exact h
  · rw [if_neg h0]
    cases aget nm b.fs with
    | none => exact h
    | some f => exact (h.adel ha nm).sput (dmay_ok2 (Classical.not_not.1 h0)) f
theorem Good.arm (h : Good b.fs) (n : Int) : Good (aArm n b).fs := by
  unfold aArm
  split
  · exact h
  · exact h
theorem Good.restart (h : Good b.fs) (ha : Asc b.fs) (keep : List Int) : Good (bRestart keep b).fs := fun nm hs => by
  refine h nm ?_
  have e : (bRestart keep b).fs = rstUp keep (b.fs.map (·.1)) b.fs.length b.fs := rstI_up keep ha
  rw [← aget_mem_iff] at hs ⊢
  rw [e, rstUp_keys] at hs
  exact hs
end
end Go.Proofs.Ytmddgimadlmacaa
