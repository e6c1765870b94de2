import Derived.RangeFuncNested
import Derived.RangeFuncBound
import Derived.RangeFuncBox
import Derived.RangeFuncCalls
import Derived.RangeFuncLeaves
import Derived.Shelf.Abstract
import Derived.Shelf.RegionOpen
import Derived.WalkKit
import Derived.OwnWalkIn
import Derived.TacticsInMore
import Derived.LoopNIn
import Derived.LoopIn
import Derived.Test.YtmalkgakdmghiaaPa38
/-! a drawn region within a round of a loop over a function -/
namespace Garner
open Go

theorem rowsIn_wide {n : Nat} {P : Program} {row : String} {args : Array Value} {w : World} {R : Value → World → Prop} {l : Nat} (h : Rows P row args w R) : RowsIn (Fence.wide.inRound l) n P row args w R :=
  fun c cs _ => let ⟨v, w', r, s⟩ := h c cs; ⟨v, w', r, stepsIn_wide.2 s⟩
theorem opIn_round {n l : Nat} {P : Program} {o : Oper} {a : Act} {w : World} {K : Act → World → Prop} {Q : Exit → Act → World → Prop} (hd : ∀ c, o.op ≠ .defer c) (h : o.wp P a w K Q) : o.wpIn (Fence.wide.inRound l) n P a w K Q := by
  refine ⟨fun _ _ => trivial, ?_⟩
  rw [Oper.semAt_plain _ _ _ hd]
  unfold Oper.wp at h
  generalize (execOp a.eval o).run P w = r at h
  unfold Oper.upon at h
  unfold Oper.uponIn
  split at h
  · exact h
  · exact h
  · exact h
  · exact ⟨fun h => absurd h (by simp [Fence.wide]), (callsIn_wide.2 h : CallsIn Fence.wide _ _ _ _ _ _)⟩
  · exact ⟨fun h => absurd h (by simp [Fence.wide]), rowsIn_wide h⟩
  · exact h
  · exact h.elim
theorem anyIn_round {n l : Nat} {P : Program} {md : Region.Mode} {ops : Array Oper} {Q : Exit → Act → World → Prop} (hd : ∀ o ∈ ops, ∀ c, o.op ≠ .defer c) (hQ : ¬ LetsOut Q) : ∀ (fuel : Nat) (listed : Array Bool) (a : Act) (w : World), wpAny P md ops Q fuel listed a w → wpAnyIn (Fence.wide.inRound l) n P md ops Q fuel listed a w
  | 0, _, _, _, h => h
  | fuel + 1, listed, a, w, h => by
    refine ⟨h.1, fun i hi => ?_⟩
    have h2 := h.2 i hi
    unfold wpOp at h2
    unfold wpOpIn
    cases ho : ops[i]? with
    | none =>
      simp only [ho] at h2 ⊢
      exact anyIn_round hd hQ fuel _ _ _ h2
    | some o =>
      simp only [ho] at h2 ⊢
      have hm : o ∈ ops := Array.mem_of_getElem? ho
      split
      · next hw =>
        rw [if_pos hw] at h2
        rcases h2 with h2 | h2
        · refine Oper.wpIn_mono (fun a w h => anyIn_round hd hQ fuel _ a w h) (opIn_round (hd o hm) h2)
        · exact absurd h2.2 hQ
      · next hw =>
        rw [if_neg hw] at h2
        exact ⟨fun _ _ => trivial, anyIn_round hd hQ fuel _ _ _ h2⟩
theorem wpIn_region_round {n l id : Nat} {P : Program} {ops : Array Oper} {Q : Exit → Act → World → Prop} {a : Act} {w : World} (S : World → Prop) (k : Nat) (hm : P.follows .mixedOrders = true) (hd : (ops.all fun o => match o.op with | .defer _ => false | _ => true) = true) (hQ : ¬ LetsOut Q)
    (h : wpAnyN P .any ops Q S k ops.size (Array.replicate ops.size false) a w.drew) : (Code.region id ops true).wpIn (Fence.wide.inRound l) n P Q a w := by
  refine wpIn_region_any hm (anyIn_round (fun o ho c e => ?_) hQ _ _ _ _ (wpAny_of_N _ _ _ _ h))
  rw [Array.all_eq_true'] at hd
  have := hd o ho
  rw [e] at this
  cases this
end Garner
/-! slices.Chunk at []uint64: what the loop is handed -/
namespace Go.Proofs.Ytmalkgakdmghiaa
open Go.RowKit Go.Shelf Garner

attribute [local go_sem] Oper.semAt_some

/-- what a round keeps: what lay below n₀, and the two boxes that the iterator reads -/
structure KpC (n₀ Bs Bn : Nat) (W W' : World) : Prop where
  bel : Below n₀ W W'
  box : ∀ k o, (k = Bs ∨ k = Bn) → W.heap[k]? = some o → W'.heap[k]? = some o
theorem KpC.trans {n₀ Bs Bn : Nat} {X Y Z : World} (h : KpC n₀ Bs Bn X Y) (k : KpC n₀ Bs Bn Y Z) : KpC n₀ Bs Bn X Z := ⟨h.bel.trans k.bel, fun i o hi ho => k.box i o hi (h.box i o hi ho)⟩
theorem KpC.obj {n₀ Bs Bn : Nat} {w : World} (hn : n₀ ≤ w.heap.size) (h1 : Bs < w.heap.size) (h2 : Bn < w.heap.size) (W : World) (l : Nat) (o o' : Obj) (hl : w.heap.size ≤ l) (h : W.heap[l]? = some o) (hc : o.isCells = false) (hw : o.isWalk = false) : KpC n₀ Bs Bn W (W.putObj l o') :=
  ⟨belowK_b hn W l o o' hl h hc hw, fun k o2 hk h2 => (World.putObj_heap_other (by rcases hk with rfl | rfl <;> omega)).trans h2⟩

def chunkV (b off len : Nat) (k : Nat) : Value := .slice (some ⟨b, off + 32 * k, none⟩) (min 32 (len - 32 * k)) (min 32 (len - 32 * k))
def upto (n k : Nat) : List (Fin n) := (List.finRange n).take k
theorem upto_succ {n k : Nat} (h : k < n) : upto n (k + 1) = upto n k ++ [⟨k, h⟩] := by
  unfold upto
  rw [List.take_succ_eq_append_getElem (by rw [List.length_finRange]; exact h), List.getElem_finRange]
  rfl
theorem upto_len {n k : Nat} (h : k ≤ n) : (upto n k).length = k := by unfold upto; rw [List.length_take, List.length_finRange]; omega
theorem upto_all (n : Nat) : upto n n = List.finRange n := by unfold upto; rw [List.take_of_length_le (by rw [List.length_finRange]; omega)]

set_option maxRecDepth 100000 in
set_option maxHeartbeats 4000000 in
theorem chunk1_in (n : Nat) (hn : 1 ≤ n) (l Bs Bn n₀ b off len cap nB : Nat) (A : Option Addr) (hA : 0 < nB → A = some ⟨b, off, none⟩) (hcap : len ≤ cap) (hlen : len ≤ 65536) (hnB : nB = (len + 31) / 32) (J Jx : List (Fin nB) → World → Prop)
    (hY : ∀ pre x W, J pre W → pre.length < nB → YieldAt Fence.wide (n - 1) Try.prog l #[chunkV b off len x.val] W fun e W' =>
      (e = .returned (.bool true) ∧ J (pre ++ [x]) W' ∧ KpC n₀ Bs Bn W W') ∨ (e = .returned (.bool false) ∧ Jx (pre ++ [x]) W'))
    (W : World) (hJA : AbidesFrom W.heap.size J) (hBs : Blk W Bs 22 [.slice A len cap]) (hBn : Blk W Bn 3 [.int .i64 32]) (h0 : J [] W) :
    CallsIn Fence.wide n Try.prog 32 #[.func (.yield l) #[] #[], .pointer (some ⟨Bs, 0, none⟩), .pointer (some ⟨Bn, 0, none⟩)] W fun e W' => (∃ v, e = .returned v) ∧
      ((∃ ys, ys = List.finRange nB ∧ J ys W') ∨ (∃ pre, True ∧ Jx pre W')) := by
  refine callsIn_of_wp Try.func32 rfl trivial ?_ rfl
  simp only [Try.ntmps32, List.size_toArray, List.length_cons, List.length_nil, Nat.reduceAdd, Nat.reduceSub, Array.replicate_succ, Array.replicate_zero, List.push_toArray, List.append_toArray, List.nil_append, List.cons_append]
  gi_wp2
  gi_loopw [4] (fun i wr => ∃ k : Nat, k ≤ nB ∧ i = .int .i64 (32 * k : Nat) ∧ J (upto nB k) wr ∧ Blk wr Bs 22 [.slice A len cap] ∧ Blk wr Bn 3 [.int .i64 32]) (fun i _ => len + 32 - (intOf i).toNat)
  case atStart => exact ⟨0, Nat.zero_le _, rfl, h0, hBs, hBn⟩
  case round =>
    obtain ⟨k, hk, rfl, hJs, hbs, hbn⟩ := hrel
    have cs : wr.cell? ⟨Bs, 0, none⟩ = some (.slice A len cap) := hbs.cell 0
    have cn : wr.cell? ⟨Bn, 0, none⟩ = some (.int .i64 32) := hbn.cell 0
    by_cases hlt : k < nB
    · obtain rfl := hA (by omega)
      obtain ⟨fn, tmps, assign, body, hy, hR⟩ := hY _ ⟨k, hlt⟩ wr.drew (hJA _ wr wr.drew none hJs ⟨rfl, rfl, rfl, Nat.le_refl _, fun _ _ _ => rfl⟩ (fun _ e => by cases e)) (by rw [upto_len hk]; exact hlt)
      obtain ⟨i, hi⟩ : ∃ i, i = 32 * k := ⟨_, rfl⟩
      obtain ⟨m, hm⟩ : ∃ m, m = min 32 (len - i) := ⟨_, rfl⟩
      obtain ⟨e, he⟩ : ∃ e, e = i + m := ⟨_, rfl⟩
      have hil : (i : Int) < (len : Int) := by omega
      have hic : (i : Int) ≤ (cap : Int) := by omega
      have hil' : (i : Int) ≤ (len : Int) := by omega
      have hi0 : (0 : Int) ≤ (i : Int) := by omega
      have hcne : ¬ cap = i := by omega
      have hmm : min (32 : Int) ((len - i : Nat) : Int) = (m : Int) := by omega
      have w1 : IntKind.i64.wrap ((i : Int) + (m : Int)) = (e : Int) := by rw [IntKind.wrap_i64]; omega
      have e1 : (i : Int) ≤ (e : Int) := by omega
      have e2 : (e : Int) ≤ (cap : Int) := by omega
      have e3 : e - i = m := by omega
      have e4 : ¬ e = i := by omega
      rw [← hi]
      have hy' := hy
      unfold chunkV at hy'
      simp only [← hi, ← hm] at hy'
      have Hi := Lib.hid hi; clear hi
      have Hm := Lib.hid hm; clear hm
      have He := Lib.hid he; clear he
      clear hy
      have hS0 : Below wr.heap.size wr wr.drew := (Below.refl _ _).drew
      have y0 : ∀ w', Below wr.heap.size wr w' → w'.cell? ⟨Bs, 0, none⟩ = some (.slice (some ⟨b, off, none⟩) len cap) := fun w' h => (h.cell (p := ⟨Bs, 0, none⟩) hbs.lt).trans cs
      have y1 : ∀ w', Below wr.heap.size wr w' → w'.cell? ⟨Bn, 0, none⟩ = some (.int .i64 32) := fun w' h => (h.cell (p := ⟨Bn, 0, none⟩) hbn.lt).trans cn
      gi_wp2
      refine wpIn_wide.2 ?_
      refine wp_region_N (fun w' => Below wr.heap.size wr w') 100 (by kernel_rfl) ?_
      apply wpAnyN_takeL 0 (by kernel_rfl) rfl (fun _ _ _ h => h) (by kernel_rfl) hS0
      · intro w' hS'
        go_simp; exact ⟨rfl, rfl⟩
      (try simp only [Act.put]); (try simp only [List.setIfInBounds_toArray]); (try simp only [List.set])
      apply wpAnyN_takeL 1 (by kernel_rfl) rfl (fun _ _ _ h => h) (by kernel_rfl) hS0
      · intro w' hS'
        go_simp; exact ⟨rfl, rfl⟩
      (try simp only [Act.put]); (try simp only [List.setIfInBounds_toArray]); (try simp only [List.set])
      apply wpAnyN_takeL 2 (by kernel_rfl) rfl (fun _ _ _ h => h) (by kernel_rfl) hS0
      · intro w' hS'
        go_simp; exact ⟨rfl, rfl⟩
      (try simp only [Act.put]); (try simp only [List.setIfInBounds_toArray]); (try simp only [List.set])
      apply wpAnyN_takeL 3 (by kernel_rfl) rfl (fun _ _ _ h => h) (by kernel_rfl) hS0
      · intro w' hS'
        go_simp; exact ⟨rfl, rfl⟩
      (try simp only [Act.put]); (try simp only [List.setIfInBounds_toArray]); (try simp only [List.set])
      apply wpAnyN_takeL 4 (by kernel_rfl) rfl (fun _ _ _ h => h) (by kernel_rfl) hS0
      · intro w' hS'
        go_simp; exact ⟨rfl, rfl⟩
      (try simp only [Act.put]); (try simp only [List.setIfInBounds_toArray]); (try simp only [List.set])
      apply wpAnyN_takeL 5 (by kernel_rfl) rfl (fun _ _ _ h => h) (by kernel_rfl) hS0
      · intro w' hS'
        go_simp; exact ⟨rfl, rfl⟩
      (try simp only [Act.put]); (try simp only [List.setIfInBounds_toArray]); (try simp only [List.set])
      apply wpAnyN_takeL 6 (by kernel_rfl) rfl (fun _ _ _ h => h) (by kernel_rfl) hS0
      · intro w' hS'
        go_simp; exact ⟨rfl, rfl⟩
      (try simp only [Act.put]); (try simp only [List.setIfInBounds_toArray]); (try simp only [List.set])
      refine wpAnyN_done (by kernel_rfl) ?_ _
      have cs' : wr.drew.cell? ⟨Bs, 0, none⟩ = some (.slice (some ⟨b, off, none⟩) len cap) := cs
      clear cs y0 y1
      gi_wp2
      refine hR.mono ?_
      rintro e W3 (⟨rfl, hJ3, hk3⟩ | ⟨rfl, hJx3⟩)
      · have cn3 : W3.cell? ⟨Bn, 0, none⟩ = some (.int .i64 32) := (show Blk W3 Bn _ _ from hk3.box Bn _ (.inr rfl) hbn).cell 0
        have hi := Hi.out
        have w2 : IntKind.i64.wrap ((i : Int) + 32) = ((32 * (k + 1) : Nat) : Int) := by rw [IntKind.wrap_i64]; omega
        gi_wp2
        go_roundw
        case rel => exact ⟨k + 1, by omega, by simp; try omega, by rw [upto_succ hlt]; exact hJ3, hk3.box Bs _ (.inl rfl) hbs, hk3.box Bn _ (.inr rfl) hbn⟩
        case measure => simp [intOf]; omega
      · gi_wp2
        refine bodyPost_ret (results_none rfl _ _ _) rfl ?_
        exact ⟨⟨_, rfl⟩, .inr ⟨_, trivial, hJx3⟩⟩
    · have hge : ¬ ((32 * k : Nat) : Int) < (len : Int) := by omega
      obtain rfl : k = nB := by omega
      gi_wp2
      go_end0
      exact ⟨⟨_, rfl⟩, .inl (by rw [← upto_all]; exact hJs)⟩

set_option maxHeartbeats 1000000 in
theorem chunk_in (n : Nat) (A : Option Addr) (len cap : Nat) (w : World) :
    CallsIn Fence.wide n Try.prog 17 #[.slice A len cap, .int .i64 32] w fun e w' => e = .returned (.func (.func 32) #[] #[.pointer (some ⟨w.heap.size, 0, none⟩), .pointer (some ⟨w.heap.size + 1, 0, none⟩)]) ∧
      w' = (w.alloc (.cells #[.slice A len cap] 22)).alloc (.cells #[.int .i64 32] 3) := by
  refine callsIn_wide.2 ?_
  go_enter Try.func17, Try.ntmps17
  go_wp2
  go_ret
  exact ⟨rfl, rfl⟩
theorem chunk_stops (n : Nat) (hn : 1 ≤ n) (Bs Bn n₀ b off len cap nB : Nat) (A : Option Addr) (hA : 0 < nB → A = some ⟨b, off, none⟩) (hcap : len ≤ cap) (hlen : len ≤ 65536) (hnB : nB = (len + 31) / 32) (w : World)
    (hBs : Blk w Bs 22 [.slice A len cap]) (hBn : Blk w Bn 3 [.int .i64 32]) :
    SeqStopsK Fence.wide n Try.prog 32 #[.pointer (some ⟨Bs, 0, none⟩), .pointer (some ⟨Bn, 0, none⟩)] (fun x : Fin nB => #[chunkV b off len x.val]) (KpC n₀ Bs Bn) (fun ys => ys = List.finRange nB) (fun _ => True) nB w := fun l J Jx W hW hJ _ hY h0 => by
  have h1 : Blk W Bs 22 [.slice A len cap] := (hW.block Bs hBs.lt).trans hBs
  have h2 : Blk W Bn 3 [.int .i64 32] := (hW.block Bn hBn.lt).trans hBn
  exact chunk1_in n hn l Bs Bn n₀ b off len cap nB A hA hcap hlen hnB J Jx hY W hJ h1 h2 h0
end Go.Proofs.Ytmalkgakdmghiaa
