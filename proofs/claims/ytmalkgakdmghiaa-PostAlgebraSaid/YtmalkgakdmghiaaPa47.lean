import Derived.Test.YtmalkgakdmghiaaPa45
import Derived.Test.YtmalkgakdmghiaaPa46
/-! layer 11: slices.Equal, Open -/
namespace Go.Proofs.Ytmalkgakdmghiaa
open Go.RowKit Go.Shelf Garner

theorem own_keepB {w w' : World} {B : Nat} {e : TypeId} {sz n : Nat} {v : Value} {xs : List Value} (h : w.ownsRow B e sz v n xs) (hk : ∀ k, B ≤ k → k < w.heap.size → w'.heap[k]? = w.heap[k]?) : w'.ownsRow B e sz v n xs := by
  obtain ⟨h1, h2⟩ := h
  refine ⟨h1, ?_⟩
  rcases h2 with h2 | ⟨g, cap, cur, hv, hg, hh, r⟩
  · exact .inl h2
  · exact .inr ⟨g, cap, cur, hv, hg, (hk g hg (Array.getElem?_eq_some_iff.1 hh).1).trans hh, r⟩

/-- what is left of the block that is open -/
def OpenIs (w : World) (I : Nat) (A : Option Addr) (xs : List Nat) : Prop :=
  0 < xs.length → ∃ b off, A = some ⟨b, off, none⟩ ∧ I < b ∧ b < w.heap.size ∧ ∀ j, j < xs.length → w.cell? ⟨b, off + j, none⟩ = some (u64v (xs[j]?.getD 0))
/-- a list that is opened: what it is, what is left of the open block, which block is next -/
structure IterIs (w : World) (base I : Nat) (l xs : List Nat) (k : Nat) : Prop where
  hk : k ≤ nBlk l
  hl : l.length ≤ 65536
  hr : risingB l = true
  hn : ∀ n ∈ l, n < 18446744073709551616
  hbI : base ≤ I
  ex : ∃ A c Ah ch Ao co, OwnB w base (.slice A (postB l).length c) (postB l) ∧ Bytes w I A (postB l).length (postB l) ∧ (postB l).length ≤ c ∧
    Blk w I 47 [.slice A (postB l).length c, .slice Ah (nBlk l) ch, .int .i64 l.length, .slice Ao xs.length co, .int .i64 k] ∧
    w.ownsRow (I + 1) 65 3 (.slice Ah (nBlk l) ch) (nBlk l) (hdC (blocks (nBlk l) l) (put1 (nBlk l) ++ headB (blocks (nBlk l) l)).length (nBlk l) (nBlk l)) ∧
    xs.length ≤ co ∧ xs.length ≤ 32 ∧ OpenIs w I Ao xs
theorem IterIs.lt {w : World} {base I k : Nat} {l xs : List Nat} (h : IterIs w base I l xs k) : I < w.heap.size := by
  obtain ⟨_, _, _, _, _, _, _, _, _, h2, _⟩ := h.ex
  exact h2.lt
theorem IterIs.keep {w w' : World} {base I k : Nat} {l xs : List Nat} (h : IterIs w base I l xs k) (hs : w.heap.size ≤ w'.heap.size) (hk : ∀ k, base ≤ k → k < w.heap.size → w'.heap[k]? = w.heap[k]?) : IterIs w' base I l xs k := by
  obtain ⟨A, c, Ah, ch, Ao, co, h1, h2, h3, h4, h5, h6, h7, h8⟩ := h.ex
  have hbI := h.hbI
  refine ⟨h.hk, h.hl, h.hr, h.hn, h.hbI, A, c, Ah, ch, Ao, co, own_keepB h1 hk, ?_, h3, (hk I h.hbI h4.lt).trans h4, own_keepB h5 fun k h1 h2 => hk k (by omega) h2, h6, h7, ?_⟩
  · refine ⟨h2.1, fun h0 => ?_⟩
    obtain ⟨b, off, rfl, hb, hc⟩ := h2.2 h0
    refine ⟨b, off, rfl, hb, fun j u hu => ?_⟩
    have hbb : base ≤ b := by
      have := (own_ge h1 b (by
        rcases h1.2 with ⟨e, _⟩ | ⟨g, cap, cur, e, _⟩
        · cases e
        · injection e with e1 _ _
          cases e1
          simp [Value.ownBlock])).1
      exact this
    rw [← hc j u hu]
    exact World.cell?_of_block (hk b hbb (Nat.lt_trans hb h4.lt))
  · intro h0
    obtain ⟨b, off, e, hb1, hb2, hc⟩ := h8 h0
    refine ⟨b, off, e, hb1, by omega, fun j hj => ?_⟩
    rw [← hc j hj]
    exact World.cell?_of_block (hk b (by omega) hb2)
theorem IterIs.below {w w' : World} {base I k : Nat} {l xs : List Nat} (h : IterIs w base I l xs k) (hb : Below w.heap.size w w') : IterIs w' base I l xs k := h.keep hb.size fun k _ h2 => hb.block k h2

set_option maxRecDepth 100000 in
set_option maxHeartbeats 4000000 in
theorem vEqual (l : Bs) (A A' : Option Addr) (c c' B : Nat) (w : World) (h1 : Bytes w B A l.length l) (h2 : Bytes w B A' l.length l) (hB : B ≤ w.heap.size) (hl : l.length ≤ 140737488355328) :
    Calls Try.prog 21 #[.slice A l.length c, .slice A' l.length c'] w fun e w' => e = .returned (.bool true) ∧ Below w.heap.size w w' := by
  go_enter Try.func21, Try.ntmps21
  go_wp2
  go_loopw [13] (fun i wr => ∃ k : Nat, k ≤ l.length ∧ i = .int .i64 k ∧ Below w.heap.size w wr) (fun i _ => l.length - (intOf i).toNat)
  case atStart => exact ⟨0, by omega, rfl, Below.refl _ _⟩
  case round =>
    obtain ⟨k, hk, rfl, hbel⟩ := hrel
    obtain ⟨wo, rfl⟩ : ∃ wo : World, wo = wr := ⟨_, rfl⟩
    by_cases hlt : k < l.length
    · obtain ⟨b, off, rfl, hb, hc⟩ := h1.at_ hlt
      obtain ⟨b', off', rfl, hb', hc'⟩ := h2.at_ hlt
      have lt1 : (k : Int) < (l.length : Int) := by omega
      have w1 : IntKind.i64.wrap ((k : Int) + 1) = ((k + 1 : Nat) : Int) := by rw [IntKind.wrap_i64]; omega
      obtain ⟨x, hx⟩ : ∃ x, x = l[k] := ⟨_, rfl⟩
      have y0 : ∀ w', Below wo.heap.size wo w' → w'.cell? ⟨b, off + k, none⟩ = some (.int .u8 x.toNat) := fun w' h => by
        rw [(hbel.trans (h.mono hbel.size)).cell (p := ⟨b, off + k, none⟩) (by show b < _; omega), hc k (by simpa using hlt), List.getElem_map, hx]; rfl
      have y1 : ∀ w', Below wo.heap.size wo w' → w'.cell? ⟨b', off' + k, none⟩ = some (.int .u8 x.toNat) := fun w' h => by
        rw [(hbel.trans (h.mono hbel.size)).cell (p := ⟨b', off' + k, none⟩) (by show b' < _; omega), hc' k (by simpa using hlt), List.getElem_map, hx]; rfl
      clear hc hc'
      have Hx := Lib.hid hx; clear hx
      go_upto_region 6 with fail
      have hS0 : Below wo.heap.size wo wo.drew := (Below.refl _ _).drew
      refine wp_region_N (fun w' => Below wo.heap.size wo w') 100 (by kernel_rfl) ?_
      apply wpAnyN_takeL 0 (by kernel_rfl) rfl (fun _ _ _ h => h) (by kernel_rfl) hS0
      · intro w' hS'
        go_simp; exact ⟨rfl, rfl⟩
      (try simp only [Act.put]); (try simp only [List.setIfInBounds_toArray]); (try simp only [List.set])
      apply wpAnyN_takeL 1 (by kernel_rfl) rfl (fun _ _ _ h => h) (by kernel_rfl) hS0
      · intro w' hS'
        go_simp; exact ⟨rfl, rfl⟩
      (try simp only [Act.put]); (try simp only [List.setIfInBounds_toArray]); (try simp only [List.set])
      apply wpAnyN_takeL 2 (by kernel_rfl) rfl (fun _ _ _ h => h) (by kernel_rfl) hS0
      · intro w' hS'
        go_simp; exact ⟨rfl, rfl⟩
      (try simp only [Act.put]); (try simp only [List.setIfInBounds_toArray]); (try simp only [List.set])
      apply wpAnyN_takeL 3 (by kernel_rfl) rfl (fun _ _ _ h => h) (by kernel_rfl) hS0
      · intro w' hS'
        go_simp; exact ⟨rfl, rfl⟩
      (try simp only [Act.put]); (try simp only [List.setIfInBounds_toArray]); (try simp only [List.set])
      apply wpAnyN_takeL 4 (by kernel_rfl) rfl (fun _ _ _ h => h) (by kernel_rfl) hS0
      · intro w' hS'
        go_simp; exact ⟨rfl, rfl⟩
      (try simp only [Act.put]); (try simp only [List.setIfInBounds_toArray]); (try simp only [List.set])
      apply wpAnyN_takeL 5 (by kernel_rfl) rfl (fun _ _ _ h => h) (by kernel_rfl) hS0
      · intro w' hS'
        go_simp; exact ⟨rfl, rfl⟩
      (try simp only [Act.put]); (try simp only [List.setIfInBounds_toArray]); (try simp only [List.set])
      apply wpAnyN_takeL 6 (by kernel_rfl) rfl (fun _ _ _ h => h) (by kernel_rfl) hS0
      · intro w' hS'
        go_simp; exact ⟨rfl, rfl⟩
      (try simp only [Act.put]); (try simp only [List.setIfInBounds_toArray]); (try simp only [List.set])
      apply wpAnyN_takeL 7 (by kernel_rfl) rfl (fun _ _ _ h => h) (by kernel_rfl) hS0
      · intro w' hS'
        go_simp; exact ⟨rfl, rfl⟩
      (try simp only [Act.put]); (try simp only [List.setIfInBounds_toArray]); (try simp only [List.set])
      apply wpAnyN_takeL 8 (by kernel_rfl) rfl (fun _ _ _ h => h) (by kernel_rfl) hS0
      · intro w' hS'
        go_simp; exact ⟨rfl, rfl⟩
      (try simp only [Act.put]); (try simp only [List.setIfInBounds_toArray]); (try simp only [List.set])
      refine wpAnyN_done (by kernel_rfl) ?_ _
      go_wp2
      refine ⟨⟨k + 1, by omega, by simp, hbel.drew⟩, by simp [intOf]; omega⟩
    · obtain rfl : k = l.length := by omega
      go_wp2
      go_ret
      exact ⟨rfl, hbel⟩
end Go.Proofs.Ytmalkgakdmghiaa
