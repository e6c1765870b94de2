import Derived.Test.YtmalkgakdmghiaaPa16
import Derived.Test.YtmalkgakdmghiaaPa17
import Derived.Test.YtmalkgakdmghiaaPa18
/-! layer 3: Pack -/
namespace Go.Proofs.Ytmalkgakdmghiaa
open Go.RowKit Garner

/-- the first i numbers rise -/
def RiseTo (l : List Nat) (i : Nat) : Prop := ∀ j, j + 1 < i → l[j]?.getD 0 < l[j + 1]?.getD 0
theorem RiseTo.all {l : List Nat} (h : RiseTo l l.length) : risingB l = true := rising_of fun i hi => by
  have := h i hi
  rwa [List.getElem?_eq_getElem hi, List.getElem?_eq_getElem (by omega), Option.getD_some, Option.getD_some] at this
theorem rise_not {l : List Nat} {i : Nat} (h : i + 1 < l.length) (hn : l[i + 1]?.getD 0 ≤ l[i]?.getD 0) : risingB l = false := by
  rw [List.getElem?_eq_getElem h, List.getElem?_eq_getElem (by omega), Option.getD_some, Option.getD_some] at hn
  exact rising_not h (by omega)

theorem packB_one {l : List Nat} (h : l.length = 1) : packB l = put1 l.length ++ put1 (l[0]?.getD 0) := by
  match l, h with
  | [x], _ => rfl
theorem packB_two {l : List Nat} (h : 2 ≤ l.length) : packB l = ((put1 l.length ++ put1 (l[0]?.getD 0)) ++ [UInt8.ofNat (maxBits (gapsN l))]) ++ bodyN l := by
  match l, h with
  | x :: y :: r, _ => simp [packB]
theorem vput_one (n : Nat) : vput [n] = put1 n := by simp [vput_cons, vput_nil]

theorem vPkPut0 (A : Option Addr) (n c : Nat) (w : World) (za zk zx : Int) (hzk : zk = 0) :
    Calls Try.prog 31 #[.slice A n c, .int .i64 za, .int .i64 zk, .int .u64 zx] w fun e w' => e = .returned (.tuple #[]) ∧ w' = w := by
  subst hzk
  go_enter Try.func31, Try.ntmps31
  go_wp2_with fail
  refine wp_loop_rounds 1 ?_
  rw [rounds_succ]
  go_wp2
  go_end0
  exact ⟨rfl, rfl⟩
theorem vPkPutA (pre b : Bs) (q c B : Nat) (w : World) (a x k : Nat) (za zk zx : Int) (hza : za = (a : Int)) (hzk : zk = (k : Int)) (hzx : zx = (x : Int)) (hx : (x : Int) < 18446744073709551616)
    (AA : Option Addr) (n m n' : Nat) (hAA : 0 < k → AA = some ⟨q, pre.length, none⟩) (hn : n = b.length) (hm : m = c - pre.length) (hn' : n' = pre.length + b.length)
    (hown : OwnB w B (.slice (some ⟨q, 0, none⟩) n' c) (pre ++ b)) (hk : k ≤ 64) (ha : a + k ≤ 8 * b.length) (hl : pre.length + b.length ≤ 140737488355328) :
    Calls Try.prog 31 #[.slice AA n m, .int .i64 za, .int .i64 zk, .int .u64 zx] w fun e w' => e = .returned (.tuple #[]) ∧ OwnB w' B (.slice (some ⟨q, 0, none⟩) n' c) (pre ++ putN b a x k) ∧ But [q] w w' := by
  subst hn hm hn'
  rcases Nat.eq_zero_or_pos k with h0 | h0
  · subst h0
    refine (vPkPut0 AA _ _ w za zk zx (by omega)).mono ?_
    rintro e w' ⟨rfl, rfl⟩
    exact ⟨rfl, hown, But.refl _ _⟩
  · rw [hAA h0]
    exact vPkPut pre b q c B w a x k za zk zx hza hzk hzx hx hown hk ha hl

def PackPost (l : List Nat) (B : Nat) (e : Ending) (w w' : World) : Prop :=
  match packP l with
  | .error k => e = .returned (.tuple #[.slice none 0 0, .int .i64 k]) ∧ Below w.heap.size w w'
  | .ok out => (∃ v, e = .returned (.tuple #[v, .int .i64 0]) ∧ OwnB w' B v out) ∧ Below w.heap.size w w'

set_option maxRecDepth 100000 in
set_option maxHeartbeats 4000000 in
theorem vPack (l : List Nat) (A : Option Addr) (c B : Nat) (w : World) (hr : Row w B 1 A l.length (l.map u64v)) (hB : B ≤ w.heap.size) (hn : ∀ n ∈ l, n < 18446744073709551616) (hl : l.length ≤ 140737488355328) :
    Calls Try.prog 15 #[.slice A l.length c] w fun e w' => PackPost l w.heap.size e w w' := by
  unfold PackPost packP
  by_cases h1 : 65536 < l.length
  · rw [if_pos h1]
    have h1' : (65536 : Int) < (l.length : Int) := by omega
    go_enter Try.func15, Try.ntmps15
    go_wp2
    go_ret2
    exact ⟨rfl, Below.refl _ _⟩
  · rw [if_neg h1]
    have h1' : ¬ (65536 : Int) < (l.length : Int) := by omega
    have Hn := Lib.hid hn; clear hn
    go_enter Try.func15, Try.ntmps15
    go_wp2
    go_loopw [4, 5] (fun m i wr => ∃ k : Nat, 1 ≤ k ∧ (k ≤ l.length ∨ k = 1) ∧ i = .int .i64 k ∧ m = .int .i64 (maxBits ((gapsN l).take (k - 1)) : Nat) ∧ RiseTo l k ∧ Below w.heap.size w wr) (fun _ i _ => l.length - (intOf i).toNat)
    case atStart => exact ⟨1, Nat.le_refl _, .inr rfl, rfl, rfl, fun j hj => absurd hj (by omega), Below.refl _ _⟩
    case round =>
      obtain ⟨k, hk1, hk2, rfl, rfl, hrise, hbel⟩ := hrel
      by_cases hlt : k < l.length
      · obtain ⟨j, rfl⟩ : ∃ j, k = j + 1 := ⟨k - 1, by omega⟩
        obtain ⟨b, off, rfl, hb, hc⟩ := hr.at_ (k := j) (by omega)
        have c1 : wr.cell? ⟨b, off + (j + 1), none⟩ = some (.int .u64 ((l[j + 1]?.getD 0 : Nat) : Int)) := by
          rw [hbel.cell (p := ⟨b, off + (j + 1), none⟩) (by show b < _; omega), hc (j + 1) (by simp; omega), List.getElem?_eq_getElem (by omega)]; simp [u64v]
        have c0 : wr.cell? ⟨b, off + j, none⟩ = some (.int .u64 ((l[j]?.getD 0 : Nat) : Int)) := by
          rw [hbel.cell (p := ⟨b, off + j, none⟩) (by show b < _; omega), hc j (by simp; omega), List.getElem?_eq_getElem (by omega)]; simp [u64v]
        clear hc
        obtain ⟨x, hx⟩ : ∃ x, x = l[j]?.getD 0 := ⟨_, rfl⟩
        obtain ⟨y, hy⟩ : ∃ y, y = l[j + 1]?.getD 0 := ⟨_, rfl⟩
        rw [← hx] at c0; rw [← hy] at c1
        by_cases hle : y ≤ x
        · have hle' : (y : Int) ≤ x := by omega
          have hnot : risingB l = false := rise_not (i := j) (by omega) (by rw [← hx, ← hy]; exact hle)
          obtain ⟨p, hp⟩ : ∃ p : Nat, p = j + 1 := ⟨_, rfl⟩
          rw [← hp] at c1 ⊢
          have w1 : IntKind.i64.wrap ((p : Int) - 1) = (j : Int) := by rw [IntKind.wrap_i64]; omega
          have p0 : (0 : Int) ≤ (p : Int) := by omega
          have p1 : (p : Int) < (l.length : Int) := by omega
          have p2 : (0 : Int) ≤ (j : Int) := by omega
          have p3 : (j : Int) < (l.length : Int) := by omega
          have hb2 : b < wr.heap.size := by have := hbel.size; omega
          have Hp := Lib.hid hp; clear hp
          have Hx := Lib.hid hx; clear hx
          have Hy := Lib.hid hy; clear hy
          go_upto_region 7 with fail
          have hS0 : Below wr.heap.size wr wr.drew := (Below.refl _ _).drew
          have y0 : ∀ w', Below wr.heap.size wr w' → w'.cell? ⟨b, off + p, none⟩ = some (.int .u64 (y : Int)) := fun w' h => (h.cell (p := ⟨b, off + p, none⟩) hb2).trans c1
          have y1 : ∀ w', Below wr.heap.size wr w' → w'.cell? ⟨b, off + j, none⟩ = some (.int .u64 (x : Int)) := fun w' h => (h.cell (p := ⟨b, off + j, none⟩) hb2).trans c0
          refine wp_region_N (fun w' => Below wr.heap.size wr w') 100 (by kernel_rfl) ?_
          apply wpAnyN_takeL 0 (by kernel_rfl) rfl (fun _ _ _ h => h) (by kernel_rfl) hS0
          · intro w' hS'
            go_simp; exact ⟨rfl, rfl⟩
          (try simp only [Act.put]); (try simp only [List.setIfInBounds_toArray]); (try simp only [List.set])
          apply wpAnyN_takeL 1 (by kernel_rfl) rfl (fun _ _ _ h => h) (by kernel_rfl) hS0
          · intro w' hS'
            go_simp; exact ⟨rfl, rfl⟩
          (try simp only [Act.put]); (try simp only [List.setIfInBounds_toArray]); (try simp only [List.set])
          apply wpAnyN_takeL 2 (by kernel_rfl) rfl (fun _ _ _ h => h) (by kernel_rfl) hS0
          · intro w' hS'
            go_simp; exact ⟨rfl, rfl⟩
          (try simp only [Act.put]); (try simp only [List.setIfInBounds_toArray]); (try simp only [List.set])
          apply wpAnyN_takeL 3 (by kernel_rfl) rfl (fun _ _ _ h => h) (by kernel_rfl) hS0
          · intro w' hS'
            go_simp; exact ⟨rfl, rfl⟩
          (try simp only [Act.put]); (try simp only [List.setIfInBounds_toArray]); (try simp only [List.set])
          apply wpAnyN_takeL 4 (by kernel_rfl) rfl (fun _ _ _ h => h) (by kernel_rfl) hS0
          · intro w' hS'
            go_simp; exact ⟨rfl, rfl⟩
          (try simp only [Act.put]); (try simp only [List.setIfInBounds_toArray]); (try simp only [List.set])
          apply wpAnyN_takeL 5 (by kernel_rfl) rfl (fun _ _ _ h => h) (by kernel_rfl) hS0
          · intro w' hS'
            go_simp; exact ⟨rfl, rfl⟩
          (try simp only [Act.put]); (try simp only [List.setIfInBounds_toArray]); (try simp only [List.set])
          apply wpAnyN_takeL 6 (by kernel_rfl) rfl (fun _ _ _ h => h) (by kernel_rfl) hS0
          · intro w' hS'
            go_simp; exact ⟨rfl, rfl⟩
          (try simp only [Act.put]); (try simp only [List.setIfInBounds_toArray]); (try simp only [List.set])
          apply wpAnyN_takeL 7 (by kernel_rfl) rfl (fun _ _ _ h => h) (by kernel_rfl) hS0
          · intro w' hS'
            go_simp; exact ⟨rfl, rfl⟩
          (try simp only [Act.put]); (try simp only [List.setIfInBounds_toArray]); (try simp only [List.set])
          apply wpAnyN_takeL 8 (by kernel_rfl) rfl (fun _ _ _ h => h) (by kernel_rfl) hS0
          · intro w' hS'
            go_simp; exact ⟨rfl, rfl⟩
          (try simp only [Act.put]); (try simp only [List.setIfInBounds_toArray]); (try simp only [List.set])
          apply wpAnyN_takeL 9 (by kernel_rfl) rfl (fun _ _ _ h => h) (by kernel_rfl) hS0
          · intro w' hS'
            go_simp; exact ⟨rfl, rfl⟩
          (try simp only [Act.put]); (try simp only [List.setIfInBounds_toArray]); (try simp only [List.set])
          refine wpAnyN_done (by kernel_rfl) ?_ _
          go_wp2
          all_goals
            go_ret2
            exact ⟨rfl, hbel.drew⟩
        · have hle' : ¬ (y : Int) ≤ x := by omega
          obtain ⟨p, hp⟩ : ∃ p : Nat, p = j + 1 := ⟨_, rfl⟩
          rw [← hp] at c1 ⊢
          have w1 : IntKind.i64.wrap ((p : Int) - 1) = (j : Int) := by rw [IntKind.wrap_i64]; omega
          have p0 : (0 : Int) ≤ (p : Int) := by omega
          have p1 : (p : Int) < (l.length : Int) := by omega
          have p2 : (0 : Int) ≤ (j : Int) := by omega
          have p3 : (j : Int) < (l.length : Int) := by omega
          have hb2 : b < wr.heap.size := by have := hbel.size; omega
          have hy64 : (y : Int) < 18446744073709551616 := by
            have := Hn.out y (by rw [hy, List.getElem?_eq_getElem (by omega)]; exact List.getElem_mem _)
            omega
          obtain ⟨d, hd⟩ : ∃ d : Nat, d = y - x := ⟨_, rfl⟩
          obtain ⟨g, hg⟩ : ∃ g : Nat, g = y - x - 1 := ⟨_, rfl⟩
          have w2 : IntKind.u64.wrap ((y : Int) - (x : Int)) = (d : Int) := by rw [IntKind.wrap_u64]; omega
          have w3 : IntKind.u64.wrap ((d : Int) - 1) = (g : Int) := by rw [IntKind.wrap_u64]; omega
          have hg64 : (g : Int) ≤ 18446744073709551615 := by omega
          have Hd := Lib.hid hd; clear hd
          have Hg := Lib.hid hg; clear hg
          have Hp := Lib.hid hp; clear hp
          have Hx := Lib.hid hx; clear hx
          have Hy := Lib.hid hy; clear hy
          go_upto_region 7 with fail
          have hS0 : Below wr.heap.size wr wr.drew := (Below.refl _ _).drew
          have y0 : ∀ w', Below wr.heap.size wr w' → w'.cell? ⟨b, off + p, none⟩ = some (.int .u64 (y : Int)) := fun w' h => (h.cell (p := ⟨b, off + p, none⟩) hb2).trans c1
          have y1 : ∀ w', Below wr.heap.size wr w' → w'.cell? ⟨b, off + j, none⟩ = some (.int .u64 (x : Int)) := fun w' h => (h.cell (p := ⟨b, off + j, none⟩) hb2).trans c0
          refine wp_region_N (fun w' => Below wr.heap.size wr w') 100 (by kernel_rfl) ?_
          apply wpAnyN_takeL 0 (by kernel_rfl) rfl (fun _ _ _ h => h) (by kernel_rfl) hS0
          · intro w' hS'
            go_simp; exact ⟨rfl, rfl⟩
          (try simp only [Act.put]); (try simp only [List.setIfInBounds_toArray]); (try simp only [List.set])
          apply wpAnyN_takeL 1 (by kernel_rfl) rfl (fun _ _ _ h => h) (by kernel_rfl) hS0
          · intro w' hS'
            go_simp; exact ⟨rfl, rfl⟩
          (try simp only [Act.put]); (try simp only [List.setIfInBounds_toArray]); (try simp only [List.set])
          apply wpAnyN_takeL 2 (by kernel_rfl) rfl (fun _ _ _ h => h) (by kernel_rfl) hS0
          · intro w' hS'
            go_simp; exact ⟨rfl, rfl⟩
          (try simp only [Act.put]); (try simp only [List.setIfInBounds_toArray]); (try simp only [List.set])
          apply wpAnyN_takeL 3 (by kernel_rfl) rfl (fun _ _ _ h => h) (by kernel_rfl) hS0
          · intro w' hS'
            go_simp; exact ⟨rfl, rfl⟩
          (try simp only [Act.put]); (try simp only [List.setIfInBounds_toArray]); (try simp only [List.set])
          apply wpAnyN_takeL 4 (by kernel_rfl) rfl (fun _ _ _ h => h) (by kernel_rfl) hS0
          · intro w' hS'
            go_simp; exact ⟨rfl, rfl⟩
          (try simp only [Act.put]); (try simp only [List.setIfInBounds_toArray]); (try simp only [List.set])
          apply wpAnyN_takeL 5 (by kernel_rfl) rfl (fun _ _ _ h => h) (by kernel_rfl) hS0
          · intro w' hS'
            go_simp; exact ⟨rfl, rfl⟩
          (try simp only [Act.put]); (try simp only [List.setIfInBounds_toArray]); (try simp only [List.set])
          apply wpAnyN_takeL 6 (by kernel_rfl) rfl (fun _ _ _ h => h) (by kernel_rfl) hS0
          · intro w' hS'
            go_simp; exact ⟨rfl, rfl⟩
          (try simp only [Act.put]); (try simp only [List.setIfInBounds_toArray]); (try simp only [List.set])
          apply wpAnyN_takeL 7 (by kernel_rfl) rfl (fun _ _ _ h => h) (by kernel_rfl) hS0
          · intro w' hS'
            go_simp; exact ⟨rfl, rfl⟩
          (try simp only [Act.put]); (try simp only [List.setIfInBounds_toArray]); (try simp only [List.set])
          apply wpAnyN_takeL 8 (by kernel_rfl) rfl (fun _ _ _ h => h) (by kernel_rfl) hS0
          · intro w' hS'
            go_simp; exact ⟨rfl, rfl⟩
          (try simp only [Act.put]); (try simp only [List.setIfInBounds_toArray]); (try simp only [List.set])
          apply wpAnyN_takeL 9 (by kernel_rfl) rfl (fun _ _ _ h => h) (by kernel_rfl) hS0
          · intro w' hS'
            go_simp; exact ⟨rfl, rfl⟩
          (try simp only [Act.put]); (try simp only [List.setIfInBounds_toArray]); (try simp only [List.set])
          refine wpAnyN_done (by kernel_rfl) ?_ _
          go_upto_region 9 with fail
          have hS1 : Below wr.heap.size wr wr.drew.drew := (Below.refl _ _).drew.drew
          refine wp_region_N (fun w' => Below wr.heap.size wr w') 100 (by kernel_rfl) ?_
          apply wpAnyN_takeL 0 (by kernel_rfl) rfl (fun _ _ _ h => h) (by kernel_rfl) hS1
          · intro w' hS'
            go_simp; exact ⟨rfl, rfl⟩
          (try simp only [Act.put]); (try simp only [List.setIfInBounds_toArray]); (try simp only [List.set])
          apply wpAnyN_takeL 1 (by kernel_rfl) rfl (fun _ _ _ h => h) (by kernel_rfl) hS1
          · intro w' hS'
            go_simp; exact ⟨rfl, rfl⟩
          (try simp only [Act.put]); (try simp only [List.setIfInBounds_toArray]); (try simp only [List.set])
          apply wpAnyN_takeL 2 (by kernel_rfl) rfl (fun _ _ _ h => h) (by kernel_rfl) hS1
          · intro w' hS'
            go_simp; exact ⟨rfl, rfl⟩
          (try simp only [Act.put]); (try simp only [List.setIfInBounds_toArray]); (try simp only [List.set])
          apply wpAnyN_takeL 3 (by kernel_rfl) rfl (fun _ _ _ h => h) (by kernel_rfl) hS1
          · intro w' hS'
            go_simp; exact ⟨rfl, rfl⟩
          (try simp only [Act.put]); (try simp only [List.setIfInBounds_toArray]); (try simp only [List.set])
          apply wpAnyN_takeL 4 (by kernel_rfl) rfl (fun _ _ _ h => h) (by kernel_rfl) hS1
          · intro w' hS'
            go_simp; exact ⟨rfl, rfl⟩
          (try simp only [Act.put]); (try simp only [List.setIfInBounds_toArray]); (try simp only [List.set])
          apply wpAnyN_takeL 5 (by kernel_rfl) rfl (fun _ _ _ h => h) (by kernel_rfl) hS1
          · intro w' hS'
            go_simp; exact ⟨rfl, rfl⟩
          (try simp only [Act.put]); (try simp only [List.setIfInBounds_toArray]); (try simp only [List.set])
          apply wpAnyN_takeL 6 (by kernel_rfl) rfl (fun _ _ _ h => h) (by kernel_rfl) hS1
          · intro w' hS'
            go_simp; exact ⟨rfl, rfl⟩
          (try simp only [Act.put]); (try simp only [List.setIfInBounds_toArray]); (try simp only [List.set])
          apply wpAnyN_takeL 7 (by kernel_rfl) rfl (fun _ _ _ h => h) (by kernel_rfl) hS1
          · intro w' hS'
            go_simp; exact ⟨rfl, rfl⟩
          (try simp only [Act.put]); (try simp only [List.setIfInBounds_toArray]); (try simp only [List.set])
          apply wpAnyN_takeL 8 (by kernel_rfl) rfl (fun _ _ _ h => h) (by kernel_rfl) hS1
          · intro w' hS'
            go_simp; exact ⟨rfl, rfl⟩
          (try simp only [Act.put]); (try simp only [List.setIfInBounds_toArray]); (try simp only [List.set])
          apply wpAnyN_takeL 9 (by kernel_rfl) rfl (fun _ _ _ h => h) (by kernel_rfl) hS1
          · intro w' hS'
            go_simp; exact ⟨rfl, rfl⟩
          (try simp only [Act.put]); (try simp only [List.setIfInBounds_toArray]); (try simp only [List.set])
          apply wpAnyN_takeL 10 (by kernel_rfl) rfl (fun _ _ _ h => h) (by kernel_rfl) hS1
          · intro w' hS'
            go_simp; exact ⟨rfl, rfl⟩
          (try simp only [Act.put]); (try simp only [List.setIfInBounds_toArray]); (try simp only [List.set])
          apply wpAnyN_takeL 11 (by kernel_rfl) rfl (fun _ _ _ h => h) (by kernel_rfl) hS1
          · intro w' hS'
            go_simp; exact ⟨rfl, rfl⟩
          (try simp only [Act.put]); (try simp only [List.setIfInBounds_toArray]); (try simp only [List.set])
          apply wpAnyN_takeL 12 (v := (.int .i64 (Lib.bitLen g : Nat))) (by kernel_rfl) rfl (fun _ _ _ h => h) (by kernel_rfl) hS1
          · intro w' hS'
            (go_simp; exact ⟨rfl, Try.bits_Len64 (g : Int) _ (by omega) (by omega)⟩)
          (try simp only [Act.put]); (try simp only [List.setIfInBounds_toArray]); (try simp only [List.set])
          apply wpAnyN_takeL 13 (by kernel_rfl) rfl (fun _ _ _ h => h) (by kernel_rfl) hS1
          · intro w' hS'
            go_simp; exact ⟨rfl, rfl⟩
          (try simp only [Act.put]); (try simp only [List.setIfInBounds_toArray]); (try simp only [List.set])
          apply wpAnyN_takeL 14 (by kernel_rfl) rfl (fun _ _ _ h => h) (by kernel_rfl) hS1
          · intro w' hS'
            go_simp; exact ⟨rfl, rfl⟩
          (try simp only [Act.put]); (try simp only [List.setIfInBounds_toArray]); (try simp only [List.set])
          refine wpAnyN_done (by kernel_rfl) ?_ _
          go_wp2
          have hx := Hx.out; have hy := Hy.out; have hg := Hg.out; have hp := Hp.out
          subst hp
          have hgap : (gapsN l)[j]? = some g := by
            rw [gapsN_at l j (by omega), hg, hx, hy, List.getElem?_eq_getElem (by omega), List.getElem?_eq_getElem (by omega)]; rfl
          obtain ⟨hj1, hj2⟩ := List.getElem?_eq_some_iff.1 hgap
          refine ⟨⟨j + 1 + 1, by omega, .inl (by omega), by simp, ?_, ?_, hbel.drew.drew⟩, by simp [intOf]; omega⟩
          · rw [show j + 1 + 1 - 1 = j + 1 by omega, show j + 1 - 1 = j by omega, maxBits_take hj1, hj2]
            congr 1; omega
          · intro i hi
            by_cases e : i = j
            · subst e; rw [← hx, ← hy]; omega
            · exact hrise i (by omega)
      · have hris : risingB l = true := RiseTo.all fun j hj => hrise j (by omega)
        have hmb : (gapsN l).take (k - 1) = gapsN l := List.take_of_length_le (by rw [gapsN_len]; omega)
        rw [hmb]
        obtain ⟨M, hM⟩ : ∃ M, M = maxBits (gapsN l) := ⟨_, rfl⟩
        rw [← hM]
        clear hmb hrise
        have HM := Lib.hid hM; clear hM
        have Hris := Lib.hid hris; clear hris
        have sB := hbel.size
        by_cases hl0 : l = []
        · subst hl0
          have hl2' : (([] : List Nat).length : Int) < 2 := by simp
          go_wp2_with fail
          refine (vPut [0] _ 1 (wr.heap.size + 1) _ (by simpa [u64v] using row_new wr _ [_]) (by simp) (by simp) (by simp)).mono ?_
          rintro e w1 ⟨v1, rfl, own1, hb1⟩
          go_wp2
          go_ret2
          rw [vput_one] at own1
          exact ⟨⟨v1, rfl, own_mono (B := (wr.alloc (.cells #[.int .u64 0] 31)).heap.size) (B' := w.heap.size) (show OwnB w1 _ v1 (packB []) by simpa [packB] using own1) (by simp; omega)⟩, (hbel.alloc (by omega) _).trans (hb1.mono (by simp; omega))⟩
        · have hl1 : 0 < l.length := List.length_pos_iff.2 hl0
          have hl1' : (0 : Int) < (l.length : Int) := by omega
          obtain ⟨b, off, rfl, hb, hc⟩ := hr.at_ (k := 0) hl1
          have hcell : ∀ j, j < l.length → w.cell? ⟨b, off + j, none⟩ = some (.int .u64 ((l[j]?.getD 0 : Nat) : Int)) := fun j hj => by
            rw [hc j (by simp; omega), List.getElem?_eq_getElem (by omega)]; simp [u64v]
          clear hc
          have Hcell := Lib.hid hcell; clear hcell
          obtain ⟨x0, hx0⟩ : ∃ x0, x0 = l[0]?.getD 0 := ⟨_, rfl⟩
          have hx64 : (x0 : Int) < 18446744073709551616 := by
            have := Hn.out x0 (by rw [hx0, List.getElem?_eq_getElem (by omega)]; exact List.getElem_mem _)
            omega
          have hlw : IntKind.u64.wrap (l.length : Int) = (l.length : Int) := by rw [IntKind.wrap_u64]; omega
          go_wp2_with fail
          refine (vPut [l.length] _ 1 (wr.heap.size + 1) _ (by simpa [u64v] using row_new wr _ [_]) (by simp) (by simp; omega) (by simp)).mono ?_
          rintro e w1 ⟨v1, rfl, own1, hb1⟩
          rw [vput_one] at own1
          have b1 : Below w.heap.size w w1 := (hbel.alloc (by omega) _).trans (hb1.mono (by simp; omega))
          have s1 := b1.size
          have own1' := own_mono (B' := w.heap.size) own1 (by simp; omega)
          have c0 : w1.cell? ⟨b, off, none⟩ = some (.int .u64 (x0 : Int)) := by
            have := Hcell.out 0 hl1
            rw [← hx0] at this
            exact (b1.cell (p := ⟨b, off, none⟩) (by show b < _; omega)).trans this
          clear own1 hb1
          have Hx0 := Lib.hid hx0; clear hx0
          go_wp2_with fail
          refine (vPut [x0] _ 1 (w1.heap.size + 1) _ (by simpa [u64v] using row_new w1 _ [_]) (by simp) (by simp; omega) (by simp)).mono ?_
          rintro e w2 ⟨v2, rfl, own2, hb2⟩
          rw [vput_one] at own2
          have hpl := put1_len (n := l.length) (by omega)
          have hpx := put1_len (n := x0) (by omega)
          obtain ⟨o1, ho1⟩ : ∃ o, o = put1 l.length := ⟨_, rfl⟩
          obtain ⟨o2, ho2⟩ : ∃ o, o = put1 x0 := ⟨_, rfl⟩
          rw [← ho1] at own1' hpl
          rw [← ho2] at own2 hpx
          have Ho1 := Lib.hid ho1; clear ho1
          have Ho2 := Lib.hid ho2; clear ho2
          obtain ⟨A2, k2, rfl, row2⟩ := own2.shape
          have hb2' : Below w1.heap.size w1 w2 := ((Below.refl _ _).alloc (Nat.le_refl _) _).trans (hb2.mono (by simp))
          have own1' := own_below own1' hb2'
          have b2 := b1.trans (hb2'.mono s1)
          have s2 := b2.size
          clear own2 hb2 hb2' c0 hx64 hlw
          have Hpl := Lib.hid (And.intro hpl hpx); clear hpl hpx
          by_cases h2 : (l.length : Int) < 2
          · go_wp2_with (at_builtin; refine wpList_app _ rfl bytesE rfl rfl own1' rfl row2 (bv_one _) (by have := Hpl.out; omega) s2 ?_; intro v3 w3 own3 _ hbb3 _)
            go_wp2
            go_ret2
            refine ⟨⟨v3, rfl, ?_⟩, b2.trans hbb3⟩
            rw [packB_one (by omega), ← Hx0.out, ← Ho1.out, ← Ho2.out]
            simpa [OwnB] using own3
          · have hM64 : M ≤ 64 := by rw [HM.out]; exact maxBits_le64 fun d hd => gap_lt Hn.out hd
            have hMw : IntKind.u8.wrap (M : Int) = (M : Int) := by rw [IntKind.wrap_u8]; omega
            obtain ⟨o4, ho4⟩ : ∃ o4, o4 = (o1 ++ o2) ++ [UInt8.ofNat M] := ⟨_, rfl⟩
            have hol : o4.length ≤ 40 := by rw [ho4]; have := Hpl.out; simp; omega
            have Hol := Lib.hid hol; clear hol
            have Ho4 := Lib.hid ho4; clear ho4
            have key : ∀ w' v, w'.ownsRow w.heap.size 5 1 v ((o1 ++ o2).length + 1) ((o1 ++ o2).map bv ++ [.int .u8 (M : Int)]) → OwnB w' w.heap.size v o4 := fun w' v h => by
              rw [Ho4.out]
              exact ownB_snoc h (by rw [ofNat_toNat (by omega)])
            have Key := Lib.hid key; clear key
            go_wp2_with (at_builtin; first
              | (refine wpList_app _ rfl bytesE rfl rfl own1' rfl row2 (bv_one _) (by have := Hpl.out; omega) s2 ?_; intro v3 w3 own3 _ hbb3 _
                 have b3 := b2.trans hbb3
                 have s3 := b3.size
                 have own3' : OwnB w3 w.heap.size v3 (o1 ++ o2) := by simpa [OwnB] using own3)
              | (refine wpList_app _ rfl bytesE rfl rfl (own3'.alloc _) rfl (row_new w3 _ [_]) (by simp [Value.oneCell']) (by have := Hpl.out; simp; omega) (by simp; omega) ?_; intro v4 w4 own4 _ hbb4 _
                 have own4' := Key.out _ _ own4
                 have b4 := (b3.alloc s3 _).trans hbb4
                 obtain ⟨A4, k4, rfl, kk4, row4⟩ := own4'.shapeC))
            have hol := Hol.out
            obtain ⟨N, hN⟩ : ∃ N, N = szN (l.length - 1) M := ⟨_, rfl⟩
            have hNs : N ≤ 1000000 := by
              rw [hN]; unfold szN
              have : (l.length - 1) * M ≤ 65536 * 64 := Nat.mul_le_mul (by omega) hM64
              omega
            refine (vPkSize (l.length - 1) M _ _ _ (by omega) rfl (by omega) hM64).mono ?_
            rintro e w5 ⟨rfl, hw5⟩
            obtain rfl : w4 = w5 := hw5.symm
            rw [← hN]
            have s4 := b4.size
            have HN := Lib.hid hN; clear hN hw5
            clear own4 hbb4 own3' own3 hbb3 own1' row2 b2 b3 hM64 hMw s3 s2 s1 b1 sB hbel
            go_wp2_with (at_builtin; refine wpList_app_zeros _ rfl bytesE Try.underlying3 rfl rfl rfl rfl own4' rfl (by simp; omega) s4 ?_; intro v6 w6 own6 _ hbb6 _
                         have b6 := b4.trans hbb6
                         obtain ⟨A6, k6, e6, kk6⟩ := own_form own6
                         subst e6
                         obtain ⟨q, rfl, hqB, -, -, kk7⟩ := own_at own6 (by have := congrArg List.length Ho4.out; simp at this; omega))
            have hbn : ∀ k, (packN M (List.replicate N 0) (gapsN l) k).length = N := fun k => by rw [packN_len, List.length_replicate]
            have own6' : OwnB w6 w.heap.size (.slice (some ⟨q, 0, none⟩) (o4.length + N) k6) (o4 ++ packN M (List.replicate N 0) (gapsN l) 0) := by
              unfold OwnB
              rw [List.length_append, hbn, packN, List.map_append, List.map_replicate]
              exact own6
            have hNN : ∀ k, k + 1 ≤ l.length - 1 → k * M + M ≤ 8 * N := fun k hk => by
              have h1 : (k + 1) * M ≤ (l.length - 1) * M := Nat.mul_le_mul_right _ hk
              rw [Nat.add_mul, Nat.one_mul] at h1
              rw [HN.out]; unfold szN; omega
            have HNN := Lib.hid hNN; clear hNN
            have Hbn := Lib.hid hbn; clear hbn
            obtain ⟨E, hE⟩ : ∃ E, E = o4.length := ⟨_, rfl⟩
            obtain ⟨T, hT⟩ : ∃ T, T = o4.length + N := ⟨_, rfl⟩
            rw [← hT] at own6' kk6 kk7 ⊢
            rw [← hE]
            have HT := Lib.hid hT; clear hT
            have HE := Lib.hid hE; clear hE
            clear own6 hbb6 own4' b4
            go_loopw [8] (fun i wr => ∃ k : Nat, k + 1 ≤ l.length ∧ i = .int .i64 (k + 1 : Nat) ∧ OwnB wr w.heap.size (.slice (some ⟨q, 0, none⟩) T k6) (o4 ++ packN M (List.replicate N 0) (gapsN l) k) ∧ Below w.heap.size w wr) (fun i _ => l.length - (intOf i).toNat)
            case atStart => exact ⟨0, by omega, rfl, own6', b6⟩
            case round =>
              obtain ⟨j, hj, rfl, own7, b7⟩ := hrel
              by_cases hlt : j + 1 < l.length
              · obtain ⟨wo, rfl⟩ : ∃ wo : World, wo = wr := ⟨_, rfl⟩
                have c1 : wo.cell? ⟨b, off + (j + 1), none⟩ = some (.int .u64 ((l[j + 1]?.getD 0 : Nat) : Int)) := (b7.cell (p := ⟨b, off + (j + 1), none⟩) (by show b < _; omega)).trans (Hcell.out (j + 1) hlt)
                have c0 : wo.cell? ⟨b, off + j, none⟩ = some (.int .u64 ((l[j]?.getD 0 : Nat) : Int)) := (b7.cell (p := ⟨b, off + j, none⟩) (by show b < _; omega)).trans (Hcell.out j (by omega))
                obtain ⟨x, hx⟩ : ∃ x, x = l[j]?.getD 0 := ⟨_, rfl⟩
                obtain ⟨y, hy⟩ : ∃ y, y = l[j + 1]?.getD 0 := ⟨_, rfl⟩
                rw [← hx] at c0; rw [← hy] at c1
                have hxy : x < y := by
                  have := rising_at Hris.out j hlt
                  rw [hx, hy, List.getElem?_eq_getElem (by omega), List.getElem?_eq_getElem hlt]
                  exact this
                have hy64 : (y : Int) < 18446744073709551616 := by
                  have := Hn.out y (by rw [hy, List.getElem?_eq_getElem (by omega)]; exact List.getElem_mem _)
                  omega
                have hM64 : M ≤ 64 := by rw [HM.out]; exact maxBits_le64 fun d hd => gap_lt Hn.out hd
                have hjM : j * M ≤ 65536 * 64 := Nat.mul_le_mul (by omega) hM64
                obtain ⟨d, hd⟩ : ∃ d : Nat, d = y - x := ⟨_, rfl⟩
                obtain ⟨g, hg⟩ : ∃ g : Nat, g = y - x - 1 := ⟨_, rfl⟩
                obtain ⟨m, hm⟩ : ∃ m : Nat, m = j * M := ⟨_, rfl⟩
                rw [← hm] at hjM
                have w2 : IntKind.u64.wrap ((y : Int) - (x : Int)) = (d : Int) := by rw [IntKind.wrap_u64]; omega
                have w3 : IntKind.u64.wrap ((d : Int) - 1) = (g : Int) := by rw [IntKind.wrap_u64]; omega
                have hg64 : (g : Int) < 18446744073709551616 := by omega
                have hG64 := Lib.hid hg64; clear hg64
                obtain ⟨p, hp⟩ : ∃ p : Nat, p = j + 1 := ⟨_, rfl⟩
                rw [← hp] at c1 ⊢
                have w1 : IntKind.i64.wrap ((p : Int) - 1) = (j : Int) := by rw [IntKind.wrap_i64]; omega
                have w4' : IntKind.i64.wrap ((j : Int) * (M : Int)) = (m : Int) := by
                  rw [show (j : Int) * (M : Int) = ((j * M : Nat) : Int) by simp, ← hm, IntKind.wrap_i64]; omega
                have p0 : (0 : Int) ≤ (p : Int) := by omega
                have p1 : (p : Int) < (l.length : Int) := by omega
                have p2 : (0 : Int) ≤ (j : Int) := by omega
                have p3 : (j : Int) < (l.length : Int) := by omega
                have hTE : T = E + N := by rw [HT.out, HE.out]
                have q0 : (0 : Int) ≤ (E : Int) := by omega
                have q1 : (E : Int) ≤ (T : Int) := by omega
                have q2 : T - E = N := by omega
                have Hte := Lib.hid hTE; clear hTE
                obtain ⟨AA, hAA⟩ : ∃ AA, (if k6 = E then some (⟨q, 0, none⟩ : Addr) else some ⟨q, E, none⟩) = AA := ⟨_, rfl⟩
                have hb2 : b < wo.heap.size := by have := b7.size; omega
                have Hp := Lib.hid hp; clear hp
                have Hx := Lib.hid hx; clear hx
                have Hy := Lib.hid hy; clear hy
                have Hd := Lib.hid hd; clear hd
                have Hg := Lib.hid hg; clear hg
                have Hm := Lib.hid hm; clear hm
                have hxy64 := Lib.hid (And.intro hxy hy64); clear hxy hy64
                go_upto_region 21 with fail
                have hS0 : But [q] wo wo.drew := (But.refl _ _).drew
                have hbq : b ∉ [q] := by simp; omega
                have y0 : ∀ w', But [q] wo w' → w'.cell? ⟨b, off + p, none⟩ = some (.int .u64 (y : Int)) := fun w' h => (h.cell (p := ⟨b, off + p, none⟩) hb2 hbq).trans c1
                have y1 : ∀ w', But [q] wo w' → w'.cell? ⟨b, off + j, none⟩ = some (.int .u64 (x : Int)) := fun w' h => (h.cell (p := ⟨b, off + j, none⟩) hb2 hbq).trans c0
                refine wp_region_N (fun w' => But [q] wo w') 100 (by kernel_rfl) ?_
                apply wpAnyN_takeL 0 (by kernel_rfl) rfl (fun _ _ _ h => h) (by kernel_rfl) hS0
                · intro w' hS'
                  go_simp; exact ⟨rfl, rfl⟩
                (try simp only [Act.put]); (try simp only [List.setIfInBounds_toArray]); (try simp only [List.set])
                apply wpAnyN_takeL 1 (by kernel_rfl) rfl (fun _ _ _ h => h) (by kernel_rfl) hS0
                · intro w' hS'
                  go_simp; exact ⟨rfl, rfl⟩
                (try simp only [Act.put]); (try simp only [List.setIfInBounds_toArray]); (try simp only [List.set])
                apply wpAnyN_takeL 2 (by kernel_rfl) rfl (fun _ _ _ h => h) (by kernel_rfl) hS0
                · intro w' hS'
                  go_simp; exact ⟨rfl, rfl⟩
                (try simp only [Act.put]); (try simp only [List.setIfInBounds_toArray]); (try simp only [List.set])
                apply wpAnyN_takeL 3 (by kernel_rfl) rfl (fun _ _ _ h => h) (by kernel_rfl) hS0
                · intro w' hS'
                  go_simp; exact ⟨rfl, rfl⟩
                (try simp only [Act.put]); (try simp only [List.setIfInBounds_toArray]); (try simp only [List.set])
                apply wpAnyN_takeL 4 (by kernel_rfl) rfl (fun _ _ _ h => h) (by kernel_rfl) hS0
                · intro w' hS'
                  go_simp; exact ⟨rfl, rfl⟩
                (try simp only [Act.put]); (try simp only [List.setIfInBounds_toArray]); (try simp only [List.set])
                apply wpAnyN_takeL 5 (by kernel_rfl) rfl (fun _ _ _ h => h) (by kernel_rfl) hS0
                · intro w' hS'
                  go_simp; exact ⟨rfl, rfl⟩
                (try simp only [Act.put]); (try simp only [List.setIfInBounds_toArray]); (try simp only [List.set])
                apply wpAnyN_takeL 6 (by kernel_rfl) rfl (fun _ _ _ h => h) (by kernel_rfl) hS0
                · intro w' hS'
                  go_simp; exact ⟨rfl, rfl⟩
                (try simp only [Act.put]); (try simp only [List.setIfInBounds_toArray]); (try simp only [List.set])
                apply wpAnyN_takeL 7 (by kernel_rfl) rfl (fun _ _ _ h => h) (by kernel_rfl) hS0
                · intro w' hS'
                  go_simp; exact ⟨rfl, rfl⟩
                (try simp only [Act.put]); (try simp only [List.setIfInBounds_toArray]); (try simp only [List.set])
                apply wpAnyN_takeL 8 (by kernel_rfl) rfl (fun _ _ _ h => h) (by kernel_rfl) hS0
                · intro w' hS'
                  go_simp; exact ⟨rfl, rfl⟩
                (try simp only [Act.put]); (try simp only [List.setIfInBounds_toArray]); (try simp only [List.set])
                apply wpAnyN_takeL 9 (by kernel_rfl) rfl (fun _ _ _ h => h) (by kernel_rfl) hS0
                · intro w' hS'
                  go_simp; exact ⟨rfl, rfl⟩
                (try simp only [Act.put]); (try simp only [List.setIfInBounds_toArray]); (try simp only [List.set])
                apply wpAnyN_takeL 10 (by kernel_rfl) rfl (fun _ _ _ h => h) (by kernel_rfl) hS0
                · intro w' hS'
                  go_simp; exact ⟨rfl, rfl⟩
                (try simp only [Act.put]); (try simp only [List.setIfInBounds_toArray]); (try simp only [List.set])
                apply wpAnyN_takeL 11 (by kernel_rfl) rfl (fun _ _ _ h => h) (by kernel_rfl) hS0
                · intro w' hS'
                  go_simp; exact ⟨rfl, rfl⟩
                (try simp only [Act.put]); (try simp only [List.setIfInBounds_toArray]); (try simp only [List.set])
                apply wpAnyN_takeL 12 (by kernel_rfl) rfl (fun _ _ _ h => h) (by kernel_rfl) hS0
                · intro w' hS'
                  go_simp; exact ⟨rfl, rfl⟩
                (try simp only [Act.put]); (try simp only [List.setIfInBounds_toArray]); (try simp only [List.set])
                apply wpAnyN_takeL 13 (by kernel_rfl) rfl (fun _ _ _ h => h) (by kernel_rfl) hS0
                · intro w' hS'
                  go_simp; exact ⟨rfl, rfl⟩
                (try simp only [Act.put]); (try simp only [List.setIfInBounds_toArray]); (try simp only [List.set])
                apply wpAnyN_takeL 14 (by kernel_rfl) rfl (fun _ _ _ h => h) (by kernel_rfl) hS0
                · intro w' hS'
                  go_simp; exact ⟨rfl, rfl⟩
                (try simp only [Act.put]); (try simp only [List.setIfInBounds_toArray]); (try simp only [List.set])
                apply wpAnyN_takeL 15 (by kernel_rfl) rfl (fun _ _ _ h => h) (by kernel_rfl) hS0
                · intro w' hS'
                  go_simp; exact ⟨rfl, rfl⟩
                (try simp only [Act.put]); (try simp only [List.setIfInBounds_toArray]); (try simp only [List.set])
                apply wpAnyN_takeL 16 (by kernel_rfl) rfl (fun _ _ _ h => h) (by kernel_rfl) hS0
                · intro w' hS'
                  go_simp; exact ⟨rfl, rfl⟩
                (try simp only [Act.put]); (try simp only [List.setIfInBounds_toArray]); (try simp only [List.set])
                apply wpAnyN_takeL 17 (by kernel_rfl) rfl (fun _ _ _ h => h) (by kernel_rfl) hS0
                · intro w' hS'
                  go_simp; exact ⟨rfl, rfl⟩
                (try simp only [Act.put]); (try simp only [List.setIfInBounds_toArray]); (try simp only [List.set])
                apply wpAnyN_takeL 18 (by kernel_rfl) rfl (fun _ _ _ h => h) (by kernel_rfl) hS0
                · intro w' hS'
                  go_simp; exact ⟨rfl, rfl⟩
                (try simp only [Act.put]); (try simp only [List.setIfInBounds_toArray]); (try simp only [List.set])
                refine wpAnyN_runL 19 (by kernel_rfl) rfl (by kernel_rfl) (fun K hK => ?_)
                go_simp
                have hp := Hp.out; have hx := Hx.out; have hy := Hy.out; have hg := Hg.out; have hm := Hm.out; have hE := HE.out
                have hbl := Hbn.out j
                have htj := HNN.out j (by omega)
                have hAA2 : 0 < M → AA = some ⟨q, o4.length, none⟩ := fun h => by
                  rw [← hAA, if_neg, hE]
                  have := Hte.out; omega
                refine (vPkPutA o4 (packN M (List.replicate N 0) (gapsN l) j) q k6 w.heap.size wo.drew m g M _ _ _ rfl rfl rfl hG64.out AA N _ T hAA2 hbl.symm (by rw [hE]) (by rw [hbl]; exact HT.out) own7 hM64 (by rw [hbl, hm]; exact htj) (by rw [hbl]; have := Hol.out; omega)).mono ?_
                rintro e w8 ⟨rfl, own8, hbut8⟩
                have hS1 : But [q] wo w8 := hS0.trans hbut8
                refine hK _ _ (fun _ => hS1) ?_
                clear hK K
                (try simp only [Act.put]); (try simp only [List.setIfInBounds_toArray]); (try simp only [List.set])
                refine wpAnyN_done (by kernel_rfl) ?_ _
                go_wp2
                subst hp
                have hgap : (gapsN l)[j]? = some g := by
                  rw [gapsN_at l j (by omega), hg, hx, hy, List.getElem?_eq_getElem (by omega), List.getElem?_eq_getElem (by omega)]; rfl
                obtain ⟨hj1, hj2⟩ := List.getElem?_eq_some_iff.1 hgap
                refine ⟨⟨j + 1, by omega, by simp, ?_, b7.trans (hS1.below b7.size (by simp; omega))⟩, by simp [intOf]; omega⟩
                rw [packN_take hj1, hj2, ← hm]
                exact own8
              · have hjl : j = (gapsN l).length := by rw [gapsN_len]; omega
                go_wp2
                go_ret2
                refine ⟨⟨_, rfl, ?_⟩, b7⟩
                rw [packB_two (by omega), ← Hx0.out, ← Ho1.out, ← Ho2.out, ← HM.out, ← Ho4.out]
                have := own7
                rw [hjl, HN.out, HM.out] at this
                unfold OwnB at this ⊢
                have hlen : T = (o4 ++ bodyN l).length := by rw [List.length_append, bodyN_len, HT.out, HN.out, HM.out]
                exact this
end Go.Proofs.Ytmalkgakdmghiaa
