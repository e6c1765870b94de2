import Derived.Test.YtcjapjnhejenaaaDoorLawHL
import Derived.Test.YtcjapjnhejenaaaDoorHtX
/-! HttpPairs: escaped -/
namespace Garner
open Go
theorem take_snoc {l : Bs} {k : Nat} {x : UInt8} (h : l[k]? = some x) : l.take (k + 1) = l.take k ++ [x] := by rw [List.take_add_one, h, Option.toList_some]
theorem hexT_one (up : Bool) {d : Nat} (h : d < 16) : hexT up d = [digP up d] := by unfold hexT; rw [if_pos h]
end Garner
namespace Go.Proofs.YtcjapjnhejenaaaDoor
open Go.RowKit Go.Shelf Garner

set_option maxRecDepth 100000 in
set_option maxHeartbeats 8000000 in
theorem vEsc (s : ByteArray) (w : World) (hs : s.size ≤ 1000000000) : Calls Tryd.prog 13 #[.string s] w fun e w' => e = .returned (str (escP s.data.toList)) ∧ Below w.heap.size w w' := by
  obtain ⟨l, hl⟩ : ∃ l, s.data.toList = l := ⟨_, rfl⟩
  have hll : l.length = s.size := by rw [← hl, Lib.size_eq]
  have hvl : ∀ (n : Nat) (u : World), n < 16 → Calls Tryd.prog 11 #[.int .i64 n, .string ⟨#[48, 49, 50, 51, 52, 53, 54, 55, 56, 57, 97, 98, 99, 100, 101, 102]⟩] u fun e w' => e = .returned (.string ⟨#[digP false n]⟩) ∧ w' = u := fun n u h => by
    have := vHexT false n u (by omega)
    rw [hexT_one false h] at this
    exact this
  have hvu : ∀ (n : Nat) (u : World), n < 16 → Calls Tryd.prog 11 #[.int .i64 n, .string ⟨#[48, 49, 50, 51, 52, 53, 54, 55, 56, 57, 65, 66, 67, 68, 69, 70]⟩] u fun e w' => e = .returned (.string ⟨#[digP true n]⟩) ∧ w' = u := fun n u h => by
    have := vHexT true n u (by omega)
    rw [hexT_one true h] at this
    exact this
  have Hvl := Lib.hid hvl; have Hvu := Lib.hid hvu
  have Hl := Lib.hid hl
  have Hll := Lib.hid hll
  rw [hl]
  clear hvl hvu hl hll
  go_enter Tryd.func13, Tryd.ntmps13
  go_wp2
  go_loopw [3, 4] (fun s3 s4 wr => ∃ k : Nat, k ≤ s.size ∧ s3 = str (escP (l.take k)) ∧ s4 = .int .i64 k ∧ Below w.heap.size w wr) (fun _ s4 _ => s.size - (intOf s4).toNat)
  case atStart => exact ⟨0, Nat.zero_le _, rfl, rfl, Below.refl _ _⟩
  case round =>
    obtain ⟨k, hk, rfl, rfl, hbr⟩ := hrel
    obtain ⟨wo, rfl⟩ : ∃ wo : World, wo = wr := ⟨_, rfl⟩
    by_cases hlt : k < s.size
    · have z1 : (k : Int) < (s.size : Int) := by omega
      have z2 : IntKind.i64.wrap ((k : Int) + 1) = (k : Int) + 1 := by rw [IntKind.wrap_i64]; omega
      have hi : 0 ≤ (k : Int) ∧ (k : Int) < s.size := ⟨by omega, z1⟩
      obtain ⟨x, hx⟩ : ∃ x : UInt8, l[k]? = some x := ⟨_, List.getElem?_eq_getElem (by rw [Hll.out]; exact hlt)⟩
      obtain ⟨c, hc⟩ : ∃ c : Nat, x.toNat = c := ⟨_, rfl⟩
      have hc256 : c < 256 := by rw [← hc]; exact x.toNat_lt
      have hix : ∀ u : World, (Instr.index 9 (.string s) (.int .i64 k)).run Tryd.prog u = .ok (.int .u8 (c : Int)) u := fun u => by
        have h := run_index_string (P := Tryd.prog) u 9 s .i64 k (by kernel_rfl)
        rw [dif_pos hi] at h
        rw [h]
        have e : (s[(k : Int).toNat]'(by omega)) = x := by
          have h2 : l[k]? = some (s[k]'hlt) := by rw [← Hl.out, List.getElem?_eq_getElem (by rw [← Lib.size_eq]; exact hlt)]; rfl
          rw [hx] at h2
          exact (Option.some.inj h2).symm
        rw [e, ← hc]
      have z3 : IntKind.i64.wrap (c : Int) = (c : Int) := by rw [IntKind.wrap_i64]; omega
      have z4 : (c : Int).tdiv 16 = ((c / 16 : Nat) : Int) := by rw [Int.tdiv_eq_ediv_of_nonneg (by omega)]; omega
      have z5 : (c : Int).tmod 16 = ((c % 16 : Nat) : Int) := by rw [Int.tmod_eq_emod_of_nonneg (by omega)]; omega
      obtain ⟨h1, hh1⟩ : ∃ h1, c / 16 = h1 := ⟨_, rfl⟩
      obtain ⟨h2, hh2⟩ : ∃ h2, c % 16 = h2 := ⟨_, rfl⟩
      rw [hh1] at z4
      rw [hh2] at z5
      have z6 : IntKind.i64.wrap (h1 : Int) = (h1 : Int) := by rw [IntKind.wrap_i64]; omega
      have z7 : IntKind.i64.wrap (h2 : Int) = (h2 : Int) := by rw [IntKind.wrap_i64]; omega
      have c1 := fun u => Hvl.out h1 u (by omega)
      have c2 := fun u => Hvu.out h2 u (by omega)
      obtain ⟨ev, hev⟩ : ∃ ev : ByteArray, ev = ⟨(escP (l.take k)).toArray⟩ := ⟨_, rfl⟩
      rw [show str (escP (l.take k)) = .string ev by rw [hev]]
      have hes : ev.size = 3 * k := by rw [hev, str_size, escP_len, List.length_take, Hll.out]; omega
      obtain ⟨a1, ea1, da1, sa1⟩ := cat_str ev (escP (l.take k)) [37] hev (3 * k + 1) (by rw [escP_len, List.length_take, Hll.out]; simp; omega)
      obtain ⟨a2, ea2, da2, sa2⟩ := cat_str a1 (escP (l.take k) ++ [37]) [digP false h1] (by rw [← da1]) (3 * k + 2) (by rw [List.length_append, escP_len, List.length_take, Hll.out]; simp; omega)
      obtain ⟨a3, ea3, da3, sa3⟩ := cat_str a2 (escP (l.take k) ++ [37] ++ [digP false h1]) [digP true h2] (by rw [← da2]) (3 * k + 3) (by rw [List.length_append, List.length_append, escP_len, List.length_take, Hll.out]; simp; omega)
      have ea1 : (ev ++ ⟨#[37]⟩ : ByteArray) = a1 := ea1
      have ea2 : (a1 ++ ⟨#[digP false h1]⟩ : ByteArray) = a2 := ea2
      have ea3 : (a2 ++ ⟨#[digP true h2]⟩ : ByteArray) = a3 := ea3
      have m1 : ¬ 9223372036854775807 < ev.size + 1 := by omega
      have m2 : ¬ 9223372036854775807 < a1.size + 1 := by omega
      have m3 : ¬ 9223372036854775807 < a2.size + 1 := by omega
      have Ha3 : Hid (a3 = ⟨(escP (l.take (k + 1))).toArray⟩) := Lib.hid (by
        have e : escP (l.take (k + 1)) = a3.data.toList := by
          rw [da3, take_snoc hx, escP_snoc]
          unfold escB
          rw [hc, hh1, hh2]
          simp
        rw [e])
      clear hx hc hh1 hh2 hev hes da1 da2 da3 sa1 sa2 sa3 hi
      go_upto_region 5 with fail
      refine wp_region_N (fun w' => Below w.heap.size w w') 100 (by kernel_rfl) ?_
      have rS0 : Below w.heap.size w wo.drew := hbr.drew
      apply wpAnyN_takeL 0 (by kernel_rfl) rfl (fun _ _ _ h => h) (by kernel_rfl) rS0
      · intro w' hS'
        go_simp; exact ⟨rfl, rfl⟩
      (try simp only [Act.put]); (try simp only [List.setIfInBounds_toArray]); (try simp only [List.set])
      apply wpAnyN_takeL 1 (by kernel_rfl) rfl (fun _ _ _ h => h) (by kernel_rfl) rS0
      · intro w' hS'
        go_simp; exact ⟨rfl, rfl⟩
      (try simp only [Act.put]); (try simp only [List.setIfInBounds_toArray]); (try simp only [List.set])
      apply wpAnyN_takeL 2 (by kernel_rfl) rfl (fun _ _ _ h => h) (by kernel_rfl) rS0
      · intro w' hS'
        go_simp; exact ⟨rfl, rfl⟩
      (try simp only [Act.put]); (try simp only [List.setIfInBounds_toArray]); (try simp only [List.set])
      apply wpAnyN_takeL 3 (by kernel_rfl) rfl (fun _ _ _ h => h) (by kernel_rfl) rS0
      · intro w' hS'
        go_simp; exact ⟨rfl, rfl⟩
      (try simp only [Act.put]); (try simp only [List.setIfInBounds_toArray]); (try simp only [List.set])
      apply wpAnyN_takeL 4 (v := (.int .u8 (c : Int))) (by kernel_rfl) rfl (fun _ _ _ h => h) (by kernel_rfl) rS0
      · intro w' hS'
        (have hst := hix w'; go_simp; exact ⟨rfl, rfl⟩)
      (try simp only [Act.put]); (try simp only [List.setIfInBounds_toArray]); (try simp only [List.set])
      apply wpAnyN_takeL 5 (by kernel_rfl) rfl (fun _ _ _ h => h) (by kernel_rfl) rS0
      · intro w' hS'
        go_simp; exact ⟨rfl, rfl⟩
      (try simp only [Act.put]); (try simp only [List.setIfInBounds_toArray]); (try simp only [List.set])
      apply wpAnyN_takeL 6 (by kernel_rfl) rfl (fun _ _ _ h => h) (by kernel_rfl) rS0
      · intro w' hS'
        go_simp; exact ⟨rfl, rfl⟩
      (try simp only [Act.put]); (try simp only [List.setIfInBounds_toArray]); (try simp only [List.set])
      apply wpAnyN_takeL 7 (v := (.string ⟨#[digP false h1]⟩)) (by kernel_rfl) rfl (fun _ _ _ h => h) (by kernel_rfl) rS0
      · intro w' hS'
        (go_simp; exact ⟨rfl, c1 _⟩)
      (try simp only [Act.put]); (try simp only [List.setIfInBounds_toArray]); (try simp only [List.set])
      apply wpAnyN_takeL 8 (by kernel_rfl) rfl (fun _ _ _ h => h) (by kernel_rfl) rS0
      · intro w' hS'
        go_simp; exact ⟨rfl, rfl⟩
      (try simp only [Act.put]); (try simp only [List.setIfInBounds_toArray]); (try simp only [List.set])
      apply wpAnyN_takeL 9 (by kernel_rfl) rfl (fun _ _ _ h => h) (by kernel_rfl) rS0
      · intro w' hS'
        go_simp; exact ⟨rfl, rfl⟩
      (try simp only [Act.put]); (try simp only [List.setIfInBounds_toArray]); (try simp only [List.set])
      apply wpAnyN_takeL 10 (by kernel_rfl) rfl (fun _ _ _ h => h) (by kernel_rfl) rS0
      · intro w' hS'
        go_simp; exact ⟨rfl, rfl⟩
      (try simp only [Act.put]); (try simp only [List.setIfInBounds_toArray]); (try simp only [List.set])
      apply wpAnyN_takeL 11 (v := (.int .u8 (c : Int))) (by kernel_rfl) rfl (fun _ _ _ h => h) (by kernel_rfl) rS0
      · intro w' hS'
        (have hst := hix w'; go_simp; exact ⟨rfl, rfl⟩)
      (try simp only [Act.put]); (try simp only [List.setIfInBounds_toArray]); (try simp only [List.set])
      apply wpAnyN_takeL 12 (by kernel_rfl) rfl (fun _ _ _ h => h) (by kernel_rfl) rS0
      · intro w' hS'
        go_simp; exact ⟨rfl, rfl⟩
      (try simp only [Act.put]); (try simp only [List.setIfInBounds_toArray]); (try simp only [List.set])
      apply wpAnyN_takeL 13 (by kernel_rfl) rfl (fun _ _ _ h => h) (by kernel_rfl) rS0
      · intro w' hS'
        go_simp; exact ⟨rfl, rfl⟩
      (try simp only [Act.put]); (try simp only [List.setIfInBounds_toArray]); (try simp only [List.set])
      apply wpAnyN_takeL 14 (v := (.string ⟨#[digP true h2]⟩)) (by kernel_rfl) rfl (fun _ _ _ h => h) (by kernel_rfl) rS0
      · intro w' hS'
        (go_simp; exact ⟨rfl, c2 _⟩)
      (try simp only [Act.put]); (try simp only [List.setIfInBounds_toArray]); (try simp only [List.set])
      apply wpAnyN_takeL 15 (by kernel_rfl) rfl (fun _ _ _ h => h) (by kernel_rfl) rS0
      · intro w' hS'
        go_simp; exact ⟨rfl, rfl⟩
      (try simp only [Act.put]); (try simp only [List.setIfInBounds_toArray]); (try simp only [List.set])
      apply wpAnyN_takeL 16 (by kernel_rfl) rfl (fun _ _ _ h => h) (by kernel_rfl) rS0
      · intro w' hS'
        go_simp; exact ⟨rfl, rfl⟩
      (try simp only [Act.put]); (try simp only [List.setIfInBounds_toArray]); (try simp only [List.set])
      refine wpAnyN_done (by kernel_rfl) ?_ _
      go_wp2_with fail
      exact ⟨⟨k + 1, by omega, by rw [Ha3.out], by simp, rS0⟩, by simp [intOf]; omega⟩
    · have z1 : ¬ (k : Int) < (s.size : Int) := by omega
      obtain rfl : k = s.size := by omega
      rw [List.take_of_length_le (by rw [Hll.out]; exact Nat.le_refl _)]
      go_wp2
      go_ret
      exact ⟨rfl, hbr⟩
end Go.Proofs.YtcjapjnhejenaaaDoor
