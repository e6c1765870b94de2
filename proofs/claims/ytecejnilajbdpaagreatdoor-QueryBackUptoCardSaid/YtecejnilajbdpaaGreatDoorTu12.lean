import Derived.Test.YtecejnilajbdpaaGreatDoorTu10
import Derived.Test.YtecejnilajbdpaaGreatDoorTu11
import Derived.WalkMore
import Derived.Lib.IndexAny
import Derived.Lib.OthersKept
/-! strings.ContainsRune at an ASCII text -/
namespace Garner
open Go
theorem idx_none {l : Bs} {c : UInt8} (h : ∀ b ∈ l, b ≠ c) : Lib.indexByte l c = -1 := by
  have h0 := Lib.indexByte_ge l c
  rcases Int.lt_or_le (Lib.indexByte l c) 0 with h1 | h1
  · omega
  · exfalso
    have h2 := (Lib.indexByte_some (l := l) (c := c) (o := (Lib.indexByte l c).toNat) (by omega)).1
    exact h c (List.mem_of_getElem? h2) rfl
theorem enc_high (r : Nat) (h : 128 ≤ r) : ∃ (rs : ByteArray) (k : Nat) (c : UInt8), Utf8.encode (r : Int) = rs ∧ rs.size = k + 1 ∧ 1 ≤ k ∧ k ≤ 3 ∧ 128 ≤ c.toNat ∧ rs.data.toList[k]? = some c := by
  obtain ⟨d, hd⟩ : ∃ d : Nat, d = if Utf8.valid (r : Int) = true then (r : Int).toNat else Utf8.runeError := ⟨_, rfl⟩
  have hd1 : 128 ≤ d := by
    rw [hd]; split
    · omega
    · decide
  have hb : 128 ≤ (UInt8.ofNat (128 + d % 64)).toNat := by simp; omega
  unfold Utf8.encode
  dsimp only
  rw [← hd, if_neg (by omega)]
  split
  · exact ⟨_, 1, _, rfl, rfl, by omega, by omega, hb, rfl⟩
  · split
    · exact ⟨_, 2, _, rfl, rfl, by omega, by omega, hb, rfl⟩
    · exact ⟨_, 3, _, rfl, rfl, by omega, by omega, hb, rfl⟩
end Garner
namespace Go.Proofs.YtecejnilajbdpaaGreatDoor
open Go.RowKit Garner
theorem idx_at (s : ByteArray) (k : Nat) (c : UInt8) (h : s.data.toList[k]? = some c) (u : World) : (Instr.index 9 (.string s) (.int .i64 k)).run Tryz.prog u = .ok (.int .u8 (c.toNat : Int)) u := by
  have hk : k < s.size := by rw [Lib.size_eq]; exact (List.getElem?_eq_some_iff.1 h).1
  have hi : 0 ≤ (k : Int) ∧ (k : Int) < s.size := ⟨by omega, by omega⟩
  have h1 := run_index_string (P := Tryz.prog) u 9 s .i64 k (by kernel_rfl)
  rw [dif_pos hi] at h1
  rw [h1]
  have e : (s[(k : Int).toNat]'(by omega)) = c := by
    have h2 : s.data.toList[k]? = some (s[k]'hk) := by rw [List.getElem?_eq_getElem (by rw [← Lib.size_eq]; exact hk)]; rfl
    rw [h] at h2
    exact (Option.some.inj h2).symm
  rw [e]

set_option maxRecDepth 100000 in
set_option maxHeartbeats 4000000 in
theorem vIdxRune (s : ByteArray) (r : Nat) (w : World) (hs : ∀ b ∈ s.data.toList, b.toNat < 128) (h4 : 4 ≤ s.size) (h100 : s.size ≤ 100) (hr : 128 ≤ r) (hr2 : r ≤ 1114111) (hne : r ≠ 65533) :
    Calls Tryz.prog 156 #[.string s, .int .i32 r] w fun e w' => e = .returned (.int .i64 (-1)) ∧ Below w.heap.size w w' := by
  have z1 : (0 : Int) ≤ (r : Int) := by omega
  have z2 : ¬ (r : Int) < 128 := by omega
  have z3 : ¬ (r : Int) = 65533 := by omega
  have cv := fun u => Tryz.utf8_ValidRune (r : Int) u
  go_enter Tryz.func156, Tryz.ntmps156
  go_wp2_with fail
  refine (cv w).mono ?_
  rintro e w' ⟨rfl, hw⟩
  obtain rfl : w = w' := hw.symm
  cases hv : Lib.validRune (r : Int) with
  | false =>
    go_wp2_with fail
    go_ret
    exact ⟨rfl, .refl _ _⟩
  | true =>
    obtain ⟨rs, k, c, hrs, hsz, hk1, hk3, hc, hlast⟩ := enc_high r hr
    obtain ⟨a, ha⟩ : ∃ a : UInt8, s.data.toList[k]? = some a := ⟨_, List.getElem?_eq_getElem (by rw [← Lib.size_eq]; omega)⟩
    have ha1 := hs a (List.mem_of_getElem? ha)
    have ix1 := idx_at s k a ha
    have ix2 := idx_at rs k c hlast
    obtain ⟨x, hx⟩ : ∃ x, a.toNat = x := ⟨_, rfl⟩
    obtain ⟨y, hy⟩ : ∃ y, c.toNat = y := ⟨_, rfl⟩
    rw [hx] at ix1 ha1
    rw [hy] at ix2 hc
    have z4 : ((x : Int) != (y : Int)) = true := by simp; omega
    have z5 : ¬ (x : Int) = (y : Int) := by omega
    have z6 : IntKind.i64.wrap ((k : Int) + 1 - 1) = (k : Int) := by rw [IntKind.wrap_i64]; omega
    have z7 : (k : Int) < (s.size : Int) := by omega
    have z8 : IntKind.i64.wrap ((k : Int) + 1) = ((k + 1 : Nat) : Int) := by rw [IntKind.wrap_i64]; omega
    have z9 : ((k + 1 : Nat) : Int) ≤ (s.size : Int) := by omega
    have cb : ∀ u, Calls Tryz.prog 185 #[.string (s.extract (k + 1) s.size), .int .u8 y] u fun e w' => e = .returned (.int .i64 (-1)) ∧ w' = u := fun u => by
      have h := Tryz.strings_IndexByte (s.extract (k + 1) s.size) (y : Int) u
      rw [idx_none (fun b hb e => by
        have h1 : b.toNat < 128 := hs b (by
          have : b ∈ (s.data.toList.drop (k + 1)).take (s.size - (k + 1)) := by simpa using hb
          exact List.mem_of_mem_drop (List.mem_of_mem_take this))
        rw [e] at h1
        have h2 : y < 256 := by rw [← hy]; exact c.toNat_lt
        simp at h1
        omega)] at h
      exact h
    clear ha hlast hx hy hs
    go_wp2
    go_step3
    go_wp2
    go_loopw [9, 10] (fun s9 s10 wr => s9 = .int .i64 k ∧ s10 = .int .i64 0 ∧ wr = w) (fun _ _ _ => 0)
    case atStart => exact ⟨rfl, rfl, rfl⟩
    case round =>
      obtain ⟨rfl, rfl, hwr⟩ := hrel
      obtain rfl : w = wr := hwr.symm
      have rS0 : Below w.heap.size w w.drew := (Below.refl _ _).drew
      go_wp2
      go_step3
      go_upto_region 6 with fail
      refine wp_region_N (fun w' => Below w.heap.size w w') 100 (by kernel_rfl) ?_
      apply wpAnyN_takeL 0 (by kernel_rfl) rfl (fun _ _ _ h => h) (by kernel_rfl) rS0
      · intro w' hS'
        go_simp; exact ⟨rfl, rfl⟩
      (try simp only [Act.put]); (try simp only [List.setIfInBounds_toArray]); (try simp only [List.set])
      apply wpAnyN_takeL 1 (by kernel_rfl) rfl (fun _ _ _ h => h) (by kernel_rfl) rS0
      · intro w' hS'
        go_simp; exact ⟨rfl, rfl⟩
      (try simp only [Act.put]); (try simp only [List.setIfInBounds_toArray]); (try simp only [List.set])
      apply wpAnyN_takeL 2 (v := (.int .u8 (x : Int))) (by kernel_rfl) rfl (fun _ _ _ h => h) (by kernel_rfl) rS0
      · intro w' hS'
        (have hst := ix1 w'; go_simp; exact ⟨rfl, rfl⟩)
      (try simp only [Act.put]); (try simp only [List.setIfInBounds_toArray]); (try simp only [List.set])
      apply wpAnyN_takeL 3 (by kernel_rfl) rfl (fun _ _ _ h => h) (by kernel_rfl) rS0
      · intro w' hS'
        go_simp; exact ⟨rfl, rfl⟩
      (try simp only [Act.put]); (try simp only [List.setIfInBounds_toArray]); (try simp only [List.set])
      apply wpAnyN_takeL 4 (by kernel_rfl) rfl (fun _ _ _ h => h) (by kernel_rfl) rS0
      · intro w' hS'
        go_simp; exact ⟨rfl, rfl⟩
      (try simp only [Act.put]); (try simp only [List.setIfInBounds_toArray]); (try simp only [List.set])
      apply wpAnyN_takeL 5 (v := (.int .u8 (y : Int))) (by kernel_rfl) rfl (fun _ _ _ h => h) (by kernel_rfl) rS0
      · intro w' hS'
        (have hst := ix2 w'; go_simp; exact ⟨rfl, rfl⟩)
      (try simp only [Act.put]); (try simp only [List.setIfInBounds_toArray]); (try simp only [List.set])
      apply wpAnyN_takeL 6 (by kernel_rfl) rfl (fun _ _ _ h => h) (by kernel_rfl) rS0
      · intro w' hS'
        go_simp; exact ⟨rfl, rfl⟩
      (try simp only [Act.put]); (try simp only [List.setIfInBounds_toArray]); (try simp only [List.set])
      refine wpAnyN_done (by kernel_rfl) ?_ _
      go_upto_region 7 with fail
      have rS1 : Below w.heap.size w w.drew.drew := rS0.drew
      refine wp_region_N (fun w' => Below w.heap.size w w') 100 (by kernel_rfl) ?_
      apply wpAnyN_takeL 0 (by kernel_rfl) rfl (fun _ _ _ h => h) (by kernel_rfl) rS1
      · intro w' hS'
        go_simp; exact ⟨rfl, rfl⟩
      (try simp only [Act.put]); (try simp only [List.setIfInBounds_toArray]); (try simp only [List.set])
      apply wpAnyN_takeL 1 (by kernel_rfl) rfl (fun _ _ _ h => h) (by kernel_rfl) rS1
      · intro w' hS'
        go_simp; exact ⟨rfl, rfl⟩
      (try simp only [Act.put]); (try simp only [List.setIfInBounds_toArray]); (try simp only [List.set])
      apply wpAnyN_takeL 2 (v := (.int .i64 ((k + 1 : Nat) : Int))) (by kernel_rfl) rfl (fun _ _ _ h => h) (by kernel_rfl) rS1
      · intro w' hS'
        (go_simp; exact ⟨rfl, rfl⟩)
      (try simp only [Act.put]); (try simp only [List.setIfInBounds_toArray]); (try simp only [List.set])
      apply wpAnyN_takeL 3 (v := (.string (s.extract (k + 1) s.size))) (by kernel_rfl) rfl (fun _ _ _ h => h) (by kernel_rfl) rS1
      · intro w' hS'
        (go_simp; rw [if_pos ⟨by omega, by omega⟩]; exact ⟨rfl, rfl⟩)
      (try simp only [Act.put]); (try simp only [List.setIfInBounds_toArray]); (try simp only [List.set])
      apply wpAnyN_takeL 4 (by kernel_rfl) rfl (fun _ _ _ h => h) (by kernel_rfl) rS1
      · intro w' hS'
        go_simp; exact ⟨rfl, rfl⟩
      (try simp only [Act.put]); (try simp only [List.setIfInBounds_toArray]); (try simp only [List.set])
      apply wpAnyN_takeL 5 (by kernel_rfl) rfl (fun _ _ _ h => h) (by kernel_rfl) rS1
      · intro w' hS'
        go_simp; exact ⟨rfl, rfl⟩
      (try simp only [Act.put]); (try simp only [List.setIfInBounds_toArray]); (try simp only [List.set])
      apply wpAnyN_takeL 6 (v := (.int .u8 (y : Int))) (by kernel_rfl) rfl (fun _ _ _ h => h) (by kernel_rfl) rS1
      · intro w' hS'
        (have hst := ix2 w'; go_simp; exact ⟨rfl, rfl⟩)
      (try simp only [Act.put]); (try simp only [List.setIfInBounds_toArray]); (try simp only [List.set])
      apply wpAnyN_takeL 7 (v := (.int .i64 (-1))) (by kernel_rfl) rfl (fun _ _ _ h => h) (by kernel_rfl) rS1
      · intro w' hS'
        (have hst := cb w'; go_simp; exact ⟨rfl, hst⟩)
      (try simp only [Act.put]); (try simp only [List.setIfInBounds_toArray]); (try simp only [List.set])
      apply wpAnyN_takeL 8 (by kernel_rfl) rfl (fun _ _ _ h => h) (by kernel_rfl) rS1
      · intro w' hS'
        go_simp; exact ⟨rfl, rfl⟩
      (try simp only [Act.put]); (try simp only [List.setIfInBounds_toArray]); (try simp only [List.set])
      refine wpAnyN_done (by kernel_rfl) ?_ _
      go_wp2
      show bodyPost Tryz.prog Tryz.f156 (fun e w' => e = .returned (.int .i64 (-1)) ∧ Below w.heap.size w w') Exit.ret _ _
      go_ret
      exact ⟨rfl, (Below.refl _ _).drew.drew⟩
set_option maxRecDepth 100000 in
set_option maxHeartbeats 4000000 in
theorem vIdxBad (s : ByteArray) (w : World) (hs : ∀ b ∈ s.data.toList, b.toNat < 128) :
    Calls Tryz.prog 156 #[.string s, .int .i32 65533] w fun e w' => e = .returned (.int .i64 (-1)) ∧ Below w.heap.size w w' := by
  go_enter Tryz.func156, Tryz.ntmps156
  go_wp2
  go_loopw [5] (fun _ wr => ∃ pos : Nat, wr.heap[w.heap.size]? = some (.stringIter s pos) ∧ Below w.heap.size w wr) (fun _ wr => s.size - wr.iterPos w.heap.size)
  case atStart =>
    exact ⟨0, World.iter_heap w s 0, (Below.refl _ w).alloc (Nat.le_refl _) _⟩
  case round =>
    obtain ⟨pos, hit, hbw⟩ := hrel
    by_cases hp : pos < s.size
    · have hnx : ∀ ty, (Instr.next (.pointer (some ⟨w.heap.size, 0, none⟩)) true ty).run Tryz.prog wr = _ := fun ty => Lib.run_next_any_at wr w.heap.size s pos ty hit hp
      have hd : Utf8.decode s pos = ((s[pos]'hp).toNat, 1) := decode_ascii s pos hp (hs _ (by
        rw [List.mem_iff_getElem]
        exact ⟨pos, by rw [← Lib.size_eq]; exact hp, rfl⟩))
      have hb : (s[pos]'hp).toNat < 256 := (s[pos]'hp).toNat_lt
      rw [hd] at hnx
      obtain ⟨d, hdd⟩ : ∃ d, (s[pos]'hp).toNat = d := ⟨_, rfl⟩
      rw [hdd] at hnx hb
      have z1 : ¬ (d : Int) = 65533 := by omega
      have hit2 := Lib.iterAt_heap wr w.heap.size s pos (pos + 1) hit
      have hbw2 := Lib.below_iterAt hbw (k := w.heap.size) (Nat.le_refl _) s (pos + 1)
      clear hd hdd
      go_wp2
      go_roundw
      case rel => exact ⟨pos + 1, hit2, hbw2⟩
      case measure =>
        simp only [World.iterPos, hit2, hit]
        omega
    · have hnx : ∀ ty, (Instr.next (.pointer (some ⟨w.heap.size, 0, none⟩)) true ty).run Tryz.prog wr = _ := fun ty => Lib.run_next_end_at wr w.heap.size s pos ty hit hp
      go_wp2
      go_ret
      exact ⟨rfl, hbw⟩
/-- what a set of ASCII bytes holds -/
theorem vConR (s : ByteArray) (r : Nat) (w : World) (hs : ∀ b ∈ s.data.toList, b.toNat < 128) (h4 : 4 ≤ s.size) (h100 : s.size ≤ 100) (hr2 : r ≤ 1114111) :
    Calls Tryz.prog 137 #[.string s, .int .i32 r] w fun e w' => e = .returned (.bool (decide (r ∈ s.data.toList.map UInt8.toNat))) ∧ Below w.heap.size w w' := by
  rcases Nat.lt_or_ge r 128 with hr | hr
  · refine (Tryz.strings_ContainsRune_ascii s (r : Int) w (by omega) (by omega)).mono ?_
    rintro e w' ⟨rfl, rfl⟩
    refine ⟨?_, .refl _ _⟩
    rw [← Lib.contains_iff_indexByte]
    refine congrArg (fun b => Ending.returned (.bool b)) ?_
    rw [Bool.eq_iff_iff, List.contains_iff_mem, decide_eq_true_iff, List.mem_map]
    have e : (r : Int).toNat.toUInt8.toNat = r := by simp; omega
    constructor
    · exact fun h => ⟨_, h, e⟩
    · rintro ⟨b, hb, h⟩
      have : (r : Int).toNat.toUInt8 = b := UInt8.toNat_inj.1 (by rw [e, h])
      rw [this]; exact hb
  · have hc : Calls Tryz.prog 156 #[.string s, .int .i32 r] w fun e w' => e = .returned (.int .i64 (-1)) ∧ Below w.heap.size w w' := by
      by_cases hne : r = 65533
      · subst hne; exact vIdxBad s w hs
      · exact vIdxRune s r w hs h4 h100 hr hr2 hne
    have hf : decide (r ∈ s.data.toList.map UInt8.toNat) = false := by
      rw [decide_eq_false_iff_not]
      intro h
      obtain ⟨b, hb, e⟩ := List.mem_map.1 h
      have := hs b hb
      omega
    rw [hf]
    go_enter Tryz.func137, Tryz.ntmps137
    go_wp2_with fail
    refine hc.mono ?_
    rintro e w1 ⟨rfl, hb⟩
    go_wp2
    go_ret
    exact ⟨rfl, hb⟩
end Go.Proofs.YtecejnilajbdpaaGreatDoor

