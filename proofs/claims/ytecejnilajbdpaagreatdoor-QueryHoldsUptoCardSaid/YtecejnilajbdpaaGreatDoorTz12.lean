import Derived.Test.YtecejnilajbdpaaGreatDoorTz10
import Derived.Test.YtecejnilajbdpaaGreatDoorTz11
set_option maxRecDepth 100000
set_option maxHeartbeats 4000000
namespace Garner
open Go
theorem idx_none {l : Bs} {c : UInt8} (h : ∀ b ∈ l, b ≠ c) : Lib.indexByte l c = -1 := by
 have h0 := Lib.indexByte_ge l c
 rcases Int.lt_or_le (Lib.indexByte l c) 0 with h1 | h1
 ·omega
 exfalso
 have h2 := (Lib.indexByte_some (l := l) (c := c) (o := (Lib.indexByte l c).toNat) (by omega)).1
 exact h c (List.mem_of_getElem? h2) rfl
theorem enc_high (r : Nat) (h : 128 ≤ r) : ∃ (rs : ByteArray) (k : Nat) (c : UInt8), Utf8.encode (r : Int) = rs ∧ rs.size = k + 1 ∧ 1 ≤ k ∧ k ≤ 3 ∧ 128 ≤ c.toNat ∧ rs.data.toList[k]? = some c := by
 obtain ⟨d, hd⟩ : ∃ d : Nat, d = if Utf8.valid (r : Int) = true then (r : Int).toNat else Utf8.runeError := ⟨_, rfl⟩
 have hd1 : 128 ≤ d := by
  rw [hd]; split
  ·omega
  decide
 have hb : 128 ≤ (UInt8.ofNat (128 + d % 64)).toNat := by simp; omega
 unfold Utf8.encode
 dsimp only
 rw [← hd, if_neg (by omega)]
 split
 ·exact ⟨_, 1, _, rfl, rfl, by omega, by omega, hb, rfl⟩
 split
 ·exact ⟨_, 2, _, rfl, rfl, by omega, by omega, hb, rfl⟩
 exact ⟨_, 3, _, rfl, rfl, by omega, by omega, hb, rfl⟩
end Garner
namespace Go.Proofs.YtecejnilajbdpaaGreatDoor
open Go.RowKit Garner
theorem idx_at (s : ByteArray) (k : Nat) (c : UInt8) (h : s.data.toList[k]? = some c) (u : World) : (Instr.index 9 (.string s) (.int .i64 k)).run Tryz.prog u = .ok (.int .u8 (c.toNat : Int)) u := by
 have hk : k < s.size := by rw [Lib.size_eq]; exact (List.getElem?_eq_some_iff.1 h).1
 have hi : 0 ≤ (k : Int) ∧ (k : Int) < s.size := ⟨by omega, by omega⟩
 have h1 := run_index_string (P := Tryz.prog) u 9 s .i64 k (by kernel_rfl)
 rw [dif_pos hi] at h1
 rw [h1]
 have e : (s[(k : Int).toNat]'(by omega)) = c := by
  have h2 : s.data.toList[k]? = some (s[k]'hk) := by rw [List.getElem?_eq_getElem (by rw [← Lib.size_eq]; exact hk)]; rfl
  rw [h] at h2
  exact (Option.some.inj h2).symm
 rw [e]
theorem vIdxRune (s : ByteArray) (r : Nat) (w : World) (hs : ∀ b ∈ s.data.toList, b.toNat < 128) (h4 : 4 ≤ s.size) (h100 : s.size ≤ 100) (hr : 128 ≤ r) (hr2 : r ≤ 1114111) (hne : r ≠ 65533) :
  Calls Tryz.prog 156 #[.string s, .int .i32 r] w fun e w' => e = .returned (.int .i64 (-1)) ∧ Below w.heap.size w w' := by
 have z1 : (0 : Int) ≤ (r : Int) := by omega
 have z2 : ¬ (r : Int) < 128 := by omega
 have z3 : ¬ (r : Int) = 65533 := by omega
 have cv := fun u => Tryz.utf8_ValidRune (r : Int) u
 go_enter Tryz.func156, Tryz.ntmps156
 go_wp2_with fail
 refine (cv w).mono ?_
 rintro e w' ⟨rfl, hw⟩
 obtain rfl : w = w' := hw.symm
 cases hv : Lib.validRune (r : Int) with
 | false =>
  go_wp2_with fail
  go_ret
  exact ⟨rfl, .refl _ _⟩
 | true =>
  obtain ⟨rs, k, c, hrs, hsz, hk1, hk3, hc, hlast⟩ := enc_high r hr
  obtain ⟨a, ha⟩ : ∃ a : UInt8, s.data.toList[k]? = some a := ⟨_, List.getElem?_eq_getElem (by rw [← Lib.size_eq]; omega)⟩
  have ha1 := hs a (List.mem_of_getElem? ha)
  have ix1 := idx_at s k a ha
  have ix2 := idx_at rs k c hlast
  obtain ⟨x, hx⟩ : ∃ x, a.toNat = x := ⟨_, rfl⟩
  obtain ⟨y, hy⟩ : ∃ y, c.toNat = y := ⟨_, rfl⟩
  rw [hx] at ix1 ha1
  rw [hy] at ix2 hc
  have z4 : ((x : Int) != (y : Int)) = true := by simp; omega
  have z5 : ¬ (x : Int) = (y : Int) := by omega
  have z6 : IntKind.i64.wrap ((k : Int) + 1 - 1) = (k : Int) := by rw [IntKind.wrap_i64]; omega
  have z7 : (k : Int) < (s.size : Int) := by omega
  have z8 := wS k (by omega)
  have z9 : ((k + 1 : Nat) : Int) ≤ (s.size : Int) := by omega
  have cb : ∀ u, Calls Tryz.prog 185 #[.string (s.extract (k + 1) s.size), .int .u8 y] u fun e w' => e = .returned (.int .i64 (-1)) ∧ w' = u := fun u => by
   have h := Tryz.strings_IndexByte (s.extract (k + 1) s.size) (y : Int) u
   rw [idx_none (fun b hb e => by
    have h1 : b.toNat < 128 := hs b (by
     have : b ∈ (s.data.toList.drop (k + 1)).take (s.size - (k + 1)) := by simpa using hb
     exact List.mem_of_mem_drop (List.mem_of_mem_take this))
    rw [e] at h1
    have h2 : y < 256 := by rw [← hy]; exact c.toNat_lt
    simp at h1
    omega)] at h
   exact h
  clear ha hlast hx hy hs
  go_wp2
  go_step3
  go_wp2
  go_loopw [9, 10] (fun s9 s10 wr => s9 = .int .i64 k ∧ s10 = .int .i64 0 ∧ wr = w) (fun _ _ _ => 0)
  case atStart => exact ⟨rfl, rfl, rfl⟩
  obtain ⟨rfl, rfl, hwr⟩ := hrel
  obtain rfl : w = wr := hwr.symm
  have rS0 : Below w.heap.size w w.drew := (Below.refl _ _).drew
  go_wp2
  go_step3
  go_upto_region 6 with fail
  refine rgQ (fun w' => Below w.heap.size w w') 100 (by kernel_rfl) (fun _ _ d _ _ h => by cases d <;> exact h) fun qP => ?_
  apply tkq 0 (by kernel_rfl) rfl qP rS0
  ·intro w' hS'; go_simp; exact ⟨rfl, rfl⟩
  apply tkq 1 (by kernel_rfl) rfl qP rS0
  ·intro w' hS'; go_simp; exact ⟨rfl, rfl⟩
  apply tkq 2 (v := (.int .u8 (x : Int))) (by kernel_rfl) rfl qP rS0
  ·intro w' hS'; have hst := ix1 w'; go_simp; exact ⟨rfl, rfl⟩
  apply tkq 3 (by kernel_rfl) rfl qP rS0
  ·intro w' hS'; go_simp; exact ⟨rfl, rfl⟩
  apply tkq 4 (by kernel_rfl) rfl qP rS0
  ·intro w' hS'; go_simp; exact ⟨rfl, rfl⟩
  apply tkq 5 (v := (.int .u8 (y : Int))) (by kernel_rfl) rfl qP rS0
  ·intro w' hS'; have hst := ix2 w'; go_simp; exact ⟨rfl, rfl⟩
  apply tkq 6 (by kernel_rfl) rfl qP rS0
  ·intro w' hS'; go_simp; exact ⟨rfl, rfl⟩
  (try simp only [Act.put]); (try simp only [List.setIfInBounds_toArray]); (try simp only [List.set])
  refine dnL (by kernel_rfl) ?_ _
  go_upto_region 7 with fail
  have rS1 : Below w.heap.size w w.drew.drew := rS0.drew
  refine rgQ (fun w' => Below w.heap.size w w') 100 (by kernel_rfl) (fun _ _ d _ _ h => by cases d <;> exact h) fun qP => ?_
  apply tkq 0 (by kernel_rfl) rfl qP rS1
  ·intro w' hS'; go_simp; exact ⟨rfl, rfl⟩
  apply tkq 1 (by kernel_rfl) rfl qP rS1
  ·intro w' hS'; go_simp; exact ⟨rfl, rfl⟩
  apply tkq 2 (v := (.int .i64 ((k + 1 : Nat) : Int))) (by kernel_rfl) rfl qP rS1
  ·intro w' hS'
   (go_simp; exact ⟨rfl, rfl⟩)
  apply tkq 3 (v := (.string (s.extract (k + 1) s.size))) (by kernel_rfl) rfl qP rS1
  ·intro w' hS'
   (go_simp; rw [if_pos ⟨by omega, by omega⟩]; exact ⟨rfl, rfl⟩)
  apply tkq 4 (by kernel_rfl) rfl qP rS1
  ·intro w' hS'; go_simp; exact ⟨rfl, rfl⟩
  apply tkq 5 (by kernel_rfl) rfl qP rS1
  ·intro w' hS'; go_simp; exact ⟨rfl, rfl⟩
  apply tkq 6 (v := (.int .u8 (y : Int))) (by kernel_rfl) rfl qP rS1
  ·intro w' hS'; have hst := ix2 w'; go_simp; exact ⟨rfl, rfl⟩
  apply tkq 7 (v := (.int .i64 (-1))) (by kernel_rfl) rfl qP rS1
  ·intro w' hS'
   (have hst := cb w'; go_simp; exact ⟨rfl, hst⟩)
  apply tkq 8 (by kernel_rfl) rfl qP rS1
  ·intro w' hS'; go_simp; exact ⟨rfl, rfl⟩
  (try simp only [Act.put]); (try simp only [List.setIfInBounds_toArray]); (try simp only [List.set])
  refine dnL (by kernel_rfl) ?_ _
  go_wp2
  show bodyPost Tryz.prog Tryz.f156 (fun e w' => e = .returned (.int .i64 (-1)) ∧ Below w.heap.size w w') Exit.ret _ _
  go_ret
  exact ⟨rfl, (Below.refl _ _).drew.drew⟩
theorem vIdxBad (s : ByteArray) (w : World) (hs : ∀ b ∈ s.data.toList, b.toNat < 128) :
  Calls Tryz.prog 156 #[.string s, .int .i32 65533] w fun e w' => e = .returned (.int .i64 (-1)) ∧ Below w.heap.size w w' := by
 go_enter Tryz.func156, Tryz.ntmps156
 go_wp2
 go_loopw [5] (fun _ wr => ∃ pos : Nat, wr.heap[w.heap.size]? = some (.stringIter s pos) ∧ Below w.heap.size w wr) (fun _ wr => s.size - wr.iterPos w.heap.size)
 case atStart =>
  exact ⟨0, World.iter_heap w s 0, (Below.refl _ w).alloc (Nat.le_refl _) _⟩
 obtain ⟨pos, hit, hbw⟩ := hrel
 by_cases hp : pos < s.size
 ·have hnx : ∀ ty, (Instr.next (.pointer (some ⟨w.heap.size, 0, none⟩)) true ty).run Tryz.prog wr = _ := fun ty => Lib.run_next_any_at wr w.heap.size s pos ty hit hp
  have hd : Utf8.decode s pos = ((s[pos]'hp).toNat, 1) := decode_ascii s pos hp (hs _ (by
   rw [List.mem_iff_getElem]
   exact ⟨pos, by rw [← Lib.size_eq]; exact hp, rfl⟩))
  have hb : (s[pos]'hp).toNat < 256 := (s[pos]'hp).toNat_lt
  rw [hd] at hnx
  obtain ⟨d, hdd⟩ : ∃ d, (s[pos]'hp).toNat = d := ⟨_, rfl⟩
  rw [hdd] at hnx hb
  have z1 : ¬ (d : Int) = 65533 := by omega
  have hit2 := Lib.iterAt_heap wr w.heap.size s pos (pos + 1) hit
  have hbw2 := Lib.below_iterAt hbw (k := w.heap.size) (Nat.le_refl _) s (pos + 1)
  clear hd hdd
  go_wp2
  go_roundw
  case rel => exact ⟨pos + 1, hit2, hbw2⟩
  simp only [World.iterPos, hit2, hit]
  omega
 have hnx : ∀ ty, (Instr.next (.pointer (some ⟨w.heap.size, 0, none⟩)) true ty).run Tryz.prog wr = _ := fun ty => Lib.run_next_end_at wr w.heap.size s pos ty hit hp
 go_wp2
 go_ret
 exact ⟨rfl, hbw⟩
theorem vConR (s : ByteArray) (r : Nat) (w : World) (hs : ∀ b ∈ s.data.toList, b.toNat < 128) (h4 : 4 ≤ s.size) (h100 : s.size ≤ 100) (hr2 : r ≤ 1114111) :
  Calls Tryz.prog 137 #[.string s, .int .i32 r] w fun e w' => e = .returned (.bool (decide (r ∈ s.data.toList.map UInt8.toNat))) ∧ Below w.heap.size w w' := by
 rcases Nat.lt_or_ge r 128 with hr | hr
 ·refine (Tryz.strings_ContainsRune_ascii s (r : Int) w (by omega) (by omega)).mono ?_
  rintro e w' ⟨rfl, rfl⟩
  refine ⟨?_, .refl _ _⟩
  rw [← Lib.contains_iff_indexByte]
  refine congrArg (fun b => Ending.returned (.bool b)) ?_
  rw [Bool.eq_iff_iff, List.contains_iff_mem, decide_eq_true_iff, List.mem_map]
  have e : (r : Int).toNat.toUInt8.toNat = r := by simp; omega
  constructor
  ·exact fun h => ⟨_, h, e⟩
  rintro ⟨b, hb, h⟩
  have : (r : Int).toNat.toUInt8 = b := UInt8.toNat_inj.1 (by rw [e, h])
  rw [this]; exact hb
 have hc : Calls Tryz.prog 156 #[.string s, .int .i32 r] w fun e w' => e = .returned (.int .i64 (-1)) ∧ Below w.heap.size w w' := by
  by_cases hne : r = 65533
  ·subst hne; exact vIdxBad s w hs
  exact vIdxRune s r w hs h4 h100 hr hr2 hne
 have hf : decide (r ∈ s.data.toList.map UInt8.toNat) = false := by
  rw [decide_eq_false_iff_not]
  intro h
  obtain ⟨b, hb, e⟩ := List.mem_map.1 h
  have := hs b hb
  omega
 rw [hf]
 go_enter Tryz.func137, Tryz.ntmps137
 go_wp2_with fail
 refine hc.mono ?_
 rintro e w1 ⟨rfl, hb⟩
 go_wp2
 go_ret
 exact ⟨rfl, hb⟩
def OutS (F : Nat → Prop) (o : Option (List Nat × List Nat)) (w0 : World) (g : Nat) (ns : List NodeP) (deep most : Nat) (e : Ending) (w' : World) : Prop := match o with
 | some (m, r) => ∃ A c, e = .returned (.slice A m.length c) ∧ RowT w' 21 A m.length (m.map rv) ∧ PS F w' g r ns deep most ∧ ∀ a, A = some a → w0.heap.size ≤ a.block ∧ a.block < w'.heap.size
 | none => e = faulted
theorem outS_lit {F : Nat → Prop} (m : List Nat) {g : Nat} {w w1 : World} {r : List Nat} {ns : List NodeP} {deep most : Nat} (h1 : PS F w1 g r ns deep most) (k1 : PK g w w1) {o : Option (List Nat × List Nat)} (e : o = some (m, r)) :
  PK g w (w1.alloc (.cells (m.map rv).toArray 21)) ∧ OutS F o w g ns deep most (.returned (.slice (some ⟨w1.heap.size, 0, none⟩) m.length m.length)) (w1.alloc (.cells (m.map rv).toArray 21)) := by
 subst e
 have hb : Below w1.heap.size w1 (w1.alloc (.cells (m.map rv).toArray 21)) := (Below.refl _ _).alloc (Nat.le_refl _) _
 have hr := RowT.new w1 21 (m.map rv)
 rw [List.length_map] at hr
 exact ⟨k1.trans (.of_below hb (Nat.le_of_lt h1.lt)), _, _, rfl, hr, h1.below hb, fun a e => (by cases e; exact ⟨k1.keep.size, by simp⟩)⟩
abbrev escB : ByteArray := ⟨#[92, 40, 41, 91, 93, 123, 125, 42, 43, 63, 124, 46, 94, 36, 45]⟩
abbrev memB : ByteArray := ⟨#[91, 93, 94, 45]⟩
abbrev litB : ByteArray := ⟨#[92, 40, 41, 91, 93, 123, 125, 42, 43, 63, 124, 46, 94, 36]⟩
theorem vEsc {F : Nat → Prop} (g : Nat) (w : World) (rs : List Nat) (ns : List NodeP) (deep most : Nat) (h : PS F w g rs ns deep most) :
  Calls Tryz.prog 197 #[.pointer (some ⟨g, 0, none⟩)] w fun e w' => PK g w w' ∧ OutS F (escR rs) w g ns deep most e w' := by
 go_enter Tryz.func197, Tryz.ntmps197
 cases rs with
 | nil =>
  go_wp2_with fail
  refine (vTake_nil g w ns deep most h).mono ?_
  rintro e w' ⟨rfl, rfl⟩
  exact ⟨rfl, .refl _ _, rfl⟩
 | cons a r =>
  have hb := h.rb a (by simp)
  go_wp2_with fail
  refine (vTake a g w r ns deep most h).mono ?_
  rintro e w1 ⟨rfl, h1, k1⟩
  by_cases c1 : a = 110
  ·subst c1
   go_wp2
   go_ret
   exact outS_lit [10, 10] h1 k1 rfl
  by_cases c2 : a = 116
  ·subst c2
   go_wp2
   go_ret
   exact outS_lit [9, 9] h1 k1 rfl
  by_cases c3 : a = 100
  ·subst c3
   go_wp2
   go_ret
   exact outS_lit [48, 57] h1 k1 rfl
  by_cases c4 : a = 119
  ·subst c4
   go_wp2
   go_ret
   exact outS_lit [48, 57, 65, 90, 95, 95, 97, 122] h1 k1 rfl
  by_cases c5 : a = 115
  ·subst c5
   go_wp2
   go_ret
   exact outS_lit [9, 10, 13, 13, 32, 32] h1 k1 rfl
  have z1 : ¬ (a : Int) = 110 := by omega
  have z2 : ¬ (a : Int) = 116 := by omega
  have z3 : ¬ (a : Int) = 100 := by omega
  have z4 : ¬ (a : Int) = 119 := by omega
  have z5 : ¬ (a : Int) = 115 := by omega
  have cv := vConR escB a w1 (by decide) (by decide) (by decide) hb
  have em : a ∈ escB.data.toList.map UInt8.toNat ↔ a ∈ specR ∨ a = 45 := by
   show a ∈ specR ++ [45] ↔ _
   rw [List.mem_append, List.mem_singleton]
  by_cases hm : a ∈ specR ∨ a = 45
  ·have e : escR (a :: r) = some ([a, a], r) := by rw [escR, if_neg c1, if_neg c2, if_neg c3, if_neg c4, if_neg c5, if_pos hm]
   rw [decide_eq_true (em.2 hm)] at cv
   have E := Lh e
   clear e em hm c1 c2 c3 c4 c5
   go_wp2_with fail
   refine cv.mono ?_
   rintro e w2 ⟨rfl, b2⟩
   go_wp2_with fail
   refine (vMust_t _ rfl _).mono ?_
   rintro e w' ⟨rfl, hw⟩
   obtain rfl : w2 = w' := hw.symm
   go_wp2
   go_ret
   exact outS_lit [a, a] (h1.below b2) (k1.trans (.of_below b2 (Nat.le_of_lt h1.lt))) E.out
  have e : escR (a :: r) = none := by rw [escR, if_neg c1, if_neg c2, if_neg c3, if_neg c4, if_neg c5, if_neg hm]
  rw [decide_eq_false (fun h => hm (em.1 h))] at cv
  have E := Lh e
  clear e em hm c1 c2 c3 c4 c5
  go_wp2_with fail
  refine cv.mono ?_
  rintro e w2 ⟨rfl, b2⟩
  go_wp2_with fail
  refine (vMust_f _ rfl _).mono ?_
  rintro e w' ⟨rfl, hw⟩
  obtain rfl : w2 = w' := hw.symm
  exact ⟨rfl, k1.trans (.of_below b2 (Nat.le_of_lt h1.lt)), by rw [E.out]; exact rfl⟩
theorem vMember {F : Nat → Prop} (g : Nat) (w : World) (rs : List Nat) (ns : List NodeP) (deep most : Nat) (h : PS F w g rs ns deep most) :
  Calls Tryz.prog 205 #[.pointer (some ⟨g, 0, none⟩)] w fun e w' => PK g w w' ∧ OutS F (memR rs) w g ns deep most e w' := by
 go_enter Tryz.func205, Tryz.ntmps205
 cases rs with
 | nil =>
  go_wp2_with fail
  refine (vTake_nil g w ns deep most h).mono ?_
  rintro e w' ⟨rfl, rfl⟩
  exact ⟨rfl, .refl _ _, rfl⟩
 | cons a r =>
  have hb := h.rb a (by simp)
  go_wp2_with fail
  refine (vTake a g w r ns deep most h).mono ?_
  rintro e w1 ⟨rfl, h1, k1⟩
  by_cases c1 : a = 92
  ·subst c1
   have e : memR (92 :: r) = escR r := by rw [memR, if_pos rfl]
   have E := Lh e
   clear e
   go_wp2_with fail
   refine (vEsc g w1 r ns deep most h1).mono ?_
   rintro e w2 ⟨k2, o2⟩
   cases ho : escR r with
   | none =>
    rw [ho] at o2
    obtain rfl : e = faulted := o2
    exact ⟨rfl, k1.trans k2, by rw [E.out, ho]; exact rfl⟩
   | some p =>
    obtain ⟨m, r2⟩ := p
    rw [ho] at o2
    obtain ⟨A, c, rfl, hr, h2, hA2⟩ := o2
    have HA2 := Lh hA2; clear hA2
    go_wp2
    go_ret
    exact ⟨k1.trans k2, by rw [E.out, ho]; exact ⟨A, c, rfl, hr, h2, fun a e => ⟨Nat.le_trans k1.keep.size (HA2.out a e).1, (HA2.out a e).2⟩⟩⟩
  have z1 : ¬ (a : Int) = 92 := by omega
  have cv := vConR memB a w1 (by decide) (by decide) (by decide) hb
  have em : a ∈ memB.data.toList.map UInt8.toNat ↔ a = 91 ∨ a = 93 ∨ a = 94 ∨ a = 45 := by
   show a ∈ [91, 93, 94, 45] ↔ _
   simp
  by_cases hm : a = 91 ∨ a = 93 ∨ a = 94 ∨ a = 45
  ·have e : memR (a :: r) = none := by rw [memR, if_neg c1, if_pos hm]
   rw [decide_eq_true (em.2 hm)] at cv
   have E := Lh e
   clear e em hm c1
   go_wp2_with fail
   refine cv.mono ?_
   rintro e w2 ⟨rfl, b2⟩
   go_wp2_with fail
   refine (vMust_f _ rfl _).mono ?_
   rintro e w' ⟨rfl, hw⟩
   obtain rfl : w2 = w' := hw.symm
   exact ⟨rfl, k1.trans (.of_below b2 (Nat.le_of_lt h1.lt)), by rw [E.out]; exact rfl⟩
  have e : memR (a :: r) = some ([a, a], r) := by rw [memR, if_neg c1, if_neg hm]
  rw [decide_eq_false (fun h => hm (em.1 h))] at cv
  have E := Lh e
  clear e em hm c1
  go_wp2_with fail
  refine cv.mono ?_
  rintro e w2 ⟨rfl, b2⟩
  go_wp2_with fail
  refine (vMust_t _ rfl _).mono ?_
  rintro e w' ⟨rfl, hw⟩
  obtain rfl : w2 = w' := hw.symm
  go_wp2
  go_ret
  exact outS_lit [a, a] (h1.below b2) (k1.trans (.of_below b2 (Nat.le_of_lt h1.lt))) E.out
end Go.Proofs.YtecejnilajbdpaaGreatDoor
namespace Garner
open Go
theorem flat_app (a b : List (Nat × Nat)) : flatR (a ++ b) = flatR a ++ flatR b := List.flatMap_append ..
theorem flat_length : ∀ l : List (Nat × Nat), (flatR l).length = 2 * l.length
 | [] => rfl
 | p :: l => by
  have := flat_length l
  have e : flatR (p :: l) = p.1 :: p.2 :: flatR l := by simp [flatR]
  rw [e, List.length_cons, List.length_cons, List.length_cons, this]; omega
theorem flat_at : ∀ {l : List (Nat × Nat)} {k : Nat} {p : Nat × Nat}, l[k]? = some p → (flatR l)[2 * k]? = some p.1 ∧ (flatR l)[2 * k + 1]? = some p.2
 | [], k, p, h => by simp at h
 | q :: l, 0, p, h => by
  simp at h; subst h
  have e : flatR (q :: l) = q.1 :: q.2 :: flatR l := by simp [flatR]
  rw [e]; exact ⟨rfl, rfl⟩
 | q :: l, k + 1, p, h => by
  have ih := flat_at (l := l) (k := k) (p := p) (by simpa using h)
  have e : flatR (q :: l) = q.1 :: q.2 :: flatR l := by simp [flatR]
  rw [e, show 2 * (k + 1) = 2 * k + 1 + 1 by omega, List.getElem?_cons_succ, List.getElem?_cons_succ, show 2 * k + 1 + 1 + 1 = (2 * k + 1) + 1 + 1 by omega, List.getElem?_cons_succ, List.getElem?_cons_succ]
  exact ih
end Garner
namespace Go.Proofs.YtecejnilajbdpaaGreatDoor
open Go.RowKit Garner
theorem vOthers (P : List (Nat × Nat)) (A : Option Addr) (c n : Nat) (w : World) (hn : n = 2 * P.length) (hr : RowT w 21 A n ((flatR P).map rv)) (hP : ∀ p ∈ P, p.1 ≤ 1114111 ∧ p.2 ≤ 1114111) (hl : P.length ≤ 1000) :
  Calls Tryz.prog 207 #[.slice A n c] w fun e w' => ∃ v, e = .returned v ∧ w'.ownsRow w.heap.size 21 1 v (flatR (othersGo 0 P)).length ((flatR (othersGo 0 P)).map rv) ∧ Below w.heap.size w w' := by
 obtain ⟨ANS, hANS⟩ : ∃ ANS, othersGo 0 P = ANS := ⟨_, rfl⟩
 rw [hANS]
 have HA := Lh hANS; clear hANS
 have Hn := Lh hn; clear hn
 go_enter Tryz.func207, Tryz.ntmps207
 go_wp2
 go_loopw [3, 4, 5] (fun v f i wr => ∃ (k j fr : Nat) (out : List (Nat × Nat)), Hid (j = 2 * k) ∧ k ≤ P.length ∧ i = .int .i64 j ∧ f = .int .i32 fr ∧ fr ≤ 1114112 ∧ wr.ownsRow w.heap.size 21 1 v (flatR out).length ((flatR out).map rv) ∧ out.length ≤ k ∧ Hid (out ++ othersGo fr (P.drop k) = ANS) ∧ Below w.heap.size w wr) (fun _ _ i _ => 2 * P.length - (intOf i).toNat)
 case atStart => exact ⟨0, 0, 0, [], Lh rfl, Nat.zero_le _, rfl, rfl, by omega, World.ownsRow_nil _ _ _ _, Nat.le_refl _, Lh (by rw [List.drop_zero]; exact HA.out), Below.refl _ _⟩
 obtain ⟨k, j, fr, out, hj, hk, rfl, rfl, hfr, hown, hol, hans, hbel⟩ := hrel
 obtain ⟨wo, rfl⟩ : ∃ wo : World, wo = wr := ⟨_, rfl⟩
 have hs0 := hbel.size
 have hjn := hj.out
 have hnn := Hn.out
 have hfl := flat_length out
 by_cases hlt : k < P.length
 ·obtain ⟨⟨a, b⟩, hp⟩ : ∃ p, P[k]? = some p := ⟨_, List.getElem?_eq_getElem hlt⟩
  have hab := hP _ (List.mem_of_getElem? hp)
  simp only at hab
  obtain ⟨hab1, hab2⟩ := hab
  obtain ⟨f1, f2⟩ := flat_at hp
  obtain ⟨bb, off, cs, z, rfl, hbk, hc⟩ := hr.2 (by omega)
  have hbw : bb < w.heap.size := (Array.getElem?_eq_some_iff.1 hbk).1
  have cf : ∀ W, Below w.heap.size w W → W.cell? ⟨bb, off + j, none⟩ = some (.int .i32 (a : Nat)) ∧ W.cell? ⟨bb, off + (j + 1), none⟩ = some (.int .i32 (b : Nat)) := fun W hW => by
   have e : W.heap[bb]? = w.heap[bb]? := hW.block bb hbw
   constructor
   ·simp only [World.cell?, e, hbk]
    rw [hjn]
    exact hc _ _ (by rw [List.getElem?_map, f1]; rfl)
   simp only [World.cell?, e, hbk]
   rw [hjn]
   exact hc _ _ (by rw [List.getElem?_map, f2]; rfl)
  obtain ⟨c1, c2⟩ := cf wo hbel
  have Hcf := Lh cf; clear cf
  have hdr : P.drop k = (a, b) :: P.drop (k + 1) := by
   rw [List.getElem?_eq_some_iff] at hp
   obtain ⟨h1, h2⟩ := hp
   rw [List.drop_eq_getElem_cons h1, h2]
  have ha0 := hans.out
  rw [hdr] at ha0
  unfold othersGo at ha0
  have z1 : (j : Int) < (n : Int) := by omega
  have z2 : ((j + 1 : Nat) : Int) < (n : Int) := by omega
  have w1 := wS j (by omega)
  have w2 : IntKind.i64.wrap ((j : Int) + 2) = ((j + 2 : Nat) : Int) := by rw [IntKind.wrap_i64]; omega
  have w3 : IntKind.i32.wrap ((b : Int) + 1) = ((b + 1 : Nat) : Int) := by simp [IntKind.wrap, IntKind.bits, IntKind.signed]; omega
  have hmes : j < n := by omega
  by_cases hc3 : fr < a
  ·have z3 : (fr : Int) < (a : Int) := by omega
   have w4 : IntKind.i32.wrap ((a : Int) - 1) = ((a - 1 : Nat) : Int) := by simp [IntKind.wrap, IntKind.bits, IntKind.signed]; omega
   rw [if_pos hc3] at ha0
   have HANS := Lh ha0
   clear ha0 hdr f1 f2 hc hbk hp
   have Hfl := Lh hfl; have Hjn := Lh hjn; have Hnn := Lh hnn; clear hfl hjn hnn
   go_wp2_with (at_builtin; refine wpList_app _ rfl runeE rfl rfl (hown.alloc _) rfl (row_new wo _ [_, _]) (by simp [Value.oneCell']) (by have := Hfl.out; first | omega | (simp; omega)) (by simp; omega) ?_; intro v4 w4 hown4 hg4 hb4 _; have hb5 := (hbel.alloc hs0 _).trans hb4; obtain ⟨c3, c4⟩ := Hcf.out w4 hb5)
   go_roundw
   case rel =>
    refine ⟨k + 1, j + 2, b + 1, out ++ [(fr, a - 1)], Lh (by have := Hjn.out; omega), by omega, rfl, rfl, by omega, ?_, by simp; omega, Lh ?_, hb5⟩
    ·rw [flat_app, List.map_append, List.length_append]
     exact hown4
    rw [← HANS.out]; simp
   case measure => simp [intOf]; have := Hnn.out; omega
  have z3 : ¬ (fr : Int) < (a : Int) := by omega
  rw [if_neg hc3] at ha0
  have HANS := Lh ha0
  clear ha0 hdr f1 f2 hc hbk hp
  have Hfl := Lh hfl; have Hjn := Lh hjn; have Hnn := Lh hnn; clear hfl hjn hnn
  go_wp2
  go_roundw
  case rel => exact ⟨k + 1, j + 2, b + 1, out, Lh (by have := Hjn.out; omega), by omega, rfl, rfl, by omega, hown, by omega, Lh (by rw [← HANS.out]; simp), hbel⟩
  case measure => simp [intOf]; have := Hnn.out; omega
 have z1 : ¬ (j : Int) < (n : Int) := by omega
 have ha0 := hans.out
 rw [List.drop_eq_nil_of_le (by omega)] at ha0
 unfold othersGo at ha0
 have Hfl := Lh hfl; have Hjn := Lh hjn; have Hnn := Lh hnn; clear hfl hjn hnn
 by_cases hc3 : fr ≤ 1114111
 ·rw [if_pos hc3] at ha0
  have HANS := Lh ha0; clear ha0
  have z3 : (fr : Int) ≤ 1114111 := by omega
  go_wp2_with (at_builtin; refine wpList_app _ rfl runeE rfl rfl (hown.alloc _) rfl (row_new wo _ [_, _]) (by simp [Value.oneCell']) (by have := Hfl.out; first | omega | (simp; omega)) (by simp; omega) ?_; intro v4 w4 hown4 hg4 hb4 _; have hb5 := (hbel.alloc hs0 _).trans hb4)
  go_ret
  refine ⟨_, rfl, ?_, hb5⟩
  rw [← HANS.out, flat_app, List.map_append, List.length_append]
  exact hown4
 rw [if_neg hc3] at ha0
 have HANS := Lh ha0; clear ha0
 have z3 : ¬ (fr : Int) ≤ 1114111 := by omega
 go_wp2
 go_ret
 refine ⟨_, rfl, ?_, hbel⟩
 rw [← HANS.out, List.append_nil]
 exact hown
end Go.Proofs.YtecejnilajbdpaaGreatDoor
namespace Garner
open Go Go.Sort Go.Proofs
abbrev PairB : Type := { p : Nat × Nat // p.1 ≤ 1114111 ∧ p.2 ≤ 1114111 }
instance : Inhabited PairB := ⟨⟨(0, 0), by decide⟩⟩
def cmpB (x y : PairB) : Int := (x.1.1 : Int) - (y.1.1 : Int)
theorem ltB (x y : PairB) : ltOf cmpB x y = decide (x.1.1 < y.1.1) := by
 unfold ltOf cmpB
 rw [decide_eq_decide]; omega
theorem swoB : SWO (ltOf cmpB) where
 irrefl x := by rw [ltB]; simp
 trans x y z h1 h2 := by rw [ltB] at *; simp at *; omega
 ntrans x y z h1 h2 := by rw [ltB] at *; simp at *; omega
theorem flatK_eq {enc : PairB → List Value} {f : Nat → Value} (he : ∀ x, enc x = [f x.1.1, f x.1.2]) (d : Array PairB) : (flatK enc 2 d).toList = (flatR (d.toList.map (·.1))).map f := by
 have hsz : (flatK enc 2 d).toList.length = ((flatR (d.toList.map (·.1))).map f).length := by
  rw [Array.length_toList, size_flatK, List.length_map, flat_length, List.length_map, Array.length_toList, Nat.mul_comm]
 refine List.ext_getElem hsz fun t h1 h2 => ?_
 have ht : t < d.size * 2 := by rw [Array.length_toList, size_flatK] at h1; exact h1
 have hk : t / 2 < d.size := by omega
 have e1 := get_flatK enc 2 d t ht
 rw [getElem!_pos _ t (by rw [size_flatK]; exact ht), he, getElem!_pos d (t / 2) hk] at e1
 rw [Array.getElem_toList, e1]
 have hp : (d.toList.map (·.1))[t / 2]? = some (d[t / 2]'hk).1 := by
  rw [List.getElem?_map, Array.getElem?_toList, Array.getElem?_eq_getElem hk]; rfl
 obtain ⟨f1, f2⟩ := flat_at hp
 have h3 : ((flatR (d.toList.map (·.1))).map f)[t]? = some ([f (d[t / 2]'hk).1.1, f (d[t / 2]'hk).1.2][t % 2]!) := by
  obtain ⟨q, hq⟩ : ∃ q, (d[t / 2]'hk).1 = q := ⟨_, rfl⟩
  rw [hq] at f1 f2 ⊢
  rcases Nat.mod_two_eq_zero_or_one t with h | h
  ·have e : t = 2 * (t / 2) := by omega
   rw [← e] at f1
   rw [h, List.getElem?_map, f1]; rfl
  have e : t = 2 * (t / 2) + 1 := by omega
  rw [← e] at f2
  rw [h, List.getElem?_map, f2]; rfl
 rw [List.getElem?_eq_getElem h2] at h3
 exact (Option.some.inj h3).symm
theorem sortedI_of : ∀ {l : List (Nat × Nat)}, (∀ i j (hi : i < j) (hj : j < l.length), (l[i]'(by omega)).1 ≤ l[j].1) → SortedI l
 | [], _ => trivial
 | [_], _ => trivial
 | p :: q :: r, h => ⟨h 0 1 (by omega) (by simp), sortedI_of fun i j hi hj => by
   have := h (i + 1) (j + 1) (by omega) (by simpa using hj)
   simpa using this⟩
theorem holds_id {w : World} {g : Nat} {cur : Array Value} {e : TypeId} {F : Array Value} (hb : w.heap[g]? = some (.cells cur e (0, 0))) (ht : cur.toList.take F.size = F.toList) : Holds id w g 0 F := by
 intro j hj
 refine ⟨?_, by simp [World.frozen?, hb]⟩
 have h1 : (cur.toList.take F.size)[j]? = F.toList[j]? := by rw [ht]
 rw [List.getElem?_take_of_lt hj] at h1
 simp only [World.cell?, hb, Nat.zero_add]
 rw [Array.getElem?_toList, Array.getElem?_toList] at h1
 simpa [getElem!_pos F j hj, Array.getElem?_eq_getElem hj] using h1
theorem heap_sortedId {w : World} {g n : Nat} {os : Array Obj} {cur : Array Value} {e : TypeId} {fr : Nat × Nat} (d : Array Value) (hb : w.heap[g]? = some (.cells cur e fr)) :
  (grow (putRow id (Sort.ahead w n) g 0 d) os).heap[g]? = some (.cells (putCells id 0 d cur) e fr) := by
 have hg : g < w.heap.size := (Array.getElem?_eq_some_iff.1 hb).1
 rw [heap_grow_old _ _ (by simpa using hg)]
 simp [putRow, mapBlock, Sort.ahead, Array.getElem?_modify, hb, onCells]
theorem grownBy_sortedId {w : World} {g n : Nat} {os : Array Obj} (d : Array Value) : w.grownBy (grow (putRow id (Sort.ahead w n) g 0 d) os) (some g) := by
 refine ⟨rfl, rfl, rfl, by simp, fun k hk hne => ?_⟩
 rw [heap_grow_old _ _ (by simpa using hk)]
 have : g ≠ k := fun e => hne (by rw [e])
 simp [putRow, mapBlock, Sort.ahead, Array.getElem?_modify, this]
theorem take_putCellsId (cur : Array Value) (ts : Array Value) (h : ts.size ≤ cur.size) : (putCells id 0 ts cur).toList.take ts.size = ts.toList := by
 apply List.ext_getElem?
 intro j
 by_cases hj : j < ts.size
 ·rw [List.getElem?_take_of_lt hj, Array.getElem?_toList]
  simp [putCells, hj, show j < cur.size by omega]
 rw [List.getElem?_take_eq_none (by omega), List.getElem?_eq_none (by simp; omega)]
theorem ownsRow_sortedId {w : World} {base g cap n sz m : Nat} {e : TypeId} {os : Array Obj} {cur : Array Value} {ts : Array Value} (hl : ts.size = n * sz) (hbase : base ≤ g) (hb : w.heap[g]? = some (.cells cur e (0, 0)))
  (h1 : n ≤ cap) (h2 : cap ≤ maxLen) (h3 : cur.size = cap * sz) :
  (grow (putRow id (Sort.ahead w m) g 0 ts) os).ownsRow base e sz (.slice (some ⟨g, 0, none⟩) n cap) n ts.toList := by
 have hle : n * sz ≤ cap * sz := Nat.mul_le_mul_right _ h1
 exact ⟨by simp [hl], .inr ⟨g, cap, _, rfl, hbase, heap_sortedId _ hb, h1, h2, by simp [putCells, h3], by rw [← hl]; exact take_putCellsId cur ts (by omega)⟩⟩
end Garner
namespace Go.Proofs.YtecejnilajbdpaaGreatDoor
open Go.RowKit Go.Sort Garner
def encB (x : PairB) : List Value := [rv x.1.1, rv x.1.2]
theorem vCmp (x y : PairB) (W : World) : Calls Tryz.prog 210 #[.agg #[rv x.1.1, rv x.1.2], .agg #[rv y.1.1, rv y.1.2]] W fun e w' => e = .returned (.int .i64 (cmpB x y)) ∧ ∃ q os', w' = grow (W.drewN q) os' := by
 unfold cmpB rv
 obtain ⟨a, ha⟩ : ∃ a, x.1.1 = a := ⟨_, rfl⟩
 obtain ⟨b, hb⟩ : ∃ b, x.1.2 = b := ⟨_, rfl⟩
 obtain ⟨c, hc⟩ : ∃ c, y.1.1 = c := ⟨_, rfl⟩
 obtain ⟨d, hd⟩ : ∃ d, y.1.2 = d := ⟨_, rfl⟩
 have h1 := x.2.1
 have h2 := y.2.1
 rw [ha] at h1
 rw [hc] at h2
 rw [ha, hb, hc, hd]
 clear ha hb hc hd
 have w1 : IntKind.i32.wrap ((a : Int) - (c : Int)) = (a : Int) - (c : Int) := by simp [IntKind.wrap, IntKind.bits, IntKind.signed]; omega
 have w2 : IntKind.i64.wrap ((a : Int) - (c : Int)) = (a : Int) - (c : Int) := by rw [IntKind.wrap_i64]; omega
 go_enter Tryz.func210, Tryz.ntmps210
 go_wp2
 go_ret
 exact ⟨rfl, 0, _, by rw [alloc_eq_grow, alloc_eq_grow, grow_grow]; rfl⟩
theorem vSortP (l : List (Nat × Nat)) (v : Value) (B : Nat) (w : World) (hown : w.ownsRow B 245 2 v l.length ((flatR l).map rv)) (hl : l ≠ []) (hp : ∀ p ∈ l, p.1 ≤ 1114111 ∧ p.2 ≤ 1114111) (h100 : l.length ≤ 1000) :
  Calls Tryz.prog 209 #[v, .func (.func 210) #[] #[]] w fun e w' => e = .returned (.tuple #[]) ∧ ∃ l' : List (Nat × Nat), l'.Perm l ∧ SortedI l' ∧ w'.ownsRow B 245 2 v l.length ((flatR l').map rv) ∧ w.grownBy w' v.ownBlock := by
 have h0 : 0 < l.length := List.length_pos_iff.2 hl
 rcases hown.2 with ⟨rfl, h1⟩ | ⟨g, cap, cur, rfl, hbase, hb, h1, h2, h3, h4⟩
 ·omega
 obtain ⟨d, hd⟩ : ∃ d : Array PairB, d = (l.pmap Subtype.mk hp).toArray := ⟨_, rfl⟩
 have hdl : d.toList.map (·.1) = l := by
  rw [hd]; simp [List.map_pmap]
 have hds : d.size = l.length := by rw [hd]; simp
 have hF := flatK_eq (enc := encB) (f := rv) (fun _ => rfl) d
 rw [hdl] at hF
 have hFs : (flatK encB 2 d).size = l.length * 2 := by rw [size_flatK, hds]
 have hH : HoldsK encB 2 w g 0 d := holds_id hb (by rw [hFs, hF]; exact h4)
 have eg : ∀ args w, (callFunc 210 args).run Tryz.prog w = .ok (.enter 210 args) w := enters_of Tryz.func210 (by kernel_rfl) rfl
 have hcon := AnyQ.slices_SortFunc Tryz.eSortF 2 Tryz.isAgg245 Tryz.sizeOf245 encB (fun _ => rfl) (fun x v hv => by simp [encB] at hv; rcases hv with rfl | rfl <;> rfl) cmpB swoB 210 #[] g 0 cap d w eg (fun _ _ _ _ x y => vCmp x y _) hH (Array.getElem?_eq_some_iff.1 hb).1 (by omega)
 rw [hds] at hcon
 refine Calls.mono hcon ?_
 rintro e w' ⟨rfl, d', n, os, hperm, hsort, rfl⟩
 have hs' : d'.size = d.size := hperm.1
 have hF' := flatK_eq (enc := encB) (f := rv) (fun _ => rfl) d'
 refine ⟨rfl, d'.toList.map (·.1), ?_, ?_, ?_, grownBy_sortedId _⟩
 ·have hp2 := hperm.2.2
  rw [show d'.extract 0 l.length = d' by rw [← hds, ← hs']; simp, show d.extract 0 l.length = d by rw [← hds]; simp] at hp2
  rw [← hdl]
  exact hp2.map _
 ·refine sortedI_of fun i j hi hj => ?_
  rw [List.length_map, Array.length_toList] at hj
  have := hsort i j (Nat.zero_le _) hi (by omega)
  rw [ltB, getElem!_pos d' j hj, getElem!_pos d' i (by omega)] at this
  simpa using this
 rw [← hF']
 exact ownsRow_sortedId (by rw [size_flatK, hs', hds]) hbase hb h1 h2 h3
end Go.Proofs.YtecejnilajbdpaaGreatDoor
