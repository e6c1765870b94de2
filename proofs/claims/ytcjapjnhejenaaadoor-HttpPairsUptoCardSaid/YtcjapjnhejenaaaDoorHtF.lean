import Derived.Test.YtcjapjnhejenaaaDoorHtE
import Derived.Test.YtcjapjnhejenaaaDoorHtR
import Derived.Test.YtcjapjnhejenaaaDoorShelf
/-! http: the library's functions at lists of bytes -/
namespace Go.Proofs.YtcjapjnhejenaaaDoor
open Go.RowKit Go.Shelf Garner

/-- what the library reads: internal/bytealg.MaxLen, utf8's tables -/
structure Lt (w : World) : Prop where
  m : ∃ m, w.cell? ⟨0, 0, none⟩ = some (.int .i64 m)
  t : Lib.Utf8Tabs 1 2 w
theorem Lt.below {w w' : World} (h : Lt w) (hb : Below w.heap.size w w') : Lt w' := by
  obtain ⟨m, hm⟩ := h.m
  refine ⟨⟨m, ?_⟩, Utf8Tabs_below h.t hb⟩
  have hlt : 0 < w.heap.size := by
    rcases Nat.lt_or_ge 0 w.heap.size with h | h
    · exact h
    · unfold World.cell? at hm
      simp only [Array.getElem?_eq_none h] at hm
      cases hm
  rw [hb.cell (p := ⟨0, 0, none⟩) hlt]
  exact hm
abbrev str (l : Bs) : Value := .string ⟨l.toArray⟩
theorem str_size (l : Bs) : (⟨l.toArray⟩ : ByteArray).size = l.length := by simp [ByteArray.size]
theorem str_list (l : Bs) : (⟨l.toArray⟩ : ByteArray).data.toList = l := by simp
theorem below_dr {w w' : World} (h : ∃ n, w' = w.drewN n) : Below w.heap.size w w' := by
  obtain ⟨q, rfl⟩ := h
  exact below_drewN (Below.refl _ _) q

theorem cCut (l sep : Bs) (w : World) (hL : Lt w) (hl : l.length < 4294967281) :
    Calls Tryd.prog 25 #[str l, str sep] w fun e w' => e = .returned (.tuple #[str (Lib.cut l sep).1, str (Lib.cut l sep).2.1, .bool (Lib.cut l sep).2.2]) ∧ Below w.heap.size w w' := by
  obtain ⟨m, hm⟩ := hL.m
  refine (Tryd.strings_Cut ⟨l.toArray⟩ ⟨sep.toArray⟩ m w (by rw [str_size]; exact hl) hm).mono ?_
  rintro e w' ⟨rfl, hd⟩
  exact ⟨rfl, below_dr hd⟩
theorem cContains (l sub : Bs) (w : World) (hL : Lt w) (hl : l.length < 4294967281) :
    Calls Tryd.prog 53 #[str l, str sub] w fun e w' => e = .returned (.bool (Lib.contains l sub)) ∧ w' = w := by
  obtain ⟨m, hm⟩ := hL.m
  refine (Tryd.strings_Contains ⟨l.toArray⟩ ⟨sub.toArray⟩ m w (by rw [str_size]; exact hl) hm).mono ?_
  rintro e w' ⟨rfl, hd⟩
  exact ⟨rfl, hd⟩
theorem cIndex (l sub : Bs) (w : World) (hL : Lt w) (hl : l.length < 4294967281) :
    Calls Tryd.prog 60 #[str l, str sub] w fun e w' => e = .returned (.int .i64 (Lib.index l sub)) ∧ w' = w := by
  obtain ⟨m, hm⟩ := hL.m
  refine (Tryd.strings_Index ⟨l.toArray⟩ ⟨sub.toArray⟩ m w (by rw [str_size]; exact hl) hm).mono ?_
  rintro e w' ⟨rfl, hd⟩
  exact ⟨rfl, hd⟩
theorem cPrefix (l p : Bs) (w : World) :
    Calls Tryd.prog 42 #[str l, str p] w fun e w' => e = .returned (.bool (Lib.hasPrefix l p)) ∧ w' = w := by
  refine (Tryd.strings_HasPrefix ⟨l.toArray⟩ ⟨p.toArray⟩ w).mono ?_
  rintro e w' ⟨rfl, hd⟩
  exact ⟨rfl, hd⟩
theorem cSplit (l : Bs) (c : UInt8) (w : World) (hL : Lt w) (hl : l.length < 4294967281) :
    Calls Tryd.prog 26 #[str l, str [c]] w fun e w' => e = .returned (.slice (some ⟨w.heap.size, 0, none⟩) (splitC c l).length (splitC c l).length) ∧ w' = w.alloc (.cells ((splitC c l).map str).toArray 9) := by
  obtain ⟨m, hm⟩ := hL.m
  refine (Tryd.strings_Split ⟨l.toArray⟩ ⟨[c].toArray⟩ m w (by rw [str_size]; exact hl) hm (by rw [str_size]; simp)).mono ?_
  rintro e w' ⟨rfl, rfl⟩
  have h1 := Lib.splitB_data ⟨[c].toArray⟩ 0 (Lib.countB ⟨l.toArray⟩ ⟨[c].toArray⟩) ⟨l.toArray⟩
  have h2 : Lib.countB ⟨l.toArray⟩ ⟨[c].toArray⟩ = Lib.count l [c] := rfl
  simp only [h2, split_one] at h1
  have h3 : (Lib.splitB ⟨[c].toArray⟩ 0 (Lib.countB ⟨l.toArray⟩ ⟨[c].toArray⟩) ⟨l.toArray⟩).map Value.string = (splitC c l).map str := by
    rw [← h1, h2, List.map_map]
    refine List.map_congr_left fun s _ => ?_
    show Value.string s = Value.string ⟨s.data.toList.toArray⟩
    simp
  have h4 : Lib.countB ⟨l.toArray⟩ ⟨[c].toArray⟩ + 1 = (splitC c l).length := by
    have h5 := congrArg List.length h3
    rw [List.length_map, List.length_map, Lib.splitB_all ⟨[c].toArray⟩ (by rw [str_size]; simp) 0 _ ⟨l.toArray⟩ rfl] at h5
    exact h5
  rw [h3, h4]
  exact ⟨rfl, rfl⟩
theorem cReplace (l : Bs) (w : World) (hL : Lt w) (hl : l.length < 4294967281) :
    Calls Tryd.prog 45 #[str l, str [43], str [32]] w fun e w' => e = .returned (str (plusP l)) ∧ Below w.heap.size w w' := by
  obtain ⟨m, hm⟩ := hL.m
  have hc : Lib.countB ⟨l.toArray⟩ ⟨[43].toArray⟩ ≤ l.length := by
    show Lib.count l [43] ≤ l.length
    rw [Lib.count_one]; exact List.count_le_length
  refine (Tryd.strings_ReplaceAll ⟨l.toArray⟩ ⟨[43].toArray⟩ ⟨[32].toArray⟩ m w (by rw [str_size]; exact hl) hm (by rw [str_size]; simp) ?_).mono ?_
  · rw [str_size, str_size, List.length_singleton, Nat.mul_one]
    omega
  rintro e w' ⟨rfl, hd⟩
  refine ⟨?_, hd⟩
  show Ending.returned (str (Lib.replaceAll l [43] [32])) = _
  rw [replace_plus]
theorem cTrim (l : Bs) (w : World) (hl : l.length ≤ 9223372036854775807) :
    Calls Tryd.prog 29 #[str l, str [32, 9]] w fun e w' => e = .returned (str (Lib.trimS l [32, 9])) ∧ Below w.heap.size w w' := by
  refine (Any.strings_Trim_laid Tryd.lays160 (by kernel_rfl) ⟨l.toArray⟩ ⟨[32, 9].toArray⟩ w (by rw [str_size]; exact hl) (by rw [str_size]; simp) (ascii_of_all (by decide))).mono ?_
  rintro e w' ⟨rfl, hd⟩
  exact ⟨rfl, hd⟩
theorem cValid (l : Bs) (w : World) (hL : Lt w) (hl : l.length ≤ 9223372036854775807) :
    Calls Tryd.prog 14 #[str l] w fun e w' => e = .returned (.bool (validP l)) ∧ Below w.heap.size w w' := by
  go_enter Tryd.func14, Tryd.ntmps14
  go_wp2_with fail
  refine (Any.utf8_ValidString Tryd.lays196 ⟨l.toArray⟩ w (by rw [str_size]; exact hl) hL.t).mono ?_
  rintro e w' ⟨rfl, hd⟩
  rw [show Lib.validD (⟨l.toArray⟩ : ByteArray).data.toList = validP l from (validP_eq l).symm]
  go_wp2
  go_ret
  exact ⟨rfl, hd⟩
theorem vLow1 (x : Nat) (hx : x ≤ 1114111) (w : World) : Calls Tryd.prog 55 #[.int .i32 x] w fun e w' => e = .returned (.int .i32 (lowF x)) ∧ w' = w := by
  unfold lowF
  by_cases a1 : (65 : Int) ≤ x
  · by_cases a2 : (x : Int) ≤ 90
    · have w1 : IntKind.i32.wrap ((x : Int) + 97) = (x : Int) + 97 := by rw [IntKind.wrap_i32]; omega
      have w2 : IntKind.i32.wrap ((x : Int) + 97 - 65) = (x : Int) + 32 := by rw [IntKind.wrap_i32]; omega
      rw [if_pos ⟨a1, a2⟩]
      go_enter Tryd.func55, Tryd.ntmps55
      go_wp2
      go_ret
      exact ⟨rfl, rfl⟩
    · rw [if_neg (fun h => a2 h.2)]
      go_enter Tryd.func55, Tryd.ntmps55
      go_wp2
      go_ret
      exact ⟨rfl, rfl⟩
  · rw [if_neg (fun h => a1 h.1)]
    go_enter Tryd.func55, Tryd.ntmps55
    go_wp2
    go_ret
    exact ⟨rfl, rfl⟩
theorem cLower (l : Bs) (w : World) (hL : Lt w) (hl : l.length < 35184372088832) :
    Calls Tryd.prog 32 #[str l] w fun e w' => e = .returned (str (lowP l)) ∧ Below w.heap.size w w' := by
  have hm := Tryd.strings_Map_grows 55 #[] (enters_of Tryd.func55 (by kernel_rfl) rfl) lowF ⟨l.toArray⟩ w (by rw [str_size]; exact hl)
    (fun W x hx _ => (vLow1 x hx W).mono fun e w' ⟨h1, h2⟩ => ⟨h1, h2 ▸ Below.refl _ _⟩) (fun x hx => by unfold lowF; split <;> omega) hL.t
  go_enter Tryd.func32, Tryd.ntmps32
  go_wp2_with fail
  refine hm.mono ?_
  rintro e w' ⟨rfl, hd⟩
  rw [show Lib.mapD lowF (⟨l.toArray⟩ : ByteArray).data.toList = lowP l from (lowP_eq l).symm]
  go_wp2
  go_ret
  exact ⟨rfl, hd⟩
theorem bytesOf_map (l : Bs) : Lib.bytesOf (l.map fun c => (c.toNat : Int)) = l := by
  unfold Lib.bytesOf
  rw [List.map_map]
  conv => rhs; rw [← List.map_id l]
  refine List.map_congr_left fun c _ => ?_
  simp
theorem bytes_cells {w : World} {B : Nat} {a : Addr} {l : Bs} (h : Bytes w B (some a) l.length l) : ∀ i, i < l.length → w.cell? (a.add i) = some (.int .u8 ((l.map fun c => (c.toNat : Int)).getD i 0)) := by
  intro i hi
  obtain ⟨b, off, e, -, hc⟩ := h.2 (by omega)
  cases e
  rw [addr_add, hc i (bv l[i]) (by rw [List.getElem?_map, List.getElem?_eq_getElem hi]; rfl)]
  simp [bv, List.getD, hi]
theorem bytes_range (l : Bs) : ∀ x ∈ l.map (fun c => (c.toNat : Int)), 0 ≤ x ∧ x < 256 := by
  intro x hx
  obtain ⟨c, -, rfl⟩ := List.mem_map.1 hx
  have : c.toNat < 256 := c.toNat_lt
  omega
theorem index_short {l sub : Bs} (h : l.length < sub.length) : Lib.index l sub = -1 := by
  rcases Lib.index_spec l sub with ⟨e, -⟩ | ⟨i, e, -, -, -⟩
  · exact e
  · have := Lib.index_room l sub (by omega)
    omega
theorem cIndexB (l sub : Bs) (A : Option Addr) (a2 : Addr) (c c2 B B2 : Nat) (w : World) (hL : Lt w) (hr : Bytes w B A l.length l) (hc : l.length ≤ c) (hA : A = none → c = 0) (h2 : Bytes w B2 (some a2) sub.length sub) (hs2 : 2 ≤ sub.length) (hs3 : sub.length < 100) (hl : l.length < 4294967281) :
    Calls Tryd.prog 15 #[.slice A l.length c, .slice (some a2) sub.length c2] w fun e w' => e = .returned (.int .i64 (Lib.index l sub)) ∧ Below w.heap.size w w' := by
  obtain ⟨m, hm⟩ := hL.m
  cases A with
  | none =>
    have hc0 := hA rfl
    have hl0 : l = [] := List.eq_nil_of_length_eq_zero (by omega)
    subst hl0 hc0
    refine (Tryd.bytes_Index_nil (some a2) sub.length c2 w (by omega) (fun h => by omega)).mono ?_
    rintro e w' ⟨rfl, rfl⟩
    rw [if_neg (by omega), index_short (by simp; omega)]
    exact ⟨rfl, Below.refl _ _⟩
  | some a1 =>
    refine (Tryd.bytes_Index_at a1 a2 l.length c sub.length c2 (l.map fun c => (c.toNat : Int)) (sub.map fun c => (c.toNat : Int)) m w (by simp) (by simp) (bytes_range l) (bytes_range sub) (bytes_cells hr) (bytes_cells h2) hc hl (by omega) hm).mono ?_
    rintro e w' ⟨rfl, hd⟩
    rw [bytesOf_map, bytesOf_map]
    exact ⟨rfl, below_dr hd⟩
end Go.Proofs.YtcjapjnhejenaaaDoor
