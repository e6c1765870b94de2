import Derived.Test.YtkojmgnbmnjmmaaDoorNc47
import Derived.Test.YtkojmgnbmnjmmaaDoorNc23
import Derived.Test.YtkojmgnbmnjmmaaDoorNc48
/-! layer 19: awake; text.Has, utf.Count; matchers that are none -/
namespace Go.Proofs.YtkojmgnbmnjmmaaDoor
open Go.RowKit Garner
set_option maxRecDepth 100000 in
set_option maxHeartbeats 4000000 in
theorem vHas (l sub : Bs) (w : World) (hL : Lt w) (hl : l.length < 4294967281) :
    Calls Tryd.prog 19 #[str l, str sub] w fun e w' => e = .returned (.bool (Lib.contains l sub)) ∧ w' = w := by
  go_enter Tryd.func19, Tryd.ntmps19
  go_wp2_with fail
  refine (cContains l sub w hL hl).mono ?_
  rintro e w1 ⟨rfl, rfl⟩
  go_wp2
  go_ret
  exact ⟨rfl, rfl⟩
set_option maxRecDepth 100000 in
set_option maxHeartbeats 4000000 in
theorem vCount (l : Bs) (w : World) (hl : l.length ≤ 4611686018427387904) :
    Calls Tryd.prog 16 #[str l] w fun e w' => e = .returned (.int .i64 ((runesP l).length : Nat)) ∧ Below w.heap.size w w' := by
  obtain ⟨rs, hrs⟩ : ∃ rs, runesP l = rs := ⟨_, rfl⟩
  have hrl : rs.length ≤ l.length := by rw [← hrs]; exact runes_len _ l (Nat.le_refl _)
  obtain ⟨S, hS⟩ : ∃ S : ByteArray, S = ⟨l.toArray⟩ := ⟨_, rfl⟩
  have hsz := str_size l
  rw [← hS] at hsz
  obtain ⟨N, hN⟩ : ∃ N, rs.length = N := ⟨_, rfl⟩
  have estr : str l = .string S := by rw [hS]
  rw [estr, hrs, hN]
  rw [hN] at hrl
  clear estr
  have HSS := Lib.hid hS; have Hsz := Lib.hid hsz; have Hrs := Lib.hid hrs; have HN := Lib.hid hN
  clear hS hsz hrs hN
  go_enter Tryd.func16, Tryd.ntmps16
  go_wp2
  go_loopw [3] (fun i wr => ∃ pos k : Nat, i = .int .i64 k ∧ wr.heap[w.heap.size]? = some (.stringIter S pos) ∧ Hid (RunAt l rs pos k) ∧ k ≤ N ∧ Hid (Below w.heap.size w wr)) (fun _ wr => l.length - wr.iterPos w.heap.size)
  case atStart =>
    exact ⟨0, 0, rfl, World.iter_heap w S 0, Lib.hid (by rw [← Hrs.out]; exact RunAt.start l), Nat.zero_le _, Lib.hid ((Below.refl _ w).alloc (Nat.le_refl _) _)⟩
  case round =>
    obtain ⟨pos, k, rfl, hit, hat, hkN, hbw⟩ := hrel
    have hsz := Hsz.out
    have wk1 : IntKind.i64.wrap ((k : Int) + 1) = ((k + 1 : Nat) : Int) := by rw [IntKind.wrap_i64]; omega
    by_cases hpos : pos < l.length
    · obtain ⟨r, q', hde, hq1, hr, hrun⟩ := iter_next l pos hpos
      have hnx : ∀ ty, (Instr.next (.pointer (some ⟨w.heap.size, 0, none⟩)) true ty).run Tryd.prog wr = _ := fun ty => Lib.run_next_any_at wr w.heap.size S pos ty hit (by omega)
      rw [HSS.out, hde, ← HSS.out] at hnx
      obtain ⟨hrk, hat2⟩ := hat.out.next hrun
      have hlt := (List.getElem?_eq_some_iff.1 hrk).1
      rw [HN.out] at hlt
      have hit2 := Lib.iterAt_heap wr w.heap.size S pos (pos + q') hit
      have hbw2 := Lib.below_iterAt hbw.out (k := w.heap.size) (Nat.le_refl _) S (pos + q')
      have Hat := Lib.hid hat2; have Hbw := Lib.hid hbw2; have Hit2 := Lib.hid hit2
      clear hat2 hbw2 hrk hrun hde hat hbw hit2
      go_wp2
      go_roundw
      case rel => exact ⟨pos + q', k + 1, rfl, Hit2.out, Hat, by omega, Hbw⟩
      case measure =>
        simp only [World.iterPos, Hit2.out, hit]
        omega
    · have hnx : ∀ ty, (Instr.next (.pointer (some ⟨w.heap.size, 0, none⟩)) true ty).run Tryd.prog wr = _ := fun ty => Lib.run_next_end_at wr w.heap.size S pos ty hit (by omega)
      have hk := hat.out.done hpos
      rw [HN.out] at hk
      subst hk
      go_wp2
      go_ret
      exact ⟨rfl, hbw.out⟩
set_option maxRecDepth 100000 in
theorem nWhole (s : ByteArray) (w : World) : Calls Tryd.prog 17 #[.pointer none, .string s] w fun e w' => e = .returned (.bool false) ∧ w' = w := by
  go_enter Tryd.func17, Tryd.ntmps17
  go_wp2
  go_ret
  exact ⟨rfl, rfl⟩
set_option maxRecDepth 100000 in
theorem nPart (s : ByteArray) (w : World) : Calls Tryd.prog 18 #[.pointer none, .string s] w fun e w' => e = .returned (.bool false) ∧ w' = w := by
  go_enter Tryd.func18, Tryd.ntmps18
  go_wp2
  go_ret
  exact ⟨rfl, rfl⟩
set_option maxRecDepth 100000 in
set_option maxHeartbeats 8000000 in
theorem vAwake19 (w : World) (hL : Lt w) : Calls Tryd.prog 14 #[] w fun e w' => e = .returned (.bool true) ∧ Below w.heap.size w w' := by
  have h1 := vNew [97, 42, 98] w hL (by decide)
  rw [aw_ok] at h1
  have H1 := Lib.hid h1; have HL := Lib.hid hL
  clear h1 hL
  go_enter Tryd.func14, Tryd.ntmps14
  go_wp2_with fail
  refine H1.out.mono ?_
  rintro e w1 ⟨hb1, b, rfl, hm⟩
  have h2 := vNew [42] w1 (HL.out.below hb1) (by decide)
  rw [aw_no] at h2
  have H2 := Lib.hid h2; have Hm := Lib.hid hm; have HB1 := Lib.hid hb1
  clear h2 hm hb1
  go_wp2_with fail
  refine H2.out.mono ?_
  rintro e w2 ⟨hb2, he⟩
  obtain rfl : e = _ := he
  have hm2 := Hm.out.below hb2
  have h3 := vWhole awT b w2 hm2 [97, 97, 98]
  rw [aw_r1, aw_whole] at h3
  have hbw := HB1.out.trans (hb2.mono HB1.out.size)
  have H3 := Lib.hid h3; have Hm2 := Lib.hid hm2; have HBW := Lib.hid hbw
  clear h3 hm2 hbw hb2
  go_wp2_with fail
  refine H3.out.mono ?_
  rintro e w3 ⟨rfl, hb3⟩
  have hm3 := Hm2.out.below hb3
  have h4 := vWhole awT b w3 hm3 [97, 98, 120]
  rw [aw_r2, aw_not] at h4
  have hbw := HBW.out.trans (hb3.mono HBW.out.size)
  have H4 := Lib.hid h4; have Hm3 := Lib.hid hm3; have HBW3 := Lib.hid hbw
  clear h4 hm3 hbw hb3
  go_wp2_with fail
  refine H4.out.mono ?_
  rintro e w4 ⟨rfl, hb4⟩
  have hm4 := Hm3.out.below hb4
  have h5 := vPart awT b w4 hm4 [120, 97, 98, 121]
  rw [aw_r3, aw_part] at h5
  have hbw := HBW3.out.trans (hb4.mono HBW3.out.size)
  have H5 := Lib.hid h5; have HBW4 := Lib.hid hbw
  clear h5 hm4 hbw hb4
  go_wp2_with fail
  refine H5.out.mono ?_
  rintro e w5 ⟨rfl, hb5⟩
  go_wp2
  go_ret
  exact ⟨rfl, HBW4.out.trans (hb5.mono HBW4.out.size)⟩
end Go.Proofs.YtkojmgnbmnjmmaaDoor
/-! text.Has of one sign, at every length -/
namespace Go.Proofs.YtkojmgnbmnjmmaaDoor
open Go.RowKit Go.Shelf Garner
theorem sIndexByte (s : ByteArray) (c : Int) (w : World) : Calls Tryd.prog 84 #[.string s, .int .u8 c] w fun e w' => e = .returned (.int .i64 (Lib.indexByte s.data.toList c.toNat.toUInt8)) ∧ w' = w :=
  Any.stringslite_IndexByte { Tryd.lays137 with } s c w
set_option maxRecDepth 100000 in
set_option maxHeartbeats 4000000 in
theorem sIndex1 (l : Bs) (c : UInt8) (w : World) :
    Calls Tryd.prog 73 #[str l, .string ⟨#[c]⟩] w fun e w' => e = .returned (.int .i64 (Lib.indexByte l c)) ∧ w' = w := by
  have hi := sIndexByte ⟨l.toArray⟩ (c.toNat : Int) w
  have e1 : ((c.toNat : Int).toNat.toUInt8) = c := by simp
  rw [e1, str_list] at hi
  clear e1
  go_enter Tryd.func73, Tryd.ntmps73
  go_wp2_with (refine hi.mono ?_; rintro e wy ⟨rfl, hz⟩; obtain rfl : w = wy := hz.symm)
  · rename_i h
    have h : [c] = l := by simpa using h
    go_ret
    refine ⟨?_, rfl⟩
    rw [← h]
    show _ = Ending.returned (.int .i64 (Lib.indexByte [c] c))
    simp [Lib.indexByte]
  · go_ret
    exact ⟨rfl, rfl⟩
set_option maxRecDepth 100000 in
theorem sIndexS1 (S : ByteArray) (c : UInt8) (w : World) :
    Calls Tryd.prog 49 #[.string S, .string ⟨#[c]⟩] w fun e w' => e = .returned (.int .i64 (Lib.indexByte S.data.toList c)) ∧ w' = w := by
  have hi := sIndex1 S.data.toList c w
  have eS : str S.data.toList = .string S := by cases S; simp [str]
  rw [eS] at hi
  clear eS
  go_enter Tryd.func49, Tryd.ntmps49
  go_wp2_with (with_reducible refine hi.mono ?_; rintro e wy ⟨rfl, hz⟩; obtain rfl : w = wy := hz.symm)
  go_ret
  exact ⟨rfl, rfl⟩
theorem contains_byte {l : Bs} {c : UInt8} : Lib.contains l [c] = decide (0 ≤ Lib.indexByte l c) := by
  rw [← Lib.contains_iff_indexByte, Bool.eq_iff_iff, contains_one, List.contains_iff_mem]
set_option maxRecDepth 100000 in
theorem sContains1 (S : ByteArray) (c : UInt8) (w : World) :
    Calls Tryd.prog 32 #[.string S, .string ⟨#[c]⟩] w fun e w' => e = .returned (.bool (Lib.contains S.data.toList [c])) ∧ w' = w := by
  have hi := sIndexS1 S c w
  rw [contains_byte]
  go_enter Tryd.func32, Tryd.ntmps32
  go_wp2_with (with_reducible refine hi.mono ?_; rintro e wy ⟨rfl, hz⟩; obtain rfl : w = wy := hz.symm)
  go_ret
  exact ⟨rfl, rfl⟩
set_option maxRecDepth 100000 in
theorem vHas1 (l : Bs) (S : ByteArray) (hS : S = ⟨l.toArray⟩) (c : UInt8) (w : World) :
    Calls Tryd.prog 19 #[.string S, .string ⟨#[c]⟩] w fun e w' => e = .returned (.bool (Lib.contains l [c])) ∧ w' = w := by
  have hi := sContains1 S c w
  have e : S.data.toList = l := by rw [hS]
  rw [e] at hi
  clear e hS
  go_enter Tryd.func19, Tryd.ntmps19
  go_wp2_with fail
  refine hi.mono ?_
  rintro e wy ⟨rfl, rfl⟩
  go_wp2
  go_ret
  exact ⟨rfl, rfl⟩
end Go.Proofs.YtkojmgnbmnjmmaaDoor
/-! layer 19: what New answers, told as a pointer and a number; matchers that are asked again and again -/
namespace Garner
open Go
/-- two texts laid together, as the walk makes them -/
theorem cat2 {A B : ByteArray} {a b : Bs} (hA : A = ⟨a.toArray⟩) (hB : B = ⟨b.toArray⟩) : ∃ C, A ++ B = C ∧ C = ⟨(a ++ b).toArray⟩ ∧ C.size = a.length + b.length := by
  subst hA; subst hB
  refine ⟨_, rfl, ?_, ?_⟩
  · apply ByteArray.ext; simp
  · simp [ByteArray.size]
end Garner
namespace Go.Proofs.YtkojmgnbmnjmmaaDoor
open Go.RowKit Garner
/-- a matcher that is asked at a text, again and again -/
abbrev WholeA (Z : World) (b : Nat) (S : ByteArray) (ans : Bool) : Prop := ∀ wx, Below Z.heap.size Z wx → Calls Tryd.prog 17 #[.pointer (some ⟨b, 0, none⟩), .string S] wx fun e w' => e = .returned (.bool ans) ∧ Below Z.heap.size Z w'
abbrev PartA (Z : World) (b : Nat) (S : ByteArray) (ans : Bool) : Prop := ∀ wx, Below Z.heap.size Z wx → Calls Tryd.prog 18 #[.pointer (some ⟨b, 0, none⟩), .string S] wx fun e w' => e = .returned (.bool ans) ∧ Below Z.heap.size Z w'
theorem MatIs.wholeA {Z : World} {b : Nat} {t : Re} (h : MatIs Z b t) {S : ByteArray} {l : Bs} (hS : S = ⟨l.toArray⟩) : WholeA Z b S (wholeB t (runesP l)) := fun wx hx => by
  subst hS
  exact (vWhole t b wx (h.below hx) l).mono fun e w' h => ⟨h.1, hx.trans (h.2.mono hx.size)⟩
theorem MatIs.partA {Z : World} {b : Nat} {t : Re} (h : MatIs Z b t) {S : ByteArray} {l : Bs} (hS : S = ⟨l.toArray⟩) : PartA Z b S (partB t (runesP l)) := fun wx hx => by
  subst hS
  exact (vPart t b wx (h.below hx) l).mono fun e w' h => ⟨h.1, hx.trans (h.2.mono hx.size)⟩
/-- what New answers: a pointer and a number -/
def NewK (o : Except Nat Re) (p : Option Addr) (k : Nat) (w' : World) : Prop := match o with
  | .error n => p = none ∧ k = n ∧ 0 < n ∧ n ≤ 40
  | .ok t => k = 0 ∧ ∃ b, p = some ⟨b, 0, none⟩ ∧ MatIs w' b t
theorem NewK.below {o : Except Nat Re} {p : Option Addr} {k : Nat} {w w' : World} (h : NewK o p k w) (hb : Below w.heap.size w w') : NewK o p k w' := by
  cases o with
  | error n => exact h
  | ok t =>
    obtain ⟨h1, b, h2, h3⟩ := h
    exact ⟨h1, b, h2, h3.below hb⟩
theorem NewK.zero {o : Except Nat Re} {p : Option Addr} {k : Nat} {w : World} (h : NewK o p k w) (hk : k = 0) : ∃ t b, o = .ok t ∧ p = some ⟨b, 0, none⟩ ∧ MatIs w b t := by
  cases o with
  | error n =>
    obtain ⟨-, h1, h2, -⟩ := h
    omega
  | ok t =>
    obtain ⟨-, b, h2, h3⟩ := h
    exact ⟨t, b, rfl, h2, h3⟩
theorem NewK.pos {o : Except Nat Re} {p : Option Addr} {k : Nat} {w : World} (h : NewK o p k w) (hk : k ≠ 0) : o = .error k ∧ p = none := by
  cases o with
  | error n =>
    obtain ⟨h0, h1, h2, -⟩ := h
    exact ⟨by rw [h1], h0⟩
  | ok t => exact absurd h.1 hk
theorem vNewA (l : Bs) (S : ByteArray) (hS : S = ⟨l.toArray⟩) (w : World) (hL : Lt w) (hl : l.length ≤ 9223372036854775807) :
    Calls Tryd.prog 15 #[.string S] w fun e w' => ∃ (p : Option Addr) (k : Nat), e = .returned (.tuple #[.pointer p, .int .i64 (k : Nat)]) ∧ Below w.heap.size w w' ∧ NewK (rexpP l) p k w' := by
  subst hS
  refine (vNew l w hL hl).mono ?_
  intro e w' ⟨hb, h⟩
  have he := fun k => @err_pos l k
  cases ho : rexpP l with
  | error n =>
    rw [ho] at h
    obtain ⟨h1, h2⟩ := he n ho
    exact ⟨none, n, h, hb, rfl, rfl, h1, h2⟩
  | ok t =>
    rw [ho] at h
    obtain ⟨b, rfl, hm⟩ := h
    exact ⟨some ⟨b, 0, none⟩, 0, rfl, hb, rfl, b, rfl, hm⟩
theorem vNewOk (l : Bs) (S : ByteArray) (hS : S = ⟨l.toArray⟩) (t : Re) (h : rexpP l = .ok t) (w : World) (hL : Lt w) :
    Calls Tryd.prog 15 #[.string S] w fun e w' => ∃ b, e = .returned (.tuple #[.pointer (some ⟨b, 0, none⟩), .int .i64 0]) ∧ Below w.heap.size w w' ∧ MatIs w' b t := by
  subst hS
  have hl : l.length ≤ 9223372036854775807 := by
    unfold rexpP at h
    split at h
    · cases h
    · omega
  refine (vNew l w hL hl).mono ?_
  intro e w' ⟨hb, hx⟩
  rw [h] at hx
  obtain ⟨b, rfl, hm⟩ := hx
  exact ⟨b, rfl, hb, hm⟩
end Go.Proofs.YtkojmgnbmnjmmaaDoor
