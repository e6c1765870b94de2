import Derived.Test.YtkojmgnbmnjmmaaDoorNcRow
/-! layer 19: a text as a pattern of its runes -/
namespace Garner
open Go
theorem quoteB_snoc (l : Bs) (c : UInt8) : quoteB (l ++ [c]) = quoteB l ++ if c ∈ specB then [92, c] else [c] := by
  rw [quoteB_app]
  congr 1
  simp [quoteB]
theorem quoteB_le (l : Bs) : (quoteB l).length ≤ 2 * l.length := by
  induction l with
  | nil => simp [quoteB]
  | cons c l ih =>
    have e : quoteB (c :: l) = (if c ∈ specB then [92, c] else [c]) ++ quoteB l := by simp [quoteB]
    rw [e, List.length_append, List.length_cons]
    split <;> simp <;> omega
end Garner
namespace Go.Proofs.YtkojmgnbmnjmmaaDoor
open Go.RowKit Garner
set_option maxRecDepth 100000 in
set_option maxHeartbeats 8000000 in
theorem vQuote (S : ByteArray) (s : Bs) (hS : S = ⟨s.toArray⟩) (w : World) (hs : s.length ≤ 140737488355328) :
    Calls Tryd.prog 22 #[.string S] w fun e w' => e = .returned (str (quoteB s)) ∧ w' = w := by
  obtain ⟨n, hn⟩ : ∃ n, s.length = n := ⟨_, rfl⟩
  have zS : S.size = n := by rw [hS, ← hn]; exact str_size s
  rw [hn] at hs
  have HS := Lib.hid hS; have Hn := Lib.hid hn
  clear hS hn
  go_enter Tryd.func22, Tryd.ntmps22
  go_wp2
  go_loopw [3, 4] (fun v i wr => ∃ (j : Nat) (D : ByteArray), j ≤ n ∧ i = .int .i64 j ∧ v = .string D ∧ Hid (D = ⟨(quoteB (s.take j)).toArray⟩) ∧ D.size ≤ 2 * j ∧ wr = w) (fun _ i _ => n - (intOf i).toNat)
  case atStart => exact ⟨0, _, Nat.zero_le _, rfl, rfl, Lib.hid rfl, Nat.le_refl _, rfl⟩
  case round =>
    obtain ⟨j, D, hj, rfl, rfl, hD, hDs, hwr⟩ := hrel
    obtain rfl : w = wr := hwr.symm
    have wj1 : IntKind.i64.wrap ((j : Int) + 1) = ((j + 1 : Nat) : Int) := by rw [IntKind.wrap_i64]; omega
    by_cases hlt : j < n
    · have z1 : (j : Int) < (n : Int) := by omega
      obtain ⟨c, hc⟩ : ∃ c, s[j]? = some c := ⟨_, List.getElem?_eq_getElem (by rw [Hn.out]; exact hlt)⟩
      have htk : s.take (j + 1) = s.take j ++ [c] := by rw [List.take_add_one, hc]; rfl
      have hex : S.extract j (j + 1) = ⟨#[c]⟩ := by
        rw [HS.out]
        apply ByteArray.ext
        apply Array.toList_inj.1
        have h2 := (List.getElem?_eq_some_iff.1 hc)
        simp [ByteArray.extract_mk]
        rw [List.drop_eq_getElem_cons h2.1, h2.2]
        rfl
      have hq := quoteB_snoc (s.take j) c
      rw [← htk] at hq
      have hH := vHas1 specB ⟨#[92, 40, 41, 91, 93, 123, 125, 42, 43, 63, 124, 46, 94, 36]⟩ rfl c w
      have hcon : Lib.contains specB [c] = decide (c ∈ specB) := by rw [Bool.eq_iff_iff, contains_one, decide_eq_true_iff]
      rw [hcon] at hH
      have zD : D.size ≤ 1000000000000000 := by omega
      have hlen := quoteB_le (s.take (j + 1))
      by_cases hsp : c ∈ specB
      · rw [if_pos hsp] at hq
        rw [decide_eq_true hsp] at hH
        obtain ⟨D2, d2, e2, s2⟩ := cat2 (B := ⟨#[92, c]⟩) (b := [92, c]) hD.out rfl
        have hd2 : D2 = ⟨(quoteB (s.take (j + 1))).toArray⟩ := by rw [e2, hq]
        have hs2 : D2.size ≤ 2 * (j + 1) := by
          rw [hd2, str_size]
          rw [List.length_take] at hlen
          omega
        have d3 : (⟨#[92]⟩ : ByteArray) ++ ⟨#[c]⟩ = ⟨#[92, c]⟩ := by apply ByteArray.ext; simp
        have HH := Lib.hid hH; have HD2 := Lib.hid hd2; have HS2 := Lib.hid hs2
        clear hH hd2 hs2 e2 s2 hq hlen htk hc hcon hsp hDs
        go_wp2_with (with_reducible refine HH.out.mono ?_; rintro e wy ⟨rfl, hz⟩; obtain rfl : w = wy := hz.symm)
        go_roundw
        case rel => exact ⟨j + 1, D2, by omega, by go_num, rfl, HD2, HS2.out, by first | rfl | trivial⟩
        case measure => simp [intOf]; omega
      · rw [if_neg hsp] at hq
        rw [decide_eq_false hsp] at hH
        obtain ⟨D2, d2, e2, s2⟩ := cat2 (B := ⟨#[c]⟩) (b := [c]) hD.out rfl
        have hd2 : D2 = ⟨(quoteB (s.take (j + 1))).toArray⟩ := by rw [e2, hq]
        have hs2 : D2.size ≤ 2 * (j + 1) := by
          rw [hd2, str_size]
          rw [List.length_take] at hlen
          omega
        have HH := Lib.hid hH; have HD2 := Lib.hid hd2; have HS2 := Lib.hid hs2
        clear hH hd2 hs2 e2 s2 hq hlen htk hc hcon hsp hDs
        go_wp2_with (with_reducible refine HH.out.mono ?_; rintro e wy ⟨rfl, hz⟩; obtain rfl : w = wy := hz.symm)
        go_roundw
        case rel => exact ⟨j + 1, D2, by omega, by go_num, rfl, HD2, HS2.out, by first | rfl | trivial⟩
        case measure => simp [intOf]; omega
    · obtain rfl : j = n := by omega
      have z1 : ¬ (j : Int) < (j : Int) := by omega
      have hfin : D = ⟨(quoteB s).toArray⟩ := by rw [hD.out, List.take_of_length_le (by rw [Hn.out]; exact Nat.le_refl _)]
      have HF := Lib.hid hfin
      clear hfin hD
      go_wp2
      go_ret
      exact ⟨by rw [HF.out]; rfl, rfl⟩
end Go.Proofs.YtkojmgnbmnjmmaaDoor
