import Derived.Test.YtkojmgnbmnjmmaaDoorNl36
import Derived.Test.YtkojmgnbmnjmmaaDoorNl37
import Derived.Test.YtkojmgnbmnjmmaaDoorNl17
import Derived.Test.YtkojmgnbmnjmmaaDoorNl26
import Derived.Test.YtkojmgnbmnjmmaaDoorNl30
import Derived.Test.YtkojmgnbmnjmmaaDoorNl01
/-! a tree's nodes in memory; rows cut; strings' iterators beside rows -/
namespace Go.Proofs.YtkojmgnbmnjmmaaDoor
open Go.RowKit Garner
theorem NodesIs.node {F : Nat → Prop} {w : World} {B c k : Nat} {A : Option Addr} {ns : List NodeP} {n : NodeP} (h : NodesIs F w B (.slice A ns.length c) ns) (hk : ns[k]? = some n) : ∃ g d, A = some ⟨g, 0, none⟩ ∧ NodeD.n d = n ∧ NodeOk F w d ∧ g < w.heap.size ∧ ∀ j, j < 5 → w.cell? ⟨g, k * 5 + j, none⟩ = (NodeD.cells d)[j]? := by
  obtain ⟨ds, hds, hown, hok⟩ := h
  obtain ⟨hlt, -⟩ := List.getElem?_eq_some_iff.1 hk
  obtain ⟨g, rfl, -, hg, -, -, hc⟩ := own_at hown (by omega)
  have hk' := hk
  rw [← hds, List.getElem?_map] at hk'
  cases hd : ds[k]? with
  | none => rw [hd] at hk'; cases hk'
  | some d =>
    rw [hd] at hk'
    injection hk' with e
    exact ⟨g, d, rfl, e, hok d (List.mem_of_getElem? hd), hg, fun j hj => by rw [hc (k * 5 + j) (by omega), cells_at hd j hj]⟩
/-- nodes that lie at b -/
def AtN (ns : List NodeP) (b : Nat) (l : List NodeP) : Prop := ∀ k n, l[k]? = some n → ns[b + k]? = some n
theorem AtN.left {ns l m : List NodeP} {b : Nat} (h : AtN ns b (l ++ m)) : AtN ns b l := fun k n hk => h k n (by
  rw [List.getElem?_append_left (List.getElem?_eq_some_iff.1 hk).1]; exact hk)
theorem AtN.right {ns l m : List NodeP} {b n : Nat} (h : AtN ns b (l ++ m)) (hn : l.length = n) : AtN ns (b + n) m := fun k x hk => by
  have := h (n + k) x (by rw [List.getElem?_append_right (by omega), hn, Nat.add_sub_cancel_left]; exact hk)
  rwa [← Nat.add_assoc] at this
theorem last_at {ns : List NodeP} {b : Nat} {l : List NodeP} {x : NodeP} {t : Re} (hf : t.flat b = l ++ [x]) (hl : t.cnt = l.length + 1) (h : AtN ns b (t.flat b)) : ns[b + t.cnt - 1]? = some x := by
  have := h l.length x (by rw [hf, List.getElem?_append_right (Nat.le_refl _), Nat.sub_self]; rfl)
  rw [show b + t.cnt - 1 = b + l.length by omega]; exact this
theorem split_at {l : List Re} {j : Nat} {t : Re} (h : l[j]? = some t) : ∃ a m, l = a ++ t :: m ∧ a.length = j ∧ l.take j = a ∧ l.take (j + 1) = a ++ [t] := by
  obtain ⟨hj, e⟩ := List.getElem?_eq_some_iff.1 h
  refine ⟨l.take j, l.drop (j + 1), ?_, by rw [List.length_take]; omega, rfl, ?_⟩
  · rw [← e, ← List.drop_eq_getElem_cons hj, List.take_append_drop]
  · rw [List.take_succ_eq_append_getElem hj, e]
theorem kid_root {l : List Re} {j : Nat} {t : Re} (h : l[j]? = some t) (b : Nat) : (roots b l)[j]? = some (b + cnts (l.take j) + t.cnt - 1) := by
  obtain ⟨a, m, e, hj, ht, -⟩ := split_at h
  rw [ht, e, roots_app, List.getElem?_append_right (by rw [roots_length]; omega), roots_length, hj, Nat.sub_self]
  rfl
theorem kid_nodes {ns : List NodeP} {l : List Re} {j : Nat} {t : Re} (h : l[j]? = some t) {b : Nat} (hat : AtN ns b (flats b l)) : AtN ns (b + cnts (l.take j)) (t.flat (b + cnts (l.take j))) := by
  obtain ⟨a, m, e, hj, ht, -⟩ := split_at h
  rw [ht]
  rw [e, flats_app] at hat
  have h1 := hat.right (flats_len a b)
  rw [flats] at h1
  exact h1.left
theorem own_cutA {w : World} {B : Nat} {e : TypeId} {n m c : Nat} {A : Option Addr} {xs : List Value} (h : w.ownsRow B e 1 (.slice A n c) n xs) (hm : m ≤ n) : w.ownsRow B e 1 (.slice A m c) m (xs.take m) := by
  obtain ⟨h1, h2⟩ := h
  rcases h2 with ⟨e1, h0⟩ | ⟨g', cap, cur, e1, hB, hh, hc, hm2, hs, hp⟩
  · injection e1 with e2 e3 e4
    obtain rfl : m = 0 := by omega
    subst e2; subst e4
    exact ⟨by simp, .inl ⟨rfl, rfl⟩⟩
  · injection e1 with e2 e3 e4
    subst e2; subst e4
    refine ⟨by rw [List.length_take]; omega, .inr ⟨g', c, cur, rfl, hB, hh, by omega, hm2, hs, ?_⟩⟩
    rw [← hp, List.take_take]; congr 1; omega
theorem own_iterAt {w : World} {B : Nat} {e : TypeId} {sz n : Nat} {v : Value} {xs : List Value} {k : Nat} {s : ByteArray} {pos pos' : Nat} (h : w.ownsRow B e sz v n xs) (hk : w.heap[k]? = some (.stringIter s pos)) : (w.iterAt k s pos').ownsRow B e sz v n xs := by
  obtain ⟨h1, h2⟩ := h
  refine ⟨h1, ?_⟩
  rcases h2 with h2 | ⟨g, cap, cur, hv, hg, hh, r⟩
  · exact Or.inl h2
  · refine Or.inr ⟨g, cap, cur, hv, hg, ?_, r⟩
    rw [Lib.iterAt_other]
    · exact hh
    · rintro rfl; rw [hk] at hh; cases hh
theorem Blk.iterAt {w : World} {g : Nat} {t : TypeId} {cs : List Value} {k : Nat} {s : ByteArray} {pos pos' : Nat} (h : Blk w g t cs) (hk : w.heap[k]? = some (.stringIter s pos)) : Blk (w.iterAt k s pos') g t cs := by
  unfold Blk at h ⊢
  rw [Lib.iterAt_other]
  · exact h
  · rintro rfl; rw [hk] at h; cases h
end Go.Proofs.YtkojmgnbmnjmmaaDoor
/-! a text's runes one behind the other; what rexp.Parse answers -/
namespace Garner
open Go
theorem iter_next (l : Bs) (pos : Nat) (h : pos < l.length) : ∃ r q, Utf8.decode ⟨l.toArray⟩ pos = (r, q) ∧ 1 ≤ q ∧ r ≤ 1114111 ∧ runesP (l.drop pos) = r :: runesP (l.drop (pos + q)) := by
  have hd := Lib.decodeL_drop ⟨l.toArray⟩ pos
  have e : (⟨l.toArray⟩ : ByteArray).data.toList = l := by simp
  rw [e] at hd
  have hne : l.drop pos ≠ [] := fun e => by
    have := congrArg List.length e
    rw [List.length_drop] at this
    simp only [List.length_nil] at this
    omega
  refine ⟨(Utf8.decode ⟨l.toArray⟩ pos).1, (Utf8.decode ⟨l.toArray⟩ pos).2, rfl, ?_, ?_, ?_⟩
  · rw [← hd]; exact Lib.decodeL_width _
  · rw [← hd]; exact Lib.decodeL_rune _
  · rw [runes_step hne, hd, List.drop_drop]
/-- of the runes so many are behind -/
structure RunAt (l : Bs) (rs : List Nat) (pos k : Nat) : Prop where
  at_ : rs.drop k = runesP (l.drop pos)
  le : k ≤ rs.length
theorem RunAt.start (l : Bs) : RunAt l (runesP l) 0 0 := ⟨rfl, Nat.zero_le _⟩
theorem RunAt.next {l : Bs} {rs : List Nat} {pos k r q : Nat} (h : RunAt l rs pos k) (hr : runesP (l.drop pos) = r :: runesP (l.drop (pos + q))) : rs[k]? = some r ∧ RunAt l rs (pos + q) (k + 1) := by
  have h1 := h.at_.trans hr
  have hk : rs[k]? = some r := by
    have : (rs.drop k)[0]? = some r := by rw [h1]; rfl
    rwa [List.getElem?_drop, Nat.add_zero] at this
  have hlt := (List.getElem?_eq_some_iff.1 hk).1
  refine ⟨hk, ?_, hlt⟩
  have : (rs.drop k).drop 1 = runesP (l.drop (pos + q)) := by rw [h1]; rfl
  rwa [List.drop_drop] at this
theorem RunAt.done {l : Bs} {rs : List Nat} {pos k : Nat} (h : RunAt l rs pos k) (hp : ¬ pos < l.length) : k = rs.length := by
  have h1 := h.at_
  rw [List.drop_eq_nil_of_le (by omega : l.length ≤ pos)] at h1
  have := congrArg List.length h1
  rw [List.length_drop] at this
  have h2 := h.le
  have h3 : (runesP ([] : Bs)).length = 0 := rfl
  omega
end Garner
namespace Go.Proofs.YtkojmgnbmnjmmaaDoor
open Go.RowKit Garner
theorem err_pos {l : Bs} {k : Nat} (h : rexpP l = .error k) : 0 < k ∧ k ≤ 40 := by
  unfold rexpP at h
  split at h
  · cases h; omega
  split at h
  · cases h; omega
  · unfold readR at h
    split at h
    · cases h; omega
    · split at h
      · cases h; omega
      split at h
      · cases h; omega
      split at h
      · cases h; omega
      · cases h
theorem rexp_good {l : Bs} {t : Re} (h : rexpP l = .ok t) : GoodT t := by
  unfold rexpP at h
  split at h
  · cases h
  · rename_i hl
    split at h
    · cases h
    · exact read_good (by have := runes_len _ l (Nat.le_refl _); omega) h
end Go.Proofs.YtkojmgnbmnjmmaaDoor
/-! text.Has -/
namespace Go.Proofs.YtkojmgnbmnjmmaaDoor
open Go.RowKit Garner
set_option maxRecDepth 100000 in
set_option maxHeartbeats 4000000 in
theorem vHas (l sub : Bs) (w : World) (hL : Lt w) (hl : l.length < 4294967281) :
    Calls Tryd.prog 19 #[str l, str sub] w fun e w' => e = .returned (.bool (Lib.contains l sub)) ∧ w' = w := by
  go_enter Tryd.func19, Tryd.ntmps19
  go_wp2_with fail
  refine (cContains l sub w hL hl).mono ?_
  rintro e w1 ⟨rfl, rfl⟩
  go_wp2
  go_ret
  exact ⟨rfl, rfl⟩
end Go.Proofs.YtkojmgnbmnjmmaaDoor
/-! text.Has of one sign, at every length -/
namespace Go.Proofs.YtkojmgnbmnjmmaaDoor
open Go.RowKit Go.Shelf Garner
theorem sIndexByte (s : ByteArray) (c : Int) (w : World) : Calls Tryd.prog 84 #[.string s, .int .u8 c] w fun e w' => e = .returned (.int .i64 (Lib.indexByte s.data.toList c.toNat.toUInt8)) ∧ w' = w :=
  Any.stringslite_IndexByte { Tryd.lays137 with } s c w
set_option maxRecDepth 100000 in
set_option maxHeartbeats 4000000 in
theorem sIndex1 (l : Bs) (c : UInt8) (w : World) :
    Calls Tryd.prog 73 #[str l, .string ⟨#[c]⟩] w fun e w' => e = .returned (.int .i64 (Lib.indexByte l c)) ∧ w' = w := by
  have hi := sIndexByte ⟨l.toArray⟩ (c.toNat : Int) w
  have e1 : ((c.toNat : Int).toNat.toUInt8) = c := by simp
  rw [e1, str_list] at hi
  clear e1
  go_enter Tryd.func73, Tryd.ntmps73
  go_wp2_with (refine hi.mono ?_; rintro e wy ⟨rfl, hz⟩; obtain rfl : w = wy := hz.symm)
  · rename_i h
    have h : [c] = l := by simpa using h
    go_ret
    refine ⟨?_, rfl⟩
    rw [← h]
    show _ = Ending.returned (.int .i64 (Lib.indexByte [c] c))
    simp [Lib.indexByte]
  · go_ret
    exact ⟨rfl, rfl⟩
set_option maxRecDepth 100000 in
theorem sIndexS1 (S : ByteArray) (c : UInt8) (w : World) :
    Calls Tryd.prog 49 #[.string S, .string ⟨#[c]⟩] w fun e w' => e = .returned (.int .i64 (Lib.indexByte S.data.toList c)) ∧ w' = w := by
  have hi := sIndex1 S.data.toList c w
  have eS : str S.data.toList = .string S := by cases S; simp [str]
  rw [eS] at hi
  clear eS
  go_enter Tryd.func49, Tryd.ntmps49
  go_wp2_with (with_reducible refine hi.mono ?_; rintro e wy ⟨rfl, hz⟩; obtain rfl : w = wy := hz.symm)
  go_ret
  exact ⟨rfl, rfl⟩
theorem contains_byte {l : Bs} {c : UInt8} : Lib.contains l [c] = decide (0 ≤ Lib.indexByte l c) := by
  rw [← Lib.contains_iff_indexByte, Bool.eq_iff_iff, contains_one, List.contains_iff_mem]
set_option maxRecDepth 100000 in
theorem sContains1 (S : ByteArray) (c : UInt8) (w : World) :
    Calls Tryd.prog 32 #[.string S, .string ⟨#[c]⟩] w fun e w' => e = .returned (.bool (Lib.contains S.data.toList [c])) ∧ w' = w := by
  have hi := sIndexS1 S c w
  rw [contains_byte]
  go_enter Tryd.func32, Tryd.ntmps32
  go_wp2_with (with_reducible refine hi.mono ?_; rintro e wy ⟨rfl, hz⟩; obtain rfl : w = wy := hz.symm)
  go_ret
  exact ⟨rfl, rfl⟩
set_option maxRecDepth 100000 in
theorem vHas1 (l : Bs) (S : ByteArray) (hS : S = ⟨l.toArray⟩) (c : UInt8) (w : World) :
    Calls Tryd.prog 19 #[.string S, .string ⟨#[c]⟩] w fun e w' => e = .returned (.bool (Lib.contains l [c])) ∧ w' = w := by
  have hi := sContains1 S c w
  have e : S.data.toList = l := by rw [hS]
  rw [e] at hi
  clear e hS
  go_enter Tryd.func19, Tryd.ntmps19
  go_wp2_with fail
  refine hi.mono ?_
  rintro e wy ⟨rfl, rfl⟩
  go_wp2
  go_ret
  exact ⟨rfl, rfl⟩
end Go.Proofs.YtkojmgnbmnjmmaaDoor
/-! layer 19: a text as a pattern of its runes -/
namespace Garner
open Go
theorem quoteB_snoc (l : Bs) (c : UInt8) : quoteB (l ++ [c]) = quoteB l ++ if c ∈ specB then [92, c] else [c] := by
  rw [quoteB_app]
  congr 1
  simp [quoteB]
theorem quoteB_le (l : Bs) : (quoteB l).length ≤ 2 * l.length := by
  induction l with
  | nil => simp [quoteB]
  | cons c l ih =>
    have e : quoteB (c :: l) = (if c ∈ specB then [92, c] else [c]) ++ quoteB l := by simp [quoteB]
    rw [e, List.length_append, List.length_cons]
    split <;> simp <;> omega
end Garner
namespace Go.Proofs.YtkojmgnbmnjmmaaDoor
open Go.RowKit Garner
set_option maxRecDepth 100000 in
set_option maxHeartbeats 8000000 in
theorem vQuote (S : ByteArray) (s : Bs) (hS : S = ⟨s.toArray⟩) (w : World) (hs : s.length ≤ 140737488355328) :
    Calls Tryd.prog 22 #[.string S] w fun e w' => e = .returned (str (quoteB s)) ∧ w' = w := by
  obtain ⟨n, hn⟩ : ∃ n, s.length = n := ⟨_, rfl⟩
  have zS : S.size = n := by rw [hS, ← hn]; exact str_size s
  rw [hn] at hs
  have HS := Lib.hid hS; have Hn := Lib.hid hn
  clear hS hn
  go_enter Tryd.func22, Tryd.ntmps22
  go_wp2
  go_loopw [3, 4] (fun v i wr => ∃ (j : Nat) (D : ByteArray), j ≤ n ∧ i = .int .i64 j ∧ v = .string D ∧ Hid (D = ⟨(quoteB (s.take j)).toArray⟩) ∧ D.size ≤ 2 * j ∧ wr = w) (fun _ i _ => n - (intOf i).toNat)
  case atStart => exact ⟨0, _, Nat.zero_le _, rfl, rfl, Lib.hid rfl, Nat.le_refl _, rfl⟩
  case round =>
    obtain ⟨j, D, hj, rfl, rfl, hD, hDs, hwr⟩ := hrel
    obtain rfl : w = wr := hwr.symm
    have wj1 : IntKind.i64.wrap ((j : Int) + 1) = ((j + 1 : Nat) : Int) := by rw [IntKind.wrap_i64]; omega
    by_cases hlt : j < n
    · have z1 : (j : Int) < (n : Int) := by omega
      obtain ⟨c, hc⟩ : ∃ c, s[j]? = some c := ⟨_, List.getElem?_eq_getElem (by rw [Hn.out]; exact hlt)⟩
      have htk : s.take (j + 1) = s.take j ++ [c] := by rw [List.take_add_one, hc]; rfl
      have hex : S.extract j (j + 1) = ⟨#[c]⟩ := by
        rw [HS.out]
        apply ByteArray.ext
        apply Array.toList_inj.1
        have h2 := (List.getElem?_eq_some_iff.1 hc)
        simp [ByteArray.extract_mk]
        rw [List.drop_eq_getElem_cons h2.1, h2.2]
        rfl
      have hq := quoteB_snoc (s.take j) c
      rw [← htk] at hq
      have hH := vHas1 specB ⟨#[92, 40, 41, 91, 93, 123, 125, 42, 43, 63, 124, 46, 94, 36]⟩ rfl c w
      have hcon : Lib.contains specB [c] = decide (c ∈ specB) := by rw [Bool.eq_iff_iff, contains_one, decide_eq_true_iff]
      rw [hcon] at hH
      have zD : D.size ≤ 1000000000000000 := by omega
      have hlen := quoteB_le (s.take (j + 1))
      by_cases hsp : c ∈ specB
      · rw [if_pos hsp] at hq
        rw [decide_eq_true hsp] at hH
        obtain ⟨D2, d2, e2, s2⟩ := cat2 (B := ⟨#[92, c]⟩) (b := [92, c]) hD.out rfl
        have hd2 : D2 = ⟨(quoteB (s.take (j + 1))).toArray⟩ := by rw [e2, hq]
        have hs2 : D2.size ≤ 2 * (j + 1) := by
          rw [hd2, str_size]
          rw [List.length_take] at hlen
          omega
        have d3 : (⟨#[92]⟩ : ByteArray) ++ ⟨#[c]⟩ = ⟨#[92, c]⟩ := by apply ByteArray.ext; simp
        have HH := Lib.hid hH; have HD2 := Lib.hid hd2; have HS2 := Lib.hid hs2
        clear hH hd2 hs2 e2 s2 hq hlen htk hc hcon hsp hDs
        go_wp2_with (with_reducible refine HH.out.mono ?_; rintro e wy ⟨rfl, hz⟩; obtain rfl : w = wy := hz.symm)
        go_roundw
        case rel => exact ⟨j + 1, D2, by omega, by go_num, rfl, HD2, HS2.out, by first | rfl | trivial⟩
        case measure => simp [intOf]; omega
      · rw [if_neg hsp] at hq
        rw [decide_eq_false hsp] at hH
        obtain ⟨D2, d2, e2, s2⟩ := cat2 (B := ⟨#[c]⟩) (b := [c]) hD.out rfl
        have hd2 : D2 = ⟨(quoteB (s.take (j + 1))).toArray⟩ := by rw [e2, hq]
        have hs2 : D2.size ≤ 2 * (j + 1) := by
          rw [hd2, str_size]
          rw [List.length_take] at hlen
          omega
        have HH := Lib.hid hH; have HD2 := Lib.hid hd2; have HS2 := Lib.hid hs2
        clear hH hd2 hs2 e2 s2 hq hlen htk hc hcon hsp hDs
        go_wp2_with (with_reducible refine HH.out.mono ?_; rintro e wy ⟨rfl, hz⟩; obtain rfl : w = wy := hz.symm)
        go_roundw
        case rel => exact ⟨j + 1, D2, by omega, by go_num, rfl, HD2, HS2.out, by first | rfl | trivial⟩
        case measure => simp [intOf]; omega
    · obtain rfl : j = n := by omega
      have z1 : ¬ (j : Int) < (j : Int) := by omega
      have hfin : D = ⟨(quoteB s).toArray⟩ := by rw [hD.out, List.take_of_length_le (by rw [Hn.out]; exact Nat.le_refl _)]
      have HF := Lib.hid hfin
      clear hfin hD
      go_wp2
      go_ret
      exact ⟨by rw [HF.out]; rfl, rfl⟩
end Go.Proofs.YtkojmgnbmnjmmaaDoor
