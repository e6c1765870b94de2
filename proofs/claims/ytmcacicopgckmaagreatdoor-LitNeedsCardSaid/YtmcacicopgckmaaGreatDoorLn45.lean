import Derived.Test.YtmcacicopgckmaaGreatDoorLn43
import Derived.Test.YtmcacicopgckmaaGreatDoorLn44
import Derived.Sort.OwnSorted
import Derived.Laws.Cover4
import Derived.Test.YtmcacicopgckmaaGreatDoorLn42
import Derived.Test.YtmcacicopgckmaaGreatDoorLn37
/-! rows of texts of the call's own: sorted, each once; a word as a text -/
namespace Garner
open Go
theorem foldl_enc : ∀ (rs : List Nat) (s : ByteArray), ((rs.map fun r : Nat => (r : Int)).foldl (fun r n => r ++ Utf8.encode n) s).data.toList = s.data.toList ++ encT rs
  | [], s => by simp [encT]
  | r :: rs, s => by
    have ih := foldl_enc rs (s ++ Utf8.encode (r : Int))
    rw [List.map_cons, List.foldl_cons, ih]
    have e := enc_list r
    have e2 : encT (r :: rs) = encR r ++ encT rs := by simp [encT, encR]
    rw [e2, ← e]
    simp
theorem runesBytes_eq (rs : List Nat) : runesBytes (rs.map fun r : Nat => (r : Int)) = ⟨(encT rs).toArray⟩ := by
  have h := foldl_enc rs ByteArray.empty
  apply ByteArray.ext
  apply Array.toList_inj.1
  unfold runesBytes
  rw [h]
  simp
end Garner
namespace Go.Proofs.YtmcacicopgckmaaGreatDoor
open Go.RowKit Go.Shelf Garner
theorem run_word {w : World} {B n c : Nat} {A : Option Addr} {rs : List Nat} (h : w.ownsRow B 21 1 (.slice A n c) n (rs.map rv)) : (convert 61 9 (.slice A n c)).run Tryz.prog w = .ok (.string ⟨(encT rs).toArray⟩) w := by
  have hl : rs.length = n := by have := h.1; rw [List.length_map] at this; omega
  rcases Nat.eq_zero_or_pos n with h0 | h0
  · subst h0
    obtain rfl := List.eq_nil_of_length_eq_zero hl
    cases A with
    | none => exact run_convert_runes_nil w _ _ 21 0 c Tryz.underlying61 Tryz.underlying21 Tryz.underlying9
    | some a =>
      have := run_convert_runes (P := Tryz.prog) w 61 9 21 a 0 c [] (Nat.le_refl _) Tryz.underlying61 Tryz.underlying21 Tryz.underlying9 (fun j hj => by cases hj)
      exact this
  · obtain ⟨g, rfl, -, -, -, -, hc⟩ := own_at h h0
    have := run_convert_runes (P := Tryz.prog) w 61 9 21 ⟨g, 0, none⟩ n c (rs.map fun r : Nat => (r : Int)) (by rw [List.length_map]; omega) Tryz.underlying61 Tryz.underlying21 Tryz.underlying9 (fun j hj => by
      have hj' : j < rs.length := by simpa using hj
      rw [addr_add, Nat.zero_add, hc j (by omega), List.getElem?_map, List.getElem?_eq_getElem hj']
      simp [rv, List.getD, hj'])
    rw [this, List.take_of_length_le (by rw [List.length_map]; omega), runesBytes_eq]
theorem vSortS (v : Value) (l : List Bs) (B : Nat) (w : World) (hown : w.ownsRow B 9 1 v l.length (l.map strV)) (hl : l.length < 4611686018427387904) :
    Calls Tryz.prog 33 #[v] w fun e w' => e = .returned (.tuple #[]) ∧ w'.ownsRow B 9 1 v l.length ((sortB l).map strV) ∧ w.grownBy w' v.ownBlock := by
  rcases hown.2 with ⟨rfl, h0⟩ | ⟨g, cap, cur, rfl, hbase, hb, h1, h2, h3, h4⟩
  · have hnil : l = [] := List.eq_nil_of_length_eq_zero h0
    subst hnil
    refine (Tryz.slices_Sort_string_none none 0 w).mono ?_
    rintro e w' ⟨rfl, rfl⟩
    exact ⟨rfl, by simpa [sortB] using hown, World.grownBy.refl _ _⟩
  · have hH := Go.holds_of_block hb (by simpa using h4)
    refine (Tryz.slices_Sort_string g 0 cap l w hH (Array.getElem?_eq_some_iff.1 hb).1 hl).mono ?_
    rintro e w' ⟨rfl, n, os, rfl⟩
    exact ⟨rfl, Go.ownsRow_sorted (sortB_perm l).length_eq hbase hb h1 h2 h3, Go.grownBy_sorted _⟩
set_option maxRecDepth 100000 in
theorem vCompactN (w : World) : Calls Tryz.prog 34 #[.slice none 0 0] w fun e w' => e = .returned (.slice none 0 0) ∧ w' = w := by
  go_enter Tryz.func34, Tryz.ntmps34
  go_wp2
  go_ret
  exact ⟨rfl, rfl⟩
theorem vCompactS (v : Value) (l : List Bs) (B : Nat) (w : World) (hown : w.ownsRow B 9 1 v l.length (l.map strV)) (hl : l.length < 4611686018427387904) :
    Calls Tryz.prog 34 #[v] w fun e w' => ∃ v', e = .returned v' ∧ w'.ownsRow B 9 1 v' (Lib.compact l).length ((Lib.compact l).map strV) ∧ w.grownBy w' v.ownBlock := by
  rcases hown.2 with ⟨rfl, h0⟩ | ⟨g, cap, cur, rfl, hbase, hb, h1, h2, h3, h4⟩
  · have hnil : l = [] := List.eq_nil_of_length_eq_zero h0
    subst hnil
    refine (vCompactN w).mono ?_
    rintro e w' ⟨rfl, rfl⟩
    exact ⟨_, rfl, by simpa [Lib.compact, Lib.compactUpTo] using hown, World.grownBy.refl _ _⟩
  · have hH := Go.holds_of_block hb (by simpa using h4)
    have hle := compact_len l
    refine (Any.slices_Compact_string Tryz.lays194 g 0 cap l w hH (by omega) h1).mono ?_
    rintro e w' ⟨rfl, q, rfl⟩
    obtain ⟨ts, hts⟩ : ∃ ts, Lib.compact l ++ List.replicate (l.length - (Lib.compact l).length) [] = ts := ⟨_, rfl⟩
    have htl : ts.length = l.length := by rw [← hts, List.length_append, List.length_replicate]; omega
    have h5 := Go.ownsRow_sorted (w := w) (n := q) (os := #[]) (ts := ts) htl hbase hb h1 h2 h3
    have h6 := Go.grownBy_sorted (w := w) (g := g) (n := q) (os := #[]) ts.toArray
    rw [Go.Sort.grow_empty] at h5 h6
    have h7 := own_cutA h5 hle
    have e7 : (ts.map strV).take (Lib.compact l).length = (Lib.compact l).map strV := by
      rw [← hts, List.map_append, List.take_left' (by rw [List.length_map])]
    refine ⟨_, rfl, ?_, ?_⟩
    · rw [hts, ← e7]
      exact h7
    · rw [hts]; exact h6
end Go.Proofs.YtmcacicopgckmaaGreatDoor

/-! lit: Needs -/
namespace Garner
open Go
theorem addL_len (run : Bs) : (addL run).length ≤ 1 := by unfold addL; split <;> simp
mutual
theorem litRow_len : ∀ (l : List Re) (run : Bs), (litRow l run).length ≤ 2 * cnts l + 1
  | [], run => by rw [litRow]; have := addL_len run; omega
  | t :: ts, run => by
    rw [litRow, cnts]
    have hc := cnt_pos t
    split
    · rename_i r _
      have := litRow_len ts (run ++ encR r)
      omega
    · have h1 := litRow_len ts []
      have h2 := litSub_len t
      have h3 := addL_len run
      rw [List.length_append, List.length_append]; omega
theorem litSub_len : ∀ t : Re, (litSub t).length + 1 ≤ 2 * t.cnt
  | .emp => by simp [litSub, Re.cnt]
  | .set _ => by simp [litSub, Re.cnt]
  | .seq l => by rw [litSub, Re.cnt]; have := litRow_len l []; omega
  | .alt l => by rw [litSub, Re.cnt, List.length_nil]; omega
  | .rep k mn mx => by
    rw [litSub, Re.cnt]
    have h1 := litSub_len k
    split
    · split
      · rename_i r _
        have := addL_len (encR r); omega
      · omega
    · simp; omega
  | .bgn => by simp [litSub, Re.cnt]
  | .fin => by simp [litSub, Re.cnt]
end
end Garner
namespace Go.Proofs.YtmcacicopgckmaaGreatDoor
open Go.RowKit Garner
/-- what Needs and Words answer -/
def StrsP (o : Except Nat (List Bs)) (B : Nat) (e : Ending) (w' : World) : Prop := match o with
  | .error k => e = .returned (.tuple #[.slice none 0 0, .int .i64 (k : Nat)])
  | .ok out => ∃ v, e = .returned (.tuple #[v, .int .i64 0]) ∧ w'.ownsRow B 9 1 v out.length (out.map strV)
def needsE (l : Bs) : Except Nat (List Bs) := match rexpP l with | .error k => .error k | .ok t => .ok (needsP t)
set_option maxRecDepth 100000 in
set_option maxHeartbeats 16000000 in
theorem vNeeds (l : Bs) (w : World) (hL : Lt w) (hl : l.length ≤ 9223372036854775807) :
    Calls Tryz.prog 9 #[str l] w fun e w' => Below w.heap.size w w' ∧ StrsP (needsE l) w.heap.size e w' := by
  have hp := vParse l w hL hl
  have hg := fun t => @rexp_good l t
  have he := fun k => @err_pos l k
  unfold needsE
  obtain ⟨OUT, hOUT⟩ : ∃ OUT, rexpP l = OUT := ⟨_, rfl⟩
  rw [hOUT] at hp ⊢
  have HP := Lib.hid hp
  cases OUT with
  | error k =>
    have hk := he k hOUT
    have z1 : ¬ (k : Int) = 0 := by omega
    clear hp hg he hOUT hk
    go_enter Tryz.func9, Tryz.ntmps9
    go_wp2_with fail
    refine HP.out.mono ?_
    rintro e w1 ⟨hb, ho⟩
    obtain rfl : e = _ := ho
    go_wp2
    go_ret2
    exact ⟨hb, rfl⟩
  | ok t =>
    have hgt := hg t hOUT
    have hcn := hgt.cnt
    have HG := Lib.hid hgt
    clear hp hg he hOUT hgt
    go_enter Tryz.func9, Tryz.ntmps9
    go_wp2_with fail
    refine HP.out.mono ?_
    rintro e w1 ⟨hb, v, rfl, hn⟩
    obtain ⟨N, hN⟩ : ∃ N, (t.flat 0).length = N := ⟨_, rfl⟩
    have hNc : N = t.cnt := by rw [← hN, flat_len]
    obtain ⟨A, c, hv⟩ : ∃ A c, v = .slice A N c := by
      obtain ⟨ds, -, ho, -⟩ := hn
      obtain ⟨A, c, e, -⟩ := own_form ho
      exact ⟨A, c, by rw [← hN]; exact e⟩
    subst hv
    rw [← hN] at hn
    have hp1 := cnt_pos t
    obtain ⟨Y, hY⟩ : ∃ Y, Y = w1.alloc (.cells #[.slice A N c, .slice none 0 0] 51) := ⟨_, rfl⟩
    have hbY : Below w1.heap.size w1 Y := by rw [hY]; exact (Below.refl _ _).alloc (Nat.le_refl _) _
    have bY : Blk Y w1.heap.size 51 [.slice A N c, .slice none 0 0] := by rw [hY]; exact Blk.new w1 _ _
    have fY : FindIs w1.heap.size (.slice A (t.flat 0).length c) Y w1.heap.size [] := by
      refine ⟨none, 0, ?_, World.ownsRow_nil _ _ _ _⟩
      rw [hN]; exact bY
    have y1 : Y.cell? ⟨w1.heap.size, 1, none⟩ = some (.slice none 0 0) := bY.cell 1
    have hrow := rowAll hn (cnts [t]) [t] (Nat.le_refl _) (by simp [cnts]; omega)
    have wN : IntKind.i64.wrap ((N : Int) - 1) = ((N - 1 : Nat) : Int) := by rw [IntKind.wrap_i64]; omega
    obtain ⟨X, hX⟩ : ∃ X, X = Y.alloc (.cells #[.int .i64 (N - 1 : Nat)] 3) := ⟨_, rfl⟩
    have hbX : Below Y.heap.size Y X := by rw [hX]; exact (Below.refl _ _).alloc (Nat.le_refl _) _
    have rX : RowT X 3 (some ⟨Y.heap.size, 0, none⟩) 1 [iv (N - 1)] := by rw [hX]; exact RowT.new Y 3 [iv (N - 1)]
    have hsY := hbY.size
    have hwX : Below w1.heap.size w1 X := hbY.trans (hbX.mono hsY)
    have hll := litRow_len [t] []
    have hc := hrow 0 X w1.heap.size [] (some ⟨Y.heap.size, 0, none⟩) 1 (by intro k n hk; rw [Nat.zero_add]; simpa [flats] using hk) (Nat.le_refl _) (fY.below hbX) hwX (by simpa [roots, hNc] using rX) (by simp [cnts] at hll ⊢; omega)
    have hsz : (litT t).length ≤ 100000000000 := by simp [cnts] at hll; unfold litT; omega
    rw [List.nil_append, hN, show [t].length = 1 from rfl] at hc
    have HC := Lib.hid hc; have HB := Lib.hid hb; have HN := Lib.hid hNc; have HwX := Lib.hid hwX; have HSz := Lib.hid hsz
    clear hc hb hNc hwX hsz hrow hn hll rX bY hbX fY hN hp1 hcn
    go_upto_region 5 with fail
    rw [← hY]
    have hsB := HB.out.size
    clear hY
    go_wp2_with fail
    rw [← hX]
    with_reducible refine HC.out.mono ?_
    rintro e w3 ⟨rfl, ⟨O, m, bF, oF⟩, q3⟩
    obtain ⟨n3, hn3⟩ : ∃ n3, (litT t).length = n3 := ⟨_, rfl⟩
    have eT : litRow [t] [] = litT t := rfl
    rw [eT] at bF oF
    have hso := vSortS _ (litT t) _ w3 oF (by have := HSz.out; omega)
    rw [hn3] at bF oF
    rw [hn3] at hso
    have c3 : w3.cell? ⟨w1.heap.size, 1, none⟩ = some (.slice O n3 m) := bF.cell 1
    have hb3 : Below w1.heap.size w1 w3 := HwX.out.trans q3.low
    have HSo := Lib.hid hso; have BF := Lib.hid bF; have OF := Lib.hid oF; have HB3 := Lib.hid hb3; have Hn3 := Lib.hid hn3
    clear hso bF oF hb3 q3 hn3 hX HC
    go_wp2_with fail
    refine HSo.out.mono ?_
    rintro e w4 ⟨rfl, o4, g4⟩
    have hty := own_typed OF.out
    have b4 : Blk w4 w1.heap.size 51 [.slice A N c, .slice O n3 m] := BF.out.grown g4 (fun e => by
      obtain ⟨cs', t', z, h1, h2⟩ := hty _ e.symm
      have h3 := BF.out
      unfold Blk at h3
      rw [h3] at h1
      cases h1
      cases h2)
    have c4 : w4.cell? ⟨w1.heap.size, 1, none⟩ = some (.slice O n3 m) := b4.cell 1
    have hb4 : Below w1.heap.size w1 w4 := HB3.out.trans ((Below.refl _ _).grown g4 HB3.out.size fun k hk => (OF.out.lt k (by exact hk)).1)
    have hsl : (sortB (litT t)).length = n3 := by rw [(sortB_perm _).length_eq, Hn3.out]
    have o4' : w4.ownsRow w1.heap.size 9 1 (.slice O n3 m) (sortB (litT t)).length ((sortB (litT t)).map strV) := by rw [hsl]; exact o4
    have hco := vCompactS _ (sortB (litT t)) w1.heap.size w4 o4' (by have := HSz.out; rw [hsl, ← Hn3.out]; omega)
    have HCo := Lib.hid hco; have HB4 := Lib.hid hb4; have O4 := Lib.hid o4'
    clear hco hb4 o4 o4' g4 hsl b4 hty c3
    go_wp2_with fail
    refine HCo.out.mono ?_
    rintro e w5 ⟨v5, rfl, o5, g5⟩
    have hb5 : Below w1.heap.size w1 w5 := HB4.out.trans ((Below.refl _ _).grown g5 HB4.out.size fun k hk => (O4.out.lt k (by exact hk)).1)
    have ei : Lib.compact (sortB (litT t)) = needsP t := rfl
    rw [ei] at o5
    have O5 := Lib.hid (own_mono o5 hsB); have HB5 := Lib.hid (HB.out.trans (hb5.mono hsB))
    clear o5 hb5 g5 ei
    go_wp2
    go_ret2
    exact ⟨HB5.out, _, rfl, O5.out⟩
end Go.Proofs.YtmcacicopgckmaaGreatDoor

