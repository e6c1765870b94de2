import Derived.Test.YtecejnilajbdpaaGreatDoorTu30
import Derived.Test.YtecejnilajbdpaaGreatDoorTu19
import Derived.Test.YtecejnilajbdpaaGreatDoorTu21
import Derived.Test.YtecejnilajbdpaaGreatDoorTu22
import Derived.Test.YtecejnilajbdpaaGreatDoorTu23
import Derived.Test.YtecejnilajbdpaaGreatDoorTu25
/-! autom: node, for every tree -/
namespace Go.Proofs.YtecejnilajbdpaaGreatDoor
open Go.RowKit Garner
theorem cnt_mem : ∀ {l : List Re} {u : Re}, u ∈ l → u.cnt ≤ cnts l
  | t :: l, u, h => by
    rcases List.mem_cons.1 h with rfl | h
    · simp only [cnts]; omega
    · have := cnt_mem h; simp only [cnts]; omega
theorem oks_mem : ∀ {l : List Re} {u : Re}, oks l → u ∈ l → u.ok
  | t :: l, u, h, hu => by
    rcases List.mem_cons.1 hu with rfl | hu
    · exact h.1
    · exact oks_mem h.2 hu
theorem lims_mem : ∀ {l : List Re} {u : Re}, lims l → u ∈ l → u.lim
  | t :: l, u, h, hu => by
    rcases List.mem_cons.1 hu with rfl | hu
    · exact h.1
    · exact lims_mem h.2 hu
theorem codeAll {F : Nat → Prop} {W0 : World} {B0 : Nat} {A : Option Addr} {c : Nat} {ns : List NodeP} (hN : NodesIs F W0 B0 (.slice A ns.length c) ns) : ∀ (n : Nat) (t : Re), t.cnt ≤ n → t.cnt ≤ 10000 → t.ok → t.lim → CodeC W0 A c ns t
  | 0, t, h, _, _, _ => by cases t <;> simp [Re.cnt] at h
  | n + 1, .emp, _, _, _, _ => nodeEmp hN
  | n + 1, .set l, _, _, _, _ => nodeSet hN l
  | n + 1, .bgn, _, _, _, _ => nodeEdge hN .bgn (.inl rfl)
  | n + 1, .fin, _, _, _, _ => nodeEdge hN .fin (.inr rfl)
  | n + 1, .seq l, h, hc, ho, hm => by
    have e : (Re.seq l).cnt = cnts l + 1 := rfl
    have hl := len_cnts l
    exact nodeSeq hN l (by omega) fun u hu => codeAll hN n u (by have := cnt_mem hu; omega) (by have := cnt_mem hu; omega) (oks_mem ho hu) (lims_mem hm hu)
  | n + 1, .alt l, h, hc, ho, hm => by
    have e : (Re.alt l).cnt = cnts l + 1 := rfl
    have hl := len_cnts l
    exact nodeAlt hN l ho.1 (by omega) fun u hu => codeAll hN n u (by have := cnt_mem hu; omega) (by have := cnt_mem hu; omega) (oks_mem ho.2 hu) (lims_mem hm hu)
  | n + 1, .rep k mn none, h, hc, ho, hm => by
    have e : (Re.rep k mn none).cnt = k.cnt + 1 := rfl
    exact nodeRepN hN k mn hm.2.1 (codeAll hN n k (by omega) (by omega) ho.1 hm.1)
  | n + 1, .rep k mn (some mx), h, hc, ho, hm => by
    have e : (Re.rep k mn (some mx)).cnt = k.cnt + 1 := rfl
    exact nodeRepM hN k mn mx hm.2.1 (hm.2.2 mx rfl) (ho.2 mx rfl) (codeAll hN n k (by omega) (by omega) ho.1 hm.1)
end Go.Proofs.YtecejnilajbdpaaGreatDoor

/-! autom: Compile -/
namespace Go.Proofs.YtecejnilajbdpaaGreatDoor
open Go.RowKit Garner
set_option maxRecDepth 100000 in
set_option maxHeartbeats 16000000 in
theorem vCompile {F : Nat → Prop} {B0 : Nat} (w : World) (A : Option Addr) (c N : Nat) (t : Re) (hNl : (t.flat 0).length = N) (hN : NodesIs F w B0 (.slice A N c) (t.flat 0)) (hc : t.cnt ≤ 10000) (ho : t.ok) (hm : t.lim) (hl : t.len ≤ 80000) :
    Calls Tryz.prog 66 #[.slice A N c] w fun e w' => ∃ g, e = .returned (.pointer (some ⟨g, 0, none⟩)) ∧ w.heap.size ≤ g ∧ ProgIs w w.heap.size (.slice A N c) w' g (t.code 0 ++ [⟨4, 0, 0, []⟩]) ∧ Below w.heap.size w w' := by
  have hcnt : N = t.cnt := by rw [← hNl, flat_len]
  have hpos : 0 < t.cnt := by cases t <;> simp [Re.cnt]
  subst hNl
  have hall := codeAll hN t.cnt t (Nat.le_refl _) hc ho hm
  obtain ⟨X, hX⟩ : ∃ X, X = w.alloc (.cells #[.slice A (t.flat 0).length c, .slice none 0 0] 157) := ⟨_, rfl⟩
  have hbX : Below w.heap.size w X := by rw [hX]; exact (Below.refl _ _).alloc (Nat.le_refl _) _
  have bX : Blk X w.heap.size 157 [.slice A (t.flat 0).length c, .slice none 0 0] := by rw [hX]; exact Blk.new w _ _
  have pX : ProgIs w w.heap.size (.slice A (t.flat 0).length c) X w.heap.size [] := ⟨⟨none, 0, bX, [], rfl, World.ownsRow_nil _ _ _ _, fun d hd => (by cases hd)⟩, by simp⟩
  have hcl := hall 0 X w.heap.size [] (fun k n hk => by rw [Nat.zero_add]; exact hk) (Nat.le_refl _) pX hbX (by simp; omega)
  obtain ⟨N, hNN⟩ : ∃ N, (t.flat 0).length = N := ⟨_, rfl⟩
  rw [hNN] at hcl hX hcnt ⊢
  rw [Nat.zero_add, ← hcnt, List.nil_append] at hcl
  have wN : IntKind.i64.wrap ((N : Int) - 1) = ((N - 1 : Nat) : Int) := by rw [IntKind.wrap_i64]; omega
  have hlc := code_len t 0
  have HC := Lib.hid hcl; have HB := Lib.hid hbX; have Hlc := Lib.hid hlc; have Hl := Lib.hid hl
  clear hcl hbX hlc hall hN bX pX hNN hcnt hpos hc hl
  go_enter Tryz.func66, Tryz.ntmps66
  go_wp2_with fail
  rw [← hX]
  refine HC.out.mono ?_
  rintro e w2 ⟨rfl, p2, q2⟩
  have hW2 := QK.from HB.out q2
  have he := vEmit ⟨⟨4, 0, 0, []⟩, none, 0⟩ w2 w.heap.size _ p2 hW2.size (Nat.le_refl _) (by exact RowT.nil) (by have h1 := Hlc.out; have h2 := Hl.out; simp only [List.length_nil]; omega)
  have He := Lib.hid he; have HW2 := Lib.hid hW2
  clear he p2 q2 hW2 hX
  go_wp2_with fail
  refine He.out.mono ?_
  rintro e w3 ⟨rfl, p3, q3⟩
  have P3 := Lib.hid p3; have Q3 := Lib.hid q3
  clear p3 q3
  go_wp2
  go_ret
  exact ⟨w.heap.size, rfl, Nat.le_refl _, P3.out, QK.from HW2.out Q3.out⟩
end Go.Proofs.YtecejnilajbdpaaGreatDoor

/-! autom: has -/
namespace Go.Proofs.YtecejnilajbdpaaGreatDoor
open Go.RowKit Garner
set_option maxRecDepth 100000 in
set_option maxHeartbeats 8000000 in
theorem vHasI (l : List Nat) (k n : Nat) (hl : l.length = n) (h2 : n = 2 * k) (hn : n ≤ 100000) (A : Option Addr) (c x : Nat) (w : World) (hr : RowT w 21 A n (l.map rv)) :
    Calls Tryz.prog 96 #[.slice A n c, .int .i32 x] w fun e w' => e = .returned (.bool (hasR l x)) ∧ w' = w := by
  obtain ⟨ANS, hA⟩ : ∃ ANS, hasR l x = ANS := ⟨_, rfl⟩
  rw [hA]
  have HA := Lib.hid hA; have Hl := Lib.hid hl; have Hr := Lib.hid hr; have H2 := Lib.hid h2
  clear hA hl hr h2
  go_enter Tryz.func96, Tryz.ntmps96
  go_wp2
  go_loopw [5] (fun i wr => ∃ j : Nat, j ≤ k ∧ i = .int .i64 (2 * j : Nat) ∧ Hid (hasR (l.drop (2 * j)) x = ANS) ∧ wr = w) (fun i _ => 2 * k - (intOf i).toNat)
  case atStart => exact ⟨0, Nat.zero_le _, rfl, Lib.hid (by simpa using HA.out), rfl⟩
  case round =>
    obtain ⟨j, hj, rfl, hans, rfl⟩ := hrel
    obtain ⟨J, hJ⟩ : ∃ J, 2 * j = J := ⟨_, rfl⟩
    have h2k := H2.out
    rw [hJ] at hans ⊢
    have wj2 : IntKind.i64.wrap ((J : Int) + 2) = ((J + 2 : Nat) : Int) := by rw [IntKind.wrap_i64]; omega
    have wj1 : IntKind.i64.wrap ((J : Int) + 1) = ((J + 1 : Nat) : Int) := by rw [IntKind.wrap_i64]; omega
    by_cases hlt : j < k
    · have z1 : (J : Int) < (n : Int) := by omega
      have z2 : ((J + 1 : Nat) : Int) < (n : Int) := by omega
      obtain ⟨a, ha⟩ : ∃ a, l[J]? = some a := ⟨_, List.getElem?_eq_getElem (by rw [Hl.out]; omega)⟩
      obtain ⟨b, hb⟩ : ∃ b, l[J + 1]? = some b := ⟨_, List.getElem?_eq_getElem (by rw [Hl.out]; omega)⟩
      obtain ⟨bk, ok, rfl, ca⟩ := Hr.out.at_ (k := J) (u := rv a) (by rw [List.getElem?_map, ha]; rfl)
      obtain ⟨bk', ok', e, cb⟩ := Hr.out.at_ (k := J + 1) (u := rv b) (by rw [List.getElem?_map, hb]; rfl)
      cases e
      have ca1 : wr.cell? ⟨bk, ok + J, none⟩ = some (.int .i32 (a : Nat)) := ca
      have cb1 : wr.cell? ⟨bk, ok + (J + 1), none⟩ = some (.int .i32 (b : Nat)) := cb
      have hd : l.drop J = a :: b :: l.drop (J + 2) := by
        obtain ⟨h1, e1⟩ := List.getElem?_eq_some_iff.1 ha
        obtain ⟨h3, e3⟩ := List.getElem?_eq_some_iff.1 hb
        rw [List.drop_eq_getElem_cons h1, List.drop_eq_getElem_cons h3, e1, e3]
      have hx := hans.out
      rw [hd, hasR] at hx
      have Hx := Lib.hid hx
      clear ca cb hd ha hb hx hans
      by_cases h1 : a ≤ x
      · by_cases h3 : x ≤ b
        · have q1 : (a : Int) ≤ (x : Int) := by omega
          have q2 : (x : Int) ≤ (b : Int) := by omega
          have e : ANS = true := by rw [← Hx.out]; simp [h1, h3]
          subst e
          go_wp2_with fail
          go_ret
          exact ⟨rfl, rfl⟩
        · have q1 : (a : Int) ≤ (x : Int) := by omega
          have q2 : ¬ (x : Int) ≤ (b : Int) := by omega
          have e : Hid (hasR (l.drop (J + 2)) x = ANS) := Lib.hid (by rw [← Hx.out]; simp [h3])
          go_wp2_with fail
          go_roundw
          case rel => exact ⟨j + 1, by omega, by rw [show 2 * (j + 1) = J + 2 by omega]; rfl, by rw [show 2 * (j + 1) = J + 2 by omega]; exact e, by first | rfl | trivial⟩
          case measure => simp [intOf]; omega
      · have q1 : ¬ (a : Int) ≤ (x : Int) := by omega
        have e : Hid (hasR (l.drop (J + 2)) x = ANS) := Lib.hid (by rw [← Hx.out]; simp [h1])
        go_wp2_with fail
        go_roundw
        case rel => exact ⟨j + 1, by omega, by rw [show 2 * (j + 1) = J + 2 by omega]; rfl, by rw [show 2 * (j + 1) = J + 2 by omega]; exact e, by first | rfl | trivial⟩
        case measure => simp [intOf]; omega
    · have z1 : ¬ (J : Int) < (n : Int) := by omega
      have e : ANS = false := by
        rw [← hans.out, List.drop_eq_nil_of_le (by rw [Hl.out]; omega)]; rfl
      subst e
      go_wp2_with fail
      go_ret
      exact ⟨rfl, rfl⟩
end Go.Proofs.YtecejnilajbdpaaGreatDoor

/-! text.Has of one sign, at every length -/
namespace Go.Proofs.YtecejnilajbdpaaGreatDoor
open Go.RowKit Go.Shelf Garner
theorem sIndexByte (s : ByteArray) (c : Int) (w : World) : Calls Tryz.prog 151 #[.string s, .int .u8 c] w fun e w' => e = .returned (.int .i64 (Lib.indexByte s.data.toList c.toNat.toUInt8)) ∧ w' = w :=
  Any.stringslite_IndexByte { Tryz.lays137 with } s c w
set_option maxRecDepth 100000 in
set_option maxHeartbeats 4000000 in
theorem sIndex1 (l : Bs) (c : UInt8) (w : World) :
    Calls Tryz.prog 133 #[str l, .string ⟨#[c]⟩] w fun e w' => e = .returned (.int .i64 (Lib.indexByte l c)) ∧ w' = w := by
  have hi := sIndexByte ⟨l.toArray⟩ (c.toNat : Int) w
  have e1 : ((c.toNat : Int).toNat.toUInt8) = c := by simp
  rw [e1, str_list] at hi
  clear e1
  go_enter Tryz.func133, Tryz.ntmps133
  go_wp2_with (refine hi.mono ?_; rintro e wy ⟨rfl, hz⟩; obtain rfl : w = wy := hz.symm)
  · rename_i h
    have h : [c] = l := by simpa using h
    go_ret
    refine ⟨?_, rfl⟩
    rw [← h]
    show _ = Ending.returned (.int .i64 (Lib.indexByte [c] c))
    simp [Lib.indexByte]
  · go_ret
    exact ⟨rfl, rfl⟩
set_option maxRecDepth 100000 in
theorem sIndexS1 (S : ByteArray) (c : UInt8) (w : World) :
    Calls Tryz.prog 99 #[.string S, .string ⟨#[c]⟩] w fun e w' => e = .returned (.int .i64 (Lib.indexByte S.data.toList c)) ∧ w' = w := by
  have hi := sIndex1 S.data.toList c w
  have eS : str S.data.toList = .string S := by cases S; simp [str]
  rw [eS] at hi
  clear eS
  go_enter Tryz.func99, Tryz.ntmps99
  go_wp2_with (with_reducible refine hi.mono ?_; rintro e wy ⟨rfl, hz⟩; obtain rfl : w = wy := hz.symm)
  go_ret
  exact ⟨rfl, rfl⟩
theorem contains_byte {l : Bs} {c : UInt8} : Lib.contains l [c] = decide (0 ≤ Lib.indexByte l c) := by
  rw [← Lib.contains_iff_indexByte, Bool.eq_iff_iff, contains_one, List.contains_iff_mem]
set_option maxRecDepth 100000 in
theorem sContains1 (S : ByteArray) (c : UInt8) (w : World) :
    Calls Tryz.prog 70 #[.string S, .string ⟨#[c]⟩] w fun e w' => e = .returned (.bool (Lib.contains S.data.toList [c])) ∧ w' = w := by
  have hi := sIndexS1 S c w
  rw [contains_byte]
  go_enter Tryz.func70, Tryz.ntmps70
  go_wp2_with (with_reducible refine hi.mono ?_; rintro e wy ⟨rfl, hz⟩; obtain rfl : w = wy := hz.symm)
  go_ret
  exact ⟨rfl, rfl⟩
end Go.Proofs.YtecejnilajbdpaaGreatDoor

/-! garnerref18: what the readers of trees answer -/
namespace Go.Proofs.YtecejnilajbdpaaGreatDoor
open Go.RowKit Garner
section
variable {F : Nat → Prop}
theorem QS.setDeep {w : World} {g N : Nat} {rs : List Nat} {ns : List NodeP} {deep most : Nat} (h : QS F w g N rs ns deep most) (d : Nat) (hd : d ≤ most) : QS F (w.setCell ⟨g, 3, none⟩ (.int .i64 (d : Nat))) g N rs ns d most ∧ QP g w (w.setCell ⟨g, 3, none⟩ (.int .i64 (d : Nat))) := by
  obtain ⟨A, c, O, m, rs0, p, hb, hr, h3, hn, h5⟩ := h.ex
  have hk : KeepT [132] w (w.setCell ⟨g, 3, none⟩ (.int .i64 (d : Nat))) := (KeepT.refl _ w).setCell (p := ⟨g, 3, none⟩) hb (by simp) _
  exact ⟨⟨⟨A, c, O, m, rs0, p, hb.set_ 3 _, hr.keep hk (by decide), h3, hn.keep hk (by decide) (by decide) (by decide), h5⟩, fun k hk => (by have := h.hF k hk; simpa [World.setCell] using this), hd, h.mb, h.nb, h.lb⟩, ⟨(KeepT.refl _ w).setCell (p := ⟨g, 3, none⟩) hb (by simp) _, (Below.refl _ _).setCell (p := ⟨g, 3, none⟩) (Nat.le_refl _) _⟩⟩
theorem QX.setDeep {w : World} {g n : Nat} (h : QX w g n) : ∃ de : Int, w.cell? ⟨g, 3, none⟩ = some (.int .i64 de) ∧ w.frozen? ⟨g, 3, none⟩ = false ∧ ∀ x : Int, QX (w.setCell ⟨g, 3, none⟩ (.int .i64 x)) g n ∧ QP g w (w.setCell ⟨g, 3, none⟩ (.int .i64 x)) := by
  obtain ⟨s, a, de, mo, O, m, xs, h1, h2, h3⟩ := h
  refine ⟨de, h1.cell 3, h1.frozen 3, fun x => ?_⟩
  have hk : KeepT [132] w (w.setCell ⟨g, 3, none⟩ (.int .i64 x)) := (KeepT.refl _ w).setCell (p := ⟨g, 3, none⟩) h1 (by simp) _
  exact ⟨⟨s, a, x, mo, O, m, xs, h1.set_ 3 _, hk.own h2 (by decide), h3⟩, ⟨(KeepT.refl _ w).setCell (p := ⟨g, 3, none⟩) h1 (by simp) _, (Below.refl _ _).setCell (p := ⟨g, 3, none⟩) (Nat.le_refl _) _⟩⟩
theorem QS.cells {w : World} {g N : Nat} {rs : List Nat} {ns : List NodeP} {deep most : Nat} (h : QS F w g N rs ns deep most) : w.cell? ⟨g, 3, none⟩ = some (.int .i64 (deep : Nat)) ∧ w.cell? ⟨g, 4, none⟩ = some (.int .i64 (most : Nat)) ∧ w.frozen? ⟨g, 3, none⟩ = false ∧ w.frozen? ⟨g, 4, none⟩ = false := by
  obtain ⟨A, c, O, m, rs0, p, hb, -⟩ := h.ex
  exact ⟨hb.cell 3, hb.cell 4, hb.frozen 3, hb.frozen 4⟩
theorem QS.drew {w : World} {g N : Nat} {rs : List Nat} {ns : List NodeP} {deep most : Nat} (h : QS F w g N rs ns deep most) : QS F w.drew g N rs ns deep most := h.below (Below.refl _ _).drew
end
end Go.Proofs.YtecejnilajbdpaaGreatDoor

/-! garnerref18: atom -/
namespace Go.Proofs.YtecejnilajbdpaaGreatDoor
open Go.RowKit Garner
end Go.Proofs.YtecejnilajbdpaaGreatDoor

/-! garnerref18: is and digit beside blocks that are one's own -/
namespace Go.Proofs.YtecejnilajbdpaaGreatDoor
open Go.RowKit Garner
theorem below_set {B : Nat} {U W : World} (h : Below B U W) (p : Addr) (u : Value) : Below B (U.setCell p u) (W.setCell p u) :=
  ⟨h.os, h.tape, h.output, by simpa [World.setCell] using h.size, fun k hk => by simp [World.setCell, Array.getElem?_modify, h.block k hk]⟩
theorem size_set (U : World) (p : Addr) (u : Value) : (U.setCell p u).heap.size = U.heap.size := by simp [World.setCell]
/-- the parser's state in a world, told by an older one: what is new since then is not the parser's -/
structure QU (F : Nat → Prop) (U W : World) (g N : Nat) (rs : List Nat) (ns : List NodeP) (deep most : Nat) : Prop where
  qs : QS F U g N rs ns deep most
  low : Below U.heap.size U W
structure QUX (U W : World) (g n : Nat) : Prop where
  qx : QX U g n
  low : Below U.heap.size U W
section
variable {F : Nat → Prop} {U W : World} {g N : Nat} {rs : List Nat} {ns : List NodeP} {deep most : Nat}
theorem QU.at_ (h : QU F U W g N rs ns deep most) : QS F W g N rs ns deep most := h.qs.below h.low
theorem QUX.at_ {n : Nat} (h : QUX U W g n) : QX W g n := h.qx.below h.low
theorem QU.below {W' : World} (h : QU F U W g N rs ns deep most) (hb : Below U.heap.size W W') : QU F U W' g N rs ns deep most := ⟨h.qs, h.low.trans hb⟩
theorem QUX.below {W' : World} {n : Nat} (h : QUX U W g n) (hb : Below U.heap.size W W') : QUX U W' g n := ⟨h.qx, h.low.trans hb⟩
theorem QU.bad (h : QU F U W g N rs ns deep most) : ∃ U', U'.heap.size = U.heap.size ∧ QUX U' (W.setCell ⟨g, 5, none⟩ (.bool true)) g ns.length ∧ QP g U U' := by
  obtain ⟨h1, h2⟩ := h.qs.bad
  refine ⟨U.setCell ⟨g, 5, none⟩ (.bool true), size_set _ _ _, ⟨h1, ?_⟩, h2⟩
  rw [size_set]
  exact below_set h.low _ _
theorem QUX.bad {n : Nat} (h : QUX U W g n) : ∃ U', U'.heap.size = U.heap.size ∧ QUX U' (W.setCell ⟨g, 5, none⟩ (.bool true)) g n ∧ QP g U U' := by
  obtain ⟨h1, h2⟩ := h.qx.bad
  refine ⟨U.setCell ⟨g, 5, none⟩ (.bool true), size_set _ _ _, ⟨h1, ?_⟩, h2⟩
  rw [size_set]
  exact below_set h.low _ _
theorem QU.step {a : Nat} {r : List Nat} (h : QU F U W g N (a :: r) ns deep most) : ∃ p : Nat, W.cell? ⟨g, 1, none⟩ = some (.int .i64 (p : Nat)) ∧ W.frozen? ⟨g, 1, none⟩ = false ∧ p ≤ 200 ∧ But [g] W (W.setCell ⟨g, 1, none⟩ (.int .i64 ((p : Int) + 1))) ∧ ∃ U', U'.heap.size = U.heap.size ∧ QU F U' (W.setCell ⟨g, 1, none⟩ (.int .i64 ((p : Int) + 1))) g N r ns deep most ∧ QP g U U' := by
  obtain ⟨p, h1, h2, h3, h4, h5⟩ := h.qs.step
  obtain ⟨p', h1', h2', -⟩ := h.at_.step
  obtain rfl : p' = p := by
    have := h.low.cell (p := ⟨g, 1, none⟩) h.qs.lt
    rw [h1', h1] at this
    injection this with e; injection e with _ e; omega
  refine ⟨p', h1', h2', h3, (But.refl [g] W).setCell (p := ⟨g, 1, none⟩) (by simp) _, U.setCell ⟨g, 1, none⟩ (.int .i64 ((p' : Int) + 1)), size_set _ _ _, ⟨h4, ?_⟩, h5⟩
  rw [size_set]
  exact below_set h.low _ _
end
end Go.Proofs.YtecejnilajbdpaaGreatDoor

/-! garnerref18: item -/
namespace Go.Proofs.YtecejnilajbdpaaGreatDoor
open Go.RowKit Garner
/-- an item's node while it is made: its block and its kid's -/
structure ItI (w U W : World) (g kb nb kv : Nat) (mn mx : Int) : Prop where
  qp : QP g w U
  gl : g < U.heap.size
  k1 : U.heap.size ≤ kb
  k2 : kb < nb
  k3 : nb < W.heap.size
  kid : Blk W kb 3 [iv kv]
  blk : Blk W nb 182 [.int .i64 5, .slice (some ⟨kb, 0, none⟩) 1 1, .int .i64 mn, .int .i64 mx, .slice none 0 0]
section
variable {F : Nat → Prop} {w U U' W W' : World} {g N kb nb kv : Nat} {mn mx : Int}
theorem ItI.next (h : ItI w U W g kb nb kv mn mx) (hb : But [g] W W') (hs : U'.heap.size = U.heap.size) (hq : QP g U U') : ItI w U' W' g kb nb kv mn mx := by
  have := h.k1
  have := h.k2
  have := h.gl
  exact ⟨h.qp.trans hq, by rw [hs]; exact h.gl, by rw [hs]; exact h.k1, h.k2, Nat.lt_of_lt_of_le h.k3 hb.size, h.kid.but hb (by simp; omega), h.blk.but hb (by simp; omega)⟩
theorem ItI.min (h : ItI w U W g kb nb kv mn mx) (x : Int) : ItI w U (W.setCell ⟨nb, 2, none⟩ (.int .i64 x)) g kb nb kv x mx ∧ Below U.heap.size W (W.setCell ⟨nb, 2, none⟩ (.int .i64 x)) ∧ W.frozen? ⟨nb, 2, none⟩ = false := by
  have := h.k1
  have := h.k2
  exact ⟨⟨h.qp, h.gl, h.k1, h.k2, by rw [size_set]; exact h.k3, h.kid.far (by simp; omega) _, h.blk.set_ 2 _⟩, (Below.refl _ _).setCell (p := ⟨nb, 2, none⟩) (by simp; omega) _, h.blk.frozen 2⟩
theorem ItI.max (h : ItI w U W g kb nb kv mn mx) (x : Int) : ItI w U (W.setCell ⟨nb, 3, none⟩ (.int .i64 x)) g kb nb kv mn x ∧ Below U.heap.size W (W.setCell ⟨nb, 3, none⟩ (.int .i64 x)) ∧ W.frozen? ⟨nb, 3, none⟩ = false := by
  have := h.k1
  have := h.k2
  exact ⟨⟨h.qp, h.gl, h.k1, h.k2, by rw [size_set]; exact h.k3, h.kid.far (by simp; omega) _, h.blk.set_ 3 _⟩, (Below.refl _ _).setCell (p := ⟨nb, 3, none⟩) (by simp; omega) _, h.blk.frozen 3⟩
theorem ItI.cells (h : ItI w U W g kb nb kv mn mx) : W.cell? ⟨nb, 0, none⟩ = some (.int .i64 5) ∧ W.cell? ⟨nb, 1, none⟩ = some (.slice (some ⟨kb, 0, none⟩) 1 1) ∧ W.cell? ⟨nb, 2, none⟩ = some (.int .i64 mn) ∧ W.cell? ⟨nb, 3, none⟩ = some (.int .i64 mx) ∧ W.cell? ⟨nb, 4, none⟩ = some (.slice none 0 0) :=
  ⟨h.blk.cell 0, h.blk.cell 1, h.blk.cell 2, h.blk.cell 3, h.blk.cell 4⟩
theorem ItI.row (h : ItI w U W g kb nb kv mn mx) : RowT W 3 (some ⟨kb, 0, none⟩) 1 [iv kv] :=
  ⟨rfl, fun _ => ⟨kb, 0, _, _, rfl, h.kid, fun j u hu => by simpa using hu⟩⟩
end
end Go.Proofs.YtecejnilajbdpaaGreatDoor

/-! garnerref18: item, the walk -/
namespace Go.Proofs.YtecejnilajbdpaaGreatDoor
open Go.RowKit Garner
end Go.Proofs.YtecejnilajbdpaaGreatDoor

/-! garnerref18: rows of kids -/
namespace Go.Proofs.YtecejnilajbdpaaGreatDoor
open Go.RowKit Garner
/-- kids that are collected while it is a pattern: trees, the rest, how deep -/
structure KidsQ (F : Nat → Prop) (w : World) (g N : Nat) (ns : List NodeP) (deep most B : Nat) (v : Value) (wr : World) (ts : List Re) (s : List Nat) (d : Nat) (G : Nat → Prop) : Prop where
  own : wr.ownsRow w.heap.size 3 1 v ts.length ((roots ns.length ts).map iv)
  ps : QS G wr g N s (ns ++ flats ns.length ts) deep (max most (deep + d))
  gF : ∀ k, G k → Ext F w wr k
  gv : ∀ k, v.ownBlock = some k → ¬ G k
  pk : QP g w wr
  cnt : ns.length + cnts ts + 4 * s.length ≤ B
  dl : ts.length + s.length ≤ 300
/-- kids that are collected where it is no pattern -/
structure KidsX (w : World) (g n : Nat) (v : Value) (wr : World) (xs : List Int) : Prop where
  own : wr.ownsRow w.heap.size 3 1 v xs.length (xs.map (Value.int .i64))
  qx : QX wr g n
  pk : QP g w wr
  ne : xs ≠ []
end Go.Proofs.YtecejnilajbdpaaGreatDoor

/-! garnerref18: row -/
namespace Go.Proofs.YtecejnilajbdpaaGreatDoor
open Go.RowKit Garner
end Go.Proofs.YtecejnilajbdpaaGreatDoor

/-! garnerref18: alt; all of it by recursion -/
namespace Go.Proofs.YtecejnilajbdpaaGreatDoor
open Go.RowKit Garner
end Go.Proofs.YtecejnilajbdpaaGreatDoor

/-! garnerref18.Size, plain: sizes that are cut at 2000 -/
namespace Garner
open Go
end Garner

/-! garnerref18: Size -/
namespace Garner
open Go
end Garner
namespace Go.Proofs.YtecejnilajbdpaaGreatDoor
open Go.RowKit Garner
end Go.Proofs.YtecejnilajbdpaaGreatDoor

/-! garnerref06: One, Runes: the walks -/
namespace Garner
open Go
end Garner
namespace Go.Proofs.YtecejnilajbdpaaGreatDoor
open Go.RowKit Garner
end Go.Proofs.YtecejnilajbdpaaGreatDoor

/-! garnerref06: Runes -/
namespace Garner
open Go
end Garner
namespace Go.Proofs.YtecejnilajbdpaaGreatDoor
open Go.RowKit Garner
end Go.Proofs.YtecejnilajbdpaaGreatDoor

/-! garnerref18: Parse -/
namespace Go.Proofs.YtecejnilajbdpaaGreatDoor
open Go.RowKit Garner
end Go.Proofs.YtecejnilajbdpaaGreatDoor

