import Derived.Test.YtecejnilajbdpaaGreatDoorTu19
import Derived.Laws.Runes
import Derived.Test.YtecejnilajbdpaaGreatDoorTu17
import Derived.Test.YtecejnilajbdpaaGreatDoorTu29
import Derived.Test.YtecejnilajbdpaaGreatDoorTu28
import Derived.Deep.DeepCutAuto
/-! label: name, Canon of one label; query: named -/
namespace Garner
open Go
theorem dec_byte (l : Bs) (pos : Nat) (b : UInt8) (hb : l[pos]? = some b) : (b.toNat < 128 ∧ Utf8.decode ⟨l.toArray⟩ pos = (b.toNat, 1)) ∨ (128 ≤ b.toNat ∧ 128 ≤ (Utf8.decode ⟨l.toArray⟩ pos).1) := by
  have e : (⟨l.toArray⟩ : ByteArray).data.toList = l := by simp
  rw [Lib.decode_N, e]
  have h0 : l.getD pos 0 = b := by rw [List.getD_eq_getElem?_getD, hb]; rfl
  rw [h0]
  generalize (l.getD (pos + 1) 0).toNat = b1
  generalize (l.getD (pos + 2) 0).toNat = b2
  generalize (l.getD (pos + 3) 0).toNat = b3
  generalize l.length - pos = N
  by_cases h : b.toNat < 128
  · exact .inl ⟨h, by unfold Lib.decodeN; rw [if_pos h]⟩
  · refine .inr ⟨by omega, ?_⟩
    unfold Lib.decodeN
    rw [if_neg h]
    repeat' split
    all_goals (try simp only)
    all_goals omega
theorem nameAll_at {f : Bool} {s : Bs} {k : Nat} {b : UInt8} (h : s[k]? = some b) : nameAll f (s.drop k) = (nameC f b && nameAll false (s.drop (k + 1))) := by
  obtain ⟨h1, h2⟩ := List.getElem?_eq_some_iff.1 h
  rw [List.drop_eq_getElem_cons h1, h2, nameAll]
end Garner
namespace Go.Proofs.YtecejnilajbdpaaGreatDoor
open Go.RowKit Garner
/-- where a loop over a name's runes stands -/
structure NameS (w wr : World) (s : Bs) (pos : Nat) : Prop where
  it : wr.heap[w.heap.size]? = some (.stringIter ⟨s.toArray⟩ pos)
  low : Below w.heap.size w wr
  eq : nameAll true s = nameAll (decide (pos = 0)) (s.drop pos)
set_option maxRecDepth 100000 in
set_option maxHeartbeats 32000000 in
theorem vLName (S : ByteArray) (s : Bs) (hS : S = ⟨s.toArray⟩) (w : World) (hl : s.length ≤ 9223372036854775807) :
    Calls Tryz.prog 117 #[.string S] w fun e w' => e = .returned (.bool (nameP s)) ∧ Below w.heap.size w w' := by
  have hsz := str_size s
  obtain ⟨ANS, hA⟩ : ∃ ANS, nameP s = ANS := ⟨_, rfl⟩
  rw [hA]
  have HS := Lib.hid hS; have Hsz := Lib.hid hsz; have HA := Lib.hid hA
  clear hS hsz hA
  go_enter Tryz.func117, Tryz.ntmps117
  go_wp2
  go_loopw [] (fun wr => ∃ pos : Nat, Hid (NameS w wr s pos)) (fun wr => s.length - wr.iterPos w.heap.size)
  case atStart =>
    refine ⟨0, Lib.hid ⟨?_, (Below.refl _ w).alloc (Nat.le_refl _) _, rfl⟩⟩
    rw [← HS.out]; exact World.iter_heap w S 0
  case round =>
    obtain ⟨pos, hst⟩ := hrel
    have hit := hst.out.it
    have hsz := Hsz.out
    rw [← HS.out] at hit hsz
    by_cases hpos : pos < s.length
    · obtain ⟨b, hb⟩ : ∃ b, s[pos]? = some b := ⟨_, List.getElem?_eq_getElem hpos⟩
      have hdb := dec_byte s pos b hb
      obtain ⟨r, hr⟩ : ∃ r, (Utf8.decode ⟨s.toArray⟩ pos).1 = r := ⟨_, rfl⟩
      obtain ⟨q', hq⟩ : ∃ q', (Utf8.decode ⟨s.toArray⟩ pos).2 = q' := ⟨_, rfl⟩
      have hde : Utf8.decode ⟨s.toArray⟩ pos = (r, q') := Prod.ext hr hq
      rw [hde] at hdb
      have hnx : ∀ ty, (Instr.next (.pointer (some ⟨w.heap.size, 0, none⟩)) true ty).run Tryz.prog wr = _ := fun ty => Lib.run_next_any_at wr w.heap.size S pos ty hit (by omega)
      rw [HS.out, hde] at hnx
      obtain ⟨Y, hY⟩ : ∃ Y, Y = wr.iterAt w.heap.size ⟨s.toArray⟩ (pos + q') := ⟨_, rfl⟩
      rw [← hY] at hnx
      have hitY : Y.heap[w.heap.size]? = some (.stringIter ⟨s.toArray⟩ (pos + q')) := by rw [hY]; exact Lib.iterAt_heap _ _ _ _ _ hst.out.it
      have hlow : Below w.heap.size w Y := by rw [hY]; exact Lib.below_iterAt hst.out.low (Nat.le_refl _) _ _
      have heq := hst.out.eq
      rw [nameAll_at hb] at heq
      have hit1 : wr.iterPos w.heap.size = pos := by simp only [World.iterPos, hst.out.it]
      have hbad : nameC (decide (pos = 0)) b = false → ANS = false := fun h => by rw [← HA.out, nameP, heq, h]; simp
      have HIt := Lib.hid hitY; have HLow := Lib.hid hlow; have HEq := Lib.hid heq; have HIt1 := Lib.hid hit1; have HBad := Lib.hid hbad
      have hlow9 : Below w.heap.size w Y := hlow
      have hpn : (pos = 0 ∧ (pos : Int) = 0) ∨ (0 < pos) := by omega
      have hcase : ((r < 48 ∨ (57 < r ∧ r < 95) ∨ r = 96 ∨ 122 < r) ∧ nameC (decide (pos = 0)) b = false) ∨ (((48 ≤ r ∧ r ≤ 57) ∧ pos = 0) ∧ nameC (decide (pos = 0)) b = false) ∨ ((((48 ≤ r ∧ r ≤ 57) ∧ 0 < pos) ∨ r = 95 ∨ (97 ≤ r ∧ r ≤ 122)) ∧ nameC (decide (pos = 0)) b = true ∧ q' = 1) := by
        rcases hdb with ⟨h1, h2⟩ | ⟨h1, h2⟩
        · injection h2 with h3 h4
          have hn : nameC (decide (pos = 0)) b = (decide (r = 95) || (decide (97 ≤ r) && decide (r ≤ 122)) || (!decide (pos = 0) && (decide (48 ≤ r) && decide (r ≤ 57)))) := by unfold nameC; rw [h3]
          rw [hn, h4]
          have hcc : (r < 48 ∨ (57 < r ∧ r < 95) ∨ r = 96 ∨ 122 < r) ∨ ((48 ≤ r ∧ r ≤ 57) ∧ pos = 0) ∨ (((48 ≤ r ∧ r ≤ 57) ∧ 0 < pos) ∨ r = 95 ∨ (97 ≤ r ∧ r ≤ 122)) := by omega
          rcases hcc with h | h | h
          · refine .inl ⟨h, ?_⟩
            simp; omega
          · refine .inr (.inl ⟨h, ?_⟩)
            simp; omega
          · refine .inr (.inr ⟨h, ?_, rfl⟩)
            simp; omega
        · have h2 : 128 ≤ r := h2
          refine .inl ⟨by omega, ?_⟩
          unfold nameC
          simp; omega
      clear hitY hlow heq hit1 hbad hb hdb hde hr hq hst hit hsz hY
      rcases hcase with ⟨hr2, hno⟩ | ⟨⟨hr2, hp0⟩, hno⟩ | ⟨hr2, hyes, rfl⟩
      · have hans := HBad.out hno
        have HAn := Lib.hid hans
        clear hans hno
        have hr3 : ((r : Int) == 95) = false := by simp; omega
        have hr4 : ((r : Int) != 95) = true := by simp; omega
        rcases hpn with ⟨h0, -⟩ | h0
        · subst h0
          rcases hr2 with h | h | h | h
          all_goals
            go_wp2
            go_ret
            exact ⟨by rw [HAn.out]; rfl, HLow.out⟩
        · have hp3 : ((pos : Int) == 0) = false := by simp; omega
          have hp4 : ¬ (pos : Int) = 0 := by omega
          rcases hr2 with h | h | h | h
          all_goals
            go_wp2
            go_ret
            exact ⟨by rw [HAn.out]; rfl, HLow.out⟩
      · have hans := HBad.out hno
        have HAn := Lib.hid hans
        clear hans hno hpn
        subst hp0
        have hr3 : ((r : Int) == 95) = false := by simp; omega
        have hr4 : ((r : Int) != 95) = true := by simp; omega
        go_wp2
        go_ret
        exact ⟨by rw [HAn.out]; rfl, HLow.out⟩
      · have he2 := HEq.out
        rw [hyes, Bool.true_and] at he2
        have HN : Hid (NameS w Y s (pos + 1)) := Lib.hid ⟨HIt.out, HLow.out, he2⟩
        clear he2 hyes
        have hmea : s.length - World.iterPos Y w.heap.size < s.length - World.iterPos wr w.heap.size := by
          rw [HIt1.out]
          simp only [World.iterPos, HIt.out]
          omega
        have HMea := Lib.hid hmea
        clear hmea
        rcases hr2 with ⟨h, h0⟩ | h | h
        · have hp3 : ((pos : Int) == 0) = false := by simp; omega
          have hp4 : ¬ (pos : Int) = 0 := by omega
          have hr3 : ((r : Int) == 95) = false := by simp; omega
          have hr4 : ((r : Int) != 95) = true := by simp; omega
          go_wp2
          exact ⟨⟨pos + 1, HN⟩, HMea.out⟩
        · subst h
          go_wp2
          exact ⟨⟨pos + 1, HN⟩, HMea.out⟩
        · have hr3 : ((r : Int) == 95) = false := by simp; omega
          have hr4 : ((r : Int) != 95) = true := by simp; omega
          go_wp2
          exact ⟨⟨pos + 1, HN⟩, HMea.out⟩
    · have hnx : ∀ ty, (Instr.next (.pointer (some ⟨w.heap.size, 0, none⟩)) true ty).run Tryz.prog wr = _ := fun ty => Lib.run_next_end_at wr w.heap.size S pos ty hit (by omega)
      have heq := hst.out.eq
      rw [List.drop_eq_nil_of_le (by omega), nameAll] at heq
      have hans : ANS = (decide (1 ≤ s.length) && decide (s.length ≤ 32)) := by rw [← HA.out, nameP, heq, Bool.and_true]
      obtain ⟨n, hn⟩ : ∃ n, s.length = n := ⟨_, rfl⟩
      rw [hn] at hsz hans
      have HAn := Lib.hid hans; have HL := Lib.hid hst.out.low
      have hcase : n = 0 ∨ (1 ≤ n ∧ n ≤ 32) ∨ 32 < n := by omega
      clear hans hst heq hn hpos
      have hsz2 : S.size = n := hsz
      have hz := Lib.hid hsz2
      clear hsz
      rcases hcase with rfl | ⟨h1, h2⟩ | h1
      · have z1 : ¬ (0 : Int) < (S.size : Int) := by omega
        clear hsz2
        go_wp2
        go_ret
        exact ⟨by rw [HAn.out]; rfl, HL.out⟩
      · have z1 : (0 : Int) < (S.size : Int) := by omega
        have z2 : (S.size : Int) ≤ 32 := by omega
        clear hsz2
        have hb : ANS = true := by rw [HAn.out, decide_eq_true h1, decide_eq_true h2]; rfl
        have HB := Lib.hid hb
        clear hb HAn
        go_wp2
        go_ret
        exact ⟨by rw [HB.out]; rfl, HL.out⟩
      · have z1 : (0 : Int) < (S.size : Int) := by omega
        have z2 : ¬ (S.size : Int) ≤ 32 := by omega
        clear hsz2
        have hb : ANS = false := by rw [HAn.out, decide_eq_false (show ¬ n ≤ 32 by omega), Bool.and_false]
        have HB := Lib.hid hb
        clear hb HAn
        go_wp2
        go_ret
        exact ⟨by rw [HB.out]; rfl, HL.out⟩
end Go.Proofs.YtecejnilajbdpaaGreatDoor

/-! autom: node of alternatives -/
namespace Go.Proofs.YtecejnilajbdpaaGreatDoor
open Go.RowKit Garner
set_option maxRecDepth 100000 in
set_option maxHeartbeats 16000000 in
theorem nodeAlt {F : Nat → Prop} {W0 : World} {B0 : Nat} {A : Option Addr} {c : Nat} {ns : List NodeP} (hN : NodesIs F W0 B0 (.slice A ns.length c) ns) (l : List Re) (hne : l ≠ []) (hl : l.length ≤ 10000) (ih : ∀ t ∈ l, CodeC W0 A c ns t) : CodeC W0 A c ns (.alt l) := by
  intro b w g ins hat hBg hp hb hsz
  have hn := last_at (t := .alt l) (l := flats b l) rfl (by rw [flats_len]; rfl) hat
  have hat2 : AtN ns b (flats b l) := AtN.left (m := [_]) hat
  have hkl := (List.getElem?_eq_some_iff.1 hn).1
  obtain ⟨gN, d, rfl, hd, hok, hgN, hcell⟩ := hN.node hn
  obtain ⟨k, hk⟩ : ∃ k, b + Re.cnt (.alt l) - 1 = k := ⟨_, rfl⟩
  rw [hk] at hn hkl hcell ⊢
  have cc : ∀ j, j < 5 → w.cell? ⟨gN, k * 5 + j, none⟩ = d.cells[j]? := fun j hj => by
    rw [hb.cell (p := ⟨gN, k * 5 + j, none⟩) hgN, hcell j hj]
  have c0 : w.cell? ⟨gN, k * 5, none⟩ = some (.int .i64 (d.n.kind : Nat)) := cc 0 (by omega)
  have c1 : w.cell? ⟨gN, k * 5 + 1, none⟩ = some (.slice d.kA d.n.kids.length d.kc) := cc 1 (by omega)
  have c2 : w.cell? ⟨gN, k * 5 + 2, none⟩ = some (.int .i64 (d.n.mn : Nat)) := cc 2 (by omega)
  have c3 : w.cell? ⟨gN, k * 5 + 3, none⟩ = some (.int .i64 d.n.mx) := cc 3 (by omega)
  have c4 : w.cell? ⟨gN, k * 5 + 4, none⟩ = some (.slice d.sA d.n.set.length d.sc) := cc 4 (by omega)
  have hkids := hok.kids
  rw [hd] at c0 c1 c2 c3 c4 hkids
  have hg := hp.lt
  have f0 : w.cell? ⟨g, 0, none⟩ = some (.slice (some ⟨gN, 0, none⟩) ns.length c) := by
    obtain ⟨O, m, h1, -⟩ := hp.ex
    exact h1.cell 0
  obtain ⟨sA, hsA⟩ : ∃ sA, d.sA = sA := ⟨_, rfl⟩
  obtain ⟨sc, hsc⟩ : ∃ sc, d.sc = sc := ⟨_, rfl⟩
  obtain ⟨kA, hkA⟩ : ∃ kA, d.kA = kA := ⟨_, rfl⟩
  obtain ⟨kc, hkc⟩ : ∃ kc, d.kc = kc := ⟨_, rfl⟩
  rw [hsA, hsc] at c4
  rw [hkA, hkc] at c1
  rw [hkA] at hkids
  obtain ⟨kl, hkl2⟩ : ∃ kl, l.length = kl := ⟨_, rfl⟩
  dsimp only at c1 c2 c3 hkids
  rw [roots_length, hkl2] at c1 hkids
  have hbX : Below w.heap.size w (w.alloc (.cells #[.int .i64 4, .slice kA kl kc, .int .i64 0, .int .i64 0, .slice sA 0 sc] 182)) := (Below.refl _ _).alloc (Nat.le_refl _) _
  have pX := hp.below hbX
  have qX := QK.of_below hbX hb.size
  have z1 : (k : Int) < (ns.length : Int) := by omega
  have he := vAltI l hne hl ih b hat2 kA kl kc hkl2 _ g ins hkids hBg pX (QK.from hb qX) hsz
  have He := Lib.hid he; have QX := Lib.hid qX
  clear hcell cc hok hp pX hb hbX hat hat2 hn hN qX hkids ih hsz he
  go_enter Tryz.func93, Tryz.ntmps93
  go_wp2_with fail
  refine He.out.mono ?_
  rintro e w2 ⟨rfl, p2, q2⟩
  have P2 := Lib.hid p2; have Q2 := Lib.hid q2
  clear p2 q2
  go_wp2
  go_end0
  exact ⟨rfl, P2.out, QX.out.trans Q2.out⟩
end Go.Proofs.YtecejnilajbdpaaGreatDoor

/-! text.Has -/
namespace Go.Proofs.YtecejnilajbdpaaGreatDoor
open Go.RowKit Garner
set_option maxRecDepth 100000 in
set_option maxHeartbeats 4000000 in
theorem vHas (l sub : Bs) (w : World) (hL : Lt w) (hl : l.length < 4294967281) :
    Calls Tryz.prog 45 #[str l, str sub] w fun e w' => e = .returned (.bool (Lib.contains l sub)) ∧ w' = w := by
  go_enter Tryz.func45, Tryz.ntmps45
  go_wp2_with fail
  refine (cContains l sub w hL hl).mono ?_
  rintro e w1 ⟨rfl, rfl⟩
  go_wp2
  go_ret
  exact ⟨rfl, rfl⟩
end Go.Proofs.YtecejnilajbdpaaGreatDoor

/-! garnerref18: class: what its loop keeps -/
namespace Garner
open Go
end Garner
namespace Go.Proofs.YtecejnilajbdpaaGreatDoor
open Go.RowKit Garner
section
variable {F : Nat → Prop} {w w' : World} {g N n : Nat} {rs : List Nat} {ns : List NodeP} {deep most : Nat}
/-- what the loop over a class's members keeps while it is a pattern -/
structure ClsQ (F : Nat → Prop) (ANS : Option (List Nat × List Nat)) (w : World) (g N : Nat) (ns : List NodeP) (deep most T : Nat) (v sm : Value) (wr : World) (P : List (Nat × Nat)) (s : List Nat) (f : Nat) (b : Bool) : Prop where
  sm : sm = .bool (!b)
  own : wr.ownsRow w.heap.size 21 1 v (flatR P).length ((flatR P).map rv)
  ps : QS F wr g N s ns deep most
  pk : QP g w wr
  ans : clsR f b s (flatR P) = ANS
  some_ : b = true → P ≠ []
  fuel : s.length + 1 ≤ f
  bd : ∀ p ∈ P, p.1 ≤ p.2 ∧ p.2 ≤ 1114111
  len : P.length + 4 * s.length ≤ 4 * T
/-- ahead of a round's append -/
structure ClsE (F : Nat → Prop) (ANS : Option (List Nat × List Nat)) (w : World) (g N : Nat) (ns : List NodeP) (deep most T f M : Nat) (P : List (Nat × Nat)) (n : Nat) (v : Value) (xs : List Value) (wx : World) : Prop where
  pk : QP g w wx
  own : wx.ownsRow w.heap.size 21 1 v n ((flatR P).map rv)
  lt : g < wx.heap.size
  st : (QX wx g ns.length ∧ ANS = none) ∨ ∃ Q s2, xs = (flatR Q).map rv ∧ Q ≠ [] ∧ (∀ p ∈ Q, p.1 ≤ p.2 ∧ p.2 ≤ 1114111) ∧ QS F wx g N s2 ns deep most ∧ clsR f true s2 (flatR P ++ flatR Q) = ANS ∧ s2.length + 1 ≤ f ∧ s2.length < M ∧ P.length + Q.length + 4 * s2.length ≤ 4 * T
theorem ClsE.below {ANS : Option (List Nat × List Nat)} {wx wy : World} {T f M : Nat} {P : List (Nat × Nat)} {v : Value} {xs : List Value} (h : ClsE F ANS w g N ns deep most T f M P n v xs wx) (hb : Below wx.heap.size wx wy) : ClsE F ANS w g N ns deep most T f M P n v xs wy := by
  refine ⟨h.pk.trans (.of_below hb (Nat.le_of_lt h.lt)), own_below h.own hb, Nat.lt_of_lt_of_le h.lt hb.size, ?_⟩
  rcases h.st with ⟨h1, h2⟩ | ⟨Q, s2, h1, h2, h3, h4, h5⟩
  · exact .inl ⟨h1.below hb, h2⟩
  · exact .inr ⟨Q, s2, h1, h2, h3, h4.below hb, h5⟩
end
end Go.Proofs.YtecejnilajbdpaaGreatDoor

/-! garnerref18: class -/
namespace Go.Proofs.YtecejnilajbdpaaGreatDoor
open Go.RowKit Garner
end Go.Proofs.YtecejnilajbdpaaGreatDoor

