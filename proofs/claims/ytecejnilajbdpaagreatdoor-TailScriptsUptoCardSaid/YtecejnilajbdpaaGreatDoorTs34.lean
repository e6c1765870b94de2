import Derived.Test.YtecejnilajbdpaaGreatDoorTs17
import Derived.Laws.Runes
import Derived.Test.YtecejnilajbdpaaGreatDoorTs15
import Derived.Test.YtecejnilajbdpaaGreatDoorTs31
import Derived.Test.YtecejnilajbdpaaGreatDoorTs33
namespace Garner
open Go
theorem dec_byte (l : Bs) (pos : Nat) (b : UInt8) (hb : l[pos]? = some b) : (b.toNat < 128 ∧ Utf8.decode ⟨l.toArray⟩ pos = (b.toNat, 1)) ∨ (128 ≤ b.toNat ∧ 128 ≤ (Utf8.decode ⟨l.toArray⟩ pos).1) := by
 have e : (⟨l.toArray⟩ : ByteArray).data.toList = l := by simp
 rw [Lib.decode_N, e]
 have h0 : l.getD pos 0 = b := by rw [List.getD_eq_getElem?_getD, hb]; rfl
 rw [h0]
 generalize (l.getD (pos + 1) 0).toNat = b1
 generalize (l.getD (pos + 2) 0).toNat = b2
 generalize (l.getD (pos + 3) 0).toNat = b3
 generalize l.length - pos = N
 by_cases h : b.toNat < 128
 ·exact .inl ⟨h, by unfold Lib.decodeN; rw [if_pos h]⟩
 ·refine .inr ⟨by omega, ?_⟩
  unfold Lib.decodeN
  rw [if_neg h]
  repeat' split
  all_goals (try simp only)
  all_goals omega
theorem nameAll_at {f : Bool} {s : Bs} {k : Nat} {b : UInt8} (h : s[k]? = some b) : nameAll f (s.drop k) = (nameC f b && nameAll false (s.drop (k + 1))) := by
 obtain ⟨h1, h2⟩ := List.getElem?_eq_some_iff.1 h
 rw [List.drop_eq_getElem_cons h1, h2, nameAll]
end Garner
namespace Go.Proofs.YtecejnilajbdpaaGreatDoor
open Go.RowKit Garner
structure NameS (w wr : World) (s : Bs) (pos : Nat) : Prop where
 it : wr.heap[w.heap.size]? = some (.stringIter ⟨s.toArray⟩ pos)
 low : Below w.heap.size w wr
 eq : nameAll true s = nameAll (decide (pos = 0)) (s.drop pos)
set_option maxRecDepth 100000 in
set_option maxHeartbeats 32000000 in
theorem vLName (S : ByteArray) (s : Bs) (hS : S = ⟨s.toArray⟩) (w : World) (hl : s.length ≤ 9223372036854775807) :
  Calls Tryz.prog 117 #[.string S] w fun e w' => e = .returned (.bool (nameP s)) ∧ Below w.heap.size w w' := by
 have hsz := str_size s
 obtain ⟨ANS, hA⟩ : ∃ ANS, nameP s = ANS := ⟨_, rfl⟩
 rw [hA]
 have HS := Lib.hid hS; have Hsz := Lib.hid hsz; have HA := Lib.hid hA
 clear hS hsz hA
 go_enter Tryz.func117, Tryz.ntmps117
 go_wp2
 go_loopw [] (fun wr => ∃ pos : Nat, Hid (NameS w wr s pos)) (fun wr => s.length - wr.iterPos w.heap.size)
 case atStart =>
  refine ⟨0, Lib.hid ⟨?_, (Below.refl _ w).alloc (Nat.le_refl _) _, rfl⟩⟩
  rw [← HS.out]; exact World.iter_heap w S 0
 case round =>
  obtain ⟨pos, hst⟩ := hrel
  have hit := hst.out.it
  have hsz := Hsz.out
  rw [← HS.out] at hit hsz
  by_cases hpos : pos < s.length
  ·obtain ⟨b, hb⟩ : ∃ b, s[pos]? = some b := ⟨_, List.getElem?_eq_getElem hpos⟩
   have hdb := dec_byte s pos b hb
   obtain ⟨r, hr⟩ : ∃ r, (Utf8.decode ⟨s.toArray⟩ pos).1 = r := ⟨_, rfl⟩
   obtain ⟨q', hq⟩ : ∃ q', (Utf8.decode ⟨s.toArray⟩ pos).2 = q' := ⟨_, rfl⟩
   have hde : Utf8.decode ⟨s.toArray⟩ pos = (r, q') := Prod.ext hr hq
   rw [hde] at hdb
   have hnx : ∀ ty, (Instr.next (.pointer (some ⟨w.heap.size, 0, none⟩)) true ty).run Tryz.prog wr = _ := fun ty => Lib.run_next_any_at wr w.heap.size S pos ty hit (by omega)
   rw [HS.out, hde] at hnx
   obtain ⟨Y, hY⟩ : ∃ Y, Y = wr.iterAt w.heap.size ⟨s.toArray⟩ (pos + q') := ⟨_, rfl⟩
   rw [← hY] at hnx
   have hitY : Y.heap[w.heap.size]? = some (.stringIter ⟨s.toArray⟩ (pos + q')) := by rw [hY]; exact Lib.iterAt_heap _ _ _ _ _ hst.out.it
   have hlow : Below w.heap.size w Y := by rw [hY]; exact Lib.below_iterAt hst.out.low (Nat.le_refl _) _ _
   have heq := hst.out.eq
   rw [nameAll_at hb] at heq
   have hit1 : wr.iterPos w.heap.size = pos := by simp only [World.iterPos, hst.out.it]
   have hbad : nameC (decide (pos = 0)) b = false → ANS = false := fun h => by rw [← HA.out, nameP, heq, h]; simp
   have HIt := Lib.hid hitY; have HLow := Lib.hid hlow; have HEq := Lib.hid heq; have HIt1 := Lib.hid hit1; have HBad := Lib.hid hbad
   have hlow9 : Below w.heap.size w Y := hlow
   have hpn : (pos = 0 ∧ (pos : Int) = 0) ∨ (0 < pos) := by omega
   have hcase : ((r < 48 ∨ (57 < r ∧ r < 95) ∨ r = 96 ∨ 122 < r) ∧ nameC (decide (pos = 0)) b = false) ∨ (((48 ≤ r ∧ r ≤ 57) ∧ pos = 0) ∧ nameC (decide (pos = 0)) b = false) ∨ ((((48 ≤ r ∧ r ≤ 57) ∧ 0 < pos) ∨ r = 95 ∨ (97 ≤ r ∧ r ≤ 122)) ∧ nameC (decide (pos = 0)) b = true ∧ q' = 1) := by
    rcases hdb with ⟨h1, h2⟩ | ⟨h1, h2⟩
    ·injection h2 with h3 h4
     have hn : nameC (decide (pos = 0)) b = (decide (r = 95) || (decide (97 ≤ r) && decide (r ≤ 122)) || (!decide (pos = 0) && (decide (48 ≤ r) && decide (r ≤ 57)))) := by unfold nameC; rw [h3]
     rw [hn, h4]
     have hcc : (r < 48 ∨ (57 < r ∧ r < 95) ∨ r = 96 ∨ 122 < r) ∨ ((48 ≤ r ∧ r ≤ 57) ∧ pos = 0) ∨ (((48 ≤ r ∧ r ≤ 57) ∧ 0 < pos) ∨ r = 95 ∨ (97 ≤ r ∧ r ≤ 122)) := by omega
     rcases hcc with h | h | h
     ·refine .inl ⟨h, ?_⟩
      simp; omega
     ·refine .inr (.inl ⟨h, ?_⟩)
      simp; omega
     ·refine .inr (.inr ⟨h, ?_, rfl⟩)
      simp; omega
    ·have h2 : 128 ≤ r := h2
     refine .inl ⟨by omega, ?_⟩
     unfold nameC
     simp; omega
   clear hitY hlow heq hit1 hbad hb hdb hde hr hq hst hit hsz hY
   rcases hcase with ⟨hr2, hno⟩ | ⟨⟨hr2, hp0⟩, hno⟩ | ⟨hr2, hyes, rfl⟩
   ·have hans := HBad.out hno
    have HAn := Lib.hid hans
    clear hans hno
    have hr3 : ((r : Int) == 95) = false := by simp; omega
    have hr4 : ((r : Int) != 95) = true := by simp; omega
    rcases hpn with ⟨h0, -⟩ | h0
    ·subst h0
     rcases hr2 with h | h | h | h
     all_goals
      go_wp2
      go_ret
      exact ⟨by rw [HAn.out]; rfl, HLow.out⟩
    ·have hp3 : ((pos : Int) == 0) = false := by simp; omega
     have hp4 : ¬ (pos : Int) = 0 := by omega
     rcases hr2 with h | h | h | h
     all_goals
      go_wp2
      go_ret
      exact ⟨by rw [HAn.out]; rfl, HLow.out⟩
   ·have hans := HBad.out hno
    have HAn := Lib.hid hans
    clear hans hno hpn
    subst hp0
    have hr3 : ((r : Int) == 95) = false := by simp; omega
    have hr4 : ((r : Int) != 95) = true := by simp; omega
    go_wp2
    go_ret
    exact ⟨by rw [HAn.out]; rfl, HLow.out⟩
   ·have he2 := HEq.out
    rw [hyes, Bool.true_and] at he2
    have HN : Hid (NameS w Y s (pos + 1)) := Lib.hid ⟨HIt.out, HLow.out, he2⟩
    clear he2 hyes
    have hmea : s.length - World.iterPos Y w.heap.size < s.length - World.iterPos wr w.heap.size := by
     rw [HIt1.out]
     simp only [World.iterPos, HIt.out]
     omega
    have HMea := Lib.hid hmea
    clear hmea
    rcases hr2 with ⟨h, h0⟩ | h | h
    ·have hp3 : ((pos : Int) == 0) = false := by simp; omega
     have hp4 : ¬ (pos : Int) = 0 := by omega
     have hr3 : ((r : Int) == 95) = false := by simp; omega
     have hr4 : ((r : Int) != 95) = true := by simp; omega
     go_wp2
     exact ⟨⟨pos + 1, HN⟩, HMea.out⟩
    ·subst h
     go_wp2
     exact ⟨⟨pos + 1, HN⟩, HMea.out⟩
    ·have hr3 : ((r : Int) == 95) = false := by simp; omega
     have hr4 : ((r : Int) != 95) = true := by simp; omega
     go_wp2
     exact ⟨⟨pos + 1, HN⟩, HMea.out⟩
  ·have hnx : ∀ ty, (Instr.next (.pointer (some ⟨w.heap.size, 0, none⟩)) true ty).run Tryz.prog wr = _ := fun ty => Lib.run_next_end_at wr w.heap.size S pos ty hit (by omega)
   have heq := hst.out.eq
   rw [List.drop_eq_nil_of_le (by omega), nameAll] at heq
   have hans : ANS = (decide (1 ≤ s.length) && decide (s.length ≤ 32)) := by rw [← HA.out, nameP, heq, Bool.and_true]
   obtain ⟨n, hn⟩ : ∃ n, s.length = n := ⟨_, rfl⟩
   rw [hn] at hsz hans
   have HAn := Lib.hid hans; have HL := Lib.hid hst.out.low
   have hcase : n = 0 ∨ (1 ≤ n ∧ n ≤ 32) ∨ 32 < n := by omega
   clear hans hst heq hn hpos
   have hsz2 : S.size = n := hsz
   have hz := Lib.hid hsz2
   clear hsz
   rcases hcase with rfl | ⟨h1, h2⟩ | h1
   ·have z1 : ¬ (0 : Int) < (S.size : Int) := by omega
    clear hsz2
    go_wp2
    go_ret
    exact ⟨by rw [HAn.out]; rfl, HL.out⟩
   ·have z1 : (0 : Int) < (S.size : Int) := by omega
    have z2 : (S.size : Int) ≤ 32 := by omega
    clear hsz2
    have hb : ANS = true := by rw [HAn.out, decide_eq_true h1, decide_eq_true h2]; rfl
    have HB := Lib.hid hb
    clear hb HAn
    go_wp2
    go_ret
    exact ⟨by rw [HB.out]; rfl, HL.out⟩
   ·have z1 : (0 : Int) < (S.size : Int) := by omega
    have z2 : ¬ (S.size : Int) ≤ 32 := by omega
    clear hsz2
    have hb : ANS = false := by rw [HAn.out, decide_eq_false (show ¬ n ≤ 32 by omega), Bool.and_false]
    have HB := Lib.hid hb
    clear hb HAn
    go_wp2
    go_ret
    exact ⟨by rw [HB.out]; rfl, HL.out⟩
set_option maxRecDepth 100000 in
set_option maxHeartbeats 16000000 in
theorem nodeAlt {F : Nat → Prop} {W0 : World} {B0 : Nat} {A : Option Addr} {c : Nat} {ns : List NodeP} (hN : NodesIs F W0 B0 (.slice A ns.length c) ns) (l : List Re) (hne : l ≠ []) (hl : l.length ≤ 10000) (ih : ∀ t ∈ l, CodeC W0 A c ns t) : CodeC W0 A c ns (.alt l) := by
 intro b w g ins hat hBg hp hb hsz
 have hn := last_at (t := .alt l) (l := flats b l) rfl (by rw [flats_len]; rfl) hat
 have hat2 : AtN ns b (flats b l) := AtN.left (m := [_]) hat
 have hkl := (List.getElem?_eq_some_iff.1 hn).1
 obtain ⟨gN, d, rfl, hd, hok, hgN, hcell⟩ := hN.node hn
 obtain ⟨k, hk⟩ : ∃ k, b + Re.cnt (.alt l) - 1 = k := ⟨_, rfl⟩
 rw [hk] at hn hkl hcell ⊢
 have cc : ∀ j, j < 5 → w.cell? ⟨gN, k * 5 + j, none⟩ = d.cells[j]? := fun j hj => by
  rw [hb.cell (p := ⟨gN, k * 5 + j, none⟩) hgN, hcell j hj]
 have c0 : w.cell? ⟨gN, k * 5, none⟩ = some (.int .i64 (d.n.kind : Nat)) := cc 0 (by omega)
 have c1 : w.cell? ⟨gN, k * 5 + 1, none⟩ = some (.slice d.kA d.n.kids.length d.kc) := cc 1 (by omega)
 have c2 : w.cell? ⟨gN, k * 5 + 2, none⟩ = some (.int .i64 (d.n.mn : Nat)) := cc 2 (by omega)
 have c3 : w.cell? ⟨gN, k * 5 + 3, none⟩ = some (.int .i64 d.n.mx) := cc 3 (by omega)
 have c4 : w.cell? ⟨gN, k * 5 + 4, none⟩ = some (.slice d.sA d.n.set.length d.sc) := cc 4 (by omega)
 have hkids := hok.kids
 rw [hd] at c0 c1 c2 c3 c4 hkids
 have hg := hp.lt
 have f0 : w.cell? ⟨g, 0, none⟩ = some (.slice (some ⟨gN, 0, none⟩) ns.length c) := by
  obtain ⟨O, m, h1, -⟩ := hp.ex
  exact h1.cell 0
 obtain ⟨sA, hsA⟩ : ∃ sA, d.sA = sA := ⟨_, rfl⟩
 obtain ⟨sc, hsc⟩ : ∃ sc, d.sc = sc := ⟨_, rfl⟩
 obtain ⟨kA, hkA⟩ : ∃ kA, d.kA = kA := ⟨_, rfl⟩
 obtain ⟨kc, hkc⟩ : ∃ kc, d.kc = kc := ⟨_, rfl⟩
 rw [hsA, hsc] at c4
 rw [hkA, hkc] at c1
 rw [hkA] at hkids
 obtain ⟨kl, hkl2⟩ : ∃ kl, l.length = kl := ⟨_, rfl⟩
 dsimp only at c1 c2 c3 hkids
 rw [roots_length, hkl2] at c1 hkids
 have hbX : Below w.heap.size w (w.alloc (.cells #[.int .i64 4, .slice kA kl kc, .int .i64 0, .int .i64 0, .slice sA 0 sc] 182)) := (Below.refl _ _).alloc (Nat.le_refl _) _
 have pX := hp.below hbX
 have qX := QK.of_below hbX hb.size
 have z1 : (k : Int) < (ns.length : Int) := by omega
 have he := vAltI l hne hl ih b hat2 kA kl kc hkl2 _ g ins hkids hBg pX (QK.from hb qX) hsz
 have He := Lib.hid he; have QX := Lib.hid qX
 clear hcell cc hok hp pX hb hbX hat hat2 hn hN qX hkids ih hsz he
 go_enter Tryz.func93, Tryz.ntmps93
 go_wp2_with fail
 refine He.out.mono ?_
 rintro e w2 ⟨rfl, p2, q2⟩
 have P2 := Lib.hid p2; have Q2 := Lib.hid q2
 clear p2 q2
 go_wp2
 go_end0
 exact ⟨rfl, P2.out, QX.out.trans Q2.out⟩
theorem cnt_mem : ∀ {l : List Re} {u : Re}, u ∈ l → u.cnt ≤ cnts l
 | t :: l, u, h => by
  rcases List.mem_cons.1 h with rfl | h
  ·simp only [cnts]; omega
  ·have := cnt_mem h; simp only [cnts]; omega
theorem oks_mem : ∀ {l : List Re} {u : Re}, oks l → u ∈ l → u.ok
 | t :: l, u, h, hu => by
  rcases List.mem_cons.1 hu with rfl | hu
  ·exact h.1
  ·exact oks_mem h.2 hu
theorem lims_mem : ∀ {l : List Re} {u : Re}, lims l → u ∈ l → u.lim
 | t :: l, u, h, hu => by
  rcases List.mem_cons.1 hu with rfl | hu
  ·exact h.1
  ·exact lims_mem h.2 hu
theorem codeAll {F : Nat → Prop} {W0 : World} {B0 : Nat} {A : Option Addr} {c : Nat} {ns : List NodeP} (hN : NodesIs F W0 B0 (.slice A ns.length c) ns) : ∀ (n : Nat) (t : Re), t.cnt ≤ n → t.cnt ≤ 10000 → t.ok → t.lim → CodeC W0 A c ns t
 | 0, t, h, _, _, _ => by cases t <;> simp [Re.cnt] at h
 | n + 1, .emp, _, _, _, _ => nodeEmp hN
 | n + 1, .set l, _, _, _, _ => nodeSet hN l
 | n + 1, .bgn, _, _, _, _ => nodeEdge hN .bgn (.inl rfl)
 | n + 1, .fin, _, _, _, _ => nodeEdge hN .fin (.inr rfl)
 | n + 1, .seq l, h, hc, ho, hm => by
  have e : (Re.seq l).cnt = cnts l + 1 := rfl
  have hl := len_cnts l
  exact nodeSeq hN l (by omega) fun u hu => codeAll hN n u (by have := cnt_mem hu; omega) (by have := cnt_mem hu; omega) (oks_mem ho hu) (lims_mem hm hu)
 | n + 1, .alt l, h, hc, ho, hm => by
  have e : (Re.alt l).cnt = cnts l + 1 := rfl
  have hl := len_cnts l
  exact nodeAlt hN l ho.1 (by omega) fun u hu => codeAll hN n u (by have := cnt_mem hu; omega) (by have := cnt_mem hu; omega) (oks_mem ho.2 hu) (lims_mem hm hu)
 | n + 1, .rep k mn none, h, hc, ho, hm => by
  have e : (Re.rep k mn none).cnt = k.cnt + 1 := rfl
  exact nodeRepN hN k mn hm.2.1 (codeAll hN n k (by omega) (by omega) ho.1 hm.1)
 | n + 1, .rep k mn (some mx), h, hc, ho, hm => by
  have e : (Re.rep k mn (some mx)).cnt = k.cnt + 1 := rfl
  exact nodeRepM hN k mn mx hm.2.1 (hm.2.2 mx rfl) (ho.2 mx rfl) (codeAll hN n k (by omega) (by omega) ho.1 hm.1)
set_option maxRecDepth 100000 in
set_option maxHeartbeats 4000000 in
theorem vHas (l sub : Bs) (w : World) (hL : Lt w) (hl : l.length < 4294967281) :
  Calls Tryz.prog 45 #[str l, str sub] w fun e w' => e = .returned (.bool (Lib.contains l sub)) ∧ w' = w := by
 go_enter Tryz.func45, Tryz.ntmps45
 go_wp2_with fail
 refine (cContains l sub w hL hl).mono ?_
 rintro e w1 ⟨rfl, rfl⟩
 go_wp2
 go_ret
 exact ⟨rfl, rfl⟩
open Go.Shelf
def boolN : Value → Nat
 | .bool true => 1
 | _ => 0
set_option maxRecDepth 100000 in
set_option maxHeartbeats 16000000 in
theorem qAlt (L : Nat) (hT : QRowC L) : QAltC L := by
 intro F g N w rs ns deep most hL h hns hdp
 have hgw := h.lt
 have HF := Lib.hid h.hF
 have hlb := h.lb
 have hlen := h.len
 have hdm := h.dm
 obtain ⟨ANS, hANS⟩ : ∃ ANS, altF rs = ANS := ⟨_, rfl⟩
 rw [hANS]
 obtain ⟨M, hN⟩ : ∃ M, rs.length = M := ⟨_, rfl⟩
 rw [hN] at hL hns hdp hlen ⊢
 obtain ⟨KK, hKK⟩ : ∃ KK, 4 * M + 4 = KK := ⟨_, rfl⟩
 have hK1 : 4 * M + 4 ≤ KK := by omega
 rw [hKK]
 obtain ⟨OUT, hOUT⟩ : ∃ OUT, ANS.map (fun p => (manyR .alt p.1, p.2.1, p.2.2)) = OUT := ⟨_, rfl⟩
 rw [hOUT]
 have HN := Lib.hid hN; have HA := Lib.hid hANS; have HO := Lib.hid hOUT; have H := Lib.hid h
 clear hN hANS hKK hOUT h
 go_enter Tryz.func81, Tryz.ntmps81
 go_wp2
 go_loopw [3, 4] (fun v b wr => (∃ (ts : List Re) (s : List Nat) (d : Nat) (G : Nat → Prop), KidsQ F w g N ns deep most (ns.length + 4 * M + 1) v wr ts s d G ∧ s.length ≤ M ∧ ((b = .bool true ∧ Hid ((altF s).map (fun p => (ts ++ p.1, p.2.1, max d p.2.2)) = ANS) ∧ cnts ts + 4 * s.length ≤ 4 * M ∧ ts.length + s.length ≤ M) ∨ (b = .bool false ∧ ts ≠ [] ∧ Hid (ANS = some (ts, s, d))))) ∨ ∃ (n : Nat) (xs : List Int), KidsX w g n v wr xs ∧ n ≤ ns.length + 4 * M + 3 ∧ b = .bool false ∧ Hid (ANS = none)) (fun _ b wr => qLen N g wr + boolN b)
 case atStart =>
  refine .inl ⟨[], rs, 0, F, ⟨World.ownsRow_nil _ _ _ _, ?_, fun k hk => .inl hk, fun k hk => (by cases hk), .refl _ _, by rw [HN.out]; simp [cnts], by rw [HN.out]; simp; omega⟩, by rw [HN.out]; exact Nat.le_refl _, .inl ⟨rfl, Lib.hid ?_, by rw [HN.out]; simp [cnts], by rw [HN.out]; simp⟩⟩
  ·rw [show max most (deep + 0) = most by omega]
   simpa [flats] using H.out
  ·rw [HA.out]
   cases ANS with
   | none => rfl
   | some p => simp
 case round =>
  obtain ⟨wo, rfl⟩ : ∃ wo : World, wo = wr := ⟨_, rfl⟩
  rcases hrel with ⟨ts, s, d, G, hI, hsM, ⟨rfl, hans, hcn0, htl⟩ | ⟨rfl, hne, hans⟩⟩ | ⟨n, xs, hX, hn, rfl, hno⟩
  ·obtain ⟨A3, c3, rfl, hc3⟩ := own_form hI.own
   have hlS := hI.ps.qLen
   have ha := hans.out
   rw [altF_eq] at ha
   have hi := hT G g N wo s (ns ++ flats ns.length ts) deep (max most (deep + d)) (by omega) hI.ps (by rw [List.length_append, flats_len]; omega) (by omega)
   have HlS := Lib.hid hlS; have HI := Lib.hid hI; have Ha := Lib.hid ha; have Hi := Lib.hid hi
   obtain ⟨c5, f5⟩ := hI.ps.cell5
   have hown := hI.own
   have hsz := hI.pk.keep.size
   clear hI hans hlS ha hi
   go_wp2_with fail
   refine Hi.out.mono ?_
   rintro e w4 ⟨k4, o4⟩
   have s4 := k4.keep.size
   have own4 : w4.ownsRow w.heap.size 3 1 (.slice A3 ts.length c3) ts.length ((roots ns.length ts).map iv) := k4.keep.own hown (by decide)
   have ha := Ha.out
   cases hit : rowF s with
   | none =>
    rw [hit] at o4 ha
    obtain ⟨x, n, rfl, hx4, hxn⟩ := o4
    have hno : ANS = none := ha.symm
    rw [List.length_append, flats_len] at hxn
    have HX4 := Lib.hid hx4; have K4 := Lib.hid k4; have HNO := Lib.hid hno
    clear ha hit hx4 k4 hno hown
    go_upto_region 4 with (at_builtin; refine wpList_app _ rfl intE rfl rfl (own4.alloc _) rfl (row_new w4 _ [_]) (by simp [Value.oneCell']) (by first | omega | (simp; omega)) (by simp; omega) ?_; intro v8 w8 own8 hg8 hb8 hx8)
    obtain ⟨e1, e2⟩ := kidsQ_bad x HI.out hgw HX4.out K4.out own8 hg8
    have E1 := Lib.hid e1
    clear e1 e2 own8 hg8 hb8 hx8 own4
    go_wp2_with fail
    refine (xIs 124 g n w8 E1.out.qx).mono ?_
    rintro e w9 ⟨rfl, hb9⟩
    have hx9 := E1.out.qx.below hb9
    have e3 : KidsX w g n v8 w9 ((roots ns.length ts).map (fun k : Nat => (k : Int)) ++ [x]) := ⟨own_below E1.out.own hb9, hx9, E1.out.pk.trans (.of_below hb9 (Nat.le_of_lt E1.out.qx.lt)), E1.out.ne⟩
    have l9 := hx9.qLen (N := N)
    have HE3 := Lib.hid e3; have HL9 := Lib.hid l9
    clear e3 l9 hx9
    go_wp2
    go_roundw
    case rel => exact .inr ⟨n, _, HE3.out, by omega, rfl, HNO⟩
    case measure => simp [boolN]; rw [HL9.out, HlS.out]; omega
   | some q =>
    obtain ⟨ts1, s1, d1⟩ := q
    rw [hit] at o4 ha
    obtain ⟨rfl, h4⟩ := o4
    dsimp only at ha h4
    have hcn := (rowF_cnt hit).1
    have hro := rowOf_cnt ts1
    have hll := rowF_len hit
    obtain ⟨kid, hkid⟩ : ∃ kid, (ns ++ flats ns.length ts).length + (rowOf ts1).cnt - 1 = kid := ⟨_, rfl⟩
    rw [hkid]
    have Hk := Lib.hid hkid; have Ha2 := Lib.hid ha; have H4 := Lib.hid h4; have K4 := Lib.hid k4
    clear ha h4 k4 hit hown hkid
    go_upto_region 4 with (at_builtin; refine wpList_app _ rfl intE rfl rfl (own4.alloc _) rfl (row_new w4 _ [_]) (by simp [Value.oneCell']) (by first | omega | (simp; omega)) (by simp; omega) ?_; intro v8 w8 own8 hg8 hb8 hx8)
    obtain ⟨e1, e2⟩ := kidsQ_next (t := rowOf ts1) (kid := kid) HI.out hgw H4.out K4.out Hk.out.symm own8 hg8 hx8 (by omega) (by omega)
    have hv := qIs_any 124 g N w8 s1 _ _ _ e1.ps
    have E1 := Lib.hid e1
    clear e1 e2 own8 hg8 hb8 hx8 own4
    by_cases hc : s1.head? = some 124
    ·rw [if_pos hc, decide_eq_true hc] at hv
     have htl2 := tail_lt hc
     have hans2 : (altF s1.tail).map (fun p => ((ts ++ [rowOf ts1]) ++ p.1, p.2.1, max (max d d1) p.2.2)) = ANS := by
      rw [← Ha2.out, if_pos hc]
      cases altF s1.tail with
      | none => rfl
      | some p => simp [Nat.max_assoc]
     have HV := Lib.hid hv; have HA2 := Lib.hid hans2
     clear hv hans2 hc
     go_wp2_with fail
     refine HV.out.mono ?_
     rintro e w9 ⟨rfl, h9, k9⟩
     have e3 := kidsQ_keep E1.out h9 k9 (by omega)
     have l9 := h9.qLen
     have HE3 := Lib.hid e3; have HL9 := Lib.hid l9
     clear e3 l9 h9 k9
     go_wp2
     go_roundw
     case rel => exact .inl ⟨ts ++ [rowOf ts1], s1.tail, _, _, HE3.out, by omega, .inl ⟨rfl, HA2, by rw [cnts_app]; simp only [cnts]; omega, by rw [List.length_append]; show ts.length + 1 + _ ≤ _; omega⟩⟩
     case measure => simp [boolN]; rw [HL9.out, HlS.out]; omega
    ·rw [if_neg hc, decide_eq_false hc] at hv
     have hans2 : ANS = some (ts ++ [rowOf ts1], s1, max d d1) := by rw [← Ha2.out, if_neg hc]; rfl
     have HV := Lib.hid hv; have HA2 := Lib.hid hans2
     clear hv hans2 hc
     go_wp2_with fail
     refine HV.out.mono ?_
     rintro e w9 ⟨rfl, h9, k9⟩
     have e3 := kidsQ_keep E1.out h9 k9 (Nat.le_refl _)
     have l9 := h9.qLen
     have HE3 := Lib.hid e3; have HL9 := Lib.hid l9
     clear e3 l9 h9 k9
     go_wp2
     go_roundw
     case rel => exact .inl ⟨ts ++ [rowOf ts1], s1, _, _, HE3.out, by omega, .inr ⟨rfl, by simp, HA2⟩⟩
     case measure => simp [boolN]; rw [HL9.out, HlS.out]; omega
  ·obtain ⟨A3, c3, rfl, hc3⟩ := own_form hI.own
   have hout : OUT = some (manyR .alt ts, s, d) := by rw [← HO.out, hans.out]; rfl
   clear hans
   match ts, hne, hI, hout with
   | [t], _, hI2, hout =>
    have hv := qKidsOne KK hI2 HF.out
    have ho2 : OUT = some (t, s, d) := hout
    rw [← ho2] at hv
    obtain ⟨g3, rfl, hg3a, hg3b, -, -, hc0⟩ := own_at hI2.own (by simp)
    have c0 : wo.cell? ⟨g3, 0, none⟩ = some (.int .i64 ((ns.length + t.cnt - 1 : Nat) : Int)) := by
     rw [hc0 0 (by simp), roots_one]; rfl
    obtain ⟨kv, hkv⟩ : ∃ kv, ns.length + t.cnt - 1 = kv := ⟨_, rfl⟩
    rw [hkv] at hv c0
    have HV := Lib.hid hv
    clear hv ho2 hout hI2 hc0 hkv
    go_wp2
    go_ret
    exact ⟨HV.out.1, HV.out.2⟩
   | t :: u :: r, _, hI2, hout =>
    obtain ⟨m, hm⟩ : ∃ m, (t :: u :: r).length = m := ⟨_, rfl⟩
    have hm2 : 2 ≤ m := by rw [← hm]; simp
    have z7 : ((m : Int) == 1) = false := by simp; omega
    rw [hm] at hI2 ⊢
    have hv := qKidsNode KK 4 .alt (fun _ _ => rfl) (fun _ => rfl) hm.symm hI2 HF.out (by omega)
    have ho2 : OUT = some (.alt (t :: u :: r), s, d) := hout
    rw [← ho2] at hv
    have HV := Lib.hid hv
    clear hv ho2 hout hI2 hm
    go_wp2_with fail
    refine HV.out.mono ?_
    rintro e w9 ⟨x9, rfl, k9, o9⟩
    have O9 := Lib.hid o9
    clear o9
    go_wp2
    go_ret
    exact ⟨k9, O9.out⟩
  ·have hout : OUT = none := by rw [← HO.out, hno.out]; rfl
   have HOU := Lib.hid hout
   obtain ⟨A3, c3, rfl, -⟩ := own_form hX.own
   have hq2 := hX.qx
   have own2 := hX.own
   have kq2 := hX.pk
   have hne := hX.ne
   obtain ⟨g3, hg3, -, -, -, -, -⟩ := own_at own2 (List.length_pos_iff.2 hne)
   subst hg3
   clear hX hout hno
   match xs, hne, own2 with
   | [x], _, own2 =>
    obtain ⟨g4, hg4, -, -, -, -, hc0⟩ := own_at own2 (by simp)
    cases hg4
    have c0 : wo.cell? ⟨g3, 0, none⟩ = some (.int .i64 x) := by rw [hc0 0 (by simp)]; rfl
    have HQ2 := Lib.hid hq2; have KQ2 := Lib.hid kq2
    clear hq2 kq2 own2 hc0
    go_wp2
    go_ret
    exact ⟨KQ2.out, by rw [HOU.out]; exact ⟨x, n, rfl, HQ2.out, by omega⟩⟩
   | x :: y :: r, _, own2 =>
    obtain ⟨m, hm⟩ : ∃ m, (x :: y :: r).length = m := ⟨_, rfl⟩
    have hm2 : 2 ≤ m := by rw [← hm]; simp
    have z7 : ((m : Int) == 1) = false := by simp; omega
    have hv := xNode 4 0 0 (some ⟨g3, 0, none⟩) m c3 none 0 0 g n wo hq2 (by omega)
    have HV := Lib.hid hv; have KQ2 := Lib.hid kq2
    rw [hm]
    clear hv hq2 kq2 own2 hm
    go_wp2_with fail
    refine HV.out.mono ?_
    rintro e w3 ⟨rfl, h3, k3⟩
    have H3 := Lib.hid h3; have K3 := Lib.hid k3
    clear h3 k3
    go_wp2
    go_ret
    exact ⟨KQ2.out.trans K3.out, by rw [HOU.out]; exact ⟨n, n + 1, rfl, H3.out, by omega⟩⟩
theorem allQ : ∀ L : Nat, QAltC L
 | 0 => qAlt 0 (qRow 0 (qItem 0 (qAtom 0 fun K hK => absurd hK (Nat.not_lt_zero K))))
 | L + 1 => qAlt (L + 1) (qRow (L + 1) (qItem (L + 1) (qAtom (L + 1) fun K hK F g N w rs ns deep most hL => allQ L F g N w rs ns deep most (by omega))))
end Go.Proofs.YtecejnilajbdpaaGreatDoor
namespace Garner
open Go
end Garner
