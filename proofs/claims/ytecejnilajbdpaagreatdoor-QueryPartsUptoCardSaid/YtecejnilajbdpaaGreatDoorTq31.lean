import Derived.Test.YtecejnilajbdpaaGreatDoorTq19
import Derived.Laws.Runes
import Derived.Test.YtecejnilajbdpaaGreatDoorTq17
import Derived.Test.YtecejnilajbdpaaGreatDoorTq20
import Derived.Test.YtecejnilajbdpaaGreatDoorTq07
import Derived.Test.YtecejnilajbdpaaGreatDoorTq24
import Derived.Test.YtecejnilajbdpaaGreatDoorTq30
/-! label: name, Canon of one label; query: named -/
namespace Garner
open Go
theorem dec_byte (l : Bs) (pos : Nat) (b : UInt8) (hb : l[pos]? = some b) : (b.toNat < 128 ∧ Utf8.decode ⟨l.toArray⟩ pos = (b.toNat, 1)) ∨ (128 ≤ b.toNat ∧ 128 ≤ (Utf8.decode ⟨l.toArray⟩ pos).1) := by
  have e : (⟨l.toArray⟩ : ByteArray).data.toList = l := by simp
  rw [Lib.decode_N, e]
  have h0 : l.getD pos 0 = b := by rw [List.getD_eq_getElem?_getD, hb]; rfl
  rw [h0]
  generalize (l.getD (pos + 1) 0).toNat = b1
  generalize (l.getD (pos + 2) 0).toNat = b2
  generalize (l.getD (pos + 3) 0).toNat = b3
  generalize l.length - pos = N
  by_cases h : b.toNat < 128
  · exact .inl ⟨h, by unfold Lib.decodeN; rw [if_pos h]⟩
  · refine .inr ⟨by omega, ?_⟩
    unfold Lib.decodeN
    rw [if_neg h]
    repeat' split
    all_goals (try simp only)
    all_goals omega
theorem nameAll_at {f : Bool} {s : Bs} {k : Nat} {b : UInt8} (h : s[k]? = some b) : nameAll f (s.drop k) = (nameC f b && nameAll false (s.drop (k + 1))) := by
  obtain ⟨h1, h2⟩ := List.getElem?_eq_some_iff.1 h
  rw [List.drop_eq_getElem_cons h1, h2, nameAll]
end Garner
namespace Go.Proofs.YtecejnilajbdpaaGreatDoor
open Go.RowKit Garner
/-- where a loop over a name's runes stands -/
structure NameS (w wr : World) (s : Bs) (pos : Nat) : Prop where
  it : wr.heap[w.heap.size]? = some (.stringIter ⟨s.toArray⟩ pos)
  low : Below w.heap.size w wr
  eq : nameAll true s = nameAll (decide (pos = 0)) (s.drop pos)
set_option maxRecDepth 100000 in
set_option maxHeartbeats 32000000 in
theorem vLName (S : ByteArray) (s : Bs) (hS : S = ⟨s.toArray⟩) (w : World) (hl : s.length ≤ 9223372036854775807) :
    Calls Tryz.prog 117 #[.string S] w fun e w' => e = .returned (.bool (nameP s)) ∧ Below w.heap.size w w' := by
  have hsz := str_size s
  obtain ⟨ANS, hA⟩ : ∃ ANS, nameP s = ANS := ⟨_, rfl⟩
  rw [hA]
  have HS := Lib.hid hS; have Hsz := Lib.hid hsz; have HA := Lib.hid hA
  clear hS hsz hA
  go_enter Tryz.func117, Tryz.ntmps117
  go_wp2
  go_loopw [] (fun wr => ∃ pos : Nat, Hid (NameS w wr s pos)) (fun wr => s.length - wr.iterPos w.heap.size)
  case atStart =>
    refine ⟨0, Lib.hid ⟨?_, (Below.refl _ w).alloc (Nat.le_refl _) _, rfl⟩⟩
    rw [← HS.out]; exact World.iter_heap w S 0
  case round =>
    obtain ⟨pos, hst⟩ := hrel
    have hit := hst.out.it
    have hsz := Hsz.out
    rw [← HS.out] at hit hsz
    by_cases hpos : pos < s.length
    · obtain ⟨b, hb⟩ : ∃ b, s[pos]? = some b := ⟨_, List.getElem?_eq_getElem hpos⟩
      have hdb := dec_byte s pos b hb
      obtain ⟨r, hr⟩ : ∃ r, (Utf8.decode ⟨s.toArray⟩ pos).1 = r := ⟨_, rfl⟩
      obtain ⟨q', hq⟩ : ∃ q', (Utf8.decode ⟨s.toArray⟩ pos).2 = q' := ⟨_, rfl⟩
      have hde : Utf8.decode ⟨s.toArray⟩ pos = (r, q') := Prod.ext hr hq
      rw [hde] at hdb
      have hnx : ∀ ty, (Instr.next (.pointer (some ⟨w.heap.size, 0, none⟩)) true ty).run Tryz.prog wr = _ := fun ty => Lib.run_next_any_at wr w.heap.size S pos ty hit (by omega)
      rw [HS.out, hde] at hnx
      obtain ⟨Y, hY⟩ : ∃ Y, Y = wr.iterAt w.heap.size ⟨s.toArray⟩ (pos + q') := ⟨_, rfl⟩
      rw [← hY] at hnx
      have hitY : Y.heap[w.heap.size]? = some (.stringIter ⟨s.toArray⟩ (pos + q')) := by rw [hY]; exact Lib.iterAt_heap _ _ _ _ _ hst.out.it
      have hlow : Below w.heap.size w Y := by rw [hY]; exact Lib.below_iterAt hst.out.low (Nat.le_refl _) _ _
      have heq := hst.out.eq
      rw [nameAll_at hb] at heq
      have hit1 : wr.iterPos w.heap.size = pos := by simp only [World.iterPos, hst.out.it]
      have hbad : nameC (decide (pos = 0)) b = false → ANS = false := fun h => by rw [← HA.out, nameP, heq, h]; simp
      have HIt := Lib.hid hitY; have HLow := Lib.hid hlow; have HEq := Lib.hid heq; have HIt1 := Lib.hid hit1; have HBad := Lib.hid hbad
      have hlow9 : Below w.heap.size w Y := hlow
      have hpn : (pos = 0 ∧ (pos : Int) = 0) ∨ (0 < pos) := by omega
      have hcase : ((r < 48 ∨ (57 < r ∧ r < 95) ∨ r = 96 ∨ 122 < r) ∧ nameC (decide (pos = 0)) b = false) ∨ (((48 ≤ r ∧ r ≤ 57) ∧ pos = 0) ∧ nameC (decide (pos = 0)) b = false) ∨ ((((48 ≤ r ∧ r ≤ 57) ∧ 0 < pos) ∨ r = 95 ∨ (97 ≤ r ∧ r ≤ 122)) ∧ nameC (decide (pos = 0)) b = true ∧ q' = 1) := by
        rcases hdb with ⟨h1, h2⟩ | ⟨h1, h2⟩
        · injection h2 with h3 h4
          have hn : nameC (decide (pos = 0)) b = (decide (r = 95) || (decide (97 ≤ r) && decide (r ≤ 122)) || (!decide (pos = 0) && (decide (48 ≤ r) && decide (r ≤ 57)))) := by unfold nameC; rw [h3]
          rw [hn, h4]
          have hcc : (r < 48 ∨ (57 < r ∧ r < 95) ∨ r = 96 ∨ 122 < r) ∨ ((48 ≤ r ∧ r ≤ 57) ∧ pos = 0) ∨ (((48 ≤ r ∧ r ≤ 57) ∧ 0 < pos) ∨ r = 95 ∨ (97 ≤ r ∧ r ≤ 122)) := by omega
          rcases hcc with h | h | h
          · refine .inl ⟨h, ?_⟩
            simp; omega
          · refine .inr (.inl ⟨h, ?_⟩)
            simp; omega
          · refine .inr (.inr ⟨h, ?_, rfl⟩)
            simp; omega
        · have h2 : 128 ≤ r := h2
          refine .inl ⟨by omega, ?_⟩
          unfold nameC
          simp; omega
      clear hitY hlow heq hit1 hbad hb hdb hde hr hq hst hit hsz hY
      rcases hcase with ⟨hr2, hno⟩ | ⟨⟨hr2, hp0⟩, hno⟩ | ⟨hr2, hyes, rfl⟩
      · have hans := HBad.out hno
        have HAn := Lib.hid hans
        clear hans hno
        have hr3 : ((r : Int) == 95) = false := by simp; omega
        have hr4 : ((r : Int) != 95) = true := by simp; omega
        rcases hpn with ⟨h0, -⟩ | h0
        · subst h0
          rcases hr2 with h | h | h | h
          all_goals
            go_wp2
            go_ret
            exact ⟨by rw [HAn.out]; rfl, HLow.out⟩
        · have hp3 : ((pos : Int) == 0) = false := by simp; omega
          have hp4 : ¬ (pos : Int) = 0 := by omega
          rcases hr2 with h | h | h | h
          all_goals
            go_wp2
            go_ret
            exact ⟨by rw [HAn.out]; rfl, HLow.out⟩
      · have hans := HBad.out hno
        have HAn := Lib.hid hans
        clear hans hno hpn
        subst hp0
        have hr3 : ((r : Int) == 95) = false := by simp; omega
        have hr4 : ((r : Int) != 95) = true := by simp; omega
        go_wp2
        go_ret
        exact ⟨by rw [HAn.out]; rfl, HLow.out⟩
      · have he2 := HEq.out
        rw [hyes, Bool.true_and] at he2
        have HN : Hid (NameS w Y s (pos + 1)) := Lib.hid ⟨HIt.out, HLow.out, he2⟩
        clear he2 hyes
        have hmea : s.length - World.iterPos Y w.heap.size < s.length - World.iterPos wr w.heap.size := by
          rw [HIt1.out]
          simp only [World.iterPos, HIt.out]
          omega
        have HMea := Lib.hid hmea
        clear hmea
        rcases hr2 with ⟨h, h0⟩ | h | h
        · have hp3 : ((pos : Int) == 0) = false := by simp; omega
          have hp4 : ¬ (pos : Int) = 0 := by omega
          have hr3 : ((r : Int) == 95) = false := by simp; omega
          have hr4 : ((r : Int) != 95) = true := by simp; omega
          go_wp2
          exact ⟨⟨pos + 1, HN⟩, HMea.out⟩
        · subst h
          go_wp2
          exact ⟨⟨pos + 1, HN⟩, HMea.out⟩
        · have hr3 : ((r : Int) == 95) = false := by simp; omega
          have hr4 : ((r : Int) != 95) = true := by simp; omega
          go_wp2
          exact ⟨⟨pos + 1, HN⟩, HMea.out⟩
    · have hnx : ∀ ty, (Instr.next (.pointer (some ⟨w.heap.size, 0, none⟩)) true ty).run Tryz.prog wr = _ := fun ty => Lib.run_next_end_at wr w.heap.size S pos ty hit (by omega)
      have heq := hst.out.eq
      rw [List.drop_eq_nil_of_le (by omega), nameAll] at heq
      have hans : ANS = (decide (1 ≤ s.length) && decide (s.length ≤ 32)) := by rw [← HA.out, nameP, heq, Bool.and_true]
      obtain ⟨n, hn⟩ : ∃ n, s.length = n := ⟨_, rfl⟩
      rw [hn] at hsz hans
      have HAn := Lib.hid hans; have HL := Lib.hid hst.out.low
      have hcase : n = 0 ∨ (1 ≤ n ∧ n ≤ 32) ∨ 32 < n := by omega
      clear hans hst heq hn hpos
      have hsz2 : S.size = n := hsz
      have hz := Lib.hid hsz2
      clear hsz
      rcases hcase with rfl | ⟨h1, h2⟩ | h1
      · have z1 : ¬ (0 : Int) < (S.size : Int) := by omega
        clear hsz2
        go_wp2
        go_ret
        exact ⟨by rw [HAn.out]; rfl, HL.out⟩
      · have z1 : (0 : Int) < (S.size : Int) := by omega
        have z2 : (S.size : Int) ≤ 32 := by omega
        clear hsz2
        have hb : ANS = true := by rw [HAn.out, decide_eq_true h1, decide_eq_true h2]; rfl
        have HB := Lib.hid hb
        clear hb HAn
        go_wp2
        go_ret
        exact ⟨by rw [HB.out]; rfl, HL.out⟩
      · have z1 : (0 : Int) < (S.size : Int) := by omega
        have z2 : ¬ (S.size : Int) ≤ 32 := by omega
        clear hsz2
        have hb : ANS = false := by rw [HAn.out, decide_eq_false (show ¬ n ≤ 32 by omega), Bool.and_false]
        have HB := Lib.hid hb
        clear hb HAn
        go_wp2
        go_ret
        exact ⟨by rw [HB.out]; rfl, HL.out⟩
end Go.Proofs.YtecejnilajbdpaaGreatDoor

/-! a text's runes one behind the other; what rexp.Parse answers -/
namespace Garner
open Go
theorem iter_next (l : Bs) (pos : Nat) (h : pos < l.length) : ∃ r q, Utf8.decode ⟨l.toArray⟩ pos = (r, q) ∧ 1 ≤ q ∧ r ≤ 1114111 ∧ runesP (l.drop pos) = r :: runesP (l.drop (pos + q)) := by
  have hd := Lib.decodeL_drop ⟨l.toArray⟩ pos
  have e : (⟨l.toArray⟩ : ByteArray).data.toList = l := by simp
  rw [e] at hd
  have hne : l.drop pos ≠ [] := fun e => by
    have := congrArg List.length e
    rw [List.length_drop] at this
    simp only [List.length_nil] at this
    omega
  refine ⟨(Utf8.decode ⟨l.toArray⟩ pos).1, (Utf8.decode ⟨l.toArray⟩ pos).2, rfl, ?_, ?_, ?_⟩
  · rw [← hd]; exact Lib.decodeL_width _
  · rw [← hd]; exact Lib.decodeL_rune _
  · rw [runes_step hne, hd, List.drop_drop]
/-- of the runes so many are behind -/
structure RunAt (l : Bs) (rs : List Nat) (pos k : Nat) : Prop where
  at_ : rs.drop k = runesP (l.drop pos)
  le : k ≤ rs.length
theorem RunAt.start (l : Bs) : RunAt l (runesP l) 0 0 := ⟨rfl, Nat.zero_le _⟩
theorem RunAt.next {l : Bs} {rs : List Nat} {pos k r q : Nat} (h : RunAt l rs pos k) (hr : runesP (l.drop pos) = r :: runesP (l.drop (pos + q))) : rs[k]? = some r ∧ RunAt l rs (pos + q) (k + 1) := by
  have h1 := h.at_.trans hr
  have hk : rs[k]? = some r := by
    have : (rs.drop k)[0]? = some r := by rw [h1]; rfl
    rwa [List.getElem?_drop, Nat.add_zero] at this
  have hlt := (List.getElem?_eq_some_iff.1 hk).1
  refine ⟨hk, ?_, hlt⟩
  have : (rs.drop k).drop 1 = runesP (l.drop (pos + q)) := by rw [h1]; rfl
  rwa [List.drop_drop] at this
theorem RunAt.done {l : Bs} {rs : List Nat} {pos k : Nat} (h : RunAt l rs pos k) (hp : ¬ pos < l.length) : k = rs.length := by
  have h1 := h.at_
  rw [List.drop_eq_nil_of_le (by omega : l.length ≤ pos)] at h1
  have := congrArg List.length h1
  rw [List.length_drop] at this
  have h2 := h.le
  have h3 : (runesP ([] : Bs)).length = 0 := rfl
  omega
end Garner
namespace Go.Proofs.YtecejnilajbdpaaGreatDoor
open Go.RowKit Garner
theorem err_pos {l : Bs} {k : Nat} (h : rexpP l = .error k) : 0 < k ∧ k ≤ 40 := by
  unfold rexpP at h
  split at h
  · cases h; omega
  split at h
  · cases h; omega
  · unfold readR at h
    split at h
    · cases h; omega
    · split at h
      · cases h; omega
      split at h
      · cases h; omega
      split at h
      · cases h; omega
      · cases h
theorem rexp_good {l : Bs} {t : Re} (h : rexpP l = .ok t) : GoodT t := by
  unfold rexpP at h
  split at h
  · cases h
  · rename_i hl
    split at h
    · cases h
    · exact read_good (by have := runes_len _ l (Nat.le_refl _); omega) h
end Go.Proofs.YtecejnilajbdpaaGreatDoor

/-! autom: node of alternatives -/
namespace Go.Proofs.YtecejnilajbdpaaGreatDoor
open Go.RowKit Garner
set_option maxRecDepth 100000 in
set_option maxHeartbeats 16000000 in
theorem nodeAlt {F : Nat → Prop} {W0 : World} {B0 : Nat} {A : Option Addr} {c : Nat} {ns : List NodeP} (hN : NodesIs F W0 B0 (.slice A ns.length c) ns) (l : List Re) (hne : l ≠ []) (hl : l.length ≤ 10000) (ih : ∀ t ∈ l, CodeC W0 A c ns t) : CodeC W0 A c ns (.alt l) := by
  intro b w g ins hat hBg hp hb hsz
  have hn := last_at (t := .alt l) (l := flats b l) rfl (by rw [flats_len]; rfl) hat
  have hat2 : AtN ns b (flats b l) := AtN.left (m := [_]) hat
  have hkl := (List.getElem?_eq_some_iff.1 hn).1
  obtain ⟨gN, d, rfl, hd, hok, hgN, hcell⟩ := hN.node hn
  obtain ⟨k, hk⟩ : ∃ k, b + Re.cnt (.alt l) - 1 = k := ⟨_, rfl⟩
  rw [hk] at hn hkl hcell ⊢
  have cc : ∀ j, j < 5 → w.cell? ⟨gN, k * 5 + j, none⟩ = d.cells[j]? := fun j hj => by
    rw [hb.cell (p := ⟨gN, k * 5 + j, none⟩) hgN, hcell j hj]
  have c0 : w.cell? ⟨gN, k * 5, none⟩ = some (.int .i64 (d.n.kind : Nat)) := cc 0 (by omega)
  have c1 : w.cell? ⟨gN, k * 5 + 1, none⟩ = some (.slice d.kA d.n.kids.length d.kc) := cc 1 (by omega)
  have c2 : w.cell? ⟨gN, k * 5 + 2, none⟩ = some (.int .i64 (d.n.mn : Nat)) := cc 2 (by omega)
  have c3 : w.cell? ⟨gN, k * 5 + 3, none⟩ = some (.int .i64 d.n.mx) := cc 3 (by omega)
  have c4 : w.cell? ⟨gN, k * 5 + 4, none⟩ = some (.slice d.sA d.n.set.length d.sc) := cc 4 (by omega)
  have hkids := hok.kids
  rw [hd] at c0 c1 c2 c3 c4 hkids
  have hg := hp.lt
  have f0 : w.cell? ⟨g, 0, none⟩ = some (.slice (some ⟨gN, 0, none⟩) ns.length c) := by
    obtain ⟨O, m, h1, -⟩ := hp.ex
    exact h1.cell 0
  obtain ⟨sA, hsA⟩ : ∃ sA, d.sA = sA := ⟨_, rfl⟩
  obtain ⟨sc, hsc⟩ : ∃ sc, d.sc = sc := ⟨_, rfl⟩
  obtain ⟨kA, hkA⟩ : ∃ kA, d.kA = kA := ⟨_, rfl⟩
  obtain ⟨kc, hkc⟩ : ∃ kc, d.kc = kc := ⟨_, rfl⟩
  rw [hsA, hsc] at c4
  rw [hkA, hkc] at c1
  rw [hkA] at hkids
  obtain ⟨kl, hkl2⟩ : ∃ kl, l.length = kl := ⟨_, rfl⟩
  dsimp only at c1 c2 c3 hkids
  rw [roots_length, hkl2] at c1 hkids
  have hbX : Below w.heap.size w (w.alloc (.cells #[.int .i64 4, .slice kA kl kc, .int .i64 0, .int .i64 0, .slice sA 0 sc] 182)) := (Below.refl _ _).alloc (Nat.le_refl _) _
  have pX := hp.below hbX
  have qX := QK.of_below hbX hb.size
  have z1 : (k : Int) < (ns.length : Int) := by omega
  have he := vAltI l hne hl ih b hat2 kA kl kc hkl2 _ g ins hkids hBg pX (QK.from hb qX) hsz
  have He := Lib.hid he; have QX := Lib.hid qX
  clear hcell cc hok hp pX hb hbX hat hat2 hn hN qX hkids ih hsz he
  go_enter Tryz.func93, Tryz.ntmps93
  go_wp2_with fail
  refine He.out.mono ?_
  rintro e w2 ⟨rfl, p2, q2⟩
  have P2 := Lib.hid p2; have Q2 := Lib.hid q2
  clear p2 q2
  go_wp2
  go_end0
  exact ⟨rfl, P2.out, QX.out.trans Q2.out⟩
end Go.Proofs.YtecejnilajbdpaaGreatDoor

