import Derived.Test.YtecejnilajbdpaaGreatDoorTz31
import Derived.Test.YtecejnilajbdpaaGreatDoorTz32
set_option maxRecDepth 100000
set_option maxHeartbeats 16000000
namespace Garner
open Go
theorem iter_next (l : Bs) (pos : Nat) (h : pos < l.length) : ∃ r q, Utf8.decode ⟨l.toArray⟩ pos = (r, q) ∧ 1 ≤ q ∧ r ≤ 1114111 ∧ runesP (l.drop pos) = r :: runesP (l.drop (pos + q)) := by
 have hd := Lib.decodeL_drop ⟨l.toArray⟩ pos
 have e : (⟨l.toArray⟩ : ByteArray).data.toList = l := by simp
 rw [e] at hd
 have hne : l.drop pos ≠ [] := fun e => by
  have := congrArg List.length e
  rw [List.length_drop] at this
  simp only [List.length_nil] at this
  omega
 refine ⟨(Utf8.decode ⟨l.toArray⟩ pos).1, (Utf8.decode ⟨l.toArray⟩ pos).2, rfl, ?_, ?_, ?_⟩
 ·rw [← hd]; exact Lib.decodeL_width _
 ·rw [← hd]; exact Lib.decodeL_rune _
 rw [runes_step hne, hd, List.drop_drop]
structure RunAt (l : Bs) (rs : List Nat) (pos k : Nat) : Prop where
 at_ : rs.drop k = runesP (l.drop pos)
 le : k ≤ rs.length
theorem RunAt.start (l : Bs) : RunAt l (runesP l) 0 0 := ⟨rfl, Nat.zero_le _⟩
theorem RunAt.next {l : Bs} {rs : List Nat} {pos k r q : Nat} (h : RunAt l rs pos k) (hr : runesP (l.drop pos) = r :: runesP (l.drop (pos + q))) : rs[k]? = some r ∧ RunAt l rs (pos + q) (k + 1) := by
 have h1 := h.at_.trans hr
 have hk : rs[k]? = some r := by
  have : (rs.drop k)[0]? = some r := by rw [h1]; rfl
  rwa [List.getElem?_drop, Nat.add_zero] at this
 have hlt := (List.getElem?_eq_some_iff.1 hk).1
 refine ⟨hk, ?_, hlt⟩
 have : (rs.drop k).drop 1 = runesP (l.drop (pos + q)) := by rw [h1]; rfl
 rwa [List.drop_drop] at this
theorem RunAt.done {l : Bs} {rs : List Nat} {pos k : Nat} (h : RunAt l rs pos k) (hp : ¬ pos < l.length) : k = rs.length := by
 have h1 := h.at_
 rw [List.drop_eq_nil_of_le (by omega : l.length ≤ pos)] at h1
 have := congrArg List.length h1
 rw [List.length_drop] at this
 have h2 := h.le
 have h3 : (runesP ([] : Bs)).length = 0 := rfl
 omega
end Garner
namespace Go.Proofs.YtecejnilajbdpaaGreatDoor
open Go.RowKit Garner
theorem err_pos {l : Bs} {k : Nat} (h : rexpP l = .error k) : 0 < k ∧ k ≤ 40 := by
 unfold rexpP at h
 split at h
 ·cases h; omega
 split at h
 ·cases h; omega
 unfold readR at h
 split at h
 ·cases h; omega
 split at h
 ·cases h; omega
 split at h
 ·cases h; omega
 split at h
 ·cases h; omega
 cases h
theorem rexp_good {l : Bs} {t : Re} (h : rexpP l = .ok t) : GoodT t := by
 unfold rexpP at h
 split at h
 ·cases h
 rename_i hl
 split at h
 ·cases h
 exact read_good (by have := runes_len _ l (Nat.le_refl _); omega) h
theorem nodeAlt {F : Nat → Prop} {W0 : World} {B0 : Nat} {A : Option Addr} {c : Nat} {ns : List NodeP} (hN : NodesIs F W0 B0 (.slice A ns.length c) ns) (l : List Re) (hne : l ≠ []) (hl : l.length ≤ 10000) (ih : ∀ t ∈ l, CodeC W0 A c ns t) : CodeC W0 A c ns (.alt l) := by
 intro b w g ins hat hBg hp hb hsz
 have hn := last_at (t := .alt l) (l := flats b l) rfl (by rw [flats_len]; rfl) hat
 have hat2 : AtN ns b (flats b l) := AtN.left (m := [_]) hat
 have hkl := (List.getElem?_eq_some_iff.1 hn).1
 obtain ⟨gN, d, rfl, hd, hok, hgN, hcell⟩ := hN.node hn
 obtain ⟨k, hk⟩ : ∃ k, b + Re.cnt (.alt l) - 1 = k := ⟨_, rfl⟩
 rw [hk] at hn hkl hcell ⊢
 have cc : ∀ j, j < 5 → w.cell? ⟨gN, k * 5 + j, none⟩ = d.cells[j]? := fun j hj => by
  rw [hb.cell (p := ⟨gN, k * 5 + j, none⟩) hgN, hcell j hj]
 have c0 : w.cell? ⟨gN, k * 5, none⟩ = some (.int .i64 (d.n.kind : Nat)) := cc 0 (by omega)
 have c1 : w.cell? ⟨gN, k * 5 + 1, none⟩ = some (.slice d.kA d.n.kids.length d.kc) := cc 1 (by omega)
 have c2 : w.cell? ⟨gN, k * 5 + 2, none⟩ = some (.int .i64 (d.n.mn : Nat)) := cc 2 (by omega)
 have c3 : w.cell? ⟨gN, k * 5 + 3, none⟩ = some (.int .i64 d.n.mx) := cc 3 (by omega)
 have c4 : w.cell? ⟨gN, k * 5 + 4, none⟩ = some (.slice d.sA d.n.set.length d.sc) := cc 4 (by omega)
 have hkids := hok.kids
 rw [hd] at c0 c1 c2 c3 c4 hkids
 have hg := hp.lt
 have f0 : w.cell? ⟨g, 0, none⟩ = some (.slice (some ⟨gN, 0, none⟩) ns.length c) := by
  obtain ⟨O, m, h1, -⟩ := hp.ex
  exact h1.cell 0
 obtain ⟨sA, hsA⟩ : ∃ sA, d.sA = sA := ⟨_, rfl⟩
 obtain ⟨sc, hsc⟩ : ∃ sc, d.sc = sc := ⟨_, rfl⟩
 obtain ⟨kA, hkA⟩ : ∃ kA, d.kA = kA := ⟨_, rfl⟩
 obtain ⟨kc, hkc⟩ : ∃ kc, d.kc = kc := ⟨_, rfl⟩
 rw [hsA, hsc] at c4
 rw [hkA, hkc] at c1
 rw [hkA] at hkids
 obtain ⟨kl, hkl2⟩ : ∃ kl, l.length = kl := ⟨_, rfl⟩
 dsimp only at c1 c2 c3 hkids
 rw [roots_length, hkl2] at c1 hkids
 have hbX : Below w.heap.size w (w.alloc (.cells #[.int .i64 4, .slice kA kl kc, .int .i64 0, .int .i64 0, .slice sA 0 sc] 182)) := (Below.refl _ _).alloc (Nat.le_refl _) _
 have pX := hp.below hbX
 have qX := QK.of_below hbX hb.size
 have z1 : (k : Int) < (ns.length : Int) := by omega
 have he := vAltI l hne hl ih b hat2 kA kl kc hkl2 _ g ins hkids hBg pX (QK.from hb qX) hsz
 have He := Lh he; have QX := Lh qX
 clear hcell cc hok hp pX hb hbX hat hat2 hn hN qX hkids ih hsz he
 go_enter Tryz.func93, Tryz.ntmps93
 go_wp2_with fail
 refine He.out.mono ?_
 rintro e w2 ⟨rfl, p2, q2⟩
 have P2 := Lh p2; have Q2 := Lh q2
 clear p2 q2
 go_wp2
 go_end0
 exact ⟨rfl, P2.out, QX.out.trans Q2.out⟩
theorem cnt_mem : ∀ {l : List Re} {u : Re}, u ∈ l → u.cnt ≤ cnts l
 | t :: l, u, h => by
  rcases List.mem_cons.1 h with rfl | h
  ·simp only [cnts]; omega
  have := cnt_mem h; simp only [cnts]; omega
theorem oks_mem : ∀ {l : List Re} {u : Re}, oks l → u ∈ l → u.ok
 | t :: l, u, h, hu => by
  rcases List.mem_cons.1 hu with rfl | hu
  ·exact h.1
  exact oks_mem h.2 hu
theorem lims_mem : ∀ {l : List Re} {u : Re}, lims l → u ∈ l → u.lim
 | t :: l, u, h, hu => by
  rcases List.mem_cons.1 hu with rfl | hu
  ·exact h.1
  exact lims_mem h.2 hu
theorem codeAll {F : Nat → Prop} {W0 : World} {B0 : Nat} {A : Option Addr} {c : Nat} {ns : List NodeP} (hN : NodesIs F W0 B0 (.slice A ns.length c) ns) : ∀ (n : Nat) (t : Re), t.cnt ≤ n → t.cnt ≤ 10000 → t.ok → t.lim → CodeC W0 A c ns t
 | 0, t, h, _, _, _ => by cases t <;> simp [Re.cnt] at h
 | n + 1, .emp, _, _, _, _ => nodeEmp hN
 | n + 1, .set l, _, _, _, _ => nodeSet hN l
 | n + 1, .bgn, _, _, _, _ => nodeEdge hN .bgn (.inl rfl)
 | n + 1, .fin, _, _, _, _ => nodeEdge hN .fin (.inr rfl)
 | n + 1, .seq l, h, hc, ho, hm => by
  have e : (Re.seq l).cnt = cnts l + 1 := rfl
  have hl := len_cnts l
  exact nodeSeq hN l (by omega) fun u hu => codeAll hN n u (by have := cnt_mem hu; omega) (by have := cnt_mem hu; omega) (oks_mem ho hu) (lims_mem hm hu)
 | n + 1, .alt l, h, hc, ho, hm => by
  have e : (Re.alt l).cnt = cnts l + 1 := rfl
  have hl := len_cnts l
  exact nodeAlt hN l ho.1 (by omega) fun u hu => codeAll hN n u (by have := cnt_mem hu; omega) (by have := cnt_mem hu; omega) (oks_mem ho.2 hu) (lims_mem hm hu)
 | n + 1, .rep k mn none, h, hc, ho, hm => by
  have e : (Re.rep k mn none).cnt = k.cnt + 1 := rfl
  exact nodeRepN hN k mn hm.2.1 (codeAll hN n k (by omega) (by omega) ho.1 hm.1)
 | n + 1, .rep k mn (some mx), h, hc, ho, hm => by
  have e : (Re.rep k mn (some mx)).cnt = k.cnt + 1 := rfl
  exact nodeRepM hN k mn mx hm.2.1 (hm.2.2 mx rfl) (ho.2 mx rfl) (codeAll hN n k (by omega) (by omega) ho.1 hm.1)
theorem vCompile {F : Nat → Prop} {B0 : Nat} (w : World) (A : Option Addr) (c N : Nat) (t : Re) (hNl : (t.flat 0).length = N) (hN : NodesIs F w B0 (.slice A N c) (t.flat 0)) (hc : t.cnt ≤ 10000) (ho : t.ok) (hm : t.lim) (hl : t.len ≤ 80000) :
  Calls Tryz.prog 66 #[.slice A N c] w fun e w' => ∃ g, e = .returned (.pointer (some ⟨g, 0, none⟩)) ∧ w.heap.size ≤ g ∧ ProgIs w w.heap.size (.slice A N c) w' g (t.code 0 ++ [⟨4, 0, 0, []⟩]) ∧ Below w.heap.size w w' := by
 have hcnt : N = t.cnt := by rw [← hNl, flat_len]
 have hpos : 0 < t.cnt := by cases t <;> simp [Re.cnt]
 subst hNl
 have hall := codeAll hN t.cnt t (Nat.le_refl _) hc ho hm
 obtain ⟨X, hX⟩ : ∃ X, X = w.alloc (.cells #[.slice A (t.flat 0).length c, .slice none 0 0] 157) := ⟨_, rfl⟩
 have hbX : Below w.heap.size w X := by rw [hX]; exact (Below.refl _ _).alloc (Nat.le_refl _) _
 have bX : Blk X w.heap.size 157 [.slice A (t.flat 0).length c, .slice none 0 0] := by rw [hX]; exact Blk.new w _ _
 have pX : ProgIs w w.heap.size (.slice A (t.flat 0).length c) X w.heap.size [] := ⟨⟨none, 0, bX, [], rfl, World.ownsRow_nil _ _ _ _, fun d hd => (by cases hd)⟩, by simp⟩
 have hcl := hall 0 X w.heap.size [] (fun k n hk => by rw [Nat.zero_add]; exact hk) (Nat.le_refl _) pX hbX (by simp; omega)
 obtain ⟨N, hNN⟩ : ∃ N, (t.flat 0).length = N := ⟨_, rfl⟩
 rw [hNN] at hcl hX hcnt ⊢
 rw [Nat.zero_add, ← hcnt, List.nil_append] at hcl
 have wN : IntKind.i64.wrap ((N : Int) - 1) = ((N - 1 : Nat) : Int) := by rw [IntKind.wrap_i64]; omega
 have hlc := code_len t 0
 have HC := Lh hcl; have HB := Lh hbX; have Hlc := Lh hlc; have Hl := Lh hl
 clear hcl hbX hlc hall hN bX pX hNN hcnt hpos hc hl
 go_enter Tryz.func66, Tryz.ntmps66
 go_wp2_with fail
 rw [← hX]
 refine HC.out.mono ?_
 rintro e w2 ⟨rfl, p2, q2⟩
 have hW2 := QK.from HB.out q2
 have he := vEmit ⟨⟨4, 0, 0, []⟩, none, 0⟩ w2 w.heap.size _ p2 hW2.size (Nat.le_refl _) (by exact RowT.nil) (by have h1 := Hlc.out; have h2 := Hl.out; simp only [List.length_nil]; omega)
 have He := Lh he; have HW2 := Lh hW2
 clear he p2 q2 hW2 hX
 go_wp2_with fail
 refine He.out.mono ?_
 rintro e w3 ⟨rfl, p3, q3⟩
 have P3 := Lh p3; have Q3 := Lh q3
 clear p3 q3
 go_wp2
 go_ret
 exact ⟨w.heap.size, rfl, Nat.le_refl _, P3.out, QK.from HW2.out Q3.out⟩
theorem vHas (l sub : Bs) (w : World) (hL : Lt w) (hl : l.length < 4294967281) :
  Calls Tryz.prog 45 #[str l, str sub] w fun e w' => e = .returned (.bool (Lib.contains l sub)) ∧ w' = w := by
 go_enter Tryz.func45, Tryz.ntmps45
 go_wp2_with fail
 refine (cContains l sub w hL hl).mono ?_
 rintro e w1 ⟨rfl, rfl⟩
 go_wp2
 go_ret
 exact ⟨rfl, rfl⟩
open Go.Shelf
theorem sIndexByte (s : ByteArray) (c : Int) (w : World) : Calls Tryz.prog 151 #[.string s, .int .u8 c] w fun e w' => e = .returned (.int .i64 (Lib.indexByte s.data.toList c.toNat.toUInt8)) ∧ w' = w :=
 Any.stringslite_IndexByte { Tryz.lays137 with } s c w
theorem sIndex1 (l : Bs) (c : UInt8) (w : World) :
  Calls Tryz.prog 133 #[str l, .string ⟨#[c]⟩] w fun e w' => e = .returned (.int .i64 (Lib.indexByte l c)) ∧ w' = w := by
 have hi := sIndexByte ⟨l.toArray⟩ (c.toNat : Int) w
 have e1 : ((c.toNat : Int).toNat.toUInt8) = c := by simp
 rw [e1, str_list] at hi
 clear e1
 go_enter Tryz.func133, Tryz.ntmps133
 go_wp2_with (refine hi.mono ?_; rintro e wy ⟨rfl, hz⟩; obtain rfl : w = wy := hz.symm)
 ·rename_i h
  have h : [c] = l := by simpa using h
  go_ret
  refine ⟨?_, rfl⟩
  rw [← h]
  show _ = Ending.returned (.int .i64 (Lib.indexByte [c] c))
  simp [Lib.indexByte]
 go_ret
 exact ⟨rfl, rfl⟩
theorem sIndexS1 (S : ByteArray) (c : UInt8) (w : World) :
  Calls Tryz.prog 99 #[.string S, .string ⟨#[c]⟩] w fun e w' => e = .returned (.int .i64 (Lib.indexByte S.data.toList c)) ∧ w' = w := by
 have hi := sIndex1 S.data.toList c w
 have eS : str S.data.toList = .string S := by cases S; simp [str]
 rw [eS] at hi
 clear eS
 go_enter Tryz.func99, Tryz.ntmps99
 go_wp2_with (with_reducible refine hi.mono ?_; rintro e wy ⟨rfl, hz⟩; obtain rfl : w = wy := hz.symm)
 go_ret
 exact ⟨rfl, rfl⟩
theorem contains_byte {l : Bs} {c : UInt8} : Lib.contains l [c] = decide (0 ≤ Lib.indexByte l c) := by
 rw [← Lib.contains_iff_indexByte, Bool.eq_iff_iff, contains_one, List.contains_iff_mem]
theorem sContains1 (S : ByteArray) (c : UInt8) (w : World) :
  Calls Tryz.prog 70 #[.string S, .string ⟨#[c]⟩] w fun e w' => e = .returned (.bool (Lib.contains S.data.toList [c])) ∧ w' = w := by
 have hi := sIndexS1 S c w
 rw [contains_byte]
 go_enter Tryz.func70, Tryz.ntmps70
 go_wp2_with (with_reducible refine hi.mono ?_; rintro e wy ⟨rfl, hz⟩; obtain rfl : w = wy := hz.symm)
 go_ret
 exact ⟨rfl, rfl⟩
structure KidsQ (F : Nat → Prop) (w : World) (g N : Nat) (ns : List NodeP) (deep most B : Nat) (v : Value) (wr : World) (ts : List Re) (s : List Nat) (d : Nat) (G : Nat → Prop) : Prop where
 own : wr.ownsRow w.heap.size 3 1 v ts.length ((roots ns.length ts).map iv)
 ps : QS G wr g N s (ns ++ flats ns.length ts) deep (max most (deep + d))
 gF : ∀ k, G k → Ext F w wr k
 gv : ∀ k, v.ownBlock = some k → ¬ G k
 pk : QP g w wr
 cnt : ns.length + cnts ts + 4 * s.length ≤ B
 dl : ts.length + s.length ≤ 300
structure KidsX (w : World) (g n : Nat) (v : Value) (wr : World) (xs : List Int) : Prop where
 own : wr.ownsRow w.heap.size 3 1 v xs.length (xs.map (Value.int .i64))
 qx : QX wr g n
 pk : QP g w wr
 ne : xs ≠ []
theorem kidsQ_below {F : Nat → Prop} {w wr w3 : World} {g N : Nat} {ns : List NodeP} {deep most B : Nat} {v : Value} {ts : List Re} {s : List Nat} {d : Nat} {G : Nat → Prop} (hI : KidsQ F w g N ns deep most B v wr ts s d G) (hb : Below wr.heap.size wr w3) : KidsQ F w g N ns deep most B v w3 ts s d G := by
 have := hb.size
 refine ⟨own_below hI.own hb, hI.ps.below hb, fun k hk => ?_, hI.gv, hI.pk.trans (.of_below hb (Nat.le_of_lt hI.ps.lt)), hI.cnt, hI.dl⟩
 rcases hI.gF k hk with h | h
 ·exact .inl h
 exact .inr ⟨h.1, by omega⟩
theorem kidsQ_keep {F : Nat → Prop} {w wr w3 : World} {g N : Nat} {ns : List NodeP} {deep most B : Nat} {v : Value} {ts : List Re} {s s' : List Nat} {d : Nat} {G : Nat → Prop} (hI : KidsQ F w g N ns deep most B v wr ts s d G) (h3 : QS G w3 g N s' (ns ++ flats ns.length ts) deep (max most (deep + d))) (k3 : QP g wr w3) (hs : s'.length ≤ s.length) : KidsQ F w g N ns deep most B v w3 ts s' d G := by
 have := k3.keep.size
 refine ⟨k3.keep.own hI.own (by decide), h3, fun k hk => ?_, hI.gv, hI.pk.trans k3, by have := hI.cnt; omega, by have := hI.dl; omega⟩
 rcases hI.gF k hk with h | h
 ·exact .inl h
 exact .inr ⟨h.1, by omega⟩
theorem kidsQ_next {F : Nat → Prop} {w wr w2 w8 : World} {g N : Nat} {ns : List NodeP} {deep most B : Nat} {v v8 : Value} {ts : List Re} {s s1 : List Nat} {d d1 kid : Nat} {G : Nat → Prop} {t : Re} (hI : KidsQ F w g N ns deep most B v wr ts s d G) (hgw : g < w.heap.size)
  (h2 : QS (Ext G wr w2) w2 g N s1 ((ns ++ flats ns.length ts) ++ t.flat (ns ++ flats ns.length ts).length) deep (max (max most (deep + d)) (deep + d1))) (k2 : QP g wr w2) (hkid : kid = (ns ++ flats ns.length ts).length + t.cnt - 1)
  (own8 : w8.ownsRow w.heap.size 3 1 v8 (ts.length + 1) ((roots ns.length ts).map iv ++ [iv kid])) (hg8 : (w2.alloc (.cells #[iv kid] 3)).grownBy w8 v.ownBlock)
  (hx : v8.ownBlock = v.ownBlock ∨ v8.ownBlock = some (w2.alloc (.cells #[iv kid] 3)).heap.size) (hcnt : ns.length + (cnts ts + t.cnt) + 4 * s1.length ≤ B) (hdl : ts.length + 1 + s1.length ≤ 300) :
  KidsQ F w g N ns deep most B v8 w8 (ts ++ [t]) s1 (max d d1) (Ext G wr w2) ∧ qLen N g w8 = s1.length + 1 := by
 have hb : Below w2.heap.size w2 (w2.alloc (.cells #[iv kid] 3)) := (Below.refl _ _).alloc (Nat.le_refl _) _
 have hs0 := hI.pk.keep.size
 have hs2 := k2.keep.size
 have hs3 := hb.size
 have hgs := hg8.size
 have own2 : w2.ownsRow w.heap.size 3 1 v ts.length ((roots ns.length ts).map iv) := k2.keep.own hI.own (by decide)
 have own3 := own_below own2 hb
 have hnew : (w2.alloc (.cells #[iv kid] 3)).heap.size = w2.heap.size + 1 := by simp
 have hvE : ∀ k, v.ownBlock = some k → ¬ Ext G wr w2 k := fun k hk hE => by
  rcases hE with hE | hE
  ·exact hI.gv k hk hE
  have := (hI.own.lt k hk).2
  omega
 have h3 := h2.below hb
 have h8 : QS (Ext G wr w2) w8 g N s1 ((ns ++ flats ns.length ts) ++ t.flat (ns ++ flats ns.length ts).length) deep (max (max most (deep + d)) (deep + d1)) := h3.grown own3 hg8 hvE (by decide) (by decide)
 have hps : QS (Ext G wr w2) w8 g N s1 (ns ++ flats ns.length (ts ++ [t])) deep (max most (deep + max d d1)) := by
  rw [flats_app, flats_one, ← List.append_assoc]
  rw [List.length_append, flats_len] at h8
  rwa [show max (max most (deep + d)) (deep + d1) = max most (deep + max d d1) by omega] at h8
 refine ⟨⟨?_, hps, fun k hk => ?_, fun k hk => ?_, ?_, ?_, by rw [List.length_append]; exact hdl⟩, hps.qLen⟩
 ·rw [roots_app, roots_one, List.length_append, List.map_append]
  rw [List.length_append, flats_len] at hkid
  rw [← hkid]
  exact own8
 ·rcases hk with hk | hk
  ·rcases hI.gF k hk with h | h
   ·exact .inl h
   exact .inr ⟨h.1, by omega⟩
  exact .inr ⟨by omega, by omega⟩
 ·rcases hx with hx | hx
  ·exact hvE k (by rw [← hx]; exact hk)
  rw [hx] at hk
  injection hk with hk
  intro hE
  have := Ext.lt hI.ps.hF hs2 k hE
  omega
 ·exact (hI.pk.trans (k2.trans (.of_below hb (Nat.le_of_lt h2.lt)))).grown own3 hg8 (Nat.le_refl _) (Nat.le_of_lt hgw) (by omega)
 rw [cnts_app]; simp only [cnts]; omega
theorem kidsQ_bad {F : Nat → Prop} {w wr w2 w8 : World} {g N n : Nat} {ns : List NodeP} {deep most B : Nat} {v v8 : Value} {ts : List Re} {s : List Nat} {d : Nat} {G : Nat → Prop} (x : Int) (hI : KidsQ F w g N ns deep most B v wr ts s d G) (hgw : g < w.heap.size)
  (h2 : QX w2 g n) (k2 : QP g wr w2)
  (own8 : w8.ownsRow w.heap.size 3 1 v8 (ts.length + 1) ((roots ns.length ts).map iv ++ [.int .i64 x])) (hg8 : (w2.alloc (.cells #[.int .i64 x] 3)).grownBy w8 v.ownBlock) :
  KidsX w g n v8 w8 ((roots ns.length ts).map (fun k : Nat => (k : Int)) ++ [x]) ∧ qLen N g w8 = 0 := by
 have hb : Below w2.heap.size w2 (w2.alloc (.cells #[.int .i64 x] 3)) := (Below.refl _ _).alloc (Nat.le_refl _) _
 have hs0 := hI.pk.keep.size
 have hs2 := k2.keep.size
 have hs3 := hb.size
 have own2 : w2.ownsRow w.heap.size 3 1 v ts.length ((roots ns.length ts).map iv) := k2.keep.own hI.own (by decide)
 have own3 := own_below own2 hb
 have h8 := (h2.below hb).grown own3 hg8 (by decide) (by decide)
 refine ⟨⟨?_, h8, (hI.pk.trans (k2.trans (.of_below hb (Nat.le_of_lt h2.lt)))).grown own3 hg8 (Nat.le_refl _) (Nat.le_of_lt hgw) (by omega), by simp⟩, h8.qLen⟩
 rw [List.length_append, List.length_map, roots_length, List.map_append, List.map_map]
 exact own8
theorem qKidsNode {F : Nat → Prop} {w wr : World} {g N : Nat} {ns : List NodeP} {deep most B : Nat} {ts : List Re} {s : List Nat} {d c m : Nat} {A : Option Addr} {G : Nat → Prop} (K kind : Nat) (mk : List Re → Re) (hk : ∀ l b, (mk l).flat b = flats b l ++ [⟨kind, roots b l, 0, 0, []⟩]) (hc : ∀ l, (mk l).cnt = cnts l + 1) (hm : m = ts.length)
  (hI : KidsQ F w g N ns deep most B (.slice A m c) wr ts s d G) (h0 : ∀ k, F k → k < w.heap.size) (hB : B ≤ 6000) :
  Calls Tryz.prog 113 #[.pointer (some ⟨g, 0, none⟩), .agg #[.int .i64 kind, .slice A m c, .int .i64 0, .int .i64 0, .slice none 0 0]] wr fun e w' => ∃ x : Int, e = .returned (.int .i64 x) ∧ QP g w w' ∧ OutC K F (some (mk ts, s, d)) w g N ns deep most (.returned (.int .i64 x)) w' := by
 subst hm
 have hs0 := hI.pk.keep.size
 have hl := roots_length ts ns.length
 have hp : QS (fun k => G k ∨ (Value.slice A ts.length c).ownBlock = some k) wr g N s (ns ++ flats ns.length ts) deep (max most (deep + d)) := hI.ps.mono (fun k hk => .inl hk) fun k hk => by
  rcases hk with hk | hk
  ·exact hI.ps.hF k hk
  exact (hI.own.lt k hk).2
 have hr := RowT.of_own hI.own
 have hn : (ns ++ flats ns.length ts).length < 100000 := by rw [List.length_append, flats_len]; have := hI.cnt; omega
 have hd : NodeOk (fun k => G k ∨ (Value.slice A ts.length c).ownBlock = some k) wr ⟨⟨kind, roots ns.length ts, 0, 0, []⟩, A, c, none, 0⟩ :=
  ⟨by show RowT wr _ A (roots ns.length ts).length _; rw [hl]; exact hr, RowT.nil, fun a e => .inr (by have e' : A = some a := e; rw [e']; rfl), fun a e => (by cases e)⟩
 have hv := qNode ⟨⟨kind, roots ns.length ts, 0, 0, []⟩, A, c, none, 0⟩ g N wr s (ns ++ flats ns.length ts) deep (max most (deep + d)) hp hd hn
 have ev : NodeD.v ⟨⟨kind, roots ns.length ts, 0, 0, []⟩, A, c, none, 0⟩ = .agg #[.int .i64 kind, .slice A ts.length c, .int .i64 0, .int .i64 0, .slice none 0 0] := by
  show Value.agg #[_, .slice A (roots ns.length ts).length c, _, _, _] = _
  rw [hl]; rfl
 rw [ev] at hv
 refine hv.mono ?_
 rintro e w2 ⟨rfl, h2, k2⟩
 have s2 := k2.keep.size
 refine ⟨_, rfl, hI.pk.trans k2, ?_, ?_⟩
 ·rw [List.length_append, flats_len, hc]; rfl
 rw [hk, ← List.append_assoc]
 refine h2.mono (fun k hk => ?_) (Ext.lt h0 (by omega))
 rcases hk with hk | hk
 ·rcases hI.gF k hk with h | h
  ·exact .inl h
  exact .inr ⟨h.1, by omega⟩
 have := hI.own.lt k hk
 exact .inr ⟨this.1, by omega⟩
theorem qKidsOne {F : Nat → Prop} {w wr : World} {g N : Nat} {ns : List NodeP} {deep most B : Nat} {v : Value} {t : Re} {s : List Nat} {d : Nat} {G : Nat → Prop} (K : Nat) (hI : KidsQ F w g N ns deep most B v wr [t] s d G) (h0 : ∀ k, F k → k < w.heap.size) :
  QP g w wr ∧ OutC K F (some (t, s, d)) w g N ns deep most (.returned (.int .i64 ((ns.length + t.cnt - 1 : Nat) : Int))) wr := by
 have hp := hI.ps.mono hI.gF (Ext.lt h0 hI.pk.keep.size)
 rw [flats_one] at hp
 exact ⟨hI.pk, rfl, hp⟩
def contB : List Nat → Bool
 | [] => false
 | a :: _ => !(a == 124) && !(a == 41)
theorem contB_end {s : List Nat} (h : contB s = false) : s = [] ∨ s.head? = some 124 ∨ s.head? = some 41 := by
 cases s with
 | nil => exact .inl rfl
 | cons a r =>
  simp [contB] at h
  by_cases h1 : a = 124
  ·exact .inr (.inl (by rw [h1]; rfl))
  exact .inr (.inr (by rw [h h1]; rfl))
theorem contB_go {s : List Nat} (h : contB s = true) : ∃ a r, s = a :: r ∧ ¬ (s = [] ∨ s.head? = some 124 ∨ s.head? = some 41) := by
 cases s with
 | nil => cases h
 | cons a r =>
  simp [contB] at h
  exact ⟨a, r, rfl, by simp; exact h⟩
theorem qEmptyT {F : Nat → Prop} {w wr : World} {g N : Nat} {ns : List NodeP} {deep most B : Nat} {v : Value} {s : List Nat} {d : Nat} {G : Nat → Prop} (K : Nat) (hI : KidsQ F w g N ns deep most B v wr [] s d G) (h0 : ∀ k, F k → k < w.heap.size) (hB : B ≤ 6000) :
  Calls Tryz.prog 113 #[.pointer (some ⟨g, 0, none⟩), .agg #[.int .i64 1, .slice none 0 0, .int .i64 0, .int .i64 0, .slice none 0 0]] wr fun e w' => ∃ x : Int, e = .returned (.int .i64 x) ∧ QP g w w' ∧ OutC K F (some (.emp, s, d)) w g N ns deep most (.returned (.int .i64 x)) w' := by
 have hs0 := hI.pk.keep.size
 have hcnt := hI.cnt
 have hp := hI.ps.mono hI.gF (Ext.lt h0 hs0)
 rw [show flats ns.length [] = [] from rfl, List.append_nil] at hp
 refine (qBareNode (F := Ext F w wr) 0 1 .emp (fun _ => rfl) rfl g N wr wr s ns deep (max most (deep + d)) hp (Ext.lt h0 hs0) (.refl _ _) (by omega)).mono ?_
 rintro e w2 ⟨k2, rfl, h2⟩
 have s2 := k2.keep.size
 exact ⟨_, rfl, hI.pk.trans k2, rfl, h2.mono (Ext.trans hs0 s2) (Ext.lt h0 (by omega))⟩
theorem qRow (L : Nat) (hT : QItemC L) : QRowC L := by
 intro F g N w rs ns deep most hL h hns hdp
 have hgw := h.lt
 have HF := Lh h.hF
 have hlb := h.lb
 have hlen := h.len
 have hdm := h.dm
 obtain ⟨ANS, hANS⟩ : ∃ ANS, rowF rs = ANS := ⟨_, rfl⟩
 rw [hANS]
 obtain ⟨M, hN⟩ : ∃ M, rs.length = M := ⟨_, rfl⟩
 rw [hN] at hL hns hdp hlen ⊢
 obtain ⟨KK, hKK⟩ : ∃ KK, 4 * M + 3 = KK := ⟨_, rfl⟩
 have hK1 : 4 * M + 3 ≤ KK := by omega
 rw [hKK]
 obtain ⟨OUT, hOUT⟩ : ∃ OUT, ANS.map (fun p => (rowOf p.1, p.2.1, p.2.2)) = OUT := ⟨_, rfl⟩
 rw [hOUT]
 have HN := Lh hN; have HA := Lh hANS; have HO := Lh hOUT; have H := Lh h
 clear hN hANS hKK hOUT h
 go_enter Tryz.func112, Tryz.ntmps112
 go_wp2
 go_loopw [3] (fun v wr => (∃ (ts : List Re) (s : List Nat) (d : Nat) (G : Nat → Prop), KidsQ F w g N ns deep most (ns.length + 4 * M) v wr ts s d G ∧ Hid ((rowF s).map (fun p => (ts ++ p.1, p.2.1, max d p.2.2)) = ANS) ∧ s.length ≤ M) ∨ ∃ (n : Nat) (xs : List Int), KidsX w g n v wr xs ∧ n ≤ ns.length + 4 * M + 2 ∧ Hid (ANS = none)) (fun _ wr => qLen N g wr)
 case atStart =>
  refine .inl ⟨[], rs, 0, F, ⟨World.ownsRow_nil _ _ _ _, ?_, fun k hk => .inl hk, fun k hk => (by cases hk), .refl _ _, by rw [HN.out]; simp [cnts], by rw [HN.out]; simp; omega⟩, Lh ?_, by rw [HN.out]; exact Nat.le_refl _⟩
  ·rw [show max most (deep + 0) = most by omega]
   simpa [flats] using H.out
  rw [HA.out]
  cases ANS with
  | none => rfl
  | some p => simp
 obtain ⟨wo, rfl⟩ : ∃ wo : World, wo = wr := ⟨_, rfl⟩
 rcases hrel with ⟨ts, s, d, G, hI, hans, hsN⟩ | ⟨n, xs, hX, hn, hno⟩
 ·obtain ⟨A3, c3, rfl, hc3⟩ := own_form hI.own
  have hlS := hI.ps.qLen
  have hrow := hans.out
  rw [rowF_eq] at hrow
  have HlS := Lh hlS; have HI := Lh hI; have Hrow := Lh hrow
  have hcnt := hI.cnt
  have hdl := hI.dl
  obtain ⟨CB, hCB⟩ : ∃ CB, contB s = CB := ⟨_, rfl⟩
  have HCB := Lh hCB
  clear hI hans hlS hrow hCB
  go_upto_region 2 with fail
  go_cut [16] from 4 to 16 (fun c wx => c = .bool CB ∧ Below wo.heap.size wo wx)
  case first =>
   cases s with
   | nil =>
    have hcb : CB = false := HCB.out.symm
    subst hcb
    go_wp2_with fail
    refine (qPeek g N wo [] _ _ _ HI.out.ps).mono ?_
    rintro e w2 ⟨rfl, hb2⟩
    have e0 : peekV [] = (-1 : Int) := rfl
    rw [e0]
    clear e0
    go_wp2
    go_meet
    exact ⟨rfl, hb2⟩
   | cons a r =>
    have hp : ∀ W, Below wo.heap.size wo W → Calls Tryz.prog 139 #[.pointer (some ⟨g, 0, none⟩)] W fun e w' => e = .returned (.int .i32 (a : Nat)) ∧ Below W.heap.size W w' := fun W hW => qPeek g N W (a :: r) _ _ _ (HI.out.ps.below hW)
    have HP := Lh hp
    have z1 : ((a : Int) != -1) = true := by simp
    clear hp
    by_cases ha1 : a = 124
    ·subst ha1
     have hcb : CB = false := by rw [← HCB.out]; rfl
     subst hcb
     go_wp2_with fail
     refine (HP.out wo (Below.refl _ _)).mono ?_
     rintro e w2 ⟨rfl, hb2⟩
     go_wp2_with fail
     refine (HP.out w2 hb2).mono ?_
     rintro e w3 ⟨rfl, hb3⟩
     go_wp2
     go_meet
     exact ⟨rfl, hb2.trans (hb3.mono hb2.size)⟩
    have z2 : ((a : Int) != 124) = true := by simp; omega
    by_cases ha2 : a = 41
    ·subst ha2
     have hcb : CB = false := by rw [← HCB.out]; rfl
     subst hcb
     go_wp2_with fail
     refine (HP.out wo (Below.refl _ _)).mono ?_
     rintro e w2 ⟨rfl, hb2⟩
     go_wp2_with fail
     refine (HP.out w2 hb2).mono ?_
     rintro e w3 ⟨rfl, hb3⟩
     have hb3' := hb2.trans (hb3.mono hb2.size)
     go_wp2_with fail
     refine (HP.out w3 hb3').mono ?_
     rintro e w4 ⟨rfl, hb4⟩
     go_wp2
     go_meet
     exact ⟨rfl, hb3'.trans (hb4.mono hb3'.size)⟩
    have z3 : ((a : Int) != 41) = true := by simp; omega
    have hcb : CB = true := by rw [← HCB.out]; simp [contB, ha1, ha2]
    subst hcb
    go_wp2_with fail
    refine (HP.out wo (Below.refl _ _)).mono ?_
    rintro e w2 ⟨rfl, hb2⟩
    go_wp2_with fail
    refine (HP.out w2 hb2).mono ?_
    rintro e w3 ⟨rfl, hb3⟩
    have hb3' := hb2.trans (hb3.mono hb2.size)
    go_wp2_with fail
    refine (HP.out w3 hb3').mono ?_
    rintro e w4 ⟨rfl, hb4⟩
    go_wp2
    go_meet
    exact ⟨rfl, hb3'.trans (hb4.mono hb3'.size)⟩
  obtain ⟨rfl, hb1⟩ := hcut
  obtain ⟨w2, rfl⟩ : ∃ w2 : World, w2 = wc := ⟨_, rfl⟩
  have hI2 := kidsQ_below HI.out hb1
  cases CB with
  | false =>
   have hend := contB_end HCB.out
   have hrow := Hrow.out
   rw [if_pos hend] at hrow
   have hans : ANS = some (ts, s, d) := by rw [← hrow]; simp
   have hout : OUT = some (rowOf ts, s, d) := by rw [← HO.out, hans]; rfl
   clear hrow hans hend hb1
   match ts, hI2, hout with
   | [], hI2, hout =>
    have hv := qEmptyT KK hI2 HF.out (by omega)
    have ho2 : OUT = some (.emp, s, d) := hout
    rw [← ho2] at hv
    have HV := Lh hv
    clear hv ho2 hout hI2 HI
    go_wp2_with fail
    refine HV.out.mono ?_
    rintro e w9 ⟨x9, rfl, k9, o9⟩
    have O9 := Lh o9
    clear o9
    go_wp2
    go_ret
    exact ⟨k9, O9.out⟩
   | [t], hI2, hout =>
    have hv := qKidsOne KK hI2 HF.out
    have ho2 : OUT = some (t, s, d) := hout
    rw [← ho2] at hv
    obtain ⟨g3, rfl, hg3a, hg3b, -, -, hc0⟩ := own_at hI2.own (by simp)
    have c0 : w2.cell? ⟨g3, 0, none⟩ = some (.int .i64 ((ns.length + t.cnt - 1 : Nat) : Int)) := by
     rw [hc0 0 (by simp), roots_one]; rfl
    obtain ⟨kv, hkv⟩ : ∃ kv, ns.length + t.cnt - 1 = kv := ⟨_, rfl⟩
    rw [hkv] at hv c0
    have HV := Lh hv
    clear hv ho2 hout hI2 HI hc0 hkv
    go_wp2
    go_ret
    exact ⟨HV.out.1, HV.out.2⟩
   | t :: u :: r, hI2, hout =>
    obtain ⟨m, hm⟩ : ∃ m, (t :: u :: r).length = m := ⟨_, rfl⟩
    have hm2 : 2 ≤ m := by rw [← hm]; simp
    have z6 : ((m : Int) == 0) = false := by simp; omega
    have z7 : ((m : Int) == 1) = false := by simp; omega
    rw [hm] at hI2 ⊢
    have hv := qKidsNode KK 3 .seq (fun _ _ => rfl) (fun _ => rfl) hm.symm hI2 HF.out (by omega)
    have ho2 : OUT = some (.seq (t :: u :: r), s, d) := hout
    rw [← ho2] at hv
    have HV := Lh hv
    clear hv ho2 hout hI2 HI hm
    go_wp2_with fail
    refine HV.out.mono ?_
    rintro e w9 ⟨x9, rfl, k9, o9⟩
    have O9 := Lh o9
    clear o9
    go_wp2
    go_ret
    exact ⟨k9, O9.out⟩
  | true =>
   obtain ⟨a, r, rfl, hend⟩ := contB_go HCB.out
   have hrow := Hrow.out
   rw [if_neg hend] at hrow
   have hi := hT G g N w2 (a :: r) (ns ++ flats ns.length ts) deep (max most (deep + d)) (by omega) hI2.ps (by rw [List.length_append, flats_len]; omega) (by omega)
   have HR := Lh hrow; have Hi := Lh hi; have HI2 := Lh hI2
   have hown := hI2.own
   have hsz := hI2.pk.keep.size
   clear hrow hi hend HI Hrow hI2 hb1
   go_wp2_with fail
   refine Hi.out.mono ?_
   rintro e w4 ⟨k4, o4⟩
   have s4 := k4.keep.size
   have own4 : w4.ownsRow w.heap.size 3 1 (.slice A3 ts.length c3) ts.length ((roots ns.length ts).map iv) := k4.keep.own hown (by decide)
   have hrow := HR.out
   cases hit : itemF (a :: r) with
   | none =>
    rw [hit] at o4 hrow
    obtain ⟨x, n, rfl, hx4, hxn⟩ := o4
    have hno : ANS = none := hrow.symm
    rw [List.length_append, flats_len] at hxn
    have HX4 := Lh hx4; have K4 := Lh k4; have HNO := Lh hno
    clear hrow hit hx4 k4 hno hown
    go_wp2_with (at_builtin; refine wpList_app _ rfl intE rfl rfl (own4.alloc _) rfl (row_new w4 _ [_]) (by simp [Value.oneCell']) (by first | omega | (simp; omega)) (by simp; omega) ?_; intro v8 w8 own8 hg8 hb8 hx8)
    obtain ⟨e1, e2⟩ := kidsQ_bad x HI2.out hgw HX4.out K4.out own8 hg8
    go_roundw
    case rel => exact .inr ⟨n, _, e1, by omega, HNO⟩
    case measure => rw [e2, HlS.out]; omega
   | some q =>
    obtain ⟨t, s1, d1⟩ := q
    rw [hit] at o4 hrow
    obtain ⟨rfl, h4⟩ := o4
    dsimp only at hrow
    have hcn := (itemF_cnt hit).1
    have hll := itemF_len hit
    obtain ⟨kid, hkid⟩ : ∃ kid, (ns ++ flats ns.length ts).length + t.cnt - 1 = kid := ⟨_, rfl⟩
    rw [hkid]
    have Hk := Lh hkid
    have Hrow := Lh hrow; have H4 := Lh h4; have K4 := Lh k4
    clear hrow h4 k4 hit hown hkid
    go_wp2_with (at_builtin; refine wpList_app _ rfl intE rfl rfl (own4.alloc _) rfl (row_new w4 _ [_]) (by simp [Value.oneCell']) (by first | omega | (simp; omega)) (by simp; omega) ?_; intro v8 w8 own8 hg8 hb8 hx8)
    obtain ⟨e1, e2⟩ := kidsQ_next (t := t) (kid := kid) HI2.out hgw H4.out K4.out Hk.out.symm own8 hg8 hx8 (by simp at hcn hcnt ⊢; omega) (by simp at hdl hll ⊢; omega)
    have hfin : Hid ((rowF s1).map (fun p => ((ts ++ [t]) ++ p.1, p.2.1, max (max d d1) p.2.2)) = ANS) := Lh (by
     rw [← Hrow.out]
     cases rowF s1 with
     | none => rfl
     | some p => simp [Nat.max_assoc])
    go_roundw
    case rel => exact .inl ⟨ts ++ [t], s1, _, _, e1, hfin, by simp at hll hsN; omega⟩
    case measure => rw [e2, HlS.out]; omega
 have hout : OUT = none := by rw [← HO.out, hno.out]; rfl
 have HOU := Lh hout
 obtain ⟨A3, c3, rfl, -⟩ := own_form hX.own
 have HX := Lh hX
 have hne := hX.ne
 obtain ⟨g3, hg3, -, -, -, -, -⟩ := own_at hX.own (List.length_pos_iff.2 hne)
 subst hg3
 clear hX hout
 go_wp2_with fail
 refine (xPeek g n wo HX.out.qx).mono ?_
 rintro e w2 ⟨rfl, hb2⟩
 have hq2 := HX.out.qx.below hb2
 have own2 := own_below HX.out.own hb2
 have kq2 := HX.out.pk.trans (.of_below hb2 (Nat.le_of_lt HX.out.qx.lt))
 match xs, hne, own2 with
 | [x], _, own2 =>
  obtain ⟨g4, hg4, -, -, -, -, hc0⟩ := own_at own2 (by simp)
  cases hg4
  have c0 : w2.cell? ⟨g3, 0, none⟩ = some (.int .i64 x) := by rw [hc0 0 (by simp)]; rfl
  have HQ2 := Lh hq2; have KQ2 := Lh kq2
  clear hq2 kq2 own2 hc0 HX
  go_wp2
  go_ret
  exact ⟨KQ2.out, by rw [HOU.out]; exact ⟨x, n, rfl, HQ2.out, by omega⟩⟩
 | x :: y :: r, _, own2 =>
  obtain ⟨m, hm⟩ : ∃ m, (x :: y :: r).length = m := ⟨_, rfl⟩
  have hm2 : 2 ≤ m := by rw [← hm]; simp
  have z6 : ((m : Int) == 0) = false := by simp; omega
  have z7 : ((m : Int) == 1) = false := by simp; omega
  have hv := xNode 3 0 0 (some ⟨g3, 0, none⟩) m c3 none 0 0 g n w2 hq2 (by omega)
  have HV := Lh hv; have KQ2 := Lh kq2
  rw [hm]
  clear hv hq2 kq2 own2 HX hm
  go_wp2_with fail
  refine HV.out.mono ?_
  rintro e w3 ⟨rfl, h3, k3⟩
  have H3 := Lh h3; have K3 := Lh k3
  clear h3 k3
  go_wp2
  go_ret
  exact ⟨KQ2.out.trans K3.out, by rw [HOU.out]; exact ⟨n, n + 1, rfl, H3.out, by omega⟩⟩
def boolN : Value → Nat
 | .bool true => 1
 | _ => 0
theorem qAlt (L : Nat) (hT : QRowC L) : QAltC L := by
 intro F g N w rs ns deep most hL h hns hdp
 have hgw := h.lt
 have HF := Lh h.hF
 have hlb := h.lb
 have hlen := h.len
 have hdm := h.dm
 obtain ⟨ANS, hANS⟩ : ∃ ANS, altF rs = ANS := ⟨_, rfl⟩
 rw [hANS]
 obtain ⟨M, hN⟩ : ∃ M, rs.length = M := ⟨_, rfl⟩
 rw [hN] at hL hns hdp hlen ⊢
 obtain ⟨KK, hKK⟩ : ∃ KK, 4 * M + 4 = KK := ⟨_, rfl⟩
 have hK1 : 4 * M + 4 ≤ KK := by omega
 rw [hKK]
 obtain ⟨OUT, hOUT⟩ : ∃ OUT, ANS.map (fun p => (manyR .alt p.1, p.2.1, p.2.2)) = OUT := ⟨_, rfl⟩
 rw [hOUT]
 have HN := Lh hN; have HA := Lh hANS; have HO := Lh hOUT; have H := Lh h
 clear hN hANS hKK hOUT h
 go_enter Tryz.func81, Tryz.ntmps81
 go_wp2
 go_loopw [3, 4] (fun v b wr => (∃ (ts : List Re) (s : List Nat) (d : Nat) (G : Nat → Prop), KidsQ F w g N ns deep most (ns.length + 4 * M + 1) v wr ts s d G ∧ s.length ≤ M ∧ ((b = .bool true ∧ Hid ((altF s).map (fun p => (ts ++ p.1, p.2.1, max d p.2.2)) = ANS) ∧ cnts ts + 4 * s.length ≤ 4 * M ∧ ts.length + s.length ≤ M) ∨ (b = .bool false ∧ ts ≠ [] ∧ Hid (ANS = some (ts, s, d))))) ∨ ∃ (n : Nat) (xs : List Int), KidsX w g n v wr xs ∧ n ≤ ns.length + 4 * M + 3 ∧ b = .bool false ∧ Hid (ANS = none)) (fun _ b wr => qLen N g wr + boolN b)
 case atStart =>
  refine .inl ⟨[], rs, 0, F, ⟨World.ownsRow_nil _ _ _ _, ?_, fun k hk => .inl hk, fun k hk => (by cases hk), .refl _ _, by rw [HN.out]; simp [cnts], by rw [HN.out]; simp; omega⟩, by rw [HN.out]; exact Nat.le_refl _, .inl ⟨rfl, Lh ?_, by rw [HN.out]; simp [cnts], by rw [HN.out]; simp⟩⟩
  ·rw [show max most (deep + 0) = most by omega]
   simpa [flats] using H.out
  rw [HA.out]
  cases ANS with
  | none => rfl
  | some p => simp
 obtain ⟨wo, rfl⟩ : ∃ wo : World, wo = wr := ⟨_, rfl⟩
 rcases hrel with ⟨ts, s, d, G, hI, hsM, ⟨rfl, hans, hcn0, htl⟩ | ⟨rfl, hne, hans⟩⟩ | ⟨n, xs, hX, hn, rfl, hno⟩
 ·obtain ⟨A3, c3, rfl, hc3⟩ := own_form hI.own
  have hlS := hI.ps.qLen
  have ha := hans.out
  rw [altF_eq] at ha
  have hi := hT G g N wo s (ns ++ flats ns.length ts) deep (max most (deep + d)) (by omega) hI.ps (by rw [List.length_append, flats_len]; omega) (by omega)
  have HlS := Lh hlS; have HI := Lh hI; have Ha := Lh ha; have Hi := Lh hi
  obtain ⟨c5, f5⟩ := hI.ps.cell5
  have hown := hI.own
  have hsz := hI.pk.keep.size
  clear hI hans hlS ha hi
  go_wp2_with fail
  refine Hi.out.mono ?_
  rintro e w4 ⟨k4, o4⟩
  have s4 := k4.keep.size
  have own4 : w4.ownsRow w.heap.size 3 1 (.slice A3 ts.length c3) ts.length ((roots ns.length ts).map iv) := k4.keep.own hown (by decide)
  have ha := Ha.out
  cases hit : rowF s with
  | none =>
   rw [hit] at o4 ha
   obtain ⟨x, n, rfl, hx4, hxn⟩ := o4
   have hno : ANS = none := ha.symm
   rw [List.length_append, flats_len] at hxn
   have HX4 := Lh hx4; have K4 := Lh k4; have HNO := Lh hno
   clear ha hit hx4 k4 hno hown
   go_upto_region 4 with (at_builtin; refine wpList_app _ rfl intE rfl rfl (own4.alloc _) rfl (row_new w4 _ [_]) (by simp [Value.oneCell']) (by first | omega | (simp; omega)) (by simp; omega) ?_; intro v8 w8 own8 hg8 hb8 hx8)
   obtain ⟨e1, e2⟩ := kidsQ_bad x HI.out hgw HX4.out K4.out own8 hg8
   have E1 := Lh e1
   clear e1 e2 own8 hg8 hb8 hx8 own4
   go_wp2_with fail
   refine (xIs 124 g n w8 E1.out.qx).mono ?_
   rintro e w9 ⟨rfl, hb9⟩
   have hx9 := E1.out.qx.below hb9
   have e3 : KidsX w g n v8 w9 ((roots ns.length ts).map (fun k : Nat => (k : Int)) ++ [x]) := ⟨own_below E1.out.own hb9, hx9, E1.out.pk.trans (.of_below hb9 (Nat.le_of_lt E1.out.qx.lt)), E1.out.ne⟩
   have l9 := hx9.qLen (N := N)
   have HE3 := Lh e3; have HL9 := Lh l9
   clear e3 l9 hx9
   go_wp2
   go_roundw
   case rel => exact .inr ⟨n, _, HE3.out, by omega, rfl, HNO⟩
   case measure => simp [boolN]; rw [HL9.out, HlS.out]; omega
  | some q =>
   obtain ⟨ts1, s1, d1⟩ := q
   rw [hit] at o4 ha
   obtain ⟨rfl, h4⟩ := o4
   dsimp only at ha h4
   have hcn := (rowF_cnt hit).1
   have hro := rowOf_cnt ts1
   have hll := rowF_len hit
   obtain ⟨kid, hkid⟩ : ∃ kid, (ns ++ flats ns.length ts).length + (rowOf ts1).cnt - 1 = kid := ⟨_, rfl⟩
   rw [hkid]
   have Hk := Lh hkid; have Ha2 := Lh ha; have H4 := Lh h4; have K4 := Lh k4
   clear ha h4 k4 hit hown hkid
   go_upto_region 4 with (at_builtin; refine wpList_app _ rfl intE rfl rfl (own4.alloc _) rfl (row_new w4 _ [_]) (by simp [Value.oneCell']) (by first | omega | (simp; omega)) (by simp; omega) ?_; intro v8 w8 own8 hg8 hb8 hx8)
   obtain ⟨e1, e2⟩ := kidsQ_next (t := rowOf ts1) (kid := kid) HI.out hgw H4.out K4.out Hk.out.symm own8 hg8 hx8 (by omega) (by omega)
   have hv := qIs_any 124 g N w8 s1 _ _ _ e1.ps
   have E1 := Lh e1
   clear e1 e2 own8 hg8 hb8 hx8 own4
   by_cases hc : s1.head? = some 124
   ·rw [if_pos hc, decide_eq_true hc] at hv
    have htl2 := tail_lt hc
    have hans2 : (altF s1.tail).map (fun p => ((ts ++ [rowOf ts1]) ++ p.1, p.2.1, max (max d d1) p.2.2)) = ANS := by
     rw [← Ha2.out, if_pos hc]
     cases altF s1.tail with
     | none => rfl
     | some p => simp [Nat.max_assoc]
    have HV := Lh hv; have HA2 := Lh hans2
    clear hv hans2 hc
    go_wp2_with fail
    refine HV.out.mono ?_
    rintro e w9 ⟨rfl, h9, k9⟩
    have e3 := kidsQ_keep E1.out h9 k9 (by omega)
    have l9 := h9.qLen
    have HE3 := Lh e3; have HL9 := Lh l9
    clear e3 l9 h9 k9
    go_wp2
    go_roundw
    case rel => exact .inl ⟨ts ++ [rowOf ts1], s1.tail, _, _, HE3.out, by omega, .inl ⟨rfl, HA2, by rw [cnts_app]; simp only [cnts]; omega, by rw [List.length_append]; show ts.length + 1 + _ ≤ _; omega⟩⟩
    case measure => simp [boolN]; rw [HL9.out, HlS.out]; omega
   rw [if_neg hc, decide_eq_false hc] at hv
   have hans2 : ANS = some (ts ++ [rowOf ts1], s1, max d d1) := by rw [← Ha2.out, if_neg hc]; rfl
   have HV := Lh hv; have HA2 := Lh hans2
   clear hv hans2 hc
   go_wp2_with fail
   refine HV.out.mono ?_
   rintro e w9 ⟨rfl, h9, k9⟩
   have e3 := kidsQ_keep E1.out h9 k9 (Nat.le_refl _)
   have l9 := h9.qLen
   have HE3 := Lh e3; have HL9 := Lh l9
   clear e3 l9 h9 k9
   go_wp2
   go_roundw
   case rel => exact .inl ⟨ts ++ [rowOf ts1], s1, _, _, HE3.out, by omega, .inr ⟨rfl, by simp, HA2⟩⟩
   case measure => simp [boolN]; rw [HL9.out, HlS.out]; omega
 ·obtain ⟨A3, c3, rfl, hc3⟩ := own_form hI.own
  have hout : OUT = some (manyR .alt ts, s, d) := by rw [← HO.out, hans.out]; rfl
  clear hans
  match ts, hne, hI, hout with
  | [t], _, hI2, hout =>
   have hv := qKidsOne KK hI2 HF.out
   have ho2 : OUT = some (t, s, d) := hout
   rw [← ho2] at hv
   obtain ⟨g3, rfl, hg3a, hg3b, -, -, hc0⟩ := own_at hI2.own (by simp)
   have c0 : wo.cell? ⟨g3, 0, none⟩ = some (.int .i64 ((ns.length + t.cnt - 1 : Nat) : Int)) := by
    rw [hc0 0 (by simp), roots_one]; rfl
   obtain ⟨kv, hkv⟩ : ∃ kv, ns.length + t.cnt - 1 = kv := ⟨_, rfl⟩
   rw [hkv] at hv c0
   have HV := Lh hv
   clear hv ho2 hout hI2 hc0 hkv
   go_wp2
   go_ret
   exact ⟨HV.out.1, HV.out.2⟩
  | t :: u :: r, _, hI2, hout =>
   obtain ⟨m, hm⟩ : ∃ m, (t :: u :: r).length = m := ⟨_, rfl⟩
   have hm2 : 2 ≤ m := by rw [← hm]; simp
   have z7 : ((m : Int) == 1) = false := by simp; omega
   rw [hm] at hI2 ⊢
   have hv := qKidsNode KK 4 .alt (fun _ _ => rfl) (fun _ => rfl) hm.symm hI2 HF.out (by omega)
   have ho2 : OUT = some (.alt (t :: u :: r), s, d) := hout
   rw [← ho2] at hv
   have HV := Lh hv
   clear hv ho2 hout hI2 hm
   go_wp2_with fail
   refine HV.out.mono ?_
   rintro e w9 ⟨x9, rfl, k9, o9⟩
   have O9 := Lh o9
   clear o9
   go_wp2
   go_ret
   exact ⟨k9, O9.out⟩
 have hout : OUT = none := by rw [← HO.out, hno.out]; rfl
 have HOU := Lh hout
 obtain ⟨A3, c3, rfl, -⟩ := own_form hX.own
 have hq2 := hX.qx
 have own2 := hX.own
 have kq2 := hX.pk
 have hne := hX.ne
 obtain ⟨g3, hg3, -, -, -, -, -⟩ := own_at own2 (List.length_pos_iff.2 hne)
 subst hg3
 clear hX hout hno
 match xs, hne, own2 with
 | [x], _, own2 =>
  obtain ⟨g4, hg4, -, -, -, -, hc0⟩ := own_at own2 (by simp)
  cases hg4
  have c0 : wo.cell? ⟨g3, 0, none⟩ = some (.int .i64 x) := by rw [hc0 0 (by simp)]; rfl
  have HQ2 := Lh hq2; have KQ2 := Lh kq2
  clear hq2 kq2 own2 hc0
  go_wp2
  go_ret
  exact ⟨KQ2.out, by rw [HOU.out]; exact ⟨x, n, rfl, HQ2.out, by omega⟩⟩
 | x :: y :: r, _, own2 =>
  obtain ⟨m, hm⟩ : ∃ m, (x :: y :: r).length = m := ⟨_, rfl⟩
  have hm2 : 2 ≤ m := by rw [← hm]; simp
  have z7 : ((m : Int) == 1) = false := by simp; omega
  have hv := xNode 4 0 0 (some ⟨g3, 0, none⟩) m c3 none 0 0 g n wo hq2 (by omega)
  have HV := Lh hv; have KQ2 := Lh kq2
  rw [hm]
  clear hv hq2 kq2 own2 hm
  go_wp2_with fail
  refine HV.out.mono ?_
  rintro e w3 ⟨rfl, h3, k3⟩
  have H3 := Lh h3; have K3 := Lh k3
  clear h3 k3
  go_wp2
  go_ret
  exact ⟨KQ2.out.trans K3.out, by rw [HOU.out]; exact ⟨n, n + 1, rfl, H3.out, by omega⟩⟩
theorem allQ : ∀ L : Nat, QAltC L
 | 0 => qAlt 0 (qRow 0 (qItem 0 (qAtom 0 fun K hK => absurd hK (Nat.not_lt_zero K))))
 | L + 1 => qAlt (L + 1) (qRow (L + 1) (qItem (L + 1) (qAtom (L + 1) fun K hK F g N w rs ns deep most hL => allQ L F g N w rs ns deep most (by omega))))
end Go.Proofs.YtecejnilajbdpaaGreatDoor
namespace Garner
open Go
end Garner
