import Derived.Test.YtecejnilajbdpaaGreatDoorTs19
import Derived.Test.YtecejnilajbdpaaGreatDoorTs06
import Derived.Test.YtecejnilajbdpaaGreatDoorTs21
import Derived.Test.YtecejnilajbdpaaGreatDoorTs34
import Derived.Test.YtecejnilajbdpaaGreatDoorTs20
namespace Garner
open Go
theorem iter_next (l : Bs) (pos : Nat) (h : pos < l.length) : ∃ r q, Utf8.decode ⟨l.toArray⟩ pos = (r, q) ∧ 1 ≤ q ∧ r ≤ 1114111 ∧ runesP (l.drop pos) = r :: runesP (l.drop (pos + q)) := by
 have hd := Lib.decodeL_drop ⟨l.toArray⟩ pos
 have e : (⟨l.toArray⟩ : ByteArray).data.toList = l := by simp
 rw [e] at hd
 have hne : l.drop pos ≠ [] := fun e => by
  have := congrArg List.length e
  rw [List.length_drop] at this
  simp only [List.length_nil] at this
  omega
 refine ⟨(Utf8.decode ⟨l.toArray⟩ pos).1, (Utf8.decode ⟨l.toArray⟩ pos).2, rfl, ?_, ?_, ?_⟩
 ·rw [← hd]; exact Lib.decodeL_width _
 ·rw [← hd]; exact Lib.decodeL_rune _
 ·rw [runes_step hne, hd, List.drop_drop]
structure RunAt (l : Bs) (rs : List Nat) (pos k : Nat) : Prop where
 at_ : rs.drop k = runesP (l.drop pos)
 le : k ≤ rs.length
theorem RunAt.start (l : Bs) : RunAt l (runesP l) 0 0 := ⟨rfl, Nat.zero_le _⟩
theorem RunAt.next {l : Bs} {rs : List Nat} {pos k r q : Nat} (h : RunAt l rs pos k) (hr : runesP (l.drop pos) = r :: runesP (l.drop (pos + q))) : rs[k]? = some r ∧ RunAt l rs (pos + q) (k + 1) := by
 have h1 := h.at_.trans hr
 have hk : rs[k]? = some r := by
  have : (rs.drop k)[0]? = some r := by rw [h1]; rfl
  rwa [List.getElem?_drop, Nat.add_zero] at this
 have hlt := (List.getElem?_eq_some_iff.1 hk).1
 refine ⟨hk, ?_, hlt⟩
 have : (rs.drop k).drop 1 = runesP (l.drop (pos + q)) := by rw [h1]; rfl
 rwa [List.drop_drop] at this
theorem RunAt.done {l : Bs} {rs : List Nat} {pos k : Nat} (h : RunAt l rs pos k) (hp : ¬ pos < l.length) : k = rs.length := by
 have h1 := h.at_
 rw [List.drop_eq_nil_of_le (by omega : l.length ≤ pos)] at h1
 have := congrArg List.length h1
 rw [List.length_drop] at this
 have h2 := h.le
 have h3 : (runesP ([] : Bs)).length = 0 := rfl
 omega
end Garner
namespace Go.Proofs.YtecejnilajbdpaaGreatDoor
open Go.RowKit Garner
theorem err_pos {l : Bs} {k : Nat} (h : rexpP l = .error k) : 0 < k ∧ k ≤ 40 := by
 unfold rexpP at h
 split at h
 ·cases h; omega
 split at h
 ·cases h; omega
 ·unfold readR at h
  split at h
  ·cases h; omega
  ·split at h
   ·cases h; omega
   split at h
   ·cases h; omega
   split at h
   ·cases h; omega
   ·cases h
theorem rexp_good {l : Bs} {t : Re} (h : rexpP l = .ok t) : GoodT t := by
 unfold rexpP at h
 split at h
 ·cases h
 ·rename_i hl
  split at h
  ·cases h
  ·exact read_good (by have := runes_len _ l (Nat.le_refl _); omega) h
set_option maxRecDepth 100000 in
set_option maxHeartbeats 16000000 in
theorem vCompile {F : Nat → Prop} {B0 : Nat} (w : World) (A : Option Addr) (c N : Nat) (t : Re) (hNl : (t.flat 0).length = N) (hN : NodesIs F w B0 (.slice A N c) (t.flat 0)) (hc : t.cnt ≤ 10000) (ho : t.ok) (hm : t.lim) (hl : t.len ≤ 80000) :
  Calls Tryz.prog 66 #[.slice A N c] w fun e w' => ∃ g, e = .returned (.pointer (some ⟨g, 0, none⟩)) ∧ w.heap.size ≤ g ∧ ProgIs w w.heap.size (.slice A N c) w' g (t.code 0 ++ [⟨4, 0, 0, []⟩]) ∧ Below w.heap.size w w' := by
 have hcnt : N = t.cnt := by rw [← hNl, flat_len]
 have hpos : 0 < t.cnt := by cases t <;> simp [Re.cnt]
 subst hNl
 have hall := codeAll hN t.cnt t (Nat.le_refl _) hc ho hm
 obtain ⟨X, hX⟩ : ∃ X, X = w.alloc (.cells #[.slice A (t.flat 0).length c, .slice none 0 0] 157) := ⟨_, rfl⟩
 have hbX : Below w.heap.size w X := by rw [hX]; exact (Below.refl _ _).alloc (Nat.le_refl _) _
 have bX : Blk X w.heap.size 157 [.slice A (t.flat 0).length c, .slice none 0 0] := by rw [hX]; exact Blk.new w _ _
 have pX : ProgIs w w.heap.size (.slice A (t.flat 0).length c) X w.heap.size [] := ⟨⟨none, 0, bX, [], rfl, World.ownsRow_nil _ _ _ _, fun d hd => (by cases hd)⟩, by simp⟩
 have hcl := hall 0 X w.heap.size [] (fun k n hk => by rw [Nat.zero_add]; exact hk) (Nat.le_refl _) pX hbX (by simp; omega)
 obtain ⟨N, hNN⟩ : ∃ N, (t.flat 0).length = N := ⟨_, rfl⟩
 rw [hNN] at hcl hX hcnt ⊢
 rw [Nat.zero_add, ← hcnt, List.nil_append] at hcl
 have wN : IntKind.i64.wrap ((N : Int) - 1) = ((N - 1 : Nat) : Int) := by rw [IntKind.wrap_i64]; omega
 have hlc := code_len t 0
 have HC := Lib.hid hcl; have HB := Lib.hid hbX; have Hlc := Lib.hid hlc; have Hl := Lib.hid hl
 clear hcl hbX hlc hall hN bX pX hNN hcnt hpos hc hl
 go_enter Tryz.func66, Tryz.ntmps66
 go_wp2_with fail
 rw [← hX]
 refine HC.out.mono ?_
 rintro e w2 ⟨rfl, p2, q2⟩
 have hW2 := QK.from HB.out q2
 have he := vEmit ⟨⟨4, 0, 0, []⟩, none, 0⟩ w2 w.heap.size _ p2 hW2.size (Nat.le_refl _) (by exact RowT.nil) (by have h1 := Hlc.out; have h2 := Hl.out; simp only [List.length_nil]; omega)
 have He := Lib.hid he; have HW2 := Lib.hid hW2
 clear he p2 q2 hW2 hX
 go_wp2_with fail
 refine He.out.mono ?_
 rintro e w3 ⟨rfl, p3, q3⟩
 have P3 := Lib.hid p3; have Q3 := Lib.hid q3
 clear p3 q3
 go_wp2
 go_ret
 exact ⟨w.heap.size, rfl, Nat.le_refl _, P3.out, QK.from HW2.out Q3.out⟩
set_option maxRecDepth 100000 in
set_option maxHeartbeats 8000000 in
theorem vHasI (l : List Nat) (k n : Nat) (hl : l.length = n) (h2 : n = 2 * k) (hn : n ≤ 100000) (A : Option Addr) (c x : Nat) (w : World) (hr : RowT w 21 A n (l.map rv)) :
  Calls Tryz.prog 96 #[.slice A n c, .int .i32 x] w fun e w' => e = .returned (.bool (hasR l x)) ∧ w' = w := by
 obtain ⟨ANS, hA⟩ : ∃ ANS, hasR l x = ANS := ⟨_, rfl⟩
 rw [hA]
 have HA := Lib.hid hA; have Hl := Lib.hid hl; have Hr := Lib.hid hr; have H2 := Lib.hid h2
 clear hA hl hr h2
 go_enter Tryz.func96, Tryz.ntmps96
 go_wp2
 go_loopw [5] (fun i wr => ∃ j : Nat, j ≤ k ∧ i = .int .i64 (2 * j : Nat) ∧ Hid (hasR (l.drop (2 * j)) x = ANS) ∧ wr = w) (fun i _ => 2 * k - (intOf i).toNat)
 case atStart => exact ⟨0, Nat.zero_le _, rfl, Lib.hid (by simpa using HA.out), rfl⟩
 case round =>
  obtain ⟨j, hj, rfl, hans, rfl⟩ := hrel
  obtain ⟨J, hJ⟩ : ∃ J, 2 * j = J := ⟨_, rfl⟩
  have h2k := H2.out
  rw [hJ] at hans ⊢
  have wj2 : IntKind.i64.wrap ((J : Int) + 2) = ((J + 2 : Nat) : Int) := by rw [IntKind.wrap_i64]; omega
  have wj1 : IntKind.i64.wrap ((J : Int) + 1) = ((J + 1 : Nat) : Int) := by rw [IntKind.wrap_i64]; omega
  by_cases hlt : j < k
  ·have z1 : (J : Int) < (n : Int) := by omega
   have z2 : ((J + 1 : Nat) : Int) < (n : Int) := by omega
   obtain ⟨a, ha⟩ : ∃ a, l[J]? = some a := ⟨_, List.getElem?_eq_getElem (by rw [Hl.out]; omega)⟩
   obtain ⟨b, hb⟩ : ∃ b, l[J + 1]? = some b := ⟨_, List.getElem?_eq_getElem (by rw [Hl.out]; omega)⟩
   obtain ⟨bk, ok, rfl, ca⟩ := Hr.out.at_ (k := J) (u := rv a) (by rw [List.getElem?_map, ha]; rfl)
   obtain ⟨bk', ok', e, cb⟩ := Hr.out.at_ (k := J + 1) (u := rv b) (by rw [List.getElem?_map, hb]; rfl)
   cases e
   have ca1 : wr.cell? ⟨bk, ok + J, none⟩ = some (.int .i32 (a : Nat)) := ca
   have cb1 : wr.cell? ⟨bk, ok + (J + 1), none⟩ = some (.int .i32 (b : Nat)) := cb
   have hd : l.drop J = a :: b :: l.drop (J + 2) := by
    obtain ⟨h1, e1⟩ := List.getElem?_eq_some_iff.1 ha
    obtain ⟨h3, e3⟩ := List.getElem?_eq_some_iff.1 hb
    rw [List.drop_eq_getElem_cons h1, List.drop_eq_getElem_cons h3, e1, e3]
   have hx := hans.out
   rw [hd, hasR] at hx
   have Hx := Lib.hid hx
   clear ca cb hd ha hb hx hans
   by_cases h1 : a ≤ x
   ·by_cases h3 : x ≤ b
    ·have q1 : (a : Int) ≤ (x : Int) := by omega
     have q2 : (x : Int) ≤ (b : Int) := by omega
     have e : ANS = true := by rw [← Hx.out]; simp [h1, h3]
     subst e
     go_wp2_with fail
     go_ret
     exact ⟨rfl, rfl⟩
    ·have q1 : (a : Int) ≤ (x : Int) := by omega
     have q2 : ¬ (x : Int) ≤ (b : Int) := by omega
     have e : Hid (hasR (l.drop (J + 2)) x = ANS) := Lib.hid (by rw [← Hx.out]; simp [h3])
     go_wp2_with fail
     go_roundw
     case rel => exact ⟨j + 1, by omega, by rw [show 2 * (j + 1) = J + 2 by omega]; rfl, by rw [show 2 * (j + 1) = J + 2 by omega]; exact e, by first | rfl | trivial⟩
     case measure => simp [intOf]; omega
   ·have q1 : ¬ (a : Int) ≤ (x : Int) := by omega
    have e : Hid (hasR (l.drop (J + 2)) x = ANS) := Lib.hid (by rw [← Hx.out]; simp [h1])
    go_wp2_with fail
    go_roundw
    case rel => exact ⟨j + 1, by omega, by rw [show 2 * (j + 1) = J + 2 by omega]; rfl, by rw [show 2 * (j + 1) = J + 2 by omega]; exact e, by first | rfl | trivial⟩
    case measure => simp [intOf]; omega
  ·have z1 : ¬ (J : Int) < (n : Int) := by omega
   have e : ANS = false := by
    rw [← hans.out, List.drop_eq_nil_of_le (by rw [Hl.out]; omega)]; rfl
   subst e
   go_wp2_with fail
   go_ret
   exact ⟨rfl, rfl⟩
end Go.Proofs.YtecejnilajbdpaaGreatDoor
namespace Garner
open Go
theorem sizesGo_pre (ns : List NodeP) (k : Nat) (hk : k ≤ ns.length) {i : Nat} (hi : i < k) : (sizesGo [] (ns.take k)).getD i 0 = (sizesGo [] ns).getD i 0 := by
 have h : ∀ (l : List NodeP) (S : List Nat), i < S.length → (sizesGo S l).getD i 0 = S.getD i 0 := by
  intro l
  induction l with
  | nil => intro S _; rfl
  | cons n l ih =>
   intro S hS
   show (sizesGo (S ++ [nodeSize S n]) l).getD i 0 = _
   rw [ih _ (by simp; omega), List.getD_eq_getElem?_getD, List.getElem?_append_left hS, ← List.getD_eq_getElem?_getD]
 conv => rhs; rw [← List.take_append_drop k ns, sizesGo_app]
 exact (h (ns.drop k) _ (by rw [sizesGo_len, List.length_take]; simp; omega)).symm
end Garner
namespace Go.Proofs.YtecejnilajbdpaaGreatDoor
open Go.RowKit Garner
set_option maxRecDepth 100000 in
set_option maxHeartbeats 16000000 in
theorem qSize {F : Nat → Prop} (B : Nat) (A : Option Addr) (c N : Nat) (ns : List NodeP) (w : World) (hN : ns.length = N) (h : NodesIs F w B (.slice A N c) ns) (hlen : N ≤ 10000) (hwf : WfN ns) (hlim : ∀ n ∈ ns, NodeLim n) : ∀ M k : Nat, k < M → k < N →
  Calls Tryz.prog 82 #[.slice A N c, .int .i64 (k : Nat)] w fun e w' => e = .returned (.int .i64 (((sizesGo [] ns).getD k 0 : Nat) : Int)) ∧ w' = w := by
 have HN := Lib.hid hN; have HH := Lib.hid h; have Hwf := Lib.hid hwf; have Hlim := Lib.hid hlim
 clear hN h hwf hlim
 intro M
 induction M with
 | zero => intro k hk; omega
 | succ M ih =>
  intro k hkM hkN
  obtain ⟨ds, hds, hown0, hok⟩ := HH.out
  rw [HN.out] at hown0
  obtain ⟨gN, rfl, -, hgN, -, -, hcell⟩ := own_at hown0 (by omega)
  obtain ⟨d, hd⟩ : ∃ d, ds[k]? = some d := ⟨_, List.getElem?_eq_getElem (by have e1 := HN.out; have e2 := congrArg List.length hds; rw [List.length_map] at e2; omega)⟩
  have hnk : ns[k]? = some d.n := by rw [← hds, List.getElem?_map, hd]; rfl
  have hlm := Hlim.out d.n (List.mem_of_getElem? hnk)
  have hdo := hok d (List.mem_of_getElem? hd)
  have hw := Hwf.out k d.n hnk
  have cc : ∀ j, j < 5 → w.cell? ⟨gN, k * 5 + j, none⟩ = d.cells[j]? := fun j hj => by
   rw [hcell (k * 5 + j) (by omega), cells_at hd j hj]
  have c0 : w.cell? ⟨gN, k * 5, none⟩ = some (.int .i64 (d.n.kind : Nat)) := cc 0 (by omega)
  have c1 : w.cell? ⟨gN, k * 5 + 1, none⟩ = some (.slice d.kA d.n.kids.length d.kc) := cc 1 (by omega)
  have c2 : w.cell? ⟨gN, k * 5 + 2, none⟩ = some (.int .i64 (d.n.mn : Nat)) := cc 2 (by omega)
  have c3 : w.cell? ⟨gN, k * 5 + 3, none⟩ = some (.int .i64 d.n.mx) := cc 3 (by omega)
  obtain ⟨S, hS⟩ : ∃ S, sizesGo [] (ns.take k) = S := ⟨_, rfl⟩
  have hans : (sizesGo [] ns).getD k 0 = kidsSize (nodeTimes d.n) S d.n.kids := by
   rw [← sizesGo_pre ns (k + 1) (by rw [HN.out]; omega) (Nat.lt_succ_self k), sizes_take hnk, hS]
   have hSl : S.length = k := by rw [← hS, sizesGo_len, List.length_take, HN.out]; simp; omega
   rw [List.getD_eq_getElem?_getD, List.getElem?_append_right (by rw [hSl]; exact Nat.le_refl _), hSl, Nat.sub_self]
   rfl
  have hrec : ∀ kid, kid < k → Calls Tryz.prog 82 #[.slice (some ⟨gN, 0, none⟩) N c, .int .i64 (kid : Nat)] w fun e w' => e = .returned (.int .i64 ((S.getD kid 0 : Nat) : Int)) ∧ w' = w := fun kid hkid => by
   have := ih kid (by omega) (by omega)
   rwa [← sizesGo_pre ns k (by rw [HN.out]; omega) hkid, hS] at this
  have hSb : ∀ i, S.getD i 0 ≤ 2000 := fun i => by
   rw [List.getD_eq_getElem?_getD]
   cases hi : S[i]? with
   | none => simp
   | some y => exact sizes_le (ns.take k) [] (by simp) y (by rw [hS]; exact List.mem_of_getElem? hi)
  obtain ⟨ANS, hANS⟩ : ∃ ANS, (sizesGo [] ns).getD k 0 = ANS := ⟨_, rfl⟩
  rw [hANS] at hans ⊢
  obtain ⟨l1, l2, l3, l4, l5⟩ := hlm
  obtain ⟨T, hT⟩ : ∃ T, nodeTimes d.n = T := ⟨_, rfl⟩
  rw [hT] at hans
  unfold nodeTimes at hT
  have hdk := hdo.kids
  obtain ⟨ks, hks⟩ : ∃ ks, d.n.kids = ks := ⟨_, rfl⟩
  obtain ⟨kd, hkd⟩ : ∃ kd, d.n.kind = kd := ⟨_, rfl⟩
  obtain ⟨mn, hmn⟩ : ∃ mn, d.n.mn = mn := ⟨_, rfl⟩
  obtain ⟨mx, hmx⟩ : ∃ mx, d.n.mx = mx := ⟨_, rfl⟩
  obtain ⟨KA, hKA⟩ : ∃ KA, d.kA = KA := ⟨_, rfl⟩
  obtain ⟨kc, hkc⟩ : ∃ kc, d.kc = kc := ⟨_, rfl⟩
  rw [hks] at hans hw c1 hdk l5
  rw [hkd] at c0 l1 hT; rw [hmn] at c2 l2 hT; rw [hmx] at c3 l3 l4 hT; rw [hKA, hkc] at c1; rw [hKA] at hdk
  obtain ⟨kl, hkl⟩ : ∃ kl, ks.length = kl := ⟨_, rfl⟩
  rw [hkl] at c1 hdk l5
  have hT9 : T ≤ 9 := by
   rw [← hT]; split
   ·split <;> omega
   ·omega
  have Hans := Lib.hid hans; have Hrec := Lib.hid hrec; have HSb := Lib.hid hSb; have HT := Lib.hid hT; have Hdk := Lib.hid hdk; have Hw := Lib.hid hw; have Hkl := Lib.hid hkl
  have z1 : (k : Int) < (N : Int) := by omega
  clear hans hrec hSb hT hdk hw hkl hkd hmn hmx hKA hkc hks hANS hS cc hcell hown0 hok hds hd hnk hdo ih
  go_enter Tryz.func82, Tryz.ntmps82
  go_wp2
  go_loopw [5, 6] (fun v i wr => ∃ j a : Nat, j ≤ kl ∧ v = .int .i64 a ∧ i = .int .i64 j ∧ a ≤ 2000 ∧ Hid (a = kidsSize T S (ks.take j)) ∧ wr = w) (fun _ i _ => kl - (intOf i).toNat)
  case atStart => exact ⟨0, 1, Nat.zero_le _, rfl, rfl, by omega, Lib.hid rfl, rfl⟩
  case round =>
   obtain ⟨j, a, hj, rfl, rfl, ha2, haa, hwr⟩ := hrel
   obtain rfl : w = wr := hwr.symm
   by_cases hjl : j < kl
   ·obtain ⟨kid, hkid⟩ : ∃ kid, ks[j]? = some kid := ⟨_, List.getElem?_eq_getElem (by rw [Hkl.out]; exact hjl)⟩
    have hkk := Hw.out kid (List.mem_of_getElem? hkid)
    obtain ⟨y, hy⟩ : ∃ y, S.getD kid 0 = y := ⟨_, rfl⟩
    have hy2 := HSb.out kid
    have hr := Hrec.out kid hkk
    rw [hy] at hr hy2
    obtain ⟨bk, ok, rfl, ck0⟩ := Hdk.out.at_ (k := j) (u := iv kid) (by rw [List.getElem?_map, hkid]; rfl)
    have ckid : w.cell? ⟨bk, ok + j, none⟩ = some (.int .i64 (kid : Nat)) := ck0
    clear ck0
    have z2 : (j : Int) < (kl : Int) := by omega
    have wj1 : IntKind.i64.wrap ((j : Int) + 1) = ((j + 1 : Nat) : Int) := by rw [IntKind.wrap_i64]; omega
    have hTy : T * y ≤ 18000 := by
     have := Nat.mul_le_mul hT9 hy2
     omega
    have hstep := kids_take T S hkid
    rw [← haa.out, hy] at hstep
    obtain ⟨Q, hQ⟩ : ∃ Q, T * y = Q := ⟨_, rfl⟩
    have wm0 : (T : Int) * (y : Int) = (Q : Int) := by rw [← hQ, Int.natCast_mul]
    rw [hQ] at hstep hTy
    have wa : IntKind.i64.wrap ((a : Int) + (Q : Int)) = (a : Int) + (Q : Int) := by rw [IntKind.wrap_i64]; omega
    have wq : IntKind.i64.wrap (Q : Int) = (Q : Int) := by rw [IntKind.wrap_i64]; omega
    have Hst := Lib.hid hstep; have Hr := Lib.hid hr; have Hm0 := Lib.hid wm0
    clear hstep hy hkid haa wm0 hQ hr
    have hsplit : (∃ mxn : Nat, kd = 5 ∧ mx = (mxn : Int) ∧ 1 < mxn ∧ T = mxn) ∨ (kd = 5 ∧ mx < 0 ∧ 0 < mn ∧ T = mn + 1) ∨ (T = 1 ∧ (kd ≠ 5 ∨ (kd = 5 ∧ ¬ mx > 1 ∧ (¬ mx < 0 ∨ (mx < 0 ∧ mn = 0))))) := by
     have ht := HT.out
     by_cases h5 : kd = 5
     ·rw [if_pos h5] at ht
      by_cases hm : mx < 0
      ·rw [if_pos hm] at ht
       by_cases h0 : mn = 0
       ·exact .inr (.inr ⟨by omega, .inr ⟨h5, by omega, .inr ⟨hm, h0⟩⟩⟩)
       ·exact .inr (.inl ⟨h5, hm, by omega, ht.symm⟩)
      ·rw [if_neg hm] at ht
       by_cases h1 : mx > 1
       ·exact .inl ⟨mx.toNat, h5, by omega, by omega, by omega⟩
       ·exact .inr (.inr ⟨by omega, .inr ⟨h5, h1, .inl hm⟩⟩)
     ·rw [if_neg h5] at ht
      exact .inr (.inr ⟨ht.symm, .inl h5⟩)
    have wmn : IntKind.i64.wrap ((mn : Int) + 1) = (mn : Int) + 1 := by rw [IntKind.wrap_i64]; omega
    have hfini : ∀ (b : Nat), b = min 2000 (a + Q) → ∃ j' a' : Nat, j' ≤ kl ∧ Value.int .i64 (b : Nat) = .int .i64 (a' : Nat) ∧ Value.int .i64 ((j + 1 : Nat) : Int) = .int .i64 (j' : Nat) ∧ a' ≤ 2000 ∧ Hid (a' = kidsSize T S (ks.take j')) ∧ w = w := fun b hb => ⟨j + 1, b, hjl, rfl, rfl, by omega, Lib.hid (by rw [hb, Hst.out]), rfl⟩
    have Hfin := Lib.hid hfini
    clear hfini
    rcases hsplit with ⟨mxn, rfl, rfl, hx1, rfl⟩ | ⟨rfl, hm0, hn0, rfl⟩ | ⟨rfl, hh⟩
    ·have x1 : (1 : Int) < (T : Int) := by omega
     have x2 : ¬ (T : Int) < 0 := by omega
     have wm : (T : Int) * (y : Int) = (Q : Int) := Hm0.out
     have HM := Lib.hid wm
     clear wm
     by_cases hb : 2000 < a + Q
     ·have zb : (2000 : Int) < (a : Int) + (Q : Int) := by omega
      go_wp2_with fail
      refine Hr.out.mono ?_
      rintro e w2 ⟨rfl, hw2⟩
      obtain rfl : w = w2 := hw2.symm
      have wm := HM.out
      go_wp2
      go_roundw
      case rel => exact Hfin.out 2000 (by omega)
      case measure => simp [intOf]; omega
     ·have zb : ¬ (2000 : Int) < (a : Int) + (Q : Int) := by omega
      go_wp2_with fail
      refine Hr.out.mono ?_
      rintro e w2 ⟨rfl, hw2⟩
      obtain rfl : w = w2 := hw2.symm
      have wm := HM.out
      go_wp2
      go_roundw
      case rel => exact Hfin.out (a + Q) (by omega)
      case measure => simp [intOf]; omega
    ·have x1 : ¬ (1 : Int) < mx := by omega
     have x2 : (0 : Int) < (mn : Int) := by omega
     have wm : ((mn : Int) + 1) * (y : Int) = (Q : Int) := by have := Hm0.out; rwa [Int.natCast_add] at this
     have HM := Lib.hid wm
     clear wm
     by_cases hb : 2000 < a + Q
     ·have zb : (2000 : Int) < (a : Int) + (Q : Int) := by omega
      go_wp2_with fail
      refine Hr.out.mono ?_
      rintro e w2 ⟨rfl, hw2⟩
      obtain rfl : w = w2 := hw2.symm
      have wm := HM.out
      go_wp2
      go_roundw
      case rel => exact Hfin.out 2000 (by omega)
      case measure => simp [intOf]; omega
     ·have zb : ¬ (2000 : Int) < (a : Int) + (Q : Int) := by omega
      go_wp2_with fail
      refine Hr.out.mono ?_
      rintro e w2 ⟨rfl, hw2⟩
      obtain rfl : w = w2 := hw2.symm
      have wm := HM.out
      go_wp2
      go_roundw
      case rel => exact Hfin.out (a + Q) (by omega)
      case measure => simp [intOf]; omega
    ·have hyq : y = Q := by have := Hm0.out; simp at this; omega
     subst hyq
     rcases hh with h5 | ⟨h5, h1, h2 | ⟨hmn, h2⟩⟩
     ·have x0 : ((kd : Int) == 5) = false := by simp; omega
      by_cases hb : 2000 < a + y
      ·have zb : (2000 : Int) < (a : Int) + (y : Int) := by omega
       go_wp2_with fail
       refine Hr.out.mono ?_
       rintro e w2 ⟨rfl, hw2⟩
       obtain rfl : w = w2 := hw2.symm
       go_wp2
       go_roundw
       case rel => exact Hfin.out 2000 (by omega)
       case measure => simp [intOf]; omega
      ·have zb : ¬ (2000 : Int) < (a : Int) + (y : Int) := by omega
       go_wp2_with fail
       refine Hr.out.mono ?_
       rintro e w2 ⟨rfl, hw2⟩
       obtain rfl : w = w2 := hw2.symm
       go_wp2
       go_roundw
       case rel => exact Hfin.out (a + y) (by omega)
       case measure => simp [intOf]; omega
     ·subst h5
      have x1 : ¬ (1 : Int) < mx := by omega
      by_cases hb : 2000 < a + y
      ·have zb : (2000 : Int) < (a : Int) + (y : Int) := by omega
       go_wp2_with fail
       refine Hr.out.mono ?_
       rintro e w2 ⟨rfl, hw2⟩
       obtain rfl : w = w2 := hw2.symm
       go_wp2
       go_roundw
       case rel => exact Hfin.out 2000 (by omega)
       case measure => simp [intOf]; omega
      ·have zb : ¬ (2000 : Int) < (a : Int) + (y : Int) := by omega
       go_wp2_with fail
       refine Hr.out.mono ?_
       rintro e w2 ⟨rfl, hw2⟩
       obtain rfl : w = w2 := hw2.symm
       go_wp2
       go_roundw
       case rel => exact Hfin.out (a + y) (by omega)
       case measure => simp [intOf]; omega
     ·subst h5
      subst h2
      have x1 : ¬ (1 : Int) < mx := by omega
      by_cases hb : 2000 < a + y
      ·have zb : (2000 : Int) < (a : Int) + (y : Int) := by omega
       go_wp2_with fail
       refine Hr.out.mono ?_
       rintro e w2 ⟨rfl, hw2⟩
       obtain rfl : w = w2 := hw2.symm
       go_wp2
       go_roundw
       case rel => exact Hfin.out 2000 (by omega)
       case measure => simp [intOf]; omega
      ·have zb : ¬ (2000 : Int) < (a : Int) + (y : Int) := by omega
       go_wp2_with fail
       refine Hr.out.mono ?_
       rintro e w2 ⟨rfl, hw2⟩
       obtain rfl : w = w2 := hw2.symm
       go_wp2
       go_roundw
       case rel => exact Hfin.out (a + y) (by omega)
       case measure => simp [intOf]; omega
   ·have z2 : ¬ (j : Int) < (kl : Int) := by omega
    have hfin : a = ANS := by
     rw [haa.out, Hans.out, List.take_of_length_le (by rw [Hkl.out]; omega)]
    have HF := Lib.hid hfin
    clear hfin haa
    go_wp2
    go_ret
    exact ⟨by rw [HF.out]; rfl, rfl⟩
end Go.Proofs.YtecejnilajbdpaaGreatDoor
