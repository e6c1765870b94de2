import Derived.Test.YtecejnilajbdpaaGreatDoorTy47
namespace Garner
open Go
theorem ext_b {S : ByteArray} {l : Bs} (hS : S = ⟨l.toArray⟩) (a b : Nat) : S.extract a b = ⟨((l.drop a).take (b - a)).toArray⟩ := by
 rw [hS]
 apply ByteArray.ext
 rw [← Array.toList_inj, Lib.extract_data]
theorem two_ext {S : ByteArray} {l : Bs} (hS : S = ⟨l.toArray⟩) {k : Nat} (h : k + 1 < l.length) : S.extract k (k + 2) = ⟨(twoS l k).toArray⟩ := by
 rw [ext_b hS, twoS, if_pos h, show k + 2 - k = 2 by omega]
theorem two_len (l : Bs) (k : Nat) : (twoS l k).length ≤ 2 := by
 unfold twoS
 split
 ·rw [List.length_take]; omega
 ·exact Nat.zero_le _
theorem fiveS {t : Bs} (h : t ∈ signs2) : t = [33, 61] ∨ t = [61, 126] ∨ t = [33, 126] ∨ t = [124, 61] ∨ t = [124, 126] := by simpa [signs2] using h
theorem fourS {c : UInt8} (h : c ∈ signs1) : c = 123 ∨ c = 125 ∨ c = 44 ∨ c = 61 := by simpa [signs1] using h
theorem fourQ {c : UInt8} {q : Nat} (h : c ∈ signs1) (hq : c.toNat = q) : q = 123 ∨ q = 125 ∨ q = 44 ∨ q = 61 := by
 rcases fourS h with rfl | rfl | rfl | rfl
 ·exact .inl hq.symm
 ·exact .inr (.inl hq.symm)
 ·exact .inr (.inr (.inl hq.symm))
 ·exact .inr (.inr (.inr hq.symm))
theorem head_more {s : Bs} {k m : Nat} {c : UInt8} (h : s[m]? = some c) (hk : k ≤ m) (hm : m - k ≤ (nameHead (s.drop k)).length) : m - k < (nameHead (s.drop k)).length ↔ nameC false c = true := by
 refine head_lt (s := s.drop k) (k := m - k) ?_ hm
 rw [List.getElem?_drop, show k + (m - k) = m by omega, h]
theorem name_cases {q : Nat} : ((97 ≤ q ∧ q ≤ 122) ∨ q = 95 ∨ (48 ≤ q ∧ q ≤ 57)) ↔ nameC' q = true := by
 unfold nameC'
 simp
 omega
end Garner
namespace Go.Proofs.YtecejnilajbdpaaGreatDoor
open Go.RowKit Go.Shelf Garner
def TokO (s : Bs) (w : World) (e : Ending) (w' : World) : Prop := ∃ (v : Value) (l : List Bs) (b : Bool), e = .returned (.tuple #[v, .bool b]) ∧ Below w.heap.size w w' ∧ w'.ownsRow w.heap.size 9 1 v l.length (l.map strB) ∧ (∀ x ∈ l, x.length ≤ s.length + 1) ∧ l.length ≤ s.length ∧ ((b = true ∧ toks s = some l) ∨ (b = false ∧ toks s = none ∧ l = []))
theorem TokO.none_ {s : Bs} {w W : World} (h : toks s = none) (hb : Below w.heap.size w W) : TokO s w (.returned (.tuple #[.slice none 0 0, .bool false])) W :=
 ⟨_, [], false, rfl, hb, World.ownsRow_nil _ _ _ _, by simp, by simp, .inr ⟨rfl, h, rfl⟩⟩
structure TkSt (w0 wr : World) (s : Bs) (l : List Bs) (v : Value) (i : Nat) : Prop where
 be : Below w0.heap.size w0 wr
 ow : wr.ownsRow w0.heap.size 9 1 v l.length (l.map strB)
 ti : TkI s l i
 le : l.length ≤ i
 sm : ∀ x ∈ l, x.length ≤ s.length + 1
theorem TkSt.add {w0 wr w' : World} {s t : Bs} {l : List Bs} {v v' : Value} {i j : Nat} (h : TkSt w0 wr s l v i) {o : Obj} (hb : Below w0.heap.size (wr.alloc o) w') (ho : w'.ownsRow w0.heap.size 9 1 v' (l.length + 1) (l.map strB ++ [strB t])) (e : toks (s.drop i) = (toks (s.drop j)).map (t :: ·)) (hij : i < j) (ht : t.length ≤ s.length + 1) : TkSt w0 w' s (l ++ [t]) v' j := by
 refine ⟨(h.be.alloc h.be.size o).trans hb, ?_, h.ti.step e, by rw [List.length_append]; have := h.le; simp; omega, fun x hx => ?_⟩
 ·rw [List.length_append, List.map_append]; exact ho
 ·rcases List.mem_append.1 hx with hx | hx
  ·exact h.sm x hx
  ·rw [List.mem_singleton] at hx; rw [hx]; exact ht
set_option maxRecDepth 100000 in
set_option maxHeartbeats 64000000 in
theorem gTokens (s : Bs) (w : World) (hl : s.length ≤ 512) :
  Calls Tryz.prog 50 #[strB s] w fun e w' => TokO s w e w' := by
 obtain ⟨S, eS, hS⟩ := str_form s
 have zS : S.size = s.length := by rw [hS]; exact str_size s
 have hqd : ∀ (k : Nat) (w1 : World), k < s.length → Calls Tryz.prog 80 #[.string S, .int .i64 k] w1 fun e w' => QuoO s k e ∧ w' = w1 := fun k w1 hk => by rw [← eS]; exact gQuoted s k w1 (by omega) hk
 obtain ⟨N, hN⟩ : ∃ N, s.length = N := ⟨_, rfl⟩
 rw [hN] at zS hl hqd
 rw [eS]
 have HS := Lh hS; have HN := Lh hN; have HQd := Lh hqd
 clear hS hN eS hqd
 go_enter Tryz.func50, Tryz.ntmps50
 have H0 : Hid (TkSt w w s [] (.slice none 0 0) 0) := Lh ⟨Below.refl _ _, World.ownsRow_nil _ _ _ _, TkI.start s, Nat.le_refl _, by simp⟩
 go_wp2
 go_loopw [4, 5] (fun v i wr => ∃ (k : Nat) (l : List Bs), k ≤ N ∧ i = .int .i64 k ∧ Hid (TkSt w wr s l v k)) (fun _ i _ => N - (intOf i).toNat)
 case atStart => exact ⟨0, [], Nat.zero_le _, rfl, H0⟩
 case round =>
  clear H0
  obtain ⟨k, l, hk, rfl, HSt⟩ := hrel
  obtain ⟨wo, rfl⟩ : ∃ wo : World, wo = wr := ⟨_, rfl⟩
  have wk1 : IntKind.i64.wrap ((k : Int) + 1) = ((k + 1 : Nat) : Int) := by rw [IntKind.wrap_i64]; omega
  have wk2 : IntKind.i64.wrap ((k : Int) + 2) = ((k + 2 : Nat) : Int) := by rw [IntKind.wrap_i64]; omega
  have hob := HSt.out.ow
  obtain ⟨bl, hbl⟩ : ∃ bl, l.length = bl := ⟨_, rfl⟩
  have hble := HSt.out.le
  rw [hbl] at hob hble
  obtain ⟨BA, bc, rfl, -⟩ := own_form hob
  have HOb := Lh hob; have Hbl := Lh hbl
  have hsw := HSt.out.be.size
  clear hob hbl
  by_cases hlt : k < N
  ·have z1 : (k : Int) < (N : Int) := by omega
   obtain ⟨c, hc⟩ : ∃ c, s[k]? = some c := ⟨_, List.getElem?_eq_getElem (by rw [HN.out]; exact hlt)⟩
   have i1 := idx_byte (P := Tryz.prog) 9 Tryz.underlying9 S s HS.out (k : Int) k rfl (by rw [HN.out]; exact hlt) wo
   rw [show byteN s k = c.toNat by unfold byteN; rw [List.getD, hc]; rfl] at i1
   obtain ⟨q, hq⟩ : ∃ q, c.toNat = q := ⟨_, rfl⟩
   rw [hq] at i1
   obtain ⟨TW, hTW⟩ : ∃ TW : ByteArray, TW = ⟨(twoS s k).toArray⟩ := ⟨_, rfl⟩
   have Hc := Lh hc; have Hq := Lh hq; have HTW := Lh hTW
   clear hc hq hTW
   go_upto_if 22 with fail
   clear i1
   go_cut [7] from 11 to 162 (fun v wx => v = .string TW ∧ wx = wo)
   case first =>
    by_cases hk1 : k + 1 < N
    ·have z2 : ((k + 1 : Nat) : Int) < (N : Int) := by omega
     have z3 : (k : Int) + 1 < (N : Int) := by omega
     have hex : S.extract k (k + 2) = TW := by rw [HTW.out]; exact two_ext HS.out (by rw [HN.out]; exact hk1)
     have HEx := Lh hex
     clear hex
     go_wp2
     go_meet
     case rel => exact ⟨by first | rfl | (rw [HEx.out]), by first | rfl | trivial⟩
    ·have z2 : ¬ ((k + 1 : Nat) : Int) < (N : Int) := by omega
     have z3 : ¬ (k : Int) + 1 < (N : Int) := by omega
     have hex : TW = ⟨#[]⟩ := by rw [HTW.out, two_none (by rw [HN.out]; exact hk1)]
     have HEx := Lh hex
     clear hex
     go_wp2
     go_meet
     case rel => exact ⟨by rw [HEx.out], by first | rfl | trivial⟩
   case rest =>
    obtain ⟨rfl, hz⟩ := hcut
    obtain rfl : wo = wc := hz.symm
    by_cases h32 : c = 32
    ·have hq32 : q = 32 := by rw [← Hq.out, h32]; rfl
     subst hq32
     have hst : TkSt w wo s l (.slice BA bl bc) (k + 1) := ⟨HSt.out.be, by rw [Hbl.out]; exact HOb.out, HSt.out.ti.skip (tk_sp Hc.out h32), by have := HSt.out.le; omega, HSt.out.sm⟩
     have HSt2 := Lh hst
     clear hst h32
     go_wp2
     go_roundw
     case rel => exact ⟨k + 1, l, by omega, by first | rfl | go_num, HSt2⟩
     case measure => simp [intOf]; omega
    have b32 : ¬ (q : Int) = 32 := fun h => h32 (by apply UInt8.toNat.inj; rw [Hq.out]; exact_mod_cast h)
    have c32 : ((q : Int) == 32) = false := beq_eq_false_iff_ne.2 b32
    by_cases h2 : twoS s k ∈ signs2
    ·have htk := tk_two Hc.out h32 h2
     have hk1 : k + 1 < N := by
      refine Decidable.byContradiction fun hn => ?_
      rw [two_none (by rw [HN.out]; exact hn)] at h2
      revert h2; decide
     have HTk := Lh htk
     clear htk
     as_aux_lemma =>
      go_upto_region 11 with fail
      go_cut [33] from 11 to 162 (fun v wx => v = .bool true ∧ wx = wo)
      case first =>
       rcases fiveS h2 with h | h | h | h | h
       all_goals (have hT := HTW.out; rw [h] at hT; clear h h2 HTk HTW; subst hT; go_wp2; go_meet; case rel => exact ⟨rfl, by first | rfl | trivial⟩)
      case rest =>
       obtain ⟨rfl, hz⟩ := hcut
       obtain rfl : wo = wc := hz.symm
       have hTs : strB (twoS s k) = .string TW := by rw [HTW.out]; rfl
       have HTs := Lh hTs
       clear hTs h2
       go_wp2_with (at_builtin; refine wpList_app _ rfl strQE rfl rfl (HOb.out.alloc _) rfl (row_newN wo 9 1 1 [.string TW] rfl) (by intro u hu; rw [List.mem_singleton] at hu; subst hu; rfl) (by omega) (by simp; omega) ?_; intro v8 w8 own8 hg8 hb8 hx8)
       have hst2 := HSt.out.add (t := twoS s k) (j := k + 2) hb8 (by rw [Hbl.out, HTs.out]; exact own8) HTk.out (by omega) (by have := two_len s k; rw [HN.out]; omega)
       have HSt2 := Lh hst2
       clear own8 hg8 hb8 hx8 hst2
       go_wp2
       go_roundw
       case rel => exact ⟨k + 2, _, by omega, by first | rfl | go_num, HSt2⟩
       case measure => simp [intOf]; omega
    have hn2 := fun u (hu : u ∈ signs2) => str_ne (u := u) HTW.out (fun e => h2 (by rw [e]; exact hu))
    obtain ⟨u1, v1⟩ := hn2 [33, 61] (by decide)
    obtain ⟨u2, v2⟩ := hn2 [61, 126] (by decide)
    obtain ⟨u3, v3⟩ := hn2 [33, 126] (by decide)
    obtain ⟨u4, v4⟩ := hn2 [124, 61] (by decide)
    obtain ⟨u5, v5⟩ := hn2 [124, 126] (by decide)
    clear hn2
    by_cases h1 : c ∈ signs1
    ·have htk := tk_one Hc.out h32 h2 h1
     have hex := one_ext HS.out Hc.out
     have HTk := Lh htk; have HEx := Lh hex
     clear htk hex
     as_aux_lemma =>
      obtain ⟨E, hE⟩ : ∃ E : ByteArray, E = ⟨#[c]⟩ := ⟨_, rfl⟩
      have hex := HEx.out
      rw [← hE] at hex
      have hTs : strB [c] = .string E := by rw [hE]; rfl
      have HTs := Lh hTs
      clear hE hTs HEx
      go_upto_region 14 with fail
      go_cut [58] from 11 to 162 (fun v wx => v = .bool true ∧ wx = wo)
      case first =>
       clear b32 c32
       rcases fourQ h1 Hq.out with h | h | h | h
       all_goals (subst h; clear h1 HTk; go_wp2; go_meet; case rel => exact ⟨rfl, by first | rfl | trivial⟩)
      case rest =>
       obtain ⟨rfl, hz⟩ := hcut
       obtain rfl : wo = wc := hz.symm
       clear h1
       go_wp2_with (at_builtin; refine wpList_app _ rfl strQE rfl rfl (HOb.out.alloc _) rfl (row_newN wo 9 1 1 [.string E] rfl) (by intro u hu; rw [List.mem_singleton] at hu; subst hu; rfl) (by omega) (by simp; omega) ?_; intro v8 w8 own8 hg8 hb8 hx8)
       have hst2 := HSt.out.add (t := [c]) (j := k + 1) hb8 (by rw [Hbl.out, HTs.out]; exact own8) HTk.out (by omega) (by simp)
       have HSt2 := Lh hst2
       clear own8 hg8 hb8 hx8 hst2
       go_wp2
       go_roundw
       case rel => exact ⟨k + 1, _, by omega, by first | rfl | go_num, HSt2⟩
       case measure => simp [intOf]; omega
    have hno1 : (¬ (q : Int) = 123) ∧ (¬ (q : Int) = 125) ∧ (¬ (q : Int) = 44) ∧ (¬ (q : Int) = 61) := by
     have k : ∀ d : UInt8, d ∈ signs1 → ¬ (q : Int) = (d.toNat : Int) := fun d hd e => h1 (by
      have e2 : c = d := by apply UInt8.toNat.inj; rw [Hq.out]; exact_mod_cast e
      rw [e2]; exact hd)
     exact ⟨k 123 (by decide), k 125 (by decide), k 44 (by decide), k 61 (by decide)⟩
    obtain ⟨n1, n2, n3, n4⟩ := hno1
    have m1 : ((q : Int) == 123) = false := beq_eq_false_iff_ne.2 n1
    have m2 : ((q : Int) == 125) = false := beq_eq_false_iff_ne.2 n2
    have m3 : ((q : Int) == 44) = false := beq_eq_false_iff_ne.2 n3
    have m4 : ((q : Int) == 61) = false := beq_eq_false_iff_ne.2 n4
    by_cases h34 : c = 34
    ·as_aux_lemma =>
      have hq34 : q = 34 := by rw [← Hq.out, h34]; rfl
      subst hq34
      have htk := tk_txt Hc.out h34
      have hqk := HQd.out k wo hlt
      have HTk := Lh htk; have HQk := Lh hqk
      clear htk hqk b32 c32 n1 n2 n3 n4 m1 m2 m3 m4
      go_wp2_with fail
      refine HQk.out.mono ?_
      rintro e wz ⟨hO, hz⟩
      obtain rfl : wo = wz := hz.symm
      obtain ⟨t, j, rfl, hcase⟩ := hO
      rcases hcase with ⟨n, rfl, hkn, hnN, htl, htg⟩ | ⟨rfl, htg⟩
      ·have htk2 := HTk.out
       rw [htg] at htk2
       rw [HN.out] at hnN htl
       obtain ⟨T, eT, hT⟩ := str_form t
       rw [eT]
       have zT : T.size ≤ 512 := by rw [hT, str_size]; omega
       have zj : ¬ (n : Int) < 0 := by omega
       have hTq : strB (34 :: t) = .string (⟨#[34]⟩ ++ T) := by rw [hT]; exact congrArg Value.string (bytes_app [34] t).symm
       have HTk2 := Lh htk2; have HTq := Lh hTq
       clear htk2 hTq htg eT hT HTk HQk
       obtain ⟨T2, hT2⟩ : ∃ T2 : ByteArray, T2 = (⟨#[34]⟩ : ByteArray) ++ T := ⟨_, rfl⟩
       have HT2 := Lh hT2
       clear hT2
       go_upto_region 21 with fail
       go_wp2_with (at_builtin; refine wpList_app _ rfl strQE rfl rfl (HOb.out.alloc _) rfl (row_newN wo 9 1 1 [.string ((⟨#[34]⟩ : ByteArray) ++ T)] rfl) (by intro u hu; rw [List.mem_singleton] at hu; subst hu; rfl) (by omega) (by simp; omega) ?_; intro v8 w8 own8 hg8 hb8 hx8)
       have hst2 := HSt.out.add (t := 34 :: t) (j := n) hb8 (by rw [Hbl.out, HTq.out]; exact own8) HTk2.out hkn (by rw [HN.out, List.length_cons]; omega)
       have HSt2 := Lh hst2
       clear own8 hg8 hb8 hx8 hst2
       go_wp2
       go_roundw
       case rel => exact ⟨n, _, hnN, by first | rfl | go_num, HSt2⟩
       case measure => simp [intOf]; omega
      ·have hno : toks s = none := HSt.out.ti.none_ (by rw [HTk.out, htg])
       have HAn := Lh (TokO.none_ hno HSt.out.be)
       clear hno htg HTk HQk
       obtain ⟨T, eT, -⟩ := str_form t
       rw [eT]
       clear eT
       go_wp2
       go_ret2
       exact HAn.out
    have n5 : ¬ (q : Int) = 34 := fun h => h34 (by apply UInt8.toNat.inj; rw [Hq.out]; exact_mod_cast h)
    have m5 : ((q : Int) == 34) = false := beq_eq_false_iff_ne.2 n5
    cases hnc : nameC false c with
    | true =>
     as_aux_lemma =>
      have hcq : nameC' q = true := by rw [← nameC_q Hq.out]; exact hnc
      have htk := tk_name Hc.out hnc
      have hhl := head_le (s.drop k)
      rw [List.length_drop, HN.out] at hhl
      obtain ⟨M, hM⟩ : ∃ M, (nameHead (s.drop k)).length = M := ⟨_, rfl⟩
      rw [hM] at htk hhl
      have hM0 : 0 < M := by
       have := (head_more Hc.out (Nat.le_refl k) (by omega)).2 hnc
       rw [hM] at this; omega
      have HTk := Lh htk; have HM := Lh hM
      clear htk hM hnc
      have hcl : (97 ≤ q ∧ q ≤ 122) ∨ q = 95 ∨ (48 ≤ q ∧ q ≤ 57) := name_cases.2 hcq
      clear hcq h32 h2 h1 h34
      go_upto_region 23 with fail
      go_cut [100] from 11 to 162 (fun v wx => v = .bool true ∧ wx = wo)
      case first =>
       clear u1 v1 u2 v2 u3 v3 u4 v4 u5 v5
       rcases hcl with ⟨a1, a2⟩ | a1 | ⟨a1, a2⟩
       ·have b4 : ((q : Int) == 95) = false := by simp; omega
        have b5 : ¬ (q : Int) = 95 := by omega
        have c1 : (97 : Int) ≤ (q : Int) := by omega
        have c2 : (q : Int) ≤ 122 := by omega
        go_wp2
        go_meet
        case rel => exact ⟨rfl, by first | rfl | trivial⟩
       ·subst a1
        go_wp2
        go_meet
        case rel => exact ⟨rfl, by first | rfl | trivial⟩
       ·have b4 : ((q : Int) == 95) = false := by simp; omega
        have b5 : ¬ (q : Int) = 95 := by omega
        have c1 : (48 : Int) ≤ (q : Int) := by omega
        have c2 : (q : Int) ≤ 57 := by omega
        have c3 : ¬ (97 : Int) ≤ (q : Int) := by omega
        go_wp2
        go_meet
        case rel => exact ⟨rfl, by first | rfl | trivial⟩
      case rest =>
       obtain ⟨rfl, hz⟩ := hcut
       obtain rfl : wo = wc := hz.symm
       clear hcl u1 v1 u2 v2 u3 v3 u4 v4 u5 v5 b32 c32 n1 n2 n3 n4 n5 m1 m2 m3 m4 m5
       go_wp2
       go_loopw [5] (fun i wr => ∃ m : Nat, k ≤ m ∧ m ≤ k + M ∧ i = .int .i64 m ∧ wr = wo) (fun i _ => k + M - (intOf i).toNat)
       case atStart => exact ⟨k, Nat.le_refl _, by omega, rfl, rfl⟩
       case round =>
        obtain ⟨m, hkm, hmM, rfl, hwr⟩ := hrel
        obtain rfl : wo = wr := hwr.symm
        have wm1 : IntKind.i64.wrap ((m : Int) + 1) = ((m + 1 : Nat) : Int) := by rw [IntKind.wrap_i64]; omega
        obtain ⟨bq, hbq⟩ : ∃ bq, decide (m < k + M) = bq := ⟨_, rfl⟩
        have HBq := Lh hbq
        clear hbq
        go_upto_region 25 with fail
        go_cut [153] from 120 to 155 (fun v wx => v = .bool bq ∧ wx = wo)
        case first =>
         by_cases hml : m < N
         ·have z5 : (m : Int) < (N : Int) := by omega
          obtain ⟨d, hd⟩ : ∃ d, s[m]? = some d := ⟨_, List.getElem?_eq_getElem (by rw [HN.out]; exact hml)⟩
          have i5 := idx_byte (P := Tryz.prog) 9 Tryz.underlying9 S s HS.out (m : Int) m rfl (by rw [HN.out]; exact hml) wo
          rw [show byteN s m = d.toNat by unfold byteN; rw [List.getD, hd]; rfl] at i5
          obtain ⟨q, hq⟩ : ∃ q, d.toNat = q := ⟨_, rfl⟩
          rw [hq] at i5
          have hmore := head_more hd hkm (by rw [HM.out]; omega)
          rw [HM.out, nameC_q hq] at hmore
          have hcase : (97 ≤ q ∧ q ≤ 122) ∨ q = 95 ∨ (48 ≤ q ∧ q ≤ 57) ∨ q < 48 ∨ (57 < q ∧ q < 95) ∨ q = 96 ∨ 122 < q := by omega
          have HMore := Lh hmore
          clear hmore hd hq
          rcases hcase with ⟨a1, a2⟩ | a1 | ⟨a1, a2⟩ | a1 | ⟨a1, a2⟩ | a1 | a1
          ·have hb : bq = true := by rw [← HBq.out]; exact decide_eq_true (by have h := HMore.out.2 (name_cases.1 (by omega)); omega)
           have b4 : ((q : Int) == 95) = false := by simp; omega
           have b5 : ¬ (q : Int) = 95 := by omega
           have c1 : (97 : Int) ≤ (q : Int) := by omega
           have c2 : (q : Int) ≤ 122 := by omega
           have HB := Lh hb
           clear hb HMore
           go_wp2
           go_meet
           case rel => exact ⟨by rw [HB.out], by first | rfl | trivial⟩
          ·have hb : bq = true := by rw [← HBq.out]; exact decide_eq_true (by have h := HMore.out.2 (name_cases.1 (by omega)); omega)
           subst a1
           have HB := Lh hb
           clear hb HMore
           go_wp2
           go_meet
           case rel => exact ⟨by rw [HB.out], by first | rfl | trivial⟩
          ·have hb : bq = true := by rw [← HBq.out]; exact decide_eq_true (by have h := HMore.out.2 (name_cases.1 (by omega)); omega)
           have b4 : ((q : Int) == 95) = false := by simp; omega
           have b5 : ¬ (q : Int) = 95 := by omega
           have c1 : (48 : Int) ≤ (q : Int) := by omega
           have c2 : (q : Int) ≤ 57 := by omega
           have c3 : ¬ (97 : Int) ≤ (q : Int) := by omega
           have HB := Lh hb
           clear hb HMore
           go_wp2
           go_meet
           case rel => exact ⟨by rw [HB.out], by first | rfl | trivial⟩
          ·have hb : bq = false := by
            rw [← HBq.out]
            refine decide_eq_false fun hlt => ?_
            have h := name_cases.2 (HMore.out.1 (by omega))
            omega
           have b4 : ((q : Int) == 95) = false := by simp; omega
           have b5 : ¬ (q : Int) = 95 := by omega
           have c1 : ¬ (48 : Int) ≤ (q : Int) := by omega
           have c3 : ¬ (97 : Int) ≤ (q : Int) := by omega
           have HB := Lh hb
           clear hb HMore
           go_wp2
           go_meet
           case rel => exact ⟨by rw [HB.out], by first | rfl | trivial⟩
          ·have hb : bq = false := by
            rw [← HBq.out]
            refine decide_eq_false fun hlt => ?_
            have h := name_cases.2 (HMore.out.1 (by omega))
            omega
           have b4 : ((q : Int) == 95) = false := by simp; omega
           have b5 : ¬ (q : Int) = 95 := by omega
           have c1 : (48 : Int) ≤ (q : Int) := by omega
           have c2 : ¬ (q : Int) ≤ 57 := by omega
           have c3 : ¬ (97 : Int) ≤ (q : Int) := by omega
           have HB := Lh hb
           clear hb HMore
           go_wp2
           go_meet
           case rel => exact ⟨by rw [HB.out], by first | rfl | trivial⟩
          ·have hb : bq = false := by
            rw [← HBq.out]
            refine decide_eq_false fun hlt => ?_
            have h := name_cases.2 (HMore.out.1 (by omega))
            omega
           subst a1
           have HB := Lh hb
           clear hb HMore
           go_wp2
           go_meet
           case rel => exact ⟨by rw [HB.out], by first | rfl | trivial⟩
          ·have hb : bq = false := by
            rw [← HBq.out]
            refine decide_eq_false fun hlt => ?_
            have h := name_cases.2 (HMore.out.1 (by omega))
            omega
           have b4 : ((q : Int) == 95) = false := by simp; omega
           have b5 : ¬ (q : Int) = 95 := by omega
           have c1 : (48 : Int) ≤ (q : Int) := by omega
           have c2 : ¬ (q : Int) ≤ 57 := by omega
           have c3 : (97 : Int) ≤ (q : Int) := by omega
           have c4 : ¬ (q : Int) ≤ 122 := by omega
           have HB := Lh hb
           clear hb HMore
           go_wp2
           go_meet
           case rel => exact ⟨by rw [HB.out], by first | rfl | trivial⟩
         ·have z5 : ¬ (m : Int) < (N : Int) := by omega
          have hb : bq = false := by rw [← HBq.out]; exact decide_eq_false (by omega)
          have HB := Lh hb
          clear hb
          go_wp2
          go_meet
          case rel => exact ⟨by rw [HB.out], by first | rfl | trivial⟩
        case rest =>
         obtain ⟨rfl, hz⟩ := hcut
         obtain rfl : wo = wc := hz.symm
         cases bq with
         | true =>
          have hlt2 : m < k + M := of_decide_eq_true HBq.out
          go_wp2
          go_roundw
          case rel => exact ⟨m + 1, by omega, by omega, by first | rfl | go_num, (by first | rfl | trivial)⟩
          case measure => simp [intOf]; omega
         | false =>
          have hge : ¬ m < k + M := of_decide_eq_false HBq.out
          have hmk : m = k + M := by omega
          subst hmk
          have hex := ext_b HS.out k (k + M)
          rw [show k + M - k = M by omega] at hex
          go_wp2_with (at_builtin; refine wpList_app _ rfl strQE rfl rfl (HOb.out.alloc _) rfl (row_newN wo 9 1 1 [_] rfl) (by intro u hu; rw [List.mem_singleton] at hu; subst hu; rfl) (by omega) (by simp; omega) ?_; intro v8 w8 own8 hg8 hb8 hx8)
          have hst2 := HSt.out.add (t := (s.drop k).take M) (j := k + M) hb8 (by rw [Hbl.out]; exact own8) HTk.out (by omega) (by rw [List.length_take, List.length_drop]; omega)
          have HSt2 := Lh hst2
          clear own8 hg8 hb8 hx8 hst2
          go_wp2
          go_roundw
          case rel => exact ⟨k + M, _, by omega, by first | rfl | go_num, HSt2⟩
          case measure => simp [intOf]; omega
    | false =>
     have hno : toks s = none := HSt.out.ti.none_ (tk_bad Hc.out h32 h2 h1 h34 hnc)
     have HAn := Lh (TokO.none_ hno HSt.out.be)
     have hcq : nameC' q = false := by rw [← nameC_q Hq.out]; exact hnc
     have hcc : q < 48 ∨ (57 < q ∧ q < 95) ∨ q = 96 ∨ 122 < q := by
      have h := mt name_cases.1 (by rw [hcq]; decide)
      omega
     clear hno hnc hcq h32 h2 h1 h34
     rcases hcc with a1 | ⟨a1, a2⟩ | a1 | a1
     ·as_aux_lemma =>
       have b4 : ((q : Int) == 95) = false := by simp; omega
       have b5 : ¬ (q : Int) = 95 := by omega
       have c1 : ¬ (48 : Int) ≤ (q : Int) := by omega
       have c3 : ¬ (97 : Int) ≤ (q : Int) := by omega
       go_wp2
       go_ret2
       exact HAn.out
     ·as_aux_lemma =>
       have b4 : ((q : Int) == 95) = false := by simp; omega
       have b5 : ¬ (q : Int) = 95 := by omega
       have c1 : (48 : Int) ≤ (q : Int) := by omega
       have c2 : ¬ (q : Int) ≤ 57 := by omega
       have c3 : ¬ (97 : Int) ≤ (q : Int) := by omega
       go_wp2
       go_ret2
       exact HAn.out
     ·as_aux_lemma =>
       subst a1
       go_wp2
       go_ret2
       exact HAn.out
     ·as_aux_lemma =>
       have b4 : ((q : Int) == 95) = false := by simp; omega
       have b5 : ¬ (q : Int) = 95 := by omega
       have c1 : (48 : Int) ≤ (q : Int) := by omega
       have c2 : ¬ (q : Int) ≤ 57 := by omega
       have c3 : (97 : Int) ≤ (q : Int) := by omega
       have c4 : ¬ (q : Int) ≤ 122 := by omega
       go_wp2
       go_ret2
       exact HAn.out
  ·obtain rfl : k = N := by omega
   have z1 : ¬ (k : Int) < (k : Int) := by omega
   have hfin := HSt.out.ti.fin (by rw [HN.out]; exact Nat.le_refl _)
   have hans : TokO s w (.returned (.tuple #[.slice BA bl bc, .bool true])) wo := ⟨_, l, true, rfl, HSt.out.be, by rw [Hbl.out]; exact HOb.out, HSt.out.sm, by rw [Hbl.out, HN.out]; omega, .inl ⟨rfl, hfin⟩⟩
   have HAn := Lh hans
   clear hfin hans
   go_wp2
   go_ret2
   exact HAn.out
end Go.Proofs.YtecejnilajbdpaaGreatDoor
