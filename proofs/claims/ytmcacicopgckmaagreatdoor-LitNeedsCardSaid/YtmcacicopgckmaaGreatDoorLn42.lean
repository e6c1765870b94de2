import Derived.Test.YtmcacicopgckmaaGreatDoorLn38
import Derived.Test.YtmcacicopgckmaaGreatDoorLn01
import Derived.Laws.Runes
/-! lit: row -/
namespace Garner
open Go
/-- the trees that row goes on into -/
def subL : Re → Option (List Re)
  | .seq l => some l
  | .rep k mn _ => if 0 < mn then some [k] else none
  | _ => none
theorem litSub_eq (t : Re) : litSub t = match subL t with | some l => litRow l [] | none => [] := by
  cases t with
  | emp => rw [litSub]; rfl
  | set _ => rw [litSub]; rfl
  | seq l => rw [litSub]; rfl
  | alt _ => rw [litSub]; rfl
  | bgn => rw [litSub]; rfl
  | fin => rw [litSub]; rfl
  | rep k mn mx =>
    rw [litSub_rep, subL]
    by_cases h : 0 < mn
    · rw [if_pos h, if_pos h]; rfl
    · rw [if_neg h, if_neg h]
theorem subL_cnt {t : Re} {l : List Re} (h : subL t = some l) : cnts l < t.cnt := by
  cases t with
  | seq l' => simp only [subL, Option.some.injEq] at h; subst h; simp [Re.cnt]
  | rep k mn mx =>
    rw [subL] at h
    split at h
    · injection h with h; subst h; simp [Re.cnt, cnts]
    · cases h
  | emp => cases h
  | set _ => cases h
  | alt _ => cases h
  | bgn => cases h
  | fin => cases h
theorem cnts_mem {t : Re} : ∀ {l : List Re}, t ∈ l → t.cnt ≤ cnts l
  | u :: l, h => by
    rcases List.mem_cons.1 h with rfl | h
    · simp [cnts]
    · have := cnts_mem h
      simp [cnts]; omega
theorem litRow_drop {l : List Re} {j : Nat} {t : Re} (h : l[j]? = some t) (run : Bs) : litRow (l.drop j) run = match litP t with | some r => litRow (l.drop (j + 1)) (run ++ encR r) | none => addL run ++ (litSub t ++ litRow (l.drop (j + 1)) []) := by
  obtain ⟨hj, e⟩ := List.getElem?_eq_some_iff.1 h
  rw [List.drop_eq_getElem_cons hj, e, litRow]
  cases litP t <;> rfl
end Garner
namespace Go.Proofs.YtmcacicopgckmaaGreatDoor
open Go.RowKit Garner
theorem node_root {ns : List NodeP} {b : Nat} {t : Re} (h : AtN ns b (t.flat b)) : ∃ nd, ns[b + t.cnt - 1]? = some nd ∧ litN nd = litP t ∧
    (match subL t with
      | some l => (nd.kind = 3 ∨ (nd.kind = 5 ∧ 0 < nd.mn)) ∧ nd.kids = roots b l ∧ AtN ns b (flats b l)
      | none => nd.kind ≠ 3 ∧ (nd.kind = 5 → nd.mn = 0)) := by
  cases t with
  | emp => exact ⟨_, last_at (l := []) rfl rfl h, rfl, by simp [subL]⟩
  | set l => exact ⟨_, last_at (l := []) rfl rfl h, by rcases l with _ | ⟨a, _ | ⟨b, _ | _⟩⟩ <;> simp [litN, litP], by simp [subL]⟩
  | bgn => exact ⟨_, last_at (l := []) rfl rfl h, rfl, by simp [subL]⟩
  | fin => exact ⟨_, last_at (l := []) rfl rfl h, rfl, by simp [subL]⟩
  | alt l => exact ⟨_, last_at (t := .alt l) (l := flats b l) rfl (by rw [flats_len]; rfl) h, rfl, by simp [subL]⟩
  | seq l => exact ⟨_, last_at (t := .seq l) (l := flats b l) rfl (by rw [flats_len]; rfl) h, rfl, .inl rfl, rfl, AtN.left (m := [_]) h⟩
  | rep k mn mx =>
    refine ⟨_, last_at (t := .rep k mn mx) (l := k.flat b) rfl (by rw [flat_len]; rfl) h, rfl, ?_⟩
    by_cases hm : 0 < mn
    · rw [show subL (.rep k mn mx) = some [k] from if_pos hm]
      exact ⟨.inr ⟨rfl, hm⟩, rfl, by simpa [flats] using AtN.left (m := [_]) h⟩
    · rw [show subL (.rep k mn mx) = none from if_neg hm]
      exact ⟨(by show (5 : Nat) ≠ 3; omega), fun _ => by show mn = 0; omega⟩
/-- row finds what kids need -/
def RowK (W0 : World) (A : Option Addr) (c : Nat) (ns : List NodeP) (l : List Re) : Prop :=
  ∀ (b : Nat) (w : World) (g : Nat) (out : List Bs) (KA : Option Addr) (kc : Nat), AtN ns b (flats b l) → W0.heap.size ≤ g → FindIs W0.heap.size (.slice A ns.length c) w g out → Below W0.heap.size W0 w → RowT w 3 KA l.length ((roots b l).map iv) → (out ++ litRow l []).length ≤ 100000000000 →
    Calls Tryz.prog 32 #[.pointer (some ⟨g, 0, none⟩), .slice KA l.length kc] w fun e w' => e = .returned (.tuple #[]) ∧ FindIs W0.heap.size (.slice A ns.length c) w' g (out ++ litRow l []) ∧ QF W0.heap.size w w'
set_option maxRecDepth 100000 in
set_option maxHeartbeats 16000000 in
theorem vRowL {F : Nat → Prop} {W0 : World} {B0 : Nat} {A : Option Addr} {c : Nat} {ns : List NodeP} (hN : NodesIs F W0 B0 (.slice A ns.length c) ns) (l : List Re) (hl : l.length ≤ 1000000000000) (ih : ∀ t ∈ l, ∀ l2, subL t = some l2 → RowK W0 A c ns l2) : RowK W0 A c ns l := by
  intro b w g out KA kc hat hBg hp hb hrow hsz
  obtain ⟨kl, hkl⟩ : ∃ kl, l.length = kl := ⟨_, rfl⟩
  obtain ⟨TOT, hTOT⟩ : ∃ TOT, out ++ litRow l [] = TOT := ⟨_, rfl⟩
  rw [hkl] at hrow hl ⊢
  rw [hTOT] at hsz ⊢
  have HN := Lib.hid hN; have Hkl := Lib.hid hkl; have HT := Lib.hid hTOT; have Hat := Lib.hid hat; have Hih := Lib.hid ih; have Hp := Lib.hid hp; have HB := Lib.hid hb; have Hrow := Lib.hid hrow; have Hsz := Lib.hid hsz
  clear hN hkl hTOT hat ih hp hb hrow hsz
  go_enter Tryz.func32, Tryz.ntmps32
  go_wp2
  go_loopw [4, 12] (fun v i wr => ∃ (j : Nat) (run : Bs) (S : ByteArray) (oj : List Bs), j ≤ kl ∧ run.length ≤ 4 * j ∧ i = .int .i64 j ∧ v = .string S ∧ Hid (S = ⟨run.toArray⟩) ∧ Hid (oj ++ litRow (l.drop j) run = TOT) ∧ Hid (FindIs W0.heap.size (.slice A ns.length c) wr g oj) ∧ Hid (QF W0.heap.size w wr)) (fun _ i _ => kl - (intOf i).toNat)
  case atStart => exact ⟨0, [], ⟨#[]⟩, out, Nat.zero_le _, Nat.zero_le _, rfl, rfl, Lib.hid rfl, HT, Hp, Lib.hid (QF.refl _ _)⟩
  case round =>
    obtain ⟨j, run, S, oj, hj, hrl, rfl, rfl, hS, heq, hfi, hq⟩ := hrel
    obtain ⟨wo, rfl⟩ : ∃ wo : World, wo = wr := ⟨_, rfl⟩
    have wk1 : IntKind.i64.wrap ((j : Int) + 1) = ((j + 1 : Nat) : Int) := by rw [IntKind.wrap_i64]; omega
    have hWo : Below W0.heap.size W0 wo := HB.out.trans hq.out.low
    have hso := hWo.size
    have hlen : oj.length ≤ 100000000000 := by
      have h1 := congrArg List.length heq.out
      have h2 := Hsz.out
      rw [List.length_append] at h1; omega
    by_cases hlt : j < kl
    · obtain ⟨t, ht⟩ : ∃ t, l[j]? = some t := ⟨_, List.getElem?_eq_getElem (by rw [Hkl.out]; exact hlt)⟩
      have hroot := kid_root ht b
      have hrow := Hrow.out.keep hq.out.keep (by decide)
      obtain ⟨bk, ok, rfl, ck0⟩ := hrow.at_ (k := j) (u := iv _) (by rw [List.getElem?_map, hroot]; rfl)
      obtain ⟨nd, hnd, hlit, hsub⟩ := node_root (kid_nodes ht Hat.out)
      have hdr := litRow_drop ht run
      obtain ⟨r, hr⟩ : ∃ r, b + cnts (l.take j) + t.cnt - 1 = r := ⟨_, rfl⟩
      rw [hr] at ck0 hnd
      have ckid : wo.cell? ⟨bk, ok + j, none⟩ = some (.int .i64 (r : Nat)) := ck0
      have c0 : wo.cell? ⟨g, 0, none⟩ = some (.slice A ns.length c) := by
        obtain ⟨O, m, h1, -⟩ := hfi.out
        exact h1.cell 0
      have hpl := vPlain HN.out hnd wo hWo g c0
      have z1 : (j : Int) < (kl : Int) := by omega
      have HPL := Lib.hid hpl; have Hnd := Lib.hid hnd; have Hsub := Lib.hid hsub; have Hdr := Lib.hid hdr; have Ht := Lib.hid ht; have HWo := Lib.hid hWo; have Hlit := Lib.hid hlit; have Hlen := Lib.hid hlen; have Hso := Lib.hid hso; have Hrl := Lib.hid hrl
      clear hrl hlen hso hpl hnd hsub hdr ht hWo hlit c0 hr hroot hrow ck0
      cases ho : litN nd with
      | some x =>
        have hpl := HPL.out
        rw [ho] at hpl
        have HP2 := Lib.hid hpl
        have hdr := Hdr.out
        rw [← Hlit.out, ho] at hdr
        have Hdr2 : Hid (litRow (l.drop j) run = litRow (l.drop (j + 1)) (run ++ encR x)) := Lib.hid hdr
        clear hpl HPL hdr ho Hdr Hlit Hsub Hnd
        have hes := enc_list x
        have hez := enc_size x
        have hel := encR_len x
        obtain ⟨EN, hEN⟩ : ∃ EN, Utf8.encode (x : Int) = EN := ⟨_, rfl⟩
        rw [hEN] at hes hez
        obtain ⟨C, hC, hC2, -⟩ := cat2 hS.out (show EN = ⟨(encR x).toArray⟩ by rw [← hes])
        have hS2 := hS.out
        have zS : S.size = run.length := by rw [hS2]; exact str_size run
        obtain ⟨s1, hs1⟩ : ∃ s1, S.size = s1 := ⟨_, rfl⟩
        obtain ⟨s2, hs2⟩ : ∃ s2, EN.size = s2 := ⟨_, rfl⟩
        have bz1 : s1 ≤ 4 * j := by have := Hrl.out; omega
        have bz2 : s2 ≤ 4 := by omega
        have hnl : (run ++ encR x).length ≤ 4 * (j + 1) := by rw [List.length_append]; have := Hrl.out; omega
        have HC2 := Lib.hid hC2; have Hnl := Lib.hid hnl
        have bz : ¬ 9223372036854775807 < s1 + s2 := by omega
        clear hC2 hes hez hel zS hS2 hnl bz1 bz2
        go_wp2_with fail
        refine HP2.out.mono ?_
        rintro e w1 ⟨rfl, hb1⟩
        have Hb1 := Lib.hid hb1
        clear hb1 HP2
        dsimp only [litV]
        go_wp2_with fail
        go_roundw
        case rel => exact ⟨j + 1, run ++ encR x, C, oj, by omega, Hnl.out, by first | rfl | go_num, rfl, HC2, Lib.hid (by rw [← Hdr2.out]; exact heq.out), Lib.hid (hfi.out.below Hb1.out), Lib.hid (hq.out.trans (QF.of_below Hb1.out Hso.out))⟩
        case measure => simp [intOf]; omega
      | none =>
        have hpl := HPL.out
        rw [ho] at hpl
        have HP2 := Lib.hid hpl
        have hdr := Hdr.out
        rw [← Hlit.out, ho] at hdr
        have Hdr2 : Hid (litRow (l.drop j) run = addL run ++ (litSub t ++ litRow (l.drop (j + 1)) [])) := Lib.hid hdr
        clear hpl HPL hdr ho Hdr Hlit
        go_wp2_with fail
        refine HP2.out.mono ?_
        rintro e w1 ⟨rfl, hb1⟩
        have hso1 := hb1.size
        have had := vAdd S run hS.out w1 g oj (hfi.out.below hb1) hBg (by have := Hso.out; omega) (by have := Hlen.out; omega)
        have Hb1 := Lib.hid hb1; have HAd := Lib.hid had; have Hs1 := Lib.hid hso1
        clear hb1 HP2 had hso1
        dsimp only [litV]
        go_wp2_with fail
        refine HAd.out.mono ?_
        rintro e w2 ⟨rfl, f2, q2⟩
        have hq2 : QF W0.heap.size w w2 := (hq.out.trans (QF.of_below Hb1.out Hso.out)).trans q2
        have hW2 : Below W0.heap.size W0 w2 := HB.out.trans hq2.low
        have hsub := Hsub.out
        obtain ⟨gN, d, rfl, hd, hok, hgN, hcell⟩ := HN.out.node Hnd.out
        have cc : ∀ j, j < 5 → w2.cell? ⟨gN, r * 5 + j, none⟩ = d.cells[j]? := fun j hj => by
          rw [hW2.cell (p := ⟨gN, r * 5 + j, none⟩) hgN, hcell j hj]
        have k0 : w2.cell? ⟨gN, r * 5, none⟩ = some (.int .i64 (d.n.kind : Nat)) := cc 0 (by omega)
        have k1 : w2.cell? ⟨gN, r * 5 + 1, none⟩ = some (.slice d.kA d.n.kids.length d.kc) := cc 1 (by omega)
        have k2 : w2.cell? ⟨gN, r * 5 + 2, none⟩ = some (.int .i64 (d.n.mn : Nat)) := cc 2 (by omega)
        have k3 : w2.cell? ⟨gN, r * 5 + 3, none⟩ = some (.int .i64 d.n.mx) := cc 3 (by omega)
        have k4 : w2.cell? ⟨gN, r * 5 + 4, none⟩ = some (.slice d.sA d.n.set.length d.sc) := cc 4 (by omega)
        have hkids := hok.kids.below hW2
        rw [hd] at k0 k1 k2 k3 k4 hkids
        obtain ⟨M, hM⟩ : ∃ M, ns.length = M := ⟨_, rfl⟩
        have hrl := (List.getElem?_eq_some_iff.1 Hnd.out).1
        have z2 : (r : Int) < (M : Int) := by omega
        have c0 : w2.cell? ⟨g, 0, none⟩ = some (.slice (some ⟨gN, 0, none⟩) M c) := by
          obtain ⟨O, m, h1, -⟩ := f2
          rw [hM] at h1
          exact h1.cell 0
        obtain ⟨K, hK⟩ : ∃ K, nd.kind = K := ⟨_, rfl⟩
        obtain ⟨Q, hQ⟩ : ∃ Q, nd.set.length = Q := ⟨_, rfl⟩
        obtain ⟨kn, hkn⟩ : ∃ kn, nd.kids.length = kn := ⟨_, rfl⟩
        obtain ⟨mn, hmn⟩ : ∃ mn, nd.mn = mn := ⟨_, rfl⟩
        obtain ⟨mx, hmx⟩ : ∃ mx, nd.mx = mx := ⟨_, rfl⟩
        obtain ⟨sA, hsA⟩ : ∃ sA, d.sA = sA := ⟨_, rfl⟩
        obtain ⟨sc, hsc⟩ : ∃ sc, d.sc = sc := ⟨_, rfl⟩
        obtain ⟨kA, hkA⟩ : ∃ kA, d.kA = kA := ⟨_, rfl⟩
        obtain ⟨kc2, hkc⟩ : ∃ kc2, d.kc = kc2 := ⟨_, rfl⟩
        rw [hK] at k0
        rw [hkA, hkn, hkc] at k1
        rw [hmn] at k2
        rw [hmx] at k3
        rw [hsA, hQ, hsc] at k4
        rw [hkA, hkn] at hkids
        rw [hK, hmn] at hsub
        obtain ⟨X, hX⟩ : ∃ X, X = w2.alloc (.cells #[.int .i64 K, .slice kA kn kc2, .int .i64 mn, .int .i64 mx, .slice sA Q sc] 94) := ⟨_, rfl⟩
        have hbX : Below w2.heap.size w2 X := by rw [hX]; exact (Below.refl _ _).alloc (Nat.le_refl _) _
        have bX : Blk X w2.heap.size 94 [.int .i64 K, .slice kA kn kc2, .int .i64 mn, .int .i64 mx, .slice sA Q sc] := by rw [hX]; exact Blk.new w2 _ _
        have x0 : X.cell? ⟨w2.heap.size, 0, none⟩ = some (.int .i64 K) := bX.cell 0
        have x1 : X.cell? ⟨w2.heap.size, 1, none⟩ = some (.slice kA kn kc2) := bX.cell 1
        have x2 : X.cell? ⟨w2.heap.size, 2, none⟩ = some (.int .i64 mn) := bX.cell 2
        have hs2 : W0.heap.size ≤ w2.heap.size := hW2.size
        have hqX : QF W0.heap.size w X := hq2.trans (QF.of_below hbX hs2)
        have hWX : Below W0.heap.size W0 X := HB.out.trans hqX.low
        have fX := f2.below hbX
        have kX := hkids.below hbX
        have HqX := Lib.hid hqX; have HWX := Lib.hid hWX; have FX := Lib.hid fX; have KX := Lib.hid kX; have Hsub2 := Lib.hid hsub; have Hkn := Lib.hid hkn
        have heq2 : (oj ++ addL run) ++ (litSub t ++ litRow (l.drop (j + 1)) []) = TOT := by rw [List.append_assoc, ← Hdr2.out]; exact heq.out
        have Heq2 := Lib.hid heq2; have HM := Lib.hid hM
        clear hqX hWX fX kX hsub hkn heq2 bX hbX hs2 hkids hq2 hW2 hrl hcell cc hok hd hK hQ hmn hmx hsA hsc hkA hkc f2 q2 hgN Hsub HAd heq Hdr2 hfi hM hq
        go_upto_region 10 with fail
        rw [← hX]
        clear hX k0 k1 k2 k3 k4 c0
        cases hsb : subL t with
        | none =>
          have hsub := Hsub2.out
          rw [hsb] at hsub
          obtain ⟨hk3, hk5⟩ := hsub
          have hls : litSub t = [] := by rw [litSub_eq, hsb]
          have heq2 := Heq2.out
          rw [hls, List.nil_append] at heq2
          have Heq3 := Lib.hid heq2
          have z3 : ((K : Int) == 3) = false := by simp; omega
          have z3' : ¬ (K : Int) = 3 := by omega
          clear heq2 hls hsb Hsub2 Heq2 hk3
          by_cases h5 : K = 5
          · subst h5
            obtain rfl : mn = 0 := hk5 rfl
            clear hk5
            go_wp2_with fail
            go_roundw
            case rel => exact ⟨j + 1, [], ⟨#[]⟩, _, by omega, Nat.zero_le _, by first | rfl | go_num, rfl, Lib.hid rfl, Heq3, FX, HqX⟩
            case measure => simp [intOf]; omega
          · have z5 : ((K : Int) == 5) = false := by simp; omega
            have z5' : ¬ (K : Int) = 5 := by omega
            clear hk5 h5
            go_wp2_with fail
            go_roundw
            case rel => exact ⟨j + 1, [], ⟨#[]⟩, _, by omega, Nat.zero_le _, by first | rfl | go_num, rfl, Lib.hid rfl, Heq3, FX, HqX⟩
            case measure => simp [intOf]; omega
        | some l2 =>
          have hsub := Hsub2.out
          rw [hsb] at hsub
          obtain ⟨hk, hkd, hat2⟩ := hsub
          have hls : litSub t = litRow l2 [] := by rw [litSub_eq, hsb]
          have heq2 := Heq2.out
          rw [hls, ← List.append_assoc] at heq2
          have Heq3 := Lib.hid heq2
          have hl2 : l2.length = kn := by rw [← Hkn.out, hkd, roots_length]
          have kX := KX.out
          rw [hkd, ← hl2] at kX
          have hrec := Hih.out t (List.mem_of_getElem? Ht.out) l2 hsb _ X g _ kA kc2 hat2 hBg FX.out HWX.out kX (by
            have h1 := congrArg List.length heq2
            have h2 := Hsz.out
            rw [List.length_append] at h1; omega)
          rw [hl2] at hrec
          have HRec := Lib.hid hrec
          clear hrec kX hl2 heq2 hls hsb Hsub2 Heq2 hkd hat2
          rcases hk with rfl | ⟨rfl, hm⟩
          · go_wp2_with fail
            refine HRec.out.mono ?_
            rintro e w3 ⟨rfl, f3, q3⟩
            have F3 := Lib.hid f3; have Q3 := Lib.hid (HqX.out.trans q3)
            clear f3 q3
            go_wp2_with fail
            go_roundw
            case rel => exact ⟨j + 1, [], ⟨#[]⟩, _, by omega, Nat.zero_le _, by first | rfl | go_num, rfl, Lib.hid rfl, Heq3, F3, Q3⟩
            case measure => simp [intOf]; omega
          · have z5 : (0 : Int) < (mn : Int) := by omega
            go_wp2_with fail
            refine HRec.out.mono ?_
            rintro e w3 ⟨rfl, f3, q3⟩
            have F3 := Lib.hid f3; have Q3 := Lib.hid (HqX.out.trans q3)
            clear f3 q3
            go_wp2_with fail
            go_roundw
            case rel => exact ⟨j + 1, [], ⟨#[]⟩, _, by omega, Nat.zero_le _, by first | rfl | go_num, rfl, Lib.hid rfl, Heq3, F3, Q3⟩
            case measure => simp [intOf]; omega
    · obtain rfl : j = kl := by omega
      have z1 : ¬ (j : Int) < (j : Int) := by omega
      have had := vAdd S run hS.out wo g oj hfi.out hBg hso (by omega)
      have hfin : oj ++ addL run = TOT := by rw [← heq.out, List.drop_eq_nil_of_le (by rw [Hkl.out]; exact Nat.le_refl _), litRow]
      rw [hfin] at had
      have HAd := Lib.hid had
      clear had hfin hlen hso hWo hrl
      go_wp2_with fail
      refine HAd.out.mono ?_
      rintro e w2 ⟨rfl, f2, q2⟩
      have F2 := Lib.hid f2; have Q2 := Lib.hid q2
      clear f2 q2
      go_wp2_with fail
      go_end0
      exact ⟨rfl, F2.out, hq.out.trans Q2.out⟩
theorem rowAll {F : Nat → Prop} {W0 : World} {B0 : Nat} {A : Option Addr} {c : Nat} {ns : List NodeP} (hN : NodesIs F W0 B0 (.slice A ns.length c) ns) : ∀ (n : Nat) (l : List Re), cnts l ≤ n → cnts l ≤ 1000000000000 → RowK W0 A c ns l := by
  intro n
  induction n with
  | zero =>
    intro l hn hb
    refine vRowL hN l (by have := len_cnts l; omega) fun t ht l2 h2 => ?_
    have h1 := cnts_mem ht
    have h3 := subL_cnt h2
    omega
  | succ n ih =>
    intro l hn hb
    refine vRowL hN l (by have := len_cnts l; omega) fun t ht l2 h2 => ?_
    have h1 := cnts_mem ht
    have h3 := subL_cnt h2
    exact ih l2 (by omega) (by omega)
end Go.Proofs.YtmcacicopgckmaaGreatDoor

