import Derived.Test.YtecejnilajbdpaaGreatDoorTy50
namespace Garner
open Go
theorem str_yes {T : ByteArray} {t : Bs} (hT : T = ⟨t.toArray⟩) : (T.toList == t) = true ∧ T.toList = t := by
 have e : T.toList = t := by rw [hT]; simp
 rw [e]
 exact ⟨by simp, rfl⟩
theorem tk_const {l : List Bs} {i : Nat} (h : tkAt l i ≠ []) : i < l.length := by
 refine Decidable.byContradiction fun hn => h ?_
 unfold tkAt
 rw [List.getD, List.getElem?_eq_none_iff.2 (by omega)]
 rfl
theorem tk_mem {l : List Bs} {i : Nat} (h : i < l.length) : tkAt l i ∈ l := by
 unfold tkAt
 rw [List.getD, List.getElem?_eq_getElem h]
 exact List.getElem_mem h
theorem tk_get {l : List Bs} {i : Nat} (h : i < l.length) : l[i]? = some (tkAt l i) := by
 unfold tkAt
 rw [List.getD, List.getElem?_eq_getElem h]
 rfl
theorem tail_ext {S : ByteArray} {t : Bs} {n : Nat} (hS : S = ⟨t.toArray⟩) (hn : t.length = n) : S.extract 1 n = ⟨t.tail.toArray⟩ := by
 rw [ext_b hS, List.take_of_length_le (by rw [List.length_drop]; omega), List.drop_one]
theorem nameP_len {n : Bs} (h : nameP n = true) : n.length ≤ 32 := by
 unfold nameP at h
 simp at h
 omega
end Garner
namespace Go.Proofs.YtecejnilajbdpaaGreatDoor
open Go.RowKit Go.Shelf Garner
set_option maxRecDepth 100000 in
set_option maxHeartbeats 64000000 in
theorem gParseQ (s : Bs) (w : World) (hl : s.length ≤ 140737488355328) :
  Calls Tryz.prog 27 #[strB s] w fun e w' => QParseO s w e w' := by
 obtain ⟨X0, hX0⟩ : ∃ X0, X0 = w.alloc (.cells #[.slice none 0 0, .slice none 0 0] 25) := ⟨_, rfl⟩
 have hwX : Below w.heap.size w X0 := by rw [hX0]; exact (Below.refl _ _).alloc (Nat.le_refl _) _
 have bX : Blk X0 w.heap.size 25 [.slice none 0 0, .slice none 0 0] := by rw [hX0]; exact Blk.new w _ _
 obtain ⟨S, eS, hS⟩ := str_form s
 have hva : s.length ≤ 512 → _ := fun h => vRunes S s hS X0 (by omega)
 have htk : s.length ≤ 512 → ∀ wx, Calls Tryz.prog 50 #[.string S] wx fun e w' => TokO s wx e w' := fun h wx => by rw [← eS]; exact gTokens s wx h
 rw [eS]
 have zS : S.size = s.length := by rw [hS]; exact str_size s
 obtain ⟨N, hN⟩ : ∃ N, s.length = N := ⟨_, rfl⟩
 rw [hN] at zS htk hl hva
 have hPq : parseQ s = parseQ s := rfl
 conv at hPq => rhs; unfold parseQ
 rw [hN] at hPq
 obtain ⟨vb, hvb⟩ : ∃ vb, Lib.validD s = vb := ⟨_, rfl⟩
 rw [hvb] at hva hPq
 have HVa := Lh hva; have HPq := Lh hPq; have HwX := Lh hwX; have BX := Lh bX; have HN := Lh hN; have HTk := Lh htk
 clear hva hPq hwX bX hN eS hS hvb hl htk
 go_enter Tryz.func27, Tryz.ntmps27
 go_upto_region 1 with fail
 rw [← hX0]
 clear hX0
 have hend : ∀ (W0 : World), Below w.heap.size w W0 → Blk W0 w.heap.size 25 [.slice none 0 0, .slice none 0 0] → ∀ W, W = (W0.setCell ⟨w.heap.size, 0, none⟩ (.slice none 0 0)).setCell ⟨w.heap.size, 1, none⟩ (.slice none 0 0) → Below w.heap.size w W ∧ W.cell? ⟨w.heap.size, 0, none⟩ = some (.slice none 0 0) ∧ W.cell? ⟨w.heap.size, 1, none⟩ = some (.slice none 0 0) := by
  rintro W0 h1 h2 W rfl
  have h3 := (h2.set_ 0 (.slice none 0 0)).set_ 1 (.slice none 0 0)
  have bW : But [w.heap.size] W0 ((W0.setCell ⟨w.heap.size, 0, none⟩ (.slice none 0 0)).setCell ⟨w.heap.size, 1, none⟩ (.slice none 0 0)) := ((But.refl _ _).setCell (by simp) _).setCell (by simp) _
  exact ⟨h1.trans (bW.below h1.size fun x hx => by rw [List.mem_singleton] at hx; rw [hx]; exact Nat.le_refl _), h3.cell 0, h3.cell 1⟩
 have HEnd := Lh hend
 clear hend
 by_cases h512 : 512 < N
 ·have z1 : (512 : Int) < (N : Int) := by omega
  have hp := HPq.out
  rw [if_pos h512] at hp
  have r0 : X0.cell? ⟨w.heap.size, 0, none⟩ = some (.slice none 0 0) := BX.out.cell 0
  have r1 : X0.cell? ⟨w.heap.size, 1, none⟩ = some (.slice none 0 0) := BX.out.cell 1
  have rf0 := BX.out.frozen 0
  have rf1 := BX.out.frozen 1
  obtain ⟨W, hW⟩ : ∃ W, W = (X0.setCell ⟨w.heap.size, 0, none⟩ (.slice none 0 0)).setCell ⟨w.heap.size, 1, none⟩ (.slice none 0 0) := ⟨_, rfl⟩
  obtain ⟨hbW, w0c, w1c⟩ := HEnd.out X0 HwX.out BX.out W hW
  have HP2 := Lh (hp); have HW := Lh hW; have HbW := Lh hbW
  clear hW hbW
  go_wp2
  rw [← HW.out]
  clear HW r0 r1 rf0 rf1 hp
  refine bodyPost_ret (v := .tuple #[.agg #[.slice none 0 0, .slice none 0 0], .int .i64 4]) (by simp [results, Tryz.results27, go_sem, *]) rfl ?_
  exact QParseO.err (k := 4) HP2.out (by decide) HbW.out
 have z1 : ¬ (512 : Int) < (N : Int) := by omega
 have hPq2 := HPq.out
 rw [if_neg h512] at hPq2
 have HPq2 := Lh hPq2
 clear hPq2 HPq
 go_wp2_with fail
 refine (HVa.out (by omega)).mono ?_
 rintro e w1 ⟨v, rfl, -, hb1⟩
 have hw1 := HwX.out.trans (hb1.mono HwX.out.size)
 have b1 := BX.out.below hb1 BX.out.lt
 have Hw1 := Lh hw1; have B1 := Lh b1
 clear hw1 b1 hb1 HVa BX HwX
 cases vb with
 | false =>
  have hp := HPq2.out
  rw [if_pos rfl] at hp
  have r0 : w1.cell? ⟨w.heap.size, 0, none⟩ = some (.slice none 0 0) := B1.out.cell 0
  have r1 : w1.cell? ⟨w.heap.size, 1, none⟩ = some (.slice none 0 0) := B1.out.cell 1
  have rf0 := B1.out.frozen 0
  have rf1 := B1.out.frozen 1
  obtain ⟨W, hW⟩ : ∃ W, W = (w1.setCell ⟨w.heap.size, 0, none⟩ (.slice none 0 0)).setCell ⟨w.heap.size, 1, none⟩ (.slice none 0 0) := ⟨_, rfl⟩
  obtain ⟨hbW, w0c, w1c⟩ := HEnd.out w1 Hw1.out B1.out W hW
  have HP2 := Lh (hp); have HW := Lh hW; have HbW := Lh hbW
  clear hW hbW
  go_wp2
  rw [← HW.out]
  clear HW r0 r1 rf0 rf1 hp
  refine bodyPost_ret (v := .tuple #[.agg #[.slice none 0 0, .slice none 0 0], .int .i64 8]) (by simp [results, Tryz.results27, go_sem, *]) rfl ?_
  exact QParseO.err (k := 8) HP2.out (by decide) HbW.out
 | true =>
  have hp := HPq2.out
  rw [if_neg (by decide)] at hp
  have htk := HTk.out (by omega) w1
  have HP := Lh hp; have HT := Lh htk
  clear hp htk HTk HPq2
  go_wp2_with fail
  refine HT.out.mono ?_
  rintro e w2 hO
  obtain ⟨LV, l, ok, rfl, hb2, ol, lsm, llen, hcase⟩ := hO
  have hw2 := Hw1.out.trans (hb2.mono Hw1.out.size)
  have b2 := B1.out.below hb2 B1.out.lt
  have ol2 := own_mono ol Hw1.out.size
  have Hw2 := Lh hw2; have B2 := Lh b2
  clear hw2 b2 hb2 ol HT Hw1 B1
  cases ok with
  | false =>
   have hno : toks s = none := by
    rcases hcase with ⟨h, -⟩ | ⟨-, h, -⟩
    ·cases h
    ·exact h
   have hp := HP.out
   rw [hno] at hp
   have hp2 : parseQ s = .error 50 := hp
   clear hno hcase ol2 lsm llen hp
   have r0 : w2.cell? ⟨w.heap.size, 0, none⟩ = some (.slice none 0 0) := B2.out.cell 0
   have r1 : w2.cell? ⟨w.heap.size, 1, none⟩ = some (.slice none 0 0) := B2.out.cell 1
   have rf0 := B2.out.frozen 0
   have rf1 := B2.out.frozen 1
   obtain ⟨W, hW⟩ : ∃ W, W = (w2.setCell ⟨w.heap.size, 0, none⟩ (.slice none 0 0)).setCell ⟨w.heap.size, 1, none⟩ (.slice none 0 0) := ⟨_, rfl⟩
   obtain ⟨hbW, w0c, w1c⟩ := HEnd.out w2 Hw2.out B2.out W hW
   have HP2 := Lh (hp2); have HW := Lh hW; have HbW := Lh hbW
   clear hW hbW
   go_wp2
   rw [← HW.out]
   clear HW r0 r1 rf0 rf1 hp2
   refine bodyPost_ret (v := .tuple #[.agg #[.slice none 0 0, .slice none 0 0], .int .i64 50]) (by simp [results, Tryz.results27, go_sem, *]) rfl ?_
   exact QParseO.err (k := 50) HP2.out (by decide) HbW.out
  | true =>
   have hyes : toks s = some l := by
    rcases hcase with ⟨-, h⟩ | ⟨h, -, -⟩
    ·exact h
    ·cases h
   have hp := HP.out
   rw [hyes] at hp
   have hp2 : parseQ s = (match queryR l with | none => .error 50 | some q => if checkQ q = 0 then .ok q else .error (checkQ q)) := hp
   have hbad : queryR l = none → parseQ s = .error 50 := fun h => by rw [hp2, h]
   have hgood : ∀ q, queryR l = some q → parseQ s = if checkQ q = 0 then .ok q else .error (checkQ q) := fun q h => by rw [hp2, h]
   obtain ⟨n, hn⟩ : ∃ n, l.length = n := ⟨_, rfl⟩
   rw [hn] at ol2 llen
   rw [HN.out] at lsm llen
   obtain ⟨LA, lc, rfl, -⟩ := own_form ol2
   have hat : ∀ (wx : World) (j : Nat) (z : Int), z = (j : Int) → Row wx wx.heap.size 1 LA n (l.map strB) → Calls Tryz.prog 51 #[.slice LA n lc, .int .i64 z] wx fun e w' => e = .returned (strB (tkAt l j)) ∧ w' = wx := by
    rintro wx j z rfl hr
    exact gAt l LA n lc j wx hr hn
   have HBad := Lh hbad; have HGood := Lh hgood; have HAt := Lh hat; have Hn := Lh hn; have OL := Lh ol2; have HSm := Lh lsm
   have hn512 : n ≤ 512 := by omega
   clear hbad hgood hat hn ol2 lsm llen hp hp2 hyes hcase HP
   go_wp2_with fail
   refine (HAt.out w2 0 _ rfl (.of_own OL.out)).mono ?_
   rintro e wz ⟨rfl, hz⟩
   obtain rfl : w2 = wz := hz.symm
   by_cases hq0 : tkAt l 0 = [123]
   ·rw [hq0]
    have he0 : strB [123] = .string ⟨#[123]⟩ := rfl
    rw [he0]
    clear he0
    obtain ⟨X, hX⟩ : ∃ X, X = w2.alloc (.cells #[.slice none 0 0, .slice none 0 0] 25) := ⟨_, rfl⟩
    have bX : Below w2.heap.size w2 X := by rw [hX]; exact (Below.refl _ _).alloc (Nat.le_refl _) _
    have kX : Blk X w2.heap.size 25 [.slice none 0 0, .slice none 0 0] := by rw [hX]; exact Blk.new w2 _ _
    have hC : GpC w X w2.heap.size n l LA lc (.slice none 0 0) (.slice none 0 0) [] [] := ⟨Hw2.out.trans (bX.mono Hw2.out.size), B2.out.below bX B2.out.lt, kX, B2.out.lt, World.ownsRow_nil _ _ _ _, World.ownsRow_nil _ _ _ _, own_below OL.out bX, by simp, by simp⟩
    obtain ⟨qb, hqb⟩ : ∃ qb, w2.heap.size = qb := ⟨_, rfl⟩
    rw [hqb] at hC
    have HC := Lh hC
    clear hC bX kX B2 OL
    go_upto_region 10 with fail
    rw [← hX]
    (try rw [hqb])
    clear hX hqb Hw2
    go_wp2_with fail
    refine (HAt.out X 1 _ rfl HC.out.row).mono ?_
    rintro e wz ⟨rfl, hz⟩
    obtain rfl : X = wz := hz.symm
    obtain ⟨T1, eT1, hT1⟩ := str_form (tkAt l 1)
    have HT1 := Lh hT1
    clear hT1
    rw [eT1]
    clear eT1
    have Hq0 := Lh hq0
    clear hq0
    go_upto_if 41 with fail
    go_cut [8] (fun i wx => ∃ (ii : Nat) (ms : List MatP) (V1 : Value), ii ≤ n ∧ ms.length * 4 ≤ ii ∧ i = .int .i64 ii ∧ Hid (GpC w wx qb n l LA lc V1 (.slice none 0 0) ms []) ∧ Hid (queryR l = KF ms [] (l.drop ii)))
    case first =>
     by_cases hq1 : tkAt l 1 = [125]
     ·obtain ⟨u1, u2⟩ := str_yes (T := T1) (t := [125]) (by rw [HT1.out, hq1])
      have h2n : 2 ≤ n := by
       have h := tk_const (l := l) (i := 1) (by rw [hq1]; simp)
       rw [Hn.out] at h
       omega
      have hK := query_close Hq0.out hq1
      have HK := Lh hK
      clear hK hq1
      (try rw [u1])
      go_wp2
      go_meet
      case rel => exact ⟨2, [], _, h2n, by simp, rfl, HC, HK⟩
     ·have hK := query_more Hq0.out hq1
      obtain ⟨u1, u2⟩ := str_ne HT1.out hq1
      have HK := Lh hK
      clear hK hq1
      (try rw [u1])
      go_wp2
      clear u1 u2
      go_loopw [8, 9] (fun i v wr => ∃ (ii : Nat) (mo : Bool) (ms : List MatP) (V1 : Value), ii ≤ n + 1 ∧ ms.length * 4 ≤ ii ∧ i = .int .i64 ii ∧ v = .bool mo ∧ Hid (GpC w wr qb n l LA lc V1 (.slice none 0 0) ms []) ∧ Hid (mo = true → queryR l = KM ms (l.drop ii)) ∧ Hid (mo = false → ii ≤ n ∧ queryR l = KF ms [] (l.drop ii))) (fun i _ _ => n + 5 - (intOf i).toNat)
      case atStart => exact ⟨1, true, [], _, by omega, by simp, rfl, rfl, HC, Lh (fun _ => HK.out), Lh (by simp)⟩
      case round =>
       clear HC HK HT1 Hq0
       obtain ⟨ii, mo, ms, V1, hin, hms, rfl, rfl, HC, HM, HF⟩ := hrel
       obtain ⟨wo, rfl⟩ : ∃ wo : World, wo = wr := ⟨_, rfl⟩
       cases mo with
       | false =>
        have hF := HF.out rfl
        have HF2 := Lh hF.2
        have hin2 := hF.1
        clear hF
        go_wp2
        go_meet
        case rel => exact ⟨ii, ms, V1, hin2, hms, rfl, HC, HF2⟩
       | true =>
        have wk1 : IntKind.i64.wrap ((ii : Int) + 1) = ((ii + 1 : Nat) : Int) := by rw [IntKind.wrap_i64]; omega
        have wk2 : IntKind.i64.wrap ((ii : Int) + 2) = ((ii + 2 : Nat) : Int) := by rw [IntKind.wrap_i64]; omega
        have wk3 : IntKind.i64.wrap ((ii : Int) + 3) = ((ii + 3 : Nat) : Int) := by rw [IntKind.wrap_i64]; omega
        have wk4 : IntKind.i64.wrap ((ii : Int) + 4) = ((ii + 4 : Nat) : Int) := by rw [IntKind.wrap_i64]; omega
        have hM := HM.out rfl
        have HM2 := Lh hM
        clear hM HM HF
        go_wp2_with fail
        refine (HAt.out wo ii _ rfl HC.out.row).mono ?_
        rintro e wz ⟨rfl, hz⟩
        obtain rfl : wo = wz := hz.symm
        obtain ⟨T0, eT0, hT0⟩ := str_form (tkAt l ii)
        rw [eT0]
        have HT0 := Lh hT0; have HeT0 := Lh eT0
        clear hT0 eT0
        go_wp2_with fail
        refine (HAt.out wo (ii + 1) _ (by omega) HC.out.row).mono ?_
        rintro e wz ⟨rfl, hz⟩
        obtain rfl : wo = wz := hz.symm
        have hop := gOp (tkAt l (ii + 1)) [61] [33, 61] [61, 126] [33, 126] wo
        rw [op4_M] at hop
        obtain ⟨T1, eT1, -⟩ := str_form (tkAt l (ii + 1))
        rw [eT1] at hop ⊢
        obtain ⟨o, ho⟩ : ∃ o, opOfM (tkAt l (ii + 1)) = o := ⟨_, rfl⟩
        rw [ho] at hop
        have HOp := Lh hop; have Ho := Lh ho
        clear hop ho eT1
        go_wp2_with fail
        refine HOp.out.mono ?_
        rintro e w3 ⟨rfl, hb3⟩
        have hC3 := HC.out.below hb3
        obtain ⟨V, hV⟩ : ∃ V, V = w3.alloc (.cells #[.string T0, .int .i64 o, .string ⟨#[]⟩] 69) := ⟨_, rfl⟩
        have bV : Below w3.heap.size w3 V := by rw [hV]; exact (Below.refl _ _).alloc (Nat.le_refl _) _
        have kV : Blk V w3.heap.size 69 [.string T0, .int .i64 o, .string ⟨#[]⟩] := by rw [hV]; exact Blk.new w3 _ _
        have hCV := hC3.below bV
        have nV1 : V1.ownBlock ≠ some w3.heap.size := fun e => by have := (hC3.o1.lt _ e).2; omega
        obtain ⟨mb, hmb⟩ : ∃ mb, w3.heap.size = mb := ⟨_, rfl⟩
        have hmw : w.heap.size ≤ mb := by rw [← hmb]; exact hC3.be.size
        rw [hmb] at kV nV1
        have HCV := Lh hCV; have KV := Lh kV; have HnV := Lh nV1; have Hmw := Lh hmw
        have v0 : V.cell? ⟨mb, 0, none⟩ = some (.string T0) := kV.cell 0
        have v1 : V.cell? ⟨mb, 1, none⟩ = some (.int .i64 o) := kV.cell 1
        clear hC3 hCV bV kV nV1 hmw hb3 HC HOp
        go_upto_region 16 with fail
        rw [← hV]
        (try rw [hmb])
        clear hV hmb
        have hnq := fun wx => gNameQ (tkAt l ii) wx (by
         by_cases h : ii < l.length
         ·have h2 := HSm.out _ (tk_mem h); omega
         ·unfold tkAt; rw [List.getD, List.getElem?_eq_none_iff.2 (by omega)]; simp)
        rw [show strB (tkAt l ii) = .string T0 from HeT0.out] at hnq
        obtain ⟨nb, hnb⟩ : ∃ nb, nameP (tkAt l ii) = nb := ⟨_, rfl⟩
        rw [hnb] at hnq
        have HNq := Lh hnq; have Hnb := Lh hnb
        clear hnq hnb
        go_wp2_with fail
        refine (HNq.out V).mono ?_
        rintro e wz ⟨rfl, hz⟩
        obtain rfl : V = wz := hz.symm
        cases nb with
        | false =>
         have hno : queryR l = none := by rw [HM2.out]; exact KM_no (.inl Hnb.out)
         have r0 : V.cell? ⟨w.heap.size, 0, none⟩ = some (.slice none 0 0) := HCV.out.kr.cell 0
         have r1 : V.cell? ⟨w.heap.size, 1, none⟩ = some (.slice none 0 0) := HCV.out.kr.cell 1
         have rf0 := HCV.out.kr.frozen 0
         have rf1 := HCV.out.kr.frozen 1
         obtain ⟨W, hW⟩ : ∃ W, W = (V.setCell ⟨w.heap.size, 0, none⟩ (.slice none 0 0)).setCell ⟨w.heap.size, 1, none⟩ (.slice none 0 0) := ⟨_, rfl⟩
         obtain ⟨hbW, w0c, w1c⟩ := HEnd.out V HCV.out.be HCV.out.kr W hW
         have HP2 := Lh (HBad.out hno); have HW := Lh hW; have HbW := Lh hbW
         clear hW hbW
         go_wp2
         rw [← HW.out]
         clear HW r0 r1 rf0 rf1 hno v0 v1
         refine bodyPost_ret (v := .tuple #[.agg #[.slice none 0 0, .slice none 0 0], .int .i64 50]) (by simp [results, Tryz.results27, go_sem, *]) rfl ?_
         exact QParseO.err (k := 50) HP2.out (by decide) HbW.out
        | true =>
         by_cases ho0 : o = 0
         ·subst ho0
          have hno : queryR l = none := by rw [HM2.out]; exact KM_no (.inr (.inl Ho.out))
          have r0 : V.cell? ⟨w.heap.size, 0, none⟩ = some (.slice none 0 0) := HCV.out.kr.cell 0
          have r1 : V.cell? ⟨w.heap.size, 1, none⟩ = some (.slice none 0 0) := HCV.out.kr.cell 1
          have rf0 := HCV.out.kr.frozen 0
          have rf1 := HCV.out.kr.frozen 1
          obtain ⟨W, hW⟩ : ∃ W, W = (V.setCell ⟨w.heap.size, 0, none⟩ (.slice none 0 0)).setCell ⟨w.heap.size, 1, none⟩ (.slice none 0 0) := ⟨_, rfl⟩
          obtain ⟨hbW, w0c, w1c⟩ := HEnd.out V HCV.out.be HCV.out.kr W hW
          have HP2 := Lh (HBad.out hno); have HW := Lh hW; have HbW := Lh hbW
          clear hW hbW
          go_wp2
          rw [← HW.out]
          clear HW r0 r1 rf0 rf1 hno v0 v1
          refine bodyPost_ret (v := .tuple #[.agg #[.slice none 0 0, .slice none 0 0], .int .i64 50]) (by simp [results, Tryz.results27, go_sem, *]) rfl ?_
          exact QParseO.err (k := 50) HP2.out (by decide) HbW.out
         ·have zo : (o == 0) = false := beq_eq_false_iff_ne.2 ho0
          go_wp2_with fail
          refine (HAt.out V (ii + 2) _ (by omega) HCV.out.row).mono ?_
          rintro e wz ⟨rfl, hz⟩
          obtain rfl : V = wz := hz.symm
          have htx := gText (tkAt l (ii + 2)) V
          obtain ⟨tb, htb⟩ : ∃ tb, isT (tkAt l (ii + 2)) = tb := ⟨_, rfl⟩
          rw [htb] at htx
          obtain ⟨T2, eT2, hT2⟩ := str_form (tkAt l (ii + 2))
          rw [eT2] at htx ⊢
          have HTx := Lh htx; have Htb := Lh htb; have HT2 := Lh hT2; have HeT2 := Lh eT2; have Ho0 := Lh ho0
          clear htx htb hT2 eT2 ho0
          go_wp2_with fail
          refine HTx.out.mono ?_
          rintro e wz ⟨rfl, hz⟩
          obtain rfl : V = wz := hz.symm
          cases tb with
          | false =>
           have hno : queryR l = none := by rw [HM2.out]; exact KM_no (.inr (.inr Htb.out))
           have r0 : V.cell? ⟨w.heap.size, 0, none⟩ = some (.slice none 0 0) := HCV.out.kr.cell 0
           have r1 : V.cell? ⟨w.heap.size, 1, none⟩ = some (.slice none 0 0) := HCV.out.kr.cell 1
           have rf0 := HCV.out.kr.frozen 0
           have rf1 := HCV.out.kr.frozen 1
           obtain ⟨W, hW⟩ : ∃ W, W = (V.setCell ⟨w.heap.size, 0, none⟩ (.slice none 0 0)).setCell ⟨w.heap.size, 1, none⟩ (.slice none 0 0) := ⟨_, rfl⟩
           obtain ⟨hbW, w0c, w1c⟩ := HEnd.out V HCV.out.be HCV.out.kr W hW
           have HP2 := Lh (HBad.out hno); have HW := Lh hW; have HbW := Lh hbW
           clear hW hbW
           go_wp2
           rw [← HW.out]
           clear HW r0 r1 rf0 rf1 hno v0 v1
           refine bodyPost_ret (v := .tuple #[.agg #[.slice none 0 0, .slice none 0 0], .int .i64 50]) (by simp [results, Tryz.results27, go_sem, *]) rfl ?_
           exact QParseO.err (k := 50) HP2.out (by decide) HbW.out
          | true =>
           have htl := isT_tail Htb.out
           have hi2 : ii + 2 < n := by
            have h := tk_const (l := l) (i := ii + 2) (by rw [htl]; simp)
            rw [Hn.out] at h; exact h
           obtain ⟨Z, hZ⟩ : ∃ Z, (tkAt l (ii + 2)).length = Z := ⟨_, rfl⟩
           have zT2 : T2.size = Z := by rw [HT2.out, str_size, hZ]
           have hZ1 : 1 ≤ Z := by rw [← hZ, htl]; simp
           have hZ2 : Z ≤ 513 := by
            have h := HSm.out _ (tk_mem (l := l) (i := ii + 2) (by rw [Hn.out]; exact hi2))
            omega
           have hex := tail_ext HT2.out hZ
           obtain ⟨T3, eT3, hT3⟩ := str_form (tkAt l (ii + 2)).tail
           rw [← hT3] at hex
           obtain ⟨lb, loff, rfl, hlb, hlc⟩ := HCV.out.row.2 (by omega)
           have l2 : V.cell? ⟨lb, loff + (ii + 2), none⟩ = some (.string T2) := by rw [← HeT2.out]; exact hlc (ii + 2) _ (by rw [List.getElem?_map, tk_get (by rw [Hn.out]; exact hi2)]; rfl)
           have vf2 := KV.out.frozen 2
           have v2 : V.cell? ⟨mb, 2, none⟩ = some (.string ⟨#[]⟩) := KV.out.cell 2
           obtain ⟨W5, hW5⟩ : ∃ W5, W5 = V.setCell ⟨mb, 2, none⟩ (.string T3) := ⟨_, rfl⟩
           have bm5 : But [mb] V W5 := by rw [hW5]; exact (But.refl _ _).setCell (by simp) _
           have km5 : KeepM [69, 71] V W5 := by rw [hW5]; exact KeepM.setCell (.refl _ V) (p := ⟨mb, 2, none⟩) (show V.heap[mb]? = _ from KV.out) (by simp) _
           have hC5 := HCV.out.box bm5 km5 HnV.out (by simp [Value.ownBlock]) Hmw.out
           have k5 : Blk W5 mb 69 [.string T0, .int .i64 o, .string T3] := by rw [hW5]; exact KV.out.set_ 2 _
           have own5 := hC5.o1
           obtain ⟨nm, hnm⟩ : ∃ nm, ms.length = nm := ⟨_, rfl⟩
           rw [hnm] at own5 hms
           obtain ⟨VA, vc, rfl, -⟩ := own_form own5
           have q0 : W5.cell? ⟨qb, 0, none⟩ = some (.slice VA nm vc) := hC5.kq.cell 0
           have x0 : W5.cell? ⟨mb, 0, none⟩ = some (.string T0) := k5.cell 0
           have x1 : W5.cell? ⟨mb, 1, none⟩ = some (.int .i64 o) := k5.cell 1
           have x2 : W5.cell? ⟨mb, 2, none⟩ = some (.string T3) := k5.cell 2
           have hsz5 : w.heap.size ≤ W5.heap.size := hC5.be.size
           have hcell : (⟨tkAt l ii, o, (tkAt l (ii + 2)).tail⟩ : MatP).cells = [.string T0, .int .i64 o, .string T3] := by
            show [strB (tkAt l ii), .int .i64 o, strB (tkAt l (ii + 2)).tail] = _
            rw [HeT0.out, eT3]
           have hmsz : (tkAt l ii).length ≤ 512 ∧ (tkAt l (ii + 2)).tail.length ≤ 512 := ⟨by have := nameP_len Hnb.out; omega, by rw [List.length_tail]; omega⟩
           have hkm := KM_at (ms := ms) Hnb.out (show opOfM (tkAt l (ii + 1)) ≠ 0 by rw [Ho.out]; exact Ho0.out) Htb.out
           rw [Ho.out] at hkm
           have HC5 := Lh hC5; have O5 := Lh own5; have Hnm := Lh hnm; have HCell := Lh hcell; have HMs := Lh hmsz; have HKm := Lh hkm; have HEx := Lh hex
           clear htl hZ hT3 eT3 hlb hlc bm5 km5 hC5 k5 own5 hnm hcell hmsz hkm HTx HNq HCV KV HnV
           go_upto_region 19 with fail
           (try rw [HEx.out])
           rw [← hW5]
           clear hW5 v0 v1 v2 vf2 l2 hex zT2 hZ1
           go_upto_region 20 with (at_builtin; refine wpList_app _ rfl matE rfl rfl (O5.out.alloc _) rfl (row_newN W5 69 3 1 [_, _, _] rfl) (by simp [Value.oneCell']) (by omega) (by simp; omega) ?_; intro v8 w8 own8 hg8 hb8 hx8; obtain ⟨V8, vc8, rfl, -⟩ := own_form own8; have qk8 := GpC.grew (HC5.out.below (Below.alloc (Below.refl _ _) (Nat.le_refl _) (.cells #[.string T0, .int .i64 o, .string T3] 69))) (.inl rfl) hg8; have q8 := qk8.cell 0; have qf8 := qk8.frozen 0)
           have hcA := HC5.out.below (Below.alloc (Below.refl _ _) (Nat.le_refl _) (.cells #[.string T0, .int .i64 o, .string T3] 69))
           have hC6 := hcA.addM (m := ⟨tkAt l ii, o, (tkAt l (ii + 2)).tail⟩) HMs.out hg8 hb8 (by rw [HCell.out, Hnm.out]; exact own8)
           obtain ⟨W8, hW8⟩ : ∃ W8, W8 = w8.setCell ⟨qb, 0, none⟩ (.slice V8 (nm + 1) vc8) := ⟨_, rfl⟩
           rw [← hW8] at hC6
           have HC6 := Lh hC6
           clear hC6 hcA own8 hg8 hb8 hx8 x0 x1 x2 q0 HC5 O5 HCell HMs
           rw [← hW8]
           clear hW8 q8 qf8 qk8
           go_wp2_with fail
           refine (HAt.out W8 (ii + 3) _ (by omega) HC6.out.row).mono ?_
           rintro e wz ⟨rfl, hz⟩
           obtain rfl : W8 = wz := hz.symm
           obtain ⟨T4, eT4, hT4⟩ := str_form (tkAt l (ii + 3))
           rw [eT4]
           have HT4 := Lh hT4; have HeT4 := Lh eT4
           clear hT4 eT4
           by_cases h44 : tkAt l (ii + 3) = [44]
           ·obtain ⟨t1, t2⟩ := str_yes (T := T4) (t := [44]) (by rw [HT4.out, h44])
            have hi3 : ii + 3 < n := by
             have h := tk_const (l := l) (i := ii + 3) (by rw [h44]; simp)
             rw [Hn.out] at h; exact h
            have hnx : queryR l = KM (ms ++ [⟨tkAt l ii, o, (tkAt l (ii + 2)).tail⟩]) (l.drop (ii + 4)) := by rw [HM2.out]; exact HKm.out.1 h44
            have HNx := Lh hnx
            clear hnx h44 HKm HT4
            go_wp2
            go_roundw
            case rel => exact ⟨ii + 4, true, _, _, by omega, by rw [List.length_append, Hnm.out]; simp; omega, by first | rfl | go_num, by first | rfl | simp, HC6, Lh (fun _ => HNx.out), Lh (by simp)⟩
            case measure => simp [intOf]; omega
           ·obtain ⟨u1, u2⟩ := str_ne HT4.out h44
            go_wp2_with fail
            refine (HAt.out W8 (ii + 3) _ (by omega) HC6.out.row).mono ?_
            rintro e wz ⟨rfl, hz⟩
            obtain rfl : W8 = wz := hz.symm
            rw [HeT4.out]
            by_cases h125 : tkAt l (ii + 3) = [125]
            ·obtain ⟨t1, t2⟩ := str_yes (T := T4) (t := [125]) (by rw [HT4.out, h125])
             have hi3 : ii + 3 < n := by
              have h := tk_const (l := l) (i := ii + 3) (by rw [h125]; simp)
              rw [Hn.out] at h; exact h
             have hnx : queryR l = KF (ms ++ [⟨tkAt l ii, o, (tkAt l (ii + 2)).tail⟩]) [] (l.drop (ii + 4)) := by rw [HM2.out]; exact HKm.out.2.1 h125
             have HNx := Lh hnx
             clear hnx h44 h125 HKm HT4 u1 u2
             go_wp2
             go_roundw
             case rel => exact ⟨ii + 4, false, _, _, by omega, by rw [List.length_append, Hnm.out]; simp; omega, by first | rfl | go_num, by first | rfl | simp, HC6, Lh (by simp), Lh (fun _ => ⟨by omega, HNx.out⟩)⟩
             case measure => simp [intOf]; omega
            ·obtain ⟨u3, u4⟩ := str_ne HT4.out h125
             have hno : queryR l = none := by rw [HM2.out]; exact HKm.out.2.2 h44 h125
             clear h44 h125 HKm
             have r0 : W8.cell? ⟨w.heap.size, 0, none⟩ = some (.slice none 0 0) := HC6.out.kr.cell 0
             have r1 : W8.cell? ⟨w.heap.size, 1, none⟩ = some (.slice none 0 0) := HC6.out.kr.cell 1
             have rf0 := HC6.out.kr.frozen 0
             have rf1 := HC6.out.kr.frozen 1
             obtain ⟨W, hW⟩ : ∃ W, W = (W8.setCell ⟨w.heap.size, 0, none⟩ (.slice none 0 0)).setCell ⟨w.heap.size, 1, none⟩ (.slice none 0 0) := ⟨_, rfl⟩
             obtain ⟨hbW, w0c, w1c⟩ := HEnd.out W8 HC6.out.be HC6.out.kr W hW
             have HP2 := Lh (HBad.out hno); have HW := Lh hW; have HbW := Lh hbW
             clear hW hbW
             go_wp2
             rw [← HW.out]
             clear HW r0 r1 rf0 rf1 hno u1 u2 u3 u4
             refine bodyPost_ret (v := .tuple #[.agg #[.slice none 0 0, .slice none 0 0], .int .i64 50]) (by simp [results, Tryz.results27, go_sem, *]) rfl ?_
             exact QParseO.err (k := 50) HP2.out (by decide) HbW.out
    case rest =>
     obtain ⟨ii0, ms, V1, hin0, hms, rfl, HC, HK⟩ := hcut
     clear HT1 Hq0
     have own1 := HC.out.o1
     obtain ⟨nm, hnm⟩ : ∃ nm, ms.length = nm := ⟨_, rfl⟩
     rw [hnm] at own1 hms
     obtain ⟨MA, mc, rfl, -⟩ := own_form own1
     have Hnm := Lh hnm
     clear own1 hnm
     go_wp2
     go_loopw [8] (fun i wr => ∃ (ii : Nat) (fs : List FilP) (V2 : Value), ii ≤ n ∧ nm * 4 + fs.length * 2 ≤ ii ∧ i = .int .i64 ii ∧ Hid (GpC w wr qb n l LA lc (.slice MA nm mc) V2 ms fs) ∧ Hid (queryR l = KF ms fs (l.drop ii))) (fun i _ => n - (intOf i).toNat)
     case atStart => exact ⟨ii0, [], _, hin0, by simp; omega, rfl, HC, HK⟩
     case round =>
      clear HC HK hms hin0
      obtain ⟨ii, fs, V2, hin, hfs, rfl, HC, HK⟩ := hrel
      obtain ⟨wo, rfl⟩ : ∃ wo : World, wo = wr := ⟨_, rfl⟩
      have own2 := HC.out.o2
      obtain ⟨nf, hnf⟩ : ∃ nf, fs.length = nf := ⟨_, rfl⟩
      rw [hnf] at own2 hfs
      obtain ⟨FA, fc, rfl, -⟩ := own_form own2
      have Hnf := Lh hnf
      clear own2 hnf
      have wk1 : IntKind.i64.wrap ((ii : Int) + 1) = ((ii + 1 : Nat) : Int) := by rw [IntKind.wrap_i64]; omega
      have wk2 : IntKind.i64.wrap ((ii : Int) + 2) = ((ii + 2 : Nat) : Int) := by rw [IntKind.wrap_i64]; omega
      by_cases hlt : ii < n
      ·have z2 : (ii : Int) < (n : Int) := by omega
       obtain ⟨T0, eT0, hT0⟩ := str_form (tkAt l ii)
       obtain ⟨lb, loff, rfl, hlb, hlc⟩ := HC.out.row.2 (by omega)
       have l0 : wo.cell? ⟨lb, loff + ii, none⟩ = some (.string T0) := by rw [← eT0]; exact hlc ii _ (by rw [List.getElem?_map, tk_get (by rw [Hn.out]; exact hlt)]; rfl)
       have hop := gOp (tkAt l ii) [124, 61] [33, 61] [124, 126] [33, 126] wo
       rw [op4_F, eT0] at hop
       obtain ⟨o, ho⟩ : ∃ o, opOfF (tkAt l ii) = o := ⟨_, rfl⟩
       rw [ho] at hop
       have HOp := Lh hop; have Ho := Lh ho
       clear hop ho eT0 hT0 hlb hlc
       go_wp2_with fail
       refine HOp.out.mono ?_
       rintro e w3 ⟨rfl, hb3⟩
       have hC3 := HC.out.below hb3
       obtain ⟨V, hV⟩ : ∃ V, V = w3.alloc (.cells #[.int .i64 o, .string ⟨#[]⟩] 71) := ⟨_, rfl⟩
       have bV : Below w3.heap.size w3 V := by rw [hV]; exact (Below.refl _ _).alloc (Nat.le_refl _) _
       have kV : Blk V w3.heap.size 71 [.int .i64 o, .string ⟨#[]⟩] := by rw [hV]; exact Blk.new w3 _ _
       have hCV := hC3.below bV
       have nV1 : (Value.slice MA nm mc).ownBlock ≠ some w3.heap.size := fun e => by have := (hC3.o1.lt _ e).2; omega
       have nV2 : (Value.slice FA nf fc).ownBlock ≠ some w3.heap.size := fun e => by have := (hC3.o2.lt _ e).2; omega
       obtain ⟨mb, hmb⟩ : ∃ mb, w3.heap.size = mb := ⟨_, rfl⟩
       have hmw : w.heap.size ≤ mb := by rw [← hmb]; exact hC3.be.size
       rw [hmb] at kV nV1 nV2
       have HCV := Lh hCV; have KV := Lh kV; have HnV := Lh nV1; have HnV2 := Lh nV2; have Hmw := Lh hmw
       have v0 : V.cell? ⟨mb, 0, none⟩ = some (.int .i64 o) := kV.cell 0
       clear hC3 hCV bV kV nV1 nV2 hmw hb3 HC HOp l0
       go_upto_region 26 with fail
       rw [← hV]
       (try rw [hmb])
       clear hV hmb
       by_cases ho0 : o = 0
       ·subst ho0
        have hno : queryR l = none := by rw [HK.out]; exact KF_no (by rw [Hn.out]; exact hlt) (.inl Ho.out)
        have r0 : V.cell? ⟨w.heap.size, 0, none⟩ = some (.slice none 0 0) := HCV.out.kr.cell 0
        have r1 : V.cell? ⟨w.heap.size, 1, none⟩ = some (.slice none 0 0) := HCV.out.kr.cell 1
        have rf0 := HCV.out.kr.frozen 0
        have rf1 := HCV.out.kr.frozen 1
        obtain ⟨W, hW⟩ : ∃ W, W = (V.setCell ⟨w.heap.size, 0, none⟩ (.slice none 0 0)).setCell ⟨w.heap.size, 1, none⟩ (.slice none 0 0) := ⟨_, rfl⟩
        obtain ⟨hbW, w0c, w1c⟩ := HEnd.out V HCV.out.be HCV.out.kr W hW
        have HP2 := Lh (HBad.out hno); have HW := Lh hW; have HbW := Lh hbW
        clear hW hbW
        go_wp2
        rw [← HW.out]
        clear HW r0 r1 rf0 rf1 hno v0
        refine bodyPost_ret (v := .tuple #[.agg #[.slice none 0 0, .slice none 0 0], .int .i64 50]) (by simp [results, Tryz.results27, go_sem, *]) rfl ?_
        exact QParseO.err (k := 50) HP2.out (by decide) HbW.out
       ·have zo : (o == 0) = false := beq_eq_false_iff_ne.2 ho0
        go_wp2_with fail
        refine (HAt.out V (ii + 1) _ (by omega) HCV.out.row).mono ?_
        rintro e wz ⟨rfl, hz⟩
        obtain rfl : V = wz := hz.symm
        have htx := gText (tkAt l (ii + 1)) V
        obtain ⟨tb, htb⟩ : ∃ tb, isT (tkAt l (ii + 1)) = tb := ⟨_, rfl⟩
        rw [htb] at htx
        obtain ⟨T2, eT2, hT2⟩ := str_form (tkAt l (ii + 1))
        rw [eT2] at htx ⊢
        have HTx := Lh htx; have Htb := Lh htb; have HT2 := Lh hT2; have HeT2 := Lh eT2; have Ho0 := Lh ho0
        clear htx htb hT2 eT2 ho0
        go_wp2_with fail
        refine HTx.out.mono ?_
        rintro e wz ⟨rfl, hz⟩
        obtain rfl : V = wz := hz.symm
        cases tb with
        | false =>
         have hno : queryR l = none := by rw [HK.out]; exact KF_no (by rw [Hn.out]; exact hlt) (.inr Htb.out)
         have r0 : V.cell? ⟨w.heap.size, 0, none⟩ = some (.slice none 0 0) := HCV.out.kr.cell 0
         have r1 : V.cell? ⟨w.heap.size, 1, none⟩ = some (.slice none 0 0) := HCV.out.kr.cell 1
         have rf0 := HCV.out.kr.frozen 0
         have rf1 := HCV.out.kr.frozen 1
         obtain ⟨W, hW⟩ : ∃ W, W = (V.setCell ⟨w.heap.size, 0, none⟩ (.slice none 0 0)).setCell ⟨w.heap.size, 1, none⟩ (.slice none 0 0) := ⟨_, rfl⟩
         obtain ⟨hbW, w0c, w1c⟩ := HEnd.out V HCV.out.be HCV.out.kr W hW
         have HP2 := Lh (HBad.out hno); have HW := Lh hW; have HbW := Lh hbW
         clear hW hbW
         go_wp2
         rw [← HW.out]
         clear HW r0 r1 rf0 rf1 hno v0
         refine bodyPost_ret (v := .tuple #[.agg #[.slice none 0 0, .slice none 0 0], .int .i64 50]) (by simp [results, Tryz.results27, go_sem, *]) rfl ?_
         exact QParseO.err (k := 50) HP2.out (by decide) HbW.out
        | true =>
         have htl := isT_tail Htb.out
         have hi2 : ii + 1 < n := by
          have h := tk_const (l := l) (i := ii + 1) (by rw [htl]; simp)
          rw [Hn.out] at h; exact h
         obtain ⟨Z, hZ⟩ : ∃ Z, (tkAt l (ii + 1)).length = Z := ⟨_, rfl⟩
         have zT2 : T2.size = Z := by rw [HT2.out, str_size, hZ]
         have hZ1 : 1 ≤ Z := by rw [← hZ, htl]; simp
         have hZ2 : Z ≤ 513 := by
          have h := HSm.out _ (tk_mem (l := l) (i := ii + 1) (by rw [Hn.out]; exact hi2))
          omega
         have hex := tail_ext HT2.out hZ
         obtain ⟨T3, eT3, hT3⟩ := str_form (tkAt l (ii + 1)).tail
         rw [← hT3] at hex
         obtain ⟨lb', loff', elb, hlb, hlc⟩ := HCV.out.row.2 (by omega)
         obtain ⟨rfl, rfl⟩ : lb' = lb ∧ loff' = loff := by
          injection elb with e1; injection e1 with e2 e3; exact ⟨e2.symm, e3.symm⟩
         have l2 : V.cell? ⟨lb', loff' + (ii + 1), none⟩ = some (.string T2) := by rw [← HeT2.out]; exact hlc (ii + 1) _ (by rw [List.getElem?_map, tk_get (by rw [Hn.out]; exact hi2)]; rfl)
         have vf1 := KV.out.frozen 1
         have v1 : V.cell? ⟨mb, 1, none⟩ = some (.string ⟨#[]⟩) := KV.out.cell 1
         obtain ⟨W5, hW5⟩ : ∃ W5, W5 = V.setCell ⟨mb, 1, none⟩ (.string T3) := ⟨_, rfl⟩
         have bm5 : But [mb] V W5 := by rw [hW5]; exact (But.refl _ _).setCell (by simp) _
         have km5 : KeepM [69, 71] V W5 := by rw [hW5]; exact KeepM.setCell (.refl _ V) (p := ⟨mb, 1, none⟩) (show V.heap[mb]? = _ from KV.out) (by simp) _
         have hC5 := HCV.out.box bm5 km5 HnV.out HnV2.out Hmw.out
         have k5 : Blk W5 mb 71 [.int .i64 o, .string T3] := by rw [hW5]; exact KV.out.set_ 1 _
         have own5 := hC5.o2
         rw [Hnf.out] at own5
         have q1 : W5.cell? ⟨qb, 1, none⟩ = some (.slice FA nf fc) := hC5.kq.cell 1
         have x0 : W5.cell? ⟨mb, 0, none⟩ = some (.int .i64 o) := k5.cell 0
         have x1 : W5.cell? ⟨mb, 1, none⟩ = some (.string T3) := k5.cell 1
         have hsz5 : w.heap.size ≤ W5.heap.size := hC5.be.size
         have hcell : (⟨o, (tkAt l (ii + 1)).tail⟩ : FilP).cells = [.int .i64 o, .string T3] := by
          show [.int .i64 o, strB (tkAt l (ii + 1)).tail] = _
          rw [eT3]
         have hmsz : (tkAt l (ii + 1)).tail.length ≤ 512 := by rw [List.length_tail]; omega
         have hkf := KF_at (ms := ms) (fs := fs) (l := l) (i := ii) (by rw [Hn.out]; exact hlt) (by rw [Ho.out]; exact Ho0.out) Htb.out
         rw [Ho.out] at hkf
         have HC5 := Lh hC5; have O5 := Lh own5; have HCell := Lh hcell; have HMs := Lh hmsz; have HKf := Lh (HK.out.trans hkf); have HEx := Lh hex
         clear htl hZ hT3 eT3 hlb hlc elb bm5 km5 hC5 k5 own5 hcell hmsz hkf HTx HCV KV HnV HnV2 HK
         go_upto_region 29 with fail
         (try rw [HEx.out])
         rw [← hW5]
         clear hW5 v0 v1 vf1 l2 hex zT2 hZ1
         go_upto_region 30 with (at_builtin; refine wpList_app _ rfl filE rfl rfl (O5.out.alloc _) rfl (row_newN W5 71 2 1 [_, _] rfl) (by simp [Value.oneCell']) (by omega) (by simp; omega) ?_; intro v8 w8 own8 hg8 hb8 hx8; obtain ⟨V8, vc8, rfl, -⟩ := own_form own8; have qk8 := GpC.grew (HC5.out.below (Below.alloc (Below.refl _ _) (Nat.le_refl _) (.cells #[.int .i64 o, .string T3] 71))) (.inr rfl) hg8; have q8 := qk8.cell 1; have qf8 := qk8.frozen 1)
         have hcA := HC5.out.below (Below.alloc (Below.refl _ _) (Nat.le_refl _) (.cells #[.int .i64 o, .string T3] 71))
         have hC6 := hcA.addF (f := ⟨o, (tkAt l (ii + 1)).tail⟩) HMs.out hg8 hb8 (by rw [HCell.out, Hnf.out]; exact own8)
         obtain ⟨W8, hW8⟩ : ∃ W8, W8 = w8.setCell ⟨qb, 1, none⟩ (.slice V8 (nf + 1) vc8) := ⟨_, rfl⟩
         rw [← hW8] at hC6
         have HC6 := Lh hC6
         clear hC6 hcA own8 hg8 hb8 hx8 x0 x1 q1 HC5 O5 HCell HMs
         rw [← hW8]
         clear hW8 q8 qf8 qk8
         go_wp2
         go_roundw
         case rel => exact ⟨ii + 2, _, _, by omega, by rw [List.length_append, Hnf.out]; simp; omega, by first | rfl | go_num, HC6, HKf⟩
         case measure => simp [intOf]; omega
      ·obtain rfl : ii = n := by omega
       have z2 : ¬ (ii : Int) < (ii : Int) := by omega
       have hqr : queryR l = some ⟨ms, fs⟩ := by rw [HK.out]; exact KF_fin (by rw [Hn.out]; exact Nat.le_refl _)
       have hp := HGood.out _ hqr
       have hqa : QueryAt wo MA nm FA nf ⟨ms, fs⟩ := ⟨.of_own (by have h := HC.out.o1; rw [Hnm.out] at h; exact h), .of_own (by have h := HC.out.o2; rw [Hnf.out] at h; exact h), Hnm.out, Hnf.out, fun m hm => by have := HC.out.sm m hm; omega, fun f hf => by have := HC.out.sf f hf; omega⟩
       have hch := gCheck ⟨ms, fs⟩ MA FA nm nf mc fc wo hqa (fun f hf => by
        rcases List.mem_append.1 hf with h | h
        ·obtain ⟨m, hm, rfl⟩ := List.mem_map.1 h
         have := (HC.out.sm m hm).2
         show m.val.length ≤ _
         omega
        ·have := HC.out.sf f h; omega) (by omega) (by omega)
       obtain ⟨ck, hck⟩ : ∃ ck, checkQ ⟨ms, fs⟩ = ck := ⟨_, rfl⟩
       rw [hck] at hp hch
       have q0 : wo.cell? ⟨qb, 0, none⟩ = some (.slice MA nm mc) := HC.out.kq.cell 0
       have q1 : wo.cell? ⟨qb, 1, none⟩ = some (.slice FA nf fc) := HC.out.kq.cell 1
       have HP := Lh hp; have HCh := Lh hch
       clear hp hch hck hqa hqr HK
       go_wp2_with fail
       refine HCh.out.mono ?_
       rintro e w3 ⟨rfl, hb3⟩
       have hC3 := HC.out.below hb3
       have HC3 := Lh hC3
       clear hC3 hb3 q0 q1 HC HCh
       by_cases hk : ck = 0
       ·subst hk
        have hp := HP.out
        rw [if_pos rfl] at hp
        have p1 := HC3.out.o1
        have p2 := HC3.out.o2
        rw [Hnm.out] at p1
        rw [Hnf.out] at p2
        have r0 : w3.cell? ⟨w.heap.size, 0, none⟩ = some (.slice none 0 0) := HC3.out.kr.cell 0
        have r1 : w3.cell? ⟨w.heap.size, 1, none⟩ = some (.slice none 0 0) := HC3.out.kr.cell 1
        have rf0 := HC3.out.kr.frozen 0
        have rf1 := HC3.out.kr.frozen 1
        have x0 : w3.cell? ⟨qb, 0, none⟩ = some (.slice MA nm mc) := HC3.out.kq.cell 0
        have x1 : w3.cell? ⟨qb, 1, none⟩ = some (.slice FA nf fc) := HC3.out.kq.cell 1
        obtain ⟨W, hW⟩ : ∃ W, W = (w3.setCell ⟨w.heap.size, 0, none⟩ (.slice MA nm mc)).setCell ⟨w.heap.size, 1, none⟩ (.slice FA nf fc) := ⟨_, rfl⟩
        have bW : But [w.heap.size] w3 W := by rw [hW]; exact ((But.refl _ _).setCell (by simp) _).setCell (by simp) _
        have kW : Blk W w.heap.size 25 [.slice MA nm mc, .slice FA nf fc] := by rw [hW]; exact (HC3.out.kr.set_ 0 _).set_ 1 _
        have w0c : W.cell? ⟨w.heap.size, 0, none⟩ = some (.slice MA nm mc) := kW.cell 0
        have w1c : W.cell? ⟨w.heap.size, 1, none⟩ = some (.slice FA nf fc) := kW.cell 1
        have nk := own_blk p1 HC3.out.kr (by decide)
        have nk2 := own_blk p2 HC3.out.kr (by decide)
        have hans : QParseO s w (.returned (.tuple #[.agg #[.slice MA nm mc, .slice FA nf fc], .int .i64 0])) W := by
         refine ⟨_, _, ⟨ms, fs⟩, 0, rfl, HC3.out.be.trans (bW.below HC3.out.be.size fun x hx => by rw [List.mem_singleton] at hx; rw [hx]; exact Nat.le_refl _), ?_, ?_, HC3.out.sm, HC3.out.sf, by show ms.length + fs.length ≤ _; rw [Hnm.out, Hnf.out]; omega, .inl ⟨rfl, hp⟩⟩
         ·show W.ownsRow _ _ 3 _ ms.length _
          rw [Hnm.out]
          exact own_but p1 bW fun k hk hm => nk (by rw [List.mem_singleton] at hm; rw [← hm]; exact Option.mem_toList.2 hk)
         ·show W.ownsRow _ _ 2 _ fs.length _
          rw [Hnf.out]
          exact own_but p2 bW fun k hk hm => nk2 (by rw [List.mem_singleton] at hm; rw [← hm]; exact Option.mem_toList.2 hk)
        have HAns := Lh hans; have HW := Lh hW
        clear hans hW bW kW hp p1 p2 nk nk2
        go_wp2
        rw [← HW.out]
        clear HW r0 r1 rf0 rf1 x0 x1
        refine bodyPost_ret (v := .tuple #[.agg #[.slice MA nm mc, .slice FA nf fc], .int .i64 0]) (by simp [results, Tryz.results27, go_sem, *]) rfl ?_
        exact HAns.out
       ·have hp := HP.out
        rw [if_neg hk] at hp
        have zk : ((ck : Int) == 0) = false := beq_eq_false_iff_ne.2 (by omega)
        have zk2 : ¬ (ck : Int) = 0 := by omega
        have r0 : w3.cell? ⟨w.heap.size, 0, none⟩ = some (.slice none 0 0) := HC3.out.kr.cell 0
        have r1 : w3.cell? ⟨w.heap.size, 1, none⟩ = some (.slice none 0 0) := HC3.out.kr.cell 1
        have rf0 := HC3.out.kr.frozen 0
        have rf1 := HC3.out.kr.frozen 1
        obtain ⟨W, hW⟩ : ∃ W, W = (w3.setCell ⟨w.heap.size, 0, none⟩ (.slice none 0 0)).setCell ⟨w.heap.size, 1, none⟩ (.slice none 0 0) := ⟨_, rfl⟩
        obtain ⟨hbW, w0c, w1c⟩ := HEnd.out w3 HC3.out.be HC3.out.kr W hW
        have HP2 := Lh (hp); have HW := Lh hW; have HbW := Lh hbW
        clear hW hbW
        go_wp2
        rw [← HW.out]
        clear HW r0 r1 rf0 rf1 hp
        refine bodyPost_ret (v := .tuple #[.agg #[.slice none 0 0, .slice none 0 0], .int .i64 ck]) (by simp [results, Tryz.results27, go_sem, *]) rfl ?_
        exact QParseO.err (k := ck) HP2.out hk HbW.out
   ·rw [show strB (tkAt l 0) = .string ⟨(tkAt l 0).toArray⟩ from rfl]
    obtain ⟨T0, hT0⟩ : ∃ T0 : ByteArray, T0 = ⟨(tkAt l 0).toArray⟩ := ⟨_, rfl⟩
    rw [← hT0]
    obtain ⟨u1, u2⟩ := str_ne hT0 hq0
    have hno := HBad.out (query_no hq0)
    clear hT0 hq0
    have r0 : w2.cell? ⟨w.heap.size, 0, none⟩ = some (.slice none 0 0) := B2.out.cell 0
    have r1 : w2.cell? ⟨w.heap.size, 1, none⟩ = some (.slice none 0 0) := B2.out.cell 1
    have rf0 := B2.out.frozen 0
    have rf1 := B2.out.frozen 1
    obtain ⟨W, hW⟩ : ∃ W, W = (w2.setCell ⟨w.heap.size, 0, none⟩ (.slice none 0 0)).setCell ⟨w.heap.size, 1, none⟩ (.slice none 0 0) := ⟨_, rfl⟩
    obtain ⟨hbW, w0c, w1c⟩ := HEnd.out w2 Hw2.out B2.out W hW
    have HP2 := Lh (hno); have HW := Lh hW; have HbW := Lh hbW
    clear hW hbW
    go_wp2
    rw [← HW.out]
    clear HW r0 r1 rf0 rf1 hno u1 u2
    refine bodyPost_ret (v := .tuple #[.agg #[.slice none 0 0, .slice none 0 0], .int .i64 50]) (by simp [results, Tryz.results27, go_sem, *]) rfl ?_
    exact QParseO.err (k := 50) HP2.out (by decide) HbW.out
end Go.Proofs.YtecejnilajbdpaaGreatDoor
