import Derived.Test.YtecejnilajbdpaaGreatDoorTy47
import Derived.Test.YtecejnilajbdpaaGreatDoorTy43
namespace Garner
open Go
theorem join_C : ∀ l : List Bs, Lib.join l [44] = joinC l
 | [] => rfl
 | [x] => by simp [Lib.join, joinC, List.intercalate]
 | x :: y :: r => by
  have ih := join_C (y :: r)
  unfold Lib.join at ih ⊢
  rw [joinC, ← ih]
  simp [List.intercalate]
theorem esc_len (s : Bs) : (escP s).length ≤ 2 * s.length := by
 induction s with
 | nil => exact Nat.le_refl _
 | cons c r ih =>
  have h : (esc1 c).length ≤ 2 := by
   unfold esc1
   split
   ·simp
   ·split <;> simp
  show (esc1 c ++ escP r).length ≤ _
  rw [List.length_append, List.length_cons]; omega
theorem quoteP_len (s : Bs) : (quoteP s).length ≤ 2 * s.length + 2 := by
 have := esc_len s
 unfold quoteP
 simp; omega
theorem opM_len (o : Int) : (opM o).length ≤ 2 := by
 unfold opM
 by_cases h1 : o = 1
 ·rw [if_pos h1]; decide
 by_cases h2 : o = 2
 ·rw [if_neg h1, if_pos h2]; decide
 by_cases h3 : o = 3
 ·rw [if_neg h1, if_neg h2, if_pos h3]; decide
 rw [if_neg h1, if_neg h2, if_neg h3]; decide
theorem joinC_len {M : Nat} : ∀ l : List Bs, (∀ x ∈ l, x.length ≤ M) → (joinC l).length ≤ l.length * (M + 1)
 | [], _ => by simp [joinC]
 | [x], h => by have := h x (by simp); simp [joinC]; omega
 | x :: y :: r, h => by
  have h1 := h x (by simp)
  have ih := joinC_len (y :: r) fun z hz => h z (List.mem_cons_of_mem _ hz)
  rw [joinC, List.length_append, List.length_cons]
  show _ ≤ ((y :: r).length + 1) * (M + 1)
  rw [Nat.add_mul]
  omega
theorem print_pre (q : QueryP) : (123 :: (joinC (q.ms.map matT) ++ [125])) ++ (q.fs.take q.fs.length).flatMap filT = printP q := by
 rw [List.take_length]
 simp [printP]
theorem opOk_four {o : Int} (h : opOk o = true) : o = 1 ∨ o = 2 ∨ o = 3 ∨ o = 4 := by
 unfold opOk at h
 simp at h
 omega
end Garner
namespace Go.Proofs.YtecejnilajbdpaaGreatDoor
open Go.RowKit Go.Shelf Garner
theorem cJoin (l : List Bs) (B : Nat) (LA : Option Addr) (n lc : Nat) (w : World) (h : w.ownsRow B 9 1 (.slice LA n lc) n (l.map strB)) (hc : n ≤ lc) (hn : n ≤ 140737488355328) (hlen : (joinC l).length ≤ 140737488355328) :
  Calls Tryz.prog 58 #[.slice LA n lc, .string ⟨#[44]⟩] w fun e w' => e = .returned (str (joinC l)) ∧ Below w.heap.size w w' := by
 have hr := Row.of_own h
 have hl := hr.len
 rw [List.length_map] at hl
 rcases Nat.eq_zero_or_pos n with h0 | h0
 ·subst h0
  obtain rfl : l = [] := List.eq_nil_of_length_eq_zero hl
  exact (Tryz.strings_Join_none LA lc ⟨#[44]⟩ w).mono fun e w' ⟨he, hw⟩ => ⟨he, hw ▸ Below.refl _ _⟩
 ·obtain ⟨b, off, rfl, hb, hcs⟩ := hr.2 h0
  have hm : (l.map fun x => (⟨x.toArray⟩ : ByteArray)).map (·.data.toList) = l := by
   rw [List.map_map]; simp [Function.comp_def]
  have hJ := join_C l
  have c := Tryz.strings_Join b off lc (l.map fun x => (⟨x.toArray⟩ : ByteArray)) ⟨#[44]⟩ w (fun j x hx => ?_) hb (by rw [List.length_map]; omega) (by rw [List.length_map]; omega) (by rw [hm]; show (Lib.join l [44]).length ≤ _; rw [hJ]; exact hlen)
  ·rw [List.length_map, hl, hm] at c
   refine c.mono fun e w' ⟨he, hw⟩ => ⟨?_, hw⟩
   rw [he]
   show Ending.returned (str (Lib.join l [44])) = _
   rw [hJ]
  ·rw [List.getElem?_map] at hx
   obtain ⟨y, hy, rfl⟩ := Option.map_eq_some_iff.1 hx
   exact hcs j (.string ⟨y.toArray⟩) (by rw [List.getElem?_map, hy]; rfl)
def QPrintO (q : QueryP) (w : World) (e : Ending) (w' : World) : Prop := e = .returned (.tuple #[str (if checkQ q = 0 then printP q else []), .int .i64 (checkQ q : Nat)]) ∧ Below w.heap.size w w'
structure PrS (w wr : World) (q : QueryP) (MV FV v : Value) (k : Nat) : Prop where
 ow : wr.ownsRow w.heap.size 9 1 v k ((q.ms.take k).map fun m => strB (matT m))
 be : Below w.heap.size w wr
 bx : Blk wr w.heap.size 25 [MV, FV]
set_option maxRecDepth 100000 in
set_option maxHeartbeats 32000000 in
theorem vQPrint (q : QueryP) (MA FA : Option Addr) (nm nf cm cf : Nat) (w : World) (hL : Lt w) (hq : QueryAt w MA nm FA nf q) (hnm : nm ≤ 140737488355328) (hnf : nf ≤ 140737488355328) (hsm : ∀ m ∈ q.ms, m.name.length ≤ 10000000 ∧ m.val.length ≤ 10000000) (hsf : ∀ f ∈ q.fs, f.text.length ≤ 10000000) :
  Calls Tryz.prog 30 #[.agg #[.slice MA nm cm, .slice FA nf cf]] w fun e w' => QPrintO q w e w' := by
 obtain ⟨X, hX⟩ : ∃ X, X = w.alloc (.cells #[.slice MA nm cm, .slice FA nf cf] 25) := ⟨_, rfl⟩
 have hwX : Below w.heap.size w X := by rw [hX]; exact (Below.refl _ _).alloc (Nat.le_refl _) _
 have bX : Blk X w.heap.size 25 [.slice MA nm cm, .slice FA nf cf] := by rw [hX]; exact Blk.new w _ _
 have x0 : X.cell? ⟨w.heap.size, 0, none⟩ = some (.slice MA nm cm) := bX.cell 0
 have x1 : X.cell? ⟨w.heap.size, 1, none⟩ = some (.slice FA nf cf) := bX.cell 1
 have hch := vCheck q MA FA nm nf cm cf X (hL.below hwX) (hq.below hwX) (by omega) (by omega)
 obtain ⟨ck, hck⟩ : ∃ ck, checkQ q = ck := ⟨_, rfl⟩
 rw [hck] at hch
 have hzero : ck = 0 → ¬ (16 < nm ∨ 16 < nf) ∧ q.ms.all matOk = true ∧ q.fs.all filOk = true := fun h => by
  have h2 := check_zero (hck.trans h)
  rw [hq.nm_, hq.nf_] at h2
  exact ⟨h2.1, h2.2.1, h2.2.2.1⟩
 have HCh := Lh hch; have HQ := Lh hq; have HwX := Lh hwX; have BX := Lh bX; have HL := Lh hL; have Hck := Lh hck; have HZ := Lh hzero; have Hsm := Lh hsm; have Hsf := Lh hsf
 have Hnm := Lh hq.nm_; have Hnf := Lh hq.nf_
 clear hch hq hwX bX hL hck hzero hsm hsf
 go_enter Tryz.func30, Tryz.ntmps30
 go_upto_region 1 with fail
 rw [← hX]
 clear hX
 go_wp2_with fail
 refine HCh.out.mono ?_
 rintro e w1 ⟨rfl, hb1⟩
 have hw1 := HwX.out.trans (hb1.mono HwX.out.size)
 have b1 := BX.out.below hb1 BX.out.lt
 have y0 : w1.cell? ⟨w.heap.size, 0, none⟩ = some (.slice MA nm cm) := b1.cell 0
 have Hw1 := Lh hw1; have B1 := Lh b1
 clear hw1 b1 hb1 x0 x1 HCh BX
 by_cases hk : ck = 0
 ·subst hk
  obtain ⟨h16, hmo, hfo⟩ := HZ.out rfl
  have H16 := Lh h16; have Hmo := Lh hmo; have Hfo := Lh hfo
  have H0 : Hid (PrS w w1 q (.slice MA nm cm) (.slice FA nf cf) (.slice none 0 0) 0) := Lh ⟨World.ownsRow_nil _ _ _ _, Hw1.out, B1.out⟩
  clear h16 hmo hfo B1 Hw1 HZ
  go_wp2
  clear y0
  go_loopw [5, 19] (fun v i wr => ∃ k : Nat, k ≤ nm ∧ i = .int .i64 k ∧ Hid (PrS w wr q (.slice MA nm cm) (.slice FA nf cf) v k)) (fun _ i _ => nm - (intOf i).toNat)
  case atStart => exact ⟨0, Nat.zero_le _, rfl, H0⟩
  case round =>
   obtain ⟨k, hkn, rfl, hst⟩ := hrel
   obtain ⟨wo, rfl⟩ : ∃ wo : World, wo = wr := ⟨_, rfl⟩
   have wk1 : IntKind.i64.wrap ((k : Int) + 1) = ((k + 1 : Nat) : Int) := by rw [IntKind.wrap_i64]; omega
   by_cases hlt : k < nm
   ·have z3 : (k : Int) < (nm : Int) := by omega
    obtain ⟨m, hm⟩ : ∃ m, q.ms[k]? = some m := ⟨_, List.getElem?_eq_getElem (by rw [Hnm.out]; exact hlt)⟩
    obtain ⟨b, off, rfl, hc⟩ := HQ.out.mat hm
    obtain ⟨c0, c1, c2⟩ := hc wo hst.out.be
    have hmem := List.mem_of_getElem? hm
    have hml := Hsm.out m hmem
    have hmo1 : matOk m = true := List.all_eq_true.1 Hmo.out m hmem
    have ho4 : m.op = 1 ∨ m.op = 2 ∨ m.op = 3 ∨ m.op = 4 := opOk_four (by unfold matOk at hmo1; rw [Bool.and_eq_true] at hmo1; exact hmo1.2)
    obtain ⟨N1, e1, hN1⟩ := str_form m.name
    obtain ⟨N2, e2, hN2⟩ := str_form m.val
    obtain ⟨o, ho⟩ : ∃ o, m.op = o := ⟨_, rfl⟩
    rw [e1] at c0
    rw [ho] at c1 ho4
    rw [e2] at c2
    have Hc := Lh hc; have Hm := Lh hm; have Hml := Lh hml; have Ho4 := Lh ho4; have HN1 := Lh hN1; have He2 := Lh e2; have He1 := Lh e1; have Hoo := Lh ho
    clear hc hm hml hmo1 hmem ho4 hN1 e2 e1 ho hN2
    obtain ⟨V, hV⟩ : ∃ V, V = wo.alloc (.cells #[.string N1, .int .i64 o, .string N2] 69) := ⟨_, rfl⟩
    have bV : Below wo.heap.size wo V := by rw [hV]; exact (Below.refl _ _).alloc (Nat.le_refl _) _
    have kV : Blk V wo.heap.size 69 [.string N1, .int .i64 o, .string N2] := by rw [hV]; exact Blk.new wo _ _
    have hVV := bV.drew
    have s0 : Blk V.drew wo.heap.size 69 [.string N1, .int .i64 o, .string N2] := kV.drew
    have hwV := hst.out.be.trans (hVV.mono hst.out.be.size)
    have hqd := vQuoted m.val V.drew (HL.out.below hwV) (by have := Hml.out; omega)
    obtain ⟨O, hO⟩ : ∃ O : ByteArray, O = ⟨(opM o).toArray⟩ := ⟨_, rfl⟩
    have zO : O.size ≤ 2 := by rw [hO, str_size]; rcases Ho4.out with rfl | rfl | rfl | rfl <;> decide
    have zN1 : N1.size ≤ 10000000 := by rw [HN1.out, str_size]; exact Hml.out.1
    obtain ⟨Q, hQ⟩ : ∃ Q : ByteArray, Q = ⟨(quoteP m.val).toArray⟩ := ⟨_, rfl⟩
    have zQ : Q.size ≤ 20000002 := by rw [hQ, str_size]; have := quoteP_len m.val; have := Hml.out; omega
    unfold str at hqd
    rw [← hQ, show (.string ⟨m.val.toArray⟩ : Value) = .string N2 from He2.out] at hqd
    have HVV := Lh hVV; have HQd := Lh hqd; have HwV := Lh hwV; have HO := Lh hO; have HQ2 := Lh hQ
    clear bV hVV kV hqd hwV hO hQ
    go_upto_region 8 with fail
    rw [← hV]
    clear hV c0 c1 c2
    refine rgN (fun w' => Blk w' wo.heap.size 69 [.string N1, .int .i64 o, .string N2]) 100 (by kernel_rfl) ?_
    apply tkL 0 (by kernel_rfl) rfl (fun _ _ _ h => h) (by kernel_rfl) s0
    ·intro w' hS'; go_simp; exact ⟨rfl, rfl⟩
    (try simp only [Act.put]); (try simp only [List.setIfInBounds_toArray]); (try simp only [List.set])
    apply tkL 1 (by kernel_rfl) rfl (fun _ _ _ h => h) (by kernel_rfl) s0
    ·intro w' hS'; go_simp; exact ⟨rfl, rfl⟩
    (try simp only [Act.put]); (try simp only [List.setIfInBounds_toArray]); (try simp only [List.set])
    apply tkL 2 (v := (.string N1)) (by kernel_rfl) rfl (fun _ _ _ h => h) (by kernel_rfl) s0
    ·intro w' hS'; have k := hS'.cell 0; go_simp; exact ⟨rfl, rfl⟩
    (try simp only [Act.put]); (try simp only [List.setIfInBounds_toArray]); (try simp only [List.set])
    apply tkL 3 (by kernel_rfl) rfl (fun _ _ _ h => h) (by kernel_rfl) s0
    ·intro w' hS'; go_simp; exact ⟨rfl, rfl⟩
    (try simp only [Act.put]); (try simp only [List.setIfInBounds_toArray]); (try simp only [List.set])
    apply tkL 4 (by kernel_rfl) rfl (fun _ _ _ h => h) (by kernel_rfl) s0
    ·intro w' hS'; go_simp; exact ⟨rfl, rfl⟩
    (try simp only [Act.put]); (try simp only [List.setIfInBounds_toArray]); (try simp only [List.set])
    apply tkL 5 (v := (.int .i64 o)) (by kernel_rfl) rfl (fun _ _ _ h => h) (by kernel_rfl) s0
    ·intro w' hS'; have k := hS'.cell 1; go_simp; exact ⟨rfl, rfl⟩
    (try simp only [Act.put]); (try simp only [List.setIfInBounds_toArray]); (try simp only [List.set])
    apply tkL 6 (by kernel_rfl) rfl (fun _ _ _ h => h) (by kernel_rfl) s0
    ·intro w' hS'; go_simp; exact ⟨rfl, rfl⟩
    (try simp only [Act.put]); (try simp only [List.setIfInBounds_toArray]); (try simp only [List.set])
    apply tkL 7 (v := (.string O)) (by kernel_rfl) rfl (fun _ _ _ h => h) (by kernel_rfl) s0
    ·intro w' hS'
     (rw [HO.out]; rcases Ho4.out with rfl | rfl | rfl | rfl <;> (go_simp; exact ⟨rfl, rfl⟩))
    (try simp only [Act.put]); (try simp only [List.setIfInBounds_toArray]); (try simp only [List.set])
    apply tkL 8 (v := (.string (N1 ++ O))) (by kernel_rfl) rfl (fun _ _ _ h => h) (by kernel_rfl) s0
    ·intro w' hS'
     (go_simp; rw [if_neg (by omega)]; exact ⟨rfl, rfl⟩)
    (try simp only [Act.put]); (try simp only [List.setIfInBounds_toArray]); (try simp only [List.set])
    apply tkL 9 (by kernel_rfl) rfl (fun _ _ _ h => h) (by kernel_rfl) s0
    ·intro w' hS'; go_simp; exact ⟨rfl, rfl⟩
    (try simp only [Act.put]); (try simp only [List.setIfInBounds_toArray]); (try simp only [List.set])
    apply tkL 10 (v := (.string N2)) (by kernel_rfl) rfl (fun _ _ _ h => h) (by kernel_rfl) s0
    ·intro w' hS'; have k := hS'.cell 2; go_simp; exact ⟨rfl, rfl⟩
    (try simp only [Act.put]); (try simp only [List.setIfInBounds_toArray]); (try simp only [List.set])
    refine rnL 11 (by kernel_rfl) rfl (by kernel_rfl) (fun K hK => ?_)
    go_simp
    refine HQd.out.mono ?_
    rintro e w2 ⟨rfl, hb2⟩
    have s1 := s0.below hb2 s0.lt
    have hw2 := HwV.out.trans (hb2.mono HwV.out.size)
    have hV2 := hb2
    refine hK _ _ (fun _ => s1) ?_
    clear hK K
    (try simp only [Act.put])
    apply tkL 12 (v := (.string (N1 ++ O ++ Q))) (by kernel_rfl) rfl (fun _ _ _ h => h) (by kernel_rfl) s1
    ·intro w' hS'
     (go_simp; rw [if_neg (by omega)]; exact ⟨rfl, rfl⟩)
    (try simp only [Act.put]); (try simp only [List.setIfInBounds_toArray]); (try simp only [List.set])
    refine rnL 13 (by kernel_rfl) rfl (by kernel_rfl) (fun K hK => ?_)
    go_simp
    obtain ⟨T, hT⟩ : ∃ T : ByteArray, T = N1 ++ O ++ Q := ⟨_, rfl⟩
    rw [← hT]
    have hTm : strB (matT m) = .string T := by
     rw [hT, HN1.out, HO.out, HQ2.out, bytes_app, bytes_app, ← Hoo.out]
     simp [strB, matT]
    obtain ⟨Z, hZ⟩ : ∃ Z, Z = w2.alloc (.cells #[.string T] 9) := ⟨_, rfl⟩
    rw [← hZ]
    have b3Z : Below w2.heap.size w2 Z := by rw [hZ]; exact (Below.refl _ _).alloc (Nat.le_refl _) _
    have s2 := s1.below b3Z s1.lt
    have hwZ := hw2.trans (b3Z.mono hw2.size)
    have hoZ := HVV.out.trans ((hV2.trans (b3Z.mono hV2.size)).mono HVV.out.size)
    have oZ := own_below hst.out.ow hoZ
    have bZ := hst.out.bx.below hoZ hst.out.bx.lt
    have xrow : Row Z (w2.heap.size + 1) 1 (some ⟨w2.heap.size, 0, none⟩) 1 [.string T] := by rw [hZ]; exact row_newN w2 9 1 1 _ rfl
    have hlZ : w.heap.size ≤ Z.heap.size := hwZ.size
    clear hZ b3Z hoZ hT
    refine hK _ _ (fun _ => s2) ?_
    clear hK K
    (try simp only [Act.put]); (try simp only [List.setIfInBounds_toArray]); (try simp only [List.set])
    refine rnL 14 (by kernel_rfl) rfl (by kernel_rfl) (fun K hK => ?_)
    refine wp_app Z strQE rfl rfl oZ rfl xrow (by intro u hu; rw [List.mem_singleton] at hu; subst hu; rfl) (by have := H16.out; omega) hlZ ?_
    intro v8 W own8 hg8 hb8 hx8
    have s3 := s2.grown hg8 fun e => own_blk oZ s2 (by decide) (Option.mem_toList.2 e.symm)
    have hS : PrS w W q (.slice (some ⟨b, off, none⟩) nm cm) (.slice FA nf cf) v8 (k + 1) := by
     refine ⟨?_, hwZ.trans hb8, bZ.grown hg8 fun e => own_blk oZ bZ (by decide) (Option.mem_toList.2 e.symm)⟩
     rw [List.take_add_one, Hm.out, List.map_append]
     simp only [Option.toList_some, List.map_cons, List.map_nil]
     rw [hTm]
     exact own8
    have HS := Lh hS
    clear hS own8 hg8 hb8 hx8 oZ bZ xrow hlZ hwZ hTm s1 hV2
    refine hK _ _ (fun _ => s3) ?_
    clear hK K
    (try simp only [Act.put]); (try simp only [List.setIfInBounds_toArray]); (try simp only [List.set])
    refine rnL 15 (by kernel_rfl) rfl (by kernel_rfl) (fun K hK => ?_)
    go_simp
    refine hK _ _ (fun _ => s3) ?_
    clear hK K
    (try simp only [Act.put]); (try simp only [List.setIfInBounds_toArray]); (try simp only [List.set])
    refine dnL (by kernel_rfl) ?_ _
    clear s0 s2 s3
    go_wp2
    go_roundw
    case rel => exact ⟨k + 1, by omega, by first | rfl | go_num, HS⟩
    case measure => simp [intOf]; omega
   ·obtain rfl : k = nm := by omega
    have z3 : ¬ (k : Int) < (k : Int) := by omega
    have how := hst.out.ow
    rw [List.take_of_length_le (by rw [Hnm.out]; exact Nat.le_refl _)] at how
    obtain ⟨LA, lc, rfl, hlc⟩ := own_form how
    have hk16 : k ≤ 16 ∧ nf ≤ 16 := by have := H16.out; omega
    have hjl : (joinC (q.ms.map matT)).length ≤ 500000000 := by
     have h1 := joinC_len (M := 30000010) (q.ms.map matT) fun x hx => by
      obtain ⟨m, hm, rfl⟩ := List.mem_map.1 hx
      have h1 := Hsm.out m hm
      have h2 := quoteP_len m.val
      have h3 := opM_len m.op
      unfold matT
      rw [List.length_append, List.length_append]; omega
     rw [List.length_map, Hnm.out] at h1
     omega
    have hj := cJoin (q.ms.map matT) w.heap.size LA k lc wo (by rw [List.map_map]; exact how) hlc (by omega) (by omega)
    obtain ⟨J, hJ⟩ : ∃ J : ByteArray, J = ⟨(joinC (q.ms.map matT)).toArray⟩ := ⟨_, rfl⟩
    have zJ : J.size ≤ 500000000 := by rw [hJ, str_size]; exact hjl
    unfold str at hj
    rw [← hJ] at hj
    have HJn := Lh hj; have HJ := Lh hJ; have Hbe := Lh hst.out.be; have Hbx := Lh hst.out.bx; have H16' := Lh hk16; have Hjl := Lh hjl
    clear hj hJ how hlc hk16 hjl hst
    go_wp2_with fail
    refine HJn.out.mono ?_
    rintro e w2 ⟨rfl, hb2⟩
    have hw2 := Hbe.out.trans (hb2.mono Hbe.out.size)
    have bx2 := Hbx.out.below hb2 Hbx.out.lt
    have y1 : w2.cell? ⟨w.heap.size, 1, none⟩ = some (.slice FA nf cf) := bx2.cell 1
    have zk16 := H16'.out.2
    obtain ⟨P, hP⟩ : ∃ P : Bs, P = 123 :: (joinC (q.ms.map matT) ++ [125]) := ⟨_, rfl⟩
    have hPz : P.length ≤ 500000002 := by have := Hjl.out; rw [hP]; simp; omega
    have hPe : (⟨#[123]⟩ : ByteArray) ++ J ++ ⟨#[125]⟩ = ⟨(P ++ (q.fs.take 0).flatMap filT).toArray⟩ := by
     rw [HJ.out, hP]
     have h := bytes_app [123] (joinC (q.ms.map matT))
     have h' := bytes_app ([123] ++ joinC (q.ms.map matT)) [125]
     refine ((congrArg (· ++ (⟨[125].toArray⟩ : ByteArray)) h).trans h').trans ?_
     simp
    have H0 : Hid (Below w.heap.size w w2) := Lh hw2
    have HP := Lh hP; have HPz := Lh hPz; have HPe := Lh hPe
    clear hw2 bx2 hb2 hP hPz hPe HJn HJ Hbe Hbx
    go_upto_region 11 with fail
    obtain ⟨SP, hSP⟩ : ∃ SP : ByteArray, SP = ⟨(P ++ (q.fs.take 0).flatMap filT).toArray⟩ := ⟨_, rfl⟩
    rw [HPe.out, ← hSP]
    have HSP := Lh hSP
    clear hSP
    obtain ⟨S1, hS1⟩ : ∃ S1 : ByteArray, S1 = (⟨#[123]⟩ : ByteArray) ++ J := ⟨_, rfl⟩
    rw [← hS1]
    clear hS1
    have hpr := print_pre q
    rw [← HP.out, Hnf.out] at hpr
    have HPr := Lh hpr
    clear hpr
    go_wp2
    clear y1
    go_loopw [8, 46] (fun v i wr => ∃ j : Nat, j ≤ nf ∧ i = .int .i64 j ∧ v = .string ⟨(P ++ (q.fs.take j).flatMap filT).toArray⟩ ∧ Hid ((P ++ (q.fs.take j).flatMap filT).length ≤ 500000002 + j * 20000010) ∧ Hid (Below w.heap.size w wr)) (fun _ i _ => nf - (intOf i).toNat)
    case atStart => exact ⟨0, Nat.zero_le _, rfl, by rw [HSP.out], Lh (by simpa using HPz.out), H0⟩
    case round =>
     obtain ⟨j, hjn, rfl, rfl, hjl, hbe⟩ := hrel
     obtain ⟨wo, rfl⟩ : ∃ wo : World, wo = wr := ⟨_, rfl⟩
     have wk1 : IntKind.i64.wrap ((j : Int) + 1) = ((j + 1 : Nat) : Int) := by rw [IntKind.wrap_i64]; omega
     by_cases hlt : j < nf
     ·have z4 : (j : Int) < (nf : Int) := by omega
      obtain ⟨f, hf⟩ : ∃ f, q.fs[j]? = some f := ⟨_, List.getElem?_eq_getElem (by rw [Hnf.out]; exact hlt)⟩
      obtain ⟨b, off, rfl, hc⟩ := fil_cells HQ.out.fs hf hlt
      obtain ⟨c0, c1⟩ := hc wo hbe.out
      have hmem := List.mem_of_getElem? hf
      have hml := Hsf.out f hmem
      have hmo1 : filOk f = true := List.all_eq_true.1 Hfo.out f hmem
      have ho4 : f.op = 1 ∨ f.op = 2 ∨ f.op = 3 ∨ f.op = 4 := opOk_four hmo1
      obtain ⟨N2, e2, hN2⟩ := str_form f.text
      obtain ⟨o, ho⟩ : ∃ o, f.op = o := ⟨_, rfl⟩
      rw [ho] at c0 ho4
      rw [e2] at c1
      have Hf := Lh hf; have Hml := Lh hml; have Ho4 := Lh ho4; have He2 := Lh e2; have Hoo := Lh ho
      clear hc hf hml hmo1 hmem ho4 e2 ho hN2
      obtain ⟨V, hV⟩ : ∃ V, V = wo.alloc (.cells #[.int .i64 o, .string N2] 71) := ⟨_, rfl⟩
      have bV : Below wo.heap.size wo V := by rw [hV]; exact (Below.refl _ _).alloc (Nat.le_refl _) _
      have kV : Blk V wo.heap.size 71 [.int .i64 o, .string N2] := by rw [hV]; exact Blk.new wo _ _
      have hVV := bV.drew
      have s0 : Blk V.drew wo.heap.size 71 [.int .i64 o, .string N2] := kV.drew
      have hwV := hbe.out.trans (hVV.mono hbe.out.size)
      have hqd := vQuoted f.text V.drew (HL.out.below hwV) (by have := Hml.out; omega)
      obtain ⟨O, hO⟩ : ∃ O : ByteArray, O = ⟨(opF o).toArray⟩ := ⟨_, rfl⟩
      have zO : O.size = 2 := by rw [hO, str_size]; rcases Ho4.out with rfl | rfl | rfl | rfl <;> decide
      obtain ⟨Q, hQ⟩ : ∃ Q : ByteArray, Q = ⟨(quoteP f.text).toArray⟩ := ⟨_, rfl⟩
      have zQ : Q.size ≤ 20000002 := by rw [hQ, str_size]; have := quoteP_len f.text; have := Hml.out; omega
      obtain ⟨S, hS⟩ : ∃ S : ByteArray, S = ⟨(P ++ (q.fs.take j).flatMap filT).toArray⟩ := ⟨_, rfl⟩
      have zS : S.size ≤ 900000000 := by rw [hS, str_size]; have := hjl.out; omega
      unfold str at hqd
      rw [← hQ, show (.string ⟨f.text.toArray⟩ : Value) = .string N2 from He2.out] at hqd
      have hnext : (P ++ (q.fs.take (j + 1)).flatMap filT) = (P ++ (q.fs.take j).flatMap filT) ++ filT f := by
       rw [List.take_add_one, Hf.out, List.flatMap_append]
       simp
      have hSn : S ++ ((⟨#[32]⟩ : ByteArray) ++ O ++ ⟨#[32]⟩ ++ Q) = ⟨(P ++ (q.fs.take (j + 1)).flatMap filT).toArray⟩ := by
       rw [hnext, hS, hO, hQ, ← Hoo.out]
       apply ByteArray.ext
       simp [ByteArray.data_append, filT]
      have hnl : (P ++ (q.fs.take (j + 1)).flatMap filT).length ≤ 500000002 + (j + 1) * 20000010 := by
       have h1 := quoteP_len f.text
       have h2 : (filT f).length ≤ 20000010 := by
        have h3 : (opF f.op).length ≤ 2 := by rw [Hoo.out]; rcases Ho4.out with rfl | rfl | rfl | rfl <;> decide
        have := Hml.out
        unfold filT
        simp; omega
       have := hjl.out
       rw [hnext, List.length_append]; omega
      have HQd := Lh hqd; have HwV := Lh hwV; have HO := Lh hO; have HSn := Lh hSn; have Hnl := Lh hnl
      clear bV hVV kV hqd hwV hO hQ hSn hnl hnext
      rw [← hS]
      clear hS hjl
      go_upto_region 14 with fail
      rw [← hV]
      clear hV c0 c1
      refine rgN (fun w' => Blk w' wo.heap.size 71 [.int .i64 o, .string N2]) 100 (by kernel_rfl) ?_
      apply tkL 0 (by kernel_rfl) rfl (fun _ _ _ h => h) (by kernel_rfl) s0
      ·intro w' hS'; go_simp; exact ⟨rfl, rfl⟩
      (try simp only [Act.put]); (try simp only [List.setIfInBounds_toArray]); (try simp only [List.set])
      apply tkL 1 (by kernel_rfl) rfl (fun _ _ _ h => h) (by kernel_rfl) s0
      ·intro w' hS'; go_simp; exact ⟨rfl, rfl⟩
      (try simp only [Act.put]); (try simp only [List.setIfInBounds_toArray]); (try simp only [List.set])
      apply tkL 2 (by kernel_rfl) rfl (fun _ _ _ h => h) (by kernel_rfl) s0
      ·intro w' hS'; go_simp; exact ⟨rfl, rfl⟩
      (try simp only [Act.put]); (try simp only [List.setIfInBounds_toArray]); (try simp only [List.set])
      apply tkL 3 (v := (.int .i64 o)) (by kernel_rfl) rfl (fun _ _ _ h => h) (by kernel_rfl) s0
      ·intro w' hS'; have k := hS'.cell 0; go_simp; exact ⟨rfl, rfl⟩
      (try simp only [Act.put]); (try simp only [List.setIfInBounds_toArray]); (try simp only [List.set])
      apply tkL 4 (by kernel_rfl) rfl (fun _ _ _ h => h) (by kernel_rfl) s0
      ·intro w' hS'; go_simp; exact ⟨rfl, rfl⟩
      (try simp only [Act.put]); (try simp only [List.setIfInBounds_toArray]); (try simp only [List.set])
      apply tkL 5 (v := (.string O)) (by kernel_rfl) rfl (fun _ _ _ h => h) (by kernel_rfl) s0
      ·intro w' hS'
       (rw [HO.out]; rcases Ho4.out with rfl | rfl | rfl | rfl <;> (go_simp; exact ⟨rfl, rfl⟩))
      (try simp only [Act.put]); (try simp only [List.setIfInBounds_toArray]); (try simp only [List.set])
      apply tkL 6 (v := (.string ((⟨#[32]⟩ : ByteArray) ++ O))) (by kernel_rfl) rfl (fun _ _ _ h => h) (by kernel_rfl) s0
      ·intro w' hS'
       (go_simp; (try rw [if_neg (by omega)]); exact ⟨rfl, rfl⟩)
      (try simp only [Act.put]); (try simp only [List.setIfInBounds_toArray]); (try simp only [List.set])
      apply tkL 7 (v := (.string ((⟨#[32]⟩ : ByteArray) ++ O ++ ⟨#[32]⟩))) (by kernel_rfl) rfl (fun _ _ _ h => h) (by kernel_rfl) s0
      ·intro w' hS'
       (go_simp; (try rw [if_neg (by omega)]); exact ⟨rfl, rfl⟩)
      (try simp only [Act.put]); (try simp only [List.setIfInBounds_toArray]); (try simp only [List.set])
      apply tkL 8 (by kernel_rfl) rfl (fun _ _ _ h => h) (by kernel_rfl) s0
      ·intro w' hS'; go_simp; exact ⟨rfl, rfl⟩
      (try simp only [Act.put]); (try simp only [List.setIfInBounds_toArray]); (try simp only [List.set])
      apply tkL 9 (v := (.string N2)) (by kernel_rfl) rfl (fun _ _ _ h => h) (by kernel_rfl) s0
      ·intro w' hS'; have k := hS'.cell 1; go_simp; exact ⟨rfl, rfl⟩
      (try simp only [Act.put]); (try simp only [List.setIfInBounds_toArray]); (try simp only [List.set])
      refine rnL 10 (by kernel_rfl) rfl (by kernel_rfl) (fun K hK => ?_)
      go_simp
      refine HQd.out.mono ?_
      rintro e w3 ⟨rfl, hb3⟩
      have s1 := s0.below hb3 s0.lt
      have hw3 := HwV.out.trans (hb3.mono HwV.out.size)
      refine hK _ _ (fun _ => s1) ?_
      clear hK K
      (try simp only [Act.put])
      apply tkL 11 (v := (.string ((⟨#[32]⟩ : ByteArray) ++ O ++ ⟨#[32]⟩ ++ Q))) (by kernel_rfl) rfl (fun _ _ _ h => h) (by kernel_rfl) s1
      ·intro w' hS'
       (go_simp; (try rw [if_neg (by omega)]); exact ⟨rfl, rfl⟩)
      (try simp only [Act.put]); (try simp only [List.setIfInBounds_toArray]); (try simp only [List.set])
      apply tkL 12 (v := (.string (S ++ ((⟨#[32]⟩ : ByteArray) ++ O ++ ⟨#[32]⟩ ++ Q)))) (by kernel_rfl) rfl (fun _ _ _ h => h) (by kernel_rfl) s1
      ·intro w' hS'
       (go_simp; (try rw [if_neg (by omega)]); exact ⟨rfl, rfl⟩)
      (try simp only [Act.put]); (try simp only [List.setIfInBounds_toArray]); (try simp only [List.set])
      apply tkL 13 (by kernel_rfl) rfl (fun _ _ _ h => h) (by kernel_rfl) s1
      ·intro w' hS'; go_simp; exact ⟨rfl, rfl⟩
      (try simp only [Act.put]); (try simp only [List.setIfInBounds_toArray]); (try simp only [List.set])
      refine dnL (by kernel_rfl) ?_ _
      rw [HSn.out]
      have Hw3 := Lh hw3
      clear s0 s1 hw3 hb3
      go_wp2
      go_roundw
      case rel => exact ⟨j + 1, by omega, by first | rfl | go_num, rfl, Hnl, Hw3⟩
      case measure => simp [intOf]; omega
     ·obtain rfl : j = nf := by omega
      have z4 : ¬ (j : Int) < (j : Int) := by omega
      rw [HPr.out]
      have hans : QPrintO q w (.returned (.tuple #[.string ⟨(printP q).toArray⟩, .int .i64 0])) wo := ⟨by rw [Hck.out, if_pos rfl]; rfl, hbe.out⟩
      obtain ⟨PR, hPR⟩ : ∃ PR : ByteArray, PR = ⟨(printP q).toArray⟩ := ⟨_, rfl⟩
      rw [← hPR] at hans ⊢
      have HAns := Lh hans
      clear hans hPR
      go_wp2
      refine bodyPost_ret (v := .tuple #[.string PR, .int .i64 0]) (by simp [results, Tryz.results30, go_sem]) rfl ?_
      exact HAns.out
 ·have zk : ((ck : Int) == 0) = false := beq_eq_false_iff_ne.2 (by omega)
  have zk2 : ¬ (ck : Int) = 0 := by omega
  have hans : QPrintO q w (.returned (.tuple #[.string ⟨#[]⟩, .int .i64 ck])) w1 := ⟨by rw [Hck.out, if_neg hk], Hw1.out⟩
  have HAns := Lh hans
  clear hans
  go_wp2
  refine bodyPost_ret (v := .tuple #[.string ⟨#[]⟩, .int .i64 ck]) (by simp [results, Tryz.results30, go_sem]) rfl ?_
  exact HAns.out
end Go.Proofs.YtecejnilajbdpaaGreatDoor
