import Derived.Test.YtecejnilajbdpaaGreatDoorTz46
set_option maxRecDepth 100000
set_option maxHeartbeats 32000000
namespace Go.Proofs.YtecejnilajbdpaaGreatDoor
open Go.RowKit Go.Shelf Garner
def QParseO (s : Bs) (w : World) (e : Ending) (w' : World) : Prop := ∃ (V1 V2 : Value) (q : QueryP) (k : Nat), e = .returned (.tuple #[.agg #[V1, V2], .int .i64 (k : Nat)]) ∧ Below w.heap.size w w' ∧ w'.ownsRow w.heap.size 69 3 V1 q.ms.length (q.ms.flatMap MatP.cells) ∧ w'.ownsRow w.heap.size 71 2 V2 q.fs.length (q.fs.flatMap FilP.cells) ∧
 (∀ m ∈ q.ms, m.name.length ≤ 512 ∧ m.val.length ≤ 512) ∧ (∀ f ∈ q.fs, f.text.length ≤ 512) ∧ q.ms.length + q.fs.length ≤ 513 ∧ ((k = 0 ∧ parseQ s = .ok q) ∨ (k ≠ 0 ∧ parseQ s = .error k ∧ q = ⟨[], []⟩ ∧ V1 = .slice none 0 0 ∧ V2 = .slice none 0 0))
theorem QParseO.err {s : Bs} {w W : World} {k : Nat} (h : parseQ s = .error k) (hk : k ≠ 0) (hb : Below w.heap.size w W) : QParseO s w (.returned (.tuple #[.agg #[.slice none 0 0, .slice none 0 0], .int .i64 (k : Nat)])) W :=
 ⟨_, _, ⟨[], []⟩, k, rfl, hb, World.ownsRow_nil _ _ _ _, World.ownsRow_nil _ _ _ _, by simp, by simp, by simp, .inr ⟨hk, h, rfl, rfl, rfl⟩⟩
theorem vQParse (s : Bs) (w : World) (hL : Lt w) (hl : s.length ≤ 140737488355328) :
  Calls Tryz.prog 26 #[str s] w fun e w' => QParseO s w e w' := by
 obtain ⟨X0, hX0⟩ : ∃ X0, X0 = w.alloc (.cells #[.slice none 0 0, .slice none 0 0] 25) := ⟨_, rfl⟩
 have hwX : Below w.heap.size w X0 := by rw [hX0]; exact (Below.refl _ _).alloc (Nat.le_refl _) _
 have bX : Blk X0 w.heap.size 25 [.slice none 0 0, .slice none 0 0] := by rw [hX0]; exact Blk.new w _ _
 have hva := cValid s X0 (hL.below hwX) (by omega)
 obtain ⟨S, eS, hS⟩ := str_form s
 rw [show str s = .string S from eS] at hva ⊢
 have zS : S.size = s.length := by rw [hS]; exact str_size s
 obtain ⟨N, hN⟩ : ∃ N, s.length = N := ⟨_, rfl⟩
 rw [hN] at zS
 have hPq : parseQ s = parseQ s := rfl
 conv at hPq => rhs; unfold parseQ
 rw [hN] at hPq
 obtain ⟨vb, hvb⟩ : ∃ vb, Lib.validD s = vb := ⟨_, rfl⟩
 rw [hvb] at hva hPq
 have HVa := Lh hva; have HPq := Lh hPq; have HwX := Lh hwX; have BX := Lh bX; have HL := Lh hL; have HN := Lh hN; have HeS := Lh eS
 clear hva hPq hwX bX hL hN eS hS hvb hl
 go_enter Tryz.func26, Tryz.ntmps26
 go_upto_region 1 with fail
 rw [← hX0]
 clear hX0
 have r0 : X0.cell? ⟨w.heap.size, 0, none⟩ = some (.slice none 0 0) := BX.out.cell 0
 have r1 : X0.cell? ⟨w.heap.size, 1, none⟩ = some (.slice none 0 0) := BX.out.cell 1
 have rf0 := BX.out.frozen 0
 have rf1 := BX.out.frozen 1
 have hend : ∀ (W0 : World), Below w.heap.size w W0 → Blk W0 w.heap.size 25 [.slice none 0 0, .slice none 0 0] → ∀ W, W = (W0.setCell ⟨w.heap.size, 0, none⟩ (.slice none 0 0)).setCell ⟨w.heap.size, 1, none⟩ (.slice none 0 0) → Below w.heap.size w W ∧ W.cell? ⟨w.heap.size, 0, none⟩ = some (.slice none 0 0) ∧ W.cell? ⟨w.heap.size, 1, none⟩ = some (.slice none 0 0) := by
  rintro W0 h1 h2 W rfl
  have h3 := (h2.set_ 0 (.slice none 0 0)).set_ 1 (.slice none 0 0)
  have bW : But [w.heap.size] W0 ((W0.setCell ⟨w.heap.size, 0, none⟩ (.slice none 0 0)).setCell ⟨w.heap.size, 1, none⟩ (.slice none 0 0)) := ((But.refl _ _).setCell (by simp) _).setCell (by simp) _
  exact ⟨h1.trans (bW.below h1.size fun x hx => by rw [List.mem_singleton] at hx; rw [hx]; exact Nat.le_refl _), h3.cell 0, h3.cell 1⟩
 have HEnd := Lh hend
 clear hend
 by_cases h512 : 512 < N
 ·have z1 : (512 : Int) < (N : Int) := by omega
  have hp := HPq.out
  rw [if_pos h512] at hp
  obtain ⟨W, hW⟩ : ∃ W, W = (X0.setCell ⟨w.heap.size, 0, none⟩ (.slice none 0 0)).setCell ⟨w.heap.size, 1, none⟩ (.slice none 0 0) := ⟨_, rfl⟩
  obtain ⟨hbW, w0c, w1c⟩ := HEnd.out X0 HwX.out BX.out W hW
  have HP := Lh hp; have HW := Lh hW; have HbW := Lh hbW
  clear hp hW hbW
  go_wp2
  rw [← HW.out]
  clear HW r0 r1 rf0 rf1
  refine bodyPost_ret (v := .tuple #[.agg #[.slice none 0 0, .slice none 0 0], .int .i64 4]) (by simp [results, Tryz.results26, go_sem, *]) rfl ?_
  exact QParseO.err (k := 4) HP.out (by decide) HbW.out
 have z1 : ¬ (512 : Int) < (N : Int) := by omega
 have hPq2 := HPq.out
 rw [if_neg h512] at hPq2
 have HPq2 := Lh hPq2
 clear hPq2 HPq r0 r1 rf0 rf1
 go_wp2_with fail
 refine HVa.out.mono ?_
 rintro e w1 ⟨rfl, hb1⟩
 have hw1 := HwX.out.trans (hb1.mono HwX.out.size)
 have b1 := BX.out.below hb1 BX.out.lt
 have r0 : w1.cell? ⟨w.heap.size, 0, none⟩ = some (.slice none 0 0) := b1.cell 0
 have r1 : w1.cell? ⟨w.heap.size, 1, none⟩ = some (.slice none 0 0) := b1.cell 1
 have rf0 := b1.frozen 0
 have rf1 := b1.frozen 1
 have Hw1 := Lh hw1; have B1 := Lh b1
 clear hw1 b1 hb1 HVa BX HwX
 cases vb with
 | false =>
  have hp := HPq2.out
  rw [if_pos rfl] at hp
  obtain ⟨W, hW⟩ : ∃ W, W = (w1.setCell ⟨w.heap.size, 0, none⟩ (.slice none 0 0)).setCell ⟨w.heap.size, 1, none⟩ (.slice none 0 0) := ⟨_, rfl⟩
  obtain ⟨hbW, w0c, w1c⟩ := HEnd.out w1 Hw1.out B1.out W hW
  have HP := Lh hp; have HW := Lh hW; have HbW := Lh hbW
  clear hp hW hbW
  go_wp2
  rw [← HW.out]
  clear HW r0 r1 rf0 rf1
  refine bodyPost_ret (v := .tuple #[.agg #[.slice none 0 0, .slice none 0 0], .int .i64 8]) (by simp [results, Tryz.results26, go_sem, *]) rfl ?_
  exact QParseO.err (k := 8) HP.out (by decide) HbW.out
 | true =>
  have hp := HPq2.out
  rw [if_neg (by decide)] at hp
  obtain ⟨G, hG⟩ : ∃ G, G = w1.alloc (.cells #[.string S, .bool false] 94) := ⟨_, rfl⟩
  have hbG : Below w1.heap.size w1 G := by rw [hG]; exact (Below.refl _ _).alloc (Nat.le_refl _) _
  have kG : ScanIs G w1.heap.size s false := by rw [ScanIs, show strB s = .string S from HeS.out, hG]; exact Blk.new w1 _ _
  have hwG := Hw1.out.trans (hbG.mono Hw1.out.size)
  have bG := B1.out.below hbG B1.out.lt
  have hsg : w.heap.size < w1.heap.size := B1.out.lt
  have hsG : w1.heap.size < G.heap.size := kG.lt
  have hqu := vSQuery w w1.heap.size s G HL.out hwG Hw1.out.size kG (by have := HN.out; omega)
  have HP := Lh hp; have HwG := Lh hwG; have BG := Lh bG; have HQu := Lh hqu
  obtain ⟨g, hge⟩ : ∃ g, w1.heap.size = g := ⟨_, rfl⟩
  rw [hge] at hsg hsG HQu
  clear hp hbG kG hwG bG hqu r0 r1 rf0 rf1 HPq2 Hw1 B1
  go_upto_region 6 with fail
  rw [← hG]
  clear hG
  go_wp2_with fail
  refine HQu.out.mono ?_
  rintro e w2 ⟨q, bad, s', V1, V2, rfl, k2, bu2, o1, o2, sm, sf, hct, hqr⟩
  rw [HN.out] at sm sf hct
  have r2 := BG.out.but bu2 (by simp; omega)
  have ow2 : Below w.heap.size w w2 := HwG.out.trans (bu2.below HwG.out.size fun x hx => by rw [List.mem_singleton] at hx; rw [hx]; omega)
  obtain ⟨nm, hnm⟩ : ∃ nm, q.ms.length = nm := ⟨_, rfl⟩
  obtain ⟨nf, hnf⟩ : ∃ nf, q.fs.length = nf := ⟨_, rfl⟩
  rw [hnm] at o1
  rw [hnf] at o2
  rw [hnm, hnf] at hct
  obtain ⟨MA, mc, rfl, -⟩ := own_form o1
  obtain ⟨FA, fc, rfl, -⟩ := own_form o2
  obtain ⟨Q2, hQ2⟩ : ∃ Q2, Q2 = w2.alloc (.cells #[.slice MA nm mc, .slice FA nf fc] 25) := ⟨_, rfl⟩
  have hb2 : Below w2.heap.size w2 Q2 := by rw [hQ2]; exact (Below.refl _ _).alloc (Nat.le_refl _) _
  have bq : Blk Q2 w2.heap.size 25 [.slice MA nm mc, .slice FA nf fc] := by rw [hQ2]; exact Blk.new w2 _ _
  have hwQ : Below w.heap.size w Q2 := ow2.trans (hb2.mono ow2.size)
  have rQ := r2.below hb2 r2.lt
  have kQ := k2.below hb2 k2.lt
  have p1 := own_below o1 hb2
  have p2 := own_below o2 hb2
  have hqb : w.heap.size < w2.heap.size := r2.lt
  have hQA : QueryAt Q2 MA nm FA nf q := ⟨.of_own p1, .of_own p2, hnm, hnf, fun m hm => by have := sm m hm; omega, fun f hf => by have := sf f hf; omega⟩
  have hch := vCheck q MA FA nm nf mc fc Q2 (HL.out.below hwQ) hQA (by omega) (by omega)
  have HCh := Lh hch; have HwQ := Lh hwQ; have RQ := Lh rQ; have KQ := Lh kQ; have P1 := Lh p1; have P2 := Lh p2; have BQ := Lh bq; have Hnm := Lh hnm; have Hnf := Lh hnf; have Hsm := Lh sm; have Hsf := Lh sf; have Hct := Lh hct; have Hqr := Lh hqr
  obtain ⟨qb, hqbe⟩ : ∃ qb, w2.heap.size = qb := ⟨_, rfl⟩
  rw [hqbe] at hqb BQ
  have c1 : Q2.cell? ⟨g, 1, none⟩ = some (.bool bad) := kQ.cell 1
  clear hch hwQ rQ kQ p1 p2 bq hnm hnf sm sf hct hqr hQA hb2 ow2 r2 k2 bu2 o1 o2 HQu BG
  go_upto_region 7 with fail
  rw [← hQ2]
  clear hQ2
  cases bad with
  | true =>
   have hp : parseQ s = .error 50 := by
    have h := HP.out
    rcases Hqr.out with ⟨h1, -⟩ | ⟨-, h2⟩
    ·cases h1
    rw [h2] at h; exact h
   have r0 : Q2.cell? ⟨w.heap.size, 0, none⟩ = some (.slice none 0 0) := RQ.out.cell 0
   have r1 : Q2.cell? ⟨w.heap.size, 1, none⟩ = some (.slice none 0 0) := RQ.out.cell 1
   have rf0 := RQ.out.frozen 0
   have rf1 := RQ.out.frozen 1
   obtain ⟨W, hW⟩ : ∃ W, W = (Q2.setCell ⟨w.heap.size, 0, none⟩ (.slice none 0 0)).setCell ⟨w.heap.size, 1, none⟩ (.slice none 0 0) := ⟨_, rfl⟩
   obtain ⟨hbW, w0c, w1c⟩ := HEnd.out Q2 HwQ.out RQ.out W hW
   have HP2 := Lh hp; have HW := Lh hW; have HbW := Lh hbW
   clear hp hW hbW
   go_wp2
   rw [← HW.out]
   clear HW r0 r1 rf0 rf1 c1
   refine bodyPost_ret (v := .tuple #[.agg #[.slice none 0 0, .slice none 0 0], .int .i64 50]) (by simp [results, Tryz.results26, go_sem, *]) rfl ?_
   exact QParseO.err (k := 50) HP2.out (by decide) HbW.out
  | false =>
   have hqr : (toks s).bind queryR = some q := by
    rcases Hqr.out with ⟨-, h2⟩ | ⟨h1, -⟩
    ·exact h2
    cases h1
   have hp := HP.out
   rw [hqr] at hp
   simp only at hp
   obtain ⟨ck, hck⟩ : ∃ ck, checkQ q = ck := ⟨_, rfl⟩
   have hch := HCh.out
   rw [hck] at hp hch
   have HP2 := Lh hp; have HCh2 := Lh hch
   have q0 : Q2.cell? ⟨qb, 0, none⟩ = some (.slice MA nm mc) := BQ.out.cell 0
   have q1 : Q2.cell? ⟨qb, 1, none⟩ = some (.slice FA nf fc) := BQ.out.cell 1
   clear hp hch hqr hck HCh HP Hqr
   go_wp2_with fail
   refine HCh2.out.mono ?_
   rintro e w3 ⟨rfl, hb3⟩
   have hw3 := HwQ.out.trans (hb3.mono HwQ.out.size)
   have r3 := RQ.out.below hb3 RQ.out.lt
   have b3 := BQ.out.below hb3 BQ.out.lt
   have p1 := own_below P1.out hb3
   have p2 := own_below P2.out hb3
   have r0 : w3.cell? ⟨w.heap.size, 0, none⟩ = some (.slice none 0 0) := r3.cell 0
   have r1 : w3.cell? ⟨w.heap.size, 1, none⟩ = some (.slice none 0 0) := r3.cell 1
   have rf0 := r3.frozen 0
   have rf1 := r3.frozen 1
   have x0 : w3.cell? ⟨qb, 0, none⟩ = some (.slice MA nm mc) := b3.cell 0
   have x1 : w3.cell? ⟨qb, 1, none⟩ = some (.slice FA nf fc) := b3.cell 1
   have Hw3 := Lh hw3; have R3 := Lh r3; have P13 := Lh p1; have P23 := Lh p2
   clear hw3 r3 b3 p1 p2 q0 q1 c1 hb3 HCh2 RQ BQ P1 P2 KQ HwQ
   by_cases hk : ck = 0
   ·subst hk
    have hp := HP2.out
    rw [if_pos rfl] at hp
    obtain ⟨W, hW⟩ : ∃ W, W = (w3.setCell ⟨w.heap.size, 0, none⟩ (.slice MA nm mc)).setCell ⟨w.heap.size, 1, none⟩ (.slice FA nf fc) := ⟨_, rfl⟩
    have bW : But [w.heap.size] w3 W := by rw [hW]; exact ((But.refl _ _).setCell (by simp) _).setCell (by simp) _
    have kW : Blk W w.heap.size 25 [.slice MA nm mc, .slice FA nf fc] := by rw [hW]; exact (R3.out.set_ 0 _).set_ 1 _
    have w0c : W.cell? ⟨w.heap.size, 0, none⟩ = some (.slice MA nm mc) := kW.cell 0
    have w1c : W.cell? ⟨w.heap.size, 1, none⟩ = some (.slice FA nf fc) := kW.cell 1
    have hans : QParseO s w (.returned (.tuple #[.agg #[.slice MA nm mc, .slice FA nf fc], .int .i64 0])) W := by
     refine ⟨_, _, q, 0, rfl, Hw3.out.trans (bW.below Hw3.out.size fun x hx => by rw [List.mem_singleton] at hx; rw [hx]; exact Nat.le_refl _), ?_, ?_, fun m hm => by have := Hsm.out m hm; omega, fun f hf => by have := Hsf.out f hf; omega, by rw [Hnm.out, Hnf.out]; have := Hct.out; omega, .inl ⟨rfl, hp⟩⟩
     ·rw [Hnm.out]
      refine own_mono (own_but P13.out bW fun k hk hm => ?_) (by omega)
      have := (P13.out.lt k hk).1
      rw [List.mem_singleton] at hm
      omega
     rw [Hnf.out]
     refine own_mono (own_but P23.out bW fun k hk hm => ?_) (by omega)
     have := (P23.out.lt k hk).1
     rw [List.mem_singleton] at hm
     omega
    have HAns := Lh hans; have HW := Lh hW
    clear hans hW bW kW hp
    go_wp2
    rw [← HW.out]
    clear HW r0 r1 rf0 rf1 x0 x1
    refine bodyPost_ret (v := .tuple #[.agg #[.slice MA nm mc, .slice FA nf fc], .int .i64 0]) (by simp [results, Tryz.results26, go_sem, *]) rfl ?_
    exact HAns.out
   have hp := HP2.out
   rw [if_neg hk] at hp
   have zk : ((ck : Int) == 0) = false := beq_eq_false_iff_ne.2 (by omega)
   have zk2 : ¬ (ck : Int) = 0 := by omega
   obtain ⟨W, hW⟩ : ∃ W, W = (w3.setCell ⟨w.heap.size, 0, none⟩ (.slice none 0 0)).setCell ⟨w.heap.size, 1, none⟩ (.slice none 0 0) := ⟨_, rfl⟩
   obtain ⟨hbW, w0c, w1c⟩ := HEnd.out w3 Hw3.out R3.out W hW
   have HP3 := Lh hp; have HW := Lh hW; have HbW := Lh hbW; have Hk := Lh hk
   clear hp hW hbW hk
   go_wp2
   rw [← HW.out]
   clear HW r0 r1 rf0 rf1 x0 x1
   refine bodyPost_ret (v := .tuple #[.agg #[.slice none 0 0, .slice none 0 0], .int .i64 ck]) (by simp [results, Tryz.results26, go_sem, *]) rfl ?_
   exact QParseO.err HP3.out Hk.out HbW.out
end Go.Proofs.YtecejnilajbdpaaGreatDoor
namespace Garner
open Go
theorem ix_nil (c : UInt8) : Lib.index [] [c] = -1 := rfl
theorem ix_eq (c : UInt8) (r : Bs) : Lib.index (c :: r) [c] = 0 := by simp [Lib.index]
theorem ix_ne {x c : UInt8} (r : Bs) (h : x ≠ c) : Lib.index (x :: r) [c] = if Lib.index r [c] = -1 then -1 else Lib.index r [c] + 1 := by
 have hn : ([c].isPrefixOf (x :: r)) = false := by
  have hcx : (c == x) = false := beq_eq_false_iff_ne.2 (Ne.symm h)
  simp [List.isPrefixOf, hcx]
 rw [Lib.index, if_neg (by rw [hn]; decide)]
 by_cases e : Lib.index r [c] = -1
 ·rw [if_pos (by simp [e]), if_pos e]
 rw [if_neg (by simp [e]), if_neg e]
def subP (c : UInt8) (n : Bs) (l : Bs) : Bs := l.flatMap fun x => if x = c then n else [x]
theorem replaceK_sub (c : UInt8) (n : Bs) : ∀ (l : Bs) (k : Nat), l.count c ≤ k → Lib.replaceK [c] n k l = subP c n l
 | [], 0, _ => rfl
 | [], k + 1, _ => by
  rw [Lib.replaceK, ix_nil]
  rfl
 | x :: r, k, h => by
  by_cases hx : x = c
  ·subst hx
   rw [List.count_cons_self] at h
   obtain ⟨k', rfl⟩ : ∃ k', k = k' + 1 := ⟨k - 1, by omega⟩
   rw [Lib.replaceK, ix_eq, if_neg (by decide), subP, List.flatMap_cons, if_pos rfl]
   simp only [Int.toNat_zero, List.take_zero, List.length_singleton, Nat.zero_add, List.drop_succ_cons, List.drop_zero]
   rw [replaceK_sub x n r k' (by omega)]
   rfl
  have h2 : r.count c ≤ k := by rwa [List.count_cons_of_ne hx] at h
  have ih := replaceK_sub c n r k h2
  rw [subP, List.flatMap_cons, if_neg hx]
  show _ = x :: subP c n r
  rw [← ih]
  cases k with
  | zero => rfl
  | succ k' =>
   rw [Lib.replaceK, Lib.replaceK, ix_ne r hx]
   have hge := Lib.index_ge r [c]
   by_cases e : Lib.index r [c] = -1
   ·rw [if_pos e, if_pos (by decide), if_pos (by simp [e])]
   rw [if_neg e, if_neg (by simp; omega), if_neg (by simp [e])]
   have e2 : (Lib.index r [c] + 1).toNat = (Lib.index r [c]).toNat + 1 := by omega
   simp [e2]
theorem replace_sub (c : UInt8) (n l : Bs) (h : n.length = 2) : Lib.replaceAll l [c] n = subP c n l := by
 unfold Lib.replaceAll Lib.replace Lib.replaceNum
 rw [if_neg (fun e => by have := congrArg List.length (beq_iff_eq.1 e); simp [h] at this), if_pos (.inl (by decide))]
 exact replaceK_sub c n l _ (by rw [Lib.count_one]; exact Nat.le_refl _)
theorem subP_len (c : UInt8) (n l : Bs) (h : n.length = 2) : (subP c n l).length ≤ 2 * l.length := by
 induction l with
 | nil => exact Nat.le_refl _
 | cons x r ih =>
  show ((if x = c then n else [x]) ++ subP c n r).length ≤ _
  rw [List.length_append, List.length_cons]
  split
  ·omega
  rw [List.length_singleton]; omega
theorem esc_sub (s : Bs) : subP 10 [92, 110] (subP 34 [92, 34] (subP 92 [92, 92] s)) = escP s := by
 unfold subP escP
 rw [List.flatMap_assoc, List.flatMap_assoc]
 congr 1
 funext c
 unfold esc1
 by_cases h92 : c = 92
 ·subst h92; decide
 by_cases h34 : c = 34
 ·subst h34; decide
 by_cases h10 : c = 10
 ·subst h10; decide
 simp [h92, h34, h10]
end Garner
namespace Go.Proofs.YtecejnilajbdpaaGreatDoor
open Go.RowKit Go.Shelf Garner
theorem cSub (c : UInt8) (n l : Bs) (w : World) (hL : Lt w) (h2 : n.length = 2) (hl : l.length < 4294967281) :
  Calls Tryz.prog 83 #[str l, .string ⟨#[c]⟩, .string ⟨n.toArray⟩] w fun e w' => e = .returned (str (subP c n l)) ∧ Below w.heap.size w w' := by
 obtain ⟨m, hm⟩ := hL.m
 have hc : Lib.countB ⟨l.toArray⟩ ⟨[c].toArray⟩ ≤ l.length := by
  show Lib.count l [c] ≤ l.length
  rw [Lib.count_one]; exact List.count_le_length
 refine (Tryz.strings_ReplaceAll ⟨l.toArray⟩ ⟨[c].toArray⟩ ⟨n.toArray⟩ m w (by rw [str_size]; exact hl) hm (by rw [str_size]; simp) ?_).mono ?_
 ·rw [str_size, str_size, h2]
  omega
 rintro e w' ⟨rfl, hd⟩
 refine ⟨?_, hd⟩
 show Ending.returned (str (Lib.replaceAll l [c] n)) = _
 rw [replace_sub c n l h2]
theorem bytes_app (a b : Bs) : (⟨a.toArray⟩ : ByteArray) ++ ⟨b.toArray⟩ = ⟨(a ++ b).toArray⟩ := by
 apply ByteArray.ext
 rw [ByteArray.data_append]
 simp
theorem vQuoted (s : Bs) (w : World) (hL : Lt w) (hl : s.length ≤ 1000000000) :
  Calls Tryz.prog 57 #[str s] w fun e w' => e = .returned (str (quoteP s)) ∧ Below w.heap.size w w' := by
 have l3 := subP_len 10 [92, 110] (subP 34 [92, 34] (subP 92 [92, 92] s)) rfl
 rw [esc_sub] at l3
 have l1 := subP_len 92 [92, 92] s rfl
 have l2 := subP_len 34 [92, 34] (subP 92 [92, 92] s) rfl
 have hes := esc_sub s
 have z3 : (⟨(escP s).toArray⟩ : ByteArray).size ≤ 8000000000 := by rw [str_size]; omega
 obtain ⟨S0, h0⟩ : ∃ S0 : ByteArray, S0 = ⟨s.toArray⟩ := ⟨_, rfl⟩
 obtain ⟨s1, hs1⟩ : ∃ s1, subP 92 [92, 92] s = s1 := ⟨_, rfl⟩
 rw [hs1] at l1 l2 l3 hes
 obtain ⟨s2, hs2⟩ : ∃ s2, subP 34 [92, 34] s1 = s2 := ⟨_, rfl⟩
 rw [hs2] at l2 l3 hes
 have c1 := cSub 92 [92, 92] s w hL rfl (by omega)
 rw [hs1] at c1
 have c2 := fun (u : World) (hu : Below w.heap.size w u) => cSub 34 [92, 34] s1 u (hL.below hu) rfl (by omega)
 rw [hs2] at c2
 have c3 := fun (u : World) (hu : Below w.heap.size w u) => cSub 10 [92, 110] s2 u (hL.below hu) rfl (by omega)
 rw [hes] at c3
 obtain ⟨S1, h1⟩ : ∃ S1 : ByteArray, S1 = ⟨s1.toArray⟩ := ⟨_, rfl⟩
 obtain ⟨S2, h2⟩ : ∃ S2 : ByteArray, S2 = ⟨s2.toArray⟩ := ⟨_, rfl⟩
 obtain ⟨S3, h3⟩ : ∃ S3 : ByteArray, S3 = ⟨(escP s).toArray⟩ := ⟨_, rfl⟩
 unfold str at c1 c2 c3 ⊢
 rw [← h0] at c1 ⊢
 rw [← h1] at c1 c2
 rw [← h2] at c2 c3
 rw [← h3] at c3 z3
 have C1 := Lh c1; have C2 := Lh c2; have C3 := Lh c3; have H3 := Lh h3
 clear c1 c2 c3 h0 h1 h2 h3 hes hs1 hs2 hL l1 l2 l3
 go_enter Tryz.func57, Tryz.ntmps57
 go_wp2_with fail
 refine C1.out.mono ?_
 rintro e w1 ⟨rfl, hb1⟩
 have hc2 := C2.out w1 hb1
 have C2' := Lh hc2; have Hb1 := Lh hb1
 clear hc2 hb1 C2 C1
 go_wp2_with fail
 refine C2'.out.mono ?_
 rintro e w2 ⟨rfl, hb2⟩
 have hb := Hb1.out.trans (hb2.mono Hb1.out.size)
 have hc3 := C3.out w2 hb
 have C3' := Lh hc3; have Hb := Lh hb
 clear hc3 hb hb2 C3 C2' Hb1
 go_wp2_with fail
 refine C3'.out.mono ?_
 rintro e w3 ⟨rfl, hb3⟩
 have hb := Hb.out.trans (hb3.mono Hb.out.size)
 have Hb3 := Lh hb
 clear hb hb3 C3' Hb
 go_wp2
 go_ret
 refine ⟨?_, Hb3.out⟩
 rw [H3.out]
 have h := bytes_app [34] (escP s)
 have h' := bytes_app (34 :: escP s) [34]
 simp only [List.cons_append, List.nil_append] at h h'
 rw [quoteP]
 exact congrArg (fun x : ByteArray => Ending.returned (.string x)) ((congrArg (· ++ (⟨[34].toArray⟩ : ByteArray)) h).trans h')
end Go.Proofs.YtecejnilajbdpaaGreatDoor
namespace Garner
open Go
theorem join_C : ∀ l : List Bs, Lib.join l [44] = joinC l
 | [] => rfl
 | [x] => by simp [Lib.join, joinC, List.intercalate]
 | x :: y :: r => by
  have ih := join_C (y :: r)
  unfold Lib.join at ih ⊢
  rw [joinC, ← ih]
  simp [List.intercalate]
theorem esc_len (s : Bs) : (escP s).length ≤ 2 * s.length := by
 induction s with
 | nil => exact Nat.le_refl _
 | cons c r ih =>
  have h : (esc1 c).length ≤ 2 := by
   unfold esc1
   split
   ·simp
   split <;> simp
  show (esc1 c ++ escP r).length ≤ _
  rw [List.length_append, List.length_cons]; omega
theorem quoteP_len (s : Bs) : (quoteP s).length ≤ 2 * s.length + 2 := by
 have := esc_len s
 unfold quoteP
 simp; omega
theorem opM_len (o : Int) : (opM o).length ≤ 2 := by
 unfold opM
 by_cases h1 : o = 1
 ·rw [if_pos h1]; decide
 by_cases h2 : o = 2
 ·rw [if_neg h1, if_pos h2]; decide
 by_cases h3 : o = 3
 ·rw [if_neg h1, if_neg h2, if_pos h3]; decide
 rw [if_neg h1, if_neg h2, if_neg h3]; decide
theorem joinC_len {M : Nat} : ∀ l : List Bs, (∀ x ∈ l, x.length ≤ M) → (joinC l).length ≤ l.length * (M + 1)
 | [], _ => by simp [joinC]
 | [x], h => by have := h x (by simp); simp [joinC]; omega
 | x :: y :: r, h => by
  have h1 := h x (by simp)
  have ih := joinC_len (y :: r) fun z hz => h z (List.mem_cons_of_mem _ hz)
  rw [joinC, List.length_append, List.length_cons]
  show _ ≤ ((y :: r).length + 1) * (M + 1)
  rw [Nat.add_mul]
  omega
theorem print_pre (q : QueryP) : (123 :: (joinC (q.ms.map matT) ++ [125])) ++ (q.fs.take q.fs.length).flatMap filT = printP q := by
 rw [List.take_length]
 simp [printP]
theorem opOk_four {o : Int} (h : opOk o = true) : o = 1 ∨ o = 2 ∨ o = 3 ∨ o = 4 := by
 unfold opOk at h
 simp at h
 omega
end Garner
namespace Go.Proofs.YtecejnilajbdpaaGreatDoor
open Go.RowKit Go.Shelf Garner
theorem cJoin (l : List Bs) (B : Nat) (LA : Option Addr) (n lc : Nat) (w : World) (h : w.ownsRow B 9 1 (.slice LA n lc) n (l.map strB)) (hc : n ≤ lc) (hn : n ≤ 140737488355328) (hlen : (joinC l).length ≤ 140737488355328) :
  Calls Tryz.prog 58 #[.slice LA n lc, .string ⟨#[44]⟩] w fun e w' => e = .returned (str (joinC l)) ∧ Below w.heap.size w w' := by
 have hr := Row.of_own h
 have hl := hr.len
 rw [List.length_map] at hl
 rcases Nat.eq_zero_or_pos n with h0 | h0
 ·subst h0
  obtain rfl : l = [] := List.eq_nil_of_length_eq_zero hl
  exact (Tryz.strings_Join_none LA lc ⟨#[44]⟩ w).mono fun e w' ⟨he, hw⟩ => ⟨he, hw ▸ Below.refl _ _⟩
 obtain ⟨b, off, rfl, hb, hcs⟩ := hr.2 h0
 have hm : (l.map fun x => (⟨x.toArray⟩ : ByteArray)).map (·.data.toList) = l := by
  rw [List.map_map]; simp [Function.comp_def]
 have hJ := join_C l
 have c := Tryz.strings_Join b off lc (l.map fun x => (⟨x.toArray⟩ : ByteArray)) ⟨#[44]⟩ w (fun j x hx => ?_) hb (by rw [List.length_map]; omega) (by rw [List.length_map]; omega) (by rw [hm]; show (Lib.join l [44]).length ≤ _; rw [hJ]; exact hlen)
 ·rw [List.length_map, hl, hm] at c
  refine c.mono fun e w' ⟨he, hw⟩ => ⟨?_, hw⟩
  rw [he]
  show Ending.returned (str (Lib.join l [44])) = _
  rw [hJ]
 rw [List.getElem?_map] at hx
 obtain ⟨y, hy, rfl⟩ := Option.map_eq_some_iff.1 hx
 exact hcs j (.string ⟨y.toArray⟩) (by rw [List.getElem?_map, hy]; rfl)
def QPrintO (q : QueryP) (w : World) (e : Ending) (w' : World) : Prop := e = .returned (.tuple #[str (if checkQ q = 0 then printP q else []), .int .i64 (checkQ q : Nat)]) ∧ Below w.heap.size w w'
structure PrS (w wr : World) (q : QueryP) (MV FV v : Value) (k : Nat) : Prop where
 ow : wr.ownsRow w.heap.size 9 1 v k ((q.ms.take k).map fun m => strB (matT m))
 be : Below w.heap.size w wr
 bx : Blk wr w.heap.size 25 [MV, FV]
theorem vQPrint (q : QueryP) (MA FA : Option Addr) (nm nf cm cf : Nat) (w : World) (hL : Lt w) (hq : QueryAt w MA nm FA nf q) (hnm : nm ≤ 140737488355328) (hnf : nf ≤ 140737488355328) (hsm : ∀ m ∈ q.ms, m.name.length ≤ 10000000 ∧ m.val.length ≤ 10000000) (hsf : ∀ f ∈ q.fs, f.text.length ≤ 10000000) :
  Calls Tryz.prog 30 #[.agg #[.slice MA nm cm, .slice FA nf cf]] w fun e w' => QPrintO q w e w' := by
 obtain ⟨X, hX⟩ : ∃ X, X = w.alloc (.cells #[.slice MA nm cm, .slice FA nf cf] 25) := ⟨_, rfl⟩
 have hwX : Below w.heap.size w X := by rw [hX]; exact (Below.refl _ _).alloc (Nat.le_refl _) _
 have bX : Blk X w.heap.size 25 [.slice MA nm cm, .slice FA nf cf] := by rw [hX]; exact Blk.new w _ _
 have x0 : X.cell? ⟨w.heap.size, 0, none⟩ = some (.slice MA nm cm) := bX.cell 0
 have x1 : X.cell? ⟨w.heap.size, 1, none⟩ = some (.slice FA nf cf) := bX.cell 1
 have hch := vCheck q MA FA nm nf cm cf X (hL.below hwX) (hq.below hwX) (by omega) (by omega)
 obtain ⟨ck, hck⟩ : ∃ ck, checkQ q = ck := ⟨_, rfl⟩
 rw [hck] at hch
 have hzero : ck = 0 → ¬ (16 < nm ∨ 16 < nf) ∧ q.ms.all matOk = true ∧ q.fs.all filOk = true := fun h => by
  have h2 := check_zero (hck.trans h)
  rw [hq.nm_, hq.nf_] at h2
  exact ⟨h2.1, h2.2.1, h2.2.2.1⟩
 have HCh := Lh hch; have HQ := Lh hq; have HwX := Lh hwX; have BX := Lh bX; have HL := Lh hL; have Hck := Lh hck; have HZ := Lh hzero; have Hsm := Lh hsm; have Hsf := Lh hsf
 have Hnm := Lh hq.nm_; have Hnf := Lh hq.nf_
 clear hch hq hwX bX hL hck hzero hsm hsf
 go_enter Tryz.func30, Tryz.ntmps30
 go_upto_region 1 with fail
 rw [← hX]
 clear hX
 go_wp2_with fail
 refine HCh.out.mono ?_
 rintro e w1 ⟨rfl, hb1⟩
 have hw1 := HwX.out.trans (hb1.mono HwX.out.size)
 have b1 := BX.out.below hb1 BX.out.lt
 have y0 : w1.cell? ⟨w.heap.size, 0, none⟩ = some (.slice MA nm cm) := b1.cell 0
 have Hw1 := Lh hw1; have B1 := Lh b1
 clear hw1 b1 hb1 x0 x1 HCh BX
 by_cases hk : ck = 0
 ·subst hk
  obtain ⟨h16, hmo, hfo⟩ := HZ.out rfl
  have H16 := Lh h16; have Hmo := Lh hmo; have Hfo := Lh hfo
  have H0 : Hid (PrS w w1 q (.slice MA nm cm) (.slice FA nf cf) (.slice none 0 0) 0) := Lh ⟨World.ownsRow_nil _ _ _ _, Hw1.out, B1.out⟩
  clear h16 hmo hfo B1 Hw1 HZ
  go_wp2
  clear y0
  go_loopw [5, 19] (fun v i wr => ∃ k : Nat, k ≤ nm ∧ i = .int .i64 k ∧ Hid (PrS w wr q (.slice MA nm cm) (.slice FA nf cf) v k)) (fun _ i _ => nm - (intOf i).toNat)
  case atStart => exact ⟨0, Nat.zero_le _, rfl, H0⟩
  obtain ⟨k, hkn, rfl, hst⟩ := hrel
  obtain ⟨wo, rfl⟩ : ∃ wo : World, wo = wr := ⟨_, rfl⟩
  have wk1 := wS k (by omega)
  by_cases hlt : k < nm
  ·have z3 : (k : Int) < (nm : Int) := by omega
   obtain ⟨m, hm⟩ : ∃ m, q.ms[k]? = some m := ⟨_, List.getElem?_eq_getElem (by rw [Hnm.out]; exact hlt)⟩
   obtain ⟨b, off, rfl, hc⟩ := HQ.out.mat hm
   obtain ⟨c0, c1, c2⟩ := hc wo hst.out.be
   have hmem := List.mem_of_getElem? hm
   have hml := Hsm.out m hmem
   have hmo1 : matOk m = true := List.all_eq_true.1 Hmo.out m hmem
   have ho4 : m.op = 1 ∨ m.op = 2 ∨ m.op = 3 ∨ m.op = 4 := opOk_four (by unfold matOk at hmo1; rw [Bool.and_eq_true] at hmo1; exact hmo1.2)
   obtain ⟨N1, e1, hN1⟩ := str_form m.name
   obtain ⟨N2, e2, hN2⟩ := str_form m.val
   obtain ⟨o, ho⟩ : ∃ o, m.op = o := ⟨_, rfl⟩
   rw [e1] at c0
   rw [ho] at c1 ho4
   rw [e2] at c2
   have Hc := Lh hc; have Hm := Lh hm; have Hml := Lh hml; have Ho4 := Lh ho4; have HN1 := Lh hN1; have He2 := Lh e2; have He1 := Lh e1; have Hoo := Lh ho
   clear hc hm hml hmo1 hmem ho4 hN1 e2 e1 ho hN2
   obtain ⟨V, hV⟩ : ∃ V, V = wo.alloc (.cells #[.string N1, .int .i64 o, .string N2] 69) := ⟨_, rfl⟩
   have bV : Below wo.heap.size wo V := by rw [hV]; exact (Below.refl _ _).alloc (Nat.le_refl _) _
   have kV : Blk V wo.heap.size 69 [.string N1, .int .i64 o, .string N2] := by rw [hV]; exact Blk.new wo _ _
   have hVV := bV.drew
   have s0 : Blk V.drew wo.heap.size 69 [.string N1, .int .i64 o, .string N2] := kV.drew
   have hwV := hst.out.be.trans (hVV.mono hst.out.be.size)
   have hqd := vQuoted m.val V.drew (HL.out.below hwV) (by have := Hml.out; omega)
   obtain ⟨O, hO⟩ : ∃ O : ByteArray, O = ⟨(opM o).toArray⟩ := ⟨_, rfl⟩
   have zO : O.size ≤ 2 := by rw [hO, str_size]; rcases Ho4.out with rfl | rfl | rfl | rfl <;> decide
   have zN1 : N1.size ≤ 10000000 := by rw [HN1.out, str_size]; exact Hml.out.1
   obtain ⟨Q, hQ⟩ : ∃ Q : ByteArray, Q = ⟨(quoteP m.val).toArray⟩ := ⟨_, rfl⟩
   have zQ : Q.size ≤ 20000002 := by rw [hQ, str_size]; have := quoteP_len m.val; have := Hml.out; omega
   unfold str at hqd
   rw [← hQ, show (.string ⟨m.val.toArray⟩ : Value) = .string N2 from He2.out] at hqd
   have HVV := Lh hVV; have HQd := Lh hqd; have HwV := Lh hwV; have HO := Lh hO; have HQ2 := Lh hQ
   clear bV hVV kV hqd hwV hO hQ
   go_upto_region 8 with fail
   rw [← hV]
   clear hV c0 c1 c2
   refine rgQ (fun w' => Blk w' wo.heap.size 69 [.string N1, .int .i64 o, .string N2]) 100 (by kernel_rfl) (fun _ _ d _ _ h => by cases d <;> exact h) fun qP => ?_
   apply tkq 0 (by kernel_rfl) rfl qP s0
   ·intro w' hS'; go_simp; exact ⟨rfl, rfl⟩
   (try simp only [Act.put]); (try simp only [List.setIfInBounds_toArray]); (try simp only [List.set])
   apply tkq 1 (by kernel_rfl) rfl qP s0
   ·intro w' hS'; go_simp; exact ⟨rfl, rfl⟩
   (try simp only [Act.put]); (try simp only [List.setIfInBounds_toArray]); (try simp only [List.set])
   apply tkq 2 (v := (.string N1)) (by kernel_rfl) rfl qP s0
   ·intro w' hS'; have k := hS'.cell 0; go_simp; exact ⟨rfl, rfl⟩
   (try simp only [Act.put]); (try simp only [List.setIfInBounds_toArray]); (try simp only [List.set])
   apply tkq 3 (by kernel_rfl) rfl qP s0
   ·intro w' hS'; go_simp; exact ⟨rfl, rfl⟩
   (try simp only [Act.put]); (try simp only [List.setIfInBounds_toArray]); (try simp only [List.set])
   apply tkq 4 (by kernel_rfl) rfl qP s0
   ·intro w' hS'; go_simp; exact ⟨rfl, rfl⟩
   (try simp only [Act.put]); (try simp only [List.setIfInBounds_toArray]); (try simp only [List.set])
   apply tkq 5 (v := (.int .i64 o)) (by kernel_rfl) rfl qP s0
   ·intro w' hS'; have k := hS'.cell 1; go_simp; exact ⟨rfl, rfl⟩
   (try simp only [Act.put]); (try simp only [List.setIfInBounds_toArray]); (try simp only [List.set])
   apply tkq 6 (by kernel_rfl) rfl qP s0
   ·intro w' hS'; go_simp; exact ⟨rfl, rfl⟩
   (try simp only [Act.put]); (try simp only [List.setIfInBounds_toArray]); (try simp only [List.set])
   apply tkq 7 (v := (.string O)) (by kernel_rfl) rfl qP s0
   ·intro w' hS'
    (rw [HO.out]; rcases Ho4.out with rfl | rfl | rfl | rfl <;> (go_simp; exact ⟨rfl, rfl⟩))
   (try simp only [Act.put]); (try simp only [List.setIfInBounds_toArray]); (try simp only [List.set])
   apply tkq 8 (v := (.string (N1 ++ O))) (by kernel_rfl) rfl qP s0
   ·intro w' hS'
    (go_simp; rw [if_neg (by omega)]; exact ⟨rfl, rfl⟩)
   (try simp only [Act.put]); (try simp only [List.setIfInBounds_toArray]); (try simp only [List.set])
   apply tkq 9 (by kernel_rfl) rfl qP s0
   ·intro w' hS'; go_simp; exact ⟨rfl, rfl⟩
   (try simp only [Act.put]); (try simp only [List.setIfInBounds_toArray]); (try simp only [List.set])
   apply tkq 10 (v := (.string N2)) (by kernel_rfl) rfl qP s0
   ·intro w' hS'; have k := hS'.cell 2; go_simp; exact ⟨rfl, rfl⟩
   (try simp only [Act.put]); (try simp only [List.setIfInBounds_toArray]); (try simp only [List.set])
   refine rnL 11 (by kernel_rfl) rfl (by kernel_rfl) (fun K hK => ?_)
   go_simp
   refine HQd.out.mono ?_
   rintro e w2 ⟨rfl, hb2⟩
   have s1 := s0.below hb2 s0.lt
   have hw2 := HwV.out.trans (hb2.mono HwV.out.size)
   have hV2 := hb2
   refine hK _ _ (fun _ => s1) ?_
   clear hK K
   (try simp only [Act.put])
   apply tkq 12 (v := (.string (N1 ++ O ++ Q))) (by kernel_rfl) rfl qP s1
   ·intro w' hS'
    (go_simp; rw [if_neg (by omega)]; exact ⟨rfl, rfl⟩)
   (try simp only [Act.put]); (try simp only [List.setIfInBounds_toArray]); (try simp only [List.set])
   refine rnL 13 (by kernel_rfl) rfl (by kernel_rfl) (fun K hK => ?_)
   go_simp
   obtain ⟨T, hT⟩ : ∃ T : ByteArray, T = N1 ++ O ++ Q := ⟨_, rfl⟩
   rw [← hT]
   have hTm : strB (matT m) = .string T := by
    rw [hT, HN1.out, HO.out, HQ2.out, bytes_app, bytes_app, ← Hoo.out]
    simp [strB, matT]
   obtain ⟨Z, hZ⟩ : ∃ Z, Z = w2.alloc (.cells #[.string T] 9) := ⟨_, rfl⟩
   rw [← hZ]
   have b3Z : Below w2.heap.size w2 Z := by rw [hZ]; exact (Below.refl _ _).alloc (Nat.le_refl _) _
   have s2 := s1.below b3Z s1.lt
   have hwZ := hw2.trans (b3Z.mono hw2.size)
   have hoZ := HVV.out.trans ((hV2.trans (b3Z.mono hV2.size)).mono HVV.out.size)
   have oZ := own_below hst.out.ow hoZ
   have bZ := hst.out.bx.below hoZ hst.out.bx.lt
   have xrow : Row Z (w2.heap.size + 1) 1 (some ⟨w2.heap.size, 0, none⟩) 1 [.string T] := by rw [hZ]; exact row_newN w2 9 1 1 _ rfl
   have hlZ : w.heap.size ≤ Z.heap.size := hwZ.size
   clear hZ b3Z hoZ hT
   refine hK _ _ (fun _ => s2) ?_
   clear hK K
   (try simp only [Act.put]); (try simp only [List.setIfInBounds_toArray]); (try simp only [List.set])
   refine rnL 14 (by kernel_rfl) rfl (by kernel_rfl) (fun K hK => ?_)
   refine wp_app Z strQE rfl rfl oZ rfl xrow (by intro u hu; rw [List.mem_singleton] at hu; subst hu; rfl) (by have := H16.out; omega) hlZ ?_
   intro v8 W own8 hg8 hb8 hx8
   have s3 := s2.grown hg8 fun e => own_blk oZ s2 (by decide) (Option.mem_toList.2 e.symm)
   have hS : PrS w W q (.slice (some ⟨b, off, none⟩) nm cm) (.slice FA nf cf) v8 (k + 1) := by
    refine ⟨?_, hwZ.trans hb8, bZ.grown hg8 fun e => own_blk oZ bZ (by decide) (Option.mem_toList.2 e.symm)⟩
    rw [List.take_add_one, Hm.out, List.map_append]
    simp only [Option.toList_some, List.map_cons, List.map_nil]
    rw [hTm]
    exact own8
   have HS := Lh hS
   clear hS own8 hg8 hb8 hx8 oZ bZ xrow hlZ hwZ hTm s1 hV2
   refine hK _ _ (fun _ => s3) ?_
   clear hK K
   (try simp only [Act.put]); (try simp only [List.setIfInBounds_toArray]); (try simp only [List.set])
   refine rnL 15 (by kernel_rfl) rfl (by kernel_rfl) (fun K hK => ?_)
   go_simp
   refine hK _ _ (fun _ => s3) ?_
   clear hK K
   (try simp only [Act.put]); (try simp only [List.setIfInBounds_toArray]); (try simp only [List.set])
   refine dnL (by kernel_rfl) ?_ _
   clear s0 s2 s3
   go_wp2
   go_roundw
   case rel => exact ⟨k + 1, by omega, by first | rfl | go_num, HS⟩
   case measure => simp [intOf]; omega
  obtain rfl : k = nm := by omega
  have z3 : ¬ (k : Int) < (k : Int) := by omega
  have how := hst.out.ow
  rw [List.take_of_length_le (by rw [Hnm.out]; exact Nat.le_refl _)] at how
  obtain ⟨LA, lc, rfl, hlc⟩ := own_form how
  have hk16 : k ≤ 16 ∧ nf ≤ 16 := by have := H16.out; omega
  have hjl : (joinC (q.ms.map matT)).length ≤ 500000000 := by
   have h1 := joinC_len (M := 30000010) (q.ms.map matT) fun x hx => by
    obtain ⟨m, hm, rfl⟩ := List.mem_map.1 hx
    have h1 := Hsm.out m hm
    have h2 := quoteP_len m.val
    have h3 := opM_len m.op
    unfold matT
    rw [List.length_append, List.length_append]; omega
   rw [List.length_map, Hnm.out] at h1
   omega
  have hj := cJoin (q.ms.map matT) w.heap.size LA k lc wo (by rw [List.map_map]; exact how) hlc (by omega) (by omega)
  obtain ⟨J, hJ⟩ : ∃ J : ByteArray, J = ⟨(joinC (q.ms.map matT)).toArray⟩ := ⟨_, rfl⟩
  have zJ : J.size ≤ 500000000 := by rw [hJ, str_size]; exact hjl
  unfold str at hj
  rw [← hJ] at hj
  have HJn := Lh hj; have HJ := Lh hJ; have Hbe := Lh hst.out.be; have Hbx := Lh hst.out.bx; have H16' := Lh hk16; have Hjl := Lh hjl
  clear hj hJ how hlc hk16 hjl hst
  go_wp2_with fail
  refine HJn.out.mono ?_
  rintro e w2 ⟨rfl, hb2⟩
  have hw2 := Hbe.out.trans (hb2.mono Hbe.out.size)
  have bx2 := Hbx.out.below hb2 Hbx.out.lt
  have y1 : w2.cell? ⟨w.heap.size, 1, none⟩ = some (.slice FA nf cf) := bx2.cell 1
  have zk16 := H16'.out.2
  obtain ⟨P, hP⟩ : ∃ P : Bs, P = 123 :: (joinC (q.ms.map matT) ++ [125]) := ⟨_, rfl⟩
  have hPz : P.length ≤ 500000002 := by have := Hjl.out; rw [hP]; simp; omega
  have hPe : (⟨#[123]⟩ : ByteArray) ++ J ++ ⟨#[125]⟩ = ⟨(P ++ (q.fs.take 0).flatMap filT).toArray⟩ := by
   rw [HJ.out, hP]
   have h := bytes_app [123] (joinC (q.ms.map matT))
   have h' := bytes_app ([123] ++ joinC (q.ms.map matT)) [125]
   refine ((congrArg (· ++ (⟨[125].toArray⟩ : ByteArray)) h).trans h').trans ?_
   simp
  have H0 : Hid (Below w.heap.size w w2) := Lh hw2
  have HP := Lh hP; have HPz := Lh hPz; have HPe := Lh hPe
  clear hw2 bx2 hb2 hP hPz hPe HJn HJ Hbe Hbx
  go_upto_region 11 with fail
  obtain ⟨SP, hSP⟩ : ∃ SP : ByteArray, SP = ⟨(P ++ (q.fs.take 0).flatMap filT).toArray⟩ := ⟨_, rfl⟩
  rw [HPe.out, ← hSP]
  have HSP := Lh hSP
  clear hSP
  obtain ⟨S1, hS1⟩ : ∃ S1 : ByteArray, S1 = (⟨#[123]⟩ : ByteArray) ++ J := ⟨_, rfl⟩
  rw [← hS1]
  clear hS1
  have hpr := print_pre q
  rw [← HP.out, Hnf.out] at hpr
  have HPr := Lh hpr
  clear hpr
  go_wp2
  clear y1
  go_loopw [8, 46] (fun v i wr => ∃ j : Nat, j ≤ nf ∧ i = .int .i64 j ∧ v = .string ⟨(P ++ (q.fs.take j).flatMap filT).toArray⟩ ∧ Hid ((P ++ (q.fs.take j).flatMap filT).length ≤ 500000002 + j * 20000010) ∧ Hid (Below w.heap.size w wr)) (fun _ i _ => nf - (intOf i).toNat)
  case atStart => exact ⟨0, Nat.zero_le _, rfl, by rw [HSP.out], Lh (by simpa using HPz.out), H0⟩
  obtain ⟨j, hjn, rfl, rfl, hjl, hbe⟩ := hrel
  obtain ⟨wo, rfl⟩ : ∃ wo : World, wo = wr := ⟨_, rfl⟩
  have wk1 := wS j (by omega)
  by_cases hlt : j < nf
  ·have z4 : (j : Int) < (nf : Int) := by omega
   obtain ⟨f, hf⟩ : ∃ f, q.fs[j]? = some f := ⟨_, List.getElem?_eq_getElem (by rw [Hnf.out]; exact hlt)⟩
   obtain ⟨b, off, rfl, hc⟩ := fil_cells HQ.out.fs hf hlt
   obtain ⟨c0, c1⟩ := hc wo hbe.out
   have hmem := List.mem_of_getElem? hf
   have hml := Hsf.out f hmem
   have hmo1 : filOk f = true := List.all_eq_true.1 Hfo.out f hmem
   have ho4 : f.op = 1 ∨ f.op = 2 ∨ f.op = 3 ∨ f.op = 4 := opOk_four hmo1
   obtain ⟨N2, e2, hN2⟩ := str_form f.text
   obtain ⟨o, ho⟩ : ∃ o, f.op = o := ⟨_, rfl⟩
   rw [ho] at c0 ho4
   rw [e2] at c1
   have Hf := Lh hf; have Hml := Lh hml; have Ho4 := Lh ho4; have He2 := Lh e2; have Hoo := Lh ho
   clear hc hf hml hmo1 hmem ho4 e2 ho hN2
   obtain ⟨V, hV⟩ : ∃ V, V = wo.alloc (.cells #[.int .i64 o, .string N2] 71) := ⟨_, rfl⟩
   have bV : Below wo.heap.size wo V := by rw [hV]; exact (Below.refl _ _).alloc (Nat.le_refl _) _
   have kV : Blk V wo.heap.size 71 [.int .i64 o, .string N2] := by rw [hV]; exact Blk.new wo _ _
   have hVV := bV.drew
   have s0 : Blk V.drew wo.heap.size 71 [.int .i64 o, .string N2] := kV.drew
   have hwV := hbe.out.trans (hVV.mono hbe.out.size)
   have hqd := vQuoted f.text V.drew (HL.out.below hwV) (by have := Hml.out; omega)
   obtain ⟨O, hO⟩ : ∃ O : ByteArray, O = ⟨(opF o).toArray⟩ := ⟨_, rfl⟩
   have zO : O.size = 2 := by rw [hO, str_size]; rcases Ho4.out with rfl | rfl | rfl | rfl <;> decide
   obtain ⟨Q, hQ⟩ : ∃ Q : ByteArray, Q = ⟨(quoteP f.text).toArray⟩ := ⟨_, rfl⟩
   have zQ : Q.size ≤ 20000002 := by rw [hQ, str_size]; have := quoteP_len f.text; have := Hml.out; omega
   obtain ⟨S, hS⟩ : ∃ S : ByteArray, S = ⟨(P ++ (q.fs.take j).flatMap filT).toArray⟩ := ⟨_, rfl⟩
   have zS : S.size ≤ 900000000 := by rw [hS, str_size]; have := hjl.out; omega
   unfold str at hqd
   rw [← hQ, show (.string ⟨f.text.toArray⟩ : Value) = .string N2 from He2.out] at hqd
   have hnext : (P ++ (q.fs.take (j + 1)).flatMap filT) = (P ++ (q.fs.take j).flatMap filT) ++ filT f := by
    rw [List.take_add_one, Hf.out, List.flatMap_append]
    simp
   have hSn : S ++ ((⟨#[32]⟩ : ByteArray) ++ O ++ ⟨#[32]⟩ ++ Q) = ⟨(P ++ (q.fs.take (j + 1)).flatMap filT).toArray⟩ := by
    rw [hnext, hS, hO, hQ, ← Hoo.out]
    apply ByteArray.ext
    simp [ByteArray.data_append, filT]
   have hnl : (P ++ (q.fs.take (j + 1)).flatMap filT).length ≤ 500000002 + (j + 1) * 20000010 := by
    have h1 := quoteP_len f.text
    have h2 : (filT f).length ≤ 20000010 := by
     have h3 : (opF f.op).length ≤ 2 := by rw [Hoo.out]; rcases Ho4.out with rfl | rfl | rfl | rfl <;> decide
     have := Hml.out
     unfold filT
     simp; omega
    have := hjl.out
    rw [hnext, List.length_append]; omega
   have HQd := Lh hqd; have HwV := Lh hwV; have HO := Lh hO; have HSn := Lh hSn; have Hnl := Lh hnl
   clear bV hVV kV hqd hwV hO hQ hSn hnl hnext
   rw [← hS]
   clear hS hjl
   go_upto_region 14 with fail
   rw [← hV]
   clear hV c0 c1
   refine rgQ (fun w' => Blk w' wo.heap.size 71 [.int .i64 o, .string N2]) 100 (by kernel_rfl) (fun _ _ d _ _ h => by cases d <;> exact h) fun qP => ?_
   apply tkq 0 (by kernel_rfl) rfl qP s0
   ·intro w' hS'; go_simp; exact ⟨rfl, rfl⟩
   (try simp only [Act.put]); (try simp only [List.setIfInBounds_toArray]); (try simp only [List.set])
   apply tkq 1 (by kernel_rfl) rfl qP s0
   ·intro w' hS'; go_simp; exact ⟨rfl, rfl⟩
   (try simp only [Act.put]); (try simp only [List.setIfInBounds_toArray]); (try simp only [List.set])
   apply tkq 2 (by kernel_rfl) rfl qP s0
   ·intro w' hS'; go_simp; exact ⟨rfl, rfl⟩
   (try simp only [Act.put]); (try simp only [List.setIfInBounds_toArray]); (try simp only [List.set])
   apply tkq 3 (v := (.int .i64 o)) (by kernel_rfl) rfl qP s0
   ·intro w' hS'; have k := hS'.cell 0; go_simp; exact ⟨rfl, rfl⟩
   (try simp only [Act.put]); (try simp only [List.setIfInBounds_toArray]); (try simp only [List.set])
   apply tkq 4 (by kernel_rfl) rfl qP s0
   ·intro w' hS'; go_simp; exact ⟨rfl, rfl⟩
   (try simp only [Act.put]); (try simp only [List.setIfInBounds_toArray]); (try simp only [List.set])
   apply tkq 5 (v := (.string O)) (by kernel_rfl) rfl qP s0
   ·intro w' hS'
    (rw [HO.out]; rcases Ho4.out with rfl | rfl | rfl | rfl <;> (go_simp; exact ⟨rfl, rfl⟩))
   (try simp only [Act.put]); (try simp only [List.setIfInBounds_toArray]); (try simp only [List.set])
   apply tkq 6 (v := (.string ((⟨#[32]⟩ : ByteArray) ++ O))) (by kernel_rfl) rfl qP s0
   ·intro w' hS'
    (go_simp; (try rw [if_neg (by omega)]); exact ⟨rfl, rfl⟩)
   (try simp only [Act.put]); (try simp only [List.setIfInBounds_toArray]); (try simp only [List.set])
   apply tkq 7 (v := (.string ((⟨#[32]⟩ : ByteArray) ++ O ++ ⟨#[32]⟩))) (by kernel_rfl) rfl qP s0
   ·intro w' hS'
    (go_simp; (try rw [if_neg (by omega)]); exact ⟨rfl, rfl⟩)
   (try simp only [Act.put]); (try simp only [List.setIfInBounds_toArray]); (try simp only [List.set])
   apply tkq 8 (by kernel_rfl) rfl qP s0
   ·intro w' hS'; go_simp; exact ⟨rfl, rfl⟩
   (try simp only [Act.put]); (try simp only [List.setIfInBounds_toArray]); (try simp only [List.set])
   apply tkq 9 (v := (.string N2)) (by kernel_rfl) rfl qP s0
   ·intro w' hS'; have k := hS'.cell 1; go_simp; exact ⟨rfl, rfl⟩
   (try simp only [Act.put]); (try simp only [List.setIfInBounds_toArray]); (try simp only [List.set])
   refine rnL 10 (by kernel_rfl) rfl (by kernel_rfl) (fun K hK => ?_)
   go_simp
   refine HQd.out.mono ?_
   rintro e w3 ⟨rfl, hb3⟩
   have s1 := s0.below hb3 s0.lt
   have hw3 := HwV.out.trans (hb3.mono HwV.out.size)
   refine hK _ _ (fun _ => s1) ?_
   clear hK K
   (try simp only [Act.put])
   apply tkq 11 (v := (.string ((⟨#[32]⟩ : ByteArray) ++ O ++ ⟨#[32]⟩ ++ Q))) (by kernel_rfl) rfl qP s1
   ·intro w' hS'
    (go_simp; (try rw [if_neg (by omega)]); exact ⟨rfl, rfl⟩)
   (try simp only [Act.put]); (try simp only [List.setIfInBounds_toArray]); (try simp only [List.set])
   apply tkq 12 (v := (.string (S ++ ((⟨#[32]⟩ : ByteArray) ++ O ++ ⟨#[32]⟩ ++ Q)))) (by kernel_rfl) rfl qP s1
   ·intro w' hS'
    (go_simp; (try rw [if_neg (by omega)]); exact ⟨rfl, rfl⟩)
   (try simp only [Act.put]); (try simp only [List.setIfInBounds_toArray]); (try simp only [List.set])
   apply tkq 13 (by kernel_rfl) rfl qP s1
   ·intro w' hS'; go_simp; exact ⟨rfl, rfl⟩
   (try simp only [Act.put]); (try simp only [List.setIfInBounds_toArray]); (try simp only [List.set])
   refine dnL (by kernel_rfl) ?_ _
   rw [HSn.out]
   have Hw3 := Lh hw3
   clear s0 s1 hw3 hb3
   go_wp2
   go_roundw
   case rel => exact ⟨j + 1, by omega, by first | rfl | go_num, rfl, Hnl, Hw3⟩
   case measure => simp [intOf]; omega
  obtain rfl : j = nf := by omega
  have z4 : ¬ (j : Int) < (j : Int) := by omega
  rw [HPr.out]
  have hans : QPrintO q w (.returned (.tuple #[.string ⟨(printP q).toArray⟩, .int .i64 0])) wo := ⟨by rw [Hck.out, if_pos rfl]; rfl, hbe.out⟩
  obtain ⟨PR, hPR⟩ : ∃ PR : ByteArray, PR = ⟨(printP q).toArray⟩ := ⟨_, rfl⟩
  rw [← hPR] at hans ⊢
  have HAns := Lh hans
  clear hans hPR
  go_wp2
  refine bodyPost_ret (v := .tuple #[.string PR, .int .i64 0]) (by simp [results, Tryz.results30, go_sem]) rfl ?_
  exact HAns.out
 have zk : ((ck : Int) == 0) = false := beq_eq_false_iff_ne.2 (by omega)
 have zk2 : ¬ (ck : Int) = 0 := by omega
 have hans : QPrintO q w (.returned (.tuple #[.string ⟨#[]⟩, .int .i64 ck])) w1 := ⟨by rw [Hck.out, if_neg hk], Hw1.out⟩
 have HAns := Lh hans
 clear hans
 go_wp2
 refine bodyPost_ret (v := .tuple #[.string ⟨#[]⟩, .int .i64 ck]) (by simp [results, Tryz.results30, go_sem]) rfl ?_
 exact HAns.out
end Go.Proofs.YtecejnilajbdpaaGreatDoor
