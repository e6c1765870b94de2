import Derived.Test.YtecejnilajbdpaaGreatDoorTy46
import Derived.Test.YtecejnilajbdpaaGreatDoorTy11
import Derived.Lib.Replace
import Derived.Test.YtecejnilajbdpaaGreatDoorTy45
namespace Go.Proofs.YtecejnilajbdpaaGreatDoor
open Go.RowKit Go.Shelf Garner
def QParseO (s : Bs) (w : World) (e : Ending) (w' : World) : Prop := ∃ (V1 V2 : Value) (q : QueryP) (k : Nat), e = .returned (.tuple #[.agg #[V1, V2], .int .i64 (k : Nat)]) ∧ Below w.heap.size w w' ∧ w'.ownsRow w.heap.size 69 3 V1 q.ms.length (q.ms.flatMap MatP.cells) ∧ w'.ownsRow w.heap.size 71 2 V2 q.fs.length (q.fs.flatMap FilP.cells) ∧
 (∀ m ∈ q.ms, m.name.length ≤ 512 ∧ m.val.length ≤ 512) ∧ (∀ f ∈ q.fs, f.text.length ≤ 512) ∧ q.ms.length + q.fs.length ≤ 513 ∧ ((k = 0 ∧ parseQ s = .ok q) ∨ (k ≠ 0 ∧ parseQ s = .error k ∧ q = ⟨[], []⟩ ∧ V1 = .slice none 0 0 ∧ V2 = .slice none 0 0))
theorem QParseO.err {s : Bs} {w W : World} {k : Nat} (h : parseQ s = .error k) (hk : k ≠ 0) (hb : Below w.heap.size w W) : QParseO s w (.returned (.tuple #[.agg #[.slice none 0 0, .slice none 0 0], .int .i64 (k : Nat)])) W :=
 ⟨_, _, ⟨[], []⟩, k, rfl, hb, World.ownsRow_nil _ _ _ _, World.ownsRow_nil _ _ _ _, by simp, by simp, by simp, .inr ⟨hk, h, rfl, rfl, rfl⟩⟩
set_option maxRecDepth 100000 in
set_option maxHeartbeats 32000000 in
theorem vQParse (s : Bs) (w : World) (hL : Lt w) (hl : s.length ≤ 140737488355328) :
  Calls Tryz.prog 26 #[str s] w fun e w' => QParseO s w e w' := by
 obtain ⟨X0, hX0⟩ : ∃ X0, X0 = w.alloc (.cells #[.slice none 0 0, .slice none 0 0] 25) := ⟨_, rfl⟩
 have hwX : Below w.heap.size w X0 := by rw [hX0]; exact (Below.refl _ _).alloc (Nat.le_refl _) _
 have bX : Blk X0 w.heap.size 25 [.slice none 0 0, .slice none 0 0] := by rw [hX0]; exact Blk.new w _ _
 have hva := cValid s X0 (hL.below hwX) (by omega)
 obtain ⟨S, eS, hS⟩ := str_form s
 rw [show str s = .string S from eS] at hva ⊢
 have zS : S.size = s.length := by rw [hS]; exact str_size s
 obtain ⟨N, hN⟩ : ∃ N, s.length = N := ⟨_, rfl⟩
 rw [hN] at zS
 have hPq : parseQ s = parseQ s := rfl
 conv at hPq => rhs; unfold parseQ
 rw [hN] at hPq
 obtain ⟨vb, hvb⟩ : ∃ vb, Lib.validD s = vb := ⟨_, rfl⟩
 rw [hvb] at hva hPq
 have HVa := Lh hva; have HPq := Lh hPq; have HwX := Lh hwX; have BX := Lh bX; have HL := Lh hL; have HN := Lh hN; have HeS := Lh eS
 clear hva hPq hwX bX hL hN eS hS hvb hl
 go_enter Tryz.func26, Tryz.ntmps26
 go_upto_region 1 with fail
 rw [← hX0]
 clear hX0
 have r0 : X0.cell? ⟨w.heap.size, 0, none⟩ = some (.slice none 0 0) := BX.out.cell 0
 have r1 : X0.cell? ⟨w.heap.size, 1, none⟩ = some (.slice none 0 0) := BX.out.cell 1
 have rf0 := BX.out.frozen 0
 have rf1 := BX.out.frozen 1
 have hend : ∀ (W0 : World), Below w.heap.size w W0 → Blk W0 w.heap.size 25 [.slice none 0 0, .slice none 0 0] → ∀ W, W = (W0.setCell ⟨w.heap.size, 0, none⟩ (.slice none 0 0)).setCell ⟨w.heap.size, 1, none⟩ (.slice none 0 0) → Below w.heap.size w W ∧ W.cell? ⟨w.heap.size, 0, none⟩ = some (.slice none 0 0) ∧ W.cell? ⟨w.heap.size, 1, none⟩ = some (.slice none 0 0) := by
  rintro W0 h1 h2 W rfl
  have h3 := (h2.set_ 0 (.slice none 0 0)).set_ 1 (.slice none 0 0)
  have bW : But [w.heap.size] W0 ((W0.setCell ⟨w.heap.size, 0, none⟩ (.slice none 0 0)).setCell ⟨w.heap.size, 1, none⟩ (.slice none 0 0)) := ((But.refl _ _).setCell (by simp) _).setCell (by simp) _
  exact ⟨h1.trans (bW.below h1.size fun x hx => by rw [List.mem_singleton] at hx; rw [hx]; exact Nat.le_refl _), h3.cell 0, h3.cell 1⟩
 have HEnd := Lh hend
 clear hend
 by_cases h512 : 512 < N
 ·have z1 : (512 : Int) < (N : Int) := by omega
  have hp := HPq.out
  rw [if_pos h512] at hp
  obtain ⟨W, hW⟩ : ∃ W, W = (X0.setCell ⟨w.heap.size, 0, none⟩ (.slice none 0 0)).setCell ⟨w.heap.size, 1, none⟩ (.slice none 0 0) := ⟨_, rfl⟩
  obtain ⟨hbW, w0c, w1c⟩ := HEnd.out X0 HwX.out BX.out W hW
  have HP := Lh hp; have HW := Lh hW; have HbW := Lh hbW
  clear hp hW hbW
  go_wp2
  rw [← HW.out]
  clear HW r0 r1 rf0 rf1
  refine bodyPost_ret (v := .tuple #[.agg #[.slice none 0 0, .slice none 0 0], .int .i64 4]) (by simp [results, Tryz.results26, go_sem, *]) rfl ?_
  exact QParseO.err (k := 4) HP.out (by decide) HbW.out
 have z1 : ¬ (512 : Int) < (N : Int) := by omega
 have hPq2 := HPq.out
 rw [if_neg h512] at hPq2
 have HPq2 := Lh hPq2
 clear hPq2 HPq r0 r1 rf0 rf1
 go_wp2_with fail
 refine HVa.out.mono ?_
 rintro e w1 ⟨rfl, hb1⟩
 have hw1 := HwX.out.trans (hb1.mono HwX.out.size)
 have b1 := BX.out.below hb1 BX.out.lt
 have r0 : w1.cell? ⟨w.heap.size, 0, none⟩ = some (.slice none 0 0) := b1.cell 0
 have r1 : w1.cell? ⟨w.heap.size, 1, none⟩ = some (.slice none 0 0) := b1.cell 1
 have rf0 := b1.frozen 0
 have rf1 := b1.frozen 1
 have Hw1 := Lh hw1; have B1 := Lh b1
 clear hw1 b1 hb1 HVa BX HwX
 cases vb with
 | false =>
  have hp := HPq2.out
  rw [if_pos rfl] at hp
  obtain ⟨W, hW⟩ : ∃ W, W = (w1.setCell ⟨w.heap.size, 0, none⟩ (.slice none 0 0)).setCell ⟨w.heap.size, 1, none⟩ (.slice none 0 0) := ⟨_, rfl⟩
  obtain ⟨hbW, w0c, w1c⟩ := HEnd.out w1 Hw1.out B1.out W hW
  have HP := Lh hp; have HW := Lh hW; have HbW := Lh hbW
  clear hp hW hbW
  go_wp2
  rw [← HW.out]
  clear HW r0 r1 rf0 rf1
  refine bodyPost_ret (v := .tuple #[.agg #[.slice none 0 0, .slice none 0 0], .int .i64 8]) (by simp [results, Tryz.results26, go_sem, *]) rfl ?_
  exact QParseO.err (k := 8) HP.out (by decide) HbW.out
 | true =>
  have hp := HPq2.out
  rw [if_neg (by decide)] at hp
  obtain ⟨G, hG⟩ : ∃ G, G = w1.alloc (.cells #[.string S, .bool false] 94) := ⟨_, rfl⟩
  have hbG : Below w1.heap.size w1 G := by rw [hG]; exact (Below.refl _ _).alloc (Nat.le_refl _) _
  have kG : ScanIs G w1.heap.size s false := by rw [ScanIs, show strB s = .string S from HeS.out, hG]; exact Blk.new w1 _ _
  have hwG := Hw1.out.trans (hbG.mono Hw1.out.size)
  have bG := B1.out.below hbG B1.out.lt
  have hsg : w.heap.size < w1.heap.size := B1.out.lt
  have hsG : w1.heap.size < G.heap.size := kG.lt
  have hqu := vSQuery w w1.heap.size s G HL.out hwG Hw1.out.size kG (by have := HN.out; omega)
  have HP := Lh hp; have HwG := Lh hwG; have BG := Lh bG; have HQu := Lh hqu
  obtain ⟨g, hge⟩ : ∃ g, w1.heap.size = g := ⟨_, rfl⟩
  rw [hge] at hsg hsG HQu
  clear hp hbG kG hwG bG hqu r0 r1 rf0 rf1 HPq2 Hw1 B1
  go_upto_region 6 with fail
  rw [← hG]
  clear hG
  go_wp2_with fail
  refine HQu.out.mono ?_
  rintro e w2 ⟨q, bad, s', V1, V2, rfl, k2, bu2, o1, o2, sm, sf, hct, hqr⟩
  rw [HN.out] at sm sf hct
  have r2 := BG.out.but bu2 (by simp; omega)
  have ow2 : Below w.heap.size w w2 := HwG.out.trans (bu2.below HwG.out.size fun x hx => by rw [List.mem_singleton] at hx; rw [hx]; omega)
  obtain ⟨nm, hnm⟩ : ∃ nm, q.ms.length = nm := ⟨_, rfl⟩
  obtain ⟨nf, hnf⟩ : ∃ nf, q.fs.length = nf := ⟨_, rfl⟩
  rw [hnm] at o1
  rw [hnf] at o2
  rw [hnm, hnf] at hct
  obtain ⟨MA, mc, rfl, -⟩ := own_form o1
  obtain ⟨FA, fc, rfl, -⟩ := own_form o2
  obtain ⟨Q2, hQ2⟩ : ∃ Q2, Q2 = w2.alloc (.cells #[.slice MA nm mc, .slice FA nf fc] 25) := ⟨_, rfl⟩
  have hb2 : Below w2.heap.size w2 Q2 := by rw [hQ2]; exact (Below.refl _ _).alloc (Nat.le_refl _) _
  have bq : Blk Q2 w2.heap.size 25 [.slice MA nm mc, .slice FA nf fc] := by rw [hQ2]; exact Blk.new w2 _ _
  have hwQ : Below w.heap.size w Q2 := ow2.trans (hb2.mono ow2.size)
  have rQ := r2.below hb2 r2.lt
  have kQ := k2.below hb2 k2.lt
  have p1 := own_below o1 hb2
  have p2 := own_below o2 hb2
  have hqb : w.heap.size < w2.heap.size := r2.lt
  have hQA : QueryAt Q2 MA nm FA nf q := ⟨.of_own p1, .of_own p2, hnm, hnf, fun m hm => by have := sm m hm; omega, fun f hf => by have := sf f hf; omega⟩
  have hch := vCheck q MA FA nm nf mc fc Q2 (HL.out.below hwQ) hQA (by omega) (by omega)
  have HCh := Lh hch; have HwQ := Lh hwQ; have RQ := Lh rQ; have KQ := Lh kQ; have P1 := Lh p1; have P2 := Lh p2; have BQ := Lh bq; have Hnm := Lh hnm; have Hnf := Lh hnf; have Hsm := Lh sm; have Hsf := Lh sf; have Hct := Lh hct; have Hqr := Lh hqr
  obtain ⟨qb, hqbe⟩ : ∃ qb, w2.heap.size = qb := ⟨_, rfl⟩
  rw [hqbe] at hqb BQ
  have c1 : Q2.cell? ⟨g, 1, none⟩ = some (.bool bad) := kQ.cell 1
  clear hch hwQ rQ kQ p1 p2 bq hnm hnf sm sf hct hqr hQA hb2 ow2 r2 k2 bu2 o1 o2 HQu BG
  go_upto_region 7 with fail
  rw [← hQ2]
  clear hQ2
  cases bad with
  | true =>
   have hp : parseQ s = .error 50 := by
    have h := HP.out
    rcases Hqr.out with ⟨h1, -⟩ | ⟨-, h2⟩
    ·cases h1
    ·rw [h2] at h; exact h
   have r0 : Q2.cell? ⟨w.heap.size, 0, none⟩ = some (.slice none 0 0) := RQ.out.cell 0
   have r1 : Q2.cell? ⟨w.heap.size, 1, none⟩ = some (.slice none 0 0) := RQ.out.cell 1
   have rf0 := RQ.out.frozen 0
   have rf1 := RQ.out.frozen 1
   obtain ⟨W, hW⟩ : ∃ W, W = (Q2.setCell ⟨w.heap.size, 0, none⟩ (.slice none 0 0)).setCell ⟨w.heap.size, 1, none⟩ (.slice none 0 0) := ⟨_, rfl⟩
   obtain ⟨hbW, w0c, w1c⟩ := HEnd.out Q2 HwQ.out RQ.out W hW
   have HP2 := Lh hp; have HW := Lh hW; have HbW := Lh hbW
   clear hp hW hbW
   go_wp2
   rw [← HW.out]
   clear HW r0 r1 rf0 rf1 c1
   refine bodyPost_ret (v := .tuple #[.agg #[.slice none 0 0, .slice none 0 0], .int .i64 50]) (by simp [results, Tryz.results26, go_sem, *]) rfl ?_
   exact QParseO.err (k := 50) HP2.out (by decide) HbW.out
  | false =>
   have hqr : (toks s).bind queryR = some q := by
    rcases Hqr.out with ⟨-, h2⟩ | ⟨h1, -⟩
    ·exact h2
    ·cases h1
   have hp := HP.out
   rw [hqr] at hp
   simp only at hp
   obtain ⟨ck, hck⟩ : ∃ ck, checkQ q = ck := ⟨_, rfl⟩
   have hch := HCh.out
   rw [hck] at hp hch
   have HP2 := Lh hp; have HCh2 := Lh hch
   have q0 : Q2.cell? ⟨qb, 0, none⟩ = some (.slice MA nm mc) := BQ.out.cell 0
   have q1 : Q2.cell? ⟨qb, 1, none⟩ = some (.slice FA nf fc) := BQ.out.cell 1
   clear hp hch hqr hck HCh HP Hqr
   go_wp2_with fail
   refine HCh2.out.mono ?_
   rintro e w3 ⟨rfl, hb3⟩
   have hw3 := HwQ.out.trans (hb3.mono HwQ.out.size)
   have r3 := RQ.out.below hb3 RQ.out.lt
   have b3 := BQ.out.below hb3 BQ.out.lt
   have p1 := own_below P1.out hb3
   have p2 := own_below P2.out hb3
   have r0 : w3.cell? ⟨w.heap.size, 0, none⟩ = some (.slice none 0 0) := r3.cell 0
   have r1 : w3.cell? ⟨w.heap.size, 1, none⟩ = some (.slice none 0 0) := r3.cell 1
   have rf0 := r3.frozen 0
   have rf1 := r3.frozen 1
   have x0 : w3.cell? ⟨qb, 0, none⟩ = some (.slice MA nm mc) := b3.cell 0
   have x1 : w3.cell? ⟨qb, 1, none⟩ = some (.slice FA nf fc) := b3.cell 1
   have Hw3 := Lh hw3; have R3 := Lh r3; have P13 := Lh p1; have P23 := Lh p2
   clear hw3 r3 b3 p1 p2 q0 q1 c1 hb3 HCh2 RQ BQ P1 P2 KQ HwQ
   by_cases hk : ck = 0
   ·subst hk
    have hp := HP2.out
    rw [if_pos rfl] at hp
    obtain ⟨W, hW⟩ : ∃ W, W = (w3.setCell ⟨w.heap.size, 0, none⟩ (.slice MA nm mc)).setCell ⟨w.heap.size, 1, none⟩ (.slice FA nf fc) := ⟨_, rfl⟩
    have bW : But [w.heap.size] w3 W := by rw [hW]; exact ((But.refl _ _).setCell (by simp) _).setCell (by simp) _
    have kW : Blk W w.heap.size 25 [.slice MA nm mc, .slice FA nf fc] := by rw [hW]; exact (R3.out.set_ 0 _).set_ 1 _
    have w0c : W.cell? ⟨w.heap.size, 0, none⟩ = some (.slice MA nm mc) := kW.cell 0
    have w1c : W.cell? ⟨w.heap.size, 1, none⟩ = some (.slice FA nf fc) := kW.cell 1
    have hans : QParseO s w (.returned (.tuple #[.agg #[.slice MA nm mc, .slice FA nf fc], .int .i64 0])) W := by
     refine ⟨_, _, q, 0, rfl, Hw3.out.trans (bW.below Hw3.out.size fun x hx => by rw [List.mem_singleton] at hx; rw [hx]; exact Nat.le_refl _), ?_, ?_, fun m hm => by have := Hsm.out m hm; omega, fun f hf => by have := Hsf.out f hf; omega, by rw [Hnm.out, Hnf.out]; have := Hct.out; omega, .inl ⟨rfl, hp⟩⟩
     ·rw [Hnm.out]
      refine own_mono (own_but P13.out bW fun k hk hm => ?_) (by omega)
      have := (P13.out.lt k hk).1
      rw [List.mem_singleton] at hm
      omega
     ·rw [Hnf.out]
      refine own_mono (own_but P23.out bW fun k hk hm => ?_) (by omega)
      have := (P23.out.lt k hk).1
      rw [List.mem_singleton] at hm
      omega
    have HAns := Lh hans; have HW := Lh hW
    clear hans hW bW kW hp
    go_wp2
    rw [← HW.out]
    clear HW r0 r1 rf0 rf1 x0 x1
    refine bodyPost_ret (v := .tuple #[.agg #[.slice MA nm mc, .slice FA nf fc], .int .i64 0]) (by simp [results, Tryz.results26, go_sem, *]) rfl ?_
    exact HAns.out
   ·have hp := HP2.out
    rw [if_neg hk] at hp
    have zk : ((ck : Int) == 0) = false := beq_eq_false_iff_ne.2 (by omega)
    have zk2 : ¬ (ck : Int) = 0 := by omega
    obtain ⟨W, hW⟩ : ∃ W, W = (w3.setCell ⟨w.heap.size, 0, none⟩ (.slice none 0 0)).setCell ⟨w.heap.size, 1, none⟩ (.slice none 0 0) := ⟨_, rfl⟩
    obtain ⟨hbW, w0c, w1c⟩ := HEnd.out w3 Hw3.out R3.out W hW
    have HP3 := Lh hp; have HW := Lh hW; have HbW := Lh hbW; have Hk := Lh hk
    clear hp hW hbW hk
    go_wp2
    rw [← HW.out]
    clear HW r0 r1 rf0 rf1 x0 x1
    refine bodyPost_ret (v := .tuple #[.agg #[.slice none 0 0, .slice none 0 0], .int .i64 ck]) (by simp [results, Tryz.results26, go_sem, *]) rfl ?_
    exact QParseO.err HP3.out Hk.out HbW.out
end Go.Proofs.YtecejnilajbdpaaGreatDoor
namespace Garner
open Go
theorem ix_nil (c : UInt8) : Lib.index [] [c] = -1 := rfl
theorem ix_eq (c : UInt8) (r : Bs) : Lib.index (c :: r) [c] = 0 := by simp [Lib.index]
theorem ix_ne {x c : UInt8} (r : Bs) (h : x ≠ c) : Lib.index (x :: r) [c] = if Lib.index r [c] = -1 then -1 else Lib.index r [c] + 1 := by
 have hn : ([c].isPrefixOf (x :: r)) = false := by
  have hcx : (c == x) = false := beq_eq_false_iff_ne.2 (Ne.symm h)
  simp [List.isPrefixOf, hcx]
 rw [Lib.index, if_neg (by rw [hn]; decide)]
 by_cases e : Lib.index r [c] = -1
 ·rw [if_pos (by simp [e]), if_pos e]
 ·rw [if_neg (by simp [e]), if_neg e]
def subP (c : UInt8) (n : Bs) (l : Bs) : Bs := l.flatMap fun x => if x = c then n else [x]
theorem replaceK_sub (c : UInt8) (n : Bs) : ∀ (l : Bs) (k : Nat), l.count c ≤ k → Lib.replaceK [c] n k l = subP c n l
 | [], 0, _ => rfl
 | [], k + 1, _ => by
  rw [Lib.replaceK, ix_nil]
  rfl
 | x :: r, k, h => by
  by_cases hx : x = c
  ·subst hx
   rw [List.count_cons_self] at h
   obtain ⟨k', rfl⟩ : ∃ k', k = k' + 1 := ⟨k - 1, by omega⟩
   rw [Lib.replaceK, ix_eq, if_neg (by decide), subP, List.flatMap_cons, if_pos rfl]
   simp only [Int.toNat_zero, List.take_zero, List.length_singleton, Nat.zero_add, List.drop_succ_cons, List.drop_zero]
   rw [replaceK_sub x n r k' (by omega)]
   rfl
  ·have h2 : r.count c ≤ k := by rwa [List.count_cons_of_ne hx] at h
   have ih := replaceK_sub c n r k h2
   rw [subP, List.flatMap_cons, if_neg hx]
   show _ = x :: subP c n r
   rw [← ih]
   cases k with
   | zero => rfl
   | succ k' =>
    rw [Lib.replaceK, Lib.replaceK, ix_ne r hx]
    have hge := Lib.index_ge r [c]
    by_cases e : Lib.index r [c] = -1
    ·rw [if_pos e, if_pos (by decide), if_pos (by simp [e])]
    ·rw [if_neg e, if_neg (by simp; omega), if_neg (by simp [e])]
     have e2 : (Lib.index r [c] + 1).toNat = (Lib.index r [c]).toNat + 1 := by omega
     simp [e2]
theorem replace_sub (c : UInt8) (n l : Bs) (h : n.length = 2) : Lib.replaceAll l [c] n = subP c n l := by
 unfold Lib.replaceAll Lib.replace Lib.replaceNum
 rw [if_neg (fun e => by have := congrArg List.length (beq_iff_eq.1 e); simp [h] at this), if_pos (.inl (by decide))]
 exact replaceK_sub c n l _ (by rw [Lib.count_one]; exact Nat.le_refl _)
theorem subP_len (c : UInt8) (n l : Bs) (h : n.length = 2) : (subP c n l).length ≤ 2 * l.length := by
 induction l with
 | nil => exact Nat.le_refl _
 | cons x r ih =>
  show ((if x = c then n else [x]) ++ subP c n r).length ≤ _
  rw [List.length_append, List.length_cons]
  split
  ·omega
  ·rw [List.length_singleton]; omega
theorem esc_sub (s : Bs) : subP 10 [92, 110] (subP 34 [92, 34] (subP 92 [92, 92] s)) = escP s := by
 unfold subP escP
 rw [List.flatMap_assoc, List.flatMap_assoc]
 congr 1
 funext c
 unfold esc1
 by_cases h92 : c = 92
 ·subst h92; decide
 by_cases h34 : c = 34
 ·subst h34; decide
 by_cases h10 : c = 10
 ·subst h10; decide
 simp [h92, h34, h10]
end Garner
namespace Go.Proofs.YtecejnilajbdpaaGreatDoor
open Go.RowKit Go.Shelf Garner
theorem cSub (c : UInt8) (n l : Bs) (w : World) (hL : Lt w) (h2 : n.length = 2) (hl : l.length < 4294967281) :
  Calls Tryz.prog 83 #[str l, .string ⟨#[c]⟩, .string ⟨n.toArray⟩] w fun e w' => e = .returned (str (subP c n l)) ∧ Below w.heap.size w w' := by
 obtain ⟨m, hm⟩ := hL.m
 have hc : Lib.countB ⟨l.toArray⟩ ⟨[c].toArray⟩ ≤ l.length := by
  show Lib.count l [c] ≤ l.length
  rw [Lib.count_one]; exact List.count_le_length
 refine (Tryz.strings_ReplaceAll ⟨l.toArray⟩ ⟨[c].toArray⟩ ⟨n.toArray⟩ m w (by rw [str_size]; exact hl) hm (by rw [str_size]; simp) ?_).mono ?_
 ·rw [str_size, str_size, h2]
  omega
 rintro e w' ⟨rfl, hd⟩
 refine ⟨?_, hd⟩
 show Ending.returned (str (Lib.replaceAll l [c] n)) = _
 rw [replace_sub c n l h2]
theorem bytes_app (a b : Bs) : (⟨a.toArray⟩ : ByteArray) ++ ⟨b.toArray⟩ = ⟨(a ++ b).toArray⟩ := by
 apply ByteArray.ext
 rw [ByteArray.data_append]
 simp
set_option maxRecDepth 100000 in
set_option maxHeartbeats 4000000 in
theorem vQuoted (s : Bs) (w : World) (hL : Lt w) (hl : s.length ≤ 1000000000) :
  Calls Tryz.prog 57 #[str s] w fun e w' => e = .returned (str (quoteP s)) ∧ Below w.heap.size w w' := by
 have l3 := subP_len 10 [92, 110] (subP 34 [92, 34] (subP 92 [92, 92] s)) rfl
 rw [esc_sub] at l3
 have l1 := subP_len 92 [92, 92] s rfl
 have l2 := subP_len 34 [92, 34] (subP 92 [92, 92] s) rfl
 have hes := esc_sub s
 have z3 : (⟨(escP s).toArray⟩ : ByteArray).size ≤ 8000000000 := by rw [str_size]; omega
 obtain ⟨S0, h0⟩ : ∃ S0 : ByteArray, S0 = ⟨s.toArray⟩ := ⟨_, rfl⟩
 obtain ⟨s1, hs1⟩ : ∃ s1, subP 92 [92, 92] s = s1 := ⟨_, rfl⟩
 rw [hs1] at l1 l2 l3 hes
 obtain ⟨s2, hs2⟩ : ∃ s2, subP 34 [92, 34] s1 = s2 := ⟨_, rfl⟩
 rw [hs2] at l2 l3 hes
 have c1 := cSub 92 [92, 92] s w hL rfl (by omega)
 rw [hs1] at c1
 have c2 := fun (u : World) (hu : Below w.heap.size w u) => cSub 34 [92, 34] s1 u (hL.below hu) rfl (by omega)
 rw [hs2] at c2
 have c3 := fun (u : World) (hu : Below w.heap.size w u) => cSub 10 [92, 110] s2 u (hL.below hu) rfl (by omega)
 rw [hes] at c3
 obtain ⟨S1, h1⟩ : ∃ S1 : ByteArray, S1 = ⟨s1.toArray⟩ := ⟨_, rfl⟩
 obtain ⟨S2, h2⟩ : ∃ S2 : ByteArray, S2 = ⟨s2.toArray⟩ := ⟨_, rfl⟩
 obtain ⟨S3, h3⟩ : ∃ S3 : ByteArray, S3 = ⟨(escP s).toArray⟩ := ⟨_, rfl⟩
 unfold str at c1 c2 c3 ⊢
 rw [← h0] at c1 ⊢
 rw [← h1] at c1 c2
 rw [← h2] at c2 c3
 rw [← h3] at c3 z3
 have C1 := Lh c1; have C2 := Lh c2; have C3 := Lh c3; have H3 := Lh h3
 clear c1 c2 c3 h0 h1 h2 h3 hes hs1 hs2 hL l1 l2 l3
 go_enter Tryz.func57, Tryz.ntmps57
 go_wp2_with fail
 refine C1.out.mono ?_
 rintro e w1 ⟨rfl, hb1⟩
 have hc2 := C2.out w1 hb1
 have C2' := Lh hc2; have Hb1 := Lh hb1
 clear hc2 hb1 C2 C1
 go_wp2_with fail
 refine C2'.out.mono ?_
 rintro e w2 ⟨rfl, hb2⟩
 have hb := Hb1.out.trans (hb2.mono Hb1.out.size)
 have hc3 := C3.out w2 hb
 have C3' := Lh hc3; have Hb := Lh hb
 clear hc3 hb hb2 C3 C2' Hb1
 go_wp2_with fail
 refine C3'.out.mono ?_
 rintro e w3 ⟨rfl, hb3⟩
 have hb := Hb.out.trans (hb3.mono Hb.out.size)
 have Hb3 := Lh hb
 clear hb hb3 C3' Hb
 go_wp2
 go_ret
 refine ⟨?_, Hb3.out⟩
 rw [H3.out]
 have h := bytes_app [34] (escP s)
 have h' := bytes_app (34 :: escP s) [34]
 simp only [List.cons_append, List.nil_append] at h h'
 rw [quoteP]
 exact congrArg (fun x : ByteArray => Ending.returned (.string x)) ((congrArg (· ++ (⟨[34].toArray⟩ : ByteArray)) h).trans h')
end Go.Proofs.YtecejnilajbdpaaGreatDoor
namespace Garner
open Go
def TqI (S : Bs) (p : Nat) (b : Bs) (i : Nat) : Prop := textG (S.drop p) = (textG (S.drop i)).map fun x => (b ++ x.1, x.2)
section
variable {S b : Bs} {p i j : Nat} {c : UInt8}
theorem TqI.start (S : Bs) (p : Nat) : TqI S p [] p := by unfold TqI; cases textG (S.drop p) <;> rfl
theorem TqI.add (h : TqI S p b i) (e : textG (S.drop i) = (textG (S.drop j)).map fun x => (c :: x.1, x.2)) : TqI S p (b ++ [c]) j := by
 unfold TqI at h ⊢
 rw [h, e]
 cases textG (S.drop j) <;> simp
theorem TqI.no (h : TqI S p b i) (e : textG (S.drop i) = none) : textG (S.drop p) = none := by
 unfold TqI at h
 rw [h, e]; rfl
theorem TqI.fin (h : TqI S p b i) (e : textG (S.drop i) = some ([], S.drop (i + 1))) : textG (S.drop p) = some (b, S.drop (i + 1)) := by
 unfold TqI at h
 rw [h, e]; simp
end
theorem one_ext {S : ByteArray} {l : Bs} {k : Nat} {c : UInt8} (hS : S = ⟨l.toArray⟩) (h : l[k]? = some c) : S.extract k (k + 1) = ⟨#[c]⟩ := by
 rw [hS]
 apply ByteArray.ext
 apply Array.toList_inj.1
 obtain ⟨h1, h2⟩ := List.getElem?_eq_some_iff.1 h
 simp [ByteArray.extract_mk]
 rw [List.drop_eq_getElem_cons h1, h2]
 simp
theorem str_ne {T : ByteArray} {t u : Bs} (hT : T = ⟨t.toArray⟩) (h : t ≠ u) : (T.toList == u) = false ∧ ¬ T.toList = u := by
 have e : T.toList = t := by rw [hT]; simp
 rw [e]
 exact ⟨beq_eq_false_iff_ne.2 h, h⟩
end Garner
namespace Go.Proofs.YtecejnilajbdpaaGreatDoor
open Go.RowKit Go.Shelf Garner
theorem snoc_b (b : Bs) (c : UInt8) : (⟨b.toArray⟩ : ByteArray) ++ ⟨#[c]⟩ = ⟨(b ++ [c]).toArray⟩ := bytes_app b [c]
def QuoO (s : Bs) (p : Nat) (e : Ending) : Prop := ∃ (t : Bs) (j : Int), e = .returned (.tuple #[strB t, .int .i64 j]) ∧ ((∃ n : Nat, j = (n : Int) ∧ p < n ∧ n ≤ s.length ∧ t.length ≤ s.length ∧ textG (s.drop (p + 1)) = some (t, s.drop n)) ∨ (j = -1 ∧ textG (s.drop (p + 1)) = none))
theorem QuoO.none_ {s : Bs} {p : Nat} (h : textG (s.drop (p + 1)) = none) : QuoO s p (.returned (.tuple #[.string ⟨#[]⟩, .int .i64 (-1)])) := ⟨[], -1, rfl, .inr ⟨rfl, h⟩⟩
set_option maxRecDepth 100000 in
set_option maxHeartbeats 16000000 in
theorem gQuoted (s : Bs) (p : Nat) (w : World) (hl : s.length ≤ 1000000000) (hp : p < s.length) :
  Calls Tryz.prog 80 #[strB s, .int .i64 p] w fun e w' => QuoO s p e ∧ w' = w := by
 obtain ⟨S, eS, hS⟩ := str_form s
 have zS : S.size = s.length := by rw [hS]; exact str_size s
 obtain ⟨N, hN⟩ : ∃ N, s.length = N := ⟨_, rfl⟩
 rw [hN] at zS hl hp
 rw [eS]
 have HS := Lh hS; have HN := Lh hN
 clear hS hN eS
 have wp1 : IntKind.i64.wrap ((p : Int) + 1) = ((p + 1 : Nat) : Int) := by rw [IntKind.wrap_i64]; omega
 go_enter Tryz.func80, Tryz.ntmps80
 go_wp2
 go_loopw [6, 7] (fun v i wr => ∃ (k : Nat) (b : Bs) (T : ByteArray), p < k ∧ k ≤ N ∧ i = .int .i64 k ∧ v = .string T ∧ Hid (T = ⟨b.toArray⟩) ∧ b.length < k ∧ Hid (TqI s (p + 1) b k) ∧ wr = w) (fun _ i _ => N - (intOf i).toNat)
 case atStart => exact ⟨p + 1, [], ⟨#[]⟩, by omega, by omega, by first | rfl | go_num, rfl, Lh rfl, by simp, Lh (TqI.start s (p + 1)), rfl⟩
 case round =>
  obtain ⟨k, b, T, hpk, hk, rfl, rfl, HT, hbl, HI, hwr⟩ := hrel
  obtain rfl : w = wr := hwr.symm
  have zT : T.size ≤ 1000000000 := by rw [HT.out, str_size]; omega
  have wk1 : IntKind.i64.wrap ((k : Int) + 1) = ((k + 1 : Nat) : Int) := by rw [IntKind.wrap_i64]; omega
  have wk2 : IntKind.i64.wrap ((k : Int) + 2) = ((k + 2 : Nat) : Int) := by rw [IntKind.wrap_i64]; omega
  have wk3 : IntKind.i64.wrap (((k + 1 : Nat) : Int) + 1) = ((k + 2 : Nat) : Int) := by rw [IntKind.wrap_i64]; omega
  have zsum : ¬ 9223372036854775807 < T.size + 1 := by omega
  by_cases hlt : k < N
  ·have z1 : (k : Int) < (N : Int) := by omega
   obtain ⟨c, hc⟩ : ∃ c, s[k]? = some c := ⟨_, List.getElem?_eq_getElem (by rw [HN.out]; exact hlt)⟩
   have htx := textG_at hc
   have hex := one_ext HS.out hc
   have HTx := Lh htx
   clear htx
   by_cases h34 : c = 34
   ·subst h34
    have hans : QuoO s p (.returned (.tuple #[.string T, .int .i64 ((k + 1 : Nat) : Int)])) := ⟨b, _, by rw [HT.out]; rfl, .inl ⟨k + 1, rfl, by omega, by rw [HN.out]; omega, by rw [HN.out]; omega, HI.out.fin (HTx.out.1 rfl)⟩⟩
    have HAn := Lh hans
    clear hans hc
    go_wp2
    go_ret2
    exact ⟨HAn.out, rfl⟩
   ·by_cases h10 : c = 10
    ·subst h10
     have HAn := Lh (QuoO.none_ (HI.out.no (HTx.out.2.1 rfl)))
     clear hc
     go_wp2
     go_ret2
     exact ⟨HAn.out, rfl⟩
    ·by_cases h92 : c = 92
     ·subst h92
      by_cases hk1 : k + 1 < N
      ·obtain ⟨d, hd⟩ : ∃ d, s[k + 1]? = some d := ⟨_, List.getElem?_eq_getElem (by rw [HN.out]; exact hk1)⟩
       obtain ⟨t1, t2, t3⟩ := HTx.out.2.2.1 rfl d hd
       have z2 : ((k + 1 : Nat) : Int) < (N : Int) := by omega
       have z3 : (k : Int) + 1 < (N : Int) := by omega
       have i2 := idx_byte (P := Tryz.prog) 9 Tryz.underlying9 S s HS.out ((k : Int) + 1) (k + 1) (by omega) (by rw [HN.out]; exact hk1) w
       rw [show byteN s (k + 1) = d.toNat by unfold byteN; rw [List.getD, hd]; rfl] at i2
       have hex2 : S.extract (k + 1) (k + 2) = ⟨#[d]⟩ := one_ext HS.out hd
       by_cases hde : d = 34
       ·subst hde
        have hst := HI.out.add (t1 (.inl rfl))
        have HSt := Lh hst
        clear hst t1 t2 t3 hd hc
        go_wp2
        go_roundw
        case rel => exact ⟨k + 2, b ++ [34], _, by omega, by omega, by first | rfl | go_num, rfl, Lh (by rw [HT.out]; exact snoc_b b 34), by rw [List.length_append]; simp; omega, HSt, (by first | rfl | trivial)⟩
        case measure => simp [intOf]; omega
       ·by_cases hdf : d = 92
        ·subst hdf
         have hst := HI.out.add (t1 (.inr rfl))
         have HSt := Lh hst
         clear hst t1 t2 t3 hd hc
         go_wp2
         go_roundw
         case rel => exact ⟨k + 2, b ++ [92], _, by omega, by omega, by first | rfl | go_num, rfl, Lh (by rw [HT.out]; exact snoc_b b 92), by rw [List.length_append]; simp; omega, HSt, (by first | rfl | trivial)⟩
         case measure => simp [intOf]; omega
        ·by_cases hdg : d = 110
         ·subst hdg
          have hst := HI.out.add (t2 rfl)
          have HSt := Lh hst
          clear hst t1 t2 t3 hd hc
          go_wp2
          go_roundw
          case rel => exact ⟨k + 2, b ++ [10], _, by omega, by omega, by first | rfl | go_num, rfl, Lh (by rw [HT.out]; exact snoc_b b 10), by rw [List.length_append]; simp; omega, HSt, (by first | rfl | trivial)⟩
          case measure => simp [intOf]; omega
         ·have HAn := Lh (QuoO.none_ (HI.out.no (t3 hde hdf hdg)))
          obtain ⟨dn, hdn⟩ : ∃ dn, d.toNat = dn := ⟨_, rfl⟩
          rw [hdn] at i2
          have n1 : ¬ (dn : Int) = 34 := fun h => hde (by apply UInt8.toNat.inj; rw [hdn]; exact_mod_cast h)
          have n2 : ¬ (dn : Int) = 92 := fun h => hdf (by apply UInt8.toNat.inj; rw [hdn]; exact_mod_cast h)
          have n3 : ¬ (dn : Int) = 110 := fun h => hdg (by apply UInt8.toNat.inj; rw [hdn]; exact_mod_cast h)
          have m1 : ((dn : Int) == 34) = false := beq_eq_false_iff_ne.2 n1
          have m2 : ((dn : Int) == 92) = false := beq_eq_false_iff_ne.2 n2
          have m3 : ((dn : Int) == 110) = false := beq_eq_false_iff_ne.2 n3
          have o1 : ((dn : Int) != 34) = true := by simp [n1]
          have o2 : ((dn : Int) != 92) = true := by simp [n2]
          have o3 : ((dn : Int) != 110) = true := by simp [n3]
          clear t1 t2 t3 hd hc hde hdf hdg hdn hex2
          go_wp2
          go_ret2
          exact ⟨HAn.out, rfl⟩
      ·have z2 : ¬ ((k + 1 : Nat) : Int) < (N : Int) := by omega
       have z3 : ¬ (k : Int) + 1 < (N : Int) := by omega
       have HAn := Lh (QuoO.none_ (HI.out.no (HTx.out.2.2.2.1 rfl (List.getElem?_eq_none_iff.2 (by rw [HN.out]; omega)))))
       clear hc
       go_wp2
       go_ret2
       exact ⟨HAn.out, rfl⟩
     ·have hst := HI.out.add (HTx.out.2.2.2.2 h34 h10 h92)
      have HSt := Lh hst
      obtain ⟨E, hE⟩ : ∃ E : ByteArray, E = ⟨#[c]⟩ := ⟨_, rfl⟩
      obtain ⟨u1, v1⟩ := str_ne (t := [c]) (u := [34]) hE (by simpa using h34)
      obtain ⟨u2, v2⟩ := str_ne (t := [c]) (u := [10]) hE (by simpa using h10)
      obtain ⟨u3, v3⟩ := str_ne (t := [c]) (u := [92]) hE (by simpa using h92)
      have zE : E.size = 1 := by rw [hE]; rfl
      rw [← hE] at hex
      have HE := Lh hE
      clear hst hc hE h34 h10 h92
      go_wp2
      go_roundw
      case rel => exact ⟨k + 1, b ++ [c], _, by omega, by omega, by first | rfl | go_num, rfl, Lh (by rw [HT.out, HE.out]; exact snoc_b b c), by rw [List.length_append]; simp; omega, HSt, (by first | rfl | trivial)⟩
      case measure => simp [intOf]; omega
  ·obtain rfl : k = N := by omega
   have z1 : ¬ (k : Int) < (k : Int) := by omega
   have hno : textG (s.drop (p + 1)) = none := HI.out.no (by rw [List.drop_eq_nil_of_le (by rw [HN.out]; exact Nat.le_refl _)]; rfl)
   have HAn := Lh (QuoO.none_ hno)
   clear hno
   go_wp2
   go_ret2
   exact ⟨HAn.out, rfl⟩
end Go.Proofs.YtecejnilajbdpaaGreatDoor
