import Derived.Test.YtecejnilajbdpaaGreatDoorTz45
set_option maxRecDepth 100000
set_option maxHeartbeats 64000000
namespace Garner
open Go
theorem opS_len {l : List Bs} {k m : Nat} {u t r : Bs} (h : opS l m u = some (k, t)) (hl : u.length ≤ r.length) : t.length ≤ r.length := by
 induction l generalizing m with
 | nil => cases h
 | cons p l ih =>
  rw [opS] at h
  split at h
  ·injection h with h; injection h with _ h; rw [← h, List.length_drop]; omega
  exact ih h
theorem op_fin {TOT : Option QueryP} {ms : List MatP} {n r1 t9 : Bs} {nb b9 hp : Bool} {ko : Nat} (h1 : nb = true → InvK TOT (fun l => KM ms (n :: l)) r1 false) (h2 : nb = false → TOT = none)
  (hP : (opS signsM 0 (skipS r1) = some (ko, t9) ∧ b9 = !nb) ∨ (opS signsM 0 (skipS r1) = none ∧ ko = 0 ∧ t9 = skipS r1 ∧ b9 = true)) (hh : Lib.hasPrefix t9 [126] = hp) :
  (ko = 1 → hp = true → ∃ t', t9 = 126 :: t' ∧ ((b9 = false ∧ nb = true ∧ (3 : Int) ≠ 0 ∧ ∃ t, opOfM t = 3 ∧ InvK TOT (fun l => KM ms (n :: t :: l)) t' false) ∨ (b9 = true ∧ TOT = none))) ∧
  ((ko = 1 → hp = false) → ((b9 = false ∧ nb = true ∧ (ko : Int) ≠ 0 ∧ ∃ t, opOfM t = (ko : Int) ∧ InvK TOT (fun l => KM ms (n :: t :: l)) t9 false) ∨ (b9 = true ∧ TOT = none))) := by
 have hno : opS signsM 0 (skipS r1) = none → TOT = none := fun h => by
  cases nb with
  | false => exact h2 rfl
  | true => exact (h1 rfl).toNone rfl fun t r e l => KM_op (opM_none h e) l
 refine ⟨fun hk hp1 => ?_, fun hk => ?_⟩
 ·subst hk
  rcases hP with ⟨h3, h4⟩ | ⟨-, h3, -⟩
  ·obtain ⟨t', ht⟩ := has_head.1 (hh.trans hp1)
   refine ⟨t', ht, ?_⟩
   cases nb with
   | false => exact .inr ⟨h4, h2 rfl⟩
   | true =>
    rcases opM_some h3 with ⟨-, k1, -⟩ | ⟨k1, -⟩ | ⟨k1, -⟩
    ·exact .inl ⟨h4, rfl, by decide, [61, 126], by decide, (h1 rfl).tok (k1 t' ht)⟩
    ·cases k1
    cases k1
  cases h3
 rcases hP with ⟨h3, h4⟩ | ⟨h3, -, -, h5⟩
 ·cases nb with
  | false => exact .inr ⟨h4, h2 rfl⟩
  | true =>
   rcases opM_some h3 with ⟨rfl, -, k1⟩ | ⟨rfl, k1⟩ | ⟨rfl, k1⟩
   ·refine .inl ⟨h4, rfl, by decide, [61], by decide, (h1 rfl).tok (k1 fun ⟨t', e⟩ => ?_)⟩
    have := hk rfl
    rw [← hh, has_head.2 ⟨t', e⟩] at this
    cases this
   ·exact .inl ⟨h4, rfl, by decide, [33, 61], by decide, (h1 rfl).tok k1⟩
   exact .inl ⟨h4, rfl, by decide, [33, 126], by decide, (h1 rfl).tok k1⟩
 exact .inr ⟨h5, hno h3⟩
theorem brace_open {s : Bs} (h : Lib.hasPrefix (skipS s) [123] = true) : (toks s).bind queryR = (toks (nextS [123] s)).bind fun l => queryR ([123] :: l) := by
 rw [toks_tok (sign_tok (by simp) h)]
 cases toks (nextS [123] s) <;> rfl
theorem brace_no {s : Bs} (h : Lib.hasPrefix (skipS s) [123] = false) : (toks s).bind queryR = none := by
 have hi : InvK ((toks s).bind queryR) queryR s false := .inl ⟨rfl, rfl⟩
 refine hi.toNone rfl fun t r e l => ?_
 simp [queryR, sign_no h e]
theorem brace_close (l : List Bs) : queryR ([123] :: [125] :: l) = KF [] [] l := by
 rw [queryR, if_pos rfl]
 show (if ([125] : Bs) = [125] then _ else _) = _
 rw [if_pos rfl]
 rfl
theorem brace_mats {TOT : Option QueryP} {s : Bs} (h : TOT = (toks s).bind fun l => queryR ([123] :: l)) (hn : Lib.hasPrefix (skipS s) [125] = false) : TOT = (toks s).bind (KM []) := by
 rw [h]
 cases e : tok1 s with
 | fin => rw [toks_fin e]; rfl
 | bad => rw [toks_bad e]; rfl
 | tok t r =>
  rw [toks_tok e]
  cases toks r with
  | none => rfl
  | some l =>
   show queryR ([123] :: t :: l) = KM [] (t :: l)
   rw [queryR, if_pos rfl]
   show (if t = [125] then _ else _) = _
   rw [if_neg (sign_no hn e)]
   unfold KM
   cases matsR (t :: l) with
   | none => rfl
   | some x => simp
theorem text_fin {TOT : Option QueryP} {ms : List MatP} {n s3 s4 t : Bs} {o : Int} {bad3 bad4 : Bool} (h : (bad3 = false ∧ nameP n = true ∧ o ≠ 0 ∧ ∃ k, opOfM k = o ∧ InvK TOT (fun l => KM ms (n :: k :: l)) s3 false) ∨ (bad3 = true ∧ TOT = none))
  (hr : (bad4 = bad3 ∧ tok1 s3 = .tok (34 :: t) s4) ∨ (bad4 = true ∧ ∀ t r, tok1 s3 ≠ .tok (34 :: t) r)) : (bad4 = false ∧ nameP n = true ∧ o ≠ 0 ∧ ∃ k, opOfM k = o ∧ InvK TOT (fun l => KM ms (n :: k :: (34 :: t) :: l)) s4 false) ∨ (bad4 = true ∧ TOT = none) := by
 rcases h with ⟨h1, h2, h3, k, h4, h5⟩ | ⟨h1, h2⟩
 ·rcases hr with ⟨h6, h7⟩ | ⟨h6, h7⟩
  ·exact .inl ⟨h6.trans h1, h2, h3, k, h4, h5.tok h7⟩
  refine .inr ⟨h6, h5.toNone rfl fun v r e l => KM_text (isT_no fun t h => ?_) l⟩
  exact h7 t r (by rw [e, h])
 rcases hr with ⟨h6, -⟩ | ⟨h6, -⟩
 ·exact .inr ⟨h6.trans h1, h2⟩
 exact .inr ⟨h6, h2⟩
theorem part_fin {TOT : Option QueryP} {ms : List MatP} {n s4 t : Bs} {o : Int} {bad4 : Bool} (h : (bad4 = false ∧ nameP n = true ∧ o ≠ 0 ∧ ∃ k, opOfM k = o ∧ InvK TOT (fun l => KM ms (n :: k :: (34 :: t) :: l)) s4 false) ∨ (bad4 = true ∧ TOT = none)) :
  (Lib.hasPrefix (skipS s4) [44] = true → InvK TOT (KM (ms ++ [⟨n, o, t⟩])) (nextS [44] s4) bad4) ∧ (Lib.hasPrefix (skipS s4) [44] = false → Lib.hasPrefix (skipS (nextS [44] s4)) [125] = true → InvK TOT (KF (ms ++ [⟨n, o, t⟩]) []) (nextS [125] (nextS [44] s4)) bad4) ∧ (Lib.hasPrefix (skipS s4) [44] = false → Lib.hasPrefix (skipS (nextS [44] s4)) [125] = false → TOT = none) := by
 rcases h with ⟨rfl, h2, h3, k, rfl, h5⟩ | ⟨rfl, h2⟩
 ·refine ⟨fun h => (h5.tok (sign_tok (by simp) h)).to (KM_comma h2 h3), fun h h' => ?_, fun h h' => ?_⟩
  ·rw [next_no h] at h' ⊢
   exact (h5.skip.tok (sign_tok (by simp) h')).to (KM_close h2 h3)
  rw [next_no h] at h'
  refine h5.toNone rfl fun d r e l => KM_end (sign_no h e) (sign_no h' (by rw [tok1_skip]; exact e)) l
 exact ⟨fun _ => .inr ⟨rfl, h2⟩, fun _ _ => .inr ⟨rfl, h2⟩, fun _ _ => h2⟩
theorem fil_fin {TOT : Option QueryP} {ms : List MatP} {fs : List FilP} {s t9 s4 t : Bs} {ko : Nat} {b9 bad4 : Bool} (h : InvK TOT (KF ms fs) s false) (hne : skipS s ≠ [])
  (hP : (opS signsF 0 (skipS s) = some (ko, t9) ∧ b9 = false) ∨ (opS signsF 0 (skipS s) = none ∧ ko = 0 ∧ t9 = skipS s ∧ b9 = true))
  (hr : (bad4 = b9 ∧ tok1 t9 = .tok (34 :: t) s4) ∨ (bad4 = true ∧ ∀ t r, tok1 t9 ≠ .tok (34 :: t) r)) : InvK TOT (KF ms (fs ++ [⟨ko, t⟩])) s4 bad4 := by
 have hb : b9 = true → bad4 = true := fun hb => by rcases hr with ⟨h, -⟩ | ⟨h, -⟩ <;> rw [h]; exact hb
 rcases hP with ⟨h1, h2⟩ | ⟨h1, -, -, h2⟩
 ·obtain ⟨u, e1, e2, e3, -⟩ := opF_some h1
  have h3 := h.tok e1
  rcases hr with ⟨h6, h7⟩ | ⟨h6, h7⟩
  ·have h8 := (h3.tok h7).to (KF_next (by rw [e2]; omega))
   rw [e2] at h8
   rw [h6, h2]; exact h8
  refine .inr ⟨h6, h3.toNone rfl fun v r e l => KF_text (isT_no fun t h => ?_) l⟩
  exact h7 t r (by rw [e, h])
 refine .inr ⟨hb h2, ?_⟩
 rcases h with ⟨-, h⟩ | ⟨h, -⟩
 ·rw [h]
  cases e : tok1 s with
  | fin => exact absurd (tok_fin.1 e) hne
  | bad => rw [toks_bad e]; rfl
  | tok u r =>
   rw [toks_tok e]
   cases toks r with
   | none => rfl
   | some l => exact KF_op (opF_none h1 e) l
 cases h
theorem all_fin {TOT : Option QueryP} {ms : List MatP} {fs : List FilP} {s : Bs} {bad : Bool} (h : InvK TOT (KF ms fs) s bad) (he : bad = true ∨ skipS s = []) : (bad = false ∧ TOT = some ⟨ms, fs⟩) ∨ (bad = true ∧ TOT = none) := by
 rcases h with ⟨h1, h2⟩ | h
 ·refine .inl ⟨h1, ?_⟩
  rcases he with he | he
  ·rw [h1] at he; cases he
  rw [h2, toks_fin (tok_fin.2 he)]; simp [KF, filsR]
 exact .inr h
end Garner
namespace Go.Proofs.YtecejnilajbdpaaGreatDoor
open Go.RowKit Go.Shelf Garner
theorem SqC.grewM {w0 wr w' : World} {g qb L : Nat} {V1 V2 : Value} {ms : List MatP} {fs : List FilP} {s : Bs} {bad : Bool} {l : List Value} (h : SqC w0 wr g qb L V1 V2 ms fs s bad) (hr : Blk wr w0.heap.size 25 l) (o : Obj) (hg : (wr.alloc o).grownBy w' V1.ownBlock) : Blk w' qb 25 [V1, V2] ∧ Blk w' w0.heap.size 25 l := by
 have hb : Below wr.heap.size wr (wr.alloc o) := (Below.refl _ _).alloc (Nat.le_refl _) _
 have hc := h.below hb
 have hr' := hr.below hb hr.lt
 exact ⟨hc.qk.grown hg fun e => own_blk hc.o1 hc.qk (by decide) (by rw [← e]; simp), hr'.grown hg fun e => own_blk hc.o1 hr' (by decide) (by rw [← e]; simp)⟩
theorem SqC.grewF {w0 wr w' : World} {g qb L : Nat} {V1 V2 : Value} {ms : List MatP} {fs : List FilP} {s : Bs} {bad : Bool} {l : List Value} (h : SqC w0 wr g qb L V1 V2 ms fs s bad) (hr : Blk wr w0.heap.size 25 l) (o : Obj) (hg : (wr.alloc o).grownBy w' V2.ownBlock) : Blk w' qb 25 [V1, V2] ∧ Blk w' w0.heap.size 25 l := by
 have hb : Below wr.heap.size wr (wr.alloc o) := (Below.refl _ _).alloc (Nat.le_refl _) _
 have hc := h.below hb
 have hr' := hr.below hb hr.lt
 exact ⟨hc.qk.grown hg fun e => own_blk hc.o2 hc.qk (by decide) (by rw [← e]; simp), hr'.grown hg fun e => own_blk hc.o2 hr' (by decide) (by rw [← e]; simp)⟩
structure SqR (w0 wr : World) (g L : Nat) (TOT : Option QueryP) (V1 V2 : Value) (q : QueryP) (s : Bs) (bad : Bool) : Prop where
 co : SqC w0 wr g (w0.heap.size + 1) L V1 V2 q.ms q.fs s bad
 rs : Blk wr w0.heap.size 25 [.slice none 0 0, .slice none 0 0]
 c1 : bad = false → q.ms.length + q.fs.length + s.length ≤ L
 c2 : q.ms.length + q.fs.length ≤ L + 1
theorem SqR.below {w0 wr w' : World} {g L : Nat} {TOT : Option QueryP} {V1 V2 : Value} {q : QueryP} {s : Bs} {bad : Bool} (h : SqR w0 wr g L TOT V1 V2 q s bad) (hb : Below wr.heap.size wr w') : SqR w0 w' g L TOT V1 V2 q s bad := ⟨h.co.below hb, h.rs.below hb h.rs.lt, h.c1, h.c2⟩
def SQueryO (g : Nat) (s0 : Bs) (w : World) (e : Ending) (w' : World) : Prop := ∃ q bad s' V1 V2, e = .returned (.agg #[V1, V2]) ∧ ScanIs w' g s' bad ∧ But [g] w w' ∧ w'.ownsRow w.heap.size 69 3 V1 q.ms.length (q.ms.flatMap MatP.cells) ∧ w'.ownsRow w.heap.size 71 2 V2 q.fs.length (q.fs.flatMap FilP.cells) ∧
 (∀ m ∈ q.ms, m.name.length ≤ s0.length ∧ m.val.length ≤ s0.length) ∧ (∀ f ∈ q.fs, f.text.length ≤ s0.length) ∧ q.ms.length + q.fs.length ≤ s0.length + 1 ∧ ((bad = false ∧ (toks s0).bind queryR = some q) ∨ (bad = true ∧ (toks s0).bind queryR = none))
theorem vSQuery (U : World) (g : Nat) (s0 : Bs) (w : World) (hL : Lt U) (hU : Below U.heap.size U w) (hUg : U.heap.size ≤ g) (h : ScanIs w g s0 false) (hl : s0.length ≤ 1000000) :
  Calls Tryz.prog 48 #[.pointer (some ⟨g, 0, none⟩)] w fun e w' => SQueryO g s0 w e w' := by
 obtain ⟨X0, hX0⟩ : ∃ X0, X0 = w.alloc (.cells #[.slice none 0 0, .slice none 0 0] 25) := ⟨_, rfl⟩
 have hw0 : Below w.heap.size w X0 := by rw [hX0]; exact (Below.refl _ _).alloc (Nat.le_refl _) _
 have b0 : Blk X0 w.heap.size 25 [.slice none 0 0, .slice none 0 0] := by rw [hX0]; exact Blk.new w _ _
 have z0 : X0.heap.size = w.heap.size + 1 := by rw [hX0]; simp
 obtain ⟨X, hX⟩ : ∃ X, X = X0.alloc (.cells #[.slice none 0 0, .slice none 0 0] 25) := ⟨_, rfl⟩
 have hX0X : Below X0.heap.size X0 X := by rw [hX]; exact (Below.refl _ _).alloc (Nat.le_refl _) _
 have b1 : Blk X (w.heap.size + 1) 25 [.slice none 0 0, .slice none 0 0] := by rw [hX, ← z0]; exact Blk.new X0 _ _
 have hwX := hw0.trans (hX0X.mono hw0.size)
 have k0 := h.below hwX h.lt
 have hgl := h.lt
 have hC0 : SqC w X g (w.heap.size + 1) s0.length (.slice none 0 0) (.slice none 0 0) [] [] s0 false := ⟨k0, b1, World.ownsRow_nil _ _ _ _, World.ownsRow_nil _ _ _ _, .of_below hwX, Nat.le_refl _, by simp, by simp, hgl, Nat.le_succ _⟩
 have hrs := b0.below hX0X b0.lt
 obtain ⟨TOT, hTOT⟩ : ∃ TOT, (toks s0).bind queryR = TOT := ⟨_, rfl⟩
 have hn1 := vSNext g s0 [123] false ⟨#[123]⟩ rfl X k0
 have hnl := nextS_len [123] s0
 have hb123 := @brace_open s0
 have hn123 := @brace_no s0
 rw [hTOT] at hb123 hn123
 obtain ⟨ob, hob⟩ : ∃ ob, Lib.hasPrefix (skipS s0) [123] = ob := ⟨_, rfl⟩
 rw [hob] at hn1 hb123 hn123
 obtain ⟨s1, hs1⟩ : ∃ s1, nextS [123] s0 = s1 := ⟨_, rfl⟩
 rw [hs1] at hn1 hb123 hnl
 have hLt : ∀ w', But [g] w w' → Lt w' := fun w' hb => hL.below (hU.trans (hb.below hU.size fun x hx => by rw [List.mem_singleton] at hx; rw [hx]; exact hUg))
 have HC0 := Lh hC0; have HRs := Lh hrs; have HN1 := Lh hn1; have HBo := Lh hb123; have HBn := Lh hn123; have HL := Lh hLt; have HwX := Lh hwX; have HTOT := Lh hTOT; have Hnl := Lh hnl
 obtain ⟨LL, hLL⟩ : ∃ LL, s0.length = LL := ⟨_, rfl⟩
 have HLL := Lh hLL
 clear hC0 hrs hn1 hb123 hn123 hL hLt hU hUg hwX hTOT hob hs1 k0 b0 b1 hw0 hX0X h hnl hgl hLL
 have z0' := Lh z0
 clear z0
 go_enter Tryz.func48, Tryz.ntmps48
 go_upto_region 2 with fail
 rw [← hX0, ← hX]
 clear hX hX0
 go_wp2_with fail
 refine HN1.out.mono ?_
 rintro e w1 ⟨rfl, k1, b1, -⟩
 have hC1 := HC0.out.scan k1 b1 (by have := Hnl.out; exact this)
 have hr1 := HRs.out.but b1 (by have := hC1.gl; simp; omega)
 have c1 : w1.cell? ⟨g, 1, none⟩ = some (.bool false) := k1.cell 1
 have f1 := k1.frozen 1
 obtain ⟨W2, hW2⟩ : ∃ W2, W2 = w1.setCell ⟨g, 1, none⟩ (.bool (!ob)) := ⟨_, rfl⟩
 have k2 : ScanIs W2 g s1 (!ob) := by rw [hW2]; exact k1.set_ 1 _
 have b2 : But [g] w1 W2 := by rw [hW2]; exact (But.refl _ _).setCell (by simp) _
 have hC2 := hC1.scan k2 b2 (Nat.le_refl _)
 have hr2 := hr1.but b2 (by have := hC1.gl; simp; omega)
 have hn2 := vSNext g s1 [125] (!ob) ⟨#[125]⟩ rfl W2 k2
 have hnl2 := nextS_len [125] s1
 obtain ⟨cb, hcb⟩ : ∃ cb, Lib.hasPrefix (skipS s1) [125] = cb := ⟨_, rfl⟩
 obtain ⟨s2, hs2⟩ : ∃ s2, nextS [125] s1 = s2 := ⟨_, rfl⟩
 have hinv : (cb = false → InvK TOT (KM []) s2 (!ob)) ∧ (cb = true → InvK TOT (KF [] []) s2 (!ob)) := by
  cases ob with
  | false => exact ⟨fun _ => InvK.ofNone (HBn.out rfl), fun _ => InvK.ofNone (HBn.out rfl)⟩
  | true =>
   have h0 := HBo.out rfl
   refine ⟨fun h => ?_, fun h => ?_⟩
   ·rw [← hs2, next_no (hcb.trans h)]
    exact InvK.skip (.inl ⟨rfl, brace_mats h0 (hcb.trans h)⟩)
   have hi : InvK TOT (fun l => queryR ([123] :: l)) s1 false := .inl ⟨rfl, h0⟩
   have ht := sign_tok (c := 125) (by simp) (hcb.trans h)
   rw [hs2] at ht
   exact (hi.tok ht).to brace_close
 rw [hcb, hs2] at hn2
 rw [hs2] at hnl2
 have HC2 := Lh hC2; have HR2 := Lh hr2; have HN2 := Lh hn2; have Hnl2 := Lh hnl2; have HInv := Lh hinv
 clear hC1 hC2 hr1 hr2 hn2 hnl2 hinv k1 b1 k2 b2 hcb hs2 HC0 HRs HN1 HBo HBn
 go_upto_region 3 with fail
 rw [← hW2]
 clear hW2 c1 f1
 go_wp2_with fail
 refine HN2.out.mono ?_
 rintro e w3 ⟨rfl, k3, b3, -⟩
 have hC3 := HC2.out.scan k3 b3 Hnl2.out
 have hr3 := HR2.out.but b3 (by have := hC3.gl; simp; omega)
 have hsl := hC3.sl
 rw [HLL.out] at hC3 hsl
 have H0 : Hid (SqR w w3 g LL TOT (.slice none 0 0) (.slice none 0 0) ⟨[], []⟩ s2 (!ob)) := Lh ⟨hC3, hr3, fun _ => by simpa using hsl, by simp⟩
 have HM0 : Hid ((!cb) = true → InvK TOT (KM []) s2 (!ob)) := Lh fun h => HInv.out.1 (by simpa using h)
 have HF0 : Hid ((!cb) = false → InvK TOT (KF [] []) s2 (!ob)) := Lh fun h => HInv.out.2 (by simpa using h)
 have hbm : (!(!cb)) = cb := by cases cb <;> rfl
 clear hC3 hr3 k3 b3 HC2 HR2 HN2 Hnl2 HInv hsl
 go_wp2
 clear hbm
 go_loopw [4] (fun mv wr => ∃ (V1 : Value) (ms : List MatP) (s : Bs) (bad mr : Bool), mv = .bool mr ∧ Hid (SqR w wr g LL TOT V1 (.slice none 0 0) ⟨ms, []⟩ s bad) ∧ Hid (mr = true → InvK TOT (KM ms) s bad) ∧ Hid (mr = false → InvK TOT (KF ms []) s bad)) (fun _ wr => scanM wr g)
 case atStart => exact ⟨_, [], s2, !ob, !cb, rfl, H0, HM0, HF0⟩
 obtain ⟨V1, ms, s, bad, mr, rfl, HR, HM, HF⟩ := hrel
 obtain ⟨wo, rfl⟩ : ∃ wo : World, wo = wr := ⟨_, rfl⟩
 have ksc := HR.out.co.sc
 have c1 : wo.cell? ⟨g, 1, none⟩ = some (.bool bad) := ksc.cell 1
 by_cases hgo : mr = true ∧ bad = false
 ·obtain ⟨rfl, rfl⟩ := hgo
  have hsm := HR.out.co.sl
  have hnm := vSName g s false wo ksc (by have := HLL.out; omega)
  obtain ⟨n, hn⟩ : ∃ n, nameHead (skipS s) = n := ⟨_, rfl⟩
  obtain ⟨r1, hr1⟩ : ∃ r1, nameRest (skipS s) = r1 := ⟨_, rfl⟩
  have hnl : n.length + r1.length ≤ s.length := by
   have h1 := congrArg List.length (name_split (skipS s))
   have h2 := skip_len s
   rw [List.length_append, hn, hr1] at h1
   omega
  have hnt := @name_tok s
  have hnn : nameP (nameHead (skipS s)) = false → ∀ t r, tok1 s = .tok t r → nameP t = false := fun h t r e => name_no h e
  rw [hn] at hnt hnn
  rw [hr1] at hnt
  unfold NameO at hnm
  rw [hn, hr1] at hnm
  obtain ⟨N, eN, hN⟩ := str_form n
  rw [eN] at hnm
  have HNm := Lh hnm; have Hnl := Lh hnl; have Hnt := Lh hnt; have Hnn := Lh hnn; have HN := Lh hN; have HeN := Lh eN
  have Hme : Hid (scanM wo g = s.length + 1) := Lh (by rw [scanM_is ksc]; rfl)
  clear hnm hnl hnt hnn hN eN hn hr1 ksc hsm
  go_wp2_with fail
  refine HNm.out.mono ?_
  rintro e w4 ⟨rfl, k4, b4, -⟩
  have hC4 := HR.out.co.scan k4 b4 (by have := Hnl.out; omega)
  have hr4 := HR.out.rs.but b4 (by have := hC4.gl; simp; omega)
  obtain ⟨M1, hM1⟩ : ∃ M1, M1 = w4.alloc (.cells #[.string N, .int .i64 0, .string ⟨#[]⟩] 69) := ⟨_, rfl⟩
  have hb5 : Below w4.heap.size w4 M1 := by rw [hM1]; exact (Below.refl _ _).alloc (Nat.le_refl _) _
  have km : Blk M1 w4.heap.size 69 [.string N, .int .i64 0, .string ⟨#[]⟩] := by rw [hM1]; exact Blk.new w4 _ _
  have hC5 := hC4.below hb5
  have hr5 := hr4.below hb5 hr4.lt
  have hV1 : ∀ k, V1.ownBlock = some k → k < w4.heap.size := fun k hk => (hC4.o1.lt k hk).2
  have hmb : w.heap.size ≤ w4.heap.size := hC4.bu.size
  have hqm : w.heap.size + 1 < w4.heap.size := hC4.qk.lt
  have m0 : M1.cell? ⟨w4.heap.size, 0, none⟩ = some (.string N) := km.cell 0
  have c5 : M1.cell? ⟨g, 1, none⟩ = some (.bool false) := hC5.sc.cell 1
  have hnd := vNamed N n HN.out M1 (HL.out M1 hC5.bu) (by have := Hnl.out; have := HR.out.co.sl; have := HLL.out; omega)
  obtain ⟨nb, hnb⟩ : ∃ nb, nameP n = nb := ⟨_, rfl⟩
  rw [hnb] at hnd
  have HC5 := Lh hC5; have HR5 := Lh hr5; have HV1 := Lh hV1; have Hmb := Lh hmb; have Hqm := Lh hqm; have HKm := Lh km; have HNd := Lh hnd; have Hnb := Lh hnb
  have HCk := Lh HR.out.c1; have HCl := Lh HR.out.c2
  obtain ⟨mb, hmbe⟩ : ∃ mb, w4.heap.size = mb := ⟨_, rfl⟩
  rw [hmbe] at HV1 Hmb Hqm HKm m0
  have HMe := Lh hmbe
  clear hC4 hr4 hb5 km hC5 hr5 hV1 hmb hqm hnd hnb k4 b4 HR HNm c1 hmbe
  go_upto_region 6 with fail
  rw [← hM1, HMe.out]
  clear hM1
  go_wp2_with fail
  refine HNd.out.mono ?_
  rintro e w6 ⟨rfl, hb6⟩
  have hC6 := HC5.out.below hb6
  have hr6 := HR5.out.below hb6 HR5.out.lt
  have km6 := HKm.out.below hb6 HKm.out.lt
  have c6 : w6.cell? ⟨g, 1, none⟩ = some (.bool false) := hC6.sc.cell 1
  have f6 := hC6.sc.frozen 1
  obtain ⟨W6, hW6⟩ : ∃ W6, W6 = w6.setCell ⟨g, 1, none⟩ (.bool (!nb)) := ⟨_, rfl⟩
  have k6 : ScanIs W6 g r1 (!nb) := by rw [hW6]; exact hC6.sc.set_ 1 _
  have b6 : But [g] w6 W6 := by rw [hW6]; exact (But.refl _ _).setCell (by simp) _
  have ngm : mb ∉ [g] := by have := hC6.gl; have := Hmb.out; simp; omega
  have hC7 := hC6.scan k6 b6 (Nat.le_refl _)
  have hr7 := hr6.but b6 (by have := hC6.gl; simp; omega)
  have km7 := km6.but b6 ngm
  have HC7 := Lh hC7; have HR7 := Lh hr7; have HKm7 := Lh km7; have Hng := Lh ngm
  clear hC6 hr6 km6 k6 b6 hC7 hr7 km7 hb6 ngm HC5 HR5 HKm HNd m0 c5
  go_upto_region 7 with fail
  rw [← hW6]
  clear hW6 c6 f6
  obtain ⟨A7, hA7⟩ : ∃ A7, A7 = W6.alloc (.cells #[.string ⟨#[61]⟩, .string ⟨#[33, 61]⟩, .string ⟨#[61, 126]⟩, .string ⟨#[33, 126]⟩] 9) := ⟨_, rfl⟩
  have hb7 : Below W6.heap.size W6 A7 := by rw [hA7]; exact (Below.refl _ _).alloc (Nat.le_refl _) _
  have kr7 : Blk A7 W6.heap.size 9 (signsM.map strB) := by rw [hA7]; exact Blk.new W6 _ _
  have hC8 := HC7.out.below hb7
  have hr8 := HR7.out.below hb7 HR7.out.lt
  have km8 := HKm7.out.below hb7 HKm7.out.lt
  have hop := fun c => vSOp g W6.heap.size r1 signsM 4 c (!nb) A7 hC8.sc kr7 rfl (by decide) (by decide)
  have HOp := Lh hop; have HC8 := Lh hC8; have HR8 := Lh hr8; have HKm8 := Lh km8
  clear hb7 kr7 hC8 hr8 km8 hop HC7 HR7 HKm7
  go_wp2_with fail
  rw [← hA7]
  clear hA7
  refine (HOp.out _).mono ?_
  rintro e w9 ⟨hbu9, -, hc9⟩
  have hC9 := fun (s' : Bs) (b' : Bool) (hs : ScanIs w9 g s' b') (hl : s'.length ≤ r1.length) => HC8.out.scan hs hbu9 hl
  have hr9 := HR8.out.but hbu9 (by have := HC8.out.gl; simp; omega)
  have km9 := HKm8.out.but hbu9 Hng.out
  have HC9 := Lh hC9; have HR9 := Lh hr9; have HKm9 := Lh km9
  clear hC9 hr9 hbu9 HC8 HR8 HKm8 HOp
  have mo : w9.cell? ⟨mb, 1, none⟩ = some (.int .i64 0) := km9.cell 1
  have mf := km9.frozen 1
  clear km9
  have hM0 := HM.out (by trivial)
  have hnm0 : nb = true → InvK TOT (fun l => KM ms (n :: l)) r1 false := fun h => hM0.tok (Hnt.out (Hnb.out.trans h))
  have hnm1 : nb = false → TOT = none := fun h => hM0.toNone (KM_nil ms) fun t r e l => KM_name (Hnn.out (Hnb.out.trans h) t r e) l
  have HM1 := Lh hnm0; have HM2 := Lh hnm1
  clear hM0 hnm0 hnm1
  obtain ⟨ko, t9, b9, hP, he9, k9⟩ : ∃ (ko : Nat) (t9 : Bs) (b9 : Bool), ((opS signsM 0 (skipS r1) = some (ko, t9) ∧ b9 = !nb) ∨ (opS signsM 0 (skipS r1) = none ∧ ko = 0 ∧ t9 = skipS r1 ∧ b9 = true)) ∧ e = .returned (.int .i64 (ko : Nat)) ∧ ScanIs w9 g t9 b9 := by
   rcases hc9 with ⟨ko, t9, h1, h2, h3⟩ | ⟨h1, h2, h3⟩
   ·exact ⟨ko, t9, !nb, .inl ⟨h1, rfl⟩, h2, h3⟩
   exact ⟨0, skipS r1, true, .inr ⟨h1, rfl, rfl, rfl⟩, h2, h3⟩
  subst he9
  have htl : t9.length ≤ r1.length := by
   rcases hP with ⟨h1, -⟩ | ⟨-, -, h2, -⟩
   ·exact opS_len h1 (skip_len r1)
   rw [h2]; exact skip_len r1
  have hC10 := HC9.out t9 b9 k9 htl
  have HP := Lh hP
  clear hc9
  obtain ⟨T9, eT9, hT9⟩ := str_form t9
  have k9' : Blk w9 g 94 [.string T9, .bool b9] := by rw [← eT9]; exact k9
  obtain ⟨W9, hW9⟩ : ∃ W9, W9 = w9.setCell ⟨mb, 1, none⟩ (.int .i64 (ko : Nat)) := ⟨_, rfl⟩
  have bm9 : But [mb] w9 W9 := by rw [hW9]; exact (But.refl _ _).setCell (by simp) _
  have nV1 : V1.ownBlock ≠ some mb := fun e => by have := HV1.out mb e; omega
  have hC11 := hC10.box bm9 (by have := Hqm.out; omega) nV1 (by simp [Value.ownBlock]) Hmb.out
  have hr11 := HR9.out.but bm9 (by have := Hqm.out; simp; omega)
  have km11 : Blk W9 mb 69 [.string N, .int .i64 (ko : Nat), .string ⟨#[]⟩] := by rw [hW9]; exact HKm9.out.set_ 1 _
  have kg11 : Blk W9 g 94 [.string T9, .bool b9] := k9'.but bm9 (by have := hC10.gl; have := Hmb.out; simp; omega)
  have hhp := Tryz.strings_HasPrefix T9 ⟨#[126]⟩ W9
  rw [show T9.data.toList = t9 by rw [hT9]] at hhp
  obtain ⟨hp, hhp2⟩ : ∃ hp, Lib.hasPrefix t9 ((⟨#[126]⟩ : ByteArray).data.toList) = hp := ⟨_, rfl⟩
  rw [hhp2] at hhp
  have m1 : W9.cell? ⟨mb, 1, none⟩ = some (.int .i64 (ko : Nat)) := km11.cell 1
  have mf1 := km11.frozen 1
  have g0 : W9.cell? ⟨g, 0, none⟩ = some (.string T9) := kg11.cell 0
  have gf0 := kg11.frozen 0
  have HC11 := Lh hC11; have HR11 := Lh hr11; have HKm11 := Lh km11; have HKg11 := Lh kg11; have HHp := Lh hhp; have HT9 := Lh hT9; have HeT9 := Lh eT9; have Hhp2 := Lh hhp2; have Htl := Lh htl; have HbW := Lh hW9
  clear hP hC10 hC11 hr11 km11 kg11 hhp hT9 eT9 hhp2 htl k9 k9' bm9 nV1 HC9 HR9 HKm9
  go_upto_region 8 with fail
  rw [← hW9]
  clear hW9 mo mf
  go_cut [53] from 16 to 83 (fun v wx => v = .bool (decide (ko = 1) && hp) ∧ wx = W9)
  case first =>
   by_cases hk1 : ko = 1
   ·subst hk1
    go_wp2_with (refine HHp.out.mono ?_; rintro e wz ⟨rfl, hz⟩; obtain rfl : W9 = wz := hz.symm)
    go_meet
    case rel => exact ⟨by simp, rfl⟩
   have zk : ¬ (ko : Int) = 1 := by omega
   have zk2 : ((ko : Int) == 1) = false := beq_eq_false_iff_ne.2 zk
   go_wp2
   go_meet
   case rel => exact ⟨by simp [hk1], rfl⟩
  obtain ⟨rfl, hz⟩ := hcut
  obtain rfl : W9 = wc := hz.symm
  go_upto_if 53 with fail
  go_cut [] from 16 to 83 (fun wx => ∃ (o : Int) (s3 : Bs) (bad3 : Bool), Hid (SqC w wx g (w.heap.size + 1) LL V1 (.slice none 0 0) ms [] s3 bad3) ∧ Hid (Blk wx w.heap.size 25 [.slice none 0 0, .slice none 0 0]) ∧ Hid (Blk wx mb 69 [.string N, .int .i64 o, .string ⟨#[]⟩]) ∧ Hid (s3.length ≤ r1.length) ∧ Hid ((bad3 = false ∧ nameP n = true ∧ o ≠ 0 ∧ ∃ t, opOfM t = o ∧ InvK TOT (fun l => KM ms (n :: t :: l)) s3 false) ∨ (bad3 = true ∧ TOT = none)))
  case first =>
   obtain ⟨hf1, hf2⟩ := op_fin HM1.out HM2.out HP.out Hhp2.out
   by_cases hk1 : ko = 1 ∧ hp = true
   ·obtain ⟨rfl, rfl⟩ := hk1
    obtain ⟨t', ht', hinv⟩ := hf1 rfl rfl
    have hex : T9.extract 1 T9.size = ⟨t'.toArray⟩ := by
     rw [HT9.out, ht']
     apply ByteArray.ext
     rw [← Array.toList_inj, Lib.extract_data]
     simp only
     rw [List.drop_one, List.tail_cons, List.take_of_length_le (by rw [str_size, List.length_cons]; omega)]
    obtain ⟨T2, hT2⟩ : ∃ T2, T2 = (⟨t'.toArray⟩ : ByteArray) := ⟨_, rfl⟩
    rw [← hT2] at hex
    have zsz : 1 ≤ T9.size := by rw [HT9.out, ht', str_size, List.length_cons]; omega
    have kg12 : Blk (W9.setCell ⟨mb, 1, none⟩ (.int .i64 3)) g 94 [.string T9, .bool b9] := HKg11.out.far (by show g ≠ mb; have := HC11.out.gl; have := Hmb.out; omega) _
    have g2 : (W9.setCell ⟨mb, 1, none⟩ (.int .i64 3)).cell? ⟨g, 0, none⟩ = some (.string T9) := kg12.cell 0
    have gf2 := kg12.frozen 0
    have bm12 : But [mb] W9 (W9.setCell ⟨mb, 1, none⟩ (.int .i64 3)) := (But.refl _ _).setCell (by simp) _
    have nV1 : V1.ownBlock ≠ some mb := fun e => by have := HV1.out mb e; omega
    have hC12 := HC11.out.box bm12 (by have := Hqm.out; omega) nV1 (by simp [Value.ownBlock]) Hmb.out
    have hr12 := HR11.out.but bm12 (by have := Hqm.out; simp; omega)
    have km12 := HKm11.out.set_ 1 (.int .i64 3)
    have bg13 : But [g] (W9.setCell ⟨mb, 1, none⟩ (.int .i64 3)) ((W9.setCell ⟨mb, 1, none⟩ (.int .i64 3)).setCell ⟨g, 0, none⟩ (.string T2)) := (But.refl _ _).setCell (by simp) _
    have kg13 : ScanIs ((W9.setCell ⟨mb, 1, none⟩ (.int .i64 3)).setCell ⟨g, 0, none⟩ (.string T2)) g t' b9 := by
     have h := kg12.set_ 0 (.string T2)
     rw [ScanIs, strB_str, ← hT2]; exact h
    have hC13 := hC12.scan kg13 bg13 (by rw [ht', List.length_cons]; omega)
    have hr13 := hr12.but bg13 (by have := HC11.out.gl; simp; omega)
    have km13 := km12.but bg13 Hng.out
    have hl13 : t'.length ≤ r1.length := by have := Htl.out; rw [ht', List.length_cons] at this; omega
    have HC13 := Lh hC13; have HR13 := Lh hr13; have HKm13 := Lh km13; have Hl13 := Lh hl13; have Hinv := Lh hinv
    clear hC12 hr12 km12 bg13 kg13 kg12 hC13 hr13 km13 hl13 hinv hf1 hf2 bm12 nV1 ht' hT2
    go_wp2
    go_meet
    case rel => exact ⟨3, t', b9, HC13, HR13, HKm13, Hl13, Lh (by rw [Hnb.out]; exact Hinv.out)⟩
   have hinv := hf2 fun h => by
    cases hp with
    | false => rfl
    | true => exact absurd ⟨h, rfl⟩ hk1
   have hbb : (decide (ko = 1) && hp) = false := by
    rw [Bool.and_eq_false_iff, decide_eq_false_iff_not]
    by_cases h : ko = 1
    ·right
     cases hp with
     | false => rfl
     | true => exact absurd ⟨h, rfl⟩ hk1
    exact .inl h
   have Hinv := Lh hinv
   clear hinv hf1 hf2
   rw [hbb]
   go_wp2
   go_meet
   case rel => exact ⟨ko, t9, b9, HC11, HR11, HKm11, Htl, Lh (by rw [Hnb.out]; exact Hinv.out)⟩
  obtain ⟨o, s3, bad3, HC12, HR12, HKm12, Hl12, Hin12⟩ := hcut
  have htx := vSText g s3 bad3 wc HC12.out.sc (by have := HC12.out.sl; have := HLL.out; omega)
  have HTx := Lh htx
  clear htx
  go_wp2_with fail
  refine HTx.out.mono ?_
  rintro e w5 ⟨t, s4, bad4, rfl, k5, b5, hl5, htl5, hres⟩
  obtain ⟨T5, eT5, hT5⟩ := str_form t
  rw [eT5]
  have hC13 := HC12.out.scan k5 b5 hl5
  have hr13 := HR12.out.but b5 (by have := hC13.gl; simp; omega)
  have km13 := HKm12.out.but b5 Hng.out
  have m2 : w5.cell? ⟨mb, 2, none⟩ = some (.string ⟨#[]⟩) := km13.cell 2
  have mf2 := km13.frozen 2
  obtain ⟨W5, hW5⟩ : ∃ W5, W5 = w5.setCell ⟨mb, 2, none⟩ (.string T5) := ⟨_, rfl⟩
  have bm5 : But [mb] w5 W5 := by rw [hW5]; exact (But.refl _ _).setCell (by simp) _
  have nV1 : V1.ownBlock ≠ some mb := fun e => by have := HV1.out mb e; omega
  have hC14 := hC13.box bm5 (by have := Hqm.out; omega) nV1 (by simp [Value.ownBlock]) Hmb.out
  have hr14 := hr13.but bm5 (by have := Hqm.out; simp; omega)
  have km14 : Blk W5 mb 69 [.string N, .int .i64 o, .string T5] := by rw [hW5]; exact km13.set_ 2 _
  have hin14 := text_fin Hin12.out hres
  have own14 := hC14.o1
  obtain ⟨nm, hnm⟩ : ∃ nm, ms.length = nm := ⟨_, rfl⟩
  rw [hnm] at own14
  obtain ⟨VA, vc, rfl, -⟩ := own_form own14
  have q0 : W5.cell? ⟨w.heap.size + 1, 0, none⟩ = some (.slice VA nm vc) := hC14.qk.cell 0
  have x0 : W5.cell? ⟨mb, 0, none⟩ = some (.string N) := km14.cell 0
  have x1 : W5.cell? ⟨mb, 1, none⟩ = some (.int .i64 o) := km14.cell 1
  have x2 : W5.cell? ⟨mb, 2, none⟩ = some (.string T5) := km14.cell 2
  have hck : nm + s.length ≤ LL := by have := HCk.out trivial; simp at this; omega
  have hnt1 : bad4 = false → 1 ≤ n.length := fun hb => by
   rcases hin14 with ⟨-, h, -⟩ | ⟨h, -⟩
   ·cases n with
    | nil => simp [nameP] at h
    | cons c r => simp
   rw [hb] at h; cases h
  have hszW : w.heap.size ≤ W5.heap.size := hC14.bu.size
  have hl14 : s4.length ≤ r1.length := by have := Hl12.out; omega
  have htL : t.length ≤ LL := by have := HC12.out.sl; omega
  have hnL : n.length ≤ LL := by have := Hnl.out; omega
  have HC14 := Lh hC14; have HR14 := Lh hr14; have Hin14 := Lh hin14; have HO14 := Lh own14; have Hnm := Lh hnm; have Hnt1 := Lh hnt1; have Hl14 := Lh hl14; have HtL := Lh htL; have HnL := Lh hnL; have HeT5 := Lh eT5; have Hck := Lh hck
  have hcl9 : LL ≤ 1000000 := by have := HLL.out; omega
  clear hC13 hC14 hr13 hr14 km13 km14 hin14 own14 hnm hnt1 hl14 htL hnL eT5 hck bm5 nV1 hres k5 b5 hl5 htl5 hT5 HC12 HR12 HKm12 Hl12 Hin12 HTx
  go_upto_region 12 with fail
  rw [← hW5]
  clear hW5 m2 mf2
  go_upto_region 13 with (at_builtin; refine wpList_app _ rfl matE rfl rfl (HO14.out.alloc _) rfl (row_newN W5 69 3 1 [_, _, _] rfl) (by simp [Value.oneCell']) (by have := Hck.out; omega) (by simp; omega) ?_; intro v8 w8 own8 hg8 hb8 hx8; obtain ⟨V8, vc8, rfl, -⟩ := own_form own8; obtain ⟨qk8, rs8⟩ := SqC.grewM HC14.out HR14.out _ hg8; have q8 := qk8.cell 0; have qf8 := qk8.frozen 0; clear hb8 hx8)
  have hcA := HC14.out.below (Below.alloc (Below.refl _ _) (Nat.le_refl _) (.cells #[.string N, .int .i64 o, .string T5] 69))
  have hcell : (⟨n, o, t⟩ : MatP).cells = [.string N, .int .i64 o, .string T5] := by
   show [strB n, .int .i64 o, strB t] = _
   rw [HeN.out, HeT5.out]
  have hC15 := hcA.addM (m := ⟨n, o, t⟩) ⟨HnL.out, HtL.out⟩ hg8 (by rw [hcell, Hnm.out]; exact own8) hcA.apart.1
  obtain ⟨W8, hW8⟩ : ∃ W8, W8 = w8.setCell ⟨w.heap.size + 1, 0, none⟩ (.slice V8 (nm + 1) vc8) := ⟨_, rfl⟩
  have hr15 : Blk W8 w.heap.size 25 [.slice none 0 0, .slice none 0 0] := by rw [hW8]; exact rs8.far (by show w.heap.size ≠ w.heap.size + 1; omega) _
  rw [← hW8] at hC15
  have hn9 := vSNext g s4 [44] bad4 ⟨#[44]⟩ rfl W8 hC15.sc
  have hl9 := nextS_len [44] s4
  have hpf := part_fin Hin14.out
  obtain ⟨cm, hcm⟩ : ∃ cm, Lib.hasPrefix (skipS s4) [44] = cm := ⟨_, rfl⟩
  obtain ⟨s5, hs5⟩ : ∃ s5, nextS [44] s4 = s5 := ⟨_, rfl⟩
  rw [hcm, hs5] at hn9 hpf
  rw [hs5] at hl9
  have hns : bad4 = false → s5.length + 1 ≤ s.length := fun h => by have h1 := Hnt1.out h; have h2 := Hnl.out; have h3 := Hl14.out; omega
  have HC15 := Lh hC15; have HR15 := Lh hr15; have HN9 := Lh hn9; have HPf := Lh hpf; have Hl9 := Lh hl9; have Hns := Lh hns
  clear hC15 hr15 hn9 hpf hl9 hns hcm hs5 qk8 rs8 hcA own8 hg8 x0 x1 x2 q0 hcell HC14 HR14 HO14 Hin14 Hnt1 Hl14 HtL HnL
  rw [← hW8]
  clear hW8 q8 qf8
  go_wp2_with fail
  refine HN9.out.mono ?_
  rintro e w10 ⟨rfl, k10, b10, -⟩
  have hC16 := HC15.out.scan k10 b10 Hl9.out
  have hr16 := HR15.out.but b10 (by have := hC16.gl; simp; omega)
  have HC16 := Lh hC16; have HR16 := Lh hr16
  clear hC16 hr16 k10 b10 HN9 HC15 HR15
  cases cm with
  | true =>
   have hS : SqR w w10 g LL TOT (.slice V8 (nm + 1) vc8) (.slice none 0 0) ⟨ms ++ [⟨n, o, t⟩], []⟩ s5 bad4 := ⟨HC16.out, HR16.out, fun h => by have := Hns.out h; have := Hck.out; have := Hnm.out; simp; omega, by have := Hck.out; have := Hnm.out; simp; omega⟩
   have HS := Lh hS; have Hinv := Lh (HPf.out.1 rfl)
   have hm1 := scanM_is HC16.out.sc
   have Hm1 := Lh hm1
   clear hS hm1 HC16 HR16 HPf
   go_wp2
   go_roundw
   case rel => exact ⟨_, _, s5, bad4, true, rfl, HS, Lh fun _ => Hinv.out, Lh (by intro h; cases h)⟩
   rw [Hme.out, Hm1.out]
   cases bad4 with
   | true => simp
   | false => have := Hns.out rfl; simp; omega
  | false =>
   have hn11 := vSNext g s5 [125] bad4 ⟨#[125]⟩ rfl w10 HC16.out.sc
   have hl11 := nextS_len [125] s5
   have hpf := HPf.out.2
   obtain ⟨cl, hcl⟩ : ∃ cl, Lib.hasPrefix (skipS s5) [125] = cl := ⟨_, rfl⟩
   obtain ⟨s6, hs6⟩ : ∃ s6, nextS [125] s5 = s6 := ⟨_, rfl⟩
   rw [hcl, hs6] at hn11 hpf
   rw [hs6] at hl11
   have HN11 := Lh hn11; have Hl11 := Lh hl11; have Hpf := Lh hpf
   clear hn11 hl11 hpf hcl hs6 HPf
   go_wp2_with fail
   refine HN11.out.mono ?_
   rintro e w11 ⟨rfl, k11, b11, -⟩
   have hC17 := HC16.out.scan k11 b11 Hl11.out
   have hr17 := HR16.out.but b11 (by have := hC17.gl; simp; omega)
   have HC17 := Lh hC17; have HR17 := Lh hr17
   clear hC17 hr17 k11 b11 HN11 HC16 HR16
   cases cl with
   | true =>
    have hS : SqR w w11 g LL TOT (.slice V8 (nm + 1) vc8) (.slice none 0 0) ⟨ms ++ [⟨n, o, t⟩], []⟩ s6 bad4 := ⟨HC17.out, HR17.out, fun h => by have := Hns.out h; have := Hck.out; have := Hnm.out; have := Hl11.out; simp; omega, by have := Hck.out; have := Hnm.out; simp; omega⟩
    have HS := Lh hS; have Hinv := Lh (show InvK TOT (KF (ms ++ [⟨n, o, t⟩]) []) s6 bad4 by have := Hpf.out.1; simpa using this)
    have hm1 := scanM_is HC17.out.sc
    have Hm1 := Lh hm1
    clear hS hm1 HC17 HR17 Hpf
    go_wp2
    go_roundw
    case rel => exact ⟨_, _, s6, bad4, false, rfl, HS, Lh (by intro h; cases h), Lh fun _ => Hinv.out⟩
    rw [Hme.out, Hm1.out]
    cases bad4 with
    | true => simp
    | false => have := Hns.out rfl; have := Hl11.out; simp; omega
   | false =>
    have htn : TOT = none := by have := Hpf.out.2; simpa using this
    have ksc := HC17.out.sc
    have c1 : w11.cell? ⟨g, 1, none⟩ = some (.bool bad4) := ksc.cell 1
    have f1 := ksc.frozen 1
    obtain ⟨W12, hW12⟩ : ∃ W12, W12 = w11.setCell ⟨g, 1, none⟩ (.bool true) := ⟨_, rfl⟩
    have k12 : ScanIs W12 g s6 true := by rw [hW12]; exact ksc.set_ 1 _
    have b12 : But [g] w11 W12 := by rw [hW12]; exact (But.refl _ _).setCell (by simp) _
    have hC18 := HC17.out.scan k12 b12 (Nat.le_refl _)
    have hr18 := HR17.out.but b12 (by have := hC18.gl; simp; omega)
    have hm1 := scanM_is k12
    have hS : SqR w W12 g LL TOT (.slice V8 (nm + 1) vc8) (.slice none 0 0) ⟨ms ++ [⟨n, o, t⟩], []⟩ s6 true := ⟨hC18, hr18, fun h => (by cases h), by have := Hck.out; have := Hnm.out; simp; omega⟩
    have HS := Lh hS; have Htn := Lh htn; have Hm1 := Lh hm1
    clear hS htn ksc k12 b12 hC18 hr18 hm1 HC17 HR17 Hpf
    go_wp2
    rw [← hW12]
    clear hW12 c1 f1
    go_roundw
    case rel => exact ⟨_, _, s6, true, false, rfl, HS, Lh (by intro h; cases h), Lh fun _ => .ofNone Htn.out⟩
    case measure => rw [Hme.out, Hm1.out]; simp
 have hex : InvK TOT (KF ms []) s bad := by
  cases mr with
  | false => exact HF.out rfl
  | true =>
   cases bad with
   | false => exact absurd ⟨rfl, rfl⟩ hgo
   | true =>
    rcases HM.out rfl with ⟨h, -⟩ | h
    ·cases h
    exact .inr h
 have Hex := Lh hex
 clear hex HM HF ksc
 go_upto_region 4 with fail
 go_cut [23] from 16 to 83 (fun v wx => v = .bool false ∧ wx = wo)
 case first =>
  cases mr with
  | false =>
   go_wp2
   go_meet
   case rel => exact ⟨rfl, rfl⟩
  | true =>
   cases bad with
   | false => exact absurd ⟨rfl, rfl⟩ hgo
   | true =>
    go_wp2
    go_meet
    case rel => exact ⟨rfl, rfl⟩
 obtain ⟨rfl, hz⟩ := hcut
 obtain rfl : wo = wc := hz.symm
 clear hgo c1
 have H0 : Hid (∃ (V2 : Value) (fs : List FilP) (s : Bs) (bad : Bool), Hid (SqR w wo g LL TOT V1 V2 ⟨ms, fs⟩ s bad) ∧ Hid (InvK TOT (KF ms fs) s bad)) := Lh ⟨_, [], s, bad, HR, Hex⟩
 clear HR Hex
 go_wp2
 go_loopw [] (fun wr => ∃ (V2 : Value) (fs : List FilP) (s : Bs) (bad : Bool), Hid (SqR w wr g LL TOT V1 V2 ⟨ms, fs⟩ s bad) ∧ Hid (InvK TOT (KF ms fs) s bad)) (fun wr => scanM wr g)
 case atStart => exact H0.out
 clear H0
 obtain ⟨V2, fs, s, bad, HR, HI⟩ := hrel
 obtain ⟨wo, rfl⟩ : ∃ wo : World, wo = wr := ⟨_, rfl⟩
 have ksc := HR.out.co.sc
 obtain ⟨S, eS, hS⟩ := str_form s
 have ksS := ksc
 rw [ScanIs, eS] at ksS
 have c0 : wo.cell? ⟨g, 0, none⟩ = some (.string S) := ksS.cell 0
 have c1 : wo.cell? ⟨g, 1, none⟩ = some (.bool bad) := ksc.cell 1
 have hsL := HR.out.co.sl
 have hcl9 : LL ≤ 1000000 := by have := HLL.out; omega
 have htr := Tryz.strings_Trim_one S 32 (by decide) wo (by rw [hS, str_size]; omega)
 rw [show S.data.toList = s by rw [hS]] at htr
 have hme := scanM_is ksc
 have HTr := Lh htr; have Hme := Lh hme; have HsL := Lh hsL; have Hc9 := Lh hcl9
 clear htr hme hS eS ksS ksc hsL
 go_upto_region 16 with fail
 go_cut [96] from 84 to 109 (fun v wx => ∃ bo : Bool, v = .bool bo ∧ Hid (bo = true → bad = false ∧ skipS s ≠ []) ∧ Hid (bo = false → bad = true ∨ skipS s = []) ∧ Hid (SqR w wx g LL TOT V1 V2 ⟨ms, fs⟩ s bad))
 case first =>
  cases bad with
  | true =>
   go_wp2
   go_meet
   case rel => exact ⟨false, rfl, Lh (by simp), Lh (by simp), HR⟩
  | false =>
   go_wp2_with fail
   refine HTr.out.mono ?_
   rintro e w2 ⟨rfl, hw2⟩
   have hR2 : SqR w w2 g LL TOT V1 V2 ⟨ms, fs⟩ s false := by
    rcases hw2 with h | h
    ·rw [h]; exact HR.out
    rw [h]; exact HR.out.below (Below.refl _ _).drew
   have HR2 := Lh hR2
   clear hw2 hR2 HR c0 c1 HTr
   by_cases hn : skipS s = []
   ·rw [trim_nil.2 hn]
    go_wp2
    go_meet
    case rel => exact ⟨false, rfl, Lh (by simp), Lh (by simp [hn]), HR2⟩
   obtain ⟨T6, hT6⟩ : ∃ T6, T6 = (⟨(Lib.trimB s 32).toArray⟩ : ByteArray) := ⟨_, rfl⟩
   have y6 : T6.toList.isEmpty = false := by
    rw [hT6, ByteArray.toList_mk]
    cases h : Lib.trimB s 32 with
    | nil => exact absurd (trim_nil.1 h) hn
    | cons c r => rfl
   rw [← hT6]
   clear hT6
   go_wp2
   go_meet
   case rel => exact ⟨true, by first | rfl | rw [y6]; rfl, Lh (by simpa using hn), Lh (by simp), HR2⟩
 obtain ⟨bo, rfl, Hb1, Hb0, HR2⟩ := hcut
 clear HR HTr c0 c1
 cases bo with
 | true =>
  obtain ⟨rfl, hne⟩ : bad = false ∧ skipS s ≠ [] := by have := Hb1.out; simpa using this
  obtain ⟨A7, hA7⟩ : ∃ A7, A7 = wc.alloc (.cells #[.string ⟨#[124, 61]⟩, .string ⟨#[33, 61]⟩, .string ⟨#[124, 126]⟩, .string ⟨#[33, 126]⟩] 9) := ⟨_, rfl⟩
  have hb7 : Below wc.heap.size wc A7 := by rw [hA7]; exact (Below.refl _ _).alloc (Nat.le_refl _) _
  have kr7 : Blk A7 wc.heap.size 9 (signsF.map strB) := by rw [hA7]; exact Blk.new wc _ _
  have hC8 := HR2.out.co.below hb7
  have hr8 := HR2.out.rs.below hb7 HR2.out.rs.lt
  have hop := fun c => vSOp g wc.heap.size s signsF 4 c false A7 hC8.sc kr7 rfl (by decide) (by decide)
  have hck := HR2.out.c1 rfl
  simp only at hck
  have HOp := Lh hop; have HC8 := Lh hC8; have HR8 := Lh hr8; have Hck := Lh hck; have Hne := Lh hne
  clear hb7 kr7 hC8 hr8 hop hck hne HR2 Hb1 Hb0
  go_wp2_with fail
  rw [← hA7]
  clear hA7
  refine (HOp.out _).mono ?_
  rintro e w9 ⟨hbu9, -, hc9⟩
  obtain ⟨ko, t9, b9, hP, he9, k9⟩ : ∃ (ko : Nat) (t9 : Bs) (b9 : Bool), ((opS signsF 0 (skipS s) = some (ko, t9) ∧ b9 = false) ∨ (opS signsF 0 (skipS s) = none ∧ ko = 0 ∧ t9 = skipS s ∧ b9 = true)) ∧ e = .returned (.int .i64 (ko : Nat)) ∧ ScanIs w9 g t9 b9 := by
   rcases hc9 with ⟨ko, t9, h1, h2, h3⟩ | ⟨h1, h2, h3⟩
   ·exact ⟨ko, t9, false, .inl ⟨h1, rfl⟩, h2, h3⟩
   exact ⟨0, skipS s, true, .inr ⟨h1, rfl, rfl, rfl⟩, h2, h3⟩
  subst he9
  have htl : t9.length ≤ s.length := by
   rcases hP with ⟨h1, -⟩ | ⟨-, -, h2, -⟩
   ·exact opS_len h1 (skip_len s)
   rw [h2]; exact skip_len s
  have hC9 := HC8.out.scan k9 hbu9 htl
  have hr9 := HR8.out.but hbu9 (by have := hC9.gl; simp; omega)
  obtain ⟨F1, hF1⟩ : ∃ F1, F1 = w9.alloc (.cells #[.int .i64 (ko : Nat), .string ⟨#[]⟩] 71) := ⟨_, rfl⟩
  have hb10 : Below w9.heap.size w9 F1 := by rw [hF1]; exact (Below.refl _ _).alloc (Nat.le_refl _) _
  have kf : Blk F1 w9.heap.size 71 [.int .i64 (ko : Nat), .string ⟨#[]⟩] := by rw [hF1]; exact Blk.new w9 _ _
  have hC10 := hC9.below hb10
  have hr10 := hr9.below hb10 hr9.lt
  have hV1 : ∀ k, V1.ownBlock = some k → k < w9.heap.size := fun k hk => (hC9.o1.lt k hk).2
  have hV2 : ∀ k, V2.ownBlock = some k → k < w9.heap.size := fun k hk => (hC9.o2.lt k hk).2
  have hfb : w.heap.size ≤ w9.heap.size := hC9.bu.size
  have hqf : w.heap.size + 1 < w9.heap.size := hC9.qk.lt
  have htx := vSText g t9 b9 F1 hC10.sc (by have := HsL.out; omega)
  have HC10 := Lh hC10; have HR10 := Lh hr10; have HKf := Lh kf; have HV1 := Lh hV1; have HV2 := Lh hV2; have Hfb := Lh hfb; have Hqf := Lh hqf; have HTx := Lh htx; have HP := Lh hP; have Htl := Lh htl
  obtain ⟨fb, hfbe⟩ : ∃ fb, w9.heap.size = fb := ⟨_, rfl⟩
  rw [hfbe] at HKf HV1 HV2 Hfb Hqf
  clear hC9 hr9 hC10 hr10 kf hV1 hV2 hfb hqf htx hP htl hb10 hbu9 hc9 k9 HOp HC8 HR8
  go_upto_region 18 with fail
  rw [← hF1]
  clear hF1
  go_wp2_with fail
  refine HTx.out.mono ?_
  rintro e w5 ⟨t, s4, bad4, rfl, k5, b5, hl5, htl5, hres⟩
  obtain ⟨T5, eT5, hT5⟩ := str_form t
  rw [eT5]
  have ngf : fb ∉ [g] := by have := HC10.out.gl; have := Hfb.out; simp; omega
  have hC13 := HC10.out.scan k5 b5 hl5
  have hr13 := HR10.out.but b5 (by have := hC13.gl; simp; omega)
  have kf13 := HKf.out.but b5 ngf
  have m2 : w5.cell? ⟨fb, 1, none⟩ = some (.string ⟨#[]⟩) := kf13.cell 1
  have mf2 := kf13.frozen 1
  obtain ⟨W5, hW5⟩ : ∃ W5, W5 = w5.setCell ⟨fb, 1, none⟩ (.string T5) := ⟨_, rfl⟩
  have bm5 : But [fb] w5 W5 := by rw [hW5]; exact (But.refl _ _).setCell (by simp) _
  have hC14 := hC13.box bm5 (by have := Hqf.out; omega) (fun e => by have := HV1.out fb e; omega) (fun e => by have := HV2.out fb e; omega) Hfb.out
  have hr14 := hr13.but bm5 (by have := Hqf.out; simp; omega)
  have kf14 : Blk W5 fb 71 [.int .i64 (ko : Nat), .string T5] := by rw [hW5]; exact kf13.set_ 1 _
  have hin14 := fil_fin HI.out Hne.out HP.out hres
  have hns : bad4 = false → s4.length + 1 ≤ s.length := fun hb => by
   rcases hres with ⟨-, h⟩ | ⟨h, -⟩
   ·have := tok1_len h; have := Htl.out; omega
   rw [hb] at h; cases h
  have own14 := hC14.o2
  obtain ⟨nf, hnf⟩ : ∃ nf, fs.length = nf := ⟨_, rfl⟩
  rw [hnf] at own14
  obtain ⟨FA, fc, rfl, -⟩ := own_form own14
  have q0 : W5.cell? ⟨w.heap.size + 1, 1, none⟩ = some (.slice FA nf fc) := hC14.qk.cell 1
  have x0 : W5.cell? ⟨fb, 0, none⟩ = some (.int .i64 (ko : Nat)) := kf14.cell 0
  have x1 : W5.cell? ⟨fb, 1, none⟩ = some (.string T5) := kf14.cell 1
  have hck : ms.length + nf + s.length ≤ LL := by have := Hck.out; omega
  have hszW : w.heap.size ≤ W5.heap.size := hC14.bu.size
  have htL : t.length ≤ LL := by have := HsL.out; have := Htl.out; omega
  have HC14 := Lh hC14; have HR14 := Lh hr14; have Hin14 := Lh hin14; have HO14 := Lh own14; have Hnf := Lh hnf; have Hns := Lh hns; have HtL := Lh htL; have HeT5 := Lh eT5; have Hck2 := Lh hck
  clear hC13 hC14 hr13 hr14 kf13 kf14 hin14 own14 hnf hns htL eT5 hck bm5 hres k5 b5 hl5 htl5 hT5 HC10 HR10 HKf HTx ngf Hck
  go_upto_region 19 with fail
  rw [← hW5]
  clear hW5 m2 mf2
  go_wp2_with (at_builtin; refine wpList_app _ rfl filE rfl rfl (HO14.out.alloc _) rfl (row_newN W5 71 2 1 [_, _] rfl) (by simp [Value.oneCell']) (by have := Hck2.out; omega) (by simp; omega) ?_; intro v8 w8 own8 hg8 hb8 hx8; obtain ⟨V8, vc8, rfl, -⟩ := own_form own8; obtain ⟨qk8, rs8⟩ := SqC.grewF HC14.out HR14.out _ hg8; have q8 := qk8.cell 1; have qf8 := qk8.frozen 1; clear hb8 hx8)
  have hcA := HC14.out.below (Below.alloc (Below.refl _ _) (Nat.le_refl _) (.cells #[.int .i64 (ko : Nat), .string T5] 71))
  have hcell : (⟨ko, t⟩ : FilP).cells = [.int .i64 (ko : Nat), .string T5] := by
   show [.int .i64 (ko : Nat), strB t] = _
   rw [HeT5.out]
  have hC15 := hcA.addF (f := ⟨ko, t⟩) HtL.out hg8 (by rw [hcell, Hnf.out]; exact own8) hcA.apart.2
  obtain ⟨W8, hW8⟩ : ∃ W8, W8 = w8.setCell ⟨w.heap.size + 1, 1, none⟩ (.slice V8 (nf + 1) vc8) := ⟨_, rfl⟩
  have hr15 : Blk W8 w.heap.size 25 [.slice none 0 0, .slice none 0 0] := by rw [hW8]; exact rs8.far (by show w.heap.size ≠ w.heap.size + 1; omega) _
  rw [← hW8] at hC15
  rw [← hW8]
  have hm1 := scanM_is hC15.sc
  have hS : SqR w W8 g LL TOT V1 (.slice V8 (nf + 1) vc8) ⟨ms, fs ++ [⟨ko, t⟩]⟩ s4 bad4 := ⟨hC15, hr15, fun h => by have := Hns.out h; have := Hck2.out; have := Hnf.out; simp; omega, by have := Hck2.out; have := Hnf.out; simp; omega⟩
  have HS := Lh hS; have Hm1 := Lh hm1
  clear hW8 q8 qf8 qk8 rs8 hcA own8 hg8 x0 x1 q0 hcell hC15 hr15 hm1 hS HC14 HR14 HO14
  go_roundw
  case rel => exact ⟨_, _, s4, bad4, HS, Hin14⟩
  rw [Hme.out, Hm1.out]
  cases bad4 with
  | true => simp
  | false => have := Hns.out rfl; simp; omega
 | false =>
  have hfin := all_fin HI.out (by have := Hb0.out; simpa using this)
  have o1 := HR2.out.co.o1
  have o2 := HR2.out.co.o2
  obtain ⟨nm, hnm⟩ : ∃ nm, ms.length = nm := ⟨_, rfl⟩
  obtain ⟨nf, hnf⟩ : ∃ nf, fs.length = nf := ⟨_, rfl⟩
  simp only at o1 o2
  rw [hnm] at o1
  rw [hnf] at o2
  obtain ⟨MA, mc, rfl, -⟩ := own_form o1
  obtain ⟨FA, fc, rfl, -⟩ := own_form o2
  have q0 : wc.cell? ⟨w.heap.size + 1, 0, none⟩ = some (.slice MA nm mc) := HR2.out.co.qk.cell 0
  have q1 : wc.cell? ⟨w.heap.size + 1, 1, none⟩ = some (.slice FA nf fc) := HR2.out.co.qk.cell 1
  have r0 := HR2.out.rs.cell 0
  have r1 := HR2.out.rs.cell 1
  have rf0 := HR2.out.rs.frozen 0
  have rf1 := HR2.out.rs.frozen 1
  obtain ⟨W, hW⟩ : ∃ W, W = (wc.setCell ⟨w.heap.size, 0, none⟩ (.slice MA nm mc)).setCell ⟨w.heap.size, 1, none⟩ (.slice FA nf fc) := ⟨_, rfl⟩
  have kW : Blk W w.heap.size 25 [.slice MA nm mc, .slice FA nf fc] := by rw [hW]; exact (HR2.out.rs.set_ 0 _).set_ 1 _
  have bW : But [w.heap.size] wc W := by rw [hW]; exact ((But.refl _ _).setCell (by simp) _).setCell (by simp) _
  have n1 : (Value.slice MA nm mc).ownBlock ≠ some w.heap.size := fun e => own_blk HR2.out.co.o1 HR2.out.rs (by decide) (by rw [e]; simp)
  have n2 : (Value.slice FA nf fc).ownBlock ≠ some w.heap.size := fun e => own_blk HR2.out.co.o2 HR2.out.rs (by decide) (by rw [e]; simp)
  have hCW := HR2.out.co.box bW (by omega) n1 n2 (Nat.le_refl _)
  have hans : SQueryO g s0 w (.returned (.agg #[.slice MA nm mc, .slice FA nf fc])) W := by
   refine ⟨⟨ms, fs⟩, bad, s, _, _, rfl, hCW.sc, hCW.bu, hCW.o1, hCW.o2, ?_, ?_, ?_, ?_⟩
   ·rw [HLL.out]; exact hCW.sm
   ·rw [HLL.out]; exact hCW.sf
   ·rw [HLL.out]; exact HR2.out.c2
   rw [HTOT.out]; exact hfin
  have w0c : W.cell? ⟨w.heap.size, 0, none⟩ = some (.slice MA nm mc) := kW.cell 0
  have w1c : W.cell? ⟨w.heap.size, 1, none⟩ = some (.slice FA nf fc) := kW.cell 1
  have HAns := Lh hans; have HW := Lh hW
  clear hans hW hCW n1 n2 bW kW hfin o1 o2 HR2 HI Hb1 Hb0 hnm hnf
  go_wp2
  rw [← HW.out]
  clear HW q0 q1 r0 r1 rf0 rf1
  refine bodyPost_ret (v := .agg #[.slice MA nm mc, .slice FA nf fc]) (by simp [results, Tryz.results48, go_sem, *]) rfl ?_
  exact HAns.out
end Go.Proofs.YtecejnilajbdpaaGreatDoor
