import Derived.Test.YtecejnilajbdpaaGreatDoorTz44
set_option maxRecDepth 100000
set_option maxHeartbeats 32000000
namespace Garner
open Go
def InvK (TOT : Option QueryP) (K : List Bs → Option QueryP) (s : Bs) (bad : Bool) : Prop := (bad = false ∧ TOT = (toks s).bind K) ∨ (bad = true ∧ TOT = none)
def KF (ms : List MatP) (fs : List FilP) (l : List Bs) : Option QueryP := (filsR l).map fun f => ⟨ms, fs ++ f⟩
def KM (ms : List MatP) (l : List Bs) : Option QueryP := (matsR l).bind fun x => (filsR x.2).map fun f => ⟨ms ++ x.1, f⟩
section
variable {TOT : Option QueryP} {K K' : List Bs → Option QueryP} {s t r : Bs} {bad : Bool}
theorem InvK.tok (h : InvK TOT K s bad) (e : tok1 s = .tok t r) : InvK TOT (fun l => K (t :: l)) r bad := by
 rcases h with ⟨h1, h2⟩ | h
 ·refine .inl ⟨h1, ?_⟩
  rw [h2, toks_tok e]
  cases toks r <;> rfl
 exact .inr h
theorem InvK.toNone (h : InvK TOT K s bad) (h0 : K [] = none) (h1 : ∀ t r, tok1 s = .tok t r → ∀ l, K (t :: l) = none) : TOT = none := by
 rcases h with ⟨-, h2⟩ | h
 ·rw [h2]
  cases e : tok1 s with
  | fin => rw [toks_fin e]; exact h0
  | bad => rw [toks_bad e]; rfl
  | tok t r =>
   rw [toks_tok e]
   cases toks r with
   | none => rfl
   | some l => exact h1 t r e l
 exact h.2
theorem InvK.ofNone (h : TOT = none) : InvK TOT K s true := .inr ⟨rfl, h⟩
theorem InvK.skip (h : InvK TOT K s bad) : InvK TOT K (skipS s) bad := by
 rcases h with ⟨h1, h2⟩ | h
 ·refine .inl ⟨h1, ?_⟩
  rw [h2, toks_eq s, toks_eq (skipS s), tok1_skip]
 exact .inr h
theorem InvK.to (h : InvK TOT K s bad) (e : ∀ l, K l = K' l) : InvK TOT K' s bad := by
 have : K = K' := funext e
 rw [← this]; exact h
end
theorem name_tok {s : Bs} (h : nameP (nameHead (skipS s)) = true) : tok1 s = .tok (nameHead (skipS s)) (nameRest (skipS s)) := by
 unfold nameP at h
 rw [Bool.and_eq_true, Bool.and_eq_true] at h
 cases e : skipS s with
 | nil => rw [e] at h; simp [nameHead] at h
 | cons c r =>
  rw [e] at h
  have hc : nameC false c = true := by
   cases hn : nameC false c with
   | true => rfl
   | false => rw [nameHead, hn] at h; simp at h
  obtain ⟨n1, n2, n3, n4, n5, -⟩ := nameC_no hc
  rw [tok1, e, tok0, if_neg (sign2_head n1 n2 n3), if_neg n4, if_neg n5, if_pos hc]
theorem name_no {s t r : Bs} (h : nameP (nameHead (skipS s)) = false) (e : tok1 s = .tok t r) : nameP t = false := by
 cases hn : nameP t with
 | false => rfl
 | true =>
  exfalso
  have h2 := hn
  unfold nameP at h2
  rw [Bool.and_eq_true, Bool.and_eq_true] at h2
  cases t with
  | nil => simp at h2
  | cons d t' =>
   have h3 := h2.2
   rw [nameAll, Bool.and_eq_true] at h3
   have hd := nameC_more h3.1
   obtain ⟨c, s', e2, rfl⟩ := tok0_head e
   obtain ⟨n1, n2, n3, n4, n5, -⟩ := nameC_no hd
   have e3 := e
   rw [tok1, e2, tok0, if_neg (sign2_head n1 n2 n3), if_neg n4, if_neg n5, if_pos hd] at e3
   injection e3 with e3
   rw [e2, e3, hn] at h
   cases h
theorem sign_tok {s : Bs} {c : UInt8} (hc : c ∈ [(123 : UInt8), 125, 44]) (h : Lib.hasPrefix (skipS s) [c] = true) : tok1 s = .tok [c] (nextS [c] s) := by
 obtain ⟨r, hr⟩ := has_head.1 h
 have hn : nextS [c] s = r := by unfold nextS; rw [h, hr]; rfl
 have k : c ≠ 33 ∧ c ≠ 61 ∧ c ≠ 124 ∧ c ∈ signs1 := by
  simp at hc
  rcases hc with rfl | rfl | rfl <;> decide
 rw [tok1, hr, tok0, if_neg (sign2_head k.1 k.2.1 k.2.2.1), if_pos k.2.2.2, hn]
theorem sign_no {s t r : Bs} {c : UInt8} (h : Lib.hasPrefix (skipS s) [c] = false) (e : tok1 s = .tok t r) : t ≠ [c] := by
 rintro rfl
 obtain ⟨d, s', e2, rfl⟩ := tok0_head e
 rw [has_head.2 ⟨s', e2⟩] at h
 cases h
theorem next_no {s sign : Bs} (h : Lib.hasPrefix (skipS s) sign = false) : nextS sign s = skipS s := by unfold nextS; rw [h]; rfl
def signsM : List Bs := [[61], [33, 61], [61, 126], [33, 126]]
def signsF : List Bs := [[124, 61], [33, 61], [124, 126], [33, 126]]
theorem pre_two {t : Bs} {a b : UInt8} : Lib.hasPrefix t [a, b] = true ↔ ∃ r, t = a :: b :: r := by
 cases t with
 | nil => simp [Lib.hasPrefix]
 | cons c t =>
  cases t with
  | nil => simp [Lib.hasPrefix, List.isPrefixOf]
  | cons d r =>
   simp [Lib.hasPrefix, List.isPrefixOf]
   constructor
   ·rintro ⟨rfl, rfl⟩; exact ⟨rfl, rfl⟩
   rintro ⟨rfl, rfl⟩; exact ⟨rfl, rfl⟩
theorem tok0_two {a b : UInt8} {r : Bs} (h : [a, b] ∈ signs2) : tok0 (a :: b :: r) = .tok [a, b] r := by
 rw [tok0, if_pos (by simpa using h)]
 rfl
theorem tok0_sign2 {t u r : Bs} {a b : UInt8} (e : tok0 t = .tok u r) (hu : u = [a, b]) (h : [a, b] ∈ signs2) : ∃ r', t = a :: b :: r' := by
 subst hu
 cases t with
 | nil => cases e
 | cons c t =>
  rw [tok0] at e
  split at e
  ·injection e with e1 e2
   cases t with
   | nil => cases e1
   | cons d t => injection e1 with e1 e3; injection e3 with e3; exact ⟨t, by rw [e1, e3]⟩
  split at e
  ·injection e with e1; injection e1 with _ e1; cases e1
  split at e
  ·split at e
   ·injection e with e1; injection e1 with e1 _
    exfalso
    subst e1
    simp [signs2] at h
   cases e
  split at e
  ·rename_i hn
   rw [nameHead, if_pos hn] at e
   injection e with e1; injection e1 with e1 _
   exfalso
   subst e1
   have k := nameC_no hn
   simp [signs2, k.1, k.2.1, k.2.2.1] at h
  cases e
theorem tok0_sign1 {t u r : Bs} (e : tok0 t = .tok u r) (hu : u = [61]) : ∃ r', t = 61 :: r' := by
 subst hu
 obtain ⟨c, s', e1, rfl⟩ := tok0_head e
 exact ⟨s', e1⟩
theorem opM_some {s t : Bs} {k : Nat} (h : opS signsM 0 (skipS s) = some (k, t)) : (k = 1 ∧ (∀ t', t = 126 :: t' → tok1 s = .tok [61, 126] t') ∧ ((¬ ∃ t', t = 126 :: t') → tok1 s = .tok [61] t)) ∨ (k = 2 ∧ tok1 s = .tok [33, 61] t) ∨ (k = 4 ∧ tok1 s = .tok [33, 126] t) := by
 unfold tok1
 generalize skipS s = u at h
 unfold signsM at h
 simp only [opS] at h
 split at h
 ·rename_i h1
  obtain ⟨r, rfl⟩ := has_head.1 h1
  injection h with h; injection h with h2 h3
  subst h2
  subst h3
  refine .inl ⟨rfl, fun t' e => ?_, fun hn => ?_⟩
  ·have e : r = 126 :: t' := e
   subst e
   exact tok0_two (by simp [signs2])
  show tok0 (61 :: r) = .tok [61] r
  rw [tok0, if_neg ?_, if_pos (by decide)]
  cases r with
  | nil => simp [signs2]
  | cons d r => simp [signs2]; exact fun hd => hn ⟨r, by rw [hd]; rfl⟩
 split at h
 ·rename_i h1
  obtain ⟨r, rfl⟩ := pre_two.1 h1
  injection h with h; injection h with h2 h3
  subst h2
  subst h3
  exact .inr (.inl ⟨rfl, tok0_two (by simp [signs2])⟩)
 split at h
 ·rename_i h0 _ h1
  obtain ⟨r, rfl⟩ := pre_two.1 h1
  exact absurd (has_head.2 ⟨_, rfl⟩) h0
 split at h
 ·rename_i h1
  obtain ⟨r, rfl⟩ := pre_two.1 h1
  injection h with h; injection h with h2 h3
  subst h2
  subst h3
  exact .inr (.inr ⟨rfl, tok0_two (by simp [signs2])⟩)
 cases h
theorem opM_none {s u r : Bs} (h : opS signsM 0 (skipS s) = none) (e : tok1 s = .tok u r) : opOfM u = 0 := by
 unfold tok1 at e
 generalize skipS s = t at h e
 unfold signsM at h
 simp only [opS] at h
 have g1 : ¬ Lib.hasPrefix t [61] = true := fun k => by rw [if_pos k] at h; cases h
 rw [if_neg g1] at h
 have g2 : ¬ Lib.hasPrefix t [33, 61] = true := fun k => by rw [if_pos k] at h; cases h
 rw [if_neg g2] at h
 have g3 : ¬ Lib.hasPrefix t [61, 126] = true := fun k => by rw [if_pos k] at h; cases h
 rw [if_neg g3] at h
 have g4 : ¬ Lib.hasPrefix t [33, 126] = true := fun k => by rw [if_pos k] at h; cases h
 unfold opOfM
 rw [if_neg (fun k => g1 (has_head.2 (tok0_sign1 e k))), if_neg (fun k => g2 (pre_two.2 (tok0_sign2 e k (by simp [signs2])))), if_neg (fun k => g3 (pre_two.2 (tok0_sign2 e k (by simp [signs2])))), if_neg (fun k => g4 (pre_two.2 (tok0_sign2 e k (by simp [signs2]))))]
theorem opF_some {s t : Bs} {k : Nat} (h : opS signsF 0 (skipS s) = some (k, t)) : ∃ u, tok1 s = .tok u t ∧ opOfF u = (k : Int) ∧ 1 ≤ k ∧ k ≤ 4 := by
 unfold tok1
 generalize skipS s = v at h
 unfold signsF at h
 simp only [opS] at h
 repeat' split at h
 all_goals first
  | (cases h; done)
  | (rename_i h1
     obtain ⟨r, rfl⟩ := pre_two.1 h1
     injection h with h; injection h with h2 h3
     subst h2
     subst h3
     exact ⟨_, tok0_two (by simp [signs2]), by decide, by decide, by decide⟩)
theorem opF_none {s u r : Bs} (h : opS signsF 0 (skipS s) = none) (e : tok1 s = .tok u r) : opOfF u = 0 := by
 unfold tok1 at e
 generalize skipS s = t at h e
 unfold signsF at h
 simp only [opS] at h
 have g1 : ¬ Lib.hasPrefix t [124, 61] = true := fun k => by rw [if_pos k] at h; cases h
 rw [if_neg g1] at h
 have g2 : ¬ Lib.hasPrefix t [33, 61] = true := fun k => by rw [if_pos k] at h; cases h
 rw [if_neg g2] at h
 have g3 : ¬ Lib.hasPrefix t [124, 126] = true := fun k => by rw [if_pos k] at h; cases h
 rw [if_neg g3] at h
 have g4 : ¬ Lib.hasPrefix t [33, 126] = true := fun k => by rw [if_pos k] at h; cases h
 unfold opOfF
 rw [if_neg (fun k => g1 (pre_two.2 (tok0_sign2 e k (by simp [signs2])))), if_neg (fun k => g2 (pre_two.2 (tok0_sign2 e k (by simp [signs2])))), if_neg (fun k => g3 (pre_two.2 (tok0_sign2 e k (by simp [signs2])))), if_neg (fun k => g4 (pre_two.2 (tok0_sign2 e k (by simp [signs2]))))]
theorem trim_nil {s : Bs} : Lib.trimB s 32 = [] ↔ skipS s = [] := by
 have key : ∀ l : Bs, skipS l = [] ↔ ∀ c ∈ l, c = 32 := by
  intro l
  induction l with
  | nil => simp [skipS]
  | cons c r ih =>
   rw [skipS]
   by_cases h : c = 32
   ·rw [if_pos h, ih]; simp [h]
   rw [if_neg h]; simp [h]
 unfold Lib.trimB
 rw [skip_trim, key, key]
 unfold Lib.trimRightB
 constructor
 ·intro h c hc
  by_cases h32 : c = 32
  ·exact h32
  refine h c ?_
  rw [List.mem_reverse]
  have h2 : ∀ l : Bs, c ∈ l → c ≠ 32 → c ∈ l.dropWhile (· == 32) := by
   intro l
   induction l with
   | nil => intro h; cases h
   | cons d r ih =>
    intro hm hn
    rw [List.dropWhile_cons]
    split
    ·rename_i hd
     rcases List.mem_cons.1 hm with rfl | hm
     ·simp at hd; exact absurd hd hn
     exact ih hm hn
    exact hm
  exact h2 _ (List.mem_reverse.2 hc) h32
 intro h c hc
 rw [List.mem_reverse] at hc
 exact h c (List.mem_reverse.1 ((List.dropWhile_sublist _).mem hc))
theorem tok_fin {s : Bs} : tok1 s = .fin ↔ skipS s = [] := by
 unfold tok1
 cases skipS s with
 | nil => simp [tok0]
 | cons c r =>
  simp
  rw [tok0]
  repeat' split
  all_goals simp
theorem KM_nil (ms : List MatP) : KM ms [] = none := rfl
theorem KM_name {ms : List MatP} {n : Bs} (h : nameP n = false) (l : List Bs) : KM ms (n :: l) = none := by
 unfold KM
 match l with
 | [] => rfl
 | [_] => rfl
 | [_, _] => rfl
 | o :: v :: d :: r => rw [matsR, if_neg (fun k => by rw [h] at k; cases k.1)]; rfl
theorem KM_op {ms : List MatP} {n o : Bs} (h : opOfM o = 0) (l : List Bs) : KM ms (n :: o :: l) = none := by
 unfold KM
 match l with
 | [] => rfl
 | [_] => rfl
 | v :: d :: r => rw [matsR, if_neg (fun k => k.2.1 h)]; rfl
theorem KM_text {ms : List MatP} {n o v : Bs} (h : isT v = false) (l : List Bs) : KM ms (n :: o :: v :: l) = none := by
 unfold KM
 match l with
 | [] => rfl
 | d :: r => rw [matsR, if_neg (fun k => by rw [h] at k; cases k.2.2)]; rfl
theorem KM_comma {ms : List MatP} {n o v : Bs} (h1 : nameP n = true) (h2 : opOfM o ≠ 0) (l : List Bs) : KM ms (n :: o :: (34 :: v) :: [44] :: l) = KM (ms ++ [⟨n, opOfM o, v⟩]) l := by
 unfold KM
 rw [matsR, if_pos ⟨h1, h2, rfl⟩, if_pos rfl]
 cases matsR l with
 | none => rfl
 | some x => simp
theorem KM_close {ms : List MatP} {n o v : Bs} (h1 : nameP n = true) (h2 : opOfM o ≠ 0) (l : List Bs) : KM ms (n :: o :: (34 :: v) :: [125] :: l) = KF (ms ++ [⟨n, opOfM o, v⟩]) [] l := by
 unfold KM KF
 rw [matsR, if_pos ⟨h1, h2, rfl⟩, if_neg (by decide), if_pos rfl]
 rfl
theorem KM_end {ms : List MatP} {n o v d : Bs} (h1 : d ≠ [44]) (h2 : d ≠ [125]) (l : List Bs) : KM ms (n :: o :: v :: d :: l) = none := by
 unfold KM
 rw [matsR, if_neg h1, if_neg h2]
 split <;> rfl
theorem KF_op {ms : List MatP} {fs : List FilP} {o : Bs} (h : opOfF o = 0) (l : List Bs) : KF ms fs (o :: l) = none := by
 unfold KF
 match l with
 | [] => rfl
 | v :: r => rw [filsR, if_neg (fun k => k.1 h)]; rfl
theorem KF_text {ms : List MatP} {fs : List FilP} {o v : Bs} (h : isT v = false) (l : List Bs) : KF ms fs (o :: v :: l) = none := by
 unfold KF
 rw [filsR, if_neg (fun k => by rw [h] at k; cases k.2)]; rfl
theorem KF_next {ms : List MatP} {fs : List FilP} {o v : Bs} (h : opOfF o ≠ 0) (l : List Bs) : KF ms fs (o :: (34 :: v) :: l) = KF ms (fs ++ [⟨opOfF o, v⟩]) l := by
 unfold KF
 rw [filsR, if_pos ⟨h, rfl⟩]
 cases filsR l with
 | none => rfl
 | some x => simp
theorem isT_no {v : Bs} (h : ∀ t, v ≠ 34 :: t) : isT v = false := by
 cases v with
 | nil => rfl
 | cons c r =>
  unfold isT
  rw [decide_eq_false_iff_not]
  intro e
  exact h r (by rw [e])
open Go
theorem has_esc (d : UInt8) : Lib.contains [34, 92, 110] [d] = (decide (d = 34) || decide (d = 92) || decide (d = 110)) := by
 rw [Bool.eq_iff_iff, contains_one]
 simp [or_assoc]
end Garner
namespace Go.Proofs.YtecejnilajbdpaaGreatDoor
open Go.RowKit Go.Shelf Garner
structure TxSt (w0 wr : World) (g : Nat) (S : Bs) (bad0 bad : Bool) (b : Bs) (v : Value) (i : Nat) : Prop where
 sc : ScanIs wr g S bad
 ob : wr.ownsRow w0.heap.size 5 1 v b.length (b.map bv)
 bu : But [g] w0 wr
 tx : TxS S bad0 b i bad
 le : b.length ≤ i
section
variable {w0 wr w' : World} {g i j : Nat} {S b : Bs} {bad0 ba : Bool} {v v' : Value} {c : UInt8}
theorem TxSt.add (h : TxSt w0 wr g S bad0 ba b v i) (hg : g < w0.heap.size) {o : Obj} (hgw : (wr.alloc o).grownBy w' v.ownBlock) (ho : w'.ownsRow w0.heap.size 5 1 v' (b.length + 1) (b.map bv ++ [bv c])) (e : textG (S.drop i) = (textG (S.drop j)).map fun x => (c :: x.1, x.2)) (hij : i < j) : TxSt w0 w' g S bad0 ba (b ++ [c]) v' j := by
 have hbl : Below wr.heap.size wr (wr.alloc o) := (Below.refl _ _).alloc (Nat.le_refl _) _
 have n1 : some g ≠ v.ownBlock := fun e => by have := (h.ob.lt g e.symm).1; omega
 have hbu : But v.ownBlock.toList (wr.alloc o) w' := But.grown hgw fun k hk => Option.mem_toList.2 hk
 refine ⟨(h.sc.below hbl h.sc.lt).grown hgw n1, ?_, (h.bu.trans (.of_below hbl)).old hbu fun x hx => .inr (h.ob.lt x (Option.mem_toList.1 hx)).1, h.tx.add e, by rw [List.length_append]; have := h.le; simp; omega⟩
 rw [List.length_append, List.map_append]; exact ho
theorem TxSt.bad (h : TxSt w0 wr g S bad0 ba b v i) (hg : g < w0.heap.size) (e : textG (S.drop i) = none) (hij : i < j) : TxSt w0 (wr.setCell ⟨g, 1, none⟩ (.bool true)) g S bad0 true b v j :=
 ⟨h.sc.set_ 1 (.bool true), own_but h.ob ((But.refl [g] wr).setCell (p := ⟨g, 1, none⟩) (by simp) _) (fun k hk hm => by rw [List.mem_singleton] at hm; have := (h.ob.lt k hk).1; omega), h.bu.setCell (by simp) _, h.tx.no e b j, by have := h.le; omega⟩
end
def STextO (g : Nat) (s : Bs) (bad : Bool) (w : World) (e : Ending) (w' : World) : Prop := ∃ t s' bad', e = .returned (strB t) ∧ ScanIs w' g s' bad' ∧ But [g] w w' ∧ s'.length ≤ s.length ∧ t.length ≤ s.length ∧ ((bad' = bad ∧ tok1 s = .tok (34 :: t) s') ∨ (bad' = true ∧ ∀ t r, tok1 s ≠ .tok (34 :: t) r))
theorem vSText (g : Nat) (s : Bs) (bad : Bool) (w : World) (h : ScanIs w g s bad) (hl : s.length ≤ 1000000000) :
  Calls Tryz.prog 77 #[.pointer (some ⟨g, 0, none⟩)] w fun e w' => STextO g s bad w e w' := by
 have hn := vSNext g s ([34] : List UInt8) bad ⟨#[34]⟩ rfl w h
 have hnl := nextS_len ([34] : List UInt8) s
 obtain ⟨q, hq⟩ : ∃ q, Lib.hasPrefix (skipS s) [34] = q := ⟨_, rfl⟩
 obtain ⟨S, hS⟩ : ∃ S, nextS [34] s = S := ⟨_, rfl⟩
 rw [hS] at hn hnl
 rw [hq] at hn
 /- what the loop's end says of the whole -/
 have hend : ∀ bad1 : Bool, bad1 = (if q then bad else true) → ∀ (b' : Bool) (t s' : Bs), ((b' = bad1 ∧ textG S = some (t, s')) ∨ (b' = true ∧ textG S = none)) → ((b' = bad ∧ tok1 s = .tok (34 :: t) s') ∨ (b' = true ∧ ∀ t r, tok1 s ≠ .tok (34 :: t) r)) := by
  intro bad1 hb1 b' t s' hc
  cases q with
  | true =>
   obtain ⟨r, hr⟩ := has_head.1 hq
   have hS2 : S = r := by rw [← hS]; unfold nextS; rw [hq, hr]; rfl
   have htk : tok1 s = (match textG S with | some x => .tok (34 :: x.1) x.2 | none => .bad) := by rw [tok1, hr, tok0_quote, hS2]; cases textG r <;> rfl
   rcases hc with ⟨h1, h2⟩ | ⟨h1, h2⟩
   ·exact .inl ⟨by rw [h1, hb1]; rfl, by rw [htk, h2]⟩
   refine .inr ⟨h1, fun t r e => ?_⟩
   rw [htk, h2] at e
   cases e
  | false =>
   have hno : ∀ t r, tok1 s ≠ .tok (34 :: t) r := fun t r e => by
    obtain ⟨s', e2⟩ := tok_quote e
    rw [has_head.2 ⟨s', e2⟩] at hq
    cases hq
   rcases hc with ⟨h1, h2⟩ | ⟨h1, h2⟩
   ·exact .inr ⟨by rw [h1, hb1]; rfl, hno⟩
   exact .inr ⟨h1, hno⟩
 obtain ⟨T, eT, hT⟩ := str_form S
 obtain ⟨N, hN⟩ : ∃ N, S.length = N := ⟨_, rfl⟩
 rw [hN] at hnl
 have zT : T.size = N := by rw [hT, ← hN]; exact str_size S
 have Hg := Lh h.lt
 have HN := Lh hn; have HT := Lh hT; have HNn := Lh hN; have HeT := Lh eT; have HEnd := Lh hend; have HNl := Lh hnl
 clear hn hT hN eT h hend hS hq
 go_enter Tryz.func77, Tryz.ntmps77
 go_wp2_with fail
 refine HN.out.mono ?_
 rintro e w1 ⟨rfl, k1, b1, -⟩
 rw [ScanIs, HeT.out] at k1
 go_upto_if 8 with fail
 go_cut [] (fun wx => ScanIs wx g S (if q then bad else true) ∧ But [g] w wx)
 case first =>
  have k1' : ScanIs w1 g S bad := by rw [ScanIs, HeT.out]; exact k1
  have c1 : w1.cell? ⟨g, 1, none⟩ = some (.bool bad) := k1.cell 1
  have f1 := k1.frozen 1
  cases q with
  | true =>
   have K1 := Lh k1'; have B1 := Lh b1
   clear k1 k1' b1 c1 f1
   go_wp2
   go_meet
   case rel => exact ⟨K1.out, B1.out⟩
  | false =>
   have K1 := Lh (k1'.set_ 1 (.bool true)); have B1 := Lh (b1.setCell (p := ⟨g, 1, none⟩) (by simp) (.bool true))
   clear k1 k1' b1
   go_wp2
   go_meet
   case rel => exact ⟨K1.out, B1.out⟩
 obtain ⟨kc, bc⟩ := hcut
 obtain ⟨bad1, hb1⟩ : ∃ bad1, (if q then bad else true) = bad1 := ⟨_, rfl⟩
 rw [hb1] at kc
 have hend2 := HEnd.out bad1 hb1.symm
 have H0 : Hid (TxSt w wc g S bad1 bad1 [] (.slice none 0 0) 0) := Lh ⟨kc, World.ownsRow_nil _ _ _ _, bc, TxS.start S bad1, Nat.le_refl _⟩
 have HEn2 := Lh hend2
 clear kc bc hend2 hb1 HEnd HN k1 b1
 go_wp2
 go_loopw [3, 4] (fun v i wr => ∃ (k : Nat) (bad2 : Bool) (b : Bs), k ≤ N ∧ i = .int .i64 k ∧ Hid (TxSt w wr g S bad1 bad2 b v k)) (fun _ i _ => N - (intOf i).toNat)
 case atStart => exact ⟨0, bad1, [], Nat.zero_le _, rfl, H0⟩
 obtain ⟨k, bad2, b, hk, rfl, HSt⟩ := hrel
 obtain ⟨wo, rfl⟩ : ∃ wo : World, wo = wr := ⟨_, rfl⟩
 have wk1 := wS k (by omega)
 have wk2 : IntKind.i64.wrap ((k : Int) + 2) = ((k + 2 : Nat) : Int) := by rw [IntKind.wrap_i64]; omega
 have wk3 : IntKind.i64.wrap (((k + 1 : Nat) : Int) + 1) = ((k + 2 : Nat) : Int) := by rw [IntKind.wrap_i64]; omega
 have hob := HSt.out.ob
 obtain ⟨bl, hbl⟩ : ∃ bl, b.length = bl := ⟨_, rfl⟩
 have hble := HSt.out.le
 rw [hbl] at hob hble
 obtain ⟨BA, bc, rfl, -⟩ := own_form hob
 have ksc := HSt.out.sc
 rw [ScanIs, HeT.out] at ksc
 have c0 : wo.cell? ⟨g, 0, none⟩ = some (.string T) := ksc.cell 0
 have c1 : wo.cell? ⟨g, 1, none⟩ = some (.bool bad2) := ksc.cell 1
 have f0 := ksc.frozen 0
 have f1 := ksc.frozen 1
 have HOb := Lh hob; have Hbl := Lh hbl; have Ksc := Lh ksc
 have hsw := HSt.out.bu.size
 clear hob hbl ksc
 by_cases hlt : k < N
 ·have z1 : (k : Int) < (N : Int) := by omega
  obtain ⟨c, hc⟩ : ∃ c, S[k]? = some c := ⟨_, List.getElem?_eq_getElem (by rw [HNn.out]; exact hlt)⟩
  have htx := textG_at hc
  have i1 := idx_byte (P := Tryz.prog) 9 Tryz.underlying9 T S HT.out (k : Int) k rfl (by rw [HNn.out]; exact hlt) wo
  rw [show byteN S k = c.toNat by unfold byteN; rw [List.getD, hc]; rfl] at i1
  have HTx := Lh htx; have Hc := Lh hc
  clear htx hc
  by_cases h34 : c = 34
  ·subst h34
   have hfin := HEn2.out bad2 b (S.drop (k + 1)) (HSt.out.tx.fin (HTx.out.1 rfl))
   have hex : T.extract (k + 1) N = ⟨(S.drop (k + 1)).toArray⟩ := by
    rw [HT.out]
    apply ByteArray.ext
    rw [← Array.toList_inj, Lib.extract_data]
    simp only
    rw [List.take_of_length_le (by rw [List.length_drop, HNn.out]; exact Nat.le_refl _)]
   obtain ⟨T2, hT2⟩ : ∃ T2, T2 = (⟨(S.drop (k + 1)).toArray⟩ : ByteArray) := ⟨_, rfl⟩
   rw [← hT2] at hex
   obtain ⟨W2, hW2⟩ : ∃ W2, W2 = wo.setCell ⟨g, 0, none⟩ (.string T2) := ⟨_, rfl⟩
   have k2 : Blk W2 g 94 [.string T2, .bool bad2] := by rw [hW2]; exact Ksc.out.set_ 0 _
   have b2 : But [g] wo W2 := by rw [hW2]; exact (But.refl _ _).setCell (by simp) _
   have o2 := own_but HOb.out b2 fun x hx hm => by rw [List.mem_singleton] at hm; have h1 := (HOb.out.lt x hx).1; have h2 := Hg.out; omega
   have hby : Bytes W2 W2.heap.size BA bl b := Row.of_own o2
   have hcv := run_str (c := bc) hby
   have K2 := Lh k2; have B2 := Lh (HSt.out.bu.trans b2); have HFin := Lh hfin; have HT2 := Lh hT2
   clear k2 b2 o2 hby hfin hT2
   go_upto_region 11 with fail
   rw [← hW2]
   clear hW2 f0 f1
   go_wp2
   go_ret
   have hNl := HNl.out
   have hN := HNn.out
   have hb2 := Hbl.out
   exact ⟨b, S.drop (k + 1), bad2, rfl, by show Blk _ _ _ [strB _, _]; rw [strB_str, ← HT2.out]; exact K2.out, B2.out, by rw [List.length_drop]; omega, by omega, HFin.out⟩
  by_cases h10 : c = 10
  ·subst h10
   have HNo := Lh (HTx.out.2.1 rfl)
   have hst2 := HSt.out.bad (j := k + 1) Hg.out HNo.out (by omega)
   have HSt2 := Lh hst2
   clear hst2
   go_wp2
   go_roundw
   case rel => exact ⟨k + 1, true, b, by omega, by first | rfl | go_num, HSt2⟩
   case measure => simp [intOf]; omega
  by_cases h92 : c = 92
  ·subst h92
   by_cases hk1 : k + 1 < N
   ·obtain ⟨d, hd⟩ : ∃ d, S[k + 1]? = some d := ⟨_, List.getElem?_eq_getElem (by rw [HNn.out]; exact hk1)⟩
    obtain ⟨t1, t2, t3⟩ := HTx.out.2.2.1 rfl d hd
    have z2 : ((k + 1 : Nat) : Int) < (N : Int) := by omega
    have z3 : (k : Int) + 1 < (N : Int) := by omega
    have i2 := idx_byte (P := Tryz.prog) 9 Tryz.underlying9 T S HT.out ((k : Int) + 1) (k + 1) (by omega) (by rw [HNn.out]; exact hk1) wo
    rw [show byteN S (k + 1) = d.toNat by unfold byteN; rw [List.getD, hd]; rfl] at i2
    have hex : T.extract (k + 1) (k + 2) = ⟨#[d]⟩ := by
     rw [HT.out]
     apply ByteArray.ext
     apply Array.toList_inj.1
     have h2 := (List.getElem?_eq_some_iff.1 hd)
     simp [ByteArray.extract_mk]
     rw [List.drop_eq_getElem_cons h2.1, h2.2]
     simp
    have hcon := sContains1 ⟨#[34, 92, 110]⟩ d wo
    rw [show (⟨#[34, 92, 110]⟩ : ByteArray).data.toList = [34, 92, 110] from rfl, has_esc] at hcon
    obtain ⟨dn, hdn⟩ : ∃ dn, d.toNat = dn := ⟨_, rfl⟩
    rw [hdn] at i2
    have Hbv : Hid (bv d = .int .u8 (dn : Nat)) := Lh (by show Value.int .u8 _ = _; rw [hdn])
    by_cases hde : d = 34 ∨ d = 92
    ·have HEq := Lh (t1 hde)
     have hb : (decide (d = 34) || decide (d = 92) || decide (d = 110)) = true := by rcases hde with h | h <;> simp [h]
     rw [hb] at hcon
     have hn110 : ¬ (dn : Int) = 110 := by
      rw [← hdn]
      rcases hde with h | h <;> rw [h] <;> decide
     have HCon := Lh hcon; have Hhex := Lh hex
     clear hcon t1 t2 t3 hd hdn hde hb
     go_wp2_with (first | (with_reducible refine HCon.out.mono ?_; rintro e wz ⟨rfl, hz⟩; obtain rfl : wo = wz := hz.symm) | (at_builtin; refine wpList_app _ rfl bytesE rfl rfl (HOb.out.alloc _) rfl (row_newN wo 5 1 1 [.int .u8 (dn : Nat)] rfl) (by intro u hu; rw [List.mem_singleton] at hu; subst hu; rfl) (by omega) (by simp; omega) ?_; intro v8 w8 own8 hg8 hb8 hx8))
     have hst2 := HSt.out.add (c := d) (j := k + 2) Hg.out hg8 (by rw [Hbl.out, Hbv.out]; exact own8) HEq.out (by omega)
     have HSt2 := Lh hst2
     clear own8 hg8 hb8 hx8 hst2
     go_wp2
     go_roundw
     case rel => exact ⟨k + 2, bad2, _, by omega, by first | rfl | go_num, HSt2⟩
     case measure => simp [intOf]; omega
    by_cases hd1 : d = 110
    ·have HEq := Lh (t2 hd1)
     have hb : (decide (d = 34) || decide (d = 92) || decide (d = 110)) = true := by simp [hd1]
     rw [hb] at hcon
     have hn110 : dn = 110 := by rw [← hdn, hd1]; rfl
     subst hn110
     have HCon := Lh hcon
     have Hbv : Hid (bv (10 : UInt8) = .int .u8 10) := Lh rfl
     clear hcon t1 t2 t3 hd hdn hde hb hd1
     go_wp2_with (first | (with_reducible refine HCon.out.mono ?_; rintro e wz ⟨rfl, hz⟩; obtain rfl : wo = wz := hz.symm) | (at_builtin; refine wpList_app _ rfl bytesE rfl rfl (HOb.out.alloc _) rfl (row_newN wo 5 1 1 [.int .u8 10] rfl) (by intro u hu; rw [List.mem_singleton] at hu; subst hu; rfl) (by omega) (by simp; omega) ?_; intro v8 w8 own8 hg8 hb8 hx8))
     have hst2 := HSt.out.add (c := 10) (j := k + 2) Hg.out hg8 (by rw [Hbl.out, Hbv.out]; exact own8) HEq.out (by omega)
     have HSt2 := Lh hst2
     clear own8 hg8 hb8 hx8 hst2
     go_wp2
     go_roundw
     case rel => exact ⟨k + 2, bad2, _, by omega, by first | rfl | go_num, HSt2⟩
     case measure => simp [intOf]; omega
    have HNo := Lh (t3 (fun h => hde (.inl h)) (fun h => hde (.inr h)) hd1)
    have hb : (decide (d = 34) || decide (d = 92) || decide (d = 110)) = false := by simp at hde ⊢; exact ⟨hde, hd1⟩
    rw [hb] at hcon
    have HCon := Lh hcon
    clear hcon t1 t2 t3 hd hdn hde hb hd1
    have hst2 := HSt.out.bad (j := k + 1) Hg.out HNo.out (by omega)
    have HSt2 := Lh hst2
    clear hst2
    go_wp2_with (with_reducible refine HCon.out.mono ?_; rintro e wz ⟨rfl, hz⟩; obtain rfl : wo = wz := hz.symm)
    go_roundw
    case rel => exact ⟨k + 1, true, b, by omega, by first | rfl | go_num, HSt2⟩
    case measure => simp [intOf]; omega
   have z2 : ¬ ((k + 1 : Nat) : Int) < (N : Int) := by omega
   have z3 : ¬ (k : Int) + 1 < (N : Int) := by omega
   have HNo := Lh (HTx.out.2.2.2.1 rfl (List.getElem?_eq_none_iff.2 (by rw [HNn.out]; omega)))
   have hst2 := HSt.out.bad (j := k + 1) Hg.out HNo.out (by omega)
   have HSt2 := Lh hst2
   clear hst2
   go_wp2
   go_roundw
   case rel => exact ⟨k + 1, true, b, by omega, by first | rfl | go_num, HSt2⟩
   case measure => simp [intOf]; omega
  have HEq := Lh (HTx.out.2.2.2.2 h34 h10 h92)
  obtain ⟨dn, hdn⟩ : ∃ dn, c.toNat = dn := ⟨_, rfl⟩
  rw [hdn] at i1
  have n1 : ¬ (dn : Int) = 34 := fun h => h34 (by apply UInt8.toNat.inj; rw [hdn]; exact_mod_cast h)
  have n2 : ¬ (dn : Int) = 10 := fun h => h10 (by apply UInt8.toNat.inj; rw [hdn]; exact_mod_cast h)
  have n3 : ¬ (dn : Int) = 92 := fun h => h92 (by apply UInt8.toNat.inj; rw [hdn]; exact_mod_cast h)
  have m1 : ((dn : Int) == 34) = false := beq_eq_false_iff_ne.2 n1
  have m2 : ((dn : Int) == 10) = false := beq_eq_false_iff_ne.2 n2
  have m3 : ((dn : Int) == 92) = false := beq_eq_false_iff_ne.2 n3
  have Hbv : Hid (bv c = .int .u8 (dn : Nat)) := Lh (by show Value.int .u8 _ = _; rw [hdn])
  clear h34 h10 h92 hdn
  go_wp2_with (at_builtin; refine wpList_app _ rfl bytesE rfl rfl (HOb.out.alloc _) rfl (row_newN wo 5 1 1 [.int .u8 (dn : Nat)] rfl) (by intro u hu; rw [List.mem_singleton] at hu; subst hu; rfl) (by omega) (by simp; omega) ?_; intro v8 w8 own8 hg8 hb8 hx8)
  have hst2 := HSt.out.add (c := c) (j := k + 1) Hg.out hg8 (by rw [Hbl.out, Hbv.out]; exact own8) HEq.out (by omega)
  have HSt2 := Lh hst2
  clear own8 hg8 hb8 hx8 hst2
  go_wp2
  go_roundw
  case rel => exact ⟨k + 1, bad2, _, by omega, by first | rfl | go_num, HSt2⟩
  case measure => simp [intOf]; omega
 obtain rfl : k = N := by omega
 have z1 : ¬ (k : Int) < (k : Int) := by omega
 have hfin : textG S = none → ∃ t : Bs, t.length ≤ s.length ∧ True := fun _ => ⟨[], Nat.zero_le _, trivial⟩
 have hno : textG S = none := by
  rcases HSt.out.tx with ⟨-, h⟩ | ⟨-, h⟩
  ·rw [h, List.drop_eq_nil_of_le (by rw [HNn.out]; exact Nat.le_refl _)]; rfl
  exact h
 have hf2 := HEn2.out true [] [] (.inr ⟨rfl, hno⟩)
 have k2 := (Ksc.out.set_ 1 (.bool true)).set_ 0 (.string ⟨#[]⟩)
 have b2 := (HSt.out.bu.setCell (p := ⟨g, 1, none⟩) (by simp) (.bool true)).setCell (p := ⟨g, 0, none⟩) (by simp) (.string ⟨#[]⟩)
 have f2 : (wo.setCell ⟨g, 1, none⟩ (.bool true)).frozen? ⟨g, 0, none⟩ = false := (Ksc.out.set_ 1 (.bool true)).frozen 0
 have c2 : (wo.setCell ⟨g, 1, none⟩ (.bool true)).cell? ⟨g, 0, none⟩ = some (.string T) := (Ksc.out.set_ 1 (.bool true)).cell 0
 have K2 := Lh k2; have B2 := Lh b2; have Hf2 := Lh hf2
 clear k2 b2 hf2 hno hfin
 go_wp2
 go_ret
 exact ⟨[], [], true, rfl, K2.out, B2.out, Nat.zero_le _, Nat.zero_le _, by simpa using Hf2.out⟩
open Go.RowKit Go.Shelf Garner
structure SqC (w0 wr : World) (g qb L : Nat) (V1 V2 : Value) (ms : List MatP) (fs : List FilP) (s : Bs) (bad : Bool) : Prop where
 sc : ScanIs wr g s bad
 qk : Blk wr qb 25 [V1, V2]
 o1 : wr.ownsRow w0.heap.size 69 3 V1 ms.length (ms.flatMap MatP.cells)
 o2 : wr.ownsRow w0.heap.size 71 2 V2 fs.length (fs.flatMap FilP.cells)
 bu : But [g] w0 wr
 sl : s.length ≤ L
 sm : ∀ m ∈ ms, m.name.length ≤ L ∧ m.val.length ≤ L
 sf : ∀ f ∈ fs, f.text.length ≤ L
 gl : g < w0.heap.size
 ql : w0.heap.size ≤ qb
section
variable {w0 wr w' : World} {g qb L mb : Nat} {V1 V2 V' : Value} {ms : List MatP} {fs : List FilP} {s s' : Bs} {bad bad' : Bool} {m : MatP} {f : FilP}
theorem SqC.scan (h : SqC w0 wr g qb L V1 V2 ms fs s bad) (hs : ScanIs w' g s' bad') (hb : But [g] wr w') (hl : s'.length ≤ s.length) : SqC w0 w' g qb L V1 V2 ms fs s' bad' := by
 have n0 : qb ∉ [g] := by have := h.gl; have := h.ql; simp; omega
 exact ⟨hs, h.qk.but hb n0, own_but h.o1 hb fun k hk hm => (by rw [List.mem_singleton] at hm; have := (h.o1.lt k hk).1; have := h.gl; omega), own_but h.o2 hb fun k hk hm => (by rw [List.mem_singleton] at hm; have := (h.o2.lt k hk).1; have := h.gl; omega), h.bu.trans hb, Nat.le_trans hl h.sl, h.sm, h.sf, h.gl, h.ql⟩
theorem SqC.below (h : SqC w0 wr g qb L V1 V2 ms fs s bad) (hb : Below wr.heap.size wr w') : SqC w0 w' g qb L V1 V2 ms fs s bad :=
 ⟨h.sc.below hb h.sc.lt, h.qk.below hb h.qk.lt, own_below h.o1 hb, own_below h.o2 hb, h.bu.trans (.of_below hb), h.sl, h.sm, h.sf, h.gl, h.ql⟩
theorem SqC.box (h : SqC w0 wr g qb L V1 V2 ms fs s bad) (hb : But [mb] wr w') (hq : qb ≠ mb) (h1 : V1.ownBlock ≠ some mb) (h2 : V2.ownBlock ≠ some mb) (h0 : w0.heap.size ≤ mb) : SqC w0 w' g qb L V1 V2 ms fs s bad := by
 have hg := h.gl
 exact ⟨h.sc.but hb (by simp; omega), h.qk.but hb (by simpa using hq), own_but h.o1 hb fun k hk hm => h1 (by rw [List.mem_singleton] at hm; rw [← hm]; exact hk), own_but h.o2 hb fun k hk hm => h2 (by rw [List.mem_singleton] at hm; rw [← hm]; exact hk), h.bu.old hb (fun x hx => .inr (by rw [List.mem_singleton] at hx; rw [hx]; exact h0)), h.sl, h.sm, h.sf, hg, h.ql⟩
theorem SqC.addM (h : SqC w0 wr g qb L V1 V2 ms fs s bad) (hm : m.name.length ≤ L ∧ m.val.length ≤ L) (hgw : wr.grownBy w' V1.ownBlock) (ho : w'.ownsRow w0.heap.size 69 3 V' (ms.length + 1) (ms.flatMap MatP.cells ++ m.cells)) (hd : ∀ k, V1.ownBlock = some k → V2.ownBlock ≠ some k) : SqC w0 (w'.setCell ⟨qb, 0, none⟩ V') g qb L V' V2 (ms ++ [m]) fs s bad := by
 have hg := h.gl
 have hbu : But V1.ownBlock.toList wr w' := But.grown hgw fun k hk => Option.mem_toList.2 hk
 have lo : ∀ k ∈ V1.ownBlock.toList, w0.heap.size ≤ k := fun k hk => (h.o1.lt k (Option.mem_toList.1 hk)).1
 have nq : qb ∉ V1.ownBlock.toList := own_blk h.o1 h.qk (by decide)
 have hq := h.qk.but hbu nq
 have kq : KeepM [25] w' (w'.setCell ⟨qb, 0, none⟩ V') := KeepM.setCell (.refl _ w') (p := ⟨qb, 0, none⟩) (show w'.heap[qb]? = _ from hq) (by simp) _
 refine ⟨kq.blk (h.sc.but hbu fun hk => by have := lo g hk; omega) (by decide), hq.set_ 0 V', ?_, kq.own (own_but h.o2 hbu fun k hk hm => hd k (Option.mem_toList.1 hm) hk) (by decide), (h.bu.old hbu fun x hx => .inr (lo x hx)).old ((But.refl [qb] w').setCell (p := ⟨qb, 0, none⟩) (by simp) V') (fun x hx => .inr (by rw [List.mem_singleton] at hx; rw [hx]; exact h.ql)), h.sl, fun x hx => ?_, h.sf, hg, h.ql⟩
 ·rw [List.length_append, List.flatMap_append]
  refine kq.own ?_ (by decide)
  simpa using ho
 rcases List.mem_append.1 hx with hx | hx
 ·exact h.sm x hx
 rw [List.mem_singleton] at hx; rw [hx]; exact hm
theorem SqC.addF (h : SqC w0 wr g qb L V1 V2 ms fs s bad) (hf : f.text.length ≤ L) (hgw : wr.grownBy w' V2.ownBlock) (ho : w'.ownsRow w0.heap.size 71 2 V' (fs.length + 1) (fs.flatMap FilP.cells ++ f.cells)) (hd : ∀ k, V2.ownBlock = some k → V1.ownBlock ≠ some k) : SqC w0 (w'.setCell ⟨qb, 1, none⟩ V') g qb L V1 V' ms (fs ++ [f]) s bad := by
 have hg := h.gl
 have hbu : But V2.ownBlock.toList wr w' := But.grown hgw fun k hk => Option.mem_toList.2 hk
 have lo : ∀ k ∈ V2.ownBlock.toList, w0.heap.size ≤ k := fun k hk => (h.o2.lt k (Option.mem_toList.1 hk)).1
 have nq : qb ∉ V2.ownBlock.toList := own_blk h.o2 h.qk (by decide)
 have hq := h.qk.but hbu nq
 have kq : KeepM [25] w' (w'.setCell ⟨qb, 1, none⟩ V') := KeepM.setCell (.refl _ w') (p := ⟨qb, 1, none⟩) (show w'.heap[qb]? = _ from hq) (by simp) _
 refine ⟨kq.blk (h.sc.but hbu fun hk => by have := lo g hk; omega) (by decide), hq.set_ 1 V', kq.own (own_but h.o1 hbu fun k hk hm => hd k (Option.mem_toList.1 hm) hk) (by decide), ?_, (h.bu.old hbu fun x hx => .inr (lo x hx)).old ((But.refl [qb] w').setCell (p := ⟨qb, 1, none⟩) (by simp) V') (fun x hx => .inr (by rw [List.mem_singleton] at hx; rw [hx]; exact h.ql)), h.sl, h.sm, fun x hx => ?_, hg, h.ql⟩
 ·rw [List.length_append, List.flatMap_append]
  refine kq.own ?_ (by decide)
  simpa using ho
 rcases List.mem_append.1 hx with hx | hx
 ·exact h.sf x hx
 rw [List.mem_singleton] at hx; rw [hx]; exact hf
theorem SqC.apart (h : SqC w0 wr g qb L V1 V2 ms fs s bad) : (∀ k, V1.ownBlock = some k → V2.ownBlock ≠ some k) ∧ (∀ k, V2.ownBlock = some k → V1.ownBlock ≠ some k) :=
 ⟨fun k h1 h2 => own_own h.o1 h.o2 (by decide) k h2 (Option.mem_toList.2 h1), fun k h1 h2 => own_own h.o1 h.o2 (by decide) k h1 (Option.mem_toList.2 h2)⟩
end
def scanM (wr : World) (g : Nat) : Nat := match wr.cell? ⟨g, 1, none⟩ with
 | some (.bool true) => 0
 | _ => match wr.cell? ⟨g, 0, none⟩ with
  | some (.string S) => S.size + 1
  | _ => 0
theorem scanM_is {w : World} {g : Nat} {s : Bs} {bad : Bool} (h : ScanIs w g s bad) : scanM w g = if bad then 0 else s.length + 1 := by
 have c0 : w.cell? ⟨g, 0, none⟩ = some (strB s) := h.cell 0
 have c1 : w.cell? ⟨g, 1, none⟩ = some (.bool bad) := h.cell 1
 unfold scanM
 rw [c0, c1]
 cases bad with
 | true => rfl
 | false =>
  show (⟨s.toArray⟩ : ByteArray).size + 1 = _
  rw [str_size]; rfl
end Go.Proofs.YtecejnilajbdpaaGreatDoor
