import Derived.Test.YtecejnilajbdpaaGreatDoorTu41
import Derived.Test.YtecejnilajbdpaaGreatDoorTu42
/-! query's grammar: what the scanner's steps say of the tokens -/
namespace Garner
open Go
/-- what is left: K tells the whole from the tokens to come -/
def InvK (TOT : Option QueryP) (K : List Bs → Option QueryP) (s : Bs) (bad : Bool) : Prop := (bad = false ∧ TOT = (toks s).bind K) ∨ (bad = true ∧ TOT = none)
def KF (ms : List MatP) (fs : List FilP) (l : List Bs) : Option QueryP := (filsR l).map fun f => ⟨ms, fs ++ f⟩
def KM (ms : List MatP) (l : List Bs) : Option QueryP := (matsR l).bind fun x => (filsR x.2).map fun f => ⟨ms ++ x.1, f⟩
section
variable {TOT : Option QueryP} {K K' : List Bs → Option QueryP} {s t r : Bs} {bad : Bool}
theorem InvK.tok (h : InvK TOT K s bad) (e : tok1 s = .tok t r) : InvK TOT (fun l => K (t :: l)) r bad := by
  rcases h with ⟨h1, h2⟩ | h
  · refine .inl ⟨h1, ?_⟩
    rw [h2, toks_tok e]
    cases toks r <;> rfl
  · exact .inr h
theorem InvK.toNone (h : InvK TOT K s bad) (h0 : K [] = none) (h1 : ∀ t r, tok1 s = .tok t r → ∀ l, K (t :: l) = none) : TOT = none := by
  rcases h with ⟨-, h2⟩ | h
  · rw [h2]
    cases e : tok1 s with
    | fin => rw [toks_fin e]; exact h0
    | bad => rw [toks_bad e]; rfl
    | tok t r =>
      rw [toks_tok e]
      cases toks r with
      | none => rfl
      | some l => exact h1 t r e l
  · exact h.2
theorem InvK.ofNone (h : TOT = none) : InvK TOT K s true := .inr ⟨rfl, h⟩
theorem InvK.skip (h : InvK TOT K s bad) : InvK TOT K (skipS s) bad := by
  rcases h with ⟨h1, h2⟩ | h
  · refine .inl ⟨h1, ?_⟩
    rw [h2, toks_eq s, toks_eq (skipS s), tok1_skip]
  · exact .inr h
theorem InvK.to (h : InvK TOT K s bad) (e : ∀ l, K l = K' l) : InvK TOT K' s bad := by
  have : K = K' := funext e
  rw [← this]; exact h
end
theorem name_tok {s : Bs} (h : nameP (nameHead (skipS s)) = true) : tok1 s = .tok (nameHead (skipS s)) (nameRest (skipS s)) := by
  unfold nameP at h
  rw [Bool.and_eq_true, Bool.and_eq_true] at h
  cases e : skipS s with
  | nil => rw [e] at h; simp [nameHead] at h
  | cons c r =>
    rw [e] at h
    have hc : nameC false c = true := by
      cases hn : nameC false c with
      | true => rfl
      | false => rw [nameHead, hn] at h; simp at h
    obtain ⟨n1, n2, n3, n4, n5, -⟩ := nameC_no hc
    rw [tok1, e, tok0, if_neg (sign2_head n1 n2 n3), if_neg n4, if_neg n5, if_pos hc]
theorem name_no {s t r : Bs} (h : nameP (nameHead (skipS s)) = false) (e : tok1 s = .tok t r) : nameP t = false := by
  cases hn : nameP t with
  | false => rfl
  | true =>
    exfalso
    have h2 := hn
    unfold nameP at h2
    rw [Bool.and_eq_true, Bool.and_eq_true] at h2
    cases t with
    | nil => simp at h2
    | cons d t' =>
      have h3 := h2.2
      rw [nameAll, Bool.and_eq_true] at h3
      have hd := nameC_more h3.1
      obtain ⟨c, s', e2, rfl⟩ := tok0_head e
      obtain ⟨n1, n2, n3, n4, n5, -⟩ := nameC_no hd
      have e3 := e
      rw [tok1, e2, tok0, if_neg (sign2_head n1 n2 n3), if_neg n4, if_neg n5, if_pos hd] at e3
      injection e3 with e3
      rw [e2, e3, hn] at h
      cases h
theorem sign_tok {s : Bs} {c : UInt8} (hc : c ∈ [(123 : UInt8), 125, 44]) (h : Lib.hasPrefix (skipS s) [c] = true) : tok1 s = .tok [c] (nextS [c] s) := by
  obtain ⟨r, hr⟩ := has_head.1 h
  have hn : nextS [c] s = r := by unfold nextS; rw [h, hr]; rfl
  have k : c ≠ 33 ∧ c ≠ 61 ∧ c ≠ 124 ∧ c ∈ signs1 := by
    simp at hc
    rcases hc with rfl | rfl | rfl <;> decide
  rw [tok1, hr, tok0, if_neg (sign2_head k.1 k.2.1 k.2.2.1), if_pos k.2.2.2, hn]
theorem sign_no {s t r : Bs} {c : UInt8} (h : Lib.hasPrefix (skipS s) [c] = false) (e : tok1 s = .tok t r) : t ≠ [c] := by
  rintro rfl
  obtain ⟨d, s', e2, rfl⟩ := tok0_head e
  rw [has_head.2 ⟨s', e2⟩] at h
  cases h
theorem next_no {s sign : Bs} (h : Lib.hasPrefix (skipS s) sign = false) : nextS sign s = skipS s := by unfold nextS; rw [h]; rfl
def signsM : List Bs := [[61], [33, 61], [61, 126], [33, 126]]
def signsF : List Bs := [[124, 61], [33, 61], [124, 126], [33, 126]]
theorem pre_two {t : Bs} {a b : UInt8} : Lib.hasPrefix t [a, b] = true ↔ ∃ r, t = a :: b :: r := by
  cases t with
  | nil => simp [Lib.hasPrefix]
  | cons c t =>
    cases t with
    | nil => simp [Lib.hasPrefix, List.isPrefixOf]
    | cons d r =>
      simp [Lib.hasPrefix, List.isPrefixOf]
      constructor
      · rintro ⟨rfl, rfl⟩; exact ⟨rfl, rfl⟩
      · rintro ⟨rfl, rfl⟩; exact ⟨rfl, rfl⟩
theorem tok0_two {a b : UInt8} {r : Bs} (h : [a, b] ∈ signs2) : tok0 (a :: b :: r) = .tok [a, b] r := by
  rw [tok0, if_pos (by simpa using h)]
  rfl
/-- a token's first byte tells what it may be -/
theorem tok0_sign2 {t u r : Bs} {a b : UInt8} (e : tok0 t = .tok u r) (hu : u = [a, b]) (h : [a, b] ∈ signs2) : ∃ r', t = a :: b :: r' := by
  subst hu
  cases t with
  | nil => cases e
  | cons c t =>
    rw [tok0] at e
    split at e
    · injection e with e1 e2
      cases t with
      | nil => cases e1
      | cons d t => injection e1 with e1 e3; injection e3 with e3; exact ⟨t, by rw [e1, e3]⟩
    split at e
    · injection e with e1; injection e1 with _ e1; cases e1
    split at e
    · split at e
      · injection e with e1; injection e1 with e1 _
        exfalso
        subst e1
        simp [signs2] at h
      · cases e
    split at e
    · rename_i hn
      rw [nameHead, if_pos hn] at e
      injection e with e1; injection e1 with e1 _
      exfalso
      subst e1
      have k := nameC_no hn
      simp [signs2, k.1, k.2.1, k.2.2.1] at h
    · cases e
theorem tok0_sign1 {t u r : Bs} (e : tok0 t = .tok u r) (hu : u = [61]) : ∃ r', t = 61 :: r' := by
  subst hu
  obtain ⟨c, s', e1, rfl⟩ := tok0_head e
  exact ⟨s', e1⟩
theorem opM_some {s t : Bs} {k : Nat} (h : opS signsM 0 (skipS s) = some (k, t)) : (k = 1 ∧ (∀ t', t = 126 :: t' → tok1 s = .tok [61, 126] t') ∧ ((¬ ∃ t', t = 126 :: t') → tok1 s = .tok [61] t)) ∨ (k = 2 ∧ tok1 s = .tok [33, 61] t) ∨ (k = 4 ∧ tok1 s = .tok [33, 126] t) := by
  unfold tok1
  generalize skipS s = u at h
  unfold signsM at h
  simp only [opS] at h
  split at h
  · rename_i h1
    obtain ⟨r, rfl⟩ := has_head.1 h1
    injection h with h; injection h with h2 h3
    subst h2
    subst h3
    refine .inl ⟨rfl, fun t' e => ?_, fun hn => ?_⟩
    · have e : r = 126 :: t' := e
      subst e
      exact tok0_two (by simp [signs2])
    · show tok0 (61 :: r) = .tok [61] r
      rw [tok0, if_neg ?_, if_pos (by decide)]
      cases r with
      | nil => simp [signs2]
      | cons d r => simp [signs2]; exact fun hd => hn ⟨r, by rw [hd]; rfl⟩
  split at h
  · rename_i h1
    obtain ⟨r, rfl⟩ := pre_two.1 h1
    injection h with h; injection h with h2 h3
    subst h2
    subst h3
    exact .inr (.inl ⟨rfl, tok0_two (by simp [signs2])⟩)
  split at h
  · rename_i h0 _ h1
    obtain ⟨r, rfl⟩ := pre_two.1 h1
    exact absurd (has_head.2 ⟨_, rfl⟩) h0
  split at h
  · rename_i h1
    obtain ⟨r, rfl⟩ := pre_two.1 h1
    injection h with h; injection h with h2 h3
    subst h2
    subst h3
    exact .inr (.inr ⟨rfl, tok0_two (by simp [signs2])⟩)
  · cases h
theorem opM_none {s u r : Bs} (h : opS signsM 0 (skipS s) = none) (e : tok1 s = .tok u r) : opOfM u = 0 := by
  unfold tok1 at e
  generalize skipS s = t at h e
  unfold signsM at h
  simp only [opS] at h
  have g1 : ¬ Lib.hasPrefix t [61] = true := fun k => by rw [if_pos k] at h; cases h
  rw [if_neg g1] at h
  have g2 : ¬ Lib.hasPrefix t [33, 61] = true := fun k => by rw [if_pos k] at h; cases h
  rw [if_neg g2] at h
  have g3 : ¬ Lib.hasPrefix t [61, 126] = true := fun k => by rw [if_pos k] at h; cases h
  rw [if_neg g3] at h
  have g4 : ¬ Lib.hasPrefix t [33, 126] = true := fun k => by rw [if_pos k] at h; cases h
  unfold opOfM
  rw [if_neg (fun k => g1 (has_head.2 (tok0_sign1 e k))), if_neg (fun k => g2 (pre_two.2 (tok0_sign2 e k (by simp [signs2])))), if_neg (fun k => g3 (pre_two.2 (tok0_sign2 e k (by simp [signs2])))), if_neg (fun k => g4 (pre_two.2 (tok0_sign2 e k (by simp [signs2]))))]
theorem opF_some {s t : Bs} {k : Nat} (h : opS signsF 0 (skipS s) = some (k, t)) : ∃ u, tok1 s = .tok u t ∧ opOfF u = (k : Int) ∧ 1 ≤ k ∧ k ≤ 4 := by
  unfold tok1
  generalize skipS s = v at h
  unfold signsF at h
  simp only [opS] at h
  repeat' split at h
  all_goals first
    | (cases h; done)
    | (rename_i h1
       obtain ⟨r, rfl⟩ := pre_two.1 h1
       injection h with h; injection h with h2 h3
       subst h2
       subst h3
       exact ⟨_, tok0_two (by simp [signs2]), by decide, by decide, by decide⟩)
theorem opF_none {s u r : Bs} (h : opS signsF 0 (skipS s) = none) (e : tok1 s = .tok u r) : opOfF u = 0 := by
  unfold tok1 at e
  generalize skipS s = t at h e
  unfold signsF at h
  simp only [opS] at h
  have g1 : ¬ Lib.hasPrefix t [124, 61] = true := fun k => by rw [if_pos k] at h; cases h
  rw [if_neg g1] at h
  have g2 : ¬ Lib.hasPrefix t [33, 61] = true := fun k => by rw [if_pos k] at h; cases h
  rw [if_neg g2] at h
  have g3 : ¬ Lib.hasPrefix t [124, 126] = true := fun k => by rw [if_pos k] at h; cases h
  rw [if_neg g3] at h
  have g4 : ¬ Lib.hasPrefix t [33, 126] = true := fun k => by rw [if_pos k] at h; cases h
  unfold opOfF
  rw [if_neg (fun k => g1 (pre_two.2 (tok0_sign2 e k (by simp [signs2])))), if_neg (fun k => g2 (pre_two.2 (tok0_sign2 e k (by simp [signs2])))), if_neg (fun k => g3 (pre_two.2 (tok0_sign2 e k (by simp [signs2])))), if_neg (fun k => g4 (pre_two.2 (tok0_sign2 e k (by simp [signs2]))))]
theorem trim_nil {s : Bs} : Lib.trimB s 32 = [] ↔ skipS s = [] := by
  have key : ∀ l : Bs, skipS l = [] ↔ ∀ c ∈ l, c = 32 := by
    intro l
    induction l with
    | nil => simp [skipS]
    | cons c r ih =>
      rw [skipS]
      by_cases h : c = 32
      · rw [if_pos h, ih]; simp [h]
      · rw [if_neg h]; simp [h]
  unfold Lib.trimB
  rw [skip_trim, key, key]
  unfold Lib.trimRightB
  constructor
  · intro h c hc
    by_cases h32 : c = 32
    · exact h32
    · refine h c ?_
      rw [List.mem_reverse]
      have h2 : ∀ l : Bs, c ∈ l → c ≠ 32 → c ∈ l.dropWhile (· == 32) := by
        intro l
        induction l with
        | nil => intro h; cases h
        | cons d r ih =>
          intro hm hn
          rw [List.dropWhile_cons]
          split
          · rename_i hd
            rcases List.mem_cons.1 hm with rfl | hm
            · simp at hd; exact absurd hd hn
            · exact ih hm hn
          · exact hm
      exact h2 _ (List.mem_reverse.2 hc) h32
  · intro h c hc
    rw [List.mem_reverse] at hc
    exact h c (List.mem_reverse.1 ((List.dropWhile_sublist _).mem hc))
theorem tok_fin {s : Bs} : tok1 s = .fin ↔ skipS s = [] := by
  unfold tok1
  cases skipS s with
  | nil => simp [tok0]
  | cons c r =>
    simp
    rw [tok0]
    repeat' split
    all_goals simp
/-! the continuations -/
theorem KM_nil (ms : List MatP) : KM ms [] = none := rfl
theorem KM_name {ms : List MatP} {n : Bs} (h : nameP n = false) (l : List Bs) : KM ms (n :: l) = none := by
  unfold KM
  match l with
  | [] => rfl
  | [_] => rfl
  | [_, _] => rfl
  | o :: v :: d :: r => rw [matsR, if_neg (fun k => by rw [h] at k; cases k.1)]; rfl
theorem KM_op {ms : List MatP} {n o : Bs} (h : opOfM o = 0) (l : List Bs) : KM ms (n :: o :: l) = none := by
  unfold KM
  match l with
  | [] => rfl
  | [_] => rfl
  | v :: d :: r => rw [matsR, if_neg (fun k => k.2.1 h)]; rfl
theorem KM_text {ms : List MatP} {n o v : Bs} (h : isT v = false) (l : List Bs) : KM ms (n :: o :: v :: l) = none := by
  unfold KM
  match l with
  | [] => rfl
  | d :: r => rw [matsR, if_neg (fun k => by rw [h] at k; cases k.2.2)]; rfl
theorem KM_comma {ms : List MatP} {n o v : Bs} (h1 : nameP n = true) (h2 : opOfM o ≠ 0) (l : List Bs) : KM ms (n :: o :: (34 :: v) :: [44] :: l) = KM (ms ++ [⟨n, opOfM o, v⟩]) l := by
  unfold KM
  rw [matsR, if_pos ⟨h1, h2, rfl⟩, if_pos rfl]
  cases matsR l with
  | none => rfl
  | some x => simp
theorem KM_close {ms : List MatP} {n o v : Bs} (h1 : nameP n = true) (h2 : opOfM o ≠ 0) (l : List Bs) : KM ms (n :: o :: (34 :: v) :: [125] :: l) = KF (ms ++ [⟨n, opOfM o, v⟩]) [] l := by
  unfold KM KF
  rw [matsR, if_pos ⟨h1, h2, rfl⟩, if_neg (by decide), if_pos rfl]
  rfl
theorem KM_end {ms : List MatP} {n o v d : Bs} (h1 : d ≠ [44]) (h2 : d ≠ [125]) (l : List Bs) : KM ms (n :: o :: v :: d :: l) = none := by
  unfold KM
  rw [matsR, if_neg h1, if_neg h2]
  split <;> rfl
theorem KF_op {ms : List MatP} {fs : List FilP} {o : Bs} (h : opOfF o = 0) (l : List Bs) : KF ms fs (o :: l) = none := by
  unfold KF
  match l with
  | [] => rfl
  | v :: r => rw [filsR, if_neg (fun k => k.1 h)]; rfl
theorem KF_text {ms : List MatP} {fs : List FilP} {o v : Bs} (h : isT v = false) (l : List Bs) : KF ms fs (o :: v :: l) = none := by
  unfold KF
  rw [filsR, if_neg (fun k => by rw [h] at k; cases k.2)]; rfl
theorem KF_next {ms : List MatP} {fs : List FilP} {o v : Bs} (h : opOfF o ≠ 0) (l : List Bs) : KF ms fs (o :: (34 :: v) :: l) = KF ms (fs ++ [⟨opOfF o, v⟩]) l := by
  unfold KF
  rw [filsR, if_pos ⟨h, rfl⟩]
  cases filsR l with
  | none => rfl
  | some x => simp
theorem isT_no {v : Bs} (h : ∀ t, v ≠ 34 :: t) : isT v = false := by
  cases v with
  | nil => rfl
  | cons c r =>
    unfold isT
    rw [decide_eq_false_iff_not]
    intro e
    exact h r (by rw [e])
end Garner

/-! query's scanner: query, its state -/
namespace Go.Proofs.YtecejnilajbdpaaGreatDoor
open Go.RowKit Go.Shelf Garner
/-- a query under way: the scanner g, the query's box qb, its rows -/
structure SqC (w0 wr : World) (g qb L : Nat) (V1 V2 : Value) (ms : List MatP) (fs : List FilP) (s : Bs) (bad : Bool) : Prop where
  sc : ScanIs wr g s bad
  qk : Blk wr qb 25 [V1, V2]
  o1 : wr.ownsRow w0.heap.size 69 3 V1 ms.length (ms.flatMap MatP.cells)
  o2 : wr.ownsRow w0.heap.size 71 2 V2 fs.length (fs.flatMap FilP.cells)
  bu : But [g] w0 wr
  sl : s.length ≤ L
  sm : ∀ m ∈ ms, m.name.length ≤ L ∧ m.val.length ≤ L
  sf : ∀ f ∈ fs, f.text.length ≤ L
  gl : g < w0.heap.size
  ql : w0.heap.size ≤ qb
section
variable {w0 wr w' : World} {g qb L mb : Nat} {V1 V2 V' : Value} {ms : List MatP} {fs : List FilP} {s s' : Bs} {bad bad' : Bool} {m : MatP} {f : FilP}
theorem SqC.scan (h : SqC w0 wr g qb L V1 V2 ms fs s bad) (hs : ScanIs w' g s' bad') (hb : But [g] wr w') (hl : s'.length ≤ s.length) : SqC w0 w' g qb L V1 V2 ms fs s' bad' := by
  have n0 : qb ∉ [g] := by have := h.gl; have := h.ql; simp; omega
  exact ⟨hs, h.qk.but hb n0, own_but h.o1 hb fun k hk hm => (by rw [List.mem_singleton] at hm; have := (h.o1.lt k hk).1; have := h.gl; omega), own_but h.o2 hb fun k hk hm => (by rw [List.mem_singleton] at hm; have := (h.o2.lt k hk).1; have := h.gl; omega), h.bu.trans hb, Nat.le_trans hl h.sl, h.sm, h.sf, h.gl, h.ql⟩
theorem SqC.below (h : SqC w0 wr g qb L V1 V2 ms fs s bad) (hb : Below wr.heap.size wr w') : SqC w0 w' g qb L V1 V2 ms fs s bad :=
  ⟨h.sc.below hb h.sc.lt, h.qk.below hb h.qk.lt, own_below h.o1 hb, own_below h.o2 hb, h.bu.trans (.of_below hb), h.sl, h.sm, h.sf, h.gl, h.ql⟩
/-- a box of the call's own is written -/
theorem SqC.box (h : SqC w0 wr g qb L V1 V2 ms fs s bad) (hb : But [mb] wr w') (hq : qb ≠ mb) (h1 : V1.ownBlock ≠ some mb) (h2 : V2.ownBlock ≠ some mb) (h0 : w0.heap.size ≤ mb) : SqC w0 w' g qb L V1 V2 ms fs s bad := by
  have hg := h.gl
  exact ⟨h.sc.but hb (by simp; omega), h.qk.but hb (by simpa using hq), own_but h.o1 hb fun k hk hm => h1 (by rw [List.mem_singleton] at hm; rw [← hm]; exact hk), own_but h.o2 hb fun k hk hm => h2 (by rw [List.mem_singleton] at hm; rw [← hm]; exact hk), h.bu.old hb (fun x hx => .inr (by rw [List.mem_singleton] at hx; rw [hx]; exact h0)), h.sl, h.sm, h.sf, hg, h.ql⟩
theorem SqC.addM (h : SqC w0 wr g qb L V1 V2 ms fs s bad) (hm : m.name.length ≤ L ∧ m.val.length ≤ L) (hgw : wr.grownBy w' V1.ownBlock) (ho : w'.ownsRow w0.heap.size 69 3 V' (ms.length + 1) (ms.flatMap MatP.cells ++ m.cells)) (hd : ∀ k, V1.ownBlock = some k → V2.ownBlock ≠ some k) : SqC w0 (w'.setCell ⟨qb, 0, none⟩ V') g qb L V' V2 (ms ++ [m]) fs s bad := by
  have hg := h.gl
  have hbu : But V1.ownBlock.toList wr w' := But.grown hgw fun k hk => Option.mem_toList.2 hk
  have lo : ∀ k ∈ V1.ownBlock.toList, w0.heap.size ≤ k := fun k hk => (h.o1.lt k (Option.mem_toList.1 hk)).1
  have nq : qb ∉ V1.ownBlock.toList := own_blk h.o1 h.qk (by decide)
  have hq := h.qk.but hbu nq
  have kq : KeepM [25] w' (w'.setCell ⟨qb, 0, none⟩ V') := KeepM.setCell (.refl _ w') (p := ⟨qb, 0, none⟩) (show w'.heap[qb]? = _ from hq) (by simp) _
  refine ⟨kq.blk (h.sc.but hbu fun hk => by have := lo g hk; omega) (by decide), hq.set_ 0 V', ?_, kq.own (own_but h.o2 hbu fun k hk hm => hd k (Option.mem_toList.1 hm) hk) (by decide), (h.bu.old hbu fun x hx => .inr (lo x hx)).old ((But.refl [qb] w').setCell (p := ⟨qb, 0, none⟩) (by simp) V') (fun x hx => .inr (by rw [List.mem_singleton] at hx; rw [hx]; exact h.ql)), h.sl, fun x hx => ?_, h.sf, hg, h.ql⟩
  · rw [List.length_append, List.flatMap_append]
    refine kq.own ?_ (by decide)
    simpa using ho
  · rcases List.mem_append.1 hx with hx | hx
    · exact h.sm x hx
    · rw [List.mem_singleton] at hx; rw [hx]; exact hm
theorem SqC.addF (h : SqC w0 wr g qb L V1 V2 ms fs s bad) (hf : f.text.length ≤ L) (hgw : wr.grownBy w' V2.ownBlock) (ho : w'.ownsRow w0.heap.size 71 2 V' (fs.length + 1) (fs.flatMap FilP.cells ++ f.cells)) (hd : ∀ k, V2.ownBlock = some k → V1.ownBlock ≠ some k) : SqC w0 (w'.setCell ⟨qb, 1, none⟩ V') g qb L V1 V' ms (fs ++ [f]) s bad := by
  have hg := h.gl
  have hbu : But V2.ownBlock.toList wr w' := But.grown hgw fun k hk => Option.mem_toList.2 hk
  have lo : ∀ k ∈ V2.ownBlock.toList, w0.heap.size ≤ k := fun k hk => (h.o2.lt k (Option.mem_toList.1 hk)).1
  have nq : qb ∉ V2.ownBlock.toList := own_blk h.o2 h.qk (by decide)
  have hq := h.qk.but hbu nq
  have kq : KeepM [25] w' (w'.setCell ⟨qb, 1, none⟩ V') := KeepM.setCell (.refl _ w') (p := ⟨qb, 1, none⟩) (show w'.heap[qb]? = _ from hq) (by simp) _
  refine ⟨kq.blk (h.sc.but hbu fun hk => by have := lo g hk; omega) (by decide), hq.set_ 1 V', kq.own (own_but h.o1 hbu fun k hk hm => hd k (Option.mem_toList.1 hm) hk) (by decide), ?_, (h.bu.old hbu fun x hx => .inr (lo x hx)).old ((But.refl [qb] w').setCell (p := ⟨qb, 1, none⟩) (by simp) V') (fun x hx => .inr (by rw [List.mem_singleton] at hx; rw [hx]; exact h.ql)), h.sl, h.sm, fun x hx => ?_, hg, h.ql⟩
  · rw [List.length_append, List.flatMap_append]
    refine kq.own ?_ (by decide)
    simpa using ho
  · rcases List.mem_append.1 hx with hx | hx
    · exact h.sf x hx
    · rw [List.mem_singleton] at hx; rw [hx]; exact hf
/-- two rows of different kinds lie apart -/
theorem SqC.apart (h : SqC w0 wr g qb L V1 V2 ms fs s bad) : (∀ k, V1.ownBlock = some k → V2.ownBlock ≠ some k) ∧ (∀ k, V2.ownBlock = some k → V1.ownBlock ≠ some k) :=
  ⟨fun k h1 h2 => own_own h.o1 h.o2 (by decide) k h2 (Option.mem_toList.2 h1), fun k h1 h2 => own_own h.o1 h.o2 (by decide) k h1 (Option.mem_toList.2 h2)⟩
end
/-- how much is left to do -/
def scanM (wr : World) (g : Nat) : Nat := match wr.cell? ⟨g, 1, none⟩ with
  | some (.bool true) => 0
  | _ => match wr.cell? ⟨g, 0, none⟩ with
    | some (.string S) => S.size + 1
    | _ => 0
theorem scanM_is {w : World} {g : Nat} {s : Bs} {bad : Bool} (h : ScanIs w g s bad) : scanM w g = if bad then 0 else s.length + 1 := by
  have c0 : w.cell? ⟨g, 0, none⟩ = some (strB s) := h.cell 0
  have c1 : w.cell? ⟨g, 1, none⟩ = some (.bool bad) := h.cell 1
  unfold scanM
  rw [c0, c1]
  cases bad with
  | true => rfl
  | false =>
    show (⟨s.toArray⟩ : ByteArray).size + 1 = _
    rw [str_size]; rfl
end Go.Proofs.YtecejnilajbdpaaGreatDoor

