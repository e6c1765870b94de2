import Derived.Test.YtecejnilajbdpaaGreatDoorTy44
import Derived.Test.YtecejnilajbdpaaGreatDoorTy43
namespace Garner
open Go
theorem drop_at {α : Type} {S : List α} {i : Nat} {c : α} (h : S[i]? = some c) : S.drop i = c :: S.drop (i + 1) := by
 obtain ⟨h1, h2⟩ := List.getElem?_eq_some_iff.1 h
 rw [List.drop_eq_getElem_cons h1, h2]
def twoS (S : Bs) (i : Nat) : Bs := if i + 1 < S.length then (S.drop i).take 2 else []
theorem two_iff {S : Bs} {i : Nat} {c : UInt8} (h : S[i]? = some c) : twoS S i ∈ signs2 ↔ (c :: (S.drop (i + 1)).take 1) ∈ signs2 := by
 unfold twoS
 rw [drop_at h]
 by_cases hi : i + 1 < S.length
 ·rw [if_pos hi]; rfl
 ·rw [if_neg hi, List.drop_eq_nil_of_le (by omega : S.length ≤ i + 1)]
  simp [signs2]
theorem two_eq {S : Bs} {i : Nat} {c d : UInt8} (h : S[i]? = some c) (h2 : S[i + 1]? = some d) : twoS S i = [c, d] := by
 have hl := (List.getElem?_eq_some_iff.1 h2).1
 unfold twoS
 rw [if_pos hl, drop_at h, drop_at h2]; rfl
theorem two_none {S : Bs} {i : Nat} (h : ¬ i + 1 < S.length) : twoS S i = [] := by unfold twoS; rw [if_neg h]
section
variable {S : Bs} {i j : Nat} {c : UInt8} {t : Bs} {l : List Bs}
theorem tk_sp (h : S[i]? = some c) (hc : c = 32) : toks (S.drop i) = toks (S.drop (i + 1)) := by
 rw [drop_at h, hc, toks_eq, tok1_sp, ← toks_eq]
theorem tk_two (h : S[i]? = some c) (hc : c ≠ 32) (h2 : twoS S i ∈ signs2) : toks (S.drop i) = (toks (S.drop (i + 2))).map (twoS S i :: ·) := by
 have hx := (two_iff h).1 h2
 have hl : i + 1 < S.length := by
  refine Decidable.byContradiction fun hn => ?_
  rw [two_none hn] at h2
  revert h2; decide
 obtain ⟨d, hd⟩ : ∃ d, S[i + 1]? = some d := ⟨_, List.getElem?_eq_getElem hl⟩
 rw [two_eq h hd, drop_at h, drop_at hd]
 rw [two_eq h hd] at h2
 have e : tok1 (c :: d :: S.drop (i + 1 + 1)) = .tok [c, d] (S.drop (i + 2)) := by rw [tok1_of hc, tok0_two h2]
 rw [toks_tok e]
theorem tk_one (h : S[i]? = some c) (hc : c ≠ 32) (h2 : twoS S i ∉ signs2) (h1 : c ∈ signs1) : toks (S.drop i) = (toks (S.drop (i + 1))).map ([c] :: ·) := by
 have hx := fun e => h2 ((two_iff h).2 e)
 have e : tok1 (c :: S.drop (i + 1)) = .tok [c] (S.drop (i + 1)) := by rw [tok1_of hc, tok0, if_neg hx, if_pos h1]
 rw [drop_at h, toks_tok e]
theorem tk_txt (h : S[i]? = some c) (hc : c = 34) : toks (S.drop i) = (match textG (S.drop (i + 1)) with | some x => (toks x.2).map ((34 :: x.1) :: ·) | none => none) := by
 subst hc
 have e : tok1 (34 :: S.drop (i + 1)) = (match textG (S.drop (i + 1)) with | some x => .tok (34 :: x.1) x.2 | none => .bad) := by
  rw [tok1_of (by decide), tok0_quote]
  cases textG (S.drop (i + 1)) <;> rfl
 rw [drop_at h]
 cases hx : textG (S.drop (i + 1)) with
 | none => rw [hx] at e; rw [toks_bad e]
 | some x => rw [hx] at e; rw [toks_tok e]
theorem sign_not {c : UInt8} (h : nameC false c = true) (r : Bs) : (c :: r) ∉ signs2 := by
 obtain ⟨n1, n2, n3, -⟩ := nameC_no h
 exact sign2_head n1 n2 n3
theorem tk_name (h : S[i]? = some c) (hn : nameC false c = true) : toks (S.drop i) = (toks (S.drop (i + (nameHead (S.drop i)).length))).map ((S.drop i).take (nameHead (S.drop i)).length :: ·) := by
 obtain ⟨n1, n2, n3, n4, n5, n6⟩ := nameC_no hn
 have e : tok1 (S.drop i) = .tok (nameHead (S.drop i)) (nameRest (S.drop i)) := by
  rw [drop_at h, tok1_of n6, tok0, if_neg (sign_not hn _), if_neg n4, if_neg n5, if_pos hn]
 rw [toks_tok e, ← head_take, rest_drop, List.drop_drop]
theorem tk_bad (h : S[i]? = some c) (hc : c ≠ 32) (h2 : twoS S i ∉ signs2) (h1 : c ∉ signs1) (h3 : c ≠ 34) (hn : nameC false c = false) : toks (S.drop i) = none := by
 have hx := fun e => h2 ((two_iff h).2 e)
 have e : tok1 (c :: S.drop (i + 1)) = .bad := by
  rw [tok1_of hc, tok0, if_neg hx, if_neg h1, if_neg h3, if_neg (by rw [hn]; decide)]
 rw [drop_at h, toks_bad e]
def TkI (S : Bs) (l : List Bs) (i : Nat) : Prop := toks S = (toks (S.drop i)).map (l ++ ·)
theorem TkI.start (S : Bs) : TkI S [] 0 := by
 unfold TkI
 rw [List.drop_zero]
 cases toks S <;> rfl
theorem TkI.step (h : TkI S l i) (e : toks (S.drop i) = (toks (S.drop j)).map (t :: ·)) : TkI S (l ++ [t]) j := by
 unfold TkI at h ⊢
 rw [h, e]
 cases toks (S.drop j) with
 | none => rfl
 | some x => simp
theorem TkI.skip (h : TkI S l i) (e : toks (S.drop i) = toks (S.drop j)) : TkI S l j := by
 unfold TkI at h ⊢
 rw [h, e]
theorem TkI.none_ (h : TkI S l i) (e : toks (S.drop i) = none) : toks S = none := by
 unfold TkI at h
 rw [h, e]; rfl
theorem TkI.fin (h : TkI S l i) (hi : S.length ≤ i) : toks S = some l := by
 unfold TkI at h
 rw [h, List.drop_eq_nil_of_le hi]
 show (some ([] : List Bs)).map _ = _
 simp
end
def tkAt (l : List Bs) (i : Nat) : Bs := l.getD i []
theorem tkAt_drop (l : List Bs) (i j : Nat) : tkAt (l.drop i) j = tkAt l (i + j) := by
 unfold tkAt
 rw [List.getD, List.getD, List.getElem?_drop]
theorem isT_tail {v : Bs} (h : isT v = true) : v = 34 :: v.tail := by
 cases v with
 | nil => cases h
 | cons c r => unfold isT at h; rw [of_decide_eq_true h]; rfl
section
variable {ms : List MatP} {fs : List FilP} {l : List Bs} {i : Nat}
theorem KM_at0 (L : List Bs) : (nameP (tkAt L 0) = false ∨ opOfM (tkAt L 1) = 0 ∨ isT (tkAt L 2) = false → KM ms L = none) ∧
  (nameP (tkAt L 0) = true → opOfM (tkAt L 1) ≠ 0 → isT (tkAt L 2) = true →
   (tkAt L 3 = [44] → KM ms L = KM (ms ++ [⟨tkAt L 0, opOfM (tkAt L 1), (tkAt L 2).tail⟩]) (L.drop 4)) ∧
   (tkAt L 3 = [125] → KM ms L = KF (ms ++ [⟨tkAt L 0, opOfM (tkAt L 1), (tkAt L 2).tail⟩]) [] (L.drop 4)) ∧
   (tkAt L 3 ≠ [44] → tkAt L 3 ≠ [125] → KM ms L = none)) := by
 match L with
 | [] => exact ⟨fun _ => rfl, fun h => absurd h (by decide)⟩
 | [n] => exact ⟨fun _ => rfl, fun _ h => absurd rfl h⟩
 | [n, o] => exact ⟨fun _ => rfl, fun _ _ h => by cases h⟩
 | [n, o, v] => exact ⟨fun _ => rfl, fun _ _ _ => ⟨fun h => absurd h (by simp [tkAt]), fun h => absurd h (by simp [tkAt]), fun _ _ => rfl⟩⟩
 | n :: o :: v :: d :: r =>
  refine ⟨fun h => ?_, fun h1 h2 h3 => ⟨fun h => ?_, fun h => ?_, fun h4 h5 => ?_⟩⟩
  ·rcases h with h | h | h
   ·exact KM_name h _
   ·exact KM_op h _
   ·exact KM_text h _
  ·have hd : d = [44] := h
   have hv : v = 34 :: v.tail := isT_tail h3
   subst hd
   show KM ms (n :: o :: v :: [44] :: r) = KM (ms ++ [⟨n, opOfM o, v.tail⟩]) r
   conv => lhs; rw [hv]
   exact KM_comma h1 h2 r
  ·have hd : d = [125] := h
   have hv : v = 34 :: v.tail := isT_tail h3
   subst hd
   show KM ms (n :: o :: v :: [125] :: r) = KF (ms ++ [⟨n, opOfM o, v.tail⟩]) [] r
   conv => lhs; rw [hv]
   exact KM_close h1 h2 r
  ·exact KM_end h4 h5 r
theorem KM_no (h : nameP (tkAt l i) = false ∨ opOfM (tkAt l (i + 1)) = 0 ∨ isT (tkAt l (i + 2)) = false) : KM ms (l.drop i) = none :=
 (KM_at0 (l.drop i)).1 (by rw [tkAt_drop, tkAt_drop, tkAt_drop]; exact h)
theorem KM_at (h1 : nameP (tkAt l i) = true) (h2 : opOfM (tkAt l (i + 1)) ≠ 0) (h3 : isT (tkAt l (i + 2)) = true) :
   (tkAt l (i + 3) = [44] → KM ms (l.drop i) = KM (ms ++ [⟨tkAt l i, opOfM (tkAt l (i + 1)), (tkAt l (i + 2)).tail⟩]) (l.drop (i + 4))) ∧
   (tkAt l (i + 3) = [125] → KM ms (l.drop i) = KF (ms ++ [⟨tkAt l i, opOfM (tkAt l (i + 1)), (tkAt l (i + 2)).tail⟩]) [] (l.drop (i + 4))) ∧
   (tkAt l (i + 3) ≠ [44] → tkAt l (i + 3) ≠ [125] → KM ms (l.drop i) = none) := by
 have h := (KM_at0 (ms := ms) (l.drop i)).2
 simp only [tkAt_drop, List.drop_drop, Nat.add_zero] at h
 exact h h1 h2 h3
theorem KF_no (hi : i < l.length) (h : opOfF (tkAt l i) = 0 ∨ isT (tkAt l (i + 1)) = false) : KF ms fs (l.drop i) = none := by
 obtain ⟨o, ho⟩ : ∃ o, l[i]? = some o := ⟨_, List.getElem?_eq_getElem hi⟩
 have e : tkAt l i = o := by unfold tkAt; rw [List.getD, ho]; rfl
 rw [e] at h
 rw [drop_at ho]
 rcases h with h | h
 ·exact KF_op h _
 ·cases hv : l[i + 1]? with
  | none => rw [List.drop_eq_nil_of_le (List.getElem?_eq_none_iff.1 hv)]; rfl
  | some v =>
   have e2 : tkAt l (i + 1) = v := by unfold tkAt; rw [List.getD, hv]; rfl
   rw [e2] at h
   rw [drop_at hv]
   exact KF_text h _
theorem KF_at (hi : i < l.length) (h1 : opOfF (tkAt l i) ≠ 0) (h2 : isT (tkAt l (i + 1)) = true) : KF ms fs (l.drop i) = KF ms (fs ++ [⟨opOfF (tkAt l i), (tkAt l (i + 1)).tail⟩]) (l.drop (i + 2)) := by
 obtain ⟨o, ho⟩ : ∃ o, l[i]? = some o := ⟨_, List.getElem?_eq_getElem hi⟩
 have e : tkAt l i = o := by unfold tkAt; rw [List.getD, ho]; rfl
 cases hv : l[i + 1]? with
 | none =>
  have e2 : tkAt l (i + 1) = [] := by unfold tkAt; rw [List.getD, hv]; rfl
  rw [e2] at h2; cases h2
 | some v =>
  have e2 : tkAt l (i + 1) = v := by unfold tkAt; rw [List.getD, hv]; rfl
  rw [e] at h1
  rw [e2] at h2
  rw [e, e2, drop_at ho, drop_at hv]
  have hx := isT_tail h2
  conv => lhs; rw [hx]
  exact KF_next h1 _
theorem KF_fin (hi : l.length ≤ i) : KF ms fs (l.drop i) = some ⟨ms, fs⟩ := by
 rw [List.drop_eq_nil_of_le hi]
 show (some ([] : List FilP)).map _ = _
 simp
theorem query_no (h : tkAt l 0 ≠ [123]) : queryR l = none := by
 match l with
 | [] => rfl
 | t :: r =>
  have h2 : t ≠ [123] := h
  unfold queryR
  exact if_neg h2
theorem query_close (h : tkAt l 0 = [123]) (h2 : tkAt l 1 = [125]) : queryR l = KF [] [] (l.drop 2) := by
 match l with
 | [] => cases h
 | [t] => cases h2
 | t :: u :: r =>
  have e1 : t = [123] := h
  have e2 : u = [125] := h2
  subst e1; subst e2
  rw [queryR, if_pos rfl]
  show (if ([125] : Bs) = [125] then _ else _) = _
  rw [if_pos rfl]
  rfl
theorem query_more (h : tkAt l 0 = [123]) (h2 : tkAt l 1 ≠ [125]) : queryR l = KM [] (l.drop 1) := by
 match l with
 | [] => cases h
 | [t] =>
  have e1 : t = [123] := h
  subst e1
  rfl
 | t :: u :: r =>
  have e1 : t = [123] := h
  have e2 : u ≠ [125] := h2
  subst e1
  rw [queryR, if_pos rfl]
  show (if u = [125] then _ else _) = _
  rw [if_neg e2]
  rfl
end
def op4 (s a b c d : Bs) : Int := if a = s then 1 else if b = s then 2 else if c = s then 3 else if d = s then 4 else 0
theorem op4_M (s : Bs) : op4 s [61] [33, 61] [61, 126] [33, 126] = opOfM s := by
 unfold op4 opOfM
 simp only [eq_comm (a := s)]
theorem op4_F (s : Bs) : op4 s [124, 61] [33, 61] [124, 126] [33, 126] = opOfF s := by
 unfold op4 opOfF
 simp only [eq_comm (a := s)]
open Go
theorem has_esc (d : UInt8) : Lib.contains [34, 92, 110] [d] = (decide (d = 34) || decide (d = 92) || decide (d = 110)) := by
 rw [Bool.eq_iff_iff, contains_one]
 simp [or_assoc]
end Garner
namespace Go.Proofs.YtecejnilajbdpaaGreatDoor
open Go.RowKit Go.Shelf Garner
structure TxSt (w0 wr : World) (g : Nat) (S : Bs) (bad0 bad : Bool) (b : Bs) (v : Value) (i : Nat) : Prop where
 sc : ScanIs wr g S bad
 ob : wr.ownsRow w0.heap.size 5 1 v b.length (b.map bv)
 bu : But [g] w0 wr
 tx : TxS S bad0 b i bad
 le : b.length ≤ i
section
variable {w0 wr w' : World} {g i j : Nat} {S b : Bs} {bad0 ba : Bool} {v v' : Value} {c : UInt8}
theorem TxSt.add (h : TxSt w0 wr g S bad0 ba b v i) (hg : g < w0.heap.size) {o : Obj} (hgw : (wr.alloc o).grownBy w' v.ownBlock) (ho : w'.ownsRow w0.heap.size 5 1 v' (b.length + 1) (b.map bv ++ [bv c])) (e : textG (S.drop i) = (textG (S.drop j)).map fun x => (c :: x.1, x.2)) (hij : i < j) : TxSt w0 w' g S bad0 ba (b ++ [c]) v' j := by
 have hbl : Below wr.heap.size wr (wr.alloc o) := (Below.refl _ _).alloc (Nat.le_refl _) _
 have n1 : some g ≠ v.ownBlock := fun e => by have := (h.ob.lt g e.symm).1; omega
 have hbu : But v.ownBlock.toList (wr.alloc o) w' := But.grown hgw fun k hk => Option.mem_toList.2 hk
 refine ⟨(h.sc.below hbl h.sc.lt).grown hgw n1, ?_, (h.bu.trans (.of_below hbl)).old hbu fun x hx => .inr (h.ob.lt x (Option.mem_toList.1 hx)).1, h.tx.add e, by rw [List.length_append]; have := h.le; simp; omega⟩
 rw [List.length_append, List.map_append]; exact ho
theorem TxSt.bad (h : TxSt w0 wr g S bad0 ba b v i) (hg : g < w0.heap.size) (e : textG (S.drop i) = none) (hij : i < j) : TxSt w0 (wr.setCell ⟨g, 1, none⟩ (.bool true)) g S bad0 true b v j :=
 ⟨h.sc.set_ 1 (.bool true), own_but h.ob ((But.refl [g] wr).setCell (p := ⟨g, 1, none⟩) (by simp) _) (fun k hk hm => by rw [List.mem_singleton] at hm; have := (h.ob.lt k hk).1; omega), h.bu.setCell (by simp) _, h.tx.no e b j, by have := h.le; omega⟩
end
def STextO (g : Nat) (s : Bs) (bad : Bool) (w : World) (e : Ending) (w' : World) : Prop := ∃ t s' bad', e = .returned (strB t) ∧ ScanIs w' g s' bad' ∧ But [g] w w' ∧ s'.length ≤ s.length ∧ t.length ≤ s.length ∧ ((bad' = bad ∧ tok1 s = .tok (34 :: t) s') ∨ (bad' = true ∧ ∀ t r, tok1 s ≠ .tok (34 :: t) r))
set_option maxRecDepth 100000 in
set_option maxHeartbeats 32000000 in
theorem vSText (g : Nat) (s : Bs) (bad : Bool) (w : World) (h : ScanIs w g s bad) (hl : s.length ≤ 1000000000) :
  Calls Tryz.prog 77 #[.pointer (some ⟨g, 0, none⟩)] w fun e w' => STextO g s bad w e w' := by
 have hn := vSNext g s ([34] : List UInt8) bad ⟨#[34]⟩ rfl w h
 have hnl := nextS_len ([34] : List UInt8) s
 obtain ⟨q, hq⟩ : ∃ q, Lib.hasPrefix (skipS s) [34] = q := ⟨_, rfl⟩
 obtain ⟨S, hS⟩ : ∃ S, nextS [34] s = S := ⟨_, rfl⟩
 rw [hS] at hn hnl
 rw [hq] at hn
 /- what the loop's end says of the whole -/
 have hend : ∀ bad1 : Bool, bad1 = (if q then bad else true) → ∀ (b' : Bool) (t s' : Bs), ((b' = bad1 ∧ textG S = some (t, s')) ∨ (b' = true ∧ textG S = none)) → ((b' = bad ∧ tok1 s = .tok (34 :: t) s') ∨ (b' = true ∧ ∀ t r, tok1 s ≠ .tok (34 :: t) r)) := by
  intro bad1 hb1 b' t s' hc
  cases q with
  | true =>
   obtain ⟨r, hr⟩ := has_head.1 hq
   have hS2 : S = r := by rw [← hS]; unfold nextS; rw [hq, hr]; rfl
   have htk : tok1 s = (match textG S with | some x => .tok (34 :: x.1) x.2 | none => .bad) := by rw [tok1, hr, tok0_quote, hS2]; cases textG r <;> rfl
   rcases hc with ⟨h1, h2⟩ | ⟨h1, h2⟩
   ·exact .inl ⟨by rw [h1, hb1]; rfl, by rw [htk, h2]⟩
   ·refine .inr ⟨h1, fun t r e => ?_⟩
    rw [htk, h2] at e
    cases e
  | false =>
   have hno : ∀ t r, tok1 s ≠ .tok (34 :: t) r := fun t r e => by
    obtain ⟨s', e2⟩ := tok_quote e
    rw [has_head.2 ⟨s', e2⟩] at hq
    cases hq
   rcases hc with ⟨h1, h2⟩ | ⟨h1, h2⟩
   ·exact .inr ⟨by rw [h1, hb1]; rfl, hno⟩
   ·exact .inr ⟨h1, hno⟩
 obtain ⟨T, eT, hT⟩ := str_form S
 obtain ⟨N, hN⟩ : ∃ N, S.length = N := ⟨_, rfl⟩
 rw [hN] at hnl
 have zT : T.size = N := by rw [hT, ← hN]; exact str_size S
 have Hg := Lh h.lt
 have HN := Lh hn; have HT := Lh hT; have HNn := Lh hN; have HeT := Lh eT; have HEnd := Lh hend; have HNl := Lh hnl
 clear hn hT hN eT h hend hS hq
 go_enter Tryz.func77, Tryz.ntmps77
 go_wp2_with fail
 refine HN.out.mono ?_
 rintro e w1 ⟨rfl, k1, b1, -⟩
 rw [ScanIs, HeT.out] at k1
 go_upto_if 8 with fail
 go_cut [] (fun wx => ScanIs wx g S (if q then bad else true) ∧ But [g] w wx)
 case first =>
  have k1' : ScanIs w1 g S bad := by rw [ScanIs, HeT.out]; exact k1
  have c1 : w1.cell? ⟨g, 1, none⟩ = some (.bool bad) := k1.cell 1
  have f1 := k1.frozen 1
  cases q with
  | true =>
   have K1 := Lh k1'; have B1 := Lh b1
   clear k1 k1' b1 c1 f1
   go_wp2
   go_meet
   case rel => exact ⟨K1.out, B1.out⟩
  | false =>
   have K1 := Lh (k1'.set_ 1 (.bool true)); have B1 := Lh (b1.setCell (p := ⟨g, 1, none⟩) (by simp) (.bool true))
   clear k1 k1' b1
   go_wp2
   go_meet
   case rel => exact ⟨K1.out, B1.out⟩
 case rest =>
  obtain ⟨kc, bc⟩ := hcut
  obtain ⟨bad1, hb1⟩ : ∃ bad1, (if q then bad else true) = bad1 := ⟨_, rfl⟩
  rw [hb1] at kc
  have hend2 := HEnd.out bad1 hb1.symm
  have H0 : Hid (TxSt w wc g S bad1 bad1 [] (.slice none 0 0) 0) := Lh ⟨kc, World.ownsRow_nil _ _ _ _, bc, TxS.start S bad1, Nat.le_refl _⟩
  have HEn2 := Lh hend2
  clear kc bc hend2 hb1 HEnd HN k1 b1
  go_wp2
  go_loopw [3, 4] (fun v i wr => ∃ (k : Nat) (bad2 : Bool) (b : Bs), k ≤ N ∧ i = .int .i64 k ∧ Hid (TxSt w wr g S bad1 bad2 b v k)) (fun _ i _ => N - (intOf i).toNat)
  case atStart => exact ⟨0, bad1, [], Nat.zero_le _, rfl, H0⟩
  case round =>
   obtain ⟨k, bad2, b, hk, rfl, HSt⟩ := hrel
   obtain ⟨wo, rfl⟩ : ∃ wo : World, wo = wr := ⟨_, rfl⟩
   have wk1 : IntKind.i64.wrap ((k : Int) + 1) = ((k + 1 : Nat) : Int) := by rw [IntKind.wrap_i64]; omega
   have wk2 : IntKind.i64.wrap ((k : Int) + 2) = ((k + 2 : Nat) : Int) := by rw [IntKind.wrap_i64]; omega
   have wk3 : IntKind.i64.wrap (((k + 1 : Nat) : Int) + 1) = ((k + 2 : Nat) : Int) := by rw [IntKind.wrap_i64]; omega
   have hob := HSt.out.ob
   obtain ⟨bl, hbl⟩ : ∃ bl, b.length = bl := ⟨_, rfl⟩
   have hble := HSt.out.le
   rw [hbl] at hob hble
   obtain ⟨BA, bc, rfl, -⟩ := own_form hob
   have ksc := HSt.out.sc
   rw [ScanIs, HeT.out] at ksc
   have c0 : wo.cell? ⟨g, 0, none⟩ = some (.string T) := ksc.cell 0
   have c1 : wo.cell? ⟨g, 1, none⟩ = some (.bool bad2) := ksc.cell 1
   have f0 := ksc.frozen 0
   have f1 := ksc.frozen 1
   have HOb := Lh hob; have Hbl := Lh hbl; have Ksc := Lh ksc
   have hsw := HSt.out.bu.size
   clear hob hbl ksc
   by_cases hlt : k < N
   ·have z1 : (k : Int) < (N : Int) := by omega
    obtain ⟨c, hc⟩ : ∃ c, S[k]? = some c := ⟨_, List.getElem?_eq_getElem (by rw [HNn.out]; exact hlt)⟩
    have htx := textG_at hc
    have i1 := idx_byte (P := Tryz.prog) 9 Tryz.underlying9 T S HT.out (k : Int) k rfl (by rw [HNn.out]; exact hlt) wo
    rw [show byteN S k = c.toNat by unfold byteN; rw [List.getD, hc]; rfl] at i1
    have HTx := Lh htx; have Hc := Lh hc
    clear htx hc
    by_cases h34 : c = 34
    ·subst h34
     have hfin := HEn2.out bad2 b (S.drop (k + 1)) (HSt.out.tx.fin (HTx.out.1 rfl))
     have hex : T.extract (k + 1) N = ⟨(S.drop (k + 1)).toArray⟩ := by
      rw [HT.out]
      apply ByteArray.ext
      rw [← Array.toList_inj, Lib.extract_data]
      simp only
      rw [List.take_of_length_le (by rw [List.length_drop, HNn.out]; exact Nat.le_refl _)]
     obtain ⟨T2, hT2⟩ : ∃ T2, T2 = (⟨(S.drop (k + 1)).toArray⟩ : ByteArray) := ⟨_, rfl⟩
     rw [← hT2] at hex
     obtain ⟨W2, hW2⟩ : ∃ W2, W2 = wo.setCell ⟨g, 0, none⟩ (.string T2) := ⟨_, rfl⟩
     have k2 : Blk W2 g 94 [.string T2, .bool bad2] := by rw [hW2]; exact Ksc.out.set_ 0 _
     have b2 : But [g] wo W2 := by rw [hW2]; exact (But.refl _ _).setCell (by simp) _
     have o2 := own_but HOb.out b2 fun x hx hm => by rw [List.mem_singleton] at hm; have h1 := (HOb.out.lt x hx).1; have h2 := Hg.out; omega
     have hby : Bytes W2 W2.heap.size BA bl b := Row.of_own o2
     have hcv := run_str (c := bc) hby
     have K2 := Lh k2; have B2 := Lh (HSt.out.bu.trans b2); have HFin := Lh hfin; have HT2 := Lh hT2
     clear k2 b2 o2 hby hfin hT2
     go_upto_region 11 with fail
     rw [← hW2]
     clear hW2 f0 f1
     go_wp2
     go_ret
     have hNl := HNl.out
     have hN := HNn.out
     have hb2 := Hbl.out
     exact ⟨b, S.drop (k + 1), bad2, rfl, by show Blk _ _ _ [strB _, _]; rw [strB_str, ← HT2.out]; exact K2.out, B2.out, by rw [List.length_drop]; omega, by omega, HFin.out⟩
    ·by_cases h10 : c = 10
     ·subst h10
      have HNo := Lh (HTx.out.2.1 rfl)
      have hst2 := HSt.out.bad (j := k + 1) Hg.out HNo.out (by omega)
      have HSt2 := Lh hst2
      clear hst2
      go_wp2
      go_roundw
      case rel => exact ⟨k + 1, true, b, by omega, by first | rfl | go_num, HSt2⟩
      case measure => simp [intOf]; omega
     ·by_cases h92 : c = 92
      ·subst h92
       by_cases hk1 : k + 1 < N
       ·obtain ⟨d, hd⟩ : ∃ d, S[k + 1]? = some d := ⟨_, List.getElem?_eq_getElem (by rw [HNn.out]; exact hk1)⟩
        obtain ⟨t1, t2, t3⟩ := HTx.out.2.2.1 rfl d hd
        have z2 : ((k + 1 : Nat) : Int) < (N : Int) := by omega
        have z3 : (k : Int) + 1 < (N : Int) := by omega
        have i2 := idx_byte (P := Tryz.prog) 9 Tryz.underlying9 T S HT.out ((k : Int) + 1) (k + 1) (by omega) (by rw [HNn.out]; exact hk1) wo
        rw [show byteN S (k + 1) = d.toNat by unfold byteN; rw [List.getD, hd]; rfl] at i2
        have hex : T.extract (k + 1) (k + 2) = ⟨#[d]⟩ := by
         rw [HT.out]
         apply ByteArray.ext
         apply Array.toList_inj.1
         have h2 := (List.getElem?_eq_some_iff.1 hd)
         simp [ByteArray.extract_mk]
         rw [List.drop_eq_getElem_cons h2.1, h2.2]
         simp
        have hcon := sContains1 ⟨#[34, 92, 110]⟩ d wo
        rw [show (⟨#[34, 92, 110]⟩ : ByteArray).data.toList = [34, 92, 110] from rfl, has_esc] at hcon
        obtain ⟨dn, hdn⟩ : ∃ dn, d.toNat = dn := ⟨_, rfl⟩
        rw [hdn] at i2
        have Hbv : Hid (bv d = .int .u8 (dn : Nat)) := Lh (by show Value.int .u8 _ = _; rw [hdn])
        by_cases hde : d = 34 ∨ d = 92
        ·have HEq := Lh (t1 hde)
         have hb : (decide (d = 34) || decide (d = 92) || decide (d = 110)) = true := by rcases hde with h | h <;> simp [h]
         rw [hb] at hcon
         have hn110 : ¬ (dn : Int) = 110 := by
          rw [← hdn]
          rcases hde with h | h <;> rw [h] <;> decide
         have HCon := Lh hcon; have Hhex := Lh hex
         clear hcon t1 t2 t3 hd hdn hde hb
         go_wp2_with (first | (with_reducible refine HCon.out.mono ?_; rintro e wz ⟨rfl, hz⟩; obtain rfl : wo = wz := hz.symm) | (at_builtin; refine wpList_app _ rfl bytesE rfl rfl (HOb.out.alloc _) rfl (row_newN wo 5 1 1 [.int .u8 (dn : Nat)] rfl) (by intro u hu; rw [List.mem_singleton] at hu; subst hu; rfl) (by omega) (by simp; omega) ?_; intro v8 w8 own8 hg8 hb8 hx8))
         have hst2 := HSt.out.add (c := d) (j := k + 2) Hg.out hg8 (by rw [Hbl.out, Hbv.out]; exact own8) HEq.out (by omega)
         have HSt2 := Lh hst2
         clear own8 hg8 hb8 hx8 hst2
         go_wp2
         go_roundw
         case rel => exact ⟨k + 2, bad2, _, by omega, by first | rfl | go_num, HSt2⟩
         case measure => simp [intOf]; omega
        ·by_cases hd1 : d = 110
         ·have HEq := Lh (t2 hd1)
          have hb : (decide (d = 34) || decide (d = 92) || decide (d = 110)) = true := by simp [hd1]
          rw [hb] at hcon
          have hn110 : dn = 110 := by rw [← hdn, hd1]; rfl
          subst hn110
          have HCon := Lh hcon
          have Hbv : Hid (bv (10 : UInt8) = .int .u8 10) := Lh rfl
          clear hcon t1 t2 t3 hd hdn hde hb hd1
          go_wp2_with (first | (with_reducible refine HCon.out.mono ?_; rintro e wz ⟨rfl, hz⟩; obtain rfl : wo = wz := hz.symm) | (at_builtin; refine wpList_app _ rfl bytesE rfl rfl (HOb.out.alloc _) rfl (row_newN wo 5 1 1 [.int .u8 10] rfl) (by intro u hu; rw [List.mem_singleton] at hu; subst hu; rfl) (by omega) (by simp; omega) ?_; intro v8 w8 own8 hg8 hb8 hx8))
          have hst2 := HSt.out.add (c := 10) (j := k + 2) Hg.out hg8 (by rw [Hbl.out, Hbv.out]; exact own8) HEq.out (by omega)
          have HSt2 := Lh hst2
          clear own8 hg8 hb8 hx8 hst2
          go_wp2
          go_roundw
          case rel => exact ⟨k + 2, bad2, _, by omega, by first | rfl | go_num, HSt2⟩
          case measure => simp [intOf]; omega
         ·have HNo := Lh (t3 (fun h => hde (.inl h)) (fun h => hde (.inr h)) hd1)
          have hb : (decide (d = 34) || decide (d = 92) || decide (d = 110)) = false := by simp at hde ⊢; exact ⟨hde, hd1⟩
          rw [hb] at hcon
          have HCon := Lh hcon
          clear hcon t1 t2 t3 hd hdn hde hb hd1
          have hst2 := HSt.out.bad (j := k + 1) Hg.out HNo.out (by omega)
          have HSt2 := Lh hst2
          clear hst2
          go_wp2_with (with_reducible refine HCon.out.mono ?_; rintro e wz ⟨rfl, hz⟩; obtain rfl : wo = wz := hz.symm)
          go_roundw
          case rel => exact ⟨k + 1, true, b, by omega, by first | rfl | go_num, HSt2⟩
          case measure => simp [intOf]; omega
       ·have z2 : ¬ ((k + 1 : Nat) : Int) < (N : Int) := by omega
        have z3 : ¬ (k : Int) + 1 < (N : Int) := by omega
        have HNo := Lh (HTx.out.2.2.2.1 rfl (List.getElem?_eq_none_iff.2 (by rw [HNn.out]; omega)))
        have hst2 := HSt.out.bad (j := k + 1) Hg.out HNo.out (by omega)
        have HSt2 := Lh hst2
        clear hst2
        go_wp2
        go_roundw
        case rel => exact ⟨k + 1, true, b, by omega, by first | rfl | go_num, HSt2⟩
        case measure => simp [intOf]; omega
      ·have HEq := Lh (HTx.out.2.2.2.2 h34 h10 h92)
       obtain ⟨dn, hdn⟩ : ∃ dn, c.toNat = dn := ⟨_, rfl⟩
       rw [hdn] at i1
       have n1 : ¬ (dn : Int) = 34 := fun h => h34 (by apply UInt8.toNat.inj; rw [hdn]; exact_mod_cast h)
       have n2 : ¬ (dn : Int) = 10 := fun h => h10 (by apply UInt8.toNat.inj; rw [hdn]; exact_mod_cast h)
       have n3 : ¬ (dn : Int) = 92 := fun h => h92 (by apply UInt8.toNat.inj; rw [hdn]; exact_mod_cast h)
       have m1 : ((dn : Int) == 34) = false := beq_eq_false_iff_ne.2 n1
       have m2 : ((dn : Int) == 10) = false := beq_eq_false_iff_ne.2 n2
       have m3 : ((dn : Int) == 92) = false := beq_eq_false_iff_ne.2 n3
       have Hbv : Hid (bv c = .int .u8 (dn : Nat)) := Lh (by show Value.int .u8 _ = _; rw [hdn])
       clear h34 h10 h92 hdn
       go_wp2_with (at_builtin; refine wpList_app _ rfl bytesE rfl rfl (HOb.out.alloc _) rfl (row_newN wo 5 1 1 [.int .u8 (dn : Nat)] rfl) (by intro u hu; rw [List.mem_singleton] at hu; subst hu; rfl) (by omega) (by simp; omega) ?_; intro v8 w8 own8 hg8 hb8 hx8)
       have hst2 := HSt.out.add (c := c) (j := k + 1) Hg.out hg8 (by rw [Hbl.out, Hbv.out]; exact own8) HEq.out (by omega)
       have HSt2 := Lh hst2
       clear own8 hg8 hb8 hx8 hst2
       go_wp2
       go_roundw
       case rel => exact ⟨k + 1, bad2, _, by omega, by first | rfl | go_num, HSt2⟩
       case measure => simp [intOf]; omega
   ·obtain rfl : k = N := by omega
    have z1 : ¬ (k : Int) < (k : Int) := by omega
    have hfin : textG S = none → ∃ t : Bs, t.length ≤ s.length ∧ True := fun _ => ⟨[], Nat.zero_le _, trivial⟩
    have hno : textG S = none := by
     rcases HSt.out.tx with ⟨-, h⟩ | ⟨-, h⟩
     ·rw [h, List.drop_eq_nil_of_le (by rw [HNn.out]; exact Nat.le_refl _)]; rfl
     ·exact h
    have hf2 := HEn2.out true [] [] (.inr ⟨rfl, hno⟩)
    have k2 := (Ksc.out.set_ 1 (.bool true)).set_ 0 (.string ⟨#[]⟩)
    have b2 := (HSt.out.bu.setCell (p := ⟨g, 1, none⟩) (by simp) (.bool true)).setCell (p := ⟨g, 0, none⟩) (by simp) (.string ⟨#[]⟩)
    have f2 : (wo.setCell ⟨g, 1, none⟩ (.bool true)).frozen? ⟨g, 0, none⟩ = false := (Ksc.out.set_ 1 (.bool true)).frozen 0
    have c2 : (wo.setCell ⟨g, 1, none⟩ (.bool true)).cell? ⟨g, 0, none⟩ = some (.string T) := (Ksc.out.set_ 1 (.bool true)).cell 0
    have K2 := Lh k2; have B2 := Lh b2; have Hf2 := Lh hf2
    clear k2 b2 hf2 hno hfin
    go_wp2
    go_ret
    exact ⟨[], [], true, rfl, K2.out, B2.out, Nat.zero_le _, Nat.zero_le _, by simpa using Hf2.out⟩
end Go.Proofs.YtecejnilajbdpaaGreatDoor
namespace Garner
open Go
theorem op4_hit {s a b c d x : Bs} {k : Nat} (hx : [a, b, c, d][k]? = some x) (hall : ∀ y ∈ [a, b, c, d].take k, y ≠ s) (he : x = s) : op4 s a b c d = (k : Int) + 1 := by
 unfold op4
 match k with
 | 0 => simp at hx; rw [if_pos (hx.trans he)]; rfl
 | 1 => simp at hx hall; rw [if_neg hall, if_pos (hx.trans he)]; rfl
 | 2 => simp at hx hall; rw [if_neg hall.1, if_neg hall.2, if_pos (hx.trans he)]; rfl
 | 3 => simp at hx hall; rw [if_neg hall.1, if_neg hall.2.1, if_neg hall.2.2, if_pos (hx.trans he)]; rfl
 | k + 4 => simp at hx
theorem op4_none {s a b c d : Bs} (hall : ∀ y ∈ [a, b, c, d].take 4, y ≠ s) : op4 s a b c d = 0 := by
 simp at hall
 unfold op4
 rw [if_neg hall.1, if_neg hall.2.1, if_neg hall.2.2.1, if_neg hall.2.2.2]
end Garner
namespace Go.Proofs.YtecejnilajbdpaaGreatDoor
open Go.RowKit Go.Shelf Garner
set_option maxRecDepth 100000 in
set_option maxHeartbeats 16000000 in
theorem gOp (s a b c d : Bs) (w : World) :
  Calls Tryz.prog 52 #[strB s, strB a, strB b, strB c, strB d] w fun e w' => e = .returned (.int .i64 (op4 s a b c d)) ∧ Below w.heap.size w w' := by
 obtain ⟨S, eS, hS⟩ := str_form s
 obtain ⟨SA, eA, -⟩ := str_form a
 obtain ⟨SB, eB, -⟩ := str_form b
 obtain ⟨SC, eC, -⟩ := str_form c
 obtain ⟨SD, eD, -⟩ := str_form d
 obtain ⟨ANS, hA⟩ : ∃ ANS, op4 s a b c d = ANS := ⟨_, rfl⟩
 obtain ⟨X, hX⟩ : ∃ X, X = w.alloc (.cells #[.string SA, .string SB, .string SC, .string SD] 108) := ⟨_, rfl⟩
 have bX : Below w.heap.size w X := by rw [hX]; exact (Below.refl _ _).alloc (Nat.le_refl _) _
 have kX : Blk X w.heap.size 108 ([a, b, c, d].map strB) := by
  rw [show [a, b, c, d].map strB = [.string SA, .string SB, .string SC, .string SD] by rw [← eA, ← eB, ← eC, ← eD]; rfl, hX]
  exact Blk.new w _ _
 rw [eS, eA, eB, eC, eD, hA]
 have HA := Lh hA; have HS := Lh hS; have BX := Lh bX; have KX := Lh kX
 clear hA hS bX kX eS eA eB eC eD
 go_enter Tryz.func52, Tryz.ntmps52
 go_upto_region 2 with fail
 rw [← hX]
 clear hX
 go_wp2
 go_loopw [12] (fun i wr => ∃ k : Nat, k ≤ 4 ∧ i = .int .i64 k ∧ Hid (∀ y ∈ [a, b, c, d].take k, y ≠ s) ∧ wr = X) (fun i _ => 4 - (intOf i).toNat)
 case atStart => exact ⟨0, Nat.zero_le _, rfl, Lh (by simp), rfl⟩
 case round =>
  obtain ⟨k, hk, rfl, hall, hwr⟩ := hrel
  obtain rfl : X = wr := hwr.symm
  have wk1 : IntKind.i64.wrap ((k : Int) + 1) = ((k + 1 : Nat) : Int) := by rw [IntKind.wrap_i64]; omega
  by_cases hlt : k < 4
  ·have z1 : (k : Int) < 4 := by omega
   obtain ⟨x, hx⟩ : ∃ x, [a, b, c, d][k]? = some x := ⟨_, List.getElem?_eq_getElem (by simpa using hlt)⟩
   obtain ⟨XS, eX, hXS⟩ := str_form x
   have c0 : X.cell? ⟨w.heap.size, k, none⟩ = some (.string XS) := by
    have h := KX.out.cell k
    rw [List.getElem?_map, hx] at h
    rw [← eX]; exact h
   have hq : (XS.toList == S.toList) = decide (x = s) := str_eqlA hXS HS.out
   by_cases he : x = s
   ·rw [decide_eq_true he] at hq
    have hans : ANS = (k : Int) + 1 := by rw [← HA.out]; exact op4_hit hx hall.out he
    have HAn := Lh hans
    clear hans hx eX hXS he hall
    go_wp2
    go_ret
    exact ⟨by rw [HAn.out]; first | rfl | go_num, BX.out⟩
   ·rw [decide_eq_false he] at hq
    have hnx : ∀ y ∈ [a, b, c, d].take (k + 1), y ≠ s := by
     intro y hy
     rw [List.take_add_one, hx, Option.toList_some, List.mem_append, List.mem_singleton] at hy
     rcases hy with hy | rfl
     ·exact hall.out y hy
     ·exact he
    have HNx := Lh hnx
    clear hnx hx eX hXS he hall
    go_wp2
    go_roundw
    case rel => exact ⟨k + 1, by omega, by first | rfl | go_num, HNx, (by first | rfl | trivial)⟩
    case measure => simp [intOf]; omega
  ·obtain rfl : k = 4 := by omega
   have hans : ANS = 0 := by rw [← HA.out]; exact op4_none hall.out
   have HAn := Lh hans
   clear hans hall hlt
   go_wp2
   go_ret
   exact ⟨by rw [HAn.out]; rfl, BX.out⟩
set_option maxRecDepth 100000 in
set_option maxHeartbeats 16000000 in
theorem gAt (l : List Bs) (A : Option Addr) (n c i : Nat) (w : World) (hr : Row w w.heap.size 1 A n (l.map strB)) (hn : l.length = n) :
  Calls Tryz.prog 51 #[.slice A n c, .int .i64 i] w fun e w' => e = .returned (strB (tkAt l i)) ∧ w' = w := by
 obtain ⟨ANS, hA⟩ : ∃ ANS, strB (tkAt l i) = ANS := ⟨_, rfl⟩
 rw [hA]
 have HA := Lh hA
 clear hA
 go_enter Tryz.func51, Tryz.ntmps51
 by_cases hlt : i < n
 ·have z1 : (i : Int) < (n : Int) := by omega
  obtain ⟨x, hx⟩ : ∃ x, l[i]? = some x := ⟨_, List.getElem?_eq_getElem (by rw [hn]; exact hlt)⟩
  obtain ⟨b, off, rfl, hb, hc⟩ := hr.2 (by omega)
  obtain ⟨X, eX, -⟩ := str_form x
  have c0 : w.cell? ⟨b, off + i, none⟩ = some (.string X) := by rw [← eX]; exact hc i _ (by rw [List.getElem?_map, hx]; rfl)
  have hans : ANS = .string X := by rw [← HA.out, ← eX]; unfold tkAt; rw [List.getD, hx]; rfl
  have HAn := Lh hans
  clear hans hc hx eX hr hn hb
  go_wp2
  go_ret
  exact ⟨by rw [HAn.out]; rfl, rfl⟩
 ·have z1 : ¬ (i : Int) < (n : Int) := by omega
  have hans : ANS = .string ⟨#[]⟩ := by
   rw [← HA.out]
   unfold tkAt
   rw [List.getD, List.getElem?_eq_none_iff.2 (by omega)]
   rfl
  have HAn := Lh hans
  clear hans hr hn
  go_wp2
  go_ret
  exact ⟨by rw [HAn.out]; rfl, rfl⟩
set_option maxRecDepth 100000 in
set_option maxHeartbeats 16000000 in
theorem gText (l : Bs) (w : World) :
  Calls Tryz.prog 54 #[strB l] w fun e w' => e = .returned (.bool (isT l)) ∧ w' = w := by
 obtain ⟨S, eS, hS⟩ := str_form l
 obtain ⟨ANS, hA⟩ : ∃ ANS, isT l = ANS := ⟨_, rfl⟩
 rw [eS, hA]
 have zS : S.size = l.length := by rw [hS]; exact str_size l
 cases l with
 | nil =>
  have zS0 : S.size = 0 := zS
  have hans : ANS = false := hA.symm
  subst hans
  have hS2 : S = ⟨#[]⟩ := hS
  subst hS2
  clear zS hS eS zS0 hA
  go_enter Tryz.func54, Tryz.ntmps54
  go_wp2
  go_ret
  exact ⟨rfl, rfl⟩
 | cons c r =>
  have hidx := idx_byte (P := Tryz.prog) 9 Tryz.underlying9 S (c :: r) hS 0 0 rfl (by simp) w
  rw [show byteN (c :: r) 0 = c.toNat from rfl] at hidx
  obtain ⟨N, hN⟩ : ∃ N, r.length = N := ⟨_, rfl⟩
  rw [List.length_cons, hN] at zS
  have z1 : (0 : Int) < ((N + 1 : Nat) : Int) := by omega
  have z2 : (0 : Int) < (N : Int) + 1 := by omega
  obtain ⟨q, hq⟩ : ∃ q, c.toNat = q := ⟨_, rfl⟩
  rw [hq] at hidx
  by_cases h34 : c = 34
  ·have hans : ANS = true := by rw [← hA, h34]; rfl
   have hq34 : q = 34 := by rw [← hq, h34]; rfl
   subst hq34
   have HAn := Lh hans
   clear hans hA hS eS hN hq h34
   go_enter Tryz.func54, Tryz.ntmps54
   go_wp2
   go_ret
   exact ⟨by rw [HAn.out]; first | rfl | simp, rfl⟩
  ·have hans : ANS = false := by rw [← hA]; unfold isT; exact decide_eq_false h34
   have n1 : ¬ (q : Int) = 34 := fun h => h34 (by apply UInt8.toNat.inj; rw [hq]; exact_mod_cast h)
   have m1 : ((q : Int) == 34) = false := beq_eq_false_iff_ne.2 n1
   have HAn := Lh hans
   clear hans hA hS eS hN hq h34
   go_enter Tryz.func54, Tryz.ntmps54
   go_wp2
   go_ret
   exact ⟨by rw [HAn.out]; first | rfl | simp, rfl⟩
set_option maxRecDepth 100000 in
set_option maxHeartbeats 16000000 in
theorem gNameQ (l : Bs) (w : World) (hl : l.length ≤ 9223372036854775807) :
  Calls Tryz.prog 53 #[strB l] w fun e w' => e = .returned (.bool (nameP l)) ∧ w' = w := by
 obtain ⟨S, eS, hS⟩ := str_form l
 rw [eS]
 have hn := gName S l hS w hl
 have HN := Lh hn
 clear hn hS eS
 go_enter Tryz.func53, Tryz.ntmps53
 go_wp2_with fail
 refine HN.out.mono ?_
 rintro e w' ⟨rfl, hz⟩
 obtain rfl : w = w' := hz.symm
 go_wp2
 go_ret
 exact ⟨rfl, rfl⟩
structure SqC (w0 wr : World) (g qb L : Nat) (V1 V2 : Value) (ms : List MatP) (fs : List FilP) (s : Bs) (bad : Bool) : Prop where
 sc : ScanIs wr g s bad
 qk : Blk wr qb 25 [V1, V2]
 o1 : wr.ownsRow w0.heap.size 69 3 V1 ms.length (ms.flatMap MatP.cells)
 o2 : wr.ownsRow w0.heap.size 71 2 V2 fs.length (fs.flatMap FilP.cells)
 bu : But [g] w0 wr
 sl : s.length ≤ L
 sm : ∀ m ∈ ms, m.name.length ≤ L ∧ m.val.length ≤ L
 sf : ∀ f ∈ fs, f.text.length ≤ L
 gl : g < w0.heap.size
 ql : w0.heap.size ≤ qb
section
variable {w0 wr w' : World} {g qb L mb : Nat} {V1 V2 V' : Value} {ms : List MatP} {fs : List FilP} {s s' : Bs} {bad bad' : Bool} {m : MatP} {f : FilP}
theorem SqC.scan (h : SqC w0 wr g qb L V1 V2 ms fs s bad) (hs : ScanIs w' g s' bad') (hb : But [g] wr w') (hl : s'.length ≤ s.length) : SqC w0 w' g qb L V1 V2 ms fs s' bad' := by
 have n0 : qb ∉ [g] := by have := h.gl; have := h.ql; simp; omega
 exact ⟨hs, h.qk.but hb n0, own_but h.o1 hb fun k hk hm => (by rw [List.mem_singleton] at hm; have := (h.o1.lt k hk).1; have := h.gl; omega), own_but h.o2 hb fun k hk hm => (by rw [List.mem_singleton] at hm; have := (h.o2.lt k hk).1; have := h.gl; omega), h.bu.trans hb, Nat.le_trans hl h.sl, h.sm, h.sf, h.gl, h.ql⟩
theorem SqC.below (h : SqC w0 wr g qb L V1 V2 ms fs s bad) (hb : Below wr.heap.size wr w') : SqC w0 w' g qb L V1 V2 ms fs s bad :=
 ⟨h.sc.below hb h.sc.lt, h.qk.below hb h.qk.lt, own_below h.o1 hb, own_below h.o2 hb, h.bu.trans (.of_below hb), h.sl, h.sm, h.sf, h.gl, h.ql⟩
theorem SqC.box (h : SqC w0 wr g qb L V1 V2 ms fs s bad) (hb : But [mb] wr w') (hq : qb ≠ mb) (h1 : V1.ownBlock ≠ some mb) (h2 : V2.ownBlock ≠ some mb) (h0 : w0.heap.size ≤ mb) : SqC w0 w' g qb L V1 V2 ms fs s bad := by
 have hg := h.gl
 exact ⟨h.sc.but hb (by simp; omega), h.qk.but hb (by simpa using hq), own_but h.o1 hb fun k hk hm => h1 (by rw [List.mem_singleton] at hm; rw [← hm]; exact hk), own_but h.o2 hb fun k hk hm => h2 (by rw [List.mem_singleton] at hm; rw [← hm]; exact hk), h.bu.old hb (fun x hx => .inr (by rw [List.mem_singleton] at hx; rw [hx]; exact h0)), h.sl, h.sm, h.sf, hg, h.ql⟩
theorem SqC.addM (h : SqC w0 wr g qb L V1 V2 ms fs s bad) (hm : m.name.length ≤ L ∧ m.val.length ≤ L) (hgw : wr.grownBy w' V1.ownBlock) (ho : w'.ownsRow w0.heap.size 69 3 V' (ms.length + 1) (ms.flatMap MatP.cells ++ m.cells)) (hd : ∀ k, V1.ownBlock = some k → V2.ownBlock ≠ some k) : SqC w0 (w'.setCell ⟨qb, 0, none⟩ V') g qb L V' V2 (ms ++ [m]) fs s bad := by
 have hg := h.gl
 have hbu : But V1.ownBlock.toList wr w' := But.grown hgw fun k hk => Option.mem_toList.2 hk
 have lo : ∀ k ∈ V1.ownBlock.toList, w0.heap.size ≤ k := fun k hk => (h.o1.lt k (Option.mem_toList.1 hk)).1
 have nq : qb ∉ V1.ownBlock.toList := own_blk h.o1 h.qk (by decide)
 have hq := h.qk.but hbu nq
 have kq : KeepM [25] w' (w'.setCell ⟨qb, 0, none⟩ V') := KeepM.setCell (.refl _ w') (p := ⟨qb, 0, none⟩) (show w'.heap[qb]? = _ from hq) (by simp) _
 refine ⟨kq.blk (h.sc.but hbu fun hk => by have := lo g hk; omega) (by decide), hq.set_ 0 V', ?_, kq.own (own_but h.o2 hbu fun k hk hm => hd k (Option.mem_toList.1 hm) hk) (by decide), (h.bu.old hbu fun x hx => .inr (lo x hx)).old ((But.refl [qb] w').setCell (p := ⟨qb, 0, none⟩) (by simp) V') (fun x hx => .inr (by rw [List.mem_singleton] at hx; rw [hx]; exact h.ql)), h.sl, fun x hx => ?_, h.sf, hg, h.ql⟩
 ·rw [List.length_append, List.flatMap_append]
  refine kq.own ?_ (by decide)
  simpa using ho
 ·rcases List.mem_append.1 hx with hx | hx
  ·exact h.sm x hx
  ·rw [List.mem_singleton] at hx; rw [hx]; exact hm
theorem SqC.addF (h : SqC w0 wr g qb L V1 V2 ms fs s bad) (hf : f.text.length ≤ L) (hgw : wr.grownBy w' V2.ownBlock) (ho : w'.ownsRow w0.heap.size 71 2 V' (fs.length + 1) (fs.flatMap FilP.cells ++ f.cells)) (hd : ∀ k, V2.ownBlock = some k → V1.ownBlock ≠ some k) : SqC w0 (w'.setCell ⟨qb, 1, none⟩ V') g qb L V1 V' ms (fs ++ [f]) s bad := by
 have hg := h.gl
 have hbu : But V2.ownBlock.toList wr w' := But.grown hgw fun k hk => Option.mem_toList.2 hk
 have lo : ∀ k ∈ V2.ownBlock.toList, w0.heap.size ≤ k := fun k hk => (h.o2.lt k (Option.mem_toList.1 hk)).1
 have nq : qb ∉ V2.ownBlock.toList := own_blk h.o2 h.qk (by decide)
 have hq := h.qk.but hbu nq
 have kq : KeepM [25] w' (w'.setCell ⟨qb, 1, none⟩ V') := KeepM.setCell (.refl _ w') (p := ⟨qb, 1, none⟩) (show w'.heap[qb]? = _ from hq) (by simp) _
 refine ⟨kq.blk (h.sc.but hbu fun hk => by have := lo g hk; omega) (by decide), hq.set_ 1 V', kq.own (own_but h.o1 hbu fun k hk hm => hd k (Option.mem_toList.1 hm) hk) (by decide), ?_, (h.bu.old hbu fun x hx => .inr (lo x hx)).old ((But.refl [qb] w').setCell (p := ⟨qb, 1, none⟩) (by simp) V') (fun x hx => .inr (by rw [List.mem_singleton] at hx; rw [hx]; exact h.ql)), h.sl, h.sm, fun x hx => ?_, hg, h.ql⟩
 ·rw [List.length_append, List.flatMap_append]
  refine kq.own ?_ (by decide)
  simpa using ho
 ·rcases List.mem_append.1 hx with hx | hx
  ·exact h.sf x hx
  ·rw [List.mem_singleton] at hx; rw [hx]; exact hf
theorem SqC.apart (h : SqC w0 wr g qb L V1 V2 ms fs s bad) : (∀ k, V1.ownBlock = some k → V2.ownBlock ≠ some k) ∧ (∀ k, V2.ownBlock = some k → V1.ownBlock ≠ some k) :=
 ⟨fun k h1 h2 => own_own h.o1 h.o2 (by decide) k h2 (Option.mem_toList.2 h1), fun k h1 h2 => own_own h.o1 h.o2 (by decide) k h1 (Option.mem_toList.2 h2)⟩
end
def scanM (wr : World) (g : Nat) : Nat := match wr.cell? ⟨g, 1, none⟩ with
 | some (.bool true) => 0
 | _ => match wr.cell? ⟨g, 0, none⟩ with
  | some (.string S) => S.size + 1
  | _ => 0
theorem scanM_is {w : World} {g : Nat} {s : Bs} {bad : Bool} (h : ScanIs w g s bad) : scanM w g = if bad then 0 else s.length + 1 := by
 have c0 : w.cell? ⟨g, 0, none⟩ = some (strB s) := h.cell 0
 have c1 : w.cell? ⟨g, 1, none⟩ = some (.bool bad) := h.cell 1
 unfold scanM
 rw [c0, c1]
 cases bad with
 | true => rfl
 | false =>
  show (⟨s.toArray⟩ : ByteArray).size + 1 = _
  rw [str_size]; rfl
end Go.Proofs.YtecejnilajbdpaaGreatDoor
