import Derived.Test.YtecejnilajbdpaaGreatDoorTz06
namespace Garner
open Go
def nodeTimes (n : NodeP) : Nat := if n.kind = 5 then (if n.mx < 0 then n.mn + 1 else max n.mx.toNat 1) else 1
def kidsSize (c : Nat) (S : List Nat) (ks : List Nat) : Nat := ks.foldl (fun a k => min 2000 (a + c * S.getD k 0)) 1
def nodeSize (S : List Nat) (n : NodeP) : Nat := kidsSize (nodeTimes n) S n.kids
def sizesGo (S : List Nat) (l : List NodeP) : List Nat := l.foldl (fun S n => S ++ [nodeSize S n]) S
theorem sizesGo_app (S : List Nat) (a b : List NodeP) : sizesGo S (a ++ b) = sizesGo (sizesGo S a) b := List.foldl_append ..
theorem sizesGo_one (S : List Nat) (n : NodeP) : sizesGo S [n] = S ++ [nodeSize S n] := rfl
theorem sizesGo_len : ∀ (l : List NodeP) (S : List Nat), (sizesGo S l).length = S.length + l.length
 | [], S => rfl
 | n :: l, S => by
  show (sizesGo (S ++ [nodeSize S n]) l).length = _
  rw [sizesGo_len l]; simp; omega
theorem kids_roots {c : Nat} (hc : c = 1) : ∀ (ts : List Re) (b : Nat) (S : List Nat) (a : Nat), (∀ (i r : Nat) (t : Re), (roots b ts)[i]? = some r → ts[i]? = some t → S.getD r 0 = min 2000 t.size) → a ≤ 2000 →
  (roots b ts).foldl (fun a k => min 2000 (a + c * S.getD k 0)) a = min 2000 (a + sizes ts)
 | [], b, S, a, _, ha => by simp [roots, sizes]; omega
 | t :: ts, b, S, a, h, ha => by
  have h0 := h 0 _ t rfl rfl
  have hs := size_pos t
  show (roots (b + t.cnt) ts).foldl _ (min 2000 (a + c * S.getD (b + t.cnt - 1) 0)) = _
  rw [kids_roots hc ts (b + t.cnt) S _ (fun i r u h1 h2 => h (i + 1) r u h1 h2) (by omega), h0, hc]
  simp only [sizes]
  omega
def mxM : Option Nat → Int
 | none => -1
 | some m => m
theorem rep_flatM (t : Re) (mn : Nat) (mx : Option Nat) (b : Nat) : (Re.rep t mn mx).flat b = t.flat b ++ [⟨5, [b + t.cnt - 1], mn, mxM mx, []⟩] := by
 cases mx <;> simp [Re.flat, mxM]
mutual
theorem flat_sizes : ∀ (t : Re) (S : List Nat), ∃ X, sizesGo S (t.flat S.length) = S ++ X ∧ X.length = t.cnt ∧ X.getLast? = some (min 2000 t.size)
 | .emp, S => ⟨[1], rfl, rfl, rfl⟩
 | .set l, S => ⟨[1], rfl, rfl, rfl⟩
 | .bgn, S => ⟨[1], rfl, rfl, rfl⟩
 | .fin, S => ⟨[1], rfl, rfl, rfl⟩
 | .seq l, S => by
  obtain ⟨X, h1, h2, h3⟩ := flats_sizes l S
  refine ⟨X ++ [min 2000 (sizes l + 1)], ?_, by simp [h2, Re.cnt], by simp [Re.size]⟩
  rw [Re.flat, sizesGo_app, h1, sizesGo_one, List.append_assoc]
  congr 3
  have := kids_roots (c := nodeTimes ⟨3, roots S.length l, 0, 0, []⟩) rfl l S.length (S ++ X) 1 h3 (by omega)
  show kidsSize _ _ _ = _
  unfold kidsSize
  rw [this, Nat.add_comm]
 | .alt l, S => by
  obtain ⟨X, h1, h2, h3⟩ := flats_sizes l S
  refine ⟨X ++ [min 2000 (sizes l + 1)], ?_, by simp [h2, Re.cnt], by simp [Re.size]⟩
  rw [Re.flat, sizesGo_app, h1, sizesGo_one, List.append_assoc]
  congr 3
  have := kids_roots (c := nodeTimes ⟨4, roots S.length l, 0, 0, []⟩) rfl l S.length (S ++ X) 1 h3 (by omega)
  show kidsSize _ _ _ = _
  unfold kidsSize
  rw [this, Nat.add_comm]
 | .rep k mn mx, S => by
  obtain ⟨X, h1, h2, h3⟩ := flat_sizes k S
  have hX : (S ++ X).getD (S.length + k.cnt - 1) 0 = min 2000 k.size := by
   have hp := cnt_pos k
   rw [List.getD_eq_getElem?_getD, List.getElem?_append_right (by omega), show S.length + k.cnt - 1 - S.length = X.length - 1 by omega, ← List.getLast?_eq_getElem?, h3]
   rfl
  refine ⟨X ++ [min 2000 (timesR mn mx * k.size + 1)], ?_, by simp [h2, Re.cnt], by simp [Re.size]⟩
  rw [rep_flatM, sizesGo_app, h1, sizesGo_one, List.append_assoc]
  congr 3
  have ht : nodeTimes ⟨5, [S.length + k.cnt - 1], mn, mxM mx, []⟩ = timesR mn mx := by
   cases mx with
   | none => rfl
   | some m =>
    unfold nodeTimes timesR mxM
    simp
    omega
  show kidsSize (nodeTimes _) _ [_] = _
  rw [ht]
  show min 2000 (1 + timesR mn mx * (S ++ X).getD _ 0) = _
  rw [hX]
  have := times_pos mn mx
  rcases Nat.le_total k.size 2000 with hk | hk
  ·rw [Nat.min_eq_right hk, Nat.add_comm]
  rw [Nat.min_eq_left hk]
  have h3 : 2000 ≤ timesR mn mx * 2000 := Nat.le_mul_of_pos_left _ this
  have h4 : 2000 ≤ timesR mn mx * k.size := Nat.le_trans hk (Nat.le_mul_of_pos_left _ this)
  omega
theorem flats_sizes : ∀ (ts : List Re) (S : List Nat), ∃ X, sizesGo S (flats S.length ts) = S ++ X ∧ X.length = cnts ts ∧ ∀ (i r : Nat) (t : Re), (roots S.length ts)[i]? = some r → ts[i]? = some t → (S ++ X).getD r 0 = min 2000 t.size
 | [], S => ⟨[], by simp [flats, sizesGo], rfl, fun i r t h => by simp [roots] at h⟩
 | t :: ts, S => by
  obtain ⟨X, h1, h2, h3⟩ := flat_sizes t S
  obtain ⟨Y, h4, h5, h6⟩ := flats_sizes ts (S ++ X)
  rw [List.length_append, h2] at h4 h6
  refine ⟨X ++ Y, ?_, by simp [h2, h5, cnts], fun i r u hr hu => ?_⟩
  ·rw [flats, sizesGo_app, h1, h4, List.append_assoc]
  cases i with
  | zero =>
   simp [roots] at hr
   simp at hu
   subst hu hr
   have hp := cnt_pos t
   rw [List.getD_eq_getElem?_getD, List.getElem?_append_right (by omega), List.getElem?_append_left (by omega), show S.length + t.cnt - 1 - S.length = X.length - 1 by omega, ← List.getLast?_eq_getElem?, h3]
   rfl
  | succ i =>
   rw [← List.append_assoc]
   exact h6 i r u (by simpa [roots] using hr) (by simpa using hu)
end
theorem size_root (t : Re) : (sizesGo [] (t.flat 0)).getLast? = some (min 2000 t.size) := by
 obtain ⟨X, h1, h2, h3⟩ := flat_sizes t []
 rw [show ([] : List Nat).length = 0 from rfl] at h1
 rw [h1, List.nil_append, h3]
def WfN (ns : List NodeP) : Prop := ∀ (i : Nat) (n : NodeP), ns[i]? = some n → ∀ k ∈ n.kids, k < i
theorem roots_lt : ∀ (ts : List Re) (b r : Nat), r ∈ roots b ts → b ≤ r ∧ r < b + cnts ts
 | [], b, r, h => by simp [roots] at h
 | t :: ts, b, r, h => by
  have hp := cnt_pos t
  simp only [roots, List.mem_cons] at h
  simp only [cnts]
  rcases h with h | h
  ·omega
  have := roots_lt ts _ r h
  omega
theorem wf_app {b : Nat} {l m : List NodeP} (h1 : ∀ (i : Nat) (n : NodeP), l[i]? = some n → ∀ k ∈ n.kids, k < b + i) (h2 : ∀ (i : Nat) (n : NodeP), m[i]? = some n → ∀ k ∈ n.kids, k < b + l.length + i) : ∀ (i : Nat) (n : NodeP), (l ++ m)[i]? = some n → ∀ k ∈ n.kids, k < b + i := fun i n hn k hk => by
 rcases Nat.lt_or_ge i l.length with h | h
 ·rw [List.getElem?_append_left h] at hn
  exact h1 i n hn k hk
 rw [List.getElem?_append_right h] at hn
 have := h2 _ n hn k hk
 omega
theorem wf_one {b : Nat} {x : NodeP} (h : ∀ k ∈ x.kids, k < b) : ∀ (i : Nat) (n : NodeP), [x][i]? = some n → ∀ k ∈ n.kids, k < b + i := fun i n hn k hk => by
 cases i with
 | zero => simp at hn; subst hn; have := h k hk; omega
 | succ i => simp at hn
mutual
theorem wf_flat : ∀ (t : Re) (b : Nat) (i : Nat) (n : NodeP), (t.flat b)[i]? = some n → ∀ k ∈ n.kids, k < b + i
 | .emp, b => wf_one (by simp)
 | .set l, b => wf_one (by simp)
 | .bgn, b => wf_one (by simp)
 | .fin, b => wf_one (by simp)
 | .seq l, b => by
  rw [Re.flat]
  exact wf_app (wf_flats l b) (wf_one fun k hk => by rw [flats_len]; exact (roots_lt l b k hk).2)
 | .alt l, b => by
  rw [Re.flat]
  exact wf_app (wf_flats l b) (wf_one fun k hk => by rw [flats_len]; exact (roots_lt l b k hk).2)
 | .rep t mn mx, b => by
  rw [rep_flatM]
  exact wf_app (wf_flat t b) (wf_one fun k hk => by
   have := cnt_pos t
   rw [flat_len]
   simp at hk
   omega)
theorem wf_flats : ∀ (ts : List Re) (b : Nat) (i : Nat) (n : NodeP), (flats b ts)[i]? = some n → ∀ k ∈ n.kids, k < b + i
 | [], b => by simp [flats]
 | t :: ts, b => by
  rw [flats]
  exact wf_app (wf_flat t b) fun i n hn k hk => by
   have := wf_flats ts (b + t.cnt) i n hn k hk
   rw [flat_len]
   exact this
end
open Go
mutual
def Re.lim : Re → Prop
 | .emp => True
 | .set _ => True
 | .seq l => lims l
 | .alt l => lims l
 | .rep k mn mx => k.lim ∧ mn ≤ 8 ∧ ∀ m, mx = some m → m ≤ 8
 | .bgn => True
 | .fin => True
def lims : List Re → Prop
 | [] => True
 | t :: ts => t.lim ∧ lims ts
end
theorem many_lim {mk : List Re → Re} (h : ∀ l, (mk l).lim = lims l) {l : List Re} (hl : lims l) : (manyR mk l).lim := by
 match l, hl with
 | [], hl => exact (h []).symm ▸ hl
 | [t], hl => exact hl.1
 | t :: u :: r, hl => exact (h (t :: u :: r)).symm ▸ hl
theorem rowOf_lim {l : List Re} (hl : lims l) : (rowOf l).lim := by
 unfold rowOf
 split
 ·trivial
 exact many_lim (mk := .seq) (fun _ => rfl) hl
theorem quant_lim {t u : Re} {s s1 : List Nat} (h : quantR t s = some (u, s1)) (ht : t.lim) : u.lim := by
 cases s with
 | nil => cases h; exact ht
 | cons r s =>
  rw [quantR] at h
  split at h
  ·cases h; exact ⟨ht, by omega, fun m e => (by cases e)⟩
  split at h
  ·cases h; exact ⟨ht, by omega, fun m e => (by cases e)⟩
  split at h
  ·cases h; exact ⟨ht, by omega, fun m e => (by cases e; omega)⟩
  split at h
  ·split at h
   ·cases h
   rename_i lo s2 h1
   have l1 := (digR_len h1).2
   split at h
   ·split at h
    ·cases h
    rename_i hi s3 h2
    have l2 := (digR_len h2).2
    split at h
    ·injection h with h; injection h with h3 h4
     subst h3
     exact ⟨ht, l1, fun m e => (by cases e; exact l2)⟩
    cases h
   split at h
   ·injection h with h; injection h with h3 h4
    subst h3
    exact ⟨ht, l1, fun m e => (by cases e; exact l1)⟩
   cases h
  cases h; exact ht
theorem parse_lim : ∀ n : Nat,
  (∀ {s s1 : List Nat} {ts : List Re} {d : Nat}, altsR n s = some (ts, s1, d) → lims ts) ∧
  (∀ {s s1 : List Nat} {ts : List Re} {d : Nat}, rowsR n s = some (ts, s1, d) → lims ts) ∧
  (∀ {s s1 : List Nat} {t : Re} {d : Nat}, itemR n s = some (t, s1, d) → t.lim) ∧
  (∀ {s s1 : List Nat} {t : Re} {d : Nat}, atomR n s = some (t, s1, d) → t.lim)
 | 0 => ⟨fun h => (by cases h), fun h => (by cases h), fun h => (by cases h), fun h => (by cases h)⟩
 | n + 1 => by
  obtain ⟨ia, ir, ii, it⟩ := parse_lim n
  refine ⟨?_, ?_, ?_, ?_⟩
  ·intro s s1 ts d h
   rw [altsR] at h
   split at h
   ·cases h
   rename_i us s2 e hr
   have h2 := ir hr
   split at h
   ·split at h
    ·cases h
    rename_i vs s3 e2 ha
    have h4 := ia ha
    cases h
    exact ⟨rowOf_lim h2, h4⟩
   cases h
   exact ⟨rowOf_lim h2, trivial⟩
  ·intro s s1 ts d h
   rw [rowsR] at h
   split at h
   ·cases h; trivial
   split at h
   ·cases h
   rename_i t s2 e hi
   have h2 := ii hi
   split at h
   ·cases h
   rename_i vs s3 e2 hr
   have h4 := ir hr
   cases h
   exact ⟨h2, h4⟩
  ·intro s s1 t d h
   rw [itemR] at h
   split at h
   ·cases h
   rename_i v s2 e ha
   have h2 := it ha
   obtain ⟨p, hp, e⟩ := Option.map_eq_some_iff.1 h
   cases e
   exact quant_lim (u := p.1) (s1 := p.2) hp h2
  intro s s1 t d h
  cases s with
  | nil => cases h
  | cons r s =>
   rw [atomR] at h
   split at h
   ·split at h
    ·cases h
    rename_i us s2 e ha
    have h2 := ia ha
    split at h
    ·cases h
     exact many_lim (mk := .alt) (fun _ => rfl) h2
    cases h
   split at h
   ·obtain ⟨p, hp, e⟩ := Option.map_eq_some_iff.1 h
    cases e; trivial
   split at h
   ·cases h; trivial
   split at h
   ·cases h; trivial
   split at h
   ·cases h; trivial
   split at h
   ·obtain ⟨p, hp, e⟩ := Option.map_eq_some_iff.1 h
    cases e; trivial
   split at h
   ·cases h
   cases h; trivial
theorem len_cnts : ∀ l : List Re, l.length ≤ cnts l
 | [] => Nat.le_refl _
 | t :: ts => by
  have := len_cnts ts
  have := cnt_pos t
  simp only [List.length_cons, cnts]; omega
def LimN (C : Nat) (n : NodeP) : Prop := n.kind ≤ 7 ∧ n.mn ≤ 8 ∧ -1 ≤ n.mx ∧ n.mx ≤ 8 ∧ n.kids.length ≤ C
theorem LimN.mono {C D : Nat} {n : NodeP} (h : LimN C n) (hc : C ≤ D) : LimN D n := ⟨h.1, h.2.1, h.2.2.1, h.2.2.2.1, Nat.le_trans h.2.2.2.2 hc⟩
mutual
theorem flat_lim : ∀ (t : Re) (b : Nat), t.lim → ∀ n ∈ t.flat b, LimN t.cnt n
 | .emp, b, _, n, hn => by simp [Re.flat] at hn; subst hn; exact ⟨by simp, by simp, by simp, by simp, by simp⟩
 | .set l, b, _, n, hn => by simp [Re.flat] at hn; subst hn; exact ⟨by simp, by simp, by simp, by simp, by simp⟩
 | .bgn, b, _, n, hn => by simp [Re.flat] at hn; subst hn; exact ⟨by simp, by simp, by simp, by simp, by simp⟩
 | .fin, b, _, n, hn => by simp [Re.flat] at hn; subst hn; exact ⟨by simp, by simp, by simp, by simp, by simp⟩
 | .seq l, b, hl, n, hn => by
  rw [Re.flat] at hn
  have := len_cnts l
  rcases List.mem_append.1 hn with hn | hn
  ·exact (flats_lim l b hl n hn).mono (by simp only [Re.cnt]; omega)
  rw [List.mem_singleton.1 hn]
  exact ⟨by simp, by simp, by simp, by simp, by rw [roots_len]; simp only [Re.cnt]; omega⟩
 | .alt l, b, hl, n, hn => by
  rw [Re.flat] at hn
  have := len_cnts l
  rcases List.mem_append.1 hn with hn | hn
  ·exact (flats_lim l b hl n hn).mono (by simp only [Re.cnt]; omega)
  rw [List.mem_singleton.1 hn]
  exact ⟨by simp, by simp, by simp, by simp, by rw [roots_len]; simp only [Re.cnt]; omega⟩
 | .rep t mn mx, b, hl, n, hn => by
  rw [rep_flatM] at hn
  have := cnt_pos t
  rcases List.mem_append.1 hn with hn | hn
  ·exact (flat_lim t b hl.1 n hn).mono (by simp only [Re.cnt]; omega)
  rw [List.mem_singleton.1 hn]
  refine ⟨by simp, hl.2.1, ?_, ?_, by simp only [Re.cnt]; simp⟩
  ·cases mx with
   | none => simp [mxM]
   | some m => simp only [mxM]; omega
  cases mx with
  | none => simp [mxM]
  | some m => have := hl.2.2 m rfl; simp only [mxM]; omega
theorem flats_lim : ∀ (ts : List Re) (b : Nat), lims ts → ∀ n ∈ flats b ts, LimN (cnts ts) n
 | [], b, _, n, hn => by simp [flats] at hn
 | t :: ts, b, hl, n, hn => by
  rw [flats] at hn
  rcases List.mem_append.1 hn with hn | hn
  ·exact (flat_lim t b hl.1 n hn).mono (by simp only [cnts]; omega)
  exact (flats_lim ts _ hl.2 n hn).mono (by simp only [cnts]; omega)
end
open Go
def SetOk (b : Nat) (l : List Nat) : Prop := l.length ≤ b ∧ ∃ k, l.length = 2 * k
mutual
def Re.evs (b : Nat) : Re → Prop
 | .emp => True
 | .set l => SetOk b l
 | .seq l => evss b l
 | .alt l => evss b l
 | .rep k _ _ => k.evs b
 | .bgn => True
 | .fin => True
def evss (b : Nat) : List Re → Prop
 | [] => True
 | t :: ts => t.evs b ∧ evss b ts
end
variable {b : Nat}
theorem many_evs {mk : List Re → Re} (h : ∀ l, (mk l).evs b = evss b l) {l : List Re} (hl : evss b l) : (manyR mk l).evs b := by
 match l, hl with
 | [], hl => exact (h []).symm ▸ hl
 | [t], hl => exact hl.1
 | t :: u :: r, hl => exact (h (t :: u :: r)).symm ▸ hl
theorem rowOf_evs {l : List Re} (hl : evss b l) : (rowOf l).evs b := by
 unfold rowOf
 split
 ·trivial
 exact many_evs (mk := .seq) (fun _ => rfl) hl
theorem quant_evs {t u : Re} {s s1 : List Nat} (h : quantR t s = some (u, s1)) (ht : t.evs b) : u.evs b := by
 cases s with
 | nil => cases h; exact ht
 | cons r s =>
  rw [quantR] at h
  split at h
  ·cases h; exact ht
  split at h
  ·cases h; exact ht
  split at h
  ·cases h; exact ht
  split at h
  ·split at h
   ·cases h
   split at h
   ·split at h
    ·cases h
    split at h
    ·injection h with h; injection h with h3 h4
     subst h3
     exact ht
    cases h
   split at h
   ·injection h with h; injection h with h3 h4
    subst h3
    exact ht
   cases h
  cases h; exact ht
theorem flatR_two : ∀ l : List (Nat × Nat), (flatR l).length = 2 * l.length
 | [] => rfl
 | p :: l => by
  have := flatR_two l
  unfold flatR at this ⊢
  rw [List.flatMap_cons, List.length_append, this]
  simp; omega
theorem pairsR_two : ∀ l : List Nat, 2 * (pairsR l).length ≤ l.length
 | [] => by simp [pairsR]
 | [_] => by simp [pairsR]
 | a :: c :: r => by
  have := pairsR_two r
  simp only [pairsR, List.length_cons]; omega
theorem insR_len (x : Nat × Nat) : ∀ l, (insR x l).length = l.length + 1
 | [] => rfl
 | y :: r => by
  rw [insR]
  split
  ·rfl
  simp only [List.length_cons, insR_len x r]
theorem sortR_len : ∀ l, (sortR l).length = l.length
 | [] => rfl
 | x :: r => by rw [sortR, insR_len, sortR_len r]; rfl
theorem stepI_len (out : List (Nat × Nat)) (x : Nat × Nat) : (stepI out x).length ≤ out.length + 1 := by
 unfold stepI
 split
 ·split
  ·rw [List.length_append, List.length_dropLast]; simp
  simp
 simp
theorem mergeI_len (l : List (Nat × Nat)) : (mergeI l).length ≤ l.length := by
 have : ∀ (l out : List (Nat × Nat)), (l.foldl stepI out).length ≤ out.length + l.length := fun l => by
  induction l with
  | nil => intro out; simp
  | cons x r ih =>
   intro out
   have h1 := ih (stepI out x)
   have h2 := stepI_len out x
   rw [List.foldl_cons, List.length_cons]; omega
 have h := this l []
 simpa [mergeI] using h
theorem othersGo_len1 : ∀ (l : List (Nat × Nat)) (f : Nat), (othersGo f l).length ≤ l.length + 1
 | [], f => by rw [othersGo]; split <;> simp
 | (a, c) :: r, f => by
  have := othersGo_len1 r (c + 1)
  rw [othersGo, List.length_append, List.length_cons]
  split <;> simp <;> omega
theorem merged_ok {l : List Nat} (h : l.length ≤ b) : SetOk b (mergedR l) := by
 have h1 := mergeI_len (sortR (pairsR l))
 rw [sortR_len] at h1
 have h2 := pairsR_two l
 exact ⟨by unfold mergedR; rw [flatR_two]; omega, _, flatR_two _⟩
theorem others_ok {l : List Nat} (h : l.length + 2 ≤ b) : SetOk b (othersR l) := by
 have h1 := othersGo_len1 (pairsR l) 0
 have h2 := pairsR_two l
 exact ⟨by unfold othersR; rw [flatR_two]; omega, _, flatR_two _⟩
theorem escR_ok {s m s1 : List Nat} (h : escR s = some (m, s1)) : SetOk 8 m := by
 cases s with
 | nil => cases h
 | cons r s =>
  simp only [escR] at h
  split at h
  ·cases h; exact ⟨by simp, 1, rfl⟩
  split at h
  ·cases h; exact ⟨by simp, 1, rfl⟩
  split at h
  ·cases h; exact ⟨by simp, 1, rfl⟩
  split at h
  ·cases h; exact ⟨by simp, 4, rfl⟩
  split at h
  ·cases h; exact ⟨by simp, 3, rfl⟩
  split at h
  ·cases h; exact ⟨by simp, 1, rfl⟩
  cases h
theorem memR_ok {s m s1 : List Nat} (h : memR s = some (m, s1)) : m.length ≤ 8 := by
 cases s with
 | nil => cases h
 | cons r s =>
  simp only [memR] at h
  split at h
  ·exact (escR_ok h).1
  split at h
  ·cases h
  cases h; simp
theorem rngR_ok {m t q : List Nat} (h : rngR m t = some q) : q.length ≤ 8 := by
 unfold rngR at h
 split at h
 ·split at h
  ·cases h; simp
  cases h
 cases h
theorem clsR_ok : ∀ {n : Nat} {f : Bool} {s acc m s1 : List Nat}, clsR n f s acc = some (m, s1) → m.length ≤ acc.length + 8 * s.length
 | 0, f, s, acc, m, s1, h => by cases h
 | n + 1, f, s, acc, m, s1, h => by
  rw [clsR] at h
  split at h
  ·cases h; omega
  split at h
  ·cases h
  rename_i m1 s2 h1
  have l1 := memR_len h1
  have k1 := memR_ok h1
  split at h
  ·split at h
   ·cases h
   rename_i t s3 h2
   have l2 := memR_len h2
   have l3 := tail_le s2
   split at h
   ·cases h
   rename_i q h3
   have k3 := rngR_ok h3
   have := clsR_ok h
   rw [List.length_append] at this
   omega
  have := clsR_ok h
  rw [List.length_append] at this
  omega
theorem classR_ok {s m s1 : List Nat} (h : classR s = some (m, s1)) (hb : 8 * s.length + 2 ≤ b) : SetOk b m := by
 unfold classR at h
 split at h
 ·obtain ⟨p, hp, e⟩ := Option.map_eq_some_iff.1 h
  cases e
  have := clsR_ok (m := p.1) (s1 := p.2) hp
  have l3 := tail_le s
  have hm : SetOk (8 * s.length) (mergedR p.1) := merged_ok (by simp at this; omega)
  exact others_ok (by have := hm.1; omega)
 obtain ⟨p, hp, e⟩ := Option.map_eq_some_iff.1 h
 cases e
 have := clsR_ok (m := p.1) (s1 := p.2) hp
 exact merged_ok (by simp at this; omega)
theorem parse_evs : ∀ n : Nat,
  (∀ {s s1 : List Nat} {ts : List Re} {d : Nat}, 8 * s.length + 2 ≤ b → altsR n s = some (ts, s1, d) → evss b ts) ∧
  (∀ {s s1 : List Nat} {ts : List Re} {d : Nat}, 8 * s.length + 2 ≤ b → rowsR n s = some (ts, s1, d) → evss b ts) ∧
  (∀ {s s1 : List Nat} {t : Re} {d : Nat}, 8 * s.length + 2 ≤ b → itemR n s = some (t, s1, d) → t.evs b) ∧
  (∀ {s s1 : List Nat} {t : Re} {d : Nat}, 8 * s.length + 2 ≤ b → atomR n s = some (t, s1, d) → t.evs b)
 | 0 => ⟨fun _ h => (by cases h), fun _ h => (by cases h), fun _ h => (by cases h), fun _ h => (by cases h)⟩
 | n + 1 => by
  obtain ⟨ia, ir, ii, it⟩ := parse_evs n
  obtain ⟨la, lr, li, lt⟩ := parse_len n
  refine ⟨?_, ?_, ?_, ?_⟩
  ·intro s s1 ts d hb h
   rw [altsR] at h
   split at h
   ·cases h
   rename_i us s2 e hr
   have h2 := ir hb hr
   have k2 := lr hr
   split at h
   ·split at h
    ·cases h
    rename_i vs s3 e2 ha
    have k3 := tail_le s2
    have h4 := ia (by omega) ha
    cases h
    exact ⟨rowOf_evs h2, h4⟩
   cases h
   exact ⟨rowOf_evs h2, trivial⟩
  ·intro s s1 ts d hb h
   rw [rowsR] at h
   split at h
   ·cases h; trivial
   split at h
   ·cases h
   rename_i t s2 e hi
   have h2 := ii hb hi
   have k2 := li hi
   split at h
   ·cases h
   rename_i vs s3 e2 hr
   have h4 := ir (by omega) hr
   cases h
   exact ⟨h2, h4⟩
  ·intro s s1 t d hb h
   rw [itemR] at h
   split at h
   ·cases h
   rename_i v s2 e ha
   have h2 := it hb ha
   obtain ⟨p, hp, e⟩ := Option.map_eq_some_iff.1 h
   cases e
   exact quant_evs (u := p.1) (s1 := p.2) hp h2
  intro s s1 t d hb h
  cases s with
  | nil => cases h
  | cons r s =>
   rw [List.length_cons] at hb
   rw [atomR] at h
   split at h
   ·split at h
    ·cases h
    rename_i us s2 e ha
    have h2 := ia (by omega) ha
    split at h
    ·cases h
     exact many_evs (mk := .alt) (fun _ => rfl) h2
    cases h
   split at h
   ·obtain ⟨p, hp, e⟩ := Option.map_eq_some_iff.1 h
    cases e
    exact classR_ok (m := p.1) (s1 := p.2) hp (by omega)
   split at h
   ·cases h; exact ⟨by simp; omega, 2, rfl⟩
   split at h
   ·cases h; trivial
   split at h
   ·cases h; trivial
   split at h
   ·obtain ⟨p, hp, e⟩ := Option.map_eq_some_iff.1 h
    cases e
    have := escR_ok (m := p.1) (s1 := p.2) hp
    exact ⟨by have := this.1; omega, this.2⟩
   split at h
   ·cases h
   cases h; exact ⟨by simp; omega, 1, rfl⟩
def EvL (b : Nat) (l : List InstP) : Prop := ∀ c ∈ l, SetOk b c.runes
theorem EvL.app {l m : List InstP} (h : EvL b l) (k : EvL b m) : EvL b (l ++ m) := fun c hc => (List.mem_append.1 hc).elim (h c) (k c)
theorem EvL.nil : EvL b [] := fun c hc => by cases hc
theorem EvL.cons {a : InstP} {l : List InstP} (h1 : SetOk b a.runes) (h : EvL b l) : EvL b (a :: l) := fun c hc => by
 rcases List.mem_cons.1 hc with rfl | hc
 ·exact h1
 exact h c hc
theorem set_nil : SetOk b [] := ⟨Nat.zero_le _, 0, rfl⟩
theorem repC_ev {c : Nat → List InstP} {len : Nat} (h : ∀ p, EvL b (c p)) : ∀ n p, EvL b (repC c len n p)
 | 0, p => .nil
 | n + 1, p => by rw [repC]; exact (h p).app (repC_ev h n _)
theorem optC_ev {c : Nat → List InstP} {len e : Nat} (h : ∀ p, EvL b (c p)) : ∀ n p, EvL b (optC c len e n p)
 | 0, p => .nil
 | n + 1, p => by rw [optC]; exact .cons set_nil ((h _).app (optC_ev h n _))
mutual
theorem code_ev : ∀ (t : Re) (p : Nat), t.evs b → EvL b (t.code p)
 | .emp, p, _ => .nil
 | .set l, p, h => by simp only [Re.code]; exact .cons h .nil
 | .seq l, p, h => by simp only [Re.code]; exact codes_ev l p h
 | .alt l, p, h => by simp only [Re.code]; exact altC_ev l p _ h
 | .rep k mn none, p, h => by
  have ih : ∀ p, EvL b (k.code p) := fun p => code_ev k p h
  simp only [Re.code]
  exact (repC_ev ih mn p).app (.cons set_nil ((ih _).app (.cons set_nil .nil)))
 | .rep k mn (some m), p, h => by
  have ih : ∀ p, EvL b (k.code p) := fun p => code_ev k p h
  simp only [Re.code]
  exact (repC_ev ih mn p).app (optC_ev ih _ _)
 | .bgn, p, _ => by simp only [Re.code]; exact .cons set_nil .nil
 | .fin, p, _ => by simp only [Re.code]; exact .cons set_nil .nil
theorem codes_ev : ∀ (l : List Re) (p : Nat), evss b l → EvL b (codes l p)
 | [], p, _ => .nil
 | t :: ts, p, h => by simp only [codes]; exact (code_ev t p h.1).app (codes_ev ts _ h.2)
theorem altC_ev : ∀ (l : List Re) (p e : Nat), evss b l → EvL b (altC l p e)
 | [], p, e, _ => .nil
 | [t], p, e, h => by simp only [altC]; exact code_ev t p h.1
 | t :: u :: ts, p, e, h => by
  have ih := altC_ev (u :: ts)
  simp only [altC]
  exact .cons set_nil ((code_ev t _ h.1).app (.cons set_nil (ih _ _ h.2)))
end
structure GoodR (ins : List InstP) : Prop where
 tgt : TgtR ins
 pos : 0 < ins.length
 small : ins.length ≤ 100000
 ev : EvL 2000 ins
theorem read_lim {s : List Nat} {t : Re} (h : readR s = .ok t) : ∃ ts d, altsR (4 * s.length + 4) s = some (ts, [], d) ∧ t = manyR .alt ts ∧ t.size ≤ 1000 := by
 unfold readR at h
 split at h
 ·cases h
 rename_i ts rest d e
 split at h
 ·cases h
 rename_i hr
 split at h
 ·cases h
 split at h
 ·cases h
 rename_i hz
 cases h
 have : rest = [] := Classical.byContradiction hr
 subst this
 exact ⟨ts, d, e, rfl, by omega⟩
structure GoodT (t : Re) : Prop where
 ok : t.ok
 lim : t.lim
 cnt : t.cnt ≤ 10000
 len : t.len ≤ 80000
 prog : GoodR (progR t)
theorem read_good {s : List Nat} (hs : s.length ≤ 200) {t : Re} (h : readR s = .ok t) : GoodT t := by
 obtain ⟨ts, d, h1, rfl, hz⟩ := read_lim h
 obtain ⟨h3, h4, h5⟩ := (parse_cnt _).1 h1
 have ok : (manyR Re.alt ts).ok := many_ok h4 (fun h hne => ⟨hne, h⟩) h5
 have lim : (manyR Re.alt ts).lim := many_lim (mk := .alt) (fun _ => rfl) ((parse_lim _).1 h1)
 have ev : (manyR Re.alt ts).evs 2000 := many_evs (mk := .alt) (fun _ => rfl) ((parse_evs _).1 (by omega) h1)
 have hl := len_size _ ok
 have hpl : (progR (manyR Re.alt ts)).length = (manyR Re.alt ts).len + 1 := by unfold progR; rw [List.length_append, code_len]; rfl
 refine ⟨ok, lim, ?_, by omega, prog_tgt _, by omega, by omega, ?_⟩
 ·have := many_cnt Re.alt (fun _ => rfl) ts
  omega
 unfold progR
 exact (code_ev _ 0 ev).app (.cons set_nil .nil)
end Garner
