import Derived.Test.YtmcacicopgckmaaGreatDoorLs27
import Derived.Lib.Small
/-! text, plain: runs of word runes -/
namespace Garner
open Go
def wordR (r : Nat) : Bool := if (48 ≤ r ∧ r ≤ 57) ∨ (97 ≤ r ∧ r ≤ 122) ∨ (65 ≤ r ∧ r ≤ 90) ∨ r = 95 then true else if r < 192 ∨ r = 215 ∨ r = 247 ∨ (8192 ≤ r ∧ r ≤ 8303) ∨ (12288 ≤ r ∧ r ≤ 12351) then false else decide (r ≠ 65533) && Lib.validRune (r : Int)
def smallR (r : Nat) : Nat := if (65 ≤ r ∧ r ≤ 90) ∨ (192 ≤ r ∧ r ≤ 222 ∧ r ≠ 215) ∨ (913 ≤ r ∧ r ≤ 937 ∧ r ≠ 930) ∨ (1040 ≤ r ∧ r ≤ 1071) then r + 32 else if 1024 ≤ r ∧ r ≤ 1039 then r + 80 else if r = 376 then 255 else r
theorem smallR_le {r : Nat} (h : r ≤ 1114111) : smallR r ≤ 1114111 := by
  unfold smallR
  split
  · omega
  split
  · omega
  split
  · omega
  · exact h
/-- runes, and where they begin -/
def itemsGo : Nat → Nat → Bs → List (Nat × Nat)
  | 0, _, _ => []
  | n + 1, pos, l => if l = [] then [] else (pos, (Lib.decodeL l).1) :: itemsGo n (pos + (Lib.decodeL l).2) (l.drop (Lib.decodeL l).2)
def itemsOf (pos : Nat) (l : Bs) : List (Nat × Nat) := itemsGo l.length pos l
theorem itemsGo_fuel : ∀ (n m pos : Nat) (l : Bs), l.length ≤ n → l.length ≤ m → itemsGo n pos l = itemsGo m pos l
  | 0, m, pos, l, h, _ => by
    rw [List.eq_nil_of_length_eq_zero (by omega : l.length = 0)]
    cases m <;> simp [itemsGo]
  | n + 1, 0, pos, l, _, h => by
    rw [List.eq_nil_of_length_eq_zero (by omega : l.length = 0)]
    simp [itemsGo]
  | n + 1, m + 1, pos, l, h1, h2 => by
    unfold itemsGo
    by_cases hl : l = []
    · rw [if_pos hl, if_pos hl]
    · have hw := Lib.decodeL_width l
      have := List.length_pos_iff.2 hl
      rw [if_neg hl, if_neg hl, itemsGo_fuel n m _ _ (by rw [List.length_drop]; omega) (by rw [List.length_drop]; omega)]
theorem items_step {pos : Nat} {l : Bs} (hl : l ≠ []) : itemsOf pos l = (pos, (Lib.decodeL l).1) :: itemsOf (pos + (Lib.decodeL l).2) (l.drop (Lib.decodeL l).2) := by
  have hw := Lib.decodeL_width l
  have hp := List.length_pos_iff.2 hl
  obtain ⟨n, hn⟩ : ∃ n, l.length = n + 1 := ⟨l.length - 1, by omega⟩
  unfold itemsOf
  rw [hn]
  conv => lhs; unfold itemsGo
  rw [if_neg hl, itemsGo_fuel n _ _ _ (by rw [List.length_drop]; omega) (Nat.le_refl _)]
theorem items_nil (pos : Nat) : itemsOf pos [] = [] := rfl
/-- a run: its word, where it begins and ends -/
structure RunP where
  word : List Nat
  fr : Nat
  to : Nat
def bumpT (x : Nat × Nat) (u : RunP) : RunP := ⟨if u.word.length < 32 then u.word ++ [smallR x.2] else u.word, u.fr, x.1 + (encR x.2).length⟩
def lastT (f : RunP → RunP) : List RunP → List RunP
  | [] => []
  | [u] => [f u]
  | u :: v :: r => u :: lastT f (v :: r)
theorem lastT_snoc (f : RunP → RunP) : ∀ (l : List RunP) (u : RunP), lastT f (l ++ [u]) = l ++ [f u]
  | [], u => rfl
  | [v], u => rfl
  | v :: w :: r, u => by
    have := lastT_snoc f (w :: r) u
    simp only [List.cons_append] at this ⊢
    rw [lastT, this]
def runStep (st : List RunP × Bool) (x : Nat × Nat) : List RunP × Bool :=
  if wordR x.2 = true then (lastT (bumpT x) (if st.2 = true then st.1 else st.1 ++ [⟨[], x.1, 0⟩]), true) else (st.1, false)
def runsAt (its : List (Nat × Nat)) : List RunP × Bool := its.foldl runStep ([], false)
def runsT (l : Bs) : List RunP := (runsAt (itemsOf 0 l)).1
theorem runsAt_snoc (its : List (Nat × Nat)) (x : Nat × Nat) : runsAt (its ++ [x]) = runStep (runsAt its) x := by simp [runsAt]
/-- so many runes are behind -/
structure ItAt (l : Bs) (its : List (Nat × Nat)) (pos k : Nat) : Prop where
  at_ : its.drop k = itemsOf pos (l.drop pos)
  le : k ≤ its.length
theorem ItAt.start (l : Bs) : ItAt l (itemsOf 0 l) 0 0 := ⟨rfl, Nat.zero_le _⟩
theorem ItAt.next {l : Bs} {its : List (Nat × Nat)} {pos k r q : Nat} (h : ItAt l its pos k) (hp : pos < l.length) (hd : Utf8.decode ⟨l.toArray⟩ pos = (r, q)) : its[k]? = some (pos, r) ∧ ItAt l its (pos + q) (k + 1) := by
  have hdd := Lib.decodeL_drop ⟨l.toArray⟩ pos
  have e : (⟨l.toArray⟩ : ByteArray).data.toList = l := by simp
  rw [e, hd] at hdd
  have hne : l.drop pos ≠ [] := fun e => by
    have := congrArg List.length e
    rw [List.length_drop] at this
    simp only [List.length_nil] at this
    omega
  have h1 := h.at_.trans (items_step hne)
  rw [hdd, List.drop_drop] at h1
  have hk : its[k]? = some (pos, r) := by
    have : (its.drop k)[0]? = some (pos, r) := by rw [h1]; rfl
    rwa [List.getElem?_drop, Nat.add_zero] at this
  have hlt := (List.getElem?_eq_some_iff.1 hk).1
  refine ⟨hk, ?_, hlt⟩
  have : (its.drop k).drop 1 = itemsOf (pos + q) (l.drop (pos + q)) := by rw [h1]; rfl
  rwa [List.drop_drop] at this
theorem ItAt.done {l : Bs} {its : List (Nat × Nat)} {pos k : Nat} (h : ItAt l its pos k) (hp : ¬ pos < l.length) : its.take k = its := by
  have h1 := h.at_
  rw [List.drop_eq_nil_of_le (by omega : l.length ≤ pos), items_nil] at h1
  have := congrArg List.length h1
  rw [List.length_drop] at this
  have h2 := h.le
  have h3 : ([] : List (Nat × Nat)).length = 0 := rfl
  exact List.take_of_length_le (by omega)
theorem take_snoc {its : List (Nat × Nat)} {k : Nat} {x : Nat × Nat} (h : its[k]? = some x) : its.take (k + 1) = its.take k ++ [x] := by rw [List.take_add_one, h]; rfl
/-- the words that stand between other runes -/
def innerT (l : Bs) : List Bs := ((runsT l).filter fun u => decide (0 < u.fr) && decide (u.to < l.length)).map fun u => encT u.word
def innerP (l : Bs) : List Bs := onceB (innerT l)
def wordsT (l : Bs) : List Bs := (runsT l).map fun u => encT u.word
theorem runStep_len (st : List RunP × Bool) (x : Nat × Nat) : (runStep st x).1.length ≤ st.1.length + 1 := by
  have h : ∀ (f : RunP → RunP) (l : List RunP), (lastT f l).length = l.length := fun f l => by
    induction l with
    | nil => rfl
    | cons u r ih => cases r with
      | nil => rfl
      | cons v r => rw [lastT, List.length_cons, ih]; rfl
  unfold runStep
  split
  · rw [h]; split <;> simp
  · simp
theorem runsAt_len (its : List (Nat × Nat)) : (runsAt its).1.length ≤ its.length := by
  have key : ∀ (l : List (Nat × Nat)) (st : List RunP × Bool), (l.foldl runStep st).1.length ≤ st.1.length + l.length := by
    intro l
    induction l with
    | nil => intro st; simp
    | cons x r ih =>
      intro st
      have h1 := ih (runStep st x)
      have h2 := runStep_len st x
      rw [List.foldl_cons, List.length_cons]; omega
  have h := key its ([], false)
  simpa [runsAt] using h
theorem itemsGo_len : ∀ (n pos : Nat) (l : Bs), l.length ≤ n → (itemsGo n pos l).length ≤ l.length
  | 0, pos, l, h => by simp [itemsGo]
  | n + 1, pos, l, h => by
    unfold itemsGo
    by_cases hl : l = []
    · rw [if_pos hl]; simp
    · have hw := Lib.decodeL_width l
      have hp := List.length_pos_iff.2 hl
      have ih := itemsGo_len n (pos + (Lib.decodeL l).2) (l.drop (Lib.decodeL l).2) (by rw [List.length_drop]; omega)
      rw [if_neg hl, List.length_cons]
      rw [List.length_drop] at ih
      omega
end Garner
/-! text, plain: runs told by where they stand -/
namespace Garner
open Go
def wordOf (seg : List (Nat × Nat)) : List Nat := (seg.take 32).map fun x => smallR x.2
def offWord (x : Nat × Nat) : Prop := wordR x.2 = false
/-- a row of word runes that ends on both sides -/
structure SegP (its p seg q : List (Nat × Nat)) : Prop where
  eq : its = p ++ seg ++ q
  ne : seg ≠ []
  all : ∀ x ∈ seg, wordR x.2 = true
  left : p = [] ∨ ∃ p' y, p = p' ++ [y] ∧ wordR y.2 = false
  right : q = [] ∨ ∃ y q', q = y :: q' ∧ wordR y.2 = false
/-- a run that is such a row -/
structure RunOf (its : List (Nat × Nat)) (u : RunP) (p seg q : List (Nat × Nat)) : Prop where
  sp : SegP its p seg q
  word : u.word = wordOf seg
  fr : ∃ x r, seg = x :: r ∧ u.fr = x.1
  to' : ∃ r x, seg = r ++ [x] ∧ u.to = x.1 + (encR x.2).length
theorem wordOf_snoc (seg : List (Nat × Nat)) (x : Nat × Nat) : wordOf (seg ++ [x]) = if (wordOf seg).length < 32 then wordOf seg ++ [smallR x.2] else wordOf seg := by
  unfold wordOf
  rw [List.length_map, List.length_take]
  by_cases h : seg.length < 32
  · rw [if_pos (by omega), List.take_of_length_le (by simp; omega), List.take_of_length_le (by omega)]
    simp
  · rw [if_neg (by omega), List.take_append_of_le_length (by omega)]
/-- what the fold keeps: runs that are done, and the open one -/
structure RunInv (its : List (Nat × Nat)) (F : List RunP) (c : Option RunP) : Prop where
  sound : ∀ v ∈ F, ∃ p seg q, q ≠ [] ∧ RunOf its v p seg q
  comp : ∀ p seg q, q ≠ [] → SegP its p seg q → wordOf seg ∈ F.map (·.word)
  some_ : ∀ u, c = some u → ∃ p seg, RunOf its u p seg []
  none_ : c = none → its = [] ∨ ∃ r y, its = r ++ [y] ∧ wordR y.2 = false
theorem SegP.grow {its p seg q : List (Nat × Nat)} (h : SegP its p seg q) (hq : q ≠ []) (x : Nat × Nat) : SegP (its ++ [x]) p seg (q ++ [x]) :=
  ⟨by rw [h.eq]; simp, h.ne, h.all, h.left, by
    rcases h.right with h1 | ⟨y, q', h1, h2⟩
    · exact absurd h1 hq
    · exact .inr ⟨y, q' ++ [x], by rw [h1]; rfl, h2⟩⟩
theorem SegP.close {its p seg : List (Nat × Nat)} (h : SegP its p seg []) {x : Nat × Nat} (hx : wordR x.2 = false) : SegP (its ++ [x]) p seg [x] :=
  ⟨by rw [h.eq]; simp, h.ne, h.all, h.left, .inr ⟨x, [], rfl, hx⟩⟩
theorem RunOf.grow {its p seg q : List (Nat × Nat)} {u : RunP} (h : RunOf its u p seg q) (hq : q ≠ []) (x : Nat × Nat) : RunOf (its ++ [x]) u p seg (q ++ [x]) := ⟨h.sp.grow hq x, h.word, h.fr, h.to'⟩
theorem RunOf.close {its p seg : List (Nat × Nat)} {u : RunP} (h : RunOf its u p seg []) {x : Nat × Nat} (hx : wordR x.2 = false) : RunOf (its ++ [x]) u p seg [x] := ⟨h.sp.close hx, h.word, h.fr, h.to'⟩
theorem snoc_cases {its p seg q : List (Nat × Nat)} {x : Nat × Nat} (h : SegP (its ++ [x]) p seg q) : (∃ q', q = q' ++ [x] ∧ its = p ++ seg ++ q') ∨ (q = [] ∧ ∃ seg', seg = seg' ++ [x] ∧ its = p ++ seg') := by
  rcases List.eq_nil_or_concat q with h1 | ⟨q', y, h1⟩
  · subst h1
    rcases List.eq_nil_or_concat seg with h2 | ⟨s', y, h2⟩
    · exact absurd h2 h.ne
    · rw [List.concat_eq_append] at h2
      subst h2
      have e := h.eq
      rw [List.append_nil, ← List.append_assoc] at e
      have e2 := List.append_inj' e rfl
      injection e2.2 with e3
      exact .inr ⟨rfl, s', by rw [e3], e2.1⟩
  · rw [List.concat_eq_append] at h1
    subst h1
    have e := h.eq
    rw [← List.append_assoc] at e
    have e2 := List.append_inj' e rfl
    injection e2.2 with e3
    exact .inl ⟨q', by rw [e3], e2.1⟩
theorem SegP.uniq {its p seg p0 seg0 : List (Nat × Nat)} (h : SegP its p seg []) (h0 : SegP its p0 seg0 []) : seg = seg0 := by
  have key : ∀ {p seg p0 seg0 : List (Nat × Nat)}, SegP its p seg [] → SegP its p0 seg0 [] → p0.length ≤ p.length := fun {p seg p0 seg0} h h0 => by
    rcases Nat.lt_or_ge p.length p0.length with hl | hl
    · exfalso
      rcases h0.left with h1 | ⟨p', y, h1, h2⟩
      · subst h1; simp at hl
      · have e := h.eq
        rw [h0.eq, List.append_nil, List.append_nil, h1] at e
        have hp' : p.length ≤ p'.length := by rw [h1] at hl; simp at hl; omega
        have hy : (p' ++ [y] ++ seg0)[p'.length]? = some y := by simp
        rw [e, List.getElem?_append_right hp'] at hy
        have := h.all y (List.mem_of_getElem? hy)
        rw [h2] at this
        cases this
    · exact hl
  have hl : p.length = p0.length := Nat.le_antisymm (key h0 h) (key h h0)
  have e := h.eq
  rw [h0.eq, List.append_nil, List.append_nil] at e
  exact (List.append_inj e hl.symm).2.symm
theorem RunInv.cur {its : List (Nat × Nat)} {F : List RunP} {c : Option RunP} (h : RunInv its F c) {p seg : List (Nat × Nat)} (hs : SegP its p seg []) : ∃ u, c = some u ∧ u.word = wordOf seg := by
  cases hc : c with
  | none =>
    exfalso
    rcases List.eq_nil_or_concat seg with h2 | ⟨s', z, h2⟩
    · exact hs.ne h2
    · rw [List.concat_eq_append] at h2
      subst h2
      rcases h.none_ hc with h1 | ⟨r, y, h1, h3⟩
      · have e := congrArg List.length hs.eq
        rw [h1] at e
        simp at e
      · have e := hs.eq
        rw [h1, List.append_nil, ← List.append_assoc] at e
        have e2 := List.append_inj' e rfl
        injection e2.2 with e3
        have := hs.all z (by simp)
        rw [← e3, h3] at this
        cases this
  | some u =>
    obtain ⟨p0, s0, hr⟩ := h.some_ u hc
    exact ⟨u, rfl, by rw [hr.word, hr.sp.uniq hs]⟩
theorem inv_nil : RunInv [] [] none where
  sound := fun v hv => by cases hv
  comp := fun p seg q _ h => by
    have e := h.eq
    have h1 := h.ne
    simp at e
    exact absurd e.2.1 h1
  some_ := fun u h => by cases h
  none_ := fun _ => .inl rfl
theorem SegP.front {its p seg q : List (Nat × Nat)} {x : Nat × Nat} (hs : SegP (its ++ [x]) p seg (q ++ [x])) (hq : q ≠ []) (e : its = p ++ seg ++ q) : SegP its p seg q :=
  ⟨e, hs.ne, hs.all, hs.left, by
    rcases hs.right with h2 | ⟨y, q2, h2, h3⟩
    · simp at h2
    · cases q with
      | nil => exact absurd rfl hq
      | cons a b =>
        injection h2 with h4 h5
        exact .inr ⟨a, b, rfl, by rw [h4]; exact h3⟩⟩
theorem inv_off {its : List (Nat × Nat)} {F : List RunP} {c : Option RunP} (h : RunInv its F c) {x : Nat × Nat} (hx : wordR x.2 = false) : RunInv (its ++ [x]) (F ++ c.toList) none where
  sound := fun v hv => by
    rcases List.mem_append.1 hv with hv | hv
    · obtain ⟨p, seg, q, hq, hr⟩ := h.sound v hv
      exact ⟨p, seg, _, by simp, hr.grow hq x⟩
    · obtain ⟨p, seg, hr⟩ := h.some_ v (by simpa using hv)
      exact ⟨p, seg, _, by simp, hr.close hx⟩
  comp := fun p seg q hq hs => by
    rw [List.map_append, List.mem_append]
    rcases snoc_cases hs with ⟨q', rfl, e⟩ | ⟨rfl, -⟩
    · by_cases hq' : q' = []
      · subst hq'
        have hs2 : SegP its p seg [] := ⟨e, hs.ne, hs.all, hs.left, .inl rfl⟩
        obtain ⟨u, hu, hw⟩ := h.cur hs2
        exact .inr (by rw [hu, ← hw]; simp)
      · exact .inl (h.comp p seg q' hq' (hs.front hq' e))
    · exact absurd rfl hq
  some_ := fun u h => by cases h
  none_ := fun _ => .inr ⟨its, x, rfl, hx⟩
theorem inv_on {its : List (Nat × Nat)} {F : List RunP} {c : Option RunP} (h : RunInv its F c) {x : Nat × Nat} (hx : wordR x.2 = true) : RunInv (its ++ [x]) F (some (bumpT x (c.getD ⟨[], x.1, 0⟩))) where
  sound := fun v hv => by
    obtain ⟨p, seg, q, hq, hr⟩ := h.sound v hv
    exact ⟨p, seg, _, by simp, hr.grow hq x⟩
  comp := fun p seg q hq hs => by
    rcases snoc_cases hs with ⟨q', rfl, e⟩ | ⟨rfl, -⟩
    · by_cases hq' : q' = []
      · subst hq'
        rcases hs.right with h2 | ⟨y, q2, h2, h3⟩
        · simp at h2
        · injection h2 with h4 h5
          rw [← h4, hx] at h3
          cases h3
      · exact h.comp p seg q' hq' (hs.front hq' e)
    · exact absurd rfl hq
  some_ := fun u hu => by
    injection hu with hu
    subst hu
    cases hc : c with
    | some u =>
      obtain ⟨p, seg, hr⟩ := h.some_ u hc
      refine ⟨p, seg ++ [x], ⟨by rw [hr.sp.eq]; simp, by simp, fun z hz => ?_, hr.sp.left, .inl rfl⟩, ?_, ?_, seg, x, rfl, rfl⟩
      · rcases List.mem_append.1 hz with hz | hz
        · exact hr.sp.all z hz
        · rw [List.mem_singleton.1 hz]; exact hx
      · rw [wordOf_snoc, ← hr.word]; rfl
      · obtain ⟨z, r, h1, h2⟩ := hr.fr
        exact ⟨z, r ++ [x], by rw [h1]; rfl, h2⟩
    | none =>
      refine ⟨its, [x], ⟨by simp, by simp, fun z hz => by rw [List.mem_singleton.1 hz]; exact hx, ?_, .inl rfl⟩, rfl, ⟨x, [], rfl, rfl⟩, [], x, rfl, rfl⟩
      rcases h.none_ hc with h1 | ⟨r, y, h1, h2⟩
      · exact .inl h1
      · exact .inr ⟨r, y, h1, h2⟩
  none_ := fun h => by cases h
theorem runs_invN : ∀ (n : Nat) (its : List (Nat × Nat)), its.length ≤ n → ∃ F c, runsAt its = (F ++ c.toList, c.isSome) ∧ RunInv its F c
  | 0, its, hn => by
    rw [List.eq_nil_of_length_eq_zero (by omega : its.length = 0)]
    exact ⟨[], none, rfl, inv_nil⟩
  | n + 1, its, hn => by
    rcases List.eq_nil_or_concat its with h0 | ⟨r, x, h0⟩
    · subst h0
      exact ⟨[], none, rfl, inv_nil⟩
    · rw [List.concat_eq_append] at h0
      subst h0
      obtain ⟨F, c, e, h⟩ := runs_invN n r (by simp at hn; omega)
      rw [runsAt_snoc, e]
      unfold runStep
      by_cases hx : wordR x.2 = true
      · rw [if_pos hx]
        refine ⟨F, _, ?_, inv_on h hx⟩
        cases c with
        | none => simp [lastT_snoc]
        | some u => simp [lastT_snoc]
      · rw [if_neg hx]
        exact ⟨F ++ c.toList, none, by simp, inv_off h (by simpa using hx)⟩
theorem runs_inv (its : List (Nat × Nat)) : ∃ F c, runsAt its = (F ++ c.toList, c.isSome) ∧ RunInv its F c := runs_invN _ its (Nat.le_refl _)
/-- each run is such a row -/
theorem runs_sound {its : List (Nat × Nat)} {u : RunP} (hu : u ∈ (runsAt its).1) : ∃ p seg q, RunOf its u p seg q := by
  obtain ⟨F, c, e, h⟩ := runs_inv its
  rw [e] at hu
  rcases List.mem_append.1 hu with hu | hu
  · obtain ⟨p, seg, q, -, hr⟩ := h.sound u hu
    exact ⟨p, seg, q, hr⟩
  · obtain ⟨p, seg, hr⟩ := h.some_ u (by simpa using hu)
    exact ⟨p, seg, [], hr⟩
/-- each such row's word is a run's -/
theorem runs_comp {its p seg q : List (Nat × Nat)} (hs : SegP its p seg q) : wordOf seg ∈ (runsAt its).1.map (·.word) := by
  obtain ⟨F, c, e, h⟩ := runs_inv its
  rw [e, List.map_append, List.mem_append]
  by_cases hq : q = []
  · subst hq
    obtain ⟨u, hu, hw⟩ := h.cur hs
    exact .inr (by rw [hu, ← hw]; simp)
  · exact .inl (h.comp p seg q hq hs)
end Garner
/-! a rune's bytes: the model's words and the library's are the same -/
namespace Garner
open Go
theorem enc_list (r : Nat) : (Utf8.encode (r : Int)).data.toList = encR r := by
  unfold encR Lib.encodeRune
  have hcase : r < 128 ∨ (128 ≤ r ∧ r < 2048) ∨ (2048 ≤ r ∧ r < 65536 ∧ (r < 55296 ∨ 57343 < r)) ∨ (65536 ≤ r ∧ r ≤ 1114111) ∨ ((55296 ≤ r ∧ r ≤ 57343) ∨ 1114111 < r) := by omega
  rcases hcase with h | h | h | h | h
  · have v : Utf8.valid (r : Int) = true := by simp [Utf8.valid]; omega
    rw [Lib.encodeRuneZ_one (by omega) (by omega)]
    simp [Utf8.encode, v, h]
  · have v : Utf8.valid (r : Int) = true := by simp [Utf8.valid]; omega
    rw [Lib.encodeRuneZ_two (by omega) (by omega)]
    simp [Utf8.encode, v, show ¬ r < 128 by omega, h.2]
    constructor <;> (apply UInt8.toNat_inj.1; simp; omega)
  · have v : Utf8.valid (r : Int) = true := by simp [Utf8.valid]; omega
    rw [Lib.encodeRuneZ_three (by omega)]
    simp [Utf8.encode, v, show ¬ r < 128 by omega, show ¬ r < 2048 by omega, h.2.1]
    refine ⟨?_, ?_, ?_⟩ <;> (apply UInt8.toNat_inj.1; simp; omega)
  · have v : Utf8.valid (r : Int) = true := by simp [Utf8.valid]; omega
    rw [Lib.encodeRuneZ_four (by omega) (by omega)]
    simp [Utf8.encode, v, show ¬ r < 128 by omega, show ¬ r < 2048 by omega, show ¬ r < 65536 by omega]
    refine ⟨?_, ?_, ?_, ?_⟩ <;> (apply UInt8.toNat_inj.1; simp; omega)
  · have v : Utf8.valid (r : Int) = false := by simp [Utf8.valid]; omega
    rw [Lib.encodeRuneZ_bad (by omega)]
    simp [Utf8.encode, v, Utf8.runeError]
theorem enc_size (r : Nat) : (Utf8.encode (r : Int)).size = (encR r).length := by rw [Lib.size_eq, enc_list]
theorem encR_len (r : Nat) : (encR r).length ≤ 4 := by
  unfold encR Lib.encodeRune Lib.encodeRuneZ
  rw [List.length_map]
  split
  · simp
  split
  · simp
  split
  · simp
  split
  · simp
  · simp
end Garner
/-! texts, plain: a rune's bytes read back -/
namespace Garner
open Go
def goodR (r : Nat) : Prop := r < 55296 ∨ (57343 < r ∧ r ≤ 1114111)
theorem decN_one {n b0 b1 b2 b3 r : Nat} (h : r < 128) (e0 : b0 = r) : Lib.decodeN n b0 b1 b2 b3 = (r, 1) := by
  subst e0; unfold Lib.decodeN; rw [if_pos h]
theorem decN_two {n b0 b1 b2 b3 r : Nat} (h : 128 ≤ r ∧ r < 2048) (hn : 2 ≤ n) (e0 : b0 = 192 + r / 64) (e1 : b1 = 128 + r % 64) : Lib.decodeN n b0 b1 b2 b3 = (r, 2) := by
  subst e0; subst e1
  unfold Lib.decodeN
  rw [if_neg (by omega), if_pos ⟨by omega, by omega, by omega⟩, if_pos (by omega)]
  exact Prod.ext (by show _ = r; omega) rfl
theorem decN_three {n b0 b1 b2 b3 r : Nat} (h : 2048 ≤ r ∧ r < 65536 ∧ (r < 55296 ∨ 57343 < r)) (hn : 3 ≤ n) (e0 : b0 = 224 + r / 4096) (e1 : b1 = 128 + r / 64 % 64) (e2 : b2 = 128 + r % 64) : Lib.decodeN n b0 b1 b2 b3 = (r, 3) := by
  subst e0; subst e1; subst e2
  have e : (224 + r / 4096) % 16 * 4096 + (128 + r / 64 % 64) % 64 * 64 + (128 + r % 64) % 64 = r := by omega
  unfold Lib.decodeN
  rw [if_neg (by omega), if_neg (by omega), if_pos ⟨by omega, ⟨by omega, by omega⟩, by omega, by omega⟩, e, if_pos (by omega)]
theorem decN_four {n b0 b1 b2 b3 r : Nat} (h : 65536 ≤ r ∧ r ≤ 1114111) (hn : 4 ≤ n) (e0 : b0 = 240 + r / 262144) (e1 : b1 = 128 + r / 4096 % 64) (e2 : b2 = 128 + r / 64 % 64) (e3 : b3 = 128 + r % 64) : Lib.decodeN n b0 b1 b2 b3 = (r, 4) := by
  subst e0; subst e1; subst e2; subst e3
  have e : (240 + r / 262144) % 8 * 262144 + (128 + r / 4096 % 64) % 64 * 4096 + (128 + r / 64 % 64) % 64 * 64 + (128 + r % 64) % 64 = r := by omega
  unfold Lib.decodeN
  rw [if_neg (by omega), if_neg (by omega), if_neg (by omega), if_pos ⟨by omega, ⟨by omega, by omega⟩, ⟨by omega, by omega⟩, by omega, by omega⟩, e, if_pos (by omega)]
theorem dec_enc {r : Nat} (h : goodR r) (b : Bs) : Lib.decodeL (encR r ++ b) = (r, (encR r).length) := by
  unfold goodR at h
  rw [Lib.decodeL_N]
  unfold encR Lib.encodeRune
  have hcase : r < 128 ∨ (128 ≤ r ∧ r < 2048) ∨ (2048 ≤ r ∧ r < 65536 ∧ (r < 55296 ∨ 57343 < r)) ∨ (65536 ≤ r ∧ r ≤ 1114111) := by omega
  rcases hcase with h | h | h | h
  · rw [Lib.encodeRuneZ_one (by omega) (by omega)]
    exact decN_one h (by simp; omega)
  · rw [Lib.encodeRuneZ_two (by omega) (by omega)]
    exact decN_two h (by simp) (by simp; omega) (by simp; omega)
  · rw [Lib.encodeRuneZ_three (by omega)]
    exact decN_three h (by simp) (by simp; omega) (by simp; omega) (by simp; omega)
  · rw [Lib.encodeRuneZ_four (by omega) (by omega)]
    exact decN_four h (by simp) (by simp; omega) (by simp; omega) (by simp; omega) (by simp; omega)
theorem decN_good (n b0 b1 b2 b3 : Nat) : goodR (Lib.decodeN n b0 b1 b2 b3).1 := by
  unfold Lib.decodeN goodR
  split
  · left; show b0 < _; omega
  split
  · split
    · left; show b0 % 32 * 64 + b1 % 64 < _; omega
    · right; show _ ∧ 65533 ≤ _; omega
  split
  · split
    · rename_i h
      show (b0 % 16 * 4096 + b1 % 64 * 64 + b2 % 64 < 55296 ∨ _)
      omega
    · right; show _ ∧ 65533 ≤ _; omega
  split
  · split
    · rename_i h
      show (b0 % 8 * 262144 + b1 % 64 * 4096 + b2 % 64 * 64 + b3 % 64 < 55296 ∨ _)
      omega
    · right; show _ ∧ 65533 ≤ _; omega
  · right; show _ ∧ 65533 ≤ _; omega
theorem dec_good (l : Bs) : goodR (Lib.decodeL l).1 := by rw [Lib.decodeL_N]; exact decN_good _ _ _ _ _
theorem runes_good : ∀ (n : Nat) (l : Bs), l.length ≤ n → ∀ r ∈ runesP l, goodR r
  | 0, l, hn, r, hr => by
    rw [List.eq_nil_of_length_eq_zero (by omega : l.length = 0), runes_nil] at hr
    cases hr
  | n + 1, l, hn, r, hr => by
    by_cases hl : l = []
    · rw [hl, runes_nil] at hr; cases hr
    · have hw := Lib.decodeL_width l
      have h0 : 0 < l.length := List.length_pos_iff.2 hl
      rw [runes_step hl] at hr
      rcases List.mem_cons.1 hr with rfl | hr
      · exact dec_good l
      · exact runes_good n _ (by rw [List.length_drop]; omega) r hr
theorem encR_pos (r : Nat) : encR r ≠ [] := encR_ne r
theorem encT_cons (r : Nat) (rs : List Nat) : encT (r :: rs) = encR r ++ encT rs := by simp [encT, encR]
/-- texts made of runes are read back -/
theorem runes_enc : ∀ rs : List Nat, (∀ r ∈ rs, goodR r) → runesP (encT rs) = rs
  | [], _ => by simp [encT, runes_nil]
  | r :: rs, h => by
    have hne : encR r ++ encT rs ≠ [] := by simp [encR_ne]
    rw [encT_cons, runes_step hne, dec_enc (h r (by simp)), List.drop_left, runes_enc rs fun x hx => h x (by simp [hx])]
theorem items_enc : ∀ (rs : List Nat) (pos : Nat), (∀ r ∈ rs, goodR r) → (itemsOf pos (encT rs)).map (·.2) = rs ∧ ∀ a x, itemsOf pos (encT rs) = a ++ [x] → x.1 + (encR x.2).length = pos + (encT rs).length
  | [], pos, _ => ⟨by simp [encT, items_nil], fun a x h => by
    have e : encT [] = [] := rfl
    rw [e, items_nil] at h
    simp at h⟩
  | r :: rs, pos, h => by
    have hne : encR r ++ encT rs ≠ [] := by simp [encR_ne]
    obtain ⟨h1, h2⟩ := items_enc rs (pos + (encR r).length) fun x hx => h x (by simp [hx])
    rw [encT_cons, items_step hne, dec_enc (h r (by simp)), List.drop_left]
    refine ⟨by rw [List.map_cons, h1], fun a x hx => ?_⟩
    cases a with
    | nil =>
      injection hx with h3 h4
      have h5 : rs = [] := by rw [← h1, h4]; rfl
      subst h5
      rw [← h3]
      simp [encT]
    | cons y a =>
      injection hx with h3 h4
      have := h2 a x h4
      rw [this, List.length_append]; omega
end Garner
