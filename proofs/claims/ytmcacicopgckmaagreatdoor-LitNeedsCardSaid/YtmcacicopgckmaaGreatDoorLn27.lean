import Derived.Test.YtmcacicopgckmaaGreatDoorLn09
import Derived.Test.YtmcacicopgckmaaGreatDoorLn08
import Derived.Test.YtmcacicopgckmaaGreatDoorLn07
/-! Patterns, plain: sets are rows of pairs, and short -/
namespace Garner
open Go
def SetOk (b : Nat) (l : List Nat) : Prop := l.length ≤ b ∧ ∃ k, l.length = 2 * k
mutual
def Re.evs (b : Nat) : Re → Prop
  | .emp => True
  | .set l => SetOk b l
  | .seq l => evss b l
  | .alt l => evss b l
  | .rep k _ _ => k.evs b
  | .bgn => True
  | .fin => True
def evss (b : Nat) : List Re → Prop
  | [] => True
  | t :: ts => t.evs b ∧ evss b ts
end
variable {b : Nat}
theorem many_evs {mk : List Re → Re} (h : ∀ l, (mk l).evs b = evss b l) {l : List Re} (hl : evss b l) : (manyR mk l).evs b := by
  match l, hl with
  | [], hl => exact (h []).symm ▸ hl
  | [t], hl => exact hl.1
  | t :: u :: r, hl => exact (h (t :: u :: r)).symm ▸ hl
theorem rowOf_evs {l : List Re} (hl : evss b l) : (rowOf l).evs b := by
  unfold rowOf
  split
  · trivial
  · exact many_evs (mk := .seq) (fun _ => rfl) hl
theorem quant_evs {t u : Re} {s s1 : List Nat} (h : quantR t s = some (u, s1)) (ht : t.evs b) : u.evs b := by
  cases s with
  | nil => cases h; exact ht
  | cons r s =>
    rw [quantR] at h
    split at h
    · cases h; exact ht
    split at h
    · cases h; exact ht
    split at h
    · cases h; exact ht
    split at h
    · split at h
      · cases h
      · split at h
        · split at h
          · cases h
          · split at h
            · injection h with h; injection h with h3 h4
              subst h3
              exact ht
            · cases h
        · split at h
          · injection h with h; injection h with h3 h4
            subst h3
            exact ht
          · cases h
    · cases h; exact ht
theorem flatR_two : ∀ l : List (Nat × Nat), (flatR l).length = 2 * l.length
  | [] => rfl
  | p :: l => by
    have := flatR_two l
    unfold flatR at this ⊢
    rw [List.flatMap_cons, List.length_append, this]
    simp; omega
theorem pairsR_two : ∀ l : List Nat, 2 * (pairsR l).length ≤ l.length
  | [] => by simp [pairsR]
  | [_] => by simp [pairsR]
  | a :: c :: r => by
    have := pairsR_two r
    simp only [pairsR, List.length_cons]; omega
theorem insR_len (x : Nat × Nat) : ∀ l, (insR x l).length = l.length + 1
  | [] => rfl
  | y :: r => by
    rw [insR]
    split
    · rfl
    · simp only [List.length_cons, insR_len x r]
theorem sortR_len : ∀ l, (sortR l).length = l.length
  | [] => rfl
  | x :: r => by rw [sortR, insR_len, sortR_len r]; rfl
theorem stepI_len (out : List (Nat × Nat)) (x : Nat × Nat) : (stepI out x).length ≤ out.length + 1 := by
  unfold stepI
  split
  · split
    · rw [List.length_append, List.length_dropLast]; simp
    · simp
  · simp
theorem mergeI_len (l : List (Nat × Nat)) : (mergeI l).length ≤ l.length := by
  have : ∀ (l out : List (Nat × Nat)), (l.foldl stepI out).length ≤ out.length + l.length := fun l => by
    induction l with
    | nil => intro out; simp
    | cons x r ih =>
      intro out
      have h1 := ih (stepI out x)
      have h2 := stepI_len out x
      rw [List.foldl_cons, List.length_cons]; omega
  have h := this l []
  simpa [mergeI] using h
theorem othersGo_len1 : ∀ (l : List (Nat × Nat)) (f : Nat), (othersGo f l).length ≤ l.length + 1
  | [], f => by rw [othersGo]; split <;> simp
  | (a, c) :: r, f => by
    have := othersGo_len1 r (c + 1)
    rw [othersGo, List.length_append, List.length_cons]
    split <;> simp <;> omega
theorem merged_ok {l : List Nat} (h : l.length ≤ b) : SetOk b (mergedR l) := by
  have h1 := mergeI_len (sortR (pairsR l))
  rw [sortR_len] at h1
  have h2 := pairsR_two l
  exact ⟨by unfold mergedR; rw [flatR_two]; omega, _, flatR_two _⟩
theorem others_ok {l : List Nat} (h : l.length + 2 ≤ b) : SetOk b (othersR l) := by
  have h1 := othersGo_len1 (pairsR l) 0
  have h2 := pairsR_two l
  exact ⟨by unfold othersR; rw [flatR_two]; omega, _, flatR_two _⟩
theorem escR_ok {s m s1 : List Nat} (h : escR s = some (m, s1)) : SetOk 8 m := by
  cases s with
  | nil => cases h
  | cons r s =>
    simp only [escR] at h
    split at h
    · cases h; exact ⟨by simp, 1, rfl⟩
    split at h
    · cases h; exact ⟨by simp, 1, rfl⟩
    split at h
    · cases h; exact ⟨by simp, 1, rfl⟩
    split at h
    · cases h; exact ⟨by simp, 4, rfl⟩
    split at h
    · cases h; exact ⟨by simp, 3, rfl⟩
    split at h
    · cases h; exact ⟨by simp, 1, rfl⟩
    · cases h
theorem memR_ok {s m s1 : List Nat} (h : memR s = some (m, s1)) : m.length ≤ 8 := by
  cases s with
  | nil => cases h
  | cons r s =>
    simp only [memR] at h
    split at h
    · exact (escR_ok h).1
    split at h
    · cases h
    · cases h; simp
theorem rngR_ok {m t q : List Nat} (h : rngR m t = some q) : q.length ≤ 8 := by
  unfold rngR at h
  split at h
  · split at h
    · cases h; simp
    · cases h
  · cases h
theorem clsR_ok : ∀ {n : Nat} {f : Bool} {s acc m s1 : List Nat}, clsR n f s acc = some (m, s1) → m.length ≤ acc.length + 8 * s.length
  | 0, f, s, acc, m, s1, h => by cases h
  | n + 1, f, s, acc, m, s1, h => by
    rw [clsR] at h
    split at h
    · cases h; omega
    · split at h
      · cases h
      · rename_i m1 s2 h1
        have l1 := memR_len h1
        have k1 := memR_ok h1
        split at h
        · split at h
          · cases h
          · rename_i t s3 h2
            have l2 := memR_len h2
            have l3 := tail_le s2
            split at h
            · cases h
            · rename_i q h3
              have k3 := rngR_ok h3
              have := clsR_ok h
              rw [List.length_append] at this
              omega
        · have := clsR_ok h
          rw [List.length_append] at this
          omega
theorem classR_ok {s m s1 : List Nat} (h : classR s = some (m, s1)) (hb : 8 * s.length + 2 ≤ b) : SetOk b m := by
  unfold classR at h
  split at h
  · obtain ⟨p, hp, e⟩ := Option.map_eq_some_iff.1 h
    cases e
    have := clsR_ok (m := p.1) (s1 := p.2) hp
    have l3 := tail_le s
    have hm : SetOk (8 * s.length) (mergedR p.1) := merged_ok (by simp at this; omega)
    exact others_ok (by have := hm.1; omega)
  · obtain ⟨p, hp, e⟩ := Option.map_eq_some_iff.1 h
    cases e
    have := clsR_ok (m := p.1) (s1 := p.2) hp
    exact merged_ok (by simp at this; omega)
theorem parse_evs : ∀ n : Nat,
    (∀ {s s1 : List Nat} {ts : List Re} {d : Nat}, 8 * s.length + 2 ≤ b → altsR n s = some (ts, s1, d) → evss b ts) ∧
    (∀ {s s1 : List Nat} {ts : List Re} {d : Nat}, 8 * s.length + 2 ≤ b → rowsR n s = some (ts, s1, d) → evss b ts) ∧
    (∀ {s s1 : List Nat} {t : Re} {d : Nat}, 8 * s.length + 2 ≤ b → itemR n s = some (t, s1, d) → t.evs b) ∧
    (∀ {s s1 : List Nat} {t : Re} {d : Nat}, 8 * s.length + 2 ≤ b → atomR n s = some (t, s1, d) → t.evs b)
  | 0 => ⟨fun _ h => (by cases h), fun _ h => (by cases h), fun _ h => (by cases h), fun _ h => (by cases h)⟩
  | n + 1 => by
    obtain ⟨ia, ir, ii, it⟩ := parse_evs n
    obtain ⟨la, lr, li, lt⟩ := parse_len n
    refine ⟨?_, ?_, ?_, ?_⟩
    · intro s s1 ts d hb h
      rw [altsR] at h
      split at h
      · cases h
      · rename_i us s2 e hr
        have h2 := ir hb hr
        have k2 := lr hr
        split at h
        · split at h
          · cases h
          · rename_i vs s3 e2 ha
            have k3 := tail_le s2
            have h4 := ia (by omega) ha
            cases h
            exact ⟨rowOf_evs h2, h4⟩
        · cases h
          exact ⟨rowOf_evs h2, trivial⟩
    · intro s s1 ts d hb h
      rw [rowsR] at h
      split at h
      · cases h; trivial
      · split at h
        · cases h
        · rename_i t s2 e hi
          have h2 := ii hb hi
          have k2 := li hi
          split at h
          · cases h
          · rename_i vs s3 e2 hr
            have h4 := ir (by omega) hr
            cases h
            exact ⟨h2, h4⟩
    · intro s s1 t d hb h
      rw [itemR] at h
      split at h
      · cases h
      · rename_i v s2 e ha
        have h2 := it hb ha
        obtain ⟨p, hp, e⟩ := Option.map_eq_some_iff.1 h
        cases e
        exact quant_evs (u := p.1) (s1 := p.2) hp h2
    · intro s s1 t d hb h
      cases s with
      | nil => cases h
      | cons r s =>
        rw [List.length_cons] at hb
        rw [atomR] at h
        split at h
        · split at h
          · cases h
          · rename_i us s2 e ha
            have h2 := ia (by omega) ha
            split at h
            · cases h
              exact many_evs (mk := .alt) (fun _ => rfl) h2
            · cases h
        split at h
        · obtain ⟨p, hp, e⟩ := Option.map_eq_some_iff.1 h
          cases e
          exact classR_ok (m := p.1) (s1 := p.2) hp (by omega)
        split at h
        · cases h; exact ⟨by simp; omega, 2, rfl⟩
        split at h
        · cases h; trivial
        split at h
        · cases h; trivial
        split at h
        · obtain ⟨p, hp, e⟩ := Option.map_eq_some_iff.1 h
          cases e
          have := escR_ok (m := p.1) (s1 := p.2) hp
          exact ⟨by have := this.1; omega, this.2⟩
        split at h
        · cases h
        · cases h; exact ⟨by simp; omega, 1, rfl⟩
/-- instructions whose runes are rows of pairs -/
def EvL (b : Nat) (l : List InstP) : Prop := ∀ c ∈ l, SetOk b c.runes
theorem EvL.app {l m : List InstP} (h : EvL b l) (k : EvL b m) : EvL b (l ++ m) := fun c hc => (List.mem_append.1 hc).elim (h c) (k c)
theorem EvL.nil : EvL b [] := fun c hc => by cases hc
theorem EvL.cons {a : InstP} {l : List InstP} (h1 : SetOk b a.runes) (h : EvL b l) : EvL b (a :: l) := fun c hc => by
  rcases List.mem_cons.1 hc with rfl | hc
  · exact h1
  · exact h c hc
theorem set_nil : SetOk b [] := ⟨Nat.zero_le _, 0, rfl⟩
theorem repC_ev {c : Nat → List InstP} {len : Nat} (h : ∀ p, EvL b (c p)) : ∀ n p, EvL b (repC c len n p)
  | 0, p => .nil
  | n + 1, p => by rw [repC]; exact (h p).app (repC_ev h n _)
theorem optC_ev {c : Nat → List InstP} {len e : Nat} (h : ∀ p, EvL b (c p)) : ∀ n p, EvL b (optC c len e n p)
  | 0, p => .nil
  | n + 1, p => by rw [optC]; exact .cons set_nil ((h _).app (optC_ev h n _))
mutual
theorem code_ev : ∀ (t : Re) (p : Nat), t.evs b → EvL b (t.code p)
  | .emp, p, _ => .nil
  | .set l, p, h => by simp only [Re.code]; exact .cons h .nil
  | .seq l, p, h => by simp only [Re.code]; exact codes_ev l p h
  | .alt l, p, h => by simp only [Re.code]; exact altC_ev l p _ h
  | .rep k mn none, p, h => by
    have ih : ∀ p, EvL b (k.code p) := fun p => code_ev k p h
    simp only [Re.code]
    exact (repC_ev ih mn p).app (.cons set_nil ((ih _).app (.cons set_nil .nil)))
  | .rep k mn (some m), p, h => by
    have ih : ∀ p, EvL b (k.code p) := fun p => code_ev k p h
    simp only [Re.code]
    exact (repC_ev ih mn p).app (optC_ev ih _ _)
  | .bgn, p, _ => by simp only [Re.code]; exact .cons set_nil .nil
  | .fin, p, _ => by simp only [Re.code]; exact .cons set_nil .nil
theorem codes_ev : ∀ (l : List Re) (p : Nat), evss b l → EvL b (codes l p)
  | [], p, _ => .nil
  | t :: ts, p, h => by simp only [codes]; exact (code_ev t p h.1).app (codes_ev ts _ h.2)
theorem altC_ev : ∀ (l : List Re) (p e : Nat), evss b l → EvL b (altC l p e)
  | [], p, e, _ => .nil
  | [t], p, e, h => by simp only [altC]; exact code_ev t p h.1
  | t :: u :: ts, p, e, h => by
    have ih := altC_ev (u :: ts)
    simp only [altC]
    exact .cons set_nil ((code_ev t _ h.1).app (.cons set_nil (ih _ _ h.2)))
end
/-- what a program must be, so that matching goes through it -/
structure GoodR (ins : List InstP) : Prop where
  tgt : TgtR ins
  pos : 0 < ins.length
  small : ins.length ≤ 100000
  ev : EvL 2000 ins
theorem read_lim {s : List Nat} {t : Re} (h : readR s = .ok t) : ∃ ts d, altsR (4 * s.length + 4) s = some (ts, [], d) ∧ t = manyR .alt ts ∧ t.size ≤ 1000 := by
  unfold readR at h
  split at h
  · cases h
  · rename_i ts rest d e
    split at h
    · cases h
    · rename_i hr
      split at h
      · cases h
      · split at h
        · cases h
        · rename_i hz
          cases h
          have : rest = [] := Classical.byContradiction hr
          subst this
          exact ⟨ts, d, e, rfl, by omega⟩
/-- what a pattern that was read is -/
structure GoodT (t : Re) : Prop where
  ok : t.ok
  lim : t.lim
  cnt : t.cnt ≤ 10000
  len : t.len ≤ 80000
  prog : GoodR (progR t)
theorem read_good {s : List Nat} (hs : s.length ≤ 200) {t : Re} (h : readR s = .ok t) : GoodT t := by
  obtain ⟨ts, d, h1, rfl, hz⟩ := read_lim h
  obtain ⟨h3, h4, h5⟩ := (parse_cnt _).1 h1
  have ok : (manyR Re.alt ts).ok := many_ok h4 (fun h hne => ⟨hne, h⟩) h5
  have lim : (manyR Re.alt ts).lim := many_lim (mk := .alt) (fun _ => rfl) ((parse_lim _).1 h1)
  have ev : (manyR Re.alt ts).evs 2000 := many_evs (mk := .alt) (fun _ => rfl) ((parse_evs _).1 (by omega) h1)
  have hl := len_size _ ok
  have hpl : (progR (manyR Re.alt ts)).length = (manyR Re.alt ts).len + 1 := by unfold progR; rw [List.length_append, code_len]; rfl
  refine ⟨ok, lim, ?_, by omega, prog_tgt _, by omega, by omega, ?_⟩
  · have := many_cnt Re.alt (fun _ => rfl) ts
    omega
  · unfold progR
    exact (code_ev _ 0 ev).app (.cons set_nil .nil)
end Garner

/-! garnerref18.Clean, plain: the runes at which something may change, in order -/
namespace Garner
open Go
def swapC (xs : List Nat) (j : Nat) : List Nat := (xs.set (j + 1) (xs[j]?.getD 0)).set j (xs[j + 1]?.getD 0)
def downC : Nat → List Nat → List Nat
  | 0, xs => xs
  | j + 1, xs => if xs[j + 1]?.getD 0 < xs[j]?.getD 0 then downC j (swapC xs j) else xs
/-- the list behind so many rounds -/
def sortC : Nat → List Nat → List Nat
  | 0, xs => xs
  | i + 1, xs => downC (i + 1) (sortC i xs)
theorem swapC_len (xs : List Nat) (j : Nat) : (swapC xs j).length = xs.length := by simp [swapC]
theorem downC_len : ∀ (j : Nat) (xs : List Nat), (downC j xs).length = xs.length
  | 0, _ => rfl
  | j + 1, xs => by
    rw [downC]; split
    · rw [downC_len j, swapC_len]
    · rfl
theorem sortC_len : ∀ (i : Nat) (xs : List Nat), (sortC i xs).length = xs.length
  | 0, _ => rfl
  | i + 1, xs => by rw [sortC, downC_len, sortC_len i]
theorem swapC_at {xs : List Nat} {j : Nat} (hj : j + 1 < xs.length) (m : Nat) : (swapC xs j)[m]?.getD 0 = if m = j then xs[j + 1]?.getD 0 else if m = j + 1 then xs[j]?.getD 0 else xs[m]?.getD 0 := by
  unfold swapC
  by_cases h1 : m = j
  · subst h1
    rw [if_pos rfl, List.getElem?_set_self (by simp; omega)]; rfl
  · rw [if_neg h1, List.getElem?_set_ne (fun e => h1 e.symm)]
    by_cases h2 : m = j + 1
    · subst h2
      rw [if_pos rfl, List.getElem?_set_self hj]; rfl
    · rw [if_neg h2, List.getElem?_set_ne (fun e => h2 e.symm)]
theorem mem_getD {xs : List Nat} {c : Nat} : c ∈ xs ↔ ∃ m, m < xs.length ∧ xs[m]?.getD 0 = c := by
  rw [List.mem_iff_getElem]
  constructor
  · rintro ⟨m, hm, h⟩
    exact ⟨m, hm, by rw [List.getElem?_eq_getElem hm, h]; rfl⟩
  · rintro ⟨m, hm, h⟩
    exact ⟨m, hm, by rw [List.getElem?_eq_getElem hm] at h; exact h⟩
theorem mem_swapC {xs : List Nat} {j : Nat} (hj : j + 1 < xs.length) (c : Nat) : c ∈ swapC xs j ↔ c ∈ xs := by
  rw [mem_getD, mem_getD, swapC_len]
  constructor
  · rintro ⟨m, hm, h⟩
    rw [swapC_at hj] at h
    split at h
    · exact ⟨j + 1, hj, h⟩
    · split at h
      · exact ⟨j, by omega, h⟩
      · exact ⟨m, hm, h⟩
  · rintro ⟨m, hm, h⟩
    by_cases h1 : m = j
    · exact ⟨j + 1, hj, by rw [swapC_at hj, if_neg (by omega), if_pos rfl, ← h1]; exact h⟩
    · by_cases h2 : m = j + 1
      · exact ⟨j, by omega, by rw [swapC_at hj, if_pos rfl, ← h2]; exact h⟩
      · exact ⟨m, hm, by rw [swapC_at hj, if_neg h1, if_neg h2]; exact h⟩
theorem mem_downC : ∀ (j : Nat) (xs : List Nat), j < xs.length → ∀ c, c ∈ downC j xs ↔ c ∈ xs
  | 0, _, _, _ => Iff.rfl
  | j + 1, xs, hj, c => by
    rw [downC]
    split
    · rw [mem_downC j _ (by rw [swapC_len]; omega), mem_swapC hj]
    · rfl
theorem mem_sortC : ∀ (i : Nat) (xs : List Nat), i < xs.length → ∀ c, c ∈ sortC i xs ↔ c ∈ xs
  | 0, _, _, _ => Iff.rfl
  | i + 1, xs, hi, c => by rw [sortC, mem_downC _ _ (by rw [sortC_len]; omega), mem_sortC i xs (by omega)]
/-- in order up to a place -/
def UpTo (xs : List Nat) (n : Nat) : Prop := ∀ a b, a < b → b < n → xs[a]?.getD 0 ≤ xs[b]?.getD 0
theorem downC_up : ∀ (j : Nat) (xs : List Nat) (i : Nat), j ≤ i → i < xs.length → (∀ a b, a < b → b ≤ i → a ≠ j → b ≠ j → xs[a]?.getD 0 ≤ xs[b]?.getD 0) → (∀ b, j < b → b ≤ i → xs[j]?.getD 0 ≤ xs[b]?.getD 0) → UpTo (downC j xs) (i + 1)
  | 0, xs, i, _, _, h1, h2 => fun a b hab hb => by
    show xs[a]?.getD 0 ≤ xs[b]?.getD 0
    by_cases ha : a = 0
    · subst ha; exact h2 b hab (by omega)
    · exact h1 a b hab (by omega) ha (by omega)
  | j + 1, xs, i, hj, hi, h1, h2 => by
    rw [downC]
    split
    · rename_i hlt
      refine downC_up j (swapC xs j) i (by omega) (by rw [swapC_len]; exact hi) (fun a b hab hb ha hbj => ?_) (fun b hb1 hb2 => ?_)
      · rw [swapC_at (by omega), swapC_at (by omega), if_neg ha, if_neg hbj]
        by_cases ha1 : a = j + 1
        · rw [if_pos ha1, if_neg (by omega)]
          exact h1 j b (by omega) hb (by omega) (by omega)
        · rw [if_neg ha1]
          by_cases hb1 : b = j + 1
          · rw [if_pos hb1]
            exact h1 a j (by omega) (by omega) ha1 (by omega)
          · rw [if_neg hb1]
            exact h1 a b hab hb ha1 hb1
      · rw [swapC_at (by omega), swapC_at (by omega), if_pos rfl, if_neg (by omega)]
        by_cases hb3 : b = j + 1
        · rw [if_pos hb3]; omega
        · rw [if_neg hb3]
          exact h2 b (by omega) hb2
    · rename_i hlt
      intro a b hab hb
      by_cases ha : a = j + 1
      · subst ha; exact h2 b hab (by omega)
      · by_cases hb1 : b = j + 1
        · subst hb1
          by_cases ha2 : a = j
          · subst ha2; omega
          · have := h1 a j (by omega) (by omega) ha (by omega)
            omega
        · exact h1 a b hab (by omega) ha hb1
theorem sortC_up : ∀ (i : Nat) (xs : List Nat), i < xs.length → UpTo (sortC i xs) (i + 1)
  | 0, _, _ => fun a b hab hb => by omega
  | i + 1, xs, hi => by
    have ih := sortC_up i xs (by omega)
    rw [sortC]
    refine downC_up (i + 1) _ (i + 1) (Nat.le_refl _) (by rw [sortC_len]; exact hi) (fun a b hab hb ha hbj => ih a b hab (by omega)) (fun b h1 h2 => by omega)
/-- the runes at which something may change -/
def cutsP (P : List (Nat × Nat)) : List Nat := 0 :: 1114112 :: P.flatMap fun p => [p.1, p.2 + 1]
def hasB (P : List (Nat × Nat)) (x : Nat) : Bool := P.any fun p => decide (p.1 ≤ x) && decide (x ≤ p.2)
theorem hasB_iff {P : List (Nat × Nat)} {x : Nat} : hasB P x = true ↔ inI P x := by
  unfold hasB inI
  rw [List.any_eq_true]
  constructor
  · rintro ⟨p, hp, h⟩
    rw [Bool.and_eq_true, decide_eq_true_iff, decide_eq_true_iff] at h
    exact ⟨p, hp, h⟩
  · rintro ⟨p, hp, h⟩
    exact ⟨p, hp, by rw [Bool.and_eq_true, decide_eq_true_iff, decide_eq_true_iff]; exact h⟩
def stepC (P : List (Nat × Nat)) (nt : Bool) (out : List (Nat × Nat)) (a b : Nat) : List (Nat × Nat) :=
  if a = b ∨ hasB P a = nt then out else
  match out.getLast? with
  | some p => if p.2 + 1 = a then out.dropLast ++ [(p.1, b - 1)] else out ++ [(a, b - 1)]
  | none => [(a, b - 1)]
/-- the pairs behind so many cuts -/
def cleanN (P : List (Nat × Nat)) (nt : Bool) (L : List Nat) : Nat → List (Nat × Nat)
  | 0 => []
  | i + 1 => stepC P nt (cleanN P nt L i) (L[i]?.getD 0) (L[i + 1]?.getD 0)
theorem const_mid {P : List (Nat × Nat)} {a b : Nat} (hP : ∀ p ∈ P, (p.1 ≤ a ∨ b ≤ p.1) ∧ (p.2 + 1 ≤ a ∨ b ≤ p.2 + 1)) {x : Nat} (h1 : a ≤ x) (h2 : x < b) : hasB P x = hasB P a := by
  rw [Bool.eq_iff_iff, hasB_iff, hasB_iff]
  constructor
  · rintro ⟨p, hp, h3, h4⟩
    have := hP p hp
    exact ⟨p, hp, by omega, by omega⟩
  · rintro ⟨p, hp, h3, h4⟩
    have := hP p hp
    exact ⟨p, hp, by omega, by omega⟩
theorem canon_all : ∀ {l : List (Nat × Nat)}, CanonI l → ∀ p ∈ l, p.1 ≤ p.2
  | [], _, p, hp => by cases hp
  | q :: l, h, p, hp => by
    rcases List.mem_cons.1 hp with rfl | hp
    · exact h.head
    · exact canon_all h.tail p hp
theorem step_law {P : List (Nat × Nat)} {nt : Bool} {out : List (Nat × Nat)} {a b : Nat} (hab : a ≤ b) (hP : ∀ p ∈ P, (p.1 ≤ a ∨ b ≤ p.1) ∧ (p.2 + 1 ≤ a ∨ b ≤ p.2 + 1)) (hc : CanonI out) (hi : ∀ x, inI out x ↔ x < a ∧ hasB P x ≠ nt) :
    CanonI (stepC P nt out a b) ∧ ∀ x, inI (stepC P nt out a b) x ↔ x < b ∧ hasB P x ≠ nt := by
  have hcm := fun x => const_mid hP (x := x)
  unfold stepC
  split
  · rename_i h
    refine ⟨hc, fun x => ?_⟩
    rw [hi]
    constructor
    · rintro ⟨h1, h2⟩; exact ⟨by omega, h2⟩
    · rintro ⟨h1, h2⟩
      refine ⟨?_, h2⟩
      rcases Nat.lt_or_ge x a with h3 | h3
      · exact h3
      · rcases h with h | h
        · omega
        · exact absurd ((hcm x h3 h1).trans h) h2
  · rename_i h
    have h1 : a < b := by
      rcases Nat.lt_or_ge a b with h2 | h2
      · exact h2
      · exact absurd (.inl (by omega)) h
    have h2 : hasB P a ≠ nt := fun e => h (.inr e)
    have hnew : ∀ x, (inI out x ∨ inI [(a, b - 1)] x) ↔ x < b ∧ hasB P x ≠ nt := fun x => by
      rw [hi, inI_one]
      dsimp only
      constructor
      · rintro (⟨h3, h4⟩ | ⟨h3, h4⟩)
        · exact ⟨by omega, h4⟩
        · exact ⟨by omega, by rw [hcm x h3 (by omega)]; exact h2⟩
      · rintro ⟨h3, h4⟩
        rcases Nat.lt_or_ge x a with h5 | h5
        · exact .inl ⟨h5, h4⟩
        · exact .inr ⟨h5, by omega⟩
    cases hg : out.getLast? with
    | none =>
      have : out = [] := by simpa using hg
      subst this
      refine ⟨by show a ≤ b - 1; omega, fun x => ?_⟩
      rw [← hnew]
      simp [inI]
    | some p =>
      obtain ⟨pre, rfl⟩ : ∃ pre, out = pre ++ [p] := by
        obtain ⟨pre, h⟩ := List.getLast?_eq_some_iff.1 hg
        exact ⟨pre, h⟩
      obtain ⟨c1, c2, c3⟩ := canon_snoc.1 hc
      have hpa : p.2 < a := ((hi p.2).1 (inI_append.2 (.inr (inI_one.2 ⟨c2, Nat.le_refl _⟩)))).1
      dsimp only
      split
      · rename_i hj
        rw [List.dropLast_concat]
        refine ⟨canon_snoc.2 ⟨c1, by simp; omega, c3⟩, fun x => ?_⟩
        rw [← hnew, inI_append, inI_append, inI_one, inI_one, inI_one]
        dsimp only
        constructor
        · rintro (h3 | ⟨h3, h4⟩)
          · exact .inl (.inl h3)
          · by_cases hx : x ≤ p.2
            · exact .inl (.inr ⟨h3, hx⟩)
            · exact .inr ⟨by omega, h4⟩
        · rintro ((h3 | ⟨h3, h4⟩) | ⟨h3, h4⟩)
          · exact .inl h3
          · exact .inr ⟨h3, by omega⟩
          · exact .inr ⟨by omega, h4⟩
      · rename_i hj
        refine ⟨canon_snoc.2 ⟨hc, by simp; omega, fun q hq => ?_⟩, fun x => by rw [inI_append]; exact hnew x⟩
        have hq2 : q.2 < a := by
          obtain ⟨m, hm, e⟩ := List.mem_iff_getElem.1 hq
          have hcq : q.1 ≤ q.2 := by
            rcases List.mem_append.1 hq with hq | hq
            · exact (canon_all c1 q hq)
            · rw [List.mem_singleton.1 hq]; exact c2
          exact ((hi q.2).1 ⟨q, hq, hcq, Nat.le_refl _⟩).1
        rcases List.mem_append.1 hq with hq' | hq'
        · have := c3 q hq'
          show q.2 + 1 < a
          omega
        · rw [List.mem_singleton.1 hq'] at hq2 ⊢
          show p.2 + 1 < a
          omega
theorem clean_law {P : List (Nat × Nat)} (hP : ∀ p ∈ P, p.1 ≤ p.2 ∧ p.2 ≤ 1114111) (nt : Bool) (L : List Nat) (n : Nat) (hn : L.length = n + 1) (hu : UpTo L (n + 1)) (hm : ∀ c, c ∈ L ↔ c ∈ cutsP P) :
    cleanN P nt L n = if nt = true then othersGo 0 (mergeI (sortR P)) else mergeI (sortR P) := by
  have hall : ∀ i, i ≤ n → (∀ p ∈ P, ∀ c, (c = p.1 ∨ c = p.2 + 1) → ∃ m, m ≤ n ∧ L[m]?.getD 0 = c) := fun i _ p hp c hc => by
    have h1 : c ∈ cutsP P := by
      unfold cutsP
      refine List.mem_cons_of_mem _ (List.mem_cons_of_mem _ (List.mem_flatMap.2 ⟨p, hp, ?_⟩))
      rcases hc with rfl | rfl <;> simp
    obtain ⟨m, hm1, hm2⟩ := mem_getD.1 ((hm c).2 h1)
    exact ⟨m, by omega, hm2⟩
  have h0 : L[0]?.getD 0 = 0 := by
    obtain ⟨m, hm1, hm2⟩ := mem_getD.1 ((hm 0).2 (by simp [cutsP]))
    by_cases hm0 : m = 0
    · subst hm0; exact hm2
    · have := hu 0 m (by omega) (by omega)
      omega
  have hend : L[n]?.getD 0 = 1114112 := by
    obtain ⟨m, hm1, hm2⟩ := mem_getD.1 ((hm 1114112).2 (by simp [cutsP]))
    have h1 : 1114112 ≤ L[n]?.getD 0 := by
      by_cases hmn : m = n
      · rw [← hmn, hm2]; exact Nat.le_refl _
      · have := hu m n (by omega) (by omega)
        omega
    have h2 : L[n]?.getD 0 ∈ cutsP P := (hm _).1 (mem_getD.2 ⟨n, by omega, rfl⟩)
    unfold cutsP at h2
    rcases List.mem_cons.1 h2 with h2 | h2
    · omega
    rcases List.mem_cons.1 h2 with h2 | h2
    · exact h2
    obtain ⟨p, hp, h3⟩ := List.mem_flatMap.1 h2
    have := hP p hp
    simp at h3
    omega
  have key : ∀ i, i ≤ n → CanonI (cleanN P nt L i) ∧ ∀ x, inI (cleanN P nt L i) x ↔ x < L[i]?.getD 0 ∧ hasB P x ≠ nt := by
    intro i
    induction i with
    | zero =>
      intro _
      refine ⟨trivial, fun x => ?_⟩
      rw [h0]
      simp [cleanN, inI]
    | succ i ih =>
      intro hi
      obtain ⟨i1, i2⟩ := ih (by omega)
      rw [cleanN]
      refine step_law (hu i (i + 1) (by omega) (by omega)) (fun p hp => ?_) i1 i2
      have hc : ∀ c, (c = p.1 ∨ c = p.2 + 1) → c ≤ L[i]?.getD 0 ∨ L[i + 1]?.getD 0 ≤ c := fun c hc => by
        obtain ⟨m, hm1, hm2⟩ := hall i (by omega) p hp c hc
        rcases Nat.lt_or_ge i m with h1 | h1
        · right
          by_cases hmi : m = i + 1
          · rw [← hmi, hm2]; exact Nat.le_refl _
          · have := hu (i + 1) m (by omega) (by omega)
            omega
        · left
          by_cases hmi : m = i
          · rw [← hmi, hm2]; exact Nat.le_refl _
          · have := hu m i (by omega) (by omega)
            omega
      exact ⟨hc _ (.inl rfl), hc _ (.inr rfl)⟩
  obtain ⟨k1, k2⟩ := key n (Nat.le_refl _)
  rw [hend] at k2
  obtain ⟨m1, m2⟩ := merge_canon (sorted_sort P) fun p hp => (hP p (mem_sort.1 hp)).1
  have m3 : ∀ x, inI (mergeI (sortR P)) x ↔ inI P x := fun x => by rw [m2, inI_congr (fun p => mem_sort)]
  have hb : ∀ x, inI P x → x ≤ 1114111 := fun x ⟨p, hp, h1, h2⟩ => Nat.le_trans h2 (hP p hp).2
  cases nt with
  | false =>
    rw [if_neg (by simp)]
    refine canon_eq k1 m1 fun x => ?_
    rw [k2, m3]
    constructor
    · rintro ⟨h1, h2⟩
      exact hasB_iff.1 (by simpa using h2)
    · intro h
      exact ⟨by have := hb x h; omega, by rw [hasB_iff.2 h]; simp⟩
  | true =>
    rw [if_pos rfl]
    have hbb : ∀ p ∈ mergeI (sortR P), 0 ≤ p.1 ∧ p.2 ≤ 1114111 := fun p hp => ⟨Nat.zero_le _, hb _ ((m3 _).1 ⟨p, hp, canon_all m1 p hp, Nat.le_refl _⟩)⟩
    obtain ⟨o1, -, o3⟩ := others_canon _ 0 m1 hbb
    refine canon_eq k1 o1 fun x => ?_
    rw [k2, o3, m3]
    constructor
    · rintro ⟨h1, h2⟩
      exact ⟨Nat.zero_le _, by omega, fun h => h2 (hasB_iff.2 h)⟩
    · rintro ⟨-, h1, h2⟩
      exact ⟨by omega, fun h => h2 (hasB_iff.1 h)⟩
end Garner

