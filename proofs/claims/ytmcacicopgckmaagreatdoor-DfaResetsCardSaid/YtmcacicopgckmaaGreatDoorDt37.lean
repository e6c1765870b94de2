import Derived.Test.YtmcacicopgckmaaGreatDoorDt29
import Derived.Test.YtmcacicopgckmaaGreatDoorDt15
/-! Patterns, plain: sets are rows of pairs, and short -/
namespace Garner
open Go
def SetOk (b : Nat) (l : List Nat) : Prop := l.length ≤ b ∧ ∃ k, l.length = 2 * k
mutual
def Re.evs (b : Nat) : Re → Prop
  | .emp => True
  | .set l => SetOk b l
  | .seq l => evss b l
  | .alt l => evss b l
  | .rep k _ _ => k.evs b
  | .bgn => True
  | .fin => True
def evss (b : Nat) : List Re → Prop
  | [] => True
  | t :: ts => t.evs b ∧ evss b ts
end
variable {b : Nat}
theorem many_evs {mk : List Re → Re} (h : ∀ l, (mk l).evs b = evss b l) {l : List Re} (hl : evss b l) : (manyR mk l).evs b := by
  match l, hl with
  | [], hl => exact (h []).symm ▸ hl
  | [t], hl => exact hl.1
  | t :: u :: r, hl => exact (h (t :: u :: r)).symm ▸ hl
theorem rowOf_evs {l : List Re} (hl : evss b l) : (rowOf l).evs b := by
  unfold rowOf
  split
  · trivial
  · exact many_evs (mk := .seq) (fun _ => rfl) hl
theorem quant_evs {t u : Re} {s s1 : List Nat} (h : quantR t s = some (u, s1)) (ht : t.evs b) : u.evs b := by
  cases s with
  | nil => cases h; exact ht
  | cons r s =>
    rw [quantR] at h
    split at h
    · cases h; exact ht
    split at h
    · cases h; exact ht
    split at h
    · cases h; exact ht
    split at h
    · split at h
      · cases h
      · split at h
        · split at h
          · cases h
          · split at h
            · injection h with h; injection h with h3 h4
              subst h3
              exact ht
            · cases h
        · split at h
          · injection h with h; injection h with h3 h4
            subst h3
            exact ht
          · cases h
    · cases h; exact ht
theorem flatR_two : ∀ l : List (Nat × Nat), (flatR l).length = 2 * l.length
  | [] => rfl
  | p :: l => by
    have := flatR_two l
    unfold flatR at this ⊢
    rw [List.flatMap_cons, List.length_append, this]
    simp; omega
theorem pairsR_two : ∀ l : List Nat, 2 * (pairsR l).length ≤ l.length
  | [] => by simp [pairsR]
  | [_] => by simp [pairsR]
  | a :: c :: r => by
    have := pairsR_two r
    simp only [pairsR, List.length_cons]; omega
theorem insR_len (x : Nat × Nat) : ∀ l, (insR x l).length = l.length + 1
  | [] => rfl
  | y :: r => by
    rw [insR]
    split
    · rfl
    · simp only [List.length_cons, insR_len x r]
theorem sortR_len : ∀ l, (sortR l).length = l.length
  | [] => rfl
  | x :: r => by rw [sortR, insR_len, sortR_len r]; rfl
theorem stepI_len (out : List (Nat × Nat)) (x : Nat × Nat) : (stepI out x).length ≤ out.length + 1 := by
  unfold stepI
  split
  · split
    · rw [List.length_append, List.length_dropLast]; simp
    · simp
  · simp
theorem mergeI_len (l : List (Nat × Nat)) : (mergeI l).length ≤ l.length := by
  have : ∀ (l out : List (Nat × Nat)), (l.foldl stepI out).length ≤ out.length + l.length := fun l => by
    induction l with
    | nil => intro out; simp
    | cons x r ih =>
      intro out
      have h1 := ih (stepI out x)
      have h2 := stepI_len out x
      rw [List.foldl_cons, List.length_cons]; omega
  have h := this l []
  simpa [mergeI] using h
theorem othersGo_len1 : ∀ (l : List (Nat × Nat)) (f : Nat), (othersGo f l).length ≤ l.length + 1
  | [], f => by rw [othersGo]; split <;> simp
  | (a, c) :: r, f => by
    have := othersGo_len1 r (c + 1)
    rw [othersGo, List.length_append, List.length_cons]
    split <;> simp <;> omega
theorem merged_ok {l : List Nat} (h : l.length ≤ b) : SetOk b (mergedR l) := by
  have h1 := mergeI_len (sortR (pairsR l))
  rw [sortR_len] at h1
  have h2 := pairsR_two l
  exact ⟨by unfold mergedR; rw [flatR_two]; omega, _, flatR_two _⟩
theorem others_ok {l : List Nat} (h : l.length + 2 ≤ b) : SetOk b (othersR l) := by
  have h1 := othersGo_len1 (pairsR l) 0
  have h2 := pairsR_two l
  exact ⟨by unfold othersR; rw [flatR_two]; omega, _, flatR_two _⟩
theorem escR_ok {s m s1 : List Nat} (h : escR s = some (m, s1)) : SetOk 8 m := by
  cases s with
  | nil => cases h
  | cons r s =>
    simp only [escR] at h
    split at h
    · cases h; exact ⟨by simp, 1, rfl⟩
    split at h
    · cases h; exact ⟨by simp, 1, rfl⟩
    split at h
    · cases h; exact ⟨by simp, 1, rfl⟩
    split at h
    · cases h; exact ⟨by simp, 4, rfl⟩
    split at h
    · cases h; exact ⟨by simp, 3, rfl⟩
    split at h
    · cases h; exact ⟨by simp, 1, rfl⟩
    · cases h
theorem memR_ok {s m s1 : List Nat} (h : memR s = some (m, s1)) : m.length ≤ 8 := by
  cases s with
  | nil => cases h
  | cons r s =>
    simp only [memR] at h
    split at h
    · exact (escR_ok h).1
    split at h
    · cases h
    · cases h; simp
theorem rngR_ok {m t q : List Nat} (h : rngR m t = some q) : q.length ≤ 8 := by
  unfold rngR at h
  split at h
  · split at h
    · cases h; simp
    · cases h
  · cases h
theorem clsR_ok : ∀ {n : Nat} {f : Bool} {s acc m s1 : List Nat}, clsR n f s acc = some (m, s1) → m.length ≤ acc.length + 8 * s.length
  | 0, f, s, acc, m, s1, h => by cases h
  | n + 1, f, s, acc, m, s1, h => by
    rw [clsR] at h
    split at h
    · cases h; omega
    · split at h
      · cases h
      · rename_i m1 s2 h1
        have l1 := memR_len h1
        have k1 := memR_ok h1
        split at h
        · split at h
          · cases h
          · rename_i t s3 h2
            have l2 := memR_len h2
            have l3 := tail_le s2
            split at h
            · cases h
            · rename_i q h3
              have k3 := rngR_ok h3
              have := clsR_ok h
              rw [List.length_append] at this
              omega
        · have := clsR_ok h
          rw [List.length_append] at this
          omega
theorem classR_ok {s m s1 : List Nat} (h : classR s = some (m, s1)) (hb : 8 * s.length + 2 ≤ b) : SetOk b m := by
  unfold classR at h
  split at h
  · obtain ⟨p, hp, e⟩ := Option.map_eq_some_iff.1 h
    cases e
    have := clsR_ok (m := p.1) (s1 := p.2) hp
    have l3 := tail_le s
    have hm : SetOk (8 * s.length) (mergedR p.1) := merged_ok (by simp at this; omega)
    exact others_ok (by have := hm.1; omega)
  · obtain ⟨p, hp, e⟩ := Option.map_eq_some_iff.1 h
    cases e
    have := clsR_ok (m := p.1) (s1 := p.2) hp
    exact merged_ok (by simp at this; omega)
theorem parse_evs : ∀ n : Nat,
    (∀ {s s1 : List Nat} {ts : List Re} {d : Nat}, 8 * s.length + 2 ≤ b → altsR n s = some (ts, s1, d) → evss b ts) ∧
    (∀ {s s1 : List Nat} {ts : List Re} {d : Nat}, 8 * s.length + 2 ≤ b → rowsR n s = some (ts, s1, d) → evss b ts) ∧
    (∀ {s s1 : List Nat} {t : Re} {d : Nat}, 8 * s.length + 2 ≤ b → itemR n s = some (t, s1, d) → t.evs b) ∧
    (∀ {s s1 : List Nat} {t : Re} {d : Nat}, 8 * s.length + 2 ≤ b → atomR n s = some (t, s1, d) → t.evs b)
  | 0 => ⟨fun _ h => (by cases h), fun _ h => (by cases h), fun _ h => (by cases h), fun _ h => (by cases h)⟩
  | n + 1 => by
    obtain ⟨ia, ir, ii, it⟩ := parse_evs n
    obtain ⟨la, lr, li, lt⟩ := parse_len n
    refine ⟨?_, ?_, ?_, ?_⟩
    · intro s s1 ts d hb h
      rw [altsR] at h
      split at h
      · cases h
      · rename_i us s2 e hr
        have h2 := ir hb hr
        have k2 := lr hr
        split at h
        · split at h
          · cases h
          · rename_i vs s3 e2 ha
            have k3 := tail_le s2
            have h4 := ia (by omega) ha
            cases h
            exact ⟨rowOf_evs h2, h4⟩
        · cases h
          exact ⟨rowOf_evs h2, trivial⟩
    · intro s s1 ts d hb h
      rw [rowsR] at h
      split at h
      · cases h; trivial
      · split at h
        · cases h
        · rename_i t s2 e hi
          have h2 := ii hb hi
          have k2 := li hi
          split at h
          · cases h
          · rename_i vs s3 e2 hr
            have h4 := ir (by omega) hr
            cases h
            exact ⟨h2, h4⟩
    · intro s s1 t d hb h
      rw [itemR] at h
      split at h
      · cases h
      · rename_i v s2 e ha
        have h2 := it hb ha
        obtain ⟨p, hp, e⟩ := Option.map_eq_some_iff.1 h
        cases e
        exact quant_evs (u := p.1) (s1 := p.2) hp h2
    · intro s s1 t d hb h
      cases s with
      | nil => cases h
      | cons r s =>
        rw [List.length_cons] at hb
        rw [atomR] at h
        split at h
        · split at h
          · cases h
          · rename_i us s2 e ha
            have h2 := ia (by omega) ha
            split at h
            · cases h
              exact many_evs (mk := .alt) (fun _ => rfl) h2
            · cases h
        split at h
        · obtain ⟨p, hp, e⟩ := Option.map_eq_some_iff.1 h
          cases e
          exact classR_ok (m := p.1) (s1 := p.2) hp (by omega)
        split at h
        · cases h; exact ⟨by simp; omega, 2, rfl⟩
        split at h
        · cases h; trivial
        split at h
        · cases h; trivial
        split at h
        · obtain ⟨p, hp, e⟩ := Option.map_eq_some_iff.1 h
          cases e
          have := escR_ok (m := p.1) (s1 := p.2) hp
          exact ⟨by have := this.1; omega, this.2⟩
        split at h
        · cases h
        · cases h; exact ⟨by simp; omega, 1, rfl⟩
/-- instructions whose runes are rows of pairs -/
def EvL (b : Nat) (l : List InstP) : Prop := ∀ c ∈ l, SetOk b c.runes
theorem EvL.app {l m : List InstP} (h : EvL b l) (k : EvL b m) : EvL b (l ++ m) := fun c hc => (List.mem_append.1 hc).elim (h c) (k c)
theorem EvL.nil : EvL b [] := fun c hc => by cases hc
theorem EvL.cons {a : InstP} {l : List InstP} (h1 : SetOk b a.runes) (h : EvL b l) : EvL b (a :: l) := fun c hc => by
  rcases List.mem_cons.1 hc with rfl | hc
  · exact h1
  · exact h c hc
theorem set_nil : SetOk b [] := ⟨Nat.zero_le _, 0, rfl⟩
theorem repC_ev {c : Nat → List InstP} {len : Nat} (h : ∀ p, EvL b (c p)) : ∀ n p, EvL b (repC c len n p)
  | 0, p => .nil
  | n + 1, p => by rw [repC]; exact (h p).app (repC_ev h n _)
theorem optC_ev {c : Nat → List InstP} {len e : Nat} (h : ∀ p, EvL b (c p)) : ∀ n p, EvL b (optC c len e n p)
  | 0, p => .nil
  | n + 1, p => by rw [optC]; exact .cons set_nil ((h _).app (optC_ev h n _))
mutual
theorem code_ev : ∀ (t : Re) (p : Nat), t.evs b → EvL b (t.code p)
  | .emp, p, _ => .nil
  | .set l, p, h => by simp only [Re.code]; exact .cons h .nil
  | .seq l, p, h => by simp only [Re.code]; exact codes_ev l p h
  | .alt l, p, h => by simp only [Re.code]; exact altC_ev l p _ h
  | .rep k mn none, p, h => by
    have ih : ∀ p, EvL b (k.code p) := fun p => code_ev k p h
    simp only [Re.code]
    exact (repC_ev ih mn p).app (.cons set_nil ((ih _).app (.cons set_nil .nil)))
  | .rep k mn (some m), p, h => by
    have ih : ∀ p, EvL b (k.code p) := fun p => code_ev k p h
    simp only [Re.code]
    exact (repC_ev ih mn p).app (optC_ev ih _ _)
  | .bgn, p, _ => by simp only [Re.code]; exact .cons set_nil .nil
  | .fin, p, _ => by simp only [Re.code]; exact .cons set_nil .nil
theorem codes_ev : ∀ (l : List Re) (p : Nat), evss b l → EvL b (codes l p)
  | [], p, _ => .nil
  | t :: ts, p, h => by simp only [codes]; exact (code_ev t p h.1).app (codes_ev ts _ h.2)
theorem altC_ev : ∀ (l : List Re) (p e : Nat), evss b l → EvL b (altC l p e)
  | [], p, e, _ => .nil
  | [t], p, e, h => by simp only [altC]; exact code_ev t p h.1
  | t :: u :: ts, p, e, h => by
    have ih := altC_ev (u :: ts)
    simp only [altC]
    exact .cons set_nil ((code_ev t _ h.1).app (.cons set_nil (ih _ _ h.2)))
end
/-- what a program must be, so that matching goes through it -/
structure GoodR (ins : List InstP) : Prop where
  tgt : TgtR ins
  pos : 0 < ins.length
  small : ins.length ≤ 100000
  ev : EvL 2000 ins
theorem read_lim {s : List Nat} {t : Re} (h : readR s = .ok t) : ∃ ts d, altsR (4 * s.length + 4) s = some (ts, [], d) ∧ t = manyR .alt ts ∧ t.size ≤ 1000 := by
  unfold readR at h
  split at h
  · cases h
  · rename_i ts rest d e
    split at h
    · cases h
    · rename_i hr
      split at h
      · cases h
      · split at h
        · cases h
        · rename_i hz
          cases h
          have : rest = [] := Classical.byContradiction hr
          subst this
          exact ⟨ts, d, e, rfl, by omega⟩
/-- what a pattern that was read is -/
structure GoodT (t : Re) : Prop where
  ok : t.ok
  lim : t.lim
  cnt : t.cnt ≤ 10000
  len : t.len ≤ 80000
  prog : GoodR (progR t)
theorem read_good {s : List Nat} (hs : s.length ≤ 200) {t : Re} (h : readR s = .ok t) : GoodT t := by
  obtain ⟨ts, d, h1, rfl, hz⟩ := read_lim h
  obtain ⟨h3, h4, h5⟩ := (parse_cnt _).1 h1
  have ok : (manyR Re.alt ts).ok := many_ok h4 (fun h hne => ⟨hne, h⟩) h5
  have lim : (manyR Re.alt ts).lim := many_lim (mk := .alt) (fun _ => rfl) ((parse_lim _).1 h1)
  have ev : (manyR Re.alt ts).evs 2000 := many_evs (mk := .alt) (fun _ => rfl) ((parse_evs _).1 (by omega) h1)
  have hl := len_size _ ok
  have hpl : (progR (manyR Re.alt ts)).length = (manyR Re.alt ts).len + 1 := by unfold progR; rw [List.length_append, code_len]; rfl
  refine ⟨ok, lim, ?_, by omega, prog_tgt _, by omega, by omega, ?_⟩
  · have := many_cnt Re.alt (fun _ => rfl) ts
    omega
  · unfold progR
    exact (code_ev _ 0 ev).app (.cons set_nil .nil)
end Garner
