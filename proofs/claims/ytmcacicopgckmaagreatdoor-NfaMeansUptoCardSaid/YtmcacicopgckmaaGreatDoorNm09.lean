import Derived.Test.YtmcacicopgckmaaGreatDoorNm07
import Derived.Test.YtmcacicopgckmaaGreatDoorNm08
/-! Patterns, plain: how great trees, their rows of nodes and their instructions are -/
namespace Garner
open Go

mutual
theorem size_pos : ∀ t : Re, 1 ≤ t.size
  | .emp => Nat.le_refl _
  | .set _ => Nat.le_refl _
  | .seq l => by simp only [Re.size]; omega
  | .alt l => by simp only [Re.size]; omega
  | .rep k mn mx => by simp only [Re.size]; omega
  | .bgn => Nat.le_refl _
  | .fin => Nat.le_refl _
end
theorem times_pos (mn : Nat) (mx : Option Nat) : 1 ≤ timesR mn mx := by
  cases mx with
  | none => simp [timesR]
  | some m => simp only [timesR]; omega
mutual
theorem len_size : ∀ t : Re, t.ok → t.len + 2 ≤ 3 * t.size
  | .emp, _ => by simp [Re.len, Re.size]
  | .set _, _ => by simp [Re.len, Re.size]
  | .seq l, h => by
    have := lens_size l h
    simp only [Re.len, Re.size]; omega
  | .alt l, h => by
    have := altLen_size l h.2
    simp only [Re.len, Re.size]; omega
  | .rep k mn none, h => by
    have h1 := len_size k h.1
    have h2 : (mn + 1) * (k.len + 2) ≤ (mn + 1) * (3 * k.size) := Nat.mul_le_mul_left _ h1
    have h3 : (mn + 1) * (3 * k.size) = 3 * ((mn + 1) * k.size) := by rw [← Nat.mul_assoc, ← Nat.mul_assoc, Nat.mul_comm (mn + 1) 3]
    have h4 : (mn + 1) * (k.len + 2) = mn * k.len + k.len + 2 * mn + 2 := by rw [Nat.add_mul, Nat.mul_add]; omega
    simp only [Re.len, Re.size, timesR]
    omega
  | .rep k mn (some m), h => by
    have h1 := len_size k h.1
    have hm : mn ≤ m := h.2 m rfl
    have h2 : m * (k.len + 1) ≤ m * (3 * k.size) := Nat.mul_le_mul_left _ (by omega)
    have h3 : m * (3 * k.size) = 3 * (m * k.size) := by rw [← Nat.mul_assoc, ← Nat.mul_assoc, Nat.mul_comm m 3]
    have h4 : mn * k.len ≤ mn * (k.len + 1) := Nat.mul_le_mul_left _ (by omega)
    have h5 : mn * (k.len + 1) + (m - mn) * (k.len + 1) = m * (k.len + 1) := by rw [← Nat.add_mul]; congr 1; omega
    have h6 : m * k.size ≤ max m 1 * k.size := Nat.mul_le_mul_right _ (by omega)
    simp only [Re.len, Re.size, timesR]
    omega
  | .bgn, _ => by simp [Re.len, Re.size]
  | .fin, _ => by simp [Re.len, Re.size]
theorem lens_size : ∀ l : List Re, oks l → lens l ≤ 3 * sizes l
  | [], _ => Nat.le_refl _
  | t :: ts, h => by
    have := len_size t h.1
    have := lens_size ts h.2
    simp only [lens, sizes]; omega
theorem altLen_size : ∀ l : List Re, oks l → altLen l ≤ 3 * sizes l
  | [], _ => Nat.le_refl _
  | [t], h => by
    have := len_size t h.1
    simp only [altLen, sizes]; omega
  | t :: u :: ts, h => by
    have := len_size t h.1
    have := altLen_size (u :: ts) h.2
    simp only [altLen, sizes] at this ⊢; omega
end
mutual
theorem flat_len : ∀ (t : Re) (b : Nat), (t.flat b).length = t.cnt
  | .emp, _ => rfl
  | .set _, _ => rfl
  | .seq l, b => by simp only [Re.flat, Re.cnt, List.length_append, flats_len l b]; rfl
  | .alt l, b => by simp only [Re.flat, Re.cnt, List.length_append, flats_len l b]; rfl
  | .rep k mn mx, b => by simp only [Re.flat, Re.cnt, List.length_append, flat_len k b]; rfl
  | .bgn, _ => rfl
  | .fin, _ => rfl
theorem flats_len : ∀ (l : List Re) (b : Nat), (flats b l).length = cnts l
  | [], _ => rfl
  | t :: ts, b => by simp only [flats, cnts, List.length_append, flat_len t b, flats_len ts]
end
theorem cnt_pos : ∀ t : Re, 1 ≤ t.cnt
  | .emp => Nat.le_refl _
  | .set _ => Nat.le_refl _
  | .seq l => by simp only [Re.cnt]; omega
  | .alt l => by simp only [Re.cnt]; omega
  | .rep k mn mx => by simp only [Re.cnt]; omega
  | .bgn => Nat.le_refl _
  | .fin => Nat.le_refl _
theorem roots_len : ∀ (l : List Re) (b : Nat), (roots b l).length = l.length
  | [], _ => rfl
  | t :: ts, b => by simp only [roots, List.length_cons, roots_len ts]
theorem many_cnt (mk : List Re → Re) (h : ∀ l, (mk l).cnt = cnts l + 1) (l : List Re) : (manyR mk l).cnt ≤ cnts l + 1 := by
  match l with
  | [] => exact Nat.le_of_eq (h [])
  | [t] => simp only [manyR, cnts]; omega
  | t :: u :: r => exact Nat.le_of_eq (h (t :: u :: r))
theorem rowOf_cnt (l : List Re) : (rowOf l).cnt ≤ cnts l + 1 := by
  unfold rowOf
  split
  · simp [Re.cnt]
  · exact many_cnt .seq (fun l => rfl) l
theorem quant_cnt {t u : Re} {s s1 : List Nat} (h : quantR t s = some (u, s1)) : u.cnt ≤ t.cnt + 1 ∧ (u.ok ↔ t.ok) := by
  cases s with
  | nil => cases h; exact ⟨by omega, Iff.rfl⟩
  | cons r s =>
    rw [quantR] at h
    repeat' split at h
    all_goals first
      | (cases h; done)
      | (rename_i hl; have hl1 := hl.1; cases h; exact ⟨by simp [Re.cnt], by simp [Re.ok, hl1]⟩)
      | (cases h; exact ⟨by simp [Re.cnt], by simp [Re.ok]⟩)
      | (cases h; exact ⟨by omega, Iff.rfl⟩)
theorem many_ok {mk : List Re → Re} {l : List Re} (hl : oks l) (h : oks l → l ≠ [] → (mk l).ok) (hne : l ≠ []) : (manyR mk l).ok := by
  match l, hl, h, hne with
  | [t], hl, _, _ => exact hl.1
  | t :: u :: r, hl, h, _ => exact h hl (by simp)
theorem rowOf_ok {l : List Re} (hl : oks l) : (rowOf l).ok := by
  unfold rowOf
  split
  · trivial
  · rename_i h
    exact many_ok hl (fun h _ => h) (fun e => h (by rw [e]; rfl))
/-- as many nodes as what was read allows; and trees are as they should be -/
theorem parse_cnt : ∀ n : Nat,
    (∀ {s s1 : List Nat} {ts : List Re} {d : Nat}, altsR n s = some (ts, s1, d) → cnts ts + 4 * s1.length ≤ 4 * s.length + 1 ∧ oks ts ∧ ts ≠ []) ∧
    (∀ {s s1 : List Nat} {ts : List Re} {d : Nat}, rowsR n s = some (ts, s1, d) → cnts ts + 4 * s1.length ≤ 4 * s.length ∧ oks ts) ∧
    (∀ {s s1 : List Nat} {t : Re} {d : Nat}, itemR n s = some (t, s1, d) → t.cnt + 4 * s1.length ≤ 4 * s.length ∧ t.ok) ∧
    (∀ {s s1 : List Nat} {t : Re} {d : Nat}, atomR n s = some (t, s1, d) → t.cnt + 1 + 4 * s1.length ≤ 4 * s.length ∧ t.ok)
  | 0 => ⟨fun h => (by cases h), fun h => (by cases h), fun h => (by cases h), fun h => (by cases h)⟩
  | n + 1 => by
    obtain ⟨ia, ir, ii, it⟩ := parse_cnt n
    refine ⟨?_, ?_, ?_, ?_⟩
    · intro s s1 ts d h
      rw [altsR] at h
      split at h
      · cases h
      · rename_i us s2 e hr
        obtain ⟨h1, h2⟩ := ir hr
        have h3 := rowOf_cnt us
        have h4 := rowOf_ok h2
        split at h
        · rename_i hc
          split at h
          · cases h
          · rename_i vs s3 e2 ha
            obtain ⟨h5, h6, h7⟩ := ia ha
            have := tail_lt hc
            cases h
            exact ⟨by simp only [cnts]; omega, ⟨h4, h6⟩, by simp⟩
        · cases h
          exact ⟨by simp only [cnts]; omega, ⟨h4, trivial⟩, by simp⟩
    · intro s s1 ts d h
      rw [rowsR] at h
      split at h
      · cases h
        exact ⟨by simp [cnts], trivial⟩
      · split at h
        · cases h
        · rename_i t s2 e hi
          obtain ⟨h1, h2⟩ := ii hi
          split at h
          · cases h
          · rename_i vs s3 e2 hr
            obtain ⟨h3, h4⟩ := ir hr
            cases h
            exact ⟨by simp only [cnts]; omega, h2, h4⟩
    · intro s s1 t d h
      rw [itemR] at h
      split at h
      · cases h
      · rename_i v s2 e ha
        obtain ⟨h1, h2⟩ := it ha
        obtain ⟨p, hp, e⟩ := Option.map_eq_some_iff.1 h
        have h3 := quantR_len (u := p.1) (s1 := p.2) hp
        obtain ⟨h4, h5⟩ := quant_cnt (u := p.1) (s1 := p.2) hp
        cases e
        exact ⟨by omega, h5.2 h2⟩
    · intro s s1 t d h
      cases s with
      | nil => cases h
      | cons r s =>
        rw [atomR] at h
        split at h
        · split at h
          · cases h
          · rename_i us s2 e ha
            obtain ⟨h1, h2, h3⟩ := ia ha
            split at h
            · rename_i hc
              have h4 := tail_lt hc
              have h5 := many_cnt .alt (fun l => rfl) us
              cases h
              exact ⟨by simp only [List.length_cons]; omega, many_ok h2 (fun h hne => ⟨hne, h⟩) h3⟩
            · cases h
        · split at h
          · obtain ⟨p, hp, e⟩ := Option.map_eq_some_iff.1 h
            have := classR_len (m := p.1) (s1 := p.2) hp
            cases e
            exact ⟨by simp only [List.length_cons, Re.cnt]; omega, trivial⟩
          · repeat' split at h
            all_goals first
              | (cases h; done)
              | (cases h; exact ⟨by simp only [List.length_cons, Re.cnt]; omega, trivial⟩)
              | (obtain ⟨p, hp, e⟩ := Option.map_eq_some_iff.1 h
                 have := escR_len (m := p.1) (s1 := p.2) hp
                 cases e
                 exact ⟨by simp only [List.length_cons, Re.cnt]; omega, trivial⟩)
end Garner

/-! autom, plain: the search that closure goes -/
namespace Garner
open Go
/-- all that an instruction goes to is there -/
def TgtR (ins : List InstP) : Prop := ∀ (pc : Nat) (c : InstP), ins[pc]? = some c → (c.kind ≠ 4 → c.x < ins.length) ∧ (c.kind = 1 → c.y < ins.length)
/-- targets of laid instructions -/
def TgtL (e : Nat) (l : List InstP) : Prop := ∀ c ∈ l, c.x ≤ e ∧ c.y ≤ e
theorem TgtL.app {e : Nat} {l m : List InstP} (h : TgtL e l) (k : TgtL e m) : TgtL e (l ++ m) := fun c hc => (List.mem_append.1 hc).elim (h c) (k c)
theorem TgtL.mono {e f : Nat} {l : List InstP} (h : TgtL e l) (hf : e ≤ f) : TgtL f l := fun c hc => ⟨Nat.le_trans (h c hc).1 hf, Nat.le_trans (h c hc).2 hf⟩
theorem TgtL.nil {e : Nat} : TgtL e [] := fun c hc => by cases hc
theorem TgtL.cons {e : Nat} {a : InstP} {l : List InstP} (h1 : a.x ≤ e) (h2 : a.y ≤ e) (h : TgtL e l) : TgtL e (a :: l) := fun c hc => by
  rcases List.mem_cons.1 hc with rfl | hc
  · exact ⟨h1, h2⟩
  · exact h c hc
theorem repC_tgt {c : Nat → List InstP} {len : Nat} (h : ∀ p, TgtL (p + len) (c p)) : ∀ n p, TgtL (p + n * len) (repC c len n p)
  | 0, p => .nil
  | n + 1, p => by
    rw [repC]
    have e : (n + 1) * len = len + n * len := by rw [Nat.add_mul]; omega
    refine ((h p).mono (by omega)).app ((repC_tgt h n (p + len)).mono (by omega))
theorem optC_tgt {c : Nat → List InstP} {len e : Nat} (h : ∀ p, TgtL (p + len) (c p)) : ∀ n p, p + n * (len + 1) ≤ e → TgtL e (optC c len e n p)
  | 0, p, _ => .nil
  | n + 1, p, he => by
    have e1 : (n + 1) * (len + 1) = (len + 1) + n * (len + 1) := by rw [Nat.add_mul]; omega
    rw [optC]
    refine .cons (by show p + 1 ≤ e; omega) (Nat.le_refl _) (((h (p + 1)).mono (by omega)).app (optC_tgt h n _ (by omega)))
mutual
theorem code_tgt : ∀ (t : Re) (p : Nat), TgtL (p + t.len) (t.code p)
  | .emp, p => .nil
  | .set l, p => by simp only [Re.code, Re.len]; exact .cons (Nat.le_refl _) (Nat.zero_le _) .nil
  | .seq l, p => by simp only [Re.code, Re.len]; exact codes_tgt l p
  | .alt l, p => by simp only [Re.code, Re.len]; exact altC_tgt l p _ (Nat.le_refl _)
  | .rep k mn none, p => by
    have ih := code_tgt k
    simp only [Re.code, Re.len]
    refine ((repC_tgt ih mn p).mono (by omega)).app (.cons (by show p + mn * k.len + 1 ≤ _; omega) (by show p + mn * k.len + k.len + 2 ≤ _; omega) ((TgtL.mono (ih _) (by omega)).app (.cons (by show p + mn * k.len ≤ _; omega) (by show p + mn * k.len ≤ _; omega) .nil)))
  | .rep k mn (some m), p => by
    have ih := code_tgt k
    simp only [Re.code, Re.len]
    rw [← Nat.add_assoc]
    exact ((repC_tgt ih mn p).mono (by omega)).app (optC_tgt ih (m - mn) (p + mn * k.len) (Nat.le_refl _))
  | .bgn, p => by simp only [Re.code, Re.len]; exact .cons (Nat.le_refl _) (Nat.zero_le _) .nil
  | .fin, p => by simp only [Re.code, Re.len]; exact .cons (Nat.le_refl _) (Nat.zero_le _) .nil
theorem codes_tgt : ∀ (l : List Re) (p : Nat), TgtL (p + lens l) (codes l p)
  | [], p => .nil
  | t :: ts, p => by
    simp only [codes, lens]
    refine ((code_tgt t p).mono (by omega)).app ((codes_tgt ts _).mono (by omega))
theorem altC_tgt : ∀ (l : List Re) (p e : Nat), p + altLen l ≤ e → TgtL e (altC l p e)
  | [], p, e, _ => .nil
  | [t], p, e, he => by
    simp only [altC]
    simp only [altLen] at he
    exact (code_tgt t p).mono he
  | t :: u :: ts, p, e, he => by
    have ih := altC_tgt (u :: ts)
    simp only [altC]
    rw [altLen] at he
    refine .cons (by simp; omega) (by simp; omega) (((code_tgt t _).mono (by omega)).app (.cons (Nat.le_refl _) (Nat.le_refl _) (ih _ _ (by omega))))
end
theorem prog_tgt (t : Re) : TgtR (progR t) := by
  intro pc c hc
  have hl : (progR t).length = t.len + 1 := by unfold progR; rw [List.length_append, code_len]; rfl
  unfold progR at hc
  rw [hl]
  have hm := List.mem_of_getElem? hc
  rcases List.mem_append.1 hm with h | h
  · have := code_tgt t 0 c h
    exact ⟨fun _ => by omega, fun _ => by omega⟩
  · rw [List.mem_singleton.1 h]
    exact ⟨fun e => absurd rfl e, fun e => by cases e⟩

section
variable (ins : List InstP) (first last : Bool) (fr : List Nat)
/-- where the search stands: what it has seen, what it must still look at, what it keeps -/
structure DfsR (S : List Bool) (work out : List Nat) : Prop where
  len : S.length = ins.length
  wk : ∀ a ∈ work, a < ins.length ∧ ∃ f ∈ fr, ReachR ins first last f a
  seen : ∀ a, S[a]? = some true → (∃ f ∈ fr, ReachR ins first last f a) ∧ ∀ q, EdgeR ins first last a q → S[q]? = some true ∨ q ∈ work
  all : ∀ f ∈ fr, S[f]? = some true ∨ f ∈ work
  mem : ∀ a, a ∈ out ↔ S[a]? = some true ∧ KeptR ins last a
  nd : out.Nodup
  big : work.length + 2 * S.count false ≤ fr.length + 2 * ins.length
  low : out.length + S.count false ≤ ins.length
end
section
variable {ins : List InstP} {first last : Bool} {fr : List Nat}
theorem ReachR.snoc {a b c : Nat} (h : ReachR ins first last a b) (e : EdgeR ins first last b c) : ReachR ins first last a c := by
  induction h with
  | here a => exact .step e (.here _)
  | step h1 _ ih => exact .step h1 (ih e)
theorem DfsR.start (h : ∀ f ∈ fr, f < ins.length) : DfsR ins first last fr (List.replicate ins.length false) fr [] where
  len := List.length_replicate
  wk a ha := ⟨h a ha, a, ha, .here a⟩
  seen a ha := by
    obtain ⟨hl, e⟩ := List.getElem?_eq_some_iff.1 ha
    rw [List.getElem_replicate] at e
    cases e
  all f hf := .inr hf
  mem a := by
    constructor
    · intro h; cases h
    · rintro ⟨ha, -⟩
      obtain ⟨hl, e⟩ := List.getElem?_eq_some_iff.1 ha
      rw [List.getElem_replicate] at e
      cases e
  nd := List.nodup_nil
  big := by rw [List.count_replicate_self]; exact Nat.le_refl _
  low := by rw [List.count_replicate_self]; simp
/-- what was seen is passed over -/
theorem DfsR.pass {S : List Bool} {l out : List Nat} {pc : Nat} (h : DfsR ins first last fr S (l ++ [pc]) out) (hs : S[pc]? = some true) : DfsR ins first last fr S l out where
  len := h.len
  wk a ha := h.wk a (List.mem_append_left _ ha)
  seen a ha := ⟨(h.seen a ha).1, fun q hq => by
    rcases (h.seen a ha).2 q hq with e | e
    · exact .inl e
    · rcases List.mem_append.1 e with e | e
      · exact .inr e
      · rw [List.mem_singleton.1 e]; exact .inl hs⟩
  all f hf := by
    rcases h.all f hf with e | e
    · exact .inl e
    · rcases List.mem_append.1 e with e | e
      · exact .inr e
      · rw [List.mem_singleton.1 e]; exact .inl hs
  mem := h.mem
  nd := h.nd
  big := by have := h.big; rw [List.length_append] at this; simp at this; omega
  low := h.low
theorem count_mark : ∀ {S : List Bool} {pc : Nat}, S[pc]? = some false → (S.set pc true).count false + 1 = S.count false
  | [], pc, h => by simp at h
  | b :: S, 0, h => by simp at h; subst h; simp
  | b :: S, pc + 1, h => by
    have := count_mark (S := S) (pc := pc) (by simpa using h)
    rw [List.set_cons_succ, List.count_cons, List.count_cons]
    omega
/-- what was not seen is marked, and what it goes to must be looked at -/
theorem DfsR.mark {S : List Bool} {l out add keep : List Nat} {pc : Nat} (ht : TgtR ins) (h : DfsR ins first last fr S (l ++ [pc]) out) (hs : S[pc]? = some false) (ha : ∀ q, EdgeR ins first last pc q ↔ q ∈ add) (h2 : add.length ≤ 2) (hk : (KeptR ins last pc ∧ keep = [pc]) ∨ (¬ KeptR ins last pc ∧ keep = [])) :
    DfsR ins first last fr (S.set pc true) (l ++ add) (out ++ keep) := by
  have hpl : pc < S.length := (List.getElem?_eq_some_iff.1 hs).1
  have hset : ∀ a, (S.set pc true)[a]? = some true ↔ a = pc ∨ S[a]? = some true := fun a => by
    rw [List.getElem?_set]
    by_cases e : pc = a
    · subst e; simp [hpl]
    · rw [if_neg e]; constructor
      · exact .inr
      · rintro (e2 | e2)
        · exact absurd e2.symm e
        · exact e2
  have hpr := h.wk pc (by simp)
  refine ⟨by rw [List.length_set]; exact h.len, fun a hm => ?_, fun a hm => ?_, fun f hf => ?_, fun a => ?_, ?_, ?_, ?_⟩
  · rcases List.mem_append.1 hm with hm | hm
    · exact h.wk a (List.mem_append_left _ hm)
    · have he := (ha a).2 hm
      obtain ⟨f, hf, hr⟩ := hpr.2
      refine ⟨?_, f, hf, hr.snoc he⟩
      obtain ⟨c, hc, k⟩ := he
      have := ht pc c hc
      rcases k with ⟨k1, rfl | rfl⟩ | ⟨k1, -, rfl⟩ | ⟨k1, -, rfl⟩
      · exact this.1 (by omega)
      · exact this.2 k1
      · exact this.1 (by omega)
      · exact this.1 (by omega)
  · rcases (hset a).1 hm with rfl | hm
    · exact ⟨hpr.2, fun q hq => .inr (List.mem_append_right _ ((ha q).1 hq))⟩
    · refine ⟨(h.seen a hm).1, fun q hq => ?_⟩
      rcases (h.seen a hm).2 q hq with e | e
      · exact .inl ((hset q).2 (.inr e))
      · rcases List.mem_append.1 e with e | e
        · exact .inr (List.mem_append_left _ e)
        · exact .inl ((hset q).2 (.inl (List.mem_singleton.1 e)))
  · rcases h.all f hf with e | e
    · exact .inl ((hset f).2 (.inr e))
    · rcases List.mem_append.1 e with e | e
      · exact .inr (List.mem_append_left _ e)
      · exact .inl ((hset f).2 (.inl (List.mem_singleton.1 e)))
  · rw [List.mem_append, h.mem a, hset a]
    rcases hk with ⟨k, rfl⟩ | ⟨k, rfl⟩
    · rw [List.mem_singleton]
      constructor
      · rintro (⟨e1, e2⟩ | rfl)
        · exact ⟨.inr e1, e2⟩
        · exact ⟨.inl rfl, k⟩
      · rintro ⟨rfl | e1, e2⟩
        · exact .inr rfl
        · exact .inl ⟨e1, e2⟩
    · constructor
      · rintro (⟨e1, e2⟩ | e)
        · exact ⟨.inr e1, e2⟩
        · cases e
      · rintro ⟨rfl | e1, e2⟩
        · exact absurd e2 k
        · exact .inl ⟨e1, e2⟩
  · rcases hk with ⟨k, rfl⟩ | ⟨k, rfl⟩
    · rw [List.nodup_append]
      refine ⟨h.nd, by simp, fun a hm b hb => ?_⟩
      rw [List.mem_singleton.1 hb]
      rintro rfl
      have := ((h.mem a).1 hm).1
      rw [hs] at this
      cases this
    · rw [List.append_nil]; exact h.nd
  · have := h.big
    have hc := count_mark hs
    rw [List.length_append] at this ⊢
    simp at this
    omega
  · have := h.low
    have hc := count_mark hs
    rw [List.length_append]
    rcases hk with ⟨k, rfl⟩ | ⟨k, rfl⟩ <;> simp <;> omega
theorem DfsR.reach {S : List Bool} {out : List Nat} (h : DfsR ins first last fr S [] out) {a b : Nat} (hr : ReachR ins first last a b) : S[a]? = some true → S[b]? = some true := by
  induction hr with
  | here a => exact id
  | step e _ ih => exact fun ha => ih (((h.seen _ ha).2 _ e).elim id fun e => by cases e)
theorem DfsR.mem_ {S : List Bool} {out : List Nat} (h : DfsR ins first last fr S [] out) (a : Nat) : a ∈ out ↔ InClos ins first last fr a := by
  rw [h.mem a]
  unfold InClos
  constructor
  · rintro ⟨h1, h2⟩
    exact ⟨(h.seen a h1).1, h2⟩
  · rintro ⟨⟨f, hf, hr⟩, h2⟩
    exact ⟨h.reach hr ((h.all f hf).elim id fun e => by cases e), h2⟩
/-- in order, and each once -/
theorem asc_of : ∀ {l : List Nat}, l.Nodup → l.Pairwise (· ≤ ·) → AscN l
  | [], _, _ => trivial
  | [_], _, _ => trivial
  | a :: b :: r, hn, hp => by
    have h1 := (List.pairwise_cons.1 hp).1 b (by simp)
    have h2 : a ≠ b := fun e => (List.nodup_cons.1 hn).1 (by simp [e])
    exact ⟨by omega, asc_of (List.nodup_cons.1 hn).2 (List.pairwise_cons.1 hp).2⟩
theorem DfsR.done {S : List Bool} {out l : List Nat} (h : DfsR ins first last fr S [] out) (hp : l.Perm out) (hs : l.Pairwise (· ≤ ·)) : l = closP ins first last fr :=
  asc_eq (asc_of (hp.nodup_iff.2 h.nd) hs) asc_clos fun x => by rw [hp.mem_iff, h.mem_ x, mem_clos]
theorem clos_lt : ∀ x ∈ closP ins first last fr, x < ins.length := fun x hx => by
  obtain ⟨-, c, hc, -⟩ := mem_clos.1 hx
  exact (List.getElem?_eq_some_iff.1 hc).1
theorem clos_len : (closP ins first last fr).length ≤ ins.length := by
  unfold closP
  exact Nat.le_trans (List.length_filter_le _ _) (by simp)
end
end Garner

