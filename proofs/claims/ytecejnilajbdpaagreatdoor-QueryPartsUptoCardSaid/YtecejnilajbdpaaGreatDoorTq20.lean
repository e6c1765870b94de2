import Derived.Test.YtecejnilajbdpaaGreatDoorTq06
import Derived.Test.YtecejnilajbdpaaGreatDoorTq07
/-! autom, plain: the search that closure goes -/
namespace Garner
open Go
/-- all that an instruction goes to is there -/
def TgtR (ins : List InstP) : Prop := ∀ (pc : Nat) (c : InstP), ins[pc]? = some c → (c.kind ≠ 4 → c.x < ins.length) ∧ (c.kind = 1 → c.y < ins.length)
/-- targets of laid instructions -/
def TgtL (e : Nat) (l : List InstP) : Prop := ∀ c ∈ l, c.x ≤ e ∧ c.y ≤ e
theorem TgtL.app {e : Nat} {l m : List InstP} (h : TgtL e l) (k : TgtL e m) : TgtL e (l ++ m) := fun c hc => (List.mem_append.1 hc).elim (h c) (k c)
theorem TgtL.mono {e f : Nat} {l : List InstP} (h : TgtL e l) (hf : e ≤ f) : TgtL f l := fun c hc => ⟨Nat.le_trans (h c hc).1 hf, Nat.le_trans (h c hc).2 hf⟩
theorem TgtL.nil {e : Nat} : TgtL e [] := fun c hc => by cases hc
theorem TgtL.cons {e : Nat} {a : InstP} {l : List InstP} (h1 : a.x ≤ e) (h2 : a.y ≤ e) (h : TgtL e l) : TgtL e (a :: l) := fun c hc => by
  rcases List.mem_cons.1 hc with rfl | hc
  · exact ⟨h1, h2⟩
  · exact h c hc
theorem repC_tgt {c : Nat → List InstP} {len : Nat} (h : ∀ p, TgtL (p + len) (c p)) : ∀ n p, TgtL (p + n * len) (repC c len n p)
  | 0, p => .nil
  | n + 1, p => by
    rw [repC]
    have e : (n + 1) * len = len + n * len := by rw [Nat.add_mul]; omega
    refine ((h p).mono (by omega)).app ((repC_tgt h n (p + len)).mono (by omega))
theorem optC_tgt {c : Nat → List InstP} {len e : Nat} (h : ∀ p, TgtL (p + len) (c p)) : ∀ n p, p + n * (len + 1) ≤ e → TgtL e (optC c len e n p)
  | 0, p, _ => .nil
  | n + 1, p, he => by
    have e1 : (n + 1) * (len + 1) = (len + 1) + n * (len + 1) := by rw [Nat.add_mul]; omega
    rw [optC]
    refine .cons (by show p + 1 ≤ e; omega) (Nat.le_refl _) (((h (p + 1)).mono (by omega)).app (optC_tgt h n _ (by omega)))
mutual
theorem code_tgt : ∀ (t : Re) (p : Nat), TgtL (p + t.len) (t.code p)
  | .emp, p => .nil
  | .set l, p => by simp only [Re.code, Re.len]; exact .cons (Nat.le_refl _) (Nat.zero_le _) .nil
  | .seq l, p => by simp only [Re.code, Re.len]; exact codes_tgt l p
  | .alt l, p => by simp only [Re.code, Re.len]; exact altC_tgt l p _ (Nat.le_refl _)
  | .rep k mn none, p => by
    have ih := code_tgt k
    simp only [Re.code, Re.len]
    refine ((repC_tgt ih mn p).mono (by omega)).app (.cons (by show p + mn * k.len + 1 ≤ _; omega) (by show p + mn * k.len + k.len + 2 ≤ _; omega) ((TgtL.mono (ih _) (by omega)).app (.cons (by show p + mn * k.len ≤ _; omega) (by show p + mn * k.len ≤ _; omega) .nil)))
  | .rep k mn (some m), p => by
    have ih := code_tgt k
    simp only [Re.code, Re.len]
    rw [← Nat.add_assoc]
    exact ((repC_tgt ih mn p).mono (by omega)).app (optC_tgt ih (m - mn) (p + mn * k.len) (Nat.le_refl _))
  | .bgn, p => by simp only [Re.code, Re.len]; exact .cons (Nat.le_refl _) (Nat.zero_le _) .nil
  | .fin, p => by simp only [Re.code, Re.len]; exact .cons (Nat.le_refl _) (Nat.zero_le _) .nil
theorem codes_tgt : ∀ (l : List Re) (p : Nat), TgtL (p + lens l) (codes l p)
  | [], p => .nil
  | t :: ts, p => by
    simp only [codes, lens]
    refine ((code_tgt t p).mono (by omega)).app ((codes_tgt ts _).mono (by omega))
theorem altC_tgt : ∀ (l : List Re) (p e : Nat), p + altLen l ≤ e → TgtL e (altC l p e)
  | [], p, e, _ => .nil
  | [t], p, e, he => by
    simp only [altC]
    simp only [altLen] at he
    exact (code_tgt t p).mono he
  | t :: u :: ts, p, e, he => by
    have ih := altC_tgt (u :: ts)
    simp only [altC]
    rw [altLen] at he
    refine .cons (by simp; omega) (by simp; omega) (((code_tgt t _).mono (by omega)).app (.cons (Nat.le_refl _) (Nat.le_refl _) (ih _ _ (by omega))))
end
theorem prog_tgt (t : Re) : TgtR (progR t) := by
  intro pc c hc
  have hl : (progR t).length = t.len + 1 := by unfold progR; rw [List.length_append, code_len]; rfl
  unfold progR at hc
  rw [hl]
  have hm := List.mem_of_getElem? hc
  rcases List.mem_append.1 hm with h | h
  · have := code_tgt t 0 c h
    exact ⟨fun _ => by omega, fun _ => by omega⟩
  · rw [List.mem_singleton.1 h]
    exact ⟨fun e => absurd rfl e, fun e => by cases e⟩

section
variable (ins : List InstP) (first last : Bool) (fr : List Nat)
/-- where the search stands: what it has seen, what it must still look at, what it keeps -/
structure DfsR (S : List Bool) (work out : List Nat) : Prop where
  len : S.length = ins.length
  wk : ∀ a ∈ work, a < ins.length ∧ ∃ f ∈ fr, ReachR ins first last f a
  seen : ∀ a, S[a]? = some true → (∃ f ∈ fr, ReachR ins first last f a) ∧ ∀ q, EdgeR ins first last a q → S[q]? = some true ∨ q ∈ work
  all : ∀ f ∈ fr, S[f]? = some true ∨ f ∈ work
  mem : ∀ a, a ∈ out ↔ S[a]? = some true ∧ KeptR ins last a
  nd : out.Nodup
  big : work.length + 2 * S.count false ≤ fr.length + 2 * ins.length
  low : out.length + S.count false ≤ ins.length
end
section
variable {ins : List InstP} {first last : Bool} {fr : List Nat}
theorem ReachR.snoc {a b c : Nat} (h : ReachR ins first last a b) (e : EdgeR ins first last b c) : ReachR ins first last a c := by
  induction h with
  | here a => exact .step e (.here _)
  | step h1 _ ih => exact .step h1 (ih e)
theorem DfsR.start (h : ∀ f ∈ fr, f < ins.length) : DfsR ins first last fr (List.replicate ins.length false) fr [] where
  len := List.length_replicate
  wk a ha := ⟨h a ha, a, ha, .here a⟩
  seen a ha := by
    obtain ⟨hl, e⟩ := List.getElem?_eq_some_iff.1 ha
    rw [List.getElem_replicate] at e
    cases e
  all f hf := .inr hf
  mem a := by
    constructor
    · intro h; cases h
    · rintro ⟨ha, -⟩
      obtain ⟨hl, e⟩ := List.getElem?_eq_some_iff.1 ha
      rw [List.getElem_replicate] at e
      cases e
  nd := List.nodup_nil
  big := by rw [List.count_replicate_self]; exact Nat.le_refl _
  low := by rw [List.count_replicate_self]; simp
/-- what was seen is passed over -/
theorem DfsR.pass {S : List Bool} {l out : List Nat} {pc : Nat} (h : DfsR ins first last fr S (l ++ [pc]) out) (hs : S[pc]? = some true) : DfsR ins first last fr S l out where
  len := h.len
  wk a ha := h.wk a (List.mem_append_left _ ha)
  seen a ha := ⟨(h.seen a ha).1, fun q hq => by
    rcases (h.seen a ha).2 q hq with e | e
    · exact .inl e
    · rcases List.mem_append.1 e with e | e
      · exact .inr e
      · rw [List.mem_singleton.1 e]; exact .inl hs⟩
  all f hf := by
    rcases h.all f hf with e | e
    · exact .inl e
    · rcases List.mem_append.1 e with e | e
      · exact .inr e
      · rw [List.mem_singleton.1 e]; exact .inl hs
  mem := h.mem
  nd := h.nd
  big := by have := h.big; rw [List.length_append] at this; simp at this; omega
  low := h.low
theorem count_mark : ∀ {S : List Bool} {pc : Nat}, S[pc]? = some false → (S.set pc true).count false + 1 = S.count false
  | [], pc, h => by simp at h
  | b :: S, 0, h => by simp at h; subst h; simp
  | b :: S, pc + 1, h => by
    have := count_mark (S := S) (pc := pc) (by simpa using h)
    rw [List.set_cons_succ, List.count_cons, List.count_cons]
    omega
/-- what was not seen is marked, and what it goes to must be looked at -/
theorem DfsR.mark {S : List Bool} {l out add keep : List Nat} {pc : Nat} (ht : TgtR ins) (h : DfsR ins first last fr S (l ++ [pc]) out) (hs : S[pc]? = some false) (ha : ∀ q, EdgeR ins first last pc q ↔ q ∈ add) (h2 : add.length ≤ 2) (hk : (KeptR ins last pc ∧ keep = [pc]) ∨ (¬ KeptR ins last pc ∧ keep = [])) :
    DfsR ins first last fr (S.set pc true) (l ++ add) (out ++ keep) := by
  have hpl : pc < S.length := (List.getElem?_eq_some_iff.1 hs).1
  have hset : ∀ a, (S.set pc true)[a]? = some true ↔ a = pc ∨ S[a]? = some true := fun a => by
    rw [List.getElem?_set]
    by_cases e : pc = a
    · subst e; simp [hpl]
    · rw [if_neg e]; constructor
      · exact .inr
      · rintro (e2 | e2)
        · exact absurd e2.symm e
        · exact e2
  have hpr := h.wk pc (by simp)
  refine ⟨by rw [List.length_set]; exact h.len, fun a hm => ?_, fun a hm => ?_, fun f hf => ?_, fun a => ?_, ?_, ?_, ?_⟩
  · rcases List.mem_append.1 hm with hm | hm
    · exact h.wk a (List.mem_append_left _ hm)
    · have he := (ha a).2 hm
      obtain ⟨f, hf, hr⟩ := hpr.2
      refine ⟨?_, f, hf, hr.snoc he⟩
      obtain ⟨c, hc, k⟩ := he
      have := ht pc c hc
      rcases k with ⟨k1, rfl | rfl⟩ | ⟨k1, -, rfl⟩ | ⟨k1, -, rfl⟩
      · exact this.1 (by omega)
      · exact this.2 k1
      · exact this.1 (by omega)
      · exact this.1 (by omega)
  · rcases (hset a).1 hm with rfl | hm
    · exact ⟨hpr.2, fun q hq => .inr (List.mem_append_right _ ((ha q).1 hq))⟩
    · refine ⟨(h.seen a hm).1, fun q hq => ?_⟩
      rcases (h.seen a hm).2 q hq with e | e
      · exact .inl ((hset q).2 (.inr e))
      · rcases List.mem_append.1 e with e | e
        · exact .inr (List.mem_append_left _ e)
        · exact .inl ((hset q).2 (.inl (List.mem_singleton.1 e)))
  · rcases h.all f hf with e | e
    · exact .inl ((hset f).2 (.inr e))
    · rcases List.mem_append.1 e with e | e
      · exact .inr (List.mem_append_left _ e)
      · exact .inl ((hset f).2 (.inl (List.mem_singleton.1 e)))
  · rw [List.mem_append, h.mem a, hset a]
    rcases hk with ⟨k, rfl⟩ | ⟨k, rfl⟩
    · rw [List.mem_singleton]
      constructor
      · rintro (⟨e1, e2⟩ | rfl)
        · exact ⟨.inr e1, e2⟩
        · exact ⟨.inl rfl, k⟩
      · rintro ⟨rfl | e1, e2⟩
        · exact .inr rfl
        · exact .inl ⟨e1, e2⟩
    · constructor
      · rintro (⟨e1, e2⟩ | e)
        · exact ⟨.inr e1, e2⟩
        · cases e
      · rintro ⟨rfl | e1, e2⟩
        · exact absurd e2 k
        · exact .inl ⟨e1, e2⟩
  · rcases hk with ⟨k, rfl⟩ | ⟨k, rfl⟩
    · rw [List.nodup_append]
      refine ⟨h.nd, by simp, fun a hm b hb => ?_⟩
      rw [List.mem_singleton.1 hb]
      rintro rfl
      have := ((h.mem a).1 hm).1
      rw [hs] at this
      cases this
    · rw [List.append_nil]; exact h.nd
  · have := h.big
    have hc := count_mark hs
    rw [List.length_append] at this ⊢
    simp at this
    omega
  · have := h.low
    have hc := count_mark hs
    rw [List.length_append]
    rcases hk with ⟨k, rfl⟩ | ⟨k, rfl⟩ <;> simp <;> omega
theorem DfsR.reach {S : List Bool} {out : List Nat} (h : DfsR ins first last fr S [] out) {a b : Nat} (hr : ReachR ins first last a b) : S[a]? = some true → S[b]? = some true := by
  induction hr with
  | here a => exact id
  | step e _ ih => exact fun ha => ih (((h.seen _ ha).2 _ e).elim id fun e => by cases e)
theorem DfsR.mem_ {S : List Bool} {out : List Nat} (h : DfsR ins first last fr S [] out) (a : Nat) : a ∈ out ↔ InClos ins first last fr a := by
  rw [h.mem a]
  unfold InClos
  constructor
  · rintro ⟨h1, h2⟩
    exact ⟨(h.seen a h1).1, h2⟩
  · rintro ⟨⟨f, hf, hr⟩, h2⟩
    exact ⟨h.reach hr ((h.all f hf).elim id fun e => by cases e), h2⟩
/-- in order, and each once -/
theorem asc_of : ∀ {l : List Nat}, l.Nodup → l.Pairwise (· ≤ ·) → AscN l
  | [], _, _ => trivial
  | [_], _, _ => trivial
  | a :: b :: r, hn, hp => by
    have h1 := (List.pairwise_cons.1 hp).1 b (by simp)
    have h2 : a ≠ b := fun e => (List.nodup_cons.1 hn).1 (by simp [e])
    exact ⟨by omega, asc_of (List.nodup_cons.1 hn).2 (List.pairwise_cons.1 hp).2⟩
theorem DfsR.done {S : List Bool} {out l : List Nat} (h : DfsR ins first last fr S [] out) (hp : l.Perm out) (hs : l.Pairwise (· ≤ ·)) : l = closP ins first last fr :=
  asc_eq (asc_of (hp.nodup_iff.2 h.nd) hs) asc_clos fun x => by rw [hp.mem_iff, h.mem_ x, mem_clos]
theorem clos_lt : ∀ x ∈ closP ins first last fr, x < ins.length := fun x hx => by
  obtain ⟨-, c, hc, -⟩ := mem_clos.1 hx
  exact (List.getElem?_eq_some_iff.1 hc).1
theorem clos_len : (closP ins first last fr).length ≤ ins.length := by
  unfold closP
  exact Nat.le_trans (List.length_filter_le _ _) (by simp)
end
end Garner

/-! Patterns, plain: sets are rows of pairs, and short -/
namespace Garner
open Go
def SetOk (b : Nat) (l : List Nat) : Prop := l.length ≤ b ∧ ∃ k, l.length = 2 * k
mutual
def Re.evs (b : Nat) : Re → Prop
  | .emp => True
  | .set l => SetOk b l
  | .seq l => evss b l
  | .alt l => evss b l
  | .rep k _ _ => k.evs b
  | .bgn => True
  | .fin => True
def evss (b : Nat) : List Re → Prop
  | [] => True
  | t :: ts => t.evs b ∧ evss b ts
end
variable {b : Nat}
theorem many_evs {mk : List Re → Re} (h : ∀ l, (mk l).evs b = evss b l) {l : List Re} (hl : evss b l) : (manyR mk l).evs b := by
  match l, hl with
  | [], hl => exact (h []).symm ▸ hl
  | [t], hl => exact hl.1
  | t :: u :: r, hl => exact (h (t :: u :: r)).symm ▸ hl
theorem rowOf_evs {l : List Re} (hl : evss b l) : (rowOf l).evs b := by
  unfold rowOf
  split
  · trivial
  · exact many_evs (mk := .seq) (fun _ => rfl) hl
theorem quant_evs {t u : Re} {s s1 : List Nat} (h : quantR t s = some (u, s1)) (ht : t.evs b) : u.evs b := by
  cases s with
  | nil => cases h; exact ht
  | cons r s =>
    rw [quantR] at h
    split at h
    · cases h; exact ht
    split at h
    · cases h; exact ht
    split at h
    · cases h; exact ht
    split at h
    · split at h
      · cases h
      · split at h
        · split at h
          · cases h
          · split at h
            · injection h with h; injection h with h3 h4
              subst h3
              exact ht
            · cases h
        · split at h
          · injection h with h; injection h with h3 h4
            subst h3
            exact ht
          · cases h
    · cases h; exact ht
theorem flatR_two : ∀ l : List (Nat × Nat), (flatR l).length = 2 * l.length
  | [] => rfl
  | p :: l => by
    have := flatR_two l
    unfold flatR at this ⊢
    rw [List.flatMap_cons, List.length_append, this]
    simp; omega
theorem pairsR_two : ∀ l : List Nat, 2 * (pairsR l).length ≤ l.length
  | [] => by simp [pairsR]
  | [_] => by simp [pairsR]
  | a :: c :: r => by
    have := pairsR_two r
    simp only [pairsR, List.length_cons]; omega
theorem insR_len (x : Nat × Nat) : ∀ l, (insR x l).length = l.length + 1
  | [] => rfl
  | y :: r => by
    rw [insR]
    split
    · rfl
    · simp only [List.length_cons, insR_len x r]
theorem sortR_len : ∀ l, (sortR l).length = l.length
  | [] => rfl
  | x :: r => by rw [sortR, insR_len, sortR_len r]; rfl
theorem stepI_len (out : List (Nat × Nat)) (x : Nat × Nat) : (stepI out x).length ≤ out.length + 1 := by
  unfold stepI
  split
  · split
    · rw [List.length_append, List.length_dropLast]; simp
    · simp
  · simp
theorem mergeI_len (l : List (Nat × Nat)) : (mergeI l).length ≤ l.length := by
  have : ∀ (l out : List (Nat × Nat)), (l.foldl stepI out).length ≤ out.length + l.length := fun l => by
    induction l with
    | nil => intro out; simp
    | cons x r ih =>
      intro out
      have h1 := ih (stepI out x)
      have h2 := stepI_len out x
      rw [List.foldl_cons, List.length_cons]; omega
  have h := this l []
  simpa [mergeI] using h
theorem othersGo_len1 : ∀ (l : List (Nat × Nat)) (f : Nat), (othersGo f l).length ≤ l.length + 1
  | [], f => by rw [othersGo]; split <;> simp
  | (a, c) :: r, f => by
    have := othersGo_len1 r (c + 1)
    rw [othersGo, List.length_append, List.length_cons]
    split <;> simp <;> omega
theorem merged_ok {l : List Nat} (h : l.length ≤ b) : SetOk b (mergedR l) := by
  have h1 := mergeI_len (sortR (pairsR l))
  rw [sortR_len] at h1
  have h2 := pairsR_two l
  exact ⟨by unfold mergedR; rw [flatR_two]; omega, _, flatR_two _⟩
theorem others_ok {l : List Nat} (h : l.length + 2 ≤ b) : SetOk b (othersR l) := by
  have h1 := othersGo_len1 (pairsR l) 0
  have h2 := pairsR_two l
  exact ⟨by unfold othersR; rw [flatR_two]; omega, _, flatR_two _⟩
theorem escR_ok {s m s1 : List Nat} (h : escR s = some (m, s1)) : SetOk 8 m := by
  cases s with
  | nil => cases h
  | cons r s =>
    simp only [escR] at h
    split at h
    · cases h; exact ⟨by simp, 1, rfl⟩
    split at h
    · cases h; exact ⟨by simp, 1, rfl⟩
    split at h
    · cases h; exact ⟨by simp, 1, rfl⟩
    split at h
    · cases h; exact ⟨by simp, 4, rfl⟩
    split at h
    · cases h; exact ⟨by simp, 3, rfl⟩
    split at h
    · cases h; exact ⟨by simp, 1, rfl⟩
    · cases h
theorem memR_ok {s m s1 : List Nat} (h : memR s = some (m, s1)) : m.length ≤ 8 := by
  cases s with
  | nil => cases h
  | cons r s =>
    simp only [memR] at h
    split at h
    · exact (escR_ok h).1
    split at h
    · cases h
    · cases h; simp
theorem rngR_ok {m t q : List Nat} (h : rngR m t = some q) : q.length ≤ 8 := by
  unfold rngR at h
  split at h
  · split at h
    · cases h; simp
    · cases h
  · cases h
theorem clsR_ok : ∀ {n : Nat} {f : Bool} {s acc m s1 : List Nat}, clsR n f s acc = some (m, s1) → m.length ≤ acc.length + 8 * s.length
  | 0, f, s, acc, m, s1, h => by cases h
  | n + 1, f, s, acc, m, s1, h => by
    rw [clsR] at h
    split at h
    · cases h; omega
    · split at h
      · cases h
      · rename_i m1 s2 h1
        have l1 := memR_len h1
        have k1 := memR_ok h1
        split at h
        · split at h
          · cases h
          · rename_i t s3 h2
            have l2 := memR_len h2
            have l3 := tail_le s2
            split at h
            · cases h
            · rename_i q h3
              have k3 := rngR_ok h3
              have := clsR_ok h
              rw [List.length_append] at this
              omega
        · have := clsR_ok h
          rw [List.length_append] at this
          omega
theorem classR_ok {s m s1 : List Nat} (h : classR s = some (m, s1)) (hb : 8 * s.length + 2 ≤ b) : SetOk b m := by
  unfold classR at h
  split at h
  · obtain ⟨p, hp, e⟩ := Option.map_eq_some_iff.1 h
    cases e
    have := clsR_ok (m := p.1) (s1 := p.2) hp
    have l3 := tail_le s
    have hm : SetOk (8 * s.length) (mergedR p.1) := merged_ok (by simp at this; omega)
    exact others_ok (by have := hm.1; omega)
  · obtain ⟨p, hp, e⟩ := Option.map_eq_some_iff.1 h
    cases e
    have := clsR_ok (m := p.1) (s1 := p.2) hp
    exact merged_ok (by simp at this; omega)
theorem parse_evs : ∀ n : Nat,
    (∀ {s s1 : List Nat} {ts : List Re} {d : Nat}, 8 * s.length + 2 ≤ b → altsR n s = some (ts, s1, d) → evss b ts) ∧
    (∀ {s s1 : List Nat} {ts : List Re} {d : Nat}, 8 * s.length + 2 ≤ b → rowsR n s = some (ts, s1, d) → evss b ts) ∧
    (∀ {s s1 : List Nat} {t : Re} {d : Nat}, 8 * s.length + 2 ≤ b → itemR n s = some (t, s1, d) → t.evs b) ∧
    (∀ {s s1 : List Nat} {t : Re} {d : Nat}, 8 * s.length + 2 ≤ b → atomR n s = some (t, s1, d) → t.evs b)
  | 0 => ⟨fun _ h => (by cases h), fun _ h => (by cases h), fun _ h => (by cases h), fun _ h => (by cases h)⟩
  | n + 1 => by
    obtain ⟨ia, ir, ii, it⟩ := parse_evs n
    obtain ⟨la, lr, li, lt⟩ := parse_len n
    refine ⟨?_, ?_, ?_, ?_⟩
    · intro s s1 ts d hb h
      rw [altsR] at h
      split at h
      · cases h
      · rename_i us s2 e hr
        have h2 := ir hb hr
        have k2 := lr hr
        split at h
        · split at h
          · cases h
          · rename_i vs s3 e2 ha
            have k3 := tail_le s2
            have h4 := ia (by omega) ha
            cases h
            exact ⟨rowOf_evs h2, h4⟩
        · cases h
          exact ⟨rowOf_evs h2, trivial⟩
    · intro s s1 ts d hb h
      rw [rowsR] at h
      split at h
      · cases h; trivial
      · split at h
        · cases h
        · rename_i t s2 e hi
          have h2 := ii hb hi
          have k2 := li hi
          split at h
          · cases h
          · rename_i vs s3 e2 hr
            have h4 := ir (by omega) hr
            cases h
            exact ⟨h2, h4⟩
    · intro s s1 t d hb h
      rw [itemR] at h
      split at h
      · cases h
      · rename_i v s2 e ha
        have h2 := it hb ha
        obtain ⟨p, hp, e⟩ := Option.map_eq_some_iff.1 h
        cases e
        exact quant_evs (u := p.1) (s1 := p.2) hp h2
    · intro s s1 t d hb h
      cases s with
      | nil => cases h
      | cons r s =>
        rw [List.length_cons] at hb
        rw [atomR] at h
        split at h
        · split at h
          · cases h
          · rename_i us s2 e ha
            have h2 := ia (by omega) ha
            split at h
            · cases h
              exact many_evs (mk := .alt) (fun _ => rfl) h2
            · cases h
        split at h
        · obtain ⟨p, hp, e⟩ := Option.map_eq_some_iff.1 h
          cases e
          exact classR_ok (m := p.1) (s1 := p.2) hp (by omega)
        split at h
        · cases h; exact ⟨by simp; omega, 2, rfl⟩
        split at h
        · cases h; trivial
        split at h
        · cases h; trivial
        split at h
        · obtain ⟨p, hp, e⟩ := Option.map_eq_some_iff.1 h
          cases e
          have := escR_ok (m := p.1) (s1 := p.2) hp
          exact ⟨by have := this.1; omega, this.2⟩
        split at h
        · cases h
        · cases h; exact ⟨by simp; omega, 1, rfl⟩
/-- instructions whose runes are rows of pairs -/
def EvL (b : Nat) (l : List InstP) : Prop := ∀ c ∈ l, SetOk b c.runes
theorem EvL.app {l m : List InstP} (h : EvL b l) (k : EvL b m) : EvL b (l ++ m) := fun c hc => (List.mem_append.1 hc).elim (h c) (k c)
theorem EvL.nil : EvL b [] := fun c hc => by cases hc
theorem EvL.cons {a : InstP} {l : List InstP} (h1 : SetOk b a.runes) (h : EvL b l) : EvL b (a :: l) := fun c hc => by
  rcases List.mem_cons.1 hc with rfl | hc
  · exact h1
  · exact h c hc
theorem set_nil : SetOk b [] := ⟨Nat.zero_le _, 0, rfl⟩
theorem repC_ev {c : Nat → List InstP} {len : Nat} (h : ∀ p, EvL b (c p)) : ∀ n p, EvL b (repC c len n p)
  | 0, p => .nil
  | n + 1, p => by rw [repC]; exact (h p).app (repC_ev h n _)
theorem optC_ev {c : Nat → List InstP} {len e : Nat} (h : ∀ p, EvL b (c p)) : ∀ n p, EvL b (optC c len e n p)
  | 0, p => .nil
  | n + 1, p => by rw [optC]; exact .cons set_nil ((h _).app (optC_ev h n _))
mutual
theorem code_ev : ∀ (t : Re) (p : Nat), t.evs b → EvL b (t.code p)
  | .emp, p, _ => .nil
  | .set l, p, h => by simp only [Re.code]; exact .cons h .nil
  | .seq l, p, h => by simp only [Re.code]; exact codes_ev l p h
  | .alt l, p, h => by simp only [Re.code]; exact altC_ev l p _ h
  | .rep k mn none, p, h => by
    have ih : ∀ p, EvL b (k.code p) := fun p => code_ev k p h
    simp only [Re.code]
    exact (repC_ev ih mn p).app (.cons set_nil ((ih _).app (.cons set_nil .nil)))
  | .rep k mn (some m), p, h => by
    have ih : ∀ p, EvL b (k.code p) := fun p => code_ev k p h
    simp only [Re.code]
    exact (repC_ev ih mn p).app (optC_ev ih _ _)
  | .bgn, p, _ => by simp only [Re.code]; exact .cons set_nil .nil
  | .fin, p, _ => by simp only [Re.code]; exact .cons set_nil .nil
theorem codes_ev : ∀ (l : List Re) (p : Nat), evss b l → EvL b (codes l p)
  | [], p, _ => .nil
  | t :: ts, p, h => by simp only [codes]; exact (code_ev t p h.1).app (codes_ev ts _ h.2)
theorem altC_ev : ∀ (l : List Re) (p e : Nat), evss b l → EvL b (altC l p e)
  | [], p, e, _ => .nil
  | [t], p, e, h => by simp only [altC]; exact code_ev t p h.1
  | t :: u :: ts, p, e, h => by
    have ih := altC_ev (u :: ts)
    simp only [altC]
    exact .cons set_nil ((code_ev t _ h.1).app (.cons set_nil (ih _ _ h.2)))
end
/-- what a program must be, so that matching goes through it -/
structure GoodR (ins : List InstP) : Prop where
  tgt : TgtR ins
  pos : 0 < ins.length
  small : ins.length ≤ 100000
  ev : EvL 2000 ins
theorem read_lim {s : List Nat} {t : Re} (h : readR s = .ok t) : ∃ ts d, altsR (4 * s.length + 4) s = some (ts, [], d) ∧ t = manyR .alt ts ∧ t.size ≤ 1000 := by
  unfold readR at h
  split at h
  · cases h
  · rename_i ts rest d e
    split at h
    · cases h
    · rename_i hr
      split at h
      · cases h
      · split at h
        · cases h
        · rename_i hz
          cases h
          have : rest = [] := Classical.byContradiction hr
          subst this
          exact ⟨ts, d, e, rfl, by omega⟩
/-- what a pattern that was read is -/
structure GoodT (t : Re) : Prop where
  ok : t.ok
  lim : t.lim
  cnt : t.cnt ≤ 10000
  len : t.len ≤ 80000
  prog : GoodR (progR t)
theorem read_good {s : List Nat} (hs : s.length ≤ 200) {t : Re} (h : readR s = .ok t) : GoodT t := by
  obtain ⟨ts, d, h1, rfl, hz⟩ := read_lim h
  obtain ⟨h3, h4, h5⟩ := (parse_cnt _).1 h1
  have ok : (manyR Re.alt ts).ok := many_ok h4 (fun h hne => ⟨hne, h⟩) h5
  have lim : (manyR Re.alt ts).lim := many_lim (mk := .alt) (fun _ => rfl) ((parse_lim _).1 h1)
  have ev : (manyR Re.alt ts).evs 2000 := many_evs (mk := .alt) (fun _ => rfl) ((parse_evs _).1 (by omega) h1)
  have hl := len_size _ ok
  have hpl : (progR (manyR Re.alt ts)).length = (manyR Re.alt ts).len + 1 := by unfold progR; rw [List.length_append, code_len]; rfl
  refine ⟨ok, lim, ?_, by omega, prog_tgt _, by omega, by omega, ?_⟩
  · have := many_cnt Re.alt (fun _ => rfl) ts
    omega
  · unfold progR
    exact (code_ev _ 0 ev).app (.cons set_nil .nil)
end Garner

