import Derived.Test.YtmcacicopgckmaaGreatDoorLn07
import Derived.Test.YtmcacicopgckmaaGreatDoorLn06
/-! Patterns, plain: a tree's size, node by node, at most 2000 -/
namespace Garner
open Go
def nodeTimes (n : NodeP) : Nat := if n.kind = 5 then (if n.mx < 0 then n.mn + 1 else max n.mx.toNat 1) else 1
def kidsSize (c : Nat) (S : List Nat) (ks : List Nat) : Nat := ks.foldl (fun a k => min 2000 (a + c * S.getD k 0)) 1
def nodeSize (S : List Nat) (n : NodeP) : Nat := kidsSize (nodeTimes n) S n.kids
def sizesGo (S : List Nat) (l : List NodeP) : List Nat := l.foldl (fun S n => S ++ [nodeSize S n]) S
theorem sizesGo_app (S : List Nat) (a b : List NodeP) : sizesGo S (a ++ b) = sizesGo (sizesGo S a) b := List.foldl_append ..
theorem sizesGo_one (S : List Nat) (n : NodeP) : sizesGo S [n] = S ++ [nodeSize S n] := rfl
theorem sizesGo_len : ∀ (l : List NodeP) (S : List Nat), (sizesGo S l).length = S.length + l.length
  | [], S => rfl
  | n :: l, S => by
    show (sizesGo (S ++ [nodeSize S n]) l).length = _
    rw [sizesGo_len l]; simp; omega
theorem kids_roots {c : Nat} (hc : c = 1) : ∀ (ts : List Re) (b : Nat) (S : List Nat) (a : Nat), (∀ (i r : Nat) (t : Re), (roots b ts)[i]? = some r → ts[i]? = some t → S.getD r 0 = min 2000 t.size) → a ≤ 2000 →
    (roots b ts).foldl (fun a k => min 2000 (a + c * S.getD k 0)) a = min 2000 (a + sizes ts)
  | [], b, S, a, _, ha => by simp [roots, sizes]; omega
  | t :: ts, b, S, a, h, ha => by
    have h0 := h 0 _ t rfl rfl
    have hs := size_pos t
    show (roots (b + t.cnt) ts).foldl _ (min 2000 (a + c * S.getD (b + t.cnt - 1) 0)) = _
    rw [kids_roots hc ts (b + t.cnt) S _ (fun i r u h1 h2 => h (i + 1) r u h1 h2) (by omega), h0, hc]
    simp only [sizes]
    omega
def mxM : Option Nat → Int
  | none => -1
  | some m => m
theorem rep_flatM (t : Re) (mn : Nat) (mx : Option Nat) (b : Nat) : (Re.rep t mn mx).flat b = t.flat b ++ [⟨5, [b + t.cnt - 1], mn, mxM mx, []⟩] := by
  cases mx <;> simp [Re.flat, mxM]
mutual
theorem flat_sizes : ∀ (t : Re) (S : List Nat), ∃ X, sizesGo S (t.flat S.length) = S ++ X ∧ X.length = t.cnt ∧ X.getLast? = some (min 2000 t.size)
  | .emp, S => ⟨[1], rfl, rfl, rfl⟩
  | .set l, S => ⟨[1], rfl, rfl, rfl⟩
  | .bgn, S => ⟨[1], rfl, rfl, rfl⟩
  | .fin, S => ⟨[1], rfl, rfl, rfl⟩
  | .seq l, S => by
    obtain ⟨X, h1, h2, h3⟩ := flats_sizes l S
    refine ⟨X ++ [min 2000 (sizes l + 1)], ?_, by simp [h2, Re.cnt], by simp [Re.size]⟩
    rw [Re.flat, sizesGo_app, h1, sizesGo_one, List.append_assoc]
    congr 3
    have := kids_roots (c := nodeTimes ⟨3, roots S.length l, 0, 0, []⟩) rfl l S.length (S ++ X) 1 h3 (by omega)
    show kidsSize _ _ _ = _
    unfold kidsSize
    rw [this, Nat.add_comm]
  | .alt l, S => by
    obtain ⟨X, h1, h2, h3⟩ := flats_sizes l S
    refine ⟨X ++ [min 2000 (sizes l + 1)], ?_, by simp [h2, Re.cnt], by simp [Re.size]⟩
    rw [Re.flat, sizesGo_app, h1, sizesGo_one, List.append_assoc]
    congr 3
    have := kids_roots (c := nodeTimes ⟨4, roots S.length l, 0, 0, []⟩) rfl l S.length (S ++ X) 1 h3 (by omega)
    show kidsSize _ _ _ = _
    unfold kidsSize
    rw [this, Nat.add_comm]
  | .rep k mn mx, S => by
    obtain ⟨X, h1, h2, h3⟩ := flat_sizes k S
    have hX : (S ++ X).getD (S.length + k.cnt - 1) 0 = min 2000 k.size := by
      have hp := cnt_pos k
      rw [List.getD_eq_getElem?_getD, List.getElem?_append_right (by omega), show S.length + k.cnt - 1 - S.length = X.length - 1 by omega, ← List.getLast?_eq_getElem?, h3]
      rfl
    refine ⟨X ++ [min 2000 (timesR mn mx * k.size + 1)], ?_, by simp [h2, Re.cnt], by simp [Re.size]⟩
    rw [rep_flatM, sizesGo_app, h1, sizesGo_one, List.append_assoc]
    congr 3
    have ht : nodeTimes ⟨5, [S.length + k.cnt - 1], mn, mxM mx, []⟩ = timesR mn mx := by
      cases mx with
      | none => rfl
      | some m =>
        unfold nodeTimes timesR mxM
        simp
        omega
    show kidsSize (nodeTimes _) _ [_] = _
    rw [ht]
    show min 2000 (1 + timesR mn mx * (S ++ X).getD _ 0) = _
    rw [hX]
    have := times_pos mn mx
    rcases Nat.le_total k.size 2000 with hk | hk
    · rw [Nat.min_eq_right hk, Nat.add_comm]
    · rw [Nat.min_eq_left hk]
      have h3 : 2000 ≤ timesR mn mx * 2000 := Nat.le_mul_of_pos_left _ this
      have h4 : 2000 ≤ timesR mn mx * k.size := Nat.le_trans hk (Nat.le_mul_of_pos_left _ this)
      omega
theorem flats_sizes : ∀ (ts : List Re) (S : List Nat), ∃ X, sizesGo S (flats S.length ts) = S ++ X ∧ X.length = cnts ts ∧ ∀ (i r : Nat) (t : Re), (roots S.length ts)[i]? = some r → ts[i]? = some t → (S ++ X).getD r 0 = min 2000 t.size
  | [], S => ⟨[], by simp [flats, sizesGo], rfl, fun i r t h => by simp [roots] at h⟩
  | t :: ts, S => by
    obtain ⟨X, h1, h2, h3⟩ := flat_sizes t S
    obtain ⟨Y, h4, h5, h6⟩ := flats_sizes ts (S ++ X)
    rw [List.length_append, h2] at h4 h6
    refine ⟨X ++ Y, ?_, by simp [h2, h5, cnts], fun i r u hr hu => ?_⟩
    · rw [flats, sizesGo_app, h1, h4, List.append_assoc]
    · cases i with
      | zero =>
        simp [roots] at hr
        simp at hu
        subst hu hr
        have hp := cnt_pos t
        rw [List.getD_eq_getElem?_getD, List.getElem?_append_right (by omega), List.getElem?_append_left (by omega), show S.length + t.cnt - 1 - S.length = X.length - 1 by omega, ← List.getLast?_eq_getElem?, h3]
        rfl
      | succ i =>
        rw [← List.append_assoc]
        exact h6 i r u (by simpa [roots] using hr) (by simpa using hu)
end
theorem size_root (t : Re) : (sizesGo [] (t.flat 0)).getLast? = some (min 2000 t.size) := by
  obtain ⟨X, h1, h2, h3⟩ := flat_sizes t []
  rw [show ([] : List Nat).length = 0 from rfl] at h1
  rw [h1, List.nil_append, h3]
/-- kids come ahead of their node -/
def WfN (ns : List NodeP) : Prop := ∀ (i : Nat) (n : NodeP), ns[i]? = some n → ∀ k ∈ n.kids, k < i
theorem roots_lt : ∀ (ts : List Re) (b r : Nat), r ∈ roots b ts → b ≤ r ∧ r < b + cnts ts
  | [], b, r, h => by simp [roots] at h
  | t :: ts, b, r, h => by
    have hp := cnt_pos t
    simp only [roots, List.mem_cons] at h
    simp only [cnts]
    rcases h with h | h
    · omega
    · have := roots_lt ts _ r h
      omega
theorem wf_app {b : Nat} {l m : List NodeP} (h1 : ∀ (i : Nat) (n : NodeP), l[i]? = some n → ∀ k ∈ n.kids, k < b + i) (h2 : ∀ (i : Nat) (n : NodeP), m[i]? = some n → ∀ k ∈ n.kids, k < b + l.length + i) : ∀ (i : Nat) (n : NodeP), (l ++ m)[i]? = some n → ∀ k ∈ n.kids, k < b + i := fun i n hn k hk => by
  rcases Nat.lt_or_ge i l.length with h | h
  · rw [List.getElem?_append_left h] at hn
    exact h1 i n hn k hk
  · rw [List.getElem?_append_right h] at hn
    have := h2 _ n hn k hk
    omega
theorem wf_one {b : Nat} {x : NodeP} (h : ∀ k ∈ x.kids, k < b) : ∀ (i : Nat) (n : NodeP), [x][i]? = some n → ∀ k ∈ n.kids, k < b + i := fun i n hn k hk => by
  cases i with
  | zero => simp at hn; subst hn; have := h k hk; omega
  | succ i => simp at hn
mutual
theorem wf_flat : ∀ (t : Re) (b : Nat) (i : Nat) (n : NodeP), (t.flat b)[i]? = some n → ∀ k ∈ n.kids, k < b + i
  | .emp, b => wf_one (by simp)
  | .set l, b => wf_one (by simp)
  | .bgn, b => wf_one (by simp)
  | .fin, b => wf_one (by simp)
  | .seq l, b => by
    rw [Re.flat]
    exact wf_app (wf_flats l b) (wf_one fun k hk => by rw [flats_len]; exact (roots_lt l b k hk).2)
  | .alt l, b => by
    rw [Re.flat]
    exact wf_app (wf_flats l b) (wf_one fun k hk => by rw [flats_len]; exact (roots_lt l b k hk).2)
  | .rep t mn mx, b => by
    rw [rep_flatM]
    exact wf_app (wf_flat t b) (wf_one fun k hk => by
      have := cnt_pos t
      rw [flat_len]
      simp at hk
      omega)
theorem wf_flats : ∀ (ts : List Re) (b : Nat) (i : Nat) (n : NodeP), (flats b ts)[i]? = some n → ∀ k ∈ n.kids, k < b + i
  | [], b => by simp [flats]
  | t :: ts, b => by
    rw [flats]
    exact wf_app (wf_flat t b) fun i n hn k hk => by
      have := wf_flats ts (b + t.cnt) i n hn k hk
      rw [flat_len]
      exact this
end
end Garner

/-! autom, plain: the search that closure goes -/
namespace Garner
open Go
/-- all that an instruction goes to is there -/
def TgtR (ins : List InstP) : Prop := ∀ (pc : Nat) (c : InstP), ins[pc]? = some c → (c.kind ≠ 4 → c.x < ins.length) ∧ (c.kind = 1 → c.y < ins.length)
/-- targets of laid instructions -/
def TgtL (e : Nat) (l : List InstP) : Prop := ∀ c ∈ l, c.x ≤ e ∧ c.y ≤ e
theorem TgtL.app {e : Nat} {l m : List InstP} (h : TgtL e l) (k : TgtL e m) : TgtL e (l ++ m) := fun c hc => (List.mem_append.1 hc).elim (h c) (k c)
theorem TgtL.mono {e f : Nat} {l : List InstP} (h : TgtL e l) (hf : e ≤ f) : TgtL f l := fun c hc => ⟨Nat.le_trans (h c hc).1 hf, Nat.le_trans (h c hc).2 hf⟩
theorem TgtL.nil {e : Nat} : TgtL e [] := fun c hc => by cases hc
theorem TgtL.cons {e : Nat} {a : InstP} {l : List InstP} (h1 : a.x ≤ e) (h2 : a.y ≤ e) (h : TgtL e l) : TgtL e (a :: l) := fun c hc => by
  rcases List.mem_cons.1 hc with rfl | hc
  · exact ⟨h1, h2⟩
  · exact h c hc
theorem repC_tgt {c : Nat → List InstP} {len : Nat} (h : ∀ p, TgtL (p + len) (c p)) : ∀ n p, TgtL (p + n * len) (repC c len n p)
  | 0, p => .nil
  | n + 1, p => by
    rw [repC]
    have e : (n + 1) * len = len + n * len := by rw [Nat.add_mul]; omega
    refine ((h p).mono (by omega)).app ((repC_tgt h n (p + len)).mono (by omega))
theorem optC_tgt {c : Nat → List InstP} {len e : Nat} (h : ∀ p, TgtL (p + len) (c p)) : ∀ n p, p + n * (len + 1) ≤ e → TgtL e (optC c len e n p)
  | 0, p, _ => .nil
  | n + 1, p, he => by
    have e1 : (n + 1) * (len + 1) = (len + 1) + n * (len + 1) := by rw [Nat.add_mul]; omega
    rw [optC]
    refine .cons (by show p + 1 ≤ e; omega) (Nat.le_refl _) (((h (p + 1)).mono (by omega)).app (optC_tgt h n _ (by omega)))
mutual
theorem code_tgt : ∀ (t : Re) (p : Nat), TgtL (p + t.len) (t.code p)
  | .emp, p => .nil
  | .set l, p => by simp only [Re.code, Re.len]; exact .cons (Nat.le_refl _) (Nat.zero_le _) .nil
  | .seq l, p => by simp only [Re.code, Re.len]; exact codes_tgt l p
  | .alt l, p => by simp only [Re.code, Re.len]; exact altC_tgt l p _ (Nat.le_refl _)
  | .rep k mn none, p => by
    have ih := code_tgt k
    simp only [Re.code, Re.len]
    refine ((repC_tgt ih mn p).mono (by omega)).app (.cons (by show p + mn * k.len + 1 ≤ _; omega) (by show p + mn * k.len + k.len + 2 ≤ _; omega) ((TgtL.mono (ih _) (by omega)).app (.cons (by show p + mn * k.len ≤ _; omega) (by show p + mn * k.len ≤ _; omega) .nil)))
  | .rep k mn (some m), p => by
    have ih := code_tgt k
    simp only [Re.code, Re.len]
    rw [← Nat.add_assoc]
    exact ((repC_tgt ih mn p).mono (by omega)).app (optC_tgt ih (m - mn) (p + mn * k.len) (Nat.le_refl _))
  | .bgn, p => by simp only [Re.code, Re.len]; exact .cons (Nat.le_refl _) (Nat.zero_le _) .nil
  | .fin, p => by simp only [Re.code, Re.len]; exact .cons (Nat.le_refl _) (Nat.zero_le _) .nil
theorem codes_tgt : ∀ (l : List Re) (p : Nat), TgtL (p + lens l) (codes l p)
  | [], p => .nil
  | t :: ts, p => by
    simp only [codes, lens]
    refine ((code_tgt t p).mono (by omega)).app ((codes_tgt ts _).mono (by omega))
theorem altC_tgt : ∀ (l : List Re) (p e : Nat), p + altLen l ≤ e → TgtL e (altC l p e)
  | [], p, e, _ => .nil
  | [t], p, e, he => by
    simp only [altC]
    simp only [altLen] at he
    exact (code_tgt t p).mono he
  | t :: u :: ts, p, e, he => by
    have ih := altC_tgt (u :: ts)
    simp only [altC]
    rw [altLen] at he
    refine .cons (by simp; omega) (by simp; omega) (((code_tgt t _).mono (by omega)).app (.cons (Nat.le_refl _) (Nat.le_refl _) (ih _ _ (by omega))))
end
theorem prog_tgt (t : Re) : TgtR (progR t) := by
  intro pc c hc
  have hl : (progR t).length = t.len + 1 := by unfold progR; rw [List.length_append, code_len]; rfl
  unfold progR at hc
  rw [hl]
  have hm := List.mem_of_getElem? hc
  rcases List.mem_append.1 hm with h | h
  · have := code_tgt t 0 c h
    exact ⟨fun _ => by omega, fun _ => by omega⟩
  · rw [List.mem_singleton.1 h]
    exact ⟨fun e => absurd rfl e, fun e => by cases e⟩

section
variable (ins : List InstP) (first last : Bool) (fr : List Nat)
/-- where the search stands: what it has seen, what it must still look at, what it keeps -/
structure DfsR (S : List Bool) (work out : List Nat) : Prop where
  len : S.length = ins.length
  wk : ∀ a ∈ work, a < ins.length ∧ ∃ f ∈ fr, ReachR ins first last f a
  seen : ∀ a, S[a]? = some true → (∃ f ∈ fr, ReachR ins first last f a) ∧ ∀ q, EdgeR ins first last a q → S[q]? = some true ∨ q ∈ work
  all : ∀ f ∈ fr, S[f]? = some true ∨ f ∈ work
  mem : ∀ a, a ∈ out ↔ S[a]? = some true ∧ KeptR ins last a
  nd : out.Nodup
  big : work.length + 2 * S.count false ≤ fr.length + 2 * ins.length
  low : out.length + S.count false ≤ ins.length
end
section
variable {ins : List InstP} {first last : Bool} {fr : List Nat}
theorem DfsR.start (h : ∀ f ∈ fr, f < ins.length) : DfsR ins first last fr (List.replicate ins.length false) fr [] where
  len := List.length_replicate
  wk a ha := ⟨h a ha, a, ha, .here a⟩
  seen a ha := by
    obtain ⟨hl, e⟩ := List.getElem?_eq_some_iff.1 ha
    rw [List.getElem_replicate] at e
    cases e
  all f hf := .inr hf
  mem a := by
    constructor
    · intro h; cases h
    · rintro ⟨ha, -⟩
      obtain ⟨hl, e⟩ := List.getElem?_eq_some_iff.1 ha
      rw [List.getElem_replicate] at e
      cases e
  nd := List.nodup_nil
  big := by rw [List.count_replicate_self]; exact Nat.le_refl _
  low := by rw [List.count_replicate_self]; simp
theorem DfsR.reach {S : List Bool} {out : List Nat} (h : DfsR ins first last fr S [] out) {a b : Nat} (hr : ReachR ins first last a b) : S[a]? = some true → S[b]? = some true := by
  induction hr with
  | here a => exact id
  | step e _ ih => exact fun ha => ih (((h.seen _ ha).2 _ e).elim id fun e => by cases e)
theorem DfsR.mem_ {S : List Bool} {out : List Nat} (h : DfsR ins first last fr S [] out) (a : Nat) : a ∈ out ↔ InClos ins first last fr a := by
  rw [h.mem a]
  unfold InClos
  constructor
  · rintro ⟨h1, h2⟩
    exact ⟨(h.seen a h1).1, h2⟩
  · rintro ⟨⟨f, hf, hr⟩, h2⟩
    exact ⟨h.reach hr ((h.all f hf).elim id fun e => by cases e), h2⟩
/-- in order, and each once -/
theorem asc_of : ∀ {l : List Nat}, l.Nodup → l.Pairwise (· ≤ ·) → AscN l
  | [], _, _ => trivial
  | [_], _, _ => trivial
  | a :: b :: r, hn, hp => by
    have h1 := (List.pairwise_cons.1 hp).1 b (by simp)
    have h2 : a ≠ b := fun e => (List.nodup_cons.1 hn).1 (by simp [e])
    exact ⟨by omega, asc_of (List.nodup_cons.1 hn).2 (List.pairwise_cons.1 hp).2⟩
theorem DfsR.done {S : List Bool} {out l : List Nat} (h : DfsR ins first last fr S [] out) (hp : l.Perm out) (hs : l.Pairwise (· ≤ ·)) : l = closP ins first last fr :=
  asc_eq (asc_of (hp.nodup_iff.2 h.nd) hs) asc_clos fun x => by rw [hp.mem_iff, h.mem_ x, mem_clos]
end
end Garner

