import Derived.Test.YtecejnilajbdpaaGreatDoorTq04
/-! Patterns, plain: what they mean; their instructions; these accept what they mean -/
namespace Garner
open Go

def hasR : List Nat → Nat → Bool
  | a :: b :: r, x => (decide (a ≤ x) && decide (x ≤ b)) || hasR r x
  | _, _ => false
def iterR (R : Nat → Nat → Prop) : Nat → Nat → Nat → Prop
  | 0, i, j => i = j
  | n + 1, i, j => ∃ k, R i k ∧ iterR R n k j
mutual
/-- a tree matches from i to j -/
def Re.M (s : List Nat) : Re → Nat → Nat → Prop
  | .emp => fun i j => i = j
  | .set l => fun i j => j = i + 1 ∧ ∃ r, s[i]? = some r ∧ hasR l r = true
  | .seq l => Ms s l
  | .alt l => Ma s l
  | .rep k mn mx => fun i j => ∃ n, mn ≤ n ∧ (∀ m, mx = some m → n ≤ m) ∧ iterR (k.M s) n i j
  | .bgn => fun i j => i = j ∧ i = 0
  | .fin => fun i j => i = j ∧ i = s.length
def Ms (s : List Nat) : List Re → Nat → Nat → Prop
  | [] => fun i j => i = j
  | t :: ts => fun i j => ∃ k, t.M s i k ∧ Ms s ts k j
def Ma (s : List Nat) : List Re → Nat → Nat → Prop
  | [] => fun _ _ => False
  | t :: ts => fun i j => t.M s i j ∨ Ma s ts i j
end

mutual
/-- as patterns are read: alternatives of at least one, repetitions whose greatest number is no less than the least -/
def Re.ok : Re → Prop
  | .emp => True
  | .set _ => True
  | .seq l => oks l
  | .alt l => l ≠ [] ∧ oks l
  | .rep k mn mx => k.ok ∧ ∀ m, mx = some m → mn ≤ m
  | .bgn => True
  | .fin => True
def oks : List Re → Prop
  | [] => True
  | t :: ts => t.ok ∧ oks ts
end
/-- an instruction: 0 a set, 1 a split, 2 the beginning, 3 the end, 4 the match -/
structure InstP where
  kind : Nat
  x : Nat
  y : Nat
  runes : List Nat
mutual
def Re.len : Re → Nat
  | .emp => 0
  | .set _ => 1
  | .seq l => lens l
  | .alt l => altLen l
  | .rep k mn none => mn * k.len + (k.len + 2)
  | .rep k mn (some m) => mn * k.len + (m - mn) * (k.len + 1)
  | .bgn => 1
  | .fin => 1
def lens : List Re → Nat
  | [] => 0
  | t :: ts => t.len + lens ts
def altLen : List Re → Nat
  | [] => 0
  | t :: ts => match ts with
    | [] => t.len
    | _ :: _ => t.len + 2 + altLen ts
end
/-- n pieces laid one behind the other -/
def repC (c : Nat → List InstP) (len : Nat) : Nat → Nat → List InstP
  | 0, _ => []
  | n + 1, p => c p ++ repC c len n (p + len)
/-- n pieces, each behind a split to the end -/
def optC (c : Nat → List InstP) (len e : Nat) : Nat → Nat → List InstP
  | 0, _ => []
  | n + 1, p => ⟨1, p + 1, e, []⟩ :: (c (p + 1) ++ optC c len e n (p + (len + 1)))
mutual
/-- a tree's instructions, laid from p on -/
def Re.code : Re → Nat → List InstP
  | .emp => fun _ => []
  | .set l => fun p => [⟨0, p + 1, 0, l⟩]
  | .seq l => fun p => codes l p
  | .alt l => fun p => altC l p (p + altLen l)
  | .rep k mn none => fun p => repC k.code k.len mn p ++ (⟨1, p + mn * k.len + 1, p + mn * k.len + (k.len + 2), []⟩ :: (k.code (p + mn * k.len + 1) ++ [⟨1, p + mn * k.len, p + mn * k.len, []⟩]))
  | .rep k mn (some m) => fun p => repC k.code k.len mn p ++ optC k.code k.len (p + mn * k.len + (m - mn) * (k.len + 1)) (m - mn) (p + mn * k.len)
  | .bgn => fun p => [⟨2, p + 1, 0, []⟩]
  | .fin => fun p => [⟨3, p + 1, 0, []⟩]
def codes : List Re → Nat → List InstP
  | [] => fun _ => []
  | t :: ts => fun p => t.code p ++ codes ts (p + t.len)
def altC : List Re → Nat → Nat → List InstP
  | [] => fun _ _ => []
  | t :: ts => fun p e => match ts with
    | [] => t.code p
    | _ :: _ => ⟨1, p + 1, p + (t.len + 2), []⟩ :: (t.code (p + 1) ++ (⟨1, e, e, []⟩ :: altC ts (p + (t.len + 2)) e))
end
theorem repC_len {c : Nat → List InstP} {len : Nat} (h : ∀ p, (c p).length = len) : ∀ n p, (repC c len n p).length = n * len
  | 0, _ => by simp [repC]
  | n + 1, p => by rw [repC, List.length_append, h, repC_len h n, Nat.add_mul]; omega
theorem optC_len {c : Nat → List InstP} {len e : Nat} (h : ∀ p, (c p).length = len) : ∀ n p, (optC c len e n p).length = n * (len + 1)
  | 0, _ => by simp [optC]
  | n + 1, p => by rw [optC, List.length_cons, List.length_append, h, optC_len h n, Nat.add_mul]; omega
mutual
theorem code_len : ∀ (t : Re) (p : Nat), (t.code p).length = t.len
  | .emp, _ => rfl
  | .set _, _ => rfl
  | .seq l, p => codes_len l p
  | .alt l, p => altC_len l p _
  | .rep k mn none, p => by
    have h := code_len k
    simp only [Re.code, Re.len, List.length_append, List.length_cons, repC_len h, h, List.length_nil] <;> omega
  | .rep k mn (some m), p => by
    have h := code_len k
    simp only [Re.code, Re.len, List.length_append, repC_len h, optC_len h]
  | .bgn, _ => rfl
  | .fin, _ => rfl
theorem codes_len : ∀ (l : List Re) (p : Nat), (codes l p).length = lens l
  | [], _ => rfl
  | t :: ts, p => by simp only [codes, lens, List.length_append, code_len t, codes_len ts]
theorem altC_len : ∀ (l : List Re) (p e : Nat), (altC l p e).length = altLen l
  | [], _, _ => rfl
  | [t], p, _ => by simp only [altC, altLen, code_len t]
  | t :: u :: ts, p, e => by
    have h := altC_len (u :: ts) (p + (t.len + 2)) e
    rw [altC, altLen]
    simp only [List.length_cons, List.length_append, code_len t, h]
    omega
end

section
variable (ins : List InstP) (s : List Nat) (part : Bool)
/-- the match is come to from an instruction and a place, in so many steps -/
def accN : Nat → Nat → Nat → Prop
  | 0, _, _ => False
  | n + 1, pc, i => ∃ c, ins[pc]? = some c ∧
      ((c.kind = 0 ∧ (∃ r, s[i]? = some r ∧ hasR c.runes r = true) ∧ accN n c.x (i + 1)) ∨ (c.kind = 1 ∧ (accN n c.x i ∨ accN n c.y i)) ∨
       (c.kind = 2 ∧ i = 0 ∧ accN n c.x i) ∨ (c.kind = 3 ∧ i = s.length ∧ accN n c.x i) ∨ (c.kind = 4 ∧ (part = true ∨ i = s.length)))
def Acc (pc i : Nat) : Prop := ∃ n, accN ins s part n pc i
end
section
variable {ins : List InstP} {s : List Nat} {part : Bool}
theorem Acc.set_ {pc i r : Nat} {c : InstP} (hc : ins[pc]? = some c) (hk : c.kind = 0) (hr : s[i]? = some r) (hh : hasR c.runes r = true) (h : Acc ins s part c.x (i + 1)) : Acc ins s part pc i := by
  obtain ⟨n, h⟩ := h
  exact ⟨n + 1, c, hc, .inl ⟨hk, ⟨r, hr, hh⟩, h⟩⟩
theorem Acc.left {pc i : Nat} {c : InstP} (hc : ins[pc]? = some c) (hk : c.kind = 1) (h : Acc ins s part c.x i) : Acc ins s part pc i := by
  obtain ⟨n, h⟩ := h
  exact ⟨n + 1, c, hc, .inr (.inl ⟨hk, .inl h⟩)⟩
theorem Acc.right {pc i : Nat} {c : InstP} (hc : ins[pc]? = some c) (hk : c.kind = 1) (h : Acc ins s part c.y i) : Acc ins s part pc i := by
  obtain ⟨n, h⟩ := h
  exact ⟨n + 1, c, hc, .inr (.inl ⟨hk, .inr h⟩)⟩
/-- a piece of the instructions -/
def Lies (ins : List InstP) (p : Nat) (l : List InstP) : Prop := ∀ k c, l[k]? = some c → ins[p + k]? = some c
theorem Lies.left {p : Nat} {l m : List InstP} (h : Lies ins p (l ++ m)) : Lies ins p l := fun k c hk => h k c (by
  have := (List.getElem?_eq_some_iff.1 hk).1
  rw [List.getElem?_append_left this]; exact hk)
theorem Lies.right {p n : Nat} {l m : List InstP} (h : Lies ins p (l ++ m)) (hn : l.length = n) : Lies ins (p + n) m := fun k c hk => by
  have := h (n + k) c (by rw [List.getElem?_append_right (by omega), hn, Nat.add_sub_cancel_left]; exact hk)
  rwa [← Nat.add_assoc] at this
theorem Lies.head {p : Nat} {c : InstP} {m : List InstP} (h : Lies ins p (c :: m)) : ins[p]? = some c := h 0 c rfl
theorem Lies.tail {p : Nat} {c : InstP} {m : List InstP} (h : Lies ins p (c :: m)) : Lies ins (p + 1) m := fun k d hk => by
  have := h (k + 1) d (by simpa using hk)
  rwa [show p + (k + 1) = p + 1 + k by omega] at this

/-- what a piece does: the match is come to from its beginning just if from its end, behind what it means -/
def Does (ins : List InstP) (s : List Nat) (part : Bool) (R : Nat → Nat → Prop) (p q : Nat) : Prop :=
  (∀ i j, R i j → Acc ins s part q j → Acc ins s part p i) ∧ (∀ n i, accN ins s part n p i → ∃ j m, R i j ∧ m ≤ n ∧ accN ins s part m q j)
theorem Does.seq {R T : Nat → Nat → Prop} {p q r : Nat} (h : Does ins s part R p q) (k : Does ins s part T q r) : Does ins s part (fun i j => ∃ m, R i m ∧ T m j) p r := by
  refine ⟨fun i j ⟨m, h1, h2⟩ ha => h.1 i m h1 (k.1 m j h2 ha), fun n i ha => ?_⟩
  obtain ⟨m, n1, h1, h2, h3⟩ := h.2 n i ha
  obtain ⟨j, n2, h4, h5, h6⟩ := k.2 n1 m h3
  exact ⟨j, n2, ⟨m, h1, h4⟩, by omega, h6⟩
theorem Does.here (p : Nat) : Does ins s part (fun i j => i = j) p p := ⟨fun i j e h => by rw [e]; exact h, fun n i h => ⟨i, n, rfl, Nat.le_refl _, h⟩⟩
theorem Does.congr {R T : Nat → Nat → Prop} {p q : Nat} (h : Does ins s part R p q) (e : ∀ i j, R i j ↔ T i j) : Does ins s part T p q :=
  ⟨fun i j ht => h.1 i j ((e i j).2 ht), fun n i ha => by
    obtain ⟨j, m, h1, h2⟩ := h.2 n i ha
    exact ⟨j, m, (e i j).1 h1, h2⟩⟩
theorem Does.rep {R : Nat → Nat → Prop} {c : Nat → List InstP} {len : Nat} (hc : ∀ p, (c p).length = len) (h : ∀ p, Lies ins p (c p) → Does ins s part R p (p + len)) :
    ∀ (n p : Nat), Lies ins p (repC c len n p) → Does ins s part (iterR R n) p (p + n * len)
  | 0, p, _ => by
    rw [Nat.zero_mul]; exact Does.here p
  | n + 1, p, hl => by
    have h1 := h p hl.left
    have h2 := Does.rep hc h n (p + len) (hl.right (hc p))
    have := h1.seq h2
    rw [show p + (n + 1) * len = p + len + n * len by rw [Nat.add_mul]; omega]
    exact this
theorem Does.opt {R : Nat → Nat → Prop} {c : Nat → List InstP} {len e : Nat} (hc : ∀ p, (c p).length = len) (h : ∀ p, Lies ins p (c p) → Does ins s part R p (p + len)) :
    ∀ (n p : Nat), e = p + n * (len + 1) → Lies ins p (optC c len e n p) → Does ins s part (fun i j => ∃ m, m ≤ n ∧ iterR R m i j) p e
  | 0, p, he, _ => by
    have : e = p := by omega
    subst this
    exact (Does.here _).congr fun i j => ⟨fun h => ⟨0, Nat.le_refl _, h⟩, fun ⟨m, h1, h2⟩ => by
      obtain rfl : m = 0 := by omega
      exact h2⟩
  | n + 1, p, he, hl => by
    have h0 := hl.head
    have ht := hl.tail
    have h1 := h (p + 1) ht.left
    have h2 := Does.opt (e := e) hc h n (p + (len + 1)) (by rw [he, Nat.add_mul]; omega) (by
      have := ht.right (hc (p + 1))
      rwa [show p + 1 + len = p + (len + 1) by omega] at this)
    rw [show p + 1 + len = p + (len + 1) by omega] at h1
    have hs := h1.seq h2
    refine ⟨fun i j ⟨m, hm, hi⟩ ha => ?_, fun k i ha => ?_⟩
    · cases m with
      | zero =>
        have e : i = j := hi
        subst e
        exact Acc.right h0 rfl ha
      | succ m =>
        obtain ⟨k, hk1, hk2⟩ := hi
        exact Acc.left h0 rfl (hs.1 i j ⟨k, hk1, m, by omega, hk2⟩ ha)
    · cases k with
      | zero => exact ha.elim
      | succ k =>
        obtain ⟨c', hc', ha⟩ := ha
        rw [h0] at hc'
        cases hc'
        rcases ha with ⟨h1, _⟩ | ⟨_, ha⟩ | ⟨h1, _⟩ | ⟨h1, _⟩ | ⟨h1, _⟩
        · cases h1
        · rcases ha with ha | ha
          · obtain ⟨j, m, ⟨x, hx1, y, hy1, hy2⟩, hm, hj⟩ := hs.2 k i ha
            exact ⟨j, m, ⟨y + 1, by omega, x, hx1, hy2⟩, by omega, hj⟩
          · exact ⟨i, k, ⟨0, by omega, rfl⟩, by omega, ha⟩
        · cases h1
        · cases h1
        · cases h1
/-- a loop: a split, a piece, a split back -/
theorem Does.star {R : Nat → Nat → Prop} {p q : Nat} (h0 : ins[p]? = some ⟨1, p + 1, q + 1, []⟩) (h1 : Does ins s part R (p + 1) q) (h2 : ins[q]? = some ⟨1, p, p, []⟩) :
    Does ins s part (fun i j => ∃ m, iterR R m i j) p (q + 1) := by
  have fwd : ∀ m i j, iterR R m i j → Acc ins s part (q + 1) j → Acc ins s part p i := by
    intro m
    induction m with
    | zero =>
      intro i j hm ha
      have e : i = j := hm
      subst e
      exact Acc.right h0 rfl ha
    | succ m ih =>
      intro i j hm ha
      obtain ⟨k, hk1, hk2⟩ := hm
      exact Acc.left h0 rfl (h1.1 i k hk1 (Acc.left h2 rfl (ih k j hk2 ha)))
  refine ⟨fun i j ⟨m, hm⟩ ha => fwd m i j hm ha, ?_⟩
  · intro n
    induction n using Nat.strongRecOn with
    | ind n ih =>
      intro i ha
      cases n with
      | zero => exact ha.elim
      | succ n =>
        obtain ⟨c', hc', ha⟩ := ha
        rw [h0] at hc'
        cases hc'
        rcases ha with ⟨e, _⟩ | ⟨_, ha⟩ | ⟨e, _⟩ | ⟨e, _⟩ | ⟨e, _⟩
        · cases e
        · rcases ha with ha | ha
          · obtain ⟨j, m, hj1, hj2, hj3⟩ := h1.2 n i ha
            cases m with
            | zero => exact hj3.elim
            | succ m =>
              obtain ⟨c', hc', hb⟩ := hj3
              rw [h2] at hc'
              cases hc'
              rcases hb with ⟨e, _⟩ | ⟨_, hb⟩ | ⟨e, _⟩ | ⟨e, _⟩ | ⟨e, _⟩
              · cases e
              · have hb : accN ins s part m p j := hb.elim id id
                obtain ⟨k, l, ⟨x, hx⟩, hk2, hk3⟩ := ih m (by omega) j hb
                exact ⟨k, l, ⟨x + 1, j, hj1, hx⟩, by omega, hk3⟩
              · cases e
              · cases e
              · cases e
          · exact ⟨i, n, ⟨0, rfl⟩, by omega, ha⟩
        · cases e
        · cases e
        · cases e
theorem iter_add {R : Nat → Nat → Prop} : ∀ {a b i j : Nat}, iterR R (a + b) i j ↔ ∃ k, iterR R a i k ∧ iterR R b k j
  | 0, b, i, j => by
    rw [Nat.zero_add]
    exact ⟨fun h => ⟨i, rfl, h⟩, fun ⟨k, h1, h2⟩ => by
      have e : i = k := h1
      rw [e]; exact h2⟩
  | a + 1, b, i, j => by
    rw [show a + 1 + b = (a + b) + 1 by omega]
    constructor
    · rintro ⟨k, h1, h2⟩
      obtain ⟨m, h3, h4⟩ := (iter_add (a := a)).1 h2
      exact ⟨m, ⟨k, h1, h3⟩, h4⟩
    · rintro ⟨m, ⟨k, h1, h3⟩, h4⟩
      exact ⟨k, h1, (iter_add (a := a)).2 ⟨m, h3, h4⟩⟩
/-- an instruction by itself -/
theorem Does.one {p x k : Nat} {y : Nat} {l : List Nat} {R : Nat → Nat → Prop} (h0 : ins[p]? = some ⟨k, x, y, l⟩)
    (hk : (k = 0 ∧ ∀ i j, R i j ↔ (j = i + 1 ∧ ∃ r, s[i]? = some r ∧ hasR l r = true)) ∨ (k = 2 ∧ ∀ i j, R i j ↔ (i = j ∧ i = 0)) ∨ (k = 3 ∧ ∀ i j, R i j ↔ (i = j ∧ i = s.length))) : Does ins s part R p x := by
  refine ⟨fun i j hr ha => ?_, fun n i ha => ?_⟩
  · obtain ⟨n, ha⟩ := ha
    refine ⟨n + 1, _, h0, ?_⟩
    rcases hk with ⟨rfl, hk⟩ | ⟨rfl, hk⟩ | ⟨rfl, hk⟩
    · obtain ⟨rfl, h2⟩ := (hk i j).1 hr
      exact .inl ⟨rfl, h2, ha⟩
    · obtain ⟨rfl, h2⟩ := (hk i j).1 hr
      exact .inr (.inr (.inl ⟨rfl, h2, ha⟩))
    · obtain ⟨rfl, h2⟩ := (hk i j).1 hr
      exact .inr (.inr (.inr (.inl ⟨rfl, h2, ha⟩)))
  · cases n with
    | zero => exact ha.elim
    | succ n =>
      obtain ⟨c', hc', ha⟩ := ha
      rw [h0] at hc'
      cases hc'
      dsimp only at ha
      rcases hk with ⟨rfl, hk⟩ | ⟨rfl, hk⟩ | ⟨rfl, hk⟩
      · rcases ha with ⟨_, h2, h3⟩ | ⟨e, _⟩ | ⟨e, _⟩ | ⟨e, _⟩ | ⟨e, _⟩
        · exact ⟨i + 1, n, (hk _ _).2 ⟨rfl, h2⟩, by omega, h3⟩
        all_goals cases e
      · rcases ha with ⟨e, _⟩ | ⟨e, _⟩ | ⟨_, h2, h3⟩ | ⟨e, _⟩ | ⟨e, _⟩
        · cases e
        · cases e
        · exact ⟨i, n, (hk _ _).2 ⟨rfl, h2⟩, by omega, h3⟩
        all_goals cases e
      · rcases ha with ⟨e, _⟩ | ⟨e, _⟩ | ⟨e, _⟩ | ⟨_, h2, h3⟩ | ⟨e, _⟩
        · cases e
        · cases e
        · cases e
        · exact ⟨i, n, (hk _ _).2 ⟨rfl, h2⟩, by omega, h3⟩
        · cases e
mutual
theorem code_does : ∀ (t : Re) (p : Nat), t.ok → Lies ins p (t.code p) → Does ins s part (t.M s) p (p + t.len)
  | .emp, p, _, _ => Does.here p
  | .set l, p, _, h => Does.one h.head (.inl ⟨rfl, fun _ _ => Iff.rfl⟩)
  | .seq l, p, ok, h => codes_does l p ok h
  | .alt l, p, ok, h => altC_does l p (p + altLen l) ok.1 ok.2 rfl h
  | .rep k mn none, p, ok, h => by
    have hk : ∀ p, Lies ins p (k.code p) → Does ins s part (k.M s) p (p + k.len) := fun p hl => code_does k p ok.1 hl
    have h1 := Does.rep (code_len k) hk mn p (Lies.left h)
    have hr := Lies.right h (repC_len (code_len k) mn p)
    have hb := hr.tail.right (code_len k _)
    have h2 := hk _ hr.tail.left
    have h0 := hr.head
    have e : p + mn * k.len + (k.len + 2) = p + mn * k.len + 1 + k.len + 1 := by omega
    rw [e] at h0
    have h3 := Does.star h0 h2 hb.head
    have h4 := h1.seq h3
    have e2 : p + Re.len (.rep k mn none) = p + mn * k.len + 1 + k.len + 1 := by simp only [Re.len]; omega
    rw [e2]
    refine h4.congr fun i j => ⟨?_, ?_⟩
    · rintro ⟨x, hx, m, hm⟩
      exact ⟨mn + m, by omega, fun _ e => (by cases e), iter_add.2 ⟨x, hx, hm⟩⟩
    · rintro ⟨n, hn, -, hi⟩
      obtain ⟨m, rfl⟩ : ∃ m, n = mn + m := ⟨n - mn, by omega⟩
      obtain ⟨x, hx, hm⟩ := iter_add.1 hi
      exact ⟨x, hx, m, hm⟩
  | .rep k mn (some m), p, ok, h => by
    have hk : ∀ p, Lies ins p (k.code p) → Does ins s part (k.M s) p (p + k.len) := fun p hl => code_does k p ok.1 hl
    have h1 := Does.rep (code_len k) hk mn p (Lies.left h)
    have hr := Lies.right h (repC_len (code_len k) mn p)
    have h3 := Does.opt (code_len k) hk (m - mn) (p + mn * k.len) rfl hr
    have h4 := h1.seq h3
    have e2 : p + Re.len (.rep k mn (some m)) = p + mn * k.len + (m - mn) * (k.len + 1) := by simp only [Re.len]; omega
    rw [e2]
    have hmn : mn ≤ m := ok.2 m rfl
    refine h4.congr fun i j => ⟨?_, ?_⟩
    · rintro ⟨x, hx, y, hy, hm⟩
      exact ⟨mn + y, by omega, fun _ e => (by cases e; omega), iter_add.2 ⟨x, hx, hm⟩⟩
    · rintro ⟨n, hn, hn2, hi⟩
      have := hn2 m rfl
      obtain ⟨y, rfl⟩ : ∃ y, n = mn + y := ⟨n - mn, by omega⟩
      obtain ⟨x, hx, hm⟩ := iter_add.1 hi
      exact ⟨x, hx, y, by omega, hm⟩
  | .bgn, p, _, h => Does.one h.head (.inr (.inl ⟨rfl, fun _ _ => Iff.rfl⟩))
  | .fin, p, _, h => Does.one h.head (.inr (.inr ⟨rfl, fun _ _ => Iff.rfl⟩))
theorem codes_does : ∀ (l : List Re) (p : Nat), oks l → Lies ins p (codes l p) → Does ins s part (Ms s l) p (p + lens l)
  | [], p, _, _ => Does.here p
  | t :: ts, p, ok, h => by
    have h1 := code_does t p ok.1 (Lies.left h)
    have h2 := codes_does ts (p + t.len) ok.2 (Lies.right h (code_len t p))
    have := h1.seq h2
    rw [show p + lens (t :: ts) = p + t.len + lens ts by simp only [lens]; omega]
    exact this
theorem altC_does : ∀ (l : List Re) (p e : Nat), l ≠ [] → oks l → e = p + altLen l → Lies ins p (altC l p e) → Does ins s part (Ma s l) p e
  | [], _, _, hne, _, _, _ => absurd rfl hne
  | [t], p, e, _, ok, he, h => by
    have h1 := code_does t p ok.1 h
    rw [he]
    exact h1.congr fun i j => ⟨Or.inl, fun h => h.elim id False.elim⟩
  | t :: u :: ts, p, e, _, ok, he, h => by
    have h0 := Lies.head h
    have ht := Lies.tail h
    have h1 := code_does t (p + 1) ok.1 ht.left
    have hb := ht.right (code_len t _)
    have hj := hb.head
    have h2 := altC_does (u :: ts) (p + (t.len + 2)) e (by simp) ok.2 (by rw [he]; simp only [altLen]; omega) (by
      have := hb.tail
      rwa [show p + 1 + t.len + 1 = p + (t.len + 2) by omega] at this)
    refine ⟨fun i j hr ha => ?_, fun n i ha => ?_⟩
    · rcases hr with hr | hr
      · exact Acc.left h0 rfl (h1.1 i j hr (Acc.left hj rfl ha))
      · exact Acc.right h0 rfl (h2.1 i j hr ha)
    · cases n with
      | zero => exact ha.elim
      | succ n =>
        obtain ⟨c', hc', ha⟩ := ha
        rw [h0] at hc'
        cases hc'
        rcases ha with ⟨e, _⟩ | ⟨_, ha⟩ | ⟨e, _⟩ | ⟨e, _⟩ | ⟨e, _⟩
        · cases e
        · rcases ha with ha | ha
          · obtain ⟨j, m, hr, hm, hb⟩ := h1.2 n i ha
            cases m with
            | zero => exact hb.elim
            | succ m =>
              obtain ⟨c', hc', hb⟩ := hb
              rw [hj] at hc'
              cases hc'
              rcases hb with ⟨e, _⟩ | ⟨_, hb⟩ | ⟨e, _⟩ | ⟨e, _⟩ | ⟨e, _⟩
              · cases e
              · exact ⟨j, m, .inl hr, by omega, hb.elim id id⟩
              · cases e
              · cases e
              · cases e
          · obtain ⟨j, m, hr, hm, hb⟩ := h2.2 n i ha
            exact ⟨j, m, .inr hr, by omega, hb⟩
        · cases e
        · cases e
        · cases e
end
/-- a whole program: a tree's instructions, and the match behind -/
def progR (t : Re) : List InstP := t.code 0 ++ [⟨4, 0, 0, []⟩]
theorem acc_prog {t : Re} (ok : t.ok) (i : Nat) : Acc (progR t) s part 0 i ↔ ∃ j, t.M s i j ∧ (part = true ∨ j = s.length) := by
  have hl : Lies (progR t) 0 (t.code 0) := fun k c hk => by
    have := (List.getElem?_eq_some_iff.1 hk).1
    rw [Nat.zero_add, progR, List.getElem?_append_left this]; exact hk
  have hm : (progR t)[t.len]? = some ⟨4, 0, 0, []⟩ := by
    rw [progR, List.getElem?_append_right (by rw [code_len]; exact Nat.le_refl _), code_len, Nat.sub_self]; rfl
  have h := code_does (s := s) (part := part) t 0 ok hl
  rw [Nat.zero_add] at h
  constructor
  · rintro ⟨n, ha⟩
    obtain ⟨j, m, hr, -, hb⟩ := h.2 n i ha
    refine ⟨j, hr, ?_⟩
    cases m with
    | zero => exact hb.elim
    | succ m =>
      obtain ⟨c', hc', hb⟩ := hb
      rw [hm] at hc'
      cases hc'
      rcases hb with ⟨e, _⟩ | ⟨e, _⟩ | ⟨e, _⟩ | ⟨e, _⟩ | ⟨_, e⟩
      · cases e
      · cases e
      · cases e
      · cases e
      · exact e
  · rintro ⟨j, hr, hj⟩
    exact h.1 i j hr ⟨1, _, hm, .inr (.inr (.inr (.inr ⟨rfl, hj⟩)))⟩
end
end Garner

