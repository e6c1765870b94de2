import Derived.Below
/-! Plain functions of layers 1, 2 and 15: varints, frames, manifests; no program in sight. -/
namespace Garner
abbrev Bs := List UInt8

def put1 (n : Nat) : Bs := if n < 128 then [UInt8.ofNat n] else UInt8.ofNat (n % 128 + 128) :: put1 (n / 128)
termination_by n
def vput (ns : List Nat) : Bs := ns.flatMap put1

def vgetAux : Bs → Nat → Nat → Except Nat (Nat × Nat)
  | [], _, _ => .error 5
  | c :: r, i, acc =>
    if i = 9 ∧ 1 < c.toNat then .error 6
    else if c.toNat < 128 then (if c.toNat = 0 ∧ 0 < i then .error 6 else .ok (acc + c.toNat * 128 ^ i, i + 1))
    else vgetAux r (i + 1) (acc + (c.toNat - 128) * 128 ^ i)

def vget (b : Bs) (at_ : Nat) : Except Nat (Nat × Nat) :=
  match vgetAux (b.drop at_) 0 0 with
  | .error e => .error e
  | .ok (n, k) => .ok (n, at_ + k)

theorem put1_small {n : Nat} (h : n < 128) : put1 n = [UInt8.ofNat n] := by rw [put1, if_pos h]
theorem put1_big {n : Nat} (h : ¬ n < 128) : put1 n = UInt8.ofNat (n % 128 + 128) :: put1 (n / 128) := by rw [put1, if_neg h]
theorem put1_pos (n : Nat) : 0 < (put1 n).length := by rw [put1]; split <;> simp

theorem put1_len_le : ∀ (j n : Nat), n < 128 ^ (j + 1) → (put1 n).length ≤ j + 1 := by
  intro j
  induction j with
  | zero => intro n h; rw [put1_small (by simpa using h)]; simp
  | succ j ih =>
    intro n h
    by_cases hs : n < 128
    · rw [put1_small hs]; simp
    · rw [put1_big hs, List.length_cons]
      have := ih (n / 128) (by rw [Nat.div_lt_iff_lt_mul (by omega), ← Nat.pow_succ]; exact h)
      omega
theorem put1_len {n : Nat} (h : n < 18446744073709551616) : (put1 n).length ≤ 10 := put1_len_le 9 n (by omega)
theorem vput_len : ∀ (ns : List Nat), (∀ n ∈ ns, n < 18446744073709551616) → (vput ns).length ≤ 10 * ns.length := by
  intro ns
  induction ns with
  | nil => intro _; simp [vput]
  | cons n ns ih =>
    intro h
    have h1 := put1_len (h n (by simp))
    have h2 := ih fun m hm => h m (by simp [hm])
    have e : vput (n :: ns) = put1 n ++ vput ns := rfl
    rw [e, List.length_append, List.length_cons]
    omega
theorem vput_nil : vput [] = [] := rfl
theorem vput_cons (n : Nat) (l : List Nat) : vput (n :: l) = put1 n ++ vput l := rfl
theorem vput_append (a b : List Nat) : vput (a ++ b) = vput a ++ vput b := by unfold vput; rw [List.flatMap_append]

theorem ofNat_toNat {n : Nat} (h : n < 256) : (UInt8.ofNat n).toNat = n := by
  rw [UInt8.toNat_ofNat']; omega

theorem vgetAux_put1 (r : Bs) : ∀ (m i acc : Nat), i ≤ 9 → m * 128 ^ i < 18446744073709551616 → (m = 0 → i = 0) →
    vgetAux (put1 m ++ r) i acc = .ok (acc + m * 128 ^ i, i + (put1 m).length) := by
  intro m
  induction m using Nat.strongRecOn with
  | _ m ih =>
    intro i acc hi hm h0
    by_cases hs : m < 128
    · rw [put1_small hs]
      have e : (UInt8.ofNat m).toNat = m := ofNat_toNat (by omega)
      simp only [List.singleton_append, vgetAux, e]
      rw [if_neg, if_pos hs, if_neg]
      · rfl
      · intro ⟨a, b⟩; have := h0 a; omega
      · intro ⟨a, b⟩; subst a; simp at hm; omega
    · rw [put1_big hs]
      have e : (UInt8.ofNat (m % 128 + 128)).toNat = m % 128 + 128 := ofNat_toNat (by omega)
      have hi9 : i < 9 := by
        rcases Nat.lt_or_ge i 9 with h | h
        · exact h
        · obtain rfl : i = 9 := by omega
          simp at hm; omega
      simp only [List.cons_append, vgetAux, e]
      rw [if_neg (by omega), if_neg (by omega), ih (m / 128) (by omega) (i + 1) _ (by omega)]
      · congr 2
        · rw [Nat.pow_succ]
          have : m = 128 * (m / 128) + m % 128 := by omega
          generalize m / 128 = q at *
          generalize m % 128 = s at *
          subst this
          rw [Nat.add_sub_cancel, Nat.add_mul, Nat.mul_comm 128 q, Nat.mul_assoc q 128, Nat.mul_comm 128 (128 ^ i)]
          omega
        · simp; omega
      · rw [Nat.pow_succ]
        have : m / 128 * (128 ^ i * 128) ≤ m * 128 ^ i := by
          rw [Nat.mul_comm (128 ^ i), ← Nat.mul_assoc]
          exact Nat.mul_le_mul_right _ (Nat.div_mul_le_self m 128)
        omega
      · intro h; omega

theorem vgetAux_ok : ∀ (l : Bs) (i acc v k : Nat), i ≤ 9 → vgetAux l i acc = .ok (v, k) →
    ∃ m, l.take (k - i) = put1 m ∧ v = acc + m * 128 ^ i ∧ k = i + (put1 m).length ∧ m * 128 ^ i < 18446744073709551616 ∧ (m = 0 → i = 0) := by
  intro l
  induction l with
  | nil => intro i acc v k _ h; simp [vgetAux] at h
  | cons c r ih =>
    intro i acc v k hi h
    have hc := c.toNat_lt
    have hcc : UInt8.ofNat c.toNat = c := by simp
    rw [vgetAux] at h
    by_cases h1 : i = 9 ∧ 1 < c.toNat
    · rw [if_pos h1] at h; cases h
    rw [if_neg h1] at h
    have hp : (128 : Nat) ^ i ≤ 9223372036854775808 := by
      have : (128 : Nat) ^ i ≤ 128 ^ 9 := Nat.pow_le_pow_right (by omega) hi
      omega
    by_cases h2 : c.toNat < 128
    · rw [if_pos h2] at h
      by_cases h3 : c.toNat = 0 ∧ 0 < i
      · rw [if_pos h3] at h; cases h
      rw [if_neg h3] at h
      injection h with h
      injection h with ha hb
      subst ha; subst hb
      refine ⟨c.toNat, ?_, rfl, by rw [put1_small h2]; rfl, ?_, by omega⟩
      · rw [put1_small h2, hcc, show i + 1 - i = 1 by omega]; rfl
      · rcases Nat.lt_or_ge i 9 with h9 | h9
        · have : (128 : Nat) ^ i ≤ 128 ^ 8 := Nat.pow_le_pow_right (by omega) (by omega)
          have : c.toNat * 128 ^ i ≤ 127 * 128 ^ 8 := Nat.mul_le_mul (by omega) this
          omega
        · obtain rfl : i = 9 := by omega
          have : c.toNat ≤ 1 := by omega
          have : c.toNat * 128 ^ 9 ≤ 1 * 128 ^ 9 := Nat.mul_le_mul this (Nat.le_refl _)
          omega
    · rw [if_neg h2] at h
      have h9 : i < 9 := by omega
      obtain ⟨m, e1, e2, e3, e4, e5⟩ := ih (i + 1) _ v k (by omega) h
      have hm0 : m ≠ 0 := fun e => by have := e5 e; omega
      have hmod : (m * 128 + (c.toNat - 128)) % 128 = c.toNat - 128 := by omega
      have hdiv : (m * 128 + (c.toNat - 128)) / 128 = m := by omega
      have hput : put1 (m * 128 + (c.toNat - 128)) = c :: put1 m := by
        rw [put1_big (by omega), hmod, hdiv, show c.toNat - 128 + 128 = c.toNat by omega, hcc]
      have hmul : (m * 128 + (c.toNat - 128)) * 128 ^ i = m * 128 ^ (i + 1) + (c.toNat - 128) * 128 ^ i := by
        rw [Nat.add_mul, Nat.pow_succ, Nat.mul_assoc, Nat.mul_comm 128 (128 ^ i)]
      have hpos := put1_pos m
      refine ⟨m * 128 + (c.toNat - 128), ?_, ?_, ?_, ?_, fun e => by omega⟩
      · rw [hput, ← e1, show k - i = (k - (i + 1)) + 1 by omega]; rfl
      · rw [hmul, e2]; omega
      · rw [hput, List.length_cons]; omega
      · rw [hmul]
        have hx : (c.toNat - 128) * 128 ^ i < 128 * 128 ^ i := Nat.mul_lt_mul_of_pos_right (by omega) (Nat.pow_pos (by omega))
        have hy : 128 * 128 ^ i = 128 ^ (i + 1) := by rw [Nat.pow_succ, Nat.mul_comm]
        have hd : 128 ^ (i + 1) * 2 ^ (64 - 7 * (i + 1)) = 18446744073709551616 := by
          rw [show (128 : Nat) = 2 ^ 7 by rfl, ← Nat.pow_mul, ← Nat.pow_add, show 7 * (i + 1) + (64 - 7 * (i + 1)) = 64 by omega]
        have hq : m < 2 ^ (64 - 7 * (i + 1)) := by
          refine Nat.lt_of_not_le fun hle => ?_
          have := Nat.mul_le_mul_left (128 ^ (i + 1)) hle
          rw [hd, Nat.mul_comm] at this
          omega
        have : (m + 1) * 128 ^ (i + 1) ≤ 18446744073709551616 := by
          rw [← hd, Nat.mul_comm]; exact Nat.mul_le_mul_left _ hq
        rw [Nat.add_mul] at this
        omega

theorem vget_put1 (p r : Bs) (n : Nat) (hn : n < 18446744073709551616) : vget (p ++ (put1 n ++ r)) p.length = .ok (n, p.length + (put1 n).length) := by
  unfold vget
  rw [List.drop_left, vgetAux_put1 r n 0 0 (by omega) (by simpa using hn) (fun _ => rfl)]
  simp

theorem vget_ok {b : Bs} {at_ v k : Nat} (h : vget b at_ = .ok (v, k)) :
    v < 18446744073709551616 ∧ k = at_ + (put1 v).length ∧ (b.drop at_).take (put1 v).length = put1 v ∧ k ≤ b.length := by
  unfold vget at h
  split at h
  · cases h
  · rename_i n k' hk
    injection h with h
    injection h with ha hb
    subst ha; subst hb
    obtain ⟨m, e1, e2, e3, e4, _⟩ := vgetAux_ok _ 0 0 _ _ (by omega) hk
    simp at e2 e4
    subst e2
    have hk' : k' = (put1 n).length := by omega
    subst hk'
    simp only [Nat.sub_zero] at e1
    refine ⟨e4, rfl, e1, ?_⟩
    have := congrArg List.length e1
    rw [List.length_take, List.length_drop] at this
    have hp := put1_pos n
    omega

theorem vgetAux_err : ∀ (l : Bs) (i acc k : Nat), vgetAux l i acc = .error k → k = 5 ∨ k = 6 := by
  intro l
  induction l with
  | nil => intro i acc k h; injection h with h; omega
  | cons c r ih =>
    intro i acc k h
    rw [vgetAux] at h
    split at h
    · injection h with h; omega
    · split at h
      · split at h
        · injection h with h; omega
        · cases h
      · exact ih _ _ _ h
theorem vget_err {b : Bs} {i k : Nat} (h : vget b i = .error k) : k = 5 ∨ k = 6 := by
  unfold vget at h
  split at h
  · rename_i e he; injection h with h; subst h; exact vgetAux_err _ _ _ _ he
  · cases h

/-- All numbers of a text. -/
def vallAux : Nat → Bs → Except Nat (List Nat)
  | _, [] => .ok []
  | 0, _ :: _ => .error 0
  | f + 1, c :: r =>
    match vgetAux (c :: r) 0 0 with
    | .error e => .error e
    | .ok (n, k) => match vallAux f ((c :: r).drop k) with
      | .error e => .error e
      | .ok ns => .ok (n :: ns)
def vall (b : Bs) : Except Nat (List Nat) := vallAux b.length b

theorem vall_vput : ∀ (ns : List Nat) (f : Nat), (∀ n ∈ ns, n < 18446744073709551616) → (vput ns).length ≤ f → vallAux f (vput ns) = .ok ns := by
  intro ns
  induction ns with
  | nil => intro f _ _; cases f <;> rfl
  | cons n ns ih =>
    intro f hn hf
    have hp := put1_pos n
    have e : vput (n :: ns) = put1 n ++ vput ns := rfl
    rw [e, List.length_append] at hf
    obtain ⟨f, rfl⟩ : ∃ g, f = g + 1 := ⟨f - 1, by omega⟩
    have hg := vgetAux_put1 (vput ns) n 0 0 (by omega) (by simpa using hn n (by simp)) (fun _ => rfl)
    rw [e]
    cases hb : put1 n ++ vput ns with
    | nil => have := congrArg List.length hb; simp at this; rw [this.1] at hp; simp at hp
    | cons c r =>
      rw [vallAux, ← hb, hg]
      simp only [Nat.zero_add, List.drop_left, Nat.pow_zero, Nat.mul_one]
      rw [ih f (fun m hm => hn m (by simp [hm])) (by omega)]

theorem vall_ok : ∀ (f : Nat) (b : Bs) (ns : List Nat), vallAux f b = .ok ns → b = vput ns ∧ ∀ n ∈ ns, n < 18446744073709551616 := by
  intro f
  induction f with
  | zero => intro b ns h; cases b with
    | nil => injection h with h; subst h; exact ⟨rfl, by simp⟩
    | cons c r => cases h
  | succ f ih =>
    intro b ns h
    cases b with
    | nil => injection h with h; subst h; exact ⟨rfl, by simp⟩
    | cons c r =>
      rw [vallAux] at h
      split at h
      · cases h
      · rename_i n k hk
        split at h
        · cases h
        · rename_i ns' hns
          injection h with h
          subst h
          obtain ⟨h1, h2⟩ := ih _ _ hns
          obtain ⟨m, e1, e2, e3, e4, _⟩ := vgetAux_ok _ 0 0 _ _ (by omega) hk
          simp at e2 e4 e1 e3
          subst e2; subst e3
          refine ⟨?_, ?_⟩
          · show _ = put1 n ++ vput ns'
            rw [← h1]
            conv => lhs; rw [← List.take_append_drop (put1 n).length (c :: r)]
            rw [e1]
          · intro x hx
            rcases List.mem_cons.1 hx with rfl | hx
            · exact e4
            · exact h2 x hx

/-! zigzag -/
def zig (n : Int) : Nat := if 0 ≤ n then (2 * n).toNat else (-2 * n - 1).toNat
def zag (u : Nat) : Int := if u % 2 = 0 then (u / 2 : Nat) else -((u / 2 : Nat) : Int) - 1
theorem zag_zig (n : Int) : zag (zig n) = n := by unfold zag zig; split <;> split <;> omega
theorem zig_zag (u : Nat) : zig (zag u) = u := by unfold zag zig; split <;> split <;> omega
theorem zig_lt {n : Int} (h1 : -9223372036854775808 ≤ n) (h2 : n ≤ 9223372036854775807) : zig n < 18446744073709551616 := by unfold zig; split <;> omega
theorem zag_lo {u : Nat} (h : u < 18446744073709551616) : -9223372036854775808 ≤ zag u ∧ zag u ≤ 9223372036854775807 := by unfold zag; split <;> omega

/-! checksums and frames -/
def crcBit (c : Nat) : Nat := if c % 2 = 1 then (c / 2) ^^^ 3988292384 else c / 2
def crcBits : Nat → Nat → Nat
  | 0, c => c
  | k + 1, c => crcBits k (crcBit c)
def crcByte (c : Nat) (x : UInt8) : Nat := crcBits 8 (c ^^^ x.toNat)
def crcFrom (c : Nat) (l : Bs) : Nat := l.foldl crcByte c
def crc (l : Bs) : Nat := 4294967295 - crcFrom 4294967295 l

theorem crcBit_lt {c : Nat} (h : c < 4294967296) : crcBit c < 4294967296 := by
  unfold crcBit
  split
  · exact Nat.xor_lt_two_pow (n := 32) (by omega) (by omega)
  · omega
theorem crcBits_lt : ∀ (k c : Nat), c < 4294967296 → crcBits k c < 4294967296
  | 0, _, h => h
  | k + 1, _, h => crcBits_lt k _ (crcBit_lt h)
theorem crcByte_lt {c : Nat} (x : UInt8) (h : c < 4294967296) : crcByte c x < 4294967296 :=
  crcBits_lt 8 _ (Nat.xor_lt_two_pow (n := 32) (by omega) (by have := x.toNat_lt; omega))
theorem crcFrom_lt : ∀ (l : Bs) (c : Nat), c < 4294967296 → crcFrom c l < 4294967296
  | [], _, h => h
  | x :: l, _, h => crcFrom_lt l _ (crcByte_lt x h)
theorem crc_lt (l : Bs) : crc l < 4294967296 := by unfold crc; omega
theorem crcFrom_snoc (c : Nat) (l : Bs) (x : UInt8) : crcFrom c (l ++ [x]) = crcByte (crcFrom c l) x := by simp [crcFrom]

/-- the sum so far -/
def crcAt (l : Bs) : Nat := crcFrom 4294967295 l
theorem crcAt_lt (l : Bs) : crcAt l < 4294967296 := crcFrom_lt l _ (by omega)
theorem crcAt_nil : crcAt [] = 4294967295 := rfl
theorem crcAt_snoc (l : Bs) (x : UInt8) : crcAt (l ++ [x]) = crcByte (crcAt l) x := crcFrom_snoc _ l x
theorem crc_eq (l : Bs) : crc l = 4294967295 - crcAt l := rfl
theorem crcAt_take (l : Bs) (k : Nat) (h : k < l.length) : crcAt (l.take (k + 1)) = crcByte (crcAt (l.take k)) l[k] := by
  rw [List.take_succ_eq_append_getElem h, crcAt_snoc]

def four (s : Nat) : Bs := [UInt8.ofNat (s % 256), UInt8.ofNat (s / 256 % 256), UInt8.ofNat (s / 65536 % 256), UInt8.ofNat (s / 16777216 % 256)]
def frame (p : Bs) : Except Nat Bs := if 65536 < p.length then .error 4 else .ok (put1 p.length ++ p ++ four (crc p))
def fread (b : Bs) (at_ : Nat) : Except Nat (Bs × Nat) :=
  match vget b at_ with
  | .error e => .error e
  | .ok (n, fr) =>
    if 65536 < n then .error 4
    else if b.length < fr + n + 4 then .error 5
    else if four (crc ((b.drop fr).take n)) = (b.drop (fr + n)).take 4 then .ok ((b.drop fr).take n, fr + n + 4) else .error 7

theorem fread_e1 {b : Bs} {i k : Nat} (h : vget b i = .error k) : fread b i = .error k := by unfold fread; rw [h]
theorem fread_e2 {b : Bs} {i n fr : Nat} (h : vget b i = .ok (n, fr)) (h1 : 65536 < n) : fread b i = .error 4 := by unfold fread; rw [h]; exact if_pos h1
theorem fread_e3 {b : Bs} {i n fr : Nat} (h : vget b i = .ok (n, fr)) (h1 : ¬ 65536 < n) (h2 : b.length < fr + n + 4) : fread b i = .error 5 := by unfold fread; rw [h]; simp only []; rw [if_neg h1, if_pos h2]
theorem fread_e4 {b : Bs} {i n fr : Nat} (h : vget b i = .ok (n, fr)) (h1 : ¬ 65536 < n) (h2 : ¬ b.length < fr + n + 4) (h3 : four (crc ((b.drop fr).take n)) ≠ (b.drop (fr + n)).take 4) : fread b i = .error 7 := by
  unfold fread; rw [h]; simp only []; rw [if_neg h1, if_neg h2, if_neg h3]
theorem fread_e5 {b : Bs} {i n fr : Nat} (h : vget b i = .ok (n, fr)) (h1 : ¬ 65536 < n) (h2 : ¬ b.length < fr + n + 4) (h3 : four (crc ((b.drop fr).take n)) = (b.drop (fr + n)).take 4) : fread b i = .ok ((b.drop fr).take n, fr + n + 4) := by
  unfold fread; rw [h]; simp only []; rw [if_neg h1, if_neg h2, if_pos h3]
theorem drop_four {b : Bs} {k : Nat} (h : k + 4 ≤ b.length) : (b.drop k).take 4 = [b[k], b[k + 1], b[k + 2], b[k + 3]] := by
  rw [List.drop_eq_getElem_cons (by omega), List.drop_eq_getElem_cons (by omega), List.drop_eq_getElem_cons (by omega), List.drop_eq_getElem_cons (by omega)]
  rfl
/-- four bytes as a number -/
def un4 (a b c d : Nat) : Nat := a + 256 * b + 65536 * c + 16777216 * d
theorem four_eq {s : Nat} {a b c d : UInt8} (hs : s < 4294967296) : four s = [a, b, c, d] ↔ un4 a.toNat b.toNat c.toNat d.toNat = s := by
  have ha := a.toNat_lt; have hb := b.toNat_lt; have hc := c.toNat_lt; have hd := d.toNat_lt
  unfold four un4
  simp only [List.cons.injEq, and_true]
  constructor
  · rintro ⟨h1, h2, h3, h4⟩
    subst h1; subst h2; subst h3; subst h4
    rw [ofNat_toNat (by omega), ofNat_toNat (by omega), ofNat_toNat (by omega), ofNat_toNat (by omega)]; omega
  · intro h
    refine ⟨?_, ?_, ?_, ?_⟩ <;> (rw [← UInt8.toNat_inj, ofNat_toNat (by omega)]; omega)

theorem fread_frame {p f : Bs} (a r : Bs) (h : frame p = .ok f) : fread (a ++ (f ++ r)) a.length = .ok (p, a.length + f.length) := by
  unfold frame at h
  split at h
  · cases h
  rename_i hp
  injection h with h
  subst h
  unfold fread
  have e : a ++ (put1 p.length ++ p ++ four (crc p) ++ r) = a ++ (put1 p.length ++ (p ++ (four (crc p) ++ r))) := by simp
  rw [e, vget_put1 _ _ _ (by omega)]
  have d1 : (a ++ (put1 p.length ++ (p ++ (four (crc p) ++ r)))).drop (a.length + (put1 p.length).length) = p ++ (four (crc p) ++ r) := by
    rw [← List.drop_drop, List.drop_left, List.drop_left]
  have d2 : (a ++ (put1 p.length ++ (p ++ (four (crc p) ++ r)))).drop (a.length + (put1 p.length).length + p.length) = four (crc p) ++ r := by
    rw [← List.drop_drop, d1, List.drop_left]
  simp only []
  rw [if_neg hp, d1, d2, if_neg, if_pos]
  · simp [four]; omega
  · simp [four]
  · simp [four]; omega

theorem fread_ok {b p : Bs} {at_ k : Nat} (h : fread b at_ = .ok (p, k)) :
    ∃ f, frame p = .ok f ∧ (b.drop at_).take f.length = f ∧ k = at_ + f.length ∧ k ≤ b.length := by
  unfold fread at h
  split at h
  · cases h
  rename_i n fr hv
  obtain ⟨h1, h2, h3, h4⟩ := vget_ok hv
  split at h
  · cases h
  split at h
  · cases h
  split at h
  · rename_i hn hl hc
    injection h with h
    injection h with ha hb
    have hpl : p.length = n := by rw [← ha, List.length_take, List.length_drop]; omega
    refine ⟨put1 p.length ++ p ++ four (crc p), by unfold frame; rw [if_neg (by omega)], ?_, ?_, by omega⟩
    · rw [ha] at hc
      have e1 : b.drop at_ = put1 n ++ b.drop fr := by
        conv => lhs; rw [← List.take_append_drop (put1 n).length (b.drop at_)]
        rw [h3, List.drop_drop, ← h2]
      have e2 : b.drop fr = p ++ b.drop (fr + n) := by
        conv => lhs; rw [← List.take_append_drop n (b.drop fr)]
        rw [ha, List.drop_drop]
      have e3 : b.drop (fr + n) = four (crc p) ++ b.drop (fr + n + 4) := by
        conv => lhs; rw [← List.take_append_drop 4 (b.drop (fr + n))]
        rw [← hc, List.drop_drop]
      rw [e1, e2, e3, hpl, ← List.append_assoc, ← List.append_assoc, List.take_left]
    · simp [four, hpl]; omega
  · cases h
attribute [irreducible] crc crcAt
end Garner
/-! texts laid together -/
namespace Garner
open Go
/-- two texts laid together, as the walk makes them -/
theorem cat2 {A B : ByteArray} {a b : Bs} (hA : A = ⟨a.toArray⟩) (hB : B = ⟨b.toArray⟩) : ∃ C, A ++ B = C ∧ C = ⟨(a ++ b).toArray⟩ ∧ C.size = a.length + b.length := by
  subst hA; subst hB
  refine ⟨_, rfl, ?_, ?_⟩
  · apply ByteArray.ext; simp
  · simp [ByteArray.size]
end Garner
