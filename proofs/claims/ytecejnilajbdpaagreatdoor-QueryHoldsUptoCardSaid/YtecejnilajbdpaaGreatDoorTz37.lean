import Derived.Test.YtecejnilajbdpaaGreatDoorTz36
set_option maxRecDepth 100000
set_option maxHeartbeats 8000000
namespace Go.Proofs.YtecejnilajbdpaaGreatDoor
open Go.RowKit Garner
theorem vHasI (l : List Nat) (k n : Nat) (hl : l.length = n) (h2 : n = 2 * k) (hn : n ≤ 100000) (A : Option Addr) (c x : Nat) (w : World) (hr : RowT w 21 A n (l.map rv)) :
  Calls Tryz.prog 96 #[.slice A n c, .int .i32 x] w fun e w' => e = .returned (.bool (hasR l x)) ∧ w' = w := by
 obtain ⟨ANS, hA⟩ : ∃ ANS, hasR l x = ANS := ⟨_, rfl⟩
 rw [hA]
 have HA := Lh hA; have Hl := Lh hl; have Hr := Lh hr; have H2 := Lh h2
 clear hA hl hr h2
 go_enter Tryz.func96, Tryz.ntmps96
 go_wp2
 go_loopw [5] (fun i wr => ∃ j : Nat, j ≤ k ∧ i = .int .i64 (2 * j : Nat) ∧ Hid (hasR (l.drop (2 * j)) x = ANS) ∧ wr = w) (fun i _ => 2 * k - (intOf i).toNat)
 case atStart => exact ⟨0, Nat.zero_le _, rfl, Lh (by simpa using HA.out), rfl⟩
 obtain ⟨j, hj, rfl, hans, rfl⟩ := hrel
 obtain ⟨J, hJ⟩ : ∃ J, 2 * j = J := ⟨_, rfl⟩
 have h2k := H2.out
 rw [hJ] at hans ⊢
 have wj2 : IntKind.i64.wrap ((J : Int) + 2) = ((J + 2 : Nat) : Int) := by rw [IntKind.wrap_i64]; omega
 have wj1 := wS J (by omega)
 by_cases hlt : j < k
 ·have z1 : (J : Int) < (n : Int) := by omega
  have z2 : ((J + 1 : Nat) : Int) < (n : Int) := by omega
  obtain ⟨a, ha⟩ : ∃ a, l[J]? = some a := ⟨_, List.getElem?_eq_getElem (by rw [Hl.out]; omega)⟩
  obtain ⟨b, hb⟩ : ∃ b, l[J + 1]? = some b := ⟨_, List.getElem?_eq_getElem (by rw [Hl.out]; omega)⟩
  obtain ⟨bk, ok, rfl, ca⟩ := Hr.out.at_ (k := J) (u := rv a) (by rw [List.getElem?_map, ha]; rfl)
  obtain ⟨bk', ok', e, cb⟩ := Hr.out.at_ (k := J + 1) (u := rv b) (by rw [List.getElem?_map, hb]; rfl)
  cases e
  have ca1 : wr.cell? ⟨bk, ok + J, none⟩ = some (.int .i32 (a : Nat)) := ca
  have cb1 : wr.cell? ⟨bk, ok + (J + 1), none⟩ = some (.int .i32 (b : Nat)) := cb
  have hd : l.drop J = a :: b :: l.drop (J + 2) := by
   obtain ⟨h1, e1⟩ := List.getElem?_eq_some_iff.1 ha
   obtain ⟨h3, e3⟩ := List.getElem?_eq_some_iff.1 hb
   rw [List.drop_eq_getElem_cons h1, List.drop_eq_getElem_cons h3, e1, e3]
  have hx := hans.out
  rw [hd, hasR] at hx
  have Hx := Lh hx
  clear ca cb hd ha hb hx hans
  by_cases h1 : a ≤ x
  ·by_cases h3 : x ≤ b
   ·have q1 : (a : Int) ≤ (x : Int) := by omega
    have q2 : (x : Int) ≤ (b : Int) := by omega
    have e : ANS = true := by rw [← Hx.out]; simp [h1, h3]
    subst e
    go_wp2_with fail
    go_ret
    exact ⟨rfl, rfl⟩
   have q1 : (a : Int) ≤ (x : Int) := by omega
   have q2 : ¬ (x : Int) ≤ (b : Int) := by omega
   have e : Hid (hasR (l.drop (J + 2)) x = ANS) := Lh (by rw [← Hx.out]; simp [h3])
   go_wp2_with fail
   go_roundw
   case rel => exact ⟨j + 1, by omega, by rw [show 2 * (j + 1) = J + 2 by omega]; rfl, by rw [show 2 * (j + 1) = J + 2 by omega]; exact e, by first | rfl | trivial⟩
   case measure => simp [intOf]; omega
  have q1 : ¬ (a : Int) ≤ (x : Int) := by omega
  have e : Hid (hasR (l.drop (J + 2)) x = ANS) := Lh (by rw [← Hx.out]; simp [h1])
  go_wp2_with fail
  go_roundw
  case rel => exact ⟨j + 1, by omega, by rw [show 2 * (j + 1) = J + 2 by omega]; rfl, by rw [show 2 * (j + 1) = J + 2 by omega]; exact e, by first | rfl | trivial⟩
  case measure => simp [intOf]; omega
 have z1 : ¬ (J : Int) < (n : Int) := by omega
 have e : ANS = false := by
  rw [← hans.out, List.drop_eq_nil_of_le (by rw [Hl.out]; omega)]; rfl
 subst e
 go_wp2_with fail
 go_ret
 exact ⟨rfl, rfl⟩
end Go.Proofs.YtecejnilajbdpaaGreatDoor
namespace Garner
open Go
def IsP (L : List Bool) (n : Nat) (P : Nat → Prop) : Prop := L.length = n + 1 ∧ ∀ j, j ≤ n → (L[j]? = some true ↔ P j)
theorem IsP.congr {L : List Bool} {n : Nat} {P Q : Nat → Prop} (h : IsP L n P) (hq : ∀ j, j ≤ n → (P j ↔ Q j)) : IsP L n Q := ⟨h.1, fun j hj => (h.2 j hj).trans (hq j hj)⟩
theorem IsP.orB {L M : List Bool} {n : Nat} {P Q : Nat → Prop} (h : IsP L n P) (k : IsP M n Q) : IsP (orB L M) n (fun j => P j ∨ Q j) := by
 refine ⟨by rw [orB_len (by rw [h.1, k.1]), h.1], fun j hj => ?_⟩
 obtain ⟨x, hx⟩ : ∃ x, L[j]? = some x := ⟨_, List.getElem?_eq_getElem (by rw [h.1]; omega)⟩
 obtain ⟨y, hy⟩ : ∃ y, M[j]? = some y := ⟨_, List.getElem?_eq_getElem (by rw [k.1]; omega)⟩
 show _ ↔ P j ∨ Q j
 rw [orB_at hx hy, ← h.2 j hj, ← k.2 j hj, hx, hy]
 cases x <;> cases y <;> simp
theorem IsP.none (n : Nat) : IsP (List.replicate (n + 1) false) n (fun _ => False) := by
 refine ⟨List.length_replicate, fun j hj => ?_⟩
 rw [List.getElem?_replicate, if_pos (by omega)]
 simp
theorem IsP.eq_iff {L M : List Bool} {n : Nat} {P Q : Nat → Prop} (h : IsP L n P) (k : IsP M n Q) : L = M ↔ ∀ j, j ≤ n → (P j ↔ Q j) := by
 constructor
 ·rintro rfl j hj
  rw [← h.2 j hj, k.2 j hj]
 intro he
 refine List.ext_getElem (by rw [h.1, k.1]) fun j h1 h2 => ?_
 have hj : j ≤ n := by rw [h.1] at h1; omega
 have := (h.2 j hj).trans ((he j hj).trans (k.2 j hj).symm)
 rw [List.getElem?_eq_getElem h1, List.getElem?_eq_getElem h2] at this
 generalize L[j] = x at this ⊢
 generalize M[j] = y at this ⊢
 cases x <;> cases y <;> simp_all
end Garner
namespace Go.Proofs.YtecejnilajbdpaaGreatDoor
open Go.RowKit Garner
theorem qHasL (l : List Nat) (A : Option Addr) (c n x : Nat) (w : World) (hn : n = l.length) (hr : RowT w 21 A n (l.map rv)) (hl : n ≤ 100000) :
  Calls Tryz.prog 124 #[.slice A n c, .int .i32 (x : Nat)] w fun e w' => e = .returned (.bool (hasR l x)) ∧ w' = w := by
 obtain ⟨ANS, hANS⟩ : ∃ ANS, hasR l x = ANS := ⟨_, rfl⟩
 rw [hANS]
 have HA := Lh hANS; clear hANS
 have Hn := Lh hn; clear hn
 go_enter Tryz.func124, Tryz.ntmps124
 go_wp2
 go_loopw [5] (fun i wr => ∃ j : Nat, j ≤ n + 1 ∧ i = .int .i64 j ∧ Hid (hasR (l.drop j) x = ANS) ∧ wr = w) (fun i _ => n + 1 - (intOf i).toNat)
 case atStart => exact ⟨0, Nat.zero_le _, rfl, Lh HA.out, rfl⟩
 obtain ⟨j, hj, rfl, hno, hwr⟩ := hrel
 obtain rfl : w = wr := hwr.symm
 have hnn := Hn.out
 have w1 : IntKind.i64.wrap ((j : Int) + 1) = (j : Int) + 1 := by rw [IntKind.wrap_i64]; omega
 by_cases hlt : j + 1 < n
 ·obtain ⟨a, ha⟩ : ∃ a, l[j]? = some a := ⟨_, List.getElem?_eq_getElem (by omega)⟩
  obtain ⟨b, hb⟩ : ∃ b, l[j + 1]? = some b := ⟨_, List.getElem?_eq_getElem (by omega)⟩
  have hdr : l.drop j = a :: b :: l.drop (j + 2) := by
   obtain ⟨h1, h2⟩ := List.getElem?_eq_some_iff.1 ha
   obtain ⟨h3, h4⟩ := List.getElem?_eq_some_iff.1 hb
   rw [List.drop_eq_getElem_cons h1, h2, List.drop_eq_getElem_cons h3, h4]
  have hh := hno.out
  rw [hdr, hasR] at hh
  obtain ⟨bb, off, rfl, c1'⟩ := hr.at_ (k := j) (u := rv a) (by rw [List.getElem?_map, ha]; rfl)
  obtain ⟨bb', off', e', c2'⟩ := hr.at_ (k := j + 1) (u := rv b) (by rw [List.getElem?_map, hb]; rfl)
  cases e'
  have c1 : w.cell? ⟨bb, off + j, none⟩ = some (.int .i32 (a : Nat)) := c1'
  have c2 : w.cell? ⟨bb, off + (j + 1), none⟩ = some (.int .i32 (b : Nat)) := c2'
  have z1 : (j : Int) + 1 < (n : Int) := by omega
  have z0 : (j : Int) < (n : Int) := by omega
  have w2 : IntKind.i64.wrap ((j : Int) + 2) = ((j + 2 : Nat) : Int) := by rw [IntKind.wrap_i64]; omega
  have Hh := Lh hh
  clear c1' c2' ha hb hdr hnn hno hh
  by_cases h1 : a ≤ x
  ·have h1' : (a : Int) ≤ (x : Int) := by omega
   by_cases h2 : x ≤ b
   ·have h2' : (x : Int) ≤ (b : Int) := by omega
    have hans : ANS = true := by rw [← Hh.out, decide_eq_true h1, decide_eq_true h2]; rfl
    have HAn := Lh hans
    clear hans
    go_wp2
    go_ret
    exact ⟨by rw [HAn.out]; rfl, rfl⟩
   have h2' : ¬ (x : Int) ≤ (b : Int) := by omega
   have hans : hasR (l.drop (j + 2)) x = ANS := by rw [← Hh.out, decide_eq_false h2, Bool.and_false, Bool.false_or]
   have HAn := Lh hans
   clear hans
   go_wp2
   go_roundw
   case rel => exact ⟨j + 2, by omega, rfl, HAn, by first | rfl | trivial⟩
   case measure => simp [intOf]; omega
  have h1' : ¬ (a : Int) ≤ (x : Int) := by omega
  have hans : hasR (l.drop (j + 2)) x = ANS := by rw [← Hh.out, decide_eq_false h1, Bool.false_and, Bool.false_or]
  have HAn := Lh hans
  clear hans
  go_wp2
  go_roundw
  case rel => exact ⟨j + 2, by omega, rfl, HAn, by first | rfl | trivial⟩
  case measure => simp [intOf]; omega
 have z1 : ¬ (j : Int) + 1 < (n : Int) := by omega
 have hans : ANS = false := by
  rw [← hno.out]
  have hl2 : (l.drop j).length ≤ 1 := by rw [List.length_drop]; omega
  generalize l.drop j = m at hl2
  match m, hl2 with
  | [], _ => rfl
  | [_], _ => rfl
 have HAn := Lh hans
 clear hans hnn hno
 go_wp2
 go_ret
 exact ⟨by rw [HAn.out]; rfl, rfl⟩
end Go.Proofs.YtecejnilajbdpaaGreatDoor
namespace Garner
open Go
def imgP (n : Nat) (R : Nat → Nat → Prop) (P : Nat → Prop) : Nat → Prop := fun j => ∃ i, i ≤ n ∧ P i ∧ R i j
def betP (n : Nat) (R : Nat → Nat → Prop) (P : Nat → Prop) (a b : Nat) : Nat → Prop := fun j => ∃ m, a ≤ m ∧ m ≤ b ∧ imgP n (iterR R m) P j
section
variable {n : Nat} {R : Nat → Nat → Prop} {P : Nat → Prop}
theorem img_zero {j : Nat} (hj : j ≤ n) : imgP n (iterR R 0) P j ↔ P j := by
 constructor
 ·rintro ⟨i, -, hp, h⟩
  have h : i = j := h
  subst h; exact hp
 exact fun h => ⟨j, hj, h, rfl⟩
theorem img_succ (hR : ∀ {i j}, R i j → i ≤ n → i ≤ j ∧ j ≤ n) (k j : Nat) : imgP n (iterR R (k + 1)) P j ↔ imgP n R (imgP n (iterR R k) P) j := by
 constructor
 ·rintro ⟨i, hi, hp, h⟩
  obtain ⟨q, h1, r, h3, h4⟩ := iter_add.1 h
  have h4 : r = j := h4
  subst h4
  exact ⟨q, (iter_le hR k h1 hi).2, ⟨i, hi, hp, h1⟩, h3⟩
 rintro ⟨q, hq, ⟨i, hi, hp, h1⟩, h2⟩
 exact ⟨i, hi, hp, iter_add.2 ⟨q, h1, _, h2, rfl⟩⟩
theorem bet_self (a j : Nat) : betP n R P a a j ↔ imgP n (iterR R a) P j := by
 constructor
 ·rintro ⟨m, h1, h2, h⟩
  obtain rfl : m = a := by omega
  exact h
 exact fun h => ⟨a, Nat.le_refl _, Nat.le_refl _, h⟩
theorem bet_succ {a b : Nat} (hab : a ≤ b) (j : Nat) : betP n R P a (b + 1) j ↔ betP n R P a b j ∨ imgP n (iterR R (b + 1)) P j := by
 constructor
 ·rintro ⟨m, h1, h2, h⟩
  by_cases hm : m = b + 1
  ·subst hm; exact .inr h
  exact .inl ⟨m, h1, by omega, h⟩
 rintro (⟨m, h1, h2, h⟩ | h)
 ·exact ⟨m, h1, by omega, h⟩
 exact ⟨b + 1, by omega, Nat.le_refl _, h⟩
theorem bet_closed (hR : ∀ {i j}, R i j → i ≤ n → i ≤ j ∧ j ≤ n) {a b : Nat} (hab : a ≤ b) (hc : ∀ j, j ≤ n → imgP n (iterR R (b + 1)) P j → betP n R P a b j) : ∀ m, a ≤ m → ∀ j, j ≤ n → imgP n (iterR R m) P j → betP n R P a b j := by
 intro m
 induction m with
 | zero => exact fun h j _ hj => ⟨0, h, by omega, hj⟩
 | succ m ih =>
  intro h j hjn hj
  by_cases hm : m + 1 ≤ b
  ·exact ⟨m + 1, h, hm, hj⟩
  by_cases hm2 : m < a
  ·obtain rfl : b = m := by omega
   exact hc j hjn hj
  obtain ⟨q, hq, h1, h2⟩ := (img_succ hR m j).1 hj
  obtain ⟨m2, h3, h4, h5⟩ := ih (by omega) q hq h1
  have h6 := (img_succ hR m2 j).2 ⟨q, hq, h5, h2⟩
  by_cases hm3 : m2 + 1 ≤ b
  ·exact ⟨m2 + 1, by omega, hm3, h6⟩
  obtain rfl : b = m2 := by omega
  exact hc j hjn h6
end
def trues : List Bool → Nat
 | [] => 0
 | b :: l => (if b = true then 1 else 0) + trues l
theorem trues_le : ∀ l : List Bool, trues l ≤ l.length
 | [] => Nat.le_refl _
 | b :: l => by
  have := trues_le l
  rw [trues, List.length_cons]
  split <;> omega
theorem trues_or_le : ∀ (a b : List Bool), b.length = a.length → trues a ≤ trues (orB a b)
 | [], _, _ => Nat.zero_le _
 | x :: a, [], h => by cases h
 | x :: a, y :: b, h => by
  have := trues_or_le a b (by simpa using h)
  show trues (x :: a) ≤ trues ((x || y) :: orB a b)
  rw [trues, trues]
  cases x <;> cases y <;> simp <;> omega
theorem trues_or : ∀ (a b : List Bool), b.length = a.length → orB a b ≠ a → trues a + 1 ≤ trues (orB a b)
 | [], b, _, h => absurd rfl h
 | x :: a, [], h, _ => by cases h
 | x :: a, y :: b, h, hne => by
  have hl : b.length = a.length := by simpa using h
  have h0 := trues_or_le a b hl
  have e : orB (x :: a) (y :: b) = (x || y) :: orB a b := rfl
  rw [e] at hne ⊢
  rw [trues, trues]
  by_cases hx : (x || y) = x
  ·rw [hx] at hne ⊢
   have := trues_or a b hl fun e => hne (by rw [e])
   omega
  cases x
  ·cases y
   ·exact absurd rfl hx
   simp; omega
  exact absurd rfl hx
theorem IsP.set_at (n k : Nat) (hk : k ≤ n) (x : Bool) : IsP ((List.replicate (n + 1) false).set k x) n (fun j => j = k ∧ x = true) := by
 refine ⟨by simp, fun j hj => ?_⟩
 rw [List.getElem?_set]
 by_cases h : k = j
 ·subst h
  rw [if_pos rfl, if_pos (by simp; omega)]
  simp
 rw [if_neg h, List.getElem?_replicate, if_pos (by omega)]
 simp
 intro e; exact absurd e.symm h
theorem IsP.put {L : List Bool} {n k : Nat} {P : Nat → Prop} (h : IsP L n P) (hk : k ≤ n) : IsP (L.set k true) n (fun j => P j ∨ j = k) := by
 refine ⟨by rw [List.length_set, h.1], fun j hj => ?_⟩
 rw [List.getElem?_set]
 by_cases e : k = j
 ·subst e
  rw [if_pos rfl, if_pos (by rw [h.1]; omega)]
  simp
 rw [if_neg e]
 rw [h.2 j hj]
 exact ⟨.inl, fun h => h.resolve_right fun e2 => e e2.symm⟩
theorem IsP.all (n : Nat) : IsP (List.replicate (n + 1) true) n (fun _ => True) := by
 refine ⟨List.length_replicate, fun j hj => ?_⟩
 rw [List.getElem?_replicate, if_pos (by omega)]
 simp
theorem IsP.at_ {L : List Bool} {n k : Nat} {P : Nat → Prop} (h : IsP L n P) (hk : k ≤ n) : ∃ x, L[k]? = some x ∧ (x = true ↔ P k) := by
 obtain ⟨x, hx⟩ : ∃ x, L[k]? = some x := ⟨_, List.getElem?_eq_getElem (by rw [h.1]; omega)⟩
 refine ⟨x, hx, ?_⟩
 rw [← h.2 k hk, hx]
 simp
theorem Ma_app2 {s : List Nat} : ∀ {ts us : List Re} {i j : Nat}, Ma s (ts ++ us) i j ↔ Ma s ts i j ∨ Ma s us i j
 | [], us, i, j => by simp [Ma]
 | t :: ts, us, i, j => by
  show (t.M s i j ∨ Ma s (ts ++ us) i j) ↔ (t.M s i j ∨ Ma s ts i j) ∨ Ma s us i j
  rw [Ma_app2, or_assoc]
theorem img_row {s : List Nat} {n : Nat} (hn : s.length = n) {l : List Re} {k : Nat} {t : Re} (ht : l[k]? = some t) (P : Nat → Prop) (j : Nat) : imgP n (Ms s (l.take (k + 1))) P j ↔ imgP n (t.M s) (imgP n (Ms s (l.take k)) P) j := by
 rw [List.take_add_one, ht, Option.toList_some]
 constructor
 ·rintro ⟨i, hi, hp, h⟩
  obtain ⟨q, h1, r, h2, h3⟩ := Ms_app2.1 h
  have h3 : r = j := h3
  subst h3
  exact ⟨q, by rw [← hn] at hi ⊢; exact (Ms_le _ h1 hi).2, ⟨i, hi, hp, h1⟩, h2⟩
 rintro ⟨q, hq, ⟨i, hi, hp, h1⟩, h2⟩
 exact ⟨i, hi, hp, Ms_app2.2 ⟨q, h1, _, h2, rfl⟩⟩
theorem img_row0 {s : List Nat} {n : Nat} (P : Nat → Prop) (j : Nat) (hj : j ≤ n) : imgP n (Ms s []) P j ↔ P j := by
 constructor
 ·rintro ⟨i, -, hp, h⟩
  have h : i = j := h
  subst h; exact hp
 exact fun h => ⟨j, hj, h, rfl⟩
theorem img_alt {s : List Nat} {n : Nat} {l : List Re} {k : Nat} {t : Re} (ht : l[k]? = some t) (P : Nat → Prop) (j : Nat) : imgP n (Ma s (l.take (k + 1))) P j ↔ imgP n (Ma s (l.take k)) P j ∨ imgP n (t.M s) P j := by
 rw [List.take_add_one, ht, Option.toList_some]
 constructor
 ·rintro ⟨i, hi, hp, h⟩
  rcases Ma_app2.1 h with h | h | h
  ·exact .inl ⟨i, hi, hp, h⟩
  ·exact .inr ⟨i, hi, hp, h⟩
  exact h.elim
 rintro (⟨i, hi, hp, h⟩ | ⟨i, hi, hp, h⟩)
 ·exact ⟨i, hi, hp, Ma_app2.2 (.inl h)⟩
 exact ⟨i, hi, hp, Ma_app2.2 (.inr (.inl h))⟩
theorem img_alt0 {s : List Nat} {n : Nat} (P : Nat → Prop) (j : Nat) : imgP n (Ma s []) P j ↔ False :=
 ⟨fun ⟨_, _, _, h⟩ => h, fun h => h.elim⟩
theorem img_rep {s : List Nat} {n mn m : Nat} {k : Re} (P : Nat → Prop) (j : Nat) : imgP n ((Re.rep k mn (some m)).M s) P j ↔ betP n (k.M s) P mn m j := by
 constructor
 ·rintro ⟨i, hi, hp, q, h1, h2, h3⟩
  exact ⟨q, h1, h2 m rfl, i, hi, hp, h3⟩
 rintro ⟨q, h1, h2, i, hi, hp, h3⟩
 exact ⟨i, hi, hp, q, h1, fun m' e => (by cases e; exact h2), h3⟩
theorem img_repN {s : List Nat} {n mn b : Nat} {k : Re} (hn : s.length = n) (hb : mn ≤ b) (P : Nat → Prop) (hc : ∀ j, j ≤ n → imgP n (iterR (k.M s) (b + 1)) P j → betP n (k.M s) P mn b j) (j : Nat) (hj : j ≤ n) : imgP n ((Re.rep k mn none).M s) P j ↔ betP n (k.M s) P mn b j := by
 have hR : ∀ {i j}, k.M s i j → i ≤ n → i ≤ j ∧ j ≤ n := fun h hi => by subst hn; exact M_le k h hi
 constructor
 ·rintro ⟨i, hi, hp, q, h1, h2, h3⟩
  exact bet_closed hR hb hc q h1 j hj ⟨i, hi, hp, h3⟩
 rintro ⟨q, h1, h2, i, hi, hp, h3⟩
 exact ⟨i, hi, hp, q, h1, fun m' e => (by cases e), h3⟩
end Garner
