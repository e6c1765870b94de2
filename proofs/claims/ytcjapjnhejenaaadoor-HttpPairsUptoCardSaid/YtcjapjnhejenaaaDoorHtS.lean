import Derived.Test.YtcjapjnhejenaaaDoorHtQ
import Derived.Test.YtcjapjnhejenaaaDoorHtR
/-! http, plain: requests made of lines; numbers as digits -/
namespace Garner
open Go

theorem index_step {x : UInt8} {l sub : Bs} (h : sub.isPrefixOf (x :: l) = false) (h2 : 0 ≤ Lib.index l sub) : Lib.index (x :: l) sub = Lib.index l sub + 1 := by
  have h3 : (Lib.index l sub == -1) = false := by simp; omega
  simp [Lib.index, h, h3]
theorem index_zero {x : UInt8} {l sub : Bs} (h : sub.isPrefixOf (x :: l) = true) : Lib.index (x :: l) sub = 0 := by simp [Lib.index, h]
theorem prefix_ne {x c : UInt8} {l t : Bs} (h : x ≠ c) : (c :: t).isPrefixOf (x :: l) = false := by
  simp only [List.isPrefixOf, Bool.and_eq_false_imp, beq_iff_eq]
  intro e; exact absurd e.symm h
theorem index_skip {c : UInt8} {t v : Bs} (hv : 0 ≤ Lib.index v (c :: t)) : ∀ {u : Bs}, (∀ x ∈ u, x ≠ c) → Lib.index (u ++ v) (c :: t) = u.length + Lib.index v (c :: t)
  | [], _ => by simp
  | x :: u, h => by
    have ih := index_skip hv (u := u) fun y hy => h y (by simp [hy])
    have : Lib.index (x :: (u ++ v)) (c :: t) = Lib.index (u ++ v) (c :: t) + 1 := index_step (prefix_ne (h x (by simp))) (by omega)
    rw [List.cons_append, this, ih, List.length_cons]; omega
/-- no line end within -/
def NoCr (l : Bs) : Prop := ∀ x ∈ l, x ≠ 13
theorem index_crlf {u : Bs} (v : Bs) (h : NoCr u) : Lib.index (u ++ (crlf ++ v)) crlf = u.length := by
  have h0 : Lib.index (crlf ++ v) crlf = 0 := index_zero rfl
  have := index_skip (c := 13) (t := [10]) (v := crlf ++ v) (by show 0 ≤ Lib.index (crlf ++ v) crlf; omega) h
  show Lib.index (u ++ (crlf ++ v)) [13, 10] = _
  rw [this]
  show (u.length : Int) + Lib.index (crlf ++ v) crlf = _
  omega
theorem cut_crlf {u : Bs} (v : Bs) (h : NoCr u) : Lib.cut (u ++ (crlf ++ v)) crlf = (u, v, true) := by
  unfold Lib.cut
  rw [index_crlf v h, if_pos (by omega)]
  simp [crlf]
theorem cut_one {u : Bs} {c : UInt8} (v : Bs) (h : ∀ x ∈ u, x ≠ c) : Lib.cut (u ++ c :: v) [c] = (u, v, true) := by
  have h0 : Lib.index (c :: v) [c] = 0 := index_zero (by simp [List.isPrefixOf])
  have h1 := index_skip (c := c) (t := []) (v := c :: v) (by omega) h
  unfold Lib.cut
  rw [h1, h0, if_pos (by omega)]
  simp
def hdP (ls : List Bs) : Bs := ls.flatMap fun l => l ++ crlf
theorem hdP_cons (l : Bs) (ls : List Bs) : hdP (l :: ls) = l ++ (crlf ++ hdP ls) := by simp [hdP]
theorem hdP_len (ls : List Bs) : ls.length ≤ (hdP ls).length := by
  induction ls with
  | nil => simp
  | cons l ls ih => rw [hdP_cons]; simp [crlf]; omega
def Lines (ls : List Bs) : Prop := ∀ l ∈ ls, l ≠ [] ∧ NoCr l
theorem index_hd (v : Bs) : ∀ (l : Bs) (ls : List Bs), Lines (l :: ls) → Lib.index (hdP (l :: ls) ++ (crlf ++ v)) crlf2 = ((hdP (l :: ls)).length : Int) - 2
  | l, [], h => by
    have h1 := (h l (by simp)).2
    have h0 : Lib.index (crlf ++ (crlf ++ v)) [13, 10, 13, 10] = 0 := index_zero rfl
    have h2 := index_skip (c := 13) (t := [10, 13, 10]) (v := crlf ++ (crlf ++ v)) (by omega) h1
    show Lib.index _ [13, 10, 13, 10] = _
    rw [hdP_cons]
    simp only [hdP, List.flatMap_nil, List.append_nil, List.append_assoc]
    rw [h2, h0, List.length_append]
    simp [crlf]
  | l, l2 :: r, h => by
    have h1 := (h l (by simp)).2
    have ih := index_hd v l2 r fun x hx => h x (List.mem_cons_of_mem _ hx)
    obtain ⟨hne, h3⟩ := h l2 (by simp)
    obtain ⟨y, t, rfl⟩ : ∃ y t, l2 = y :: t := by
      cases l2 with
      | nil => exact absurd rfl hne
      | cons y t => exact ⟨y, t, rfl⟩
    have hy : y ≠ 13 := h3 y (by simp)
    obtain ⟨X, hX⟩ : ∃ X, X = hdP ((y :: t) :: r) ++ (crlf ++ v) := ⟨_, rfl⟩
    obtain ⟨s, hs⟩ : ∃ s, X = y :: s := ⟨t ++ (crlf ++ hdP r) ++ (crlf ++ v), by rw [hX, hdP_cons]; simp⟩
    have hlen : 3 ≤ (hdP ((y :: t) :: r)).length := by rw [hdP_cons]; simp [crlf]; omega
    rw [← hX] at ih
    have e1 : Lib.index (10 :: X) crlf2 = Lib.index X crlf2 + 1 := index_step rfl (by omega)
    have e2 : Lib.index (13 :: 10 :: X) crlf2 = Lib.index (10 :: X) crlf2 + 1 := index_step (by rw [hs]; simp [crlf2, List.isPrefixOf]; exact fun e => absurd e.symm hy) (by omega)
    have h2 := index_skip (c := 13) (t := [10, 13, 10]) (v := 13 :: 10 :: X) (by show 0 ≤ Lib.index _ crlf2; omega) h1
    have e3 : hdP (l :: (y :: t) :: r) ++ (crlf ++ v) = l ++ 13 :: 10 :: X := by rw [hX, hdP_cons]; simp [crlf]
    rw [e3]
    show Lib.index (l ++ 13 :: 10 :: X) [13, 10, 13, 10] = _
    rw [h2]
    show (l.length : Int) + Lib.index (13 :: 10 :: X) crlf2 = _
    rw [hdP_cons l, List.length_append, List.length_append]
    simp only [crlf, List.length_cons, List.length_nil]
    omega
def stepL (st : LineP) (l : Bs) : LineP := if st.ok = true then lineP st l else st
theorem foldl_no : ∀ (ls : List Bs) (st : LineP), st.ok ≠ true → ls.foldl stepL st = st
  | [], _, _ => rfl
  | l :: ls, st, h => by
    rw [List.foldl_cons, show stepL st l = st from if_neg h]
    exact foldl_no ls st h
theorem linesP_mk : ∀ (ls : List Bs) (n : Nat) (st : LineP), (∀ l ∈ ls, NoCr l) → ls.length ≤ n → linesP n st (hdP ls) = ls.foldl stepL st
  | [], 0, _, _, _ => rfl
  | [], n + 1, st, _, _ => by simp [linesP, hdP]
  | l :: ls, 0, _, _, h => by simp at h
  | l :: ls, n + 1, st, h, hn => by
    have hne : hdP (l :: ls) ≠ [] := by rw [hdP_cons]; simp [crlf]
    unfold linesP
    by_cases hk : st.ok = true
    · rw [if_pos ⟨hk, hne⟩, hdP_cons, cut_crlf _ (h l (by simp)), List.foldl_cons, show stepL st l = lineP st l from if_pos hk]
      exact linesP_mk ls n _ (fun x hx => h x (by simp [hx])) (by simpa using hn)
    · rw [if_neg fun e => hk e.1, foldl_no _ _ hk]
/-- what a head's lines read as -/
def readL (f : Bs) (ls : List Bs) : HeadP :=
  match firstP f with
  | none => noHead
  | some (a, b) =>
    let t := targetP b
    let r := ls.foldl stepL ⟨t.2.2, 0, 0, 0, false⟩
    ⟨a, t.1, t.2.1, r.length, r.chunked, r.ok && decide (r.hosts = 1) && decide (r.lengths ≤ 1)⟩
theorem readP_mk (f : Bs) (ls : List Bs) (h : Lines (f :: ls)) : readP (hdP (f :: ls)) = readL f ls := by
  unfold readP readL
  rw [hdP_cons, cut_crlf _ (h f (by simp)).2]
  cases firstP f with
  | none => rfl
  | some p =>
    obtain ⟨a, b⟩ := p
    dsimp only
    rw [linesP_mk ls _ _ (fun l hl => (h l (by simp [hl])).2) (by have := hdP_len ls; omega)]
theorem parseP_mk (f : Bs) (ls : List Bs) (v : Bs) (h : Lines (f :: ls)) : parseP (hdP (f :: ls) ++ (crlf ++ v)) = if 2048 < (hdP (f :: ls)).length + 2 then .error 61 else
    if (readL f ls).ok = false then .error 60 else
    match bodyP (readL f ls) v ((hdP (f :: ls)).length + 2) with
    | .error e => .error e
    | .ok (body, tz) => .ok (⟨(readL f ls).method, (readL f ls).path, (readL f ls).query, body⟩, tz) := by
  have hi := index_hd v f ls h
  have hl : 2 ≤ (hdP (f :: ls)).length := by rw [hdP_cons]; simp [crlf]; omega
  obtain ⟨n, hn⟩ : ∃ n, (hdP (f :: ls)).length = n + 2 := ⟨(hdP (f :: ls)).length - 2, by omega⟩
  have hi2 : Lib.index (hdP (f :: ls) ++ (crlf ++ v)) crlf2 = (n : Nat) := by rw [hi, hn]; omega
  have ht : (hdP (f :: ls) ++ (crlf ++ v)).take (n + 2) = hdP (f :: ls) := by rw [← hn]; simp
  have hd : (hdP (f :: ls) ++ (crlf ++ v)).drop (n + 4) = v := by
    rw [show n + 4 = (hdP (f :: ls)).length + 2 by omega, List.drop_append]
    simp [crlf]
  rw [(parseP_head hi2).2, ht, hd, readP_mk f ls h, hn]
  rfl

/-- a number's digits -/
def decP (n : Nat) : Bs := if n < 10 then [UInt8.ofNat (48 + n)] else decP (n / 10) ++ [UInt8.ofNat (48 + n % 10)]
theorem decP_digs (n : Nat) : ∀ c ∈ decP n, digB c = true := by
  induction n using Nat.strongRecOn with
  | ind n ih =>
    intro c hc
    unfold decP at hc
    split at hc
    · rename_i h
      obtain rfl := List.mem_singleton.1 hc
      simp [digB]; omega
    · rcases List.mem_append.1 hc with h | h
      · exact ih (n / 10) (by omega) c h
      · obtain rfl := List.mem_singleton.1 h
        simp [digB]; omega
theorem decP_pos (n : Nat) : 1 ≤ (decP n).length := by
  unfold decP; split <;> simp
theorem decP_len : ∀ (k n : Nat), n < 10 ^ (k + 1) → (decP n).length ≤ k + 1
  | 0, n, h => by unfold decP; rw [if_pos (by simpa using h)]; simp
  | k + 1, n, h => by
    unfold decP; split
    · simp
    · have := decP_len k (n / 10) (by rw [Nat.pow_succ] at h; omega)
      simp; omega
theorem digN_dec (n : Nat) (h : n ≤ 1099511627776) : digN (decP n) 0 = n := by
  induction n using Nat.strongRecOn with
  | ind n ih =>
    unfold decP
    split
    · rename_i h1
      simp [digN]; omega
    · have h2 := ih (n / 10) (by omega) (by omega)
      unfold digN at h2 ⊢
      rw [List.foldl_append, h2]
      simp; omega
def lenName : Bs := [67, 111, 110, 116, 101, 110, 116, 45, 76, 101, 110, 103, 116, 104]
theorem dig_facts {c : UInt8} (h : digB c = true) : 48 ≤ c.toNat ∧ c.toNat ≤ 57 := by simpa [digB] using h
theorem dig_trim {c : UInt8} (h : digB c = true) : [32, 9].contains c = false := by
  have := dig_facts h
  have h1 : c ≠ 32 := fun e => by subst e; simp at this
  have h2 : c ≠ 9 := fun e => by subst e; simp at this
  simp [h1, h2]
theorem trim_digs {ds : Bs} (sp : Bool) (h : ∀ c ∈ ds, digB c = true) (h1 : 1 ≤ ds.length) : Lib.trimS ((if sp then [32] else []) ++ ds) [32, 9] = ds := by
  have hr : Lib.trimRightS ((if sp then [32] else []) ++ ds) [32, 9] = (if sp then [32] else []) ++ ds := by
    have := Lib.trimRightS_take ((if sp then [32] else []) ++ ds) [32, 9] ((if sp then [32] else []) ++ ds).length (Nat.le_refl _) (fun j b hj hb => by rw [List.getElem?_eq_none hj] at hb; cases hb) (fun b _ hb => by
      have : b ∈ ds := by
        rw [List.getElem?_append_right (by simp; split <;> simp <;> omega)] at hb
        exact List.mem_of_getElem? hb
      exact dig_trim (h b this))
    rw [this, List.take_length]
  unfold Lib.trimS
  rw [hr]
  have := Lib.trimLeftS_drop ((if sp then [32] else []) ++ ds) [32, 9] (if sp then 1 else 0) (by split <;> simp) (fun j b hj hb => by
    cases sp with
    | true => simp at hj; subst hj; simp at hb; subst hb; rfl
    | false => simp at hj) (fun b hb => by
    refine dig_trim (h b ?_)
    cases sp with
    | true => simp at hb; exact List.mem_of_getElem? hb
    | false => simp at hb; exact List.mem_of_getElem? hb)
  rw [this]
  cases sp <;> simp
theorem digs_clean {ds : Bs} (h : ∀ c ∈ ds, digB c = true) : cleanP ds = true := by
  unfold cleanP
  rw [List.all_eq_true]
  intro c hc
  have := dig_facts (h c hc)
  simp [cleanB]; omega
/-- a line that tells the body's length -/
theorem lineP_len (st : LineP) (sp : Bool) {ds : Bs} (h : ∀ c ∈ ds, digB c = true) (h1 : 1 ≤ ds.length) (h2 : ds.length ≤ 10) : lineP st (lenName ++ 58 :: ((if sp then [32] else []) ++ ds)) = { st with ok := true, lengths := st.lengths + 1, length := digN ds 0 } := by
  have hc := cut_one (u := lenName) (c := 58) ((if sp then [32] else []) ++ ds) (by decide)
  have ht : tokenP lenName = true := by decide +kernel
  have hlow : lowP lenName = lengthS := by decide +kernel
  have hall : ds.all digB = true := List.all_eq_true.2 h
  unfold lineP
  simp only [hc, trim_digs sp h h1, ht, digs_clean h, hlow, Bool.and_true]
  rw [if_neg (by decide), if_pos trivial]
  simp [digitsP, hall, h1, h2]
end Garner
