import Derived.Test.YtcjapjnhejenaaaDoorHtW
/-! HttpPairs, plain: texts written byte by byte, and what a target of them reads as -/
namespace Garner
open Go
def escB (c : UInt8) : Bs := [37, digP false (c.toNat / 16), digP true (c.toNat % 16)]
def escP (l : Bs) : Bs := l.flatMap escB
theorem escP_cons (c : UInt8) (l : Bs) : escP (c :: l) = 37 :: digP false (c.toNat / 16) :: digP true (c.toNat % 16) :: escP l := rfl
theorem escP_snoc (l : Bs) (c : UInt8) : escP (l ++ [c]) = escP l ++ escB c := by simp [escP]
theorem escP_len (l : Bs) : (escP l).length = 3 * l.length := by
  induction l with
  | nil => rfl
  | cons c l ih => rw [escP_cons]; simp [ih]; omega
/-- a byte of an escaped text -/
def escOk (c : UInt8) : Bool := c == 37 || (decide (48 ≤ c.toNat) && decide (c.toNat ≤ 57)) || (decide (65 ≤ c.toNat) && decide (c.toNat ≤ 70)) || (decide (97 ≤ c.toNat) && decide (c.toNat ≤ 102))
theorem digP_ok (up : Bool) : ∀ d : Fin 16, escOk (digP up d.val) = true := by cases up <;> decide +kernel
theorem escP_ok (l : Bs) : ∀ x ∈ escP l, escOk x = true := by
  intro x hx
  obtain ⟨c, -, hc⟩ := List.mem_flatMap.1 hx
  have h := UInt8.toNat_lt c
  simp only [escB, List.mem_cons, List.not_mem_nil, or_false] at hc
  rcases hc with rfl | rfl | rfl
  · rfl
  · exact digP_ok false ⟨c.toNat / 16, by omega⟩
  · exact digP_ok true ⟨c.toNat % 16, by omega⟩
theorem escOk_ne {x c : UInt8} (hc : escOk c = false) (h : escOk x = true) : x ≠ c := fun e => by subst e; rw [h] at hc; cases hc
theorem escP_ne (l : Bs) {c : UInt8} (hc : escOk c = false) : ∀ x ∈ escP l, x ≠ c := fun x hx => escOk_ne hc (escP_ok l x hx)
theorem decG_cons {c : UInt8} (hc : c ≠ 37) (r : Bs) : decG (c :: r) = (decG r).map (c :: ·) := by
  match r with
  | [] => simp [decG, hc]
  | [d] => simp [decG, hc]
  | a :: b :: r => simp [decG, hc]
theorem decG_esc : ∀ l : Bs, decG (escP l) = some l
  | [] => rfl
  | c :: l => by
    have h := UInt8.toNat_lt c
    have h1 := dig_hex false ⟨c.toNat / 16, by omega⟩
    have h2 := dig_hex true ⟨c.toNat % 16, by omega⟩
    simp only at h1 h2
    rw [escP_cons, decG, if_pos rfl, h1, h2, if_neg (by omega), decG_esc l]
    have e : (16 * ((c.toNat / 16 : Nat) : Int) + ((c.toNat % 16 : Nat) : Int)).toNat = c.toNat := by omega
    rw [e]
    simp
theorem decV_esc (l : Bs) (ok : Bool) : decV (escP l) ok = (l, ok && validP l) := by
  unfold decV; rw [decG_esc]
theorem valid_slash (l : Bs) : validP (47 :: l) = validP l := by
  rw [validP_eq, validP_eq]
  exact Lib.validD_cons 47 l (by decide)
theorem decV_slash (l : Bs) (ok : Bool) : decV (47 :: escP l) ok = (47 :: l, ok && validP l) := by
  unfold decV; rw [decG_cons (by decide), decG_esc]
  simp [valid_slash]
theorem plusP_none {l : Bs} (h : ∀ x ∈ l, x ≠ 43) : plusP l = l := by
  unfold plusP
  conv => rhs; rw [← List.map_id l]
  exact List.map_congr_left fun x hx => if_neg (h x hx)
def segP (p : Bs × Bs) : Bs := escP p.1 ++ 61 :: escP p.2
theorem segP_ne (p : Bs × Bs) {c : UInt8} (hc : escOk c = false) (h61 : c ≠ 61) : ∀ x ∈ segP p, x ≠ c := by
  intro x hx
  rcases List.mem_append.1 hx with h | h
  · exact escP_ne _ hc x h
  · rcases List.mem_cons.1 h with rfl | h
    · exact h61.symm
    · exact escP_ne _ hc x h
def okP (p : Bs × Bs) : Bool := validP p.1 && validP p.2
theorem pairP_seg (st : List (Bs × Bs) × Bool) (p : Bs × Bs) : pairP st (segP p) = (st.1 ++ [p], st.2 && okP p) := by
  have h1 : segP p ≠ [] := by simp [segP]
  have h2 : plusP (segP p) = segP p := plusP_none (segP_ne p (by decide) (by decide))
  have h3 : Lib.cut (segP p) [61] = (escP p.1, escP p.2, true) := cut_one _ (escP_ne _ (by decide))
  unfold pairP
  rw [if_neg h1]
  simp only [h2, h3, decV_esc, okP, Bool.and_assoc]
def tailQ (ps : List (Bs × Bs)) : Bs := ps.flatMap fun p => 38 :: segP p
/-- a query's text -/
def qryP : List (Bs × Bs) → Bs
  | [] => []
  | p :: ps => 63 :: (segP p ++ tailQ ps)
theorem qryP_snoc (ps : List (Bs × Bs)) (p : Bs × Bs) : qryP (ps ++ [p]) = qryP ps ++ ((if ps = [] then 63 else 38) :: segP p) := by
  cases ps with
  | nil => simp [qryP, tailQ]
  | cons q ps => simp [qryP, tailQ]
theorem splitC_none {c : UInt8} : ∀ {u : Bs}, (∀ x ∈ u, x ≠ c) → splitC c u = [u]
  | [], _ => rfl
  | x :: u, h => by
    unfold splitC
    rw [if_neg (h x (by simp)), splitC_none fun y hy => h y (by simp [hy])]
theorem splitC_app {c : UInt8} (v : Bs) : ∀ {u : Bs}, (∀ x ∈ u, x ≠ c) → splitC c (u ++ c :: v) = u :: splitC c v
  | [], _ => by simp [splitC]
  | x :: u, h => by
    have ih := splitC_app v (u := u) fun y hy => h y (by simp [hy])
    rw [List.cons_append, splitC, if_neg (h x (by simp)), ih]
theorem splitC_tail : ∀ (ps : List (Bs × Bs)) (p : Bs × Bs), splitC 38 (segP p ++ tailQ ps) = segP p :: ps.map segP
  | [], p => by
    have h := splitC_none (segP_ne p (c := 38) (by decide) (by decide))
    simp [tailQ, h]
  | q :: ps, p => by
    have e : tailQ (q :: ps) = 38 :: (segP q ++ tailQ ps) := by simp [tailQ]
    rw [e, splitC_app _ (segP_ne p (by decide) (by decide)), splitC_tail ps q]
    rfl
theorem fold_seg : ∀ (ps : List (Bs × Bs)) (st : List (Bs × Bs) × Bool), (ps.map segP).foldl pairP st = (st.1 ++ ps, st.2 && ps.all okP)
  | [], st => by simp
  | p :: ps, st => by
    rw [List.map_cons, List.foldl_cons, pairP_seg, fold_seg ps]
    simp [Bool.and_assoc]
theorem qryP_in (ps : List (Bs × Bs)) : ∀ x ∈ qryP ps, escOk x = true ∨ x = 38 ∨ x = 61 ∨ x = 63 := by
  have hs : ∀ p : Bs × Bs, ∀ x ∈ segP p, escOk x = true ∨ x = 38 ∨ x = 61 ∨ x = 63 := by
    intro p x hx
    rcases List.mem_append.1 hx with h | h
    · exact Or.inl (escP_ok _ x h)
    · rcases List.mem_cons.1 h with rfl | h
      · simp
      · exact Or.inl (escP_ok _ x h)
  have ht : ∀ ps : List (Bs × Bs), ∀ x ∈ tailQ ps, escOk x = true ∨ x = 38 ∨ x = 61 ∨ x = 63 := by
    intro ps x hx
    obtain ⟨p, -, hp⟩ := List.mem_flatMap.1 hx
    rcases List.mem_cons.1 hp with rfl | h
    · simp
    · exact hs p x h
  intro x hx
  cases ps with
  | nil => simp [qryP] at hx
  | cons p ps =>
    rcases List.mem_cons.1 hx with rfl | h
    · simp
    · rcases List.mem_append.1 h with h | h
      · exact hs p x h
      · exact ht ps x h
def tgtP (path : Bs) (ps : List (Bs × Bs)) : Bs := 47 :: escP path ++ qryP ps
theorem tgt_in (path : Bs) (ps : List (Bs × Bs)) : ∀ x ∈ tgtP path ps, escOk x = true ∨ x = 38 ∨ x = 61 ∨ x = 63 ∨ x = 47 := by
  intro x hx
  rcases List.mem_append.1 hx with h | h
  · rcases List.mem_cons.1 h with rfl | h
    · simp
    · exact Or.inl (escP_ok _ x h)
  · rcases qryP_in ps x h with h | h | h | h <;> simp [h]
theorem ok_range : ∀ c : Fin 256, (escOk (UInt8.ofNat c.val) = true ∨ UInt8.ofNat c.val = 38 ∨ UInt8.ofNat c.val = 61 ∨ UInt8.ofNat c.val = 63 ∨ UInt8.ofNat c.val = 47) → 33 ≤ c.val ∧ c.val ≤ 126 := by decide +kernel
theorem tgt_range (path : Bs) (ps : List (Bs × Bs)) : ∀ x ∈ tgtP path ps, 33 ≤ x.toNat ∧ x.toNat ≤ 126 := by
  intro x hx
  refine ok_range ⟨x.toNat, UInt8.toNat_lt x⟩ ?_
  simp only [UInt8.ofNat_toNat]
  exact tgt_in path ps x hx
/-- is all of it valid? -/
def allOk (path : Bs) (ps : List (Bs × Bs)) : Bool := validP path && ps.all okP
theorem target_mk (path : Bs) (ps : List (Bs × Bs)) : targetP (tgtP path ps) = (47 :: path, ps, allOk path ps) := by
  have ha : (tgtP path ps).any (fun c => decide (c.toNat < 33 ∨ 126 < c.toNat)) = false := by
    rw [List.any_eq_false]
    intro x hx
    have := tgt_range path ps x hx
    simp; omega
  have hp : ∀ x ∈ (47 :: escP path : Bs), x ≠ 63 := by
    intro x hx
    rcases List.mem_cons.1 hx with rfl | h
    · decide
    · exact escP_ne _ (by decide) x h
  have hpre : Lib.hasPrefix (47 :: escP path) [47] = true := by simp [Lib.hasPrefix, List.isPrefixOf]
  unfold targetP
  rw [ha, if_neg (by decide)]
  cases ps with
  | nil =>
    have hc : Lib.cut (tgtP path []) [63] = (47 :: escP path, [], false) := by
      have hi := index_none_skip (c := 63) (t := []) (v := []) rfl hp
      unfold Lib.cut tgtP qryP
      rw [hi, if_neg (by decide)]
      simp
    rw [hc]
    dsimp only
    rw [hpre, decV_slash]
    simp [splitC, pairP, allOk]
  | cons p ps =>
    have hc : Lib.cut (tgtP path (p :: ps)) [63] = (47 :: escP path, segP p ++ tailQ ps, true) := cut_one _ hp
    rw [hc]
    dsimp only
    rw [hpre, decV_slash, splitC_tail, ← List.map_cons (f := segP), fold_seg]
    simp [allOk]
def getS : Bs := [71, 69, 84]
/-- the first line -/
def fstL (path : Bs) (ps : List (Bs × Bs)) : Bs := getS ++ 32 :: (tgtP path ps ++ 32 :: http11)
theorem first_mk (path : Bs) (ps : List (Bs × Bs)) : firstP (fstL path ps) = some (getS, tgtP path ps) := by
  have ht : ∀ x ∈ tgtP path ps, x ≠ 32 := fun x hx e => by
    have := tgt_range path ps x hx
    subst e
    simp at this
  unfold firstP fstL
  rw [splitC_app _ (by decide), splitC_app _ ht, splitC_none (by decide)]
  exact if_pos ⟨rfl, by decide⟩
theorem pair_lines (path : Bs) (ps : List (Bs × Bs)) : Lines [fstL path ps, hostL] := by
  intro l hl
  simp only [List.mem_cons, List.not_mem_nil, or_false] at hl
  rcases hl with rfl | rfl
  · refine ⟨by simp [fstL, getS], fun x hx => ?_⟩
    rcases List.mem_append.1 hx with h | h
    · exact (by decide : ∀ x ∈ getS, x ≠ 13) x h
    · rcases List.mem_cons.1 h with rfl | h
      · decide
      · rcases List.mem_append.1 h with h | h
        · intro e
          have := tgt_range path ps x h
          subst e
          simp at this
        · exact (by decide : ∀ x ∈ (32 :: http11 : Bs), x ≠ 13) x h
  · exact ⟨by decide, by unfold NoCr; decide⟩
theorem pair_read (path : Bs) (ps : List (Bs × Bs)) : readL (fstL path ps) [hostL] = ⟨getS, 47 :: path, ps, 0, false, allOk path ps⟩ := by
  unfold readL
  rw [first_mk]
  dsimp only
  rw [target_mk]
  simp only [List.foldl_cons, List.foldl_nil]
  cases h : allOk path ps with
  | true => simp only [host_step]; rfl
  | false => rfl
def pairS (path : Bs) (ps : List (Bs × Bs)) : Bs := hdP [fstL path ps, hostL] ++ (crlf ++ [])
theorem pairS_len (path : Bs) (ps : List (Bs × Bs)) : (pairS path ps).length = (hdP [fstL path ps, hostL]).length + 2 := by simp [pairS, crlf]
theorem parse_pair (path : Bs) (ps : List (Bs × Bs)) : parseP (pairS path ps) = if 2048 < (pairS path ps).length then .error 61 else if allOk path ps = false then .error 60 else .ok (⟨getS, 47 :: path, ps, []⟩, (pairS path ps).length) := by
  rw [pairS_len]
  unfold pairS
  rw [parseP_mk _ _ _ (pair_lines path ps), pair_read]
  simp only [bodyP, plainP]
  rw [if_neg (by simp : ¬ (false = true)), if_neg (by omega : ¬ (8192 < 0)), if_neg (by simp : ¬ ([] : Bs).length < 0)]
  rfl
end Garner
