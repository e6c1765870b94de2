import Derived.Test.YtcjapjnhejenaaaDoorHtP
/-! Layer 26, plain: what stands behind a request isn't looked at; what isn't too short is told of all that begins so. -/
namespace Garner
open Go

theorem index_pos {s sub : Bs} (h : 0 ≤ Lib.index s sub) : ∃ i : Nat, Lib.index s sub = i ∧ i ≤ s.length ∧ Lib.occAt s sub i = true ∧ ∀ j, j < i → Lib.occAt s sub j = false := by
  rcases Lib.index_spec s sub with ⟨e, -⟩ | ⟨i, e, hi, ho, hn⟩
  · omega
  · exact ⟨i, e, hi, ho, hn⟩
theorem occAt_app {b m sub : Bs} {i : Nat} (hi : i + sub.length ≤ b.length) : Lib.occAt (b ++ m) sub i = Lib.occAt b sub i := by
  rw [Lib.occAt_iff_take _ _ _ (by rw [List.length_append]; omega), Lib.occAt_iff_take _ _ _ hi, List.drop_append_of_le_length (by omega), List.take_append_of_le_length (by rw [List.length_drop]; omega)]
theorem index_app {b sub : Bs} (m : Bs) (h : 0 ≤ Lib.index b sub) : Lib.index (b ++ m) sub = Lib.index b sub := by
  obtain ⟨i, e, hi, ho, hn⟩ := index_pos h
  have hr := Lib.index_room b sub h
  rw [e] at hr ⊢
  refine Lib.index_first (by rw [List.length_append]; omega) ?_ fun j hj => ?_
  · rw [occAt_app (by omega)]; exact ho
  · rw [occAt_app (by omega)]; exact hn j hj
theorem index_app_miss {b m sub : Bs} (h : Lib.index b sub < 0) (h2 : 0 ≤ Lib.index (b ++ m) sub) : (b.length : Int) < Lib.index (b ++ m) sub + sub.length := by
  obtain ⟨i, e, hi, ho, hn⟩ := index_pos h2
  rw [e]
  rcases Nat.lt_or_ge b.length (i + sub.length) with hl | hl
  · omega
  · rw [occAt_app hl] at ho
    rcases Lib.index_spec b sub with ⟨-, hnone⟩ | ⟨i', e', -⟩
    · rw [hnone i (by omega)] at ho; cases ho
    · omega

theorem expectP_app : ∀ (r w m : Bs), expectP r w ≠ 5 → expectP (r ++ m) w = expectP r w
  | r, [], m, _ => by simp [expectP]
  | [], _ :: _, m, h => by simp [expectP] at h
  | x :: r, y :: w, m, h => by
    simp only [List.cons_append, expectP] at h ⊢
    split
    · rename_i e; rw [if_pos e] at h; exact expectP_app r w m h
    · rfl
theorem expectP_ok : ∀ {r w : Bs}, expectP r w = 0 → ∃ v, r = w ++ v
  | r, [], _ => ⟨r, rfl⟩
  | [], _ :: _, h => by simp [expectP] at h
  | x :: r, y :: w, h => by
    simp only [expectP] at h
    split at h
    · rename_i e
      obtain ⟨v, rfl⟩ := expectP_ok h
      exact ⟨v, by rw [e]; rfl⟩
    · cases h
theorem expectP_mk : ∀ (w v : Bs), expectP (w ++ v) w = 0
  | [], v => by simp [expectP]
  | y :: w, v => by simp [expectP, expectP_mk w v]

def isHex (c : UInt8) : Bool := decide (0 ≤ hexP c)
theorem hexRun_all : ∀ {ds v : Bs}, (∀ c ∈ ds, isHex c = true) → (∀ x t, v = x :: t → isHex x = false) → hexRun (ds ++ v) = ds
  | [], v, _, hv => by
    cases v with
    | nil => rfl
    | cons x t =>
      have := hv x t rfl
      unfold isHex at this
      unfold hexRun
      simp only [List.nil_append, List.takeWhile_cons, this]
      rfl
  | c :: ds, v, h, hv => by
    have hc := h c (by simp)
    have ih := hexRun_all (ds := ds) (v := v) (fun x hx => h x (by simp [hx])) hv
    unfold isHex at hc
    unfold hexRun at ih ⊢
    simp only [List.cons_append, List.takeWhile_cons, hc, if_true, ih]
theorem hexRun_split : ∀ r : Bs, ∃ ds v, r = ds ++ v ∧ (∀ c ∈ ds, isHex c = true) ∧ (∀ x t, v = x :: t → isHex x = false)
  | [] => ⟨[], [], rfl, by simp, by simp⟩
  | c :: r => by
    cases hc : isHex c
    · exact ⟨[], c :: r, rfl, by simp, fun x t e => by injection e with e1 _; rw [← e1]; exact hc⟩
    · obtain ⟨ds, v, rfl, h1, h2⟩ := hexRun_split r
      refine ⟨c :: ds, v, rfl, fun x hx => ?_, h2⟩
      rcases List.mem_cons.1 hx with rfl | hx
      · exact hc
      · exact h1 x hx
theorem isHex_cr : isHex 13 = false := by decide
theorem sizeP_mk {ds : Bs} (v : Bs) (h : ∀ c ∈ ds, isHex c = true) (h1 : 1 ≤ ds.length) (h8 : ds.length ≤ 8) : sizeP (ds ++ (crlf ++ v)) = .ok (hexN ds 0, ds.length) := by
  have e : hexRun (ds ++ (crlf ++ v)) = ds := hexRun_all h fun x t e => by
    have : x = 13 := by injection e with e1 _; exact e1.symm
    rw [this]; exact isHex_cr
  unfold sizeP
  simp only [e]
  rw [if_neg (by omega), if_neg (by omega), List.drop_left' rfl, expectP_mk, if_pos rfl]
theorem sizeP_ok {r : Bs} {n k : Nat} (h : sizeP r = .ok (n, k)) : ∃ ds v, r = ds ++ (crlf ++ v) ∧ (∀ c ∈ ds, isHex c = true) ∧ 1 ≤ ds.length ∧ ds.length ≤ 8 ∧ n = hexN ds 0 ∧ k = ds.length := by
  obtain ⟨ds, v, rfl, h1, h2⟩ := hexRun_split r
  have e := hexRun_all h1 h2
  unfold sizeP at h
  simp only [e] at h
  by_cases a : 8 < ds.length
  · rw [if_pos a] at h; cases h
  rw [if_neg a] at h
  by_cases b : ds.length = 0 ∧ ds ++ v ≠ []
  · rw [if_pos b] at h; cases h
  rw [if_neg b, List.drop_left' rfl] at h
  by_cases c : expectP v crlf = 0
  · rw [if_pos c] at h
    injection h with h
    injection h with ha hb
    obtain ⟨u, rfl⟩ := expectP_ok c
    refine ⟨ds, u, rfl, h1, ?_, by omega, ha.symm, hb.symm⟩
    rcases Nat.eq_zero_or_pos ds.length with h0 | h0
    · exact absurd ⟨h0, by simp [crlf]⟩ b
    · exact h0
  · rw [if_neg c] at h; cases h
theorem sizeP_app {r m : Bs} (h : sizeP r ≠ .error 5) : sizeP (r ++ m) = sizeP r := by
  obtain ⟨ds, v, rfl, h1, h2⟩ := hexRun_split r
  have e := hexRun_all h1 h2
  cases v with
  | nil =>
    rw [List.append_nil] at e h ⊢
    obtain ⟨ds2, v2, hm, k1, k2⟩ := hexRun_split m
    have e2 : hexRun (ds ++ m) = ds ++ ds2 := by
      rw [hm, ← List.append_assoc]
      refine hexRun_all (fun c hc => ?_) k2
      rcases List.mem_append.1 hc with hc | hc
      · exact h1 c hc
      · exact k1 c hc
    unfold sizeP at h ⊢
    simp only [e, e2] at h ⊢
    by_cases a : 8 < ds.length
    · rw [if_pos a, if_pos (by rw [List.length_append]; omega)]
    · exfalso
      apply h
      rw [if_neg a, if_neg (by rintro ⟨x, y⟩; exact y (List.eq_nil_of_length_eq_zero x)), List.drop_eq_nil_of_le (Nat.le_refl _)]
      rfl
  | cons x t =>
    have e2 : hexRun (ds ++ x :: t ++ m) = ds := by
      rw [List.append_assoc]
      refine hexRun_all h1 fun y s e => ?_
      injection e with e1 _
      exact h2 y t (by rw [e1])
    unfold sizeP at h ⊢
    simp only [e, e2] at h ⊢
    by_cases a : 8 < ds.length
    · rw [if_pos a, if_pos a]
    rw [if_neg a] at h ⊢
    rw [if_neg a]
    by_cases b : ds.length = 0
    · rw [if_pos ⟨b, by simp⟩, if_pos ⟨b, by simp⟩]
    simp only [b, false_and, if_false] at h ⊢
    rw [List.append_assoc, List.drop_left' rfl]
    rw [List.drop_left' rfl] at h ⊢
    have h5 : expectP (x :: t) crlf ≠ 5 := by
      intro e5
      rw [e5] at h
      exact h rfl
    rw [expectP_app _ _ _ h5]

theorem plainP_app {r : Bs} {at_ n : Nat} (m : Bs) (h : plainP r at_ n ≠ .error 5) : plainP (r ++ m) at_ n = plainP r at_ n := by
  unfold plainP at h ⊢
  by_cases a : 8192 < n
  · rw [if_pos a, if_pos a]
  rw [if_neg a] at h ⊢
  rw [if_neg a]
  by_cases b : r.length < n
  · rw [if_pos b] at h; exact absurd rfl h
  rw [if_neg b, if_neg (by rw [List.length_append]; omega), List.take_append_of_le_length (by omega)]
theorem chunksP_app : ∀ {fuel : Nat} {r out : Bs} {at_ : Nat} (m : Bs) {f2 : Nat}, fuel ≤ f2 → chunksP fuel r out at_ ≠ .error 5 → chunksP f2 (r ++ m) out at_ = chunksP fuel r out at_
  | 0, r, out, at_, m, f2, _, h => absurd rfl h
  | fuel + 1, r, out, at_, m, 0, hf, _ => by omega
  | fuel + 1, r, out, at_, m, f2 + 1, hf, h => by
    unfold chunksP at h ⊢
    have hs : sizeP r ≠ .error 5 := by
      intro e
      rw [e] at h
      exact h rfl
    rw [sizeP_app hs]
    cases hz : sizeP r with
    | error e => rfl
    | ok nk =>
      obtain ⟨n, k⟩ := nk
      rw [hz] at h
      obtain ⟨ds, v, rfl, -, -, -, -, rfl⟩ := sizeP_ok hz
      have e1 : (ds ++ (crlf ++ v)).drop (ds.length + 2) = v := by
        rw [← List.append_assoc]; exact List.drop_left' (by simp [crlf])
      have e2 : (ds ++ (crlf ++ v) ++ m).drop (ds.length + 2) = v ++ m := by
        rw [show ds ++ (crlf ++ v) ++ m = (ds ++ crlf) ++ (v ++ m) by simp]; exact List.drop_left' (by simp [crlf])
      simp only [e1, e2] at h ⊢
      by_cases a : 8192 < out.length + n
      · rw [if_pos a, if_pos a]
      rw [if_neg a] at h ⊢
      rw [if_neg a]
      by_cases b : v.length < n
      · rw [if_pos b] at h; exact absurd rfl h
      rw [if_neg b] at h ⊢
      rw [if_neg (by rw [List.length_append]; omega), List.drop_append_of_le_length (by omega)]
      have h5 : expectP (v.drop n) crlf ≠ 5 := by
        intro e5
        rw [e5, if_pos (by decide)] at h
        exact h rfl
      rw [expectP_app _ _ _ h5]
      by_cases c : expectP (v.drop n) crlf ≠ 0
      · rw [if_pos c, if_pos c]
      rw [if_neg c] at h ⊢
      rw [if_neg c]
      by_cases d : n = 0
      · rw [if_pos d, if_pos d]
      rw [if_neg d] at h ⊢
      rw [if_neg d]
      obtain ⟨u, hu⟩ := expectP_ok (Decidable.not_not.1 c)
      have hl : n + 2 ≤ v.length := by
        have := congrArg List.length hu
        simp [crlf] at this
        omega
      rw [List.drop_append_of_le_length hl, List.take_append_of_le_length (by omega)]
      exact chunksP_app m (by omega) h

/-- a request whose head is there: n bytes and the empty line -/
theorem parseP_head {b : Bs} {n : Nat} (h : Lib.index b crlf2 = n) : n + 4 ≤ b.length ∧ parseP b = if 2048 < n + 4 then .error 61 else
    if (readP (b.take (n + 2))).ok = false then .error 60 else
    match bodyP (readP (b.take (n + 2))) (b.drop (n + 4)) (n + 4) with
    | .error e => .error e
    | .ok (body, to) => .ok (⟨(readP (b.take (n + 2))).method, (readP (b.take (n + 2))).path, (readP (b.take (n + 2))).query, body⟩, to) := by
  have hr := Lib.index_room b crlf2 (by omega)
  have h4 : crlf2.length = 4 := rfl
  refine ⟨by omega, ?_⟩
  unfold parseP
  rw [if_neg (by omega), h]
  rfl
theorem bodyP_app {h : HeadP} {r : Bs} {at_ : Nat} (m : Bs) (hn : bodyP h r at_ ≠ .error 5) : bodyP h (r ++ m) at_ = bodyP h r at_ := by
  unfold bodyP at hn ⊢
  split
  · rename_i hc
    rw [if_pos hc] at hn
    exact chunksP_app m (by simp) hn
  · rename_i hc
    rw [if_neg hc] at hn
    exact plainP_app m hn
/-- what isn't too short is told of all bytes that begin so -/
theorem parseP_app {b : Bs} (m : Bs) (h : parseP b ≠ .error 5) : parseP (b ++ m) = parseP b := by
  by_cases hi : Lib.index b crlf2 < 0
  · have e : parseP b = .error (if b.length < 2048 then 5 else 61) := by unfold parseP; rw [if_pos hi]
    rw [e] at h ⊢
    have hl : ¬ b.length < 2048 := fun hl => by rw [if_pos hl] at h; exact h rfl
    rw [if_neg hl]
    by_cases h2 : Lib.index (b ++ m) crlf2 < 0
    · unfold parseP
      rw [if_pos h2, if_neg (by rw [List.length_append]; omega)]
    · have := index_app_miss hi (by omega : 0 ≤ Lib.index (b ++ m) crlf2)
      obtain ⟨n, hn⟩ : ∃ n : Nat, Lib.index (b ++ m) crlf2 = n := ⟨(Lib.index (b ++ m) crlf2).toNat, by omega⟩
      rw [(parseP_head hn).2, if_pos]
      have h4 : crlf2.length = 4 := rfl
      omega
  · obtain ⟨n, hn⟩ : ∃ n : Nat, Lib.index b crlf2 = n := ⟨(Lib.index b crlf2).toNat, by omega⟩
    obtain ⟨hl, e⟩ := parseP_head hn
    obtain ⟨-, e2⟩ := parseP_head (b := b ++ m) (n := n) (by rw [index_app m (by omega), hn])
    rw [e] at h ⊢
    rw [e2, List.take_append_of_le_length (by omega), List.drop_append_of_le_length (by omega)]
    by_cases a : 2048 < n + 4
    · rw [if_pos a, if_pos a]
    rw [if_neg a] at h ⊢
    rw [if_neg a]
    by_cases c : (readP (b.take (n + 2))).ok = false
    · rw [if_pos c, if_pos c]
    rw [if_neg c] at h ⊢
    rw [if_neg c, bodyP_app m]
    intro e5
    rw [e5] at h
    exact h rfl
theorem plainP_ok {r body : Bs} {at_ n to : Nat} (h : plainP r at_ n = .ok (body, to)) : ∃ u v, r = u ++ v ∧ to = at_ + u.length ∧ ∀ v', plainP (u ++ v') at_ n = .ok (body, to) := by
  unfold plainP at h
  by_cases a : 8192 < n
  · rw [if_pos a] at h; cases h
  rw [if_neg a] at h
  by_cases b : r.length < n
  · rw [if_pos b] at h; cases h
  rw [if_neg b] at h
  injection h with h
  injection h with h1 h2
  have hl : (r.take n).length = n := by rw [List.length_take]; omega
  refine ⟨r.take n, r.drop n, by simp, by omega, fun v' => ?_⟩
  unfold plainP
  rw [if_neg a, if_neg (by rw [List.length_append]; omega), List.take_left' hl, h1, h2]
theorem chunksP_ok : ∀ {fuel : Nat} {r out body : Bs} {at_ to : Nat}, chunksP fuel r out at_ = .ok (body, to) → ∃ u v, r = u ++ v ∧ to = at_ + u.length ∧ ∀ v' f2, fuel ≤ f2 → chunksP f2 (u ++ v') out at_ = .ok (body, to)
  | 0, r, out, body, at_, to, h => by cases h
  | fuel + 1, r, out, body, at_, to, h => by
    unfold chunksP at h
    cases hz : sizeP r with
    | error e => rw [hz] at h; cases h
    | ok nk =>
      obtain ⟨n, k⟩ := nk
      rw [hz] at h
      obtain ⟨ds, v, rfl, hd, hd1, hd8, hn, rfl⟩ := sizeP_ok hz
      have e1 : (ds ++ (crlf ++ v)).drop (ds.length + 2) = v := by
        rw [← List.append_assoc]; exact List.drop_left' (by simp [crlf])
      simp only [e1] at h
      by_cases a : 8192 < out.length + n
      · rw [if_pos a] at h; cases h
      rw [if_neg a] at h
      by_cases b : v.length < n
      · rw [if_pos b] at h; cases h
      rw [if_neg b] at h
      by_cases c : expectP (v.drop n) crlf ≠ 0
      · rw [if_pos c] at h; cases h
      rw [if_neg c] at h
      obtain ⟨w, hw⟩ := expectP_ok (Decidable.not_not.1 c)
      have hvn : v = v.take n ++ (crlf ++ w) := by rw [← hw, List.take_append_drop]
      have hvl : (v.take n).length = n := by rw [List.length_take]; omega
      have h2 : v.drop (n + 2) = w := by
        rw [hvn, ← List.append_assoc]; exact List.drop_left' (by simp [crlf]; omega)
      have step : ∀ (q : Bs) (f2 : Nat), chunksP (f2 + 1) (ds ++ crlf ++ v.take n ++ crlf ++ q) out at_ = if n = 0 then .ok (out, at_ + ds.length + 4) else chunksP f2 q (out ++ v.take n) (at_ + ds.length + n + 4) := fun q f2 => by
        conv => lhs; unfold chunksP
        rw [show ds ++ crlf ++ v.take n ++ crlf ++ q = ds ++ (crlf ++ (v.take n ++ (crlf ++ q))) by simp, sizeP_mk _ hd hd1 hd8, ← hn]
        have e3 : (ds ++ (crlf ++ (v.take n ++ (crlf ++ q)))).drop (ds.length + 2) = v.take n ++ (crlf ++ q) := by
          rw [← List.append_assoc]; exact List.drop_left' (by simp [crlf])
        simp only [e3]
        rw [if_neg a, if_neg (by rw [List.length_append]; omega), List.drop_left' hvl, expectP_mk, if_neg (by decide), List.take_left' hvl]
        have e4 : (v.take n ++ (crlf ++ q)).drop (n + 2) = q := by
          rw [← List.append_assoc]; exact List.drop_left' (by simp [crlf]; omega)
        rw [e4]
      by_cases d : n = 0
      · rw [if_pos d] at h
        injection h with h
        injection h with ha hb
        refine ⟨ds ++ crlf ++ v.take n ++ crlf, w, by rw [hvn]; simp [d], ?_, fun v' f2 hf => ?_⟩
        · simp only [List.length_append, hvl]; simp [crlf]; omega
        · obtain ⟨f3, rfl⟩ : ∃ f3, f2 = f3 + 1 := ⟨f2 - 1, by omega⟩
          rw [step, if_pos d, ha, hb]
      · rw [if_neg d, h2] at h
        obtain ⟨u, x, hu, hto, hall⟩ := chunksP_ok h
        refine ⟨ds ++ crlf ++ v.take n ++ crlf ++ u, x, ?_, ?_, fun v' f2 hf => ?_⟩
        · rw [hvn, hu]; simp [hvl]
        · simp only [List.length_append, hvl]; simp [crlf]; omega
        · obtain ⟨f3, rfl⟩ : ∃ f3, f2 = f3 + 1 := ⟨f2 - 1, by omega⟩
          rw [List.append_assoc _ u v', step, if_neg d]
          exact hall v' f3 (by omega)
/-- there is fuel enough -/
theorem chunksP_fuel : ∀ {f : Nat} {r out : Bs} {at_ f2 : Nat}, r.length < f → r.length < f2 → chunksP f r out at_ = chunksP f2 r out at_
  | 0, _, _, _, _, h, _ => by omega
  | _ + 1, _, _, _, 0, _, h => by omega
  | f + 1, r, out, at_, f2 + 1, h1, h2 => by
    unfold chunksP
    cases hz : sizeP r with
    | error e => rfl
    | ok nk =>
      obtain ⟨n, k⟩ := nk
      obtain ⟨ds, v, rfl, hd, hd1, hd8, hn, rfl⟩ := sizeP_ok hz
      have e1 : (ds ++ (crlf ++ v)).drop (ds.length + 2) = v := by
        rw [← List.append_assoc]; exact List.drop_left' (by simp [crlf])
      simp only [e1]
      split
      · rfl
      · split
        · rfl
        · split
          · rfl
          · split
            · rfl
            · refine chunksP_fuel ?_ ?_ <;> (simp [crlf] at h1 h2 ⊢; omega)
theorem bodyP_ok {h : HeadP} {r body : Bs} {at_ to : Nat} (hb : bodyP h r at_ = .ok (body, to)) : ∃ u v, r = u ++ v ∧ to = at_ + u.length ∧ bodyP h u at_ = .ok (body, to) := by
  unfold bodyP at hb ⊢
  split at hb
  · rename_i hc
    obtain ⟨u, v, rfl, hto, hall⟩ := chunksP_ok hb
    refine ⟨u, v, rfl, hto, ?_⟩
    rw [if_pos hc]
    have h1 := hall [] ((u ++ v).length + 1) (Nat.le_refl _)
    rw [List.append_nil] at h1
    have := chunksP_fuel (f := u.length + 1) (f2 := (u ++ v).length + 1) (r := u) (out := []) (at_ := at_) (by omega) (by rw [List.length_append]; omega)
    rw [this, h1]
  · rename_i hc
    obtain ⟨u, v, rfl, hto, hall⟩ := plainP_ok hb
    refine ⟨u, v, rfl, hto, ?_⟩
    rw [if_neg hc]
    have := hall []
    rwa [List.append_nil] at this
theorem index_take {b sub : Bs} {i k : Nat} (h : Lib.index b sub = i) (hk : i + sub.length ≤ k) : Lib.index (b.take k) sub = i := by
  obtain ⟨j, e, hi, ho, hn⟩ := index_pos (by omega : 0 ≤ Lib.index b sub)
  obtain rfl : j = i := by omega
  have hr := Lib.index_room b sub (by omega)
  have hl : (b.take k).length = min k b.length := List.length_take
  refine Lib.index_first (by rw [hl]; omega) ?_ fun x hx => ?_
  · rw [← occAt_app (m := b.drop k) (by rw [hl]; omega), List.take_append_drop]; exact ho
  · rw [← occAt_app (m := b.drop k) (by rw [hl]; omega), List.take_append_drop]; exact hn x hx
theorem parseP_ok {b : Bs} {q : ReqP} {n : Nat} (h : parseP b = .ok (q, n)) : 0 < n ∧ n ≤ b.length ∧ parseP (b.take n) = .ok (q, n) := by
  by_cases hi : Lib.index b crlf2 < 0
  · unfold parseP at h
    rw [if_pos hi] at h; cases h
  obtain ⟨i, hx⟩ : ∃ i : Nat, Lib.index b crlf2 = i := ⟨(Lib.index b crlf2).toNat, by omega⟩
  have h4 : crlf2.length = 4 := rfl
  obtain ⟨hl, e⟩ := parseP_head hx
  rw [e] at h
  by_cases a : 2048 < i + 4
  · rw [if_pos a] at h; cases h
  rw [if_neg a] at h
  by_cases c : (readP (b.take (i + 2))).ok = false
  · rw [if_pos c] at h; cases h
  rw [if_neg c] at h
  cases hb : bodyP (readP (b.take (i + 2))) (b.drop (i + 4)) (i + 4) with
  | error e => rw [hb] at h; cases h
  | ok p =>
    obtain ⟨body, to⟩ := p
    rw [hb] at h
    obtain ⟨u, v, huv, rfl, hu⟩ := bodyP_ok hb
    injection h with h
    injection h with h1 h2
    have hlen : b.length = i + 4 + (u.length + v.length) := by
      have := congrArg List.length huv
      rw [List.length_drop, List.length_append] at this
      omega
    have hsplit : b = b.take (i + 4) ++ (u ++ v) := by rw [← huv, List.take_append_drop]
    have htake : b.take n = b.take (i + 4) ++ u := by
      conv => lhs; rw [hsplit, ← List.append_assoc]
      refine List.take_left' ?_
      rw [List.length_append, List.length_take]; omega
    refine ⟨by omega, by omega, ?_⟩
    have hx2 := index_take hx (k := n) (by omega)
    obtain ⟨-, e2⟩ := parseP_head hx2
    have t1 : (b.take n).take (i + 2) = b.take (i + 2) := by rw [List.take_take, Nat.min_eq_left (by omega)]
    have t2 : (b.take n).drop (i + 4) = u := by
      rw [htake]; exact List.drop_left' (by rw [List.length_take]; omega)
    rw [e2, if_neg a, t1, if_neg c, t2, hu]
    simp only [h1, h2]
/-- of a request's bytes each shorter beginning is too short; what stands behind isn't looked at -/
theorem parseP_cut {b : Bs} {q : ReqP} {n : Nat} (h : parseP b = .ok (q, n)) (k : Nat) : parseP (b.take k) = if n ≤ k then .ok (q, n) else .error 5 := by
  obtain ⟨h0, hl, ht⟩ := parseP_ok h
  split
  · rename_i hk
    have e : b.take k = b.take n ++ (b.take k).drop n := by
      have := List.take_append_drop n (b.take k)
      rw [List.take_take, Nat.min_eq_left hk] at this
      exact this.symm
    rw [e, parseP_app _ (by rw [ht]; simp), ht]
  · rename_i hk
    by_cases hs : parseP (b.take k) = .error 5
    · exact hs
    · exfalso
      have h1 := parseP_app (b.drop k) hs
      rw [List.take_append_drop, h] at h1
      have := (parseP_ok h1.symm).2.1
      rw [List.length_take] at this
      omega
end Garner
