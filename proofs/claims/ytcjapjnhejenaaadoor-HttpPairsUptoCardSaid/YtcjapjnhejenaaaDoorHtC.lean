import Derived.Test.YtcjapjnhejenaaaDoorHtB
/-! http: plain, chunks -/
namespace Go.Proofs.YtcjapjnhejenaaaDoor
open Go.RowKit Garner

/-- what a body's reader answers -/
def BodyIs (w : World) (B : Nat) (v : Value) (tz e : Nat) : Except Nat (Bs × Nat) → Prop
  | .error x => x = e ∧ e ≠ 0 ∧ v = .slice none 0 0 ∧ tz = 0
  | .ok (body, t) => e = 0 ∧ t = tz ∧ OwnB w B v body
set_option maxHeartbeats 2000000 in
set_option maxRecDepth 100000 in
theorem vPlain (b : Bs) (A : Option Addr) (c B at_ n : Nat) (w : World) (hr : Bytes w B A b.length b) (hB : B ≤ w.heap.size) (hl : b.length ≤ 140737488355328) (hc : b.length ≤ c) (hat : at_ ≤ b.length) (hn : n ≤ 1099511627776) :
    Calls Tryd.prog 18 #[.slice A b.length c, .int .i64 at_, .int .i64 n] w fun e w' => ∃ v tz x, e = .returned (.tuple #[v, .int .i64 (tz : Nat), .int .i64 (x : Nat)]) ∧ BodyIs w' w.heap.size v tz x (plainP (b.drop at_) at_ n) ∧ Below w.heap.size w w' := by
  obtain ⟨ANS, hANS⟩ : ∃ ANS, plainP (b.drop at_) at_ n = ANS := ⟨_, rfl⟩
  have hA2 := hANS
  unfold plainP at hA2
  rw [List.length_drop] at hA2
  have HA := Lib.hid hA2; clear hA2
  rw [hANS]
  clear hANS
  have wsub : IntKind.i64.wrap ((b.length : Int) - (at_ : Int)) = ((b.length - at_ : Nat) : Int) := by rw [IntKind.wrap_i64]; omega
  have wadd : IntKind.i64.wrap ((at_ : Int) + (n : Int)) = ((at_ + n : Nat) : Int) := by rw [IntKind.wrap_i64]; omega
  by_cases a : 8192 < n
  · have z1 : (8192 : Int) < (n : Int) := by omega
    have h2 := HA.out
    rw [if_pos a] at h2
    subst h2
    go_enter Tryd.func18, Tryd.ntmps18
    go_wp2
    refine bodyPost_ret (v := .tuple #[.slice none 0 0, .int .i64 (0 : Nat), .int .i64 (62 : Nat)]) ?_ rfl ⟨_, _, _, rfl, ⟨rfl, by decide, rfl, rfl⟩, Below.refl _ _⟩
    simp [results, Tryd.results18, go_sem]
  have z1 : ¬ (8192 : Int) < (n : Int) := by omega
  by_cases d : b.length - at_ < n
  · have z2 : ((b.length - at_ : Nat) : Int) < (n : Int) := by omega
    have h2 := HA.out
    rw [if_neg a, if_pos d] at h2
    subst h2
    go_enter Tryd.func18, Tryd.ntmps18
    go_wp2
    refine bodyPost_ret (v := .tuple #[.slice none 0 0, .int .i64 (0 : Nat), .int .i64 (5 : Nat)]) ?_ rfl ⟨_, _, _, rfl, ⟨rfl, by decide, rfl, rfl⟩, Below.refl _ _⟩
    simp [results, Tryd.results18, go_sem]
  have z2 : ¬ ((b.length - at_ : Nat) : Int) < (n : Int) := by omega
  have h2 := HA.out
  rw [if_neg a, if_neg d] at h2
  subst h2
  obtain ⟨l, hll⟩ : ∃ l, l = (b.drop at_).take n := ⟨_, rfl⟩
  have hlen : l.length = n := by rw [hll, List.length_take, List.length_drop]; omega
  obtain ⟨tz, htz⟩ : ∃ tz, tz = at_ + n := ⟨_, rfl⟩
  rw [← hll, ← htz]
  rw [← htz] at wadd
  have y1 : (0 : Int) ≤ (at_ : Int) := by omega
  have y2 : (at_ : Int) ≤ (tz : Int) := by omega
  have y3 : (tz : Int) ≤ (c : Int) := by omega
  have hsub : tz - at_ = n := by omega
  have fin : ∀ (A' : Option Addr) (c' : Nat), Bytes w B A' l.length l → Calls Tryd.prog 36 #[.slice A' n c'] w fun e w' => ∃ v, e = .returned v ∧ OwnB w' w.heap.size v l ∧ Below w.heap.size w w' := fun A' c' h => by
    have := vClone l A' c' B w h hB (by omega)
    rwa [hlen] at this
  have row : ∀ A', (0 < n → ∃ bk off, A = some ⟨bk, off, none⟩ ∧ A' = some ⟨bk, off + at_, none⟩) → Bytes w B A' l.length l := fun A' h => by
    rcases Nat.eq_zero_or_pos n with h0 | h0
    · have : l = [] := List.eq_nil_of_length_eq_zero (by omega)
      rw [this]; exact Row.none_
    · obtain ⟨bk, off, e1, e2⟩ := h h0
      have := hr.cut (lo := at_) (hi := tz) (by omega) (by omega) e1
      rw [hsub, ← List.map_drop, ← List.map_take, ← hll, ← hlen] at this
      rw [e2]; exact this
  have Htz := Lib.hid htz; clear htz
  have Hll := Lib.hid hll; clear hll
  cases A with
  | none =>
    have hb0 : b.length = 0 := by
      rcases Nat.eq_zero_or_pos b.length with h | h
      · exact h
      · obtain ⟨_, _, h, _⟩ := hr.2 h; cases h
    have hat0 : at_ = 0 := by omega
    have hn0 : n = 0 := by omega
    have htz0 : tz = 0 := by have := Htz.out; omega
    subst hat0 hn0 htz0
    have f0 := fin none c (row none (fun h => absurd h (by omega)))
    clear fin row hB
    go_enter Tryd.func18, Tryd.ntmps18
    go_wp2_with fail
    refine f0.mono ?_
    rintro e w2 ⟨v, rfl, hown, hb⟩
    go_wp2
    refine bodyPost_ret (v := .tuple #[v, .int .i64 (0 : Nat), .int .i64 (0 : Nat)]) ?_ rfl ⟨_, _, _, rfl, ⟨rfl, rfl, hown⟩, hb⟩
    simp [results, Tryd.results18, go_sem]
  | some ad =>
    rcases Nat.eq_zero_or_pos b.length with hb0 | hb0
    · have hat0 : at_ = 0 := by omega
      have hn0 : n = 0 := by omega
      have htz0 : tz = 0 := by have := Htz.out; omega
      subst hat0 hn0 htz0
      have f0 := fun A' c' => fin A' c' (row A' (fun h => absurd h (by omega)))
      clear fin row hB
      by_cases hc0 : c = 0
      · subst hc0
        go_enter Tryd.func18, Tryd.ntmps18
        go_wp2_with fail
        refine (f0 _ _).mono ?_
        rintro e w2 ⟨v, rfl, hown, hb⟩
        go_wp2
        refine bodyPost_ret (v := .tuple #[v, .int .i64 (0 : Nat), .int .i64 (0 : Nat)]) ?_ rfl ⟨_, _, _, rfl, ⟨rfl, rfl, hown⟩, hb⟩
        simp [results, Tryd.results18, go_sem]
      · go_enter Tryd.func18, Tryd.ntmps18
        go_wp2_with fail
        refine (f0 _ _).mono ?_
        rintro e w2 ⟨v, rfl, hown, hb⟩
        go_wp2
        refine bodyPost_ret (v := .tuple #[v, .int .i64 (0 : Nat), .int .i64 (0 : Nat)]) ?_ rfl ⟨_, _, _, rfl, ⟨rfl, rfl, hown⟩, hb⟩
        simp [results, Tryd.results18, go_sem]
    · obtain ⟨bk, off, e1, -, -⟩ := hr.2 hb0
      cases e1
      by_cases hca : c = at_
      · have hn0 : n = 0 := by omega
        have htz0 : tz = at_ := by have := Htz.out; omega
        subst hn0 htz0 hca
        have f0 := fun A' c' => fin A' c' (row A' (fun h => absurd h (by omega)))
        clear fin row hB
        go_enter Tryd.func18, Tryd.ntmps18
        go_wp2_with fail
        refine (f0 _ _).mono ?_
        rintro e w2 ⟨v, rfl, hown, hb⟩
        go_wp2
        refine bodyPost_ret (v := .tuple #[v, .int .i64 (_ : Nat), .int .i64 (0 : Nat)]) ?_ rfl ⟨_, _, _, rfl, ⟨rfl, rfl, hown⟩, hb⟩
        simp [results, Tryd.results18, go_sem]
      · have f0 := fin (some ⟨bk, off + at_, none⟩) (c - at_) (row _ (fun h => ⟨bk, off, rfl, rfl⟩))
        clear fin row hB
        go_enter Tryd.func18, Tryd.ntmps18
        go_wp2_with fail
        refine f0.mono ?_
        rintro e w2 ⟨v, rfl, hown, hb⟩
        go_wp2
        refine bodyPost_ret (v := .tuple #[v, .int .i64 (tz : Nat), .int .i64 (0 : Nat)]) ?_ rfl ⟨_, _, _, rfl, ⟨rfl, rfl, hown⟩, hb⟩
        simp [results, Tryd.results18, go_sem]
end Go.Proofs.YtcjapjnhejenaaaDoor
