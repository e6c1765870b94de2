import Derived.Test.YtcjapjnhejenaaaDoorHtA
import Derived.Test.YtcjapjnhejenaaaDoorClone
/-! http: size, plain, chunks, clean, digits (printed by gen_htb.py) -/
namespace Garner
theorem hexP_le (c : UInt8) : hexP c ≤ 15 := by
  have : c.toNat < 256 := c.toNat_lt
  unfold hexP
  split
  · omega
  · split <;> omega
theorem hexP_ge (c : UInt8) : -1 ≤ hexP c := by
  unfold hexP
  split
  · omega
  · split <;> omega
theorem hexN_snoc (l : Bs) (x : UInt8) (n : Nat) : hexN (l ++ [x]) n = 16 * hexN l n + (hexP x).toNat := by unfold hexN; rw [List.foldl_append]; rfl
theorem hexN_lt : ∀ (l : Bs), l.length ≤ 8 → hexN l 0 < 4294967296 := by
  have key : ∀ (l : Bs) (n k : Nat), n < 16 ^ k → hexN l n < 16 ^ (k + l.length) := by
    intro l
    induction l with
    | nil => intro n k h; exact h
    | cons x l ih =>
      intro n k h
      have hx := hexP_le x
      have := ih (16 * n + (hexP x).toNat) (k + 1) (by rw [Nat.pow_succ]; omega)
      rw [List.length_cons, show k + (l.length + 1) = k + 1 + l.length by omega]
      exact this
  intro l hl
  have h := key l 0 0 (by omega)
  rw [Nat.zero_add] at h
  have : 16 ^ l.length ≤ 16 ^ 8 := Nat.pow_le_pow_right (by omega) hl
  omega
theorem hexRun_take {r : Bs} {j : Nat} (hall : ∀ c ∈ r.take j, isHex c = true) (hj : j ≤ r.length) : j ≤ (hexRun r).length := by
  obtain ⟨ds, v, rfl, h1, h2⟩ := hexRun_split r
  rw [hexRun_all h1 h2]
  rcases Nat.lt_or_ge ds.length j with h | h
  · exfalso
    cases v with
    | nil => rw [List.append_nil] at hj; omega
    | cons x t =>
      have hx := h2 x t rfl
      have : x ∈ (ds ++ x :: t).take j := by
        rw [List.take_append, List.mem_append]
        right
        obtain ⟨m, hm⟩ : ∃ m, j - ds.length = m + 1 := ⟨j - ds.length - 1, by omega⟩
        rw [hm, List.take_succ_cons]
        simp
      rw [hall x this] at hx
      cases hx
  · exact h
theorem hexRun_stop {r : Bs} {j : Nat} (hall : ∀ c ∈ r.take j, isHex c = true) (hs : ∀ x, r[j]? = some x → isHex x = false) : hexRun r = r.take j := by
  have := hexRun_all (ds := r.take j) (v := r.drop j) hall fun x t e => hs x (by
    have h0 : (r.drop j)[0]? = some x := by rw [e]; rfl
    rw [List.getElem?_drop] at h0
    simpa using h0)
  rwa [List.take_append_drop] at this
def sizeE (at_ : Nat) : Except Nat (Nat × Nat) → Nat × Nat × Nat
  | .ok (n, k) => (n, at_ + k + 2, 0)
  | .error e => (0, 0, e)
theorem sizeP_long {r : Bs} (h : 8 < (hexRun r).length) : sizeP r = .error 60 := by
  unfold sizeP
  rw [if_pos h]
theorem sizeP_none {r : Bs} (h : hexRun r = []) (hne : r ≠ []) : sizeP r = .error 60 := by
  unfold sizeP
  rw [h]
  rw [if_neg (by simp), if_pos ⟨rfl, hne⟩]
theorem sizeP_end {r : Bs} {j : Nat} (h : hexRun r = r.take j) (hj : j ≤ r.length) (h8 : j ≤ 8) (hn : ¬ (j = 0 ∧ r ≠ [])) : sizeP r = if expectP (r.drop j) crlf = 0 then .ok (hexN (r.take j) 0, j) else .error (expectP (r.drop j) crlf) := by
  have hl : (r.take j).length = j := by rw [List.length_take]; omega
  unfold sizeP
  rw [h, hl]
  rw [if_neg (by omega), if_neg hn]
end Garner
namespace Go.Proofs.YtcjapjnhejenaaaDoor
open Go.RowKit Garner
def eV (e : Nat) : Value := .int .i64 e
theorem expect_b {b : Bs} {A : Option Addr} {c B : Nat} (at_ : Nat) (w : World) (hr : Bytes w B A b.length b) (hl : b.length ≤ 140737488355328) (hat : at_ ≤ b.length) :
    Calls Tryd.prog 35 #[.slice A b.length c, .int .i64 at_, .string { data := #[13, 10] }] w fun e w' => e = .returned (.int .i64 (expectP (b.drop at_) crlf)) ∧ Below w.heap.size w w' :=
  (vExpect b A c B at_ { data := #[13, 10] } w hr hl hat (by decide)).mono fun _ _ ⟨he, q, hq⟩ => ⟨he, hq ▸ below_drewN (Below.refl _ _) q⟩
set_option maxHeartbeats 2000000 in
set_option maxRecDepth 100000 in
/-- size: a chunk's size, and the place behind its line -/
theorem vSize (b : Bs) (A : Option Addr) (c B at_ : Nat) (w : World) (hr : Bytes w B A b.length b) (hB : B ≤ w.heap.size) (hl : b.length ≤ 140737488355328) (hat : at_ ≤ b.length) :
    Calls Tryd.prog 34 #[.slice A b.length c, .int .i64 at_] w fun e w' => e = .returned (.tuple #[.int .i64 ((sizeE at_ (sizeP (b.drop at_))).1 : Nat), .int .i64 ((sizeE at_ (sizeP (b.drop at_))).2.1 : Nat), .int .i64 ((sizeE at_ (sizeP (b.drop at_))).2.2 : Nat)]) ∧ Below w.heap.size w w' := by
  obtain ⟨r, hrd⟩ : ∃ r, b.drop at_ = r := ⟨_, rfl⟩
  rw [hrd]
  have hrl : r.length = b.length - at_ := by rw [← hrd, List.length_drop]
  have hget : ∀ j, r[j]? = b[at_ + j]? := fun j => by rw [← hrd, List.getElem?_drop]
  have hdrop : ∀ j, b.drop (at_ + j) = r.drop j := fun j => by rw [← hrd, List.drop_drop]
  obtain ⟨n1, hn1⟩ : ∃ n1, n1 = (sizeE at_ (sizeP r)).1 := ⟨_, rfl⟩
  obtain ⟨n2, hn2⟩ : ∃ n2, n2 = (sizeE at_ (sizeP r)).2.1 := ⟨_, rfl⟩
  obtain ⟨n3, hn3⟩ : ∃ n3, n3 = (sizeE at_ (sizeP r)).2.2 := ⟨_, rfl⟩
  rw [← hn1, ← hn2, ← hn3]
  have Hget := Lib.hid hget; clear hget
  have Hdrop := Lib.hid hdrop; clear hdrop
  have Hrl := Lib.hid hrl
  have H1 := Lib.hid hn1; clear hn1
  have H2 := Lib.hid hn2; clear hn2
  have H3 := Lib.hid hn3; clear hn3
  clear hrd
  go_enter Tryd.func34, Tryd.ntmps34
  go_wp2
  go_loopw [1, 7] (fun i n wr => ∃ j : Nat, j ≤ 8 ∧ at_ + j ≤ b.length ∧ i = .int .i64 (at_ + j : Nat) ∧ n = .int .i64 (hexN (r.take j) 0) ∧ Hid (∀ c ∈ r.take j, isHex c = true) ∧ Below w.heap.size w wr) (fun i _ _ => b.length - (intOf i).toNat)
  case atStart => exact ⟨0, Nat.zero_le _, hat, rfl, rfl, Lib.hid (by simp), Below.refl _ _⟩
  case round =>
    obtain ⟨j, hj8, hjl, rfl, rfl, hall, hbel⟩ := hrel
    obtain ⟨wo, rfl⟩ : ∃ wo : World, wo = wr := ⟨_, rfl⟩
    obtain ⟨i, hi⟩ : ∃ i, i = at_ + j := ⟨_, rfl⟩
    obtain ⟨hn, hhn⟩ : ∃ hn, hn = hexN (r.take j) 0 := ⟨_, rfl⟩
    have hnlt := hexN_lt (r.take j) (by rw [List.length_take]; omega)
    rw [← hhn] at hnlt ⊢
    rw [← hi] at hjl ⊢
    have hrw := hr.below (hbel.mono hB)
    have Hhn := Lib.hid hhn; clear hhn
    have wsub : IntKind.i64.wrap ((i : Int) - (at_ : Int)) = (j : Int) := by rw [IntKind.wrap_i64]; omega
    have wi1 : IntKind.i64.wrap ((i : Int) + 1) = ((i + 1 : Nat) : Int) := by rw [IntKind.wrap_i64]; omega
    have wi2 : IntKind.i64.wrap ((i : Int) + 2) = ((i + 2 : Nat) : Int) := by rw [IntKind.wrap_i64]; omega
    have hs0 := hbel.size
    have hij : at_ + j = i := hi.symm
    have Hi := Lib.hid hi; clear hi

    by_cases hin : i < b.length
    · have z1 : (i : Int) < (b.length : Int) := by omega
      obtain ⟨bk, off, rfl, -, hc⟩ := hrw.at_ (k := i) hin
      obtain ⟨x, hx⟩ : ∃ x : UInt8, b[i] = x := ⟨_, rfl⟩
      have hcell : wo.cell? ⟨bk, off + i, none⟩ = some (.int .u8 (x.toNat : Int)) := by
        have := hc i (by simpa using hin)
        simpa [bv, hx] using this
      have hrj : r[j]? = some x := by rw [Hget.out, hij, List.getElem?_eq_getElem hin, hx]
      have hx15 := hexP_le x
      have Hx := Lib.hid hx; clear hx hc
      have hxv : Value.int .u8 (x.toNat : Int) = bv x := rfl
      rw [hxv] at hcell
      by_cases hh : 0 ≤ hexP x
      · have hall2 : ∀ c ∈ r.take (j + 1), isHex c = true := by
          intro c hc
          rw [List.take_add_one, hrj] at hc
          rcases List.mem_append.1 hc with hc | hc
          · exact hall.out c hc
          · simp at hc; subst hc; unfold isHex; simp [hh]
        by_cases h8 : j = 8
        · have z2 : (j : Int) = 8 := by omega
          have e := sizeP_long (r := r) (by have := hexRun_take hall2 (by omega); omega)
          have He := Lib.hid e; clear e hall2
          go_wp2_with fail
          refine (vHex x _).mono ?_
          rintro e w' ⟨rfl, rfl⟩
          go_wp2
          refine bodyPost_ret (v := .tuple #[.int .i64 (n1 : Nat), .int .i64 (n2 : Nat), .int .i64 (n3 : Nat)]) ?_ rfl ⟨rfl, hbel⟩
          simp [results, Tryd.results34, go_sem, H1.out, H2.out, H3.out, He.out, sizeE]
        · have z2 : ¬ (j : Int) = 8 := by omega
          have hn2 : hexN (r.take (j + 1)) 0 = 16 * hn + (hexP x).toNat := by
            rw [List.take_add_one, hrj, Option.toList_some, hexN_snoc, ← Hhn.out]
          have Hn2 := Lib.hid hn2; clear hn2
          have Hall2 := Lib.hid hall2; clear hall2
          have wm : IntKind.i64.wrap (16 * (hn : Int)) = 16 * (hn : Int) := by rw [IntKind.wrap_i64]; omega
          have wa : IntKind.i64.wrap (16 * (hn : Int) + hexP x) = 16 * (hn : Int) + hexP x := by rw [IntKind.wrap_i64]; omega
          go_wp2_with fail
          refine (vHex x _).mono ?_
          rintro e w' ⟨rfl, rfl⟩
          go_wp2_with fail
          refine (vHex x _).mono ?_
          rintro e w' ⟨rfl, rfl⟩
          go_wp2
          refine ⟨⟨j + 1, by omega, by omega, by simp; omega, ?_, Hall2, hbel⟩, by simp [intOf]; omega⟩
          rw [Hn2.out]; simp; omega
      · have hrun := Lib.hid (hexRun_stop (r := r) (j := j) hall.out (fun y hy => by rw [hrj] at hy; cases hy; unfold isHex; simp; omega))
        have hhz : ¬ (0 : Int) ≤ hexP x := hh
        by_cases hj0 : j = 0
        · have z7 : (at_ : Int) = (i : Int) := by omega
          go_wp2_with fail
          refine (vHex x _).mono ?_
          rintro e w' ⟨rfl, rfl⟩
          go_wp2
          refine bodyPost_ret (v := .tuple #[.int .i64 (n1 : Nat), .int .i64 (n2 : Nat), .int .i64 (n3 : Nat)]) ?_ rfl ⟨rfl, hbel⟩
          have e := sizeP_none (r := r) (by rw [hrun.out, hj0]; rfl) (fun e => by rw [e] at hrl; simp at hrl; omega)
          simp [results, Tryd.results34, go_sem, H1.out, H2.out, H3.out, e, sizeE]
        · have z7 : ¬ (i : Int) = (at_ : Int) := by omega
          have hse := sizeP_end (r := r) (j := j) hrun.out (by omega) hj8 (fun h => hj0 h.1)
          rw [← Hdrop.out j, hij] at hse
          obtain ⟨x5, hx5⟩ : ∃ x5, expectP (b.drop i) crlf = x5 := ⟨_, rfl⟩
          rw [hx5] at hse
          have Hse := Lib.hid hse; clear hse
          go_wp2_with fail
          refine (vHex x _).mono ?_
          rintro e w' ⟨rfl, rfl⟩
          go_wp2_with fail
          refine (expect_b (c := c) i _ hrw hl hjl).mono ?_
          rw [hx5]
          rintro e w2 ⟨rfl, hb2⟩
          have hb3 := hbel.trans (hb2.mono hs0)
          by_cases h5 : x5 = 0
          · have z8 : (x5 : Int) = 0 := by omega
            go_wp2
            refine bodyPost_ret (v := .tuple #[.int .i64 (n1 : Nat), .int .i64 (n2 : Nat), .int .i64 (n3 : Nat)]) ?_ rfl ⟨rfl, hb3⟩
            have e := Hse.out
            rw [if_pos h5, ← Hhn.out] at e
            simp [results, Tryd.results34, go_sem, H1.out, H2.out, H3.out, e, sizeE, ← hij]
          · have z8 : ¬ (x5 : Int) = 0 := by omega
            go_wp2
            refine bodyPost_ret (v := .tuple #[.int .i64 (n1 : Nat), .int .i64 (n2 : Nat), .int .i64 (n3 : Nat)]) ?_ rfl ⟨rfl, hb3⟩
            have e := Hse.out
            rw [if_neg h5] at e
            simp [results, Tryd.results34, go_sem, H1.out, H2.out, H3.out, e, sizeE]
    · have z1 : ¬ (i : Int) < (b.length : Int) := by omega
      have hrun := Lib.hid (hexRun_stop (r := r) (j := j) hall.out (fun y hy => by rw [Hget.out, hij, List.getElem?_eq_none (by omega)] at hy; cases hy))
      by_cases hj0 : j = 0
      · have hr0 := Lib.hid (List.eq_nil_of_length_eq_zero (by omega) : r = [])
        have z7 : (at_ : Int) = (i : Int) := by omega
        have hse := sizeP_end (r := r) (j := j) hrun.out (by omega) hj8 (fun h => h.2 hr0.out)
        rw [← Hdrop.out j, hij] at hse
        obtain ⟨x5, hx5⟩ : ∃ x5, expectP (b.drop i) crlf = x5 := ⟨_, rfl⟩
        rw [hx5] at hse
        have Hse := Lib.hid hse; clear hse
        go_upto_region 9 with fail
        go_wp2_with fail
        refine (expect_b (c := c) i _ hrw hl hjl).mono ?_
        rw [hx5]
        rintro e w2 ⟨rfl, hb2⟩
        have hb3 := hbel.trans (hb2.mono hs0)
        by_cases h5 : x5 = 0
        · have z8 : (x5 : Int) = 0 := by omega
          go_wp2
          refine bodyPost_ret (v := .tuple #[.int .i64 (n1 : Nat), .int .i64 (n2 : Nat), .int .i64 (n3 : Nat)]) ?_ rfl ⟨rfl, hb3⟩
          have e := Hse.out
          rw [if_pos h5, ← Hhn.out] at e
          simp [results, Tryd.results34, go_sem, H1.out, H2.out, H3.out, e, sizeE, ← hij]
        · have z8 : ¬ (x5 : Int) = 0 := by omega
          go_wp2
          refine bodyPost_ret (v := .tuple #[.int .i64 (n1 : Nat), .int .i64 (n2 : Nat), .int .i64 (n3 : Nat)]) ?_ rfl ⟨rfl, hb3⟩
          have e := Hse.out
          rw [if_neg h5] at e
          simp [results, Tryd.results34, go_sem, H1.out, H2.out, H3.out, e, sizeE]
      · have z7 : ¬ (i : Int) = (at_ : Int) := by omega
        have hse := sizeP_end (r := r) (j := j) hrun.out (by omega) hj8 (fun h => hj0 h.1)
        rw [← Hdrop.out j, hij] at hse
        obtain ⟨x5, hx5⟩ : ∃ x5, expectP (b.drop i) crlf = x5 := ⟨_, rfl⟩
        rw [hx5] at hse
        have Hse := Lib.hid hse; clear hse
        go_upto_region 9 with fail
        go_wp2_with fail
        refine (expect_b (c := c) i _ hrw hl hjl).mono ?_
        rw [hx5]
        rintro e w2 ⟨rfl, hb2⟩
        have hb3 := hbel.trans (hb2.mono hs0)
        by_cases h5 : x5 = 0
        · have z8 : (x5 : Int) = 0 := by omega
          go_wp2
          refine bodyPost_ret (v := .tuple #[.int .i64 (n1 : Nat), .int .i64 (n2 : Nat), .int .i64 (n3 : Nat)]) ?_ rfl ⟨rfl, hb3⟩
          have e := Hse.out
          rw [if_pos h5, ← Hhn.out] at e
          simp [results, Tryd.results34, go_sem, H1.out, H2.out, H3.out, e, sizeE, ← hij]
        · have z8 : ¬ (x5 : Int) = 0 := by omega
          go_wp2
          refine bodyPost_ret (v := .tuple #[.int .i64 (n1 : Nat), .int .i64 (n2 : Nat), .int .i64 (n3 : Nat)]) ?_ rfl ⟨rfl, hb3⟩
          have e := Hse.out
          rw [if_neg h5] at e
          simp [results, Tryd.results34, go_sem, H1.out, H2.out, H3.out, e, sizeE]
end Go.Proofs.YtcjapjnhejenaaaDoor
