import Derived.Test.YtmddgimadlmacaaDoorDiskP
import Derived.Test.YtmddgimadlmacaaDoorWalP
import Derived.Test.YtmddgimadlmacaaDoorRead2
import Derived.Test.YtmddgimadlmacaaDoorPieces
import Derived.Test.YtmddgimadlmacaaDoorRname
import Derived.Deep.DeepCutAuto
import Derived.Outline
/-! layer 10: names, what bytes hold -/
namespace Go.Proofs.YtmddgimadlmacaaDoor
open Go.RowKit Garner

/-- name n can be made here -/
def NmAt (w : World) (n : Nat) : Prop := Calls Tryd.prog 19 #[.int .i64 n] w fun e w' => e = .returned (.string (nmS (walNm n))) ∧ Below w.heap.size w w'
/-- the names up to m can be made, whatever is done from B on -/
def Nms (B : Nat) (w : World) (m : Nat) : Prop := ∀ n w', 1 ≤ n → n ≤ m → Below B w w' → NmAt w' n
theorem Nms.below {B m : Nat} {w w' : World} (h : Nms B w m) (hb : Below B w w') : Nms B w' m := fun n x h1 h2 h3 => h n x h1 h2 (hb.trans h3)
theorem Nms.mono {B m m' : Nat} {w : World} (h : Nms B w m) (hm : m' ≤ m) : Nms B w m' := fun n x h1 h2 h3 => h n x h1 (Nat.le_trans h2 hm) h3
theorem wal_str (n : Nat) : (⟨#[119, 97, 108, 45]⟩ : ByteArray) ++ ⟨(Lib.decDigits n).toArray⟩ = nmS (walNm n) := by
  apply ByteArray.ext
  simp [walNm]
theorem vNm_small (n : Nat) (w : World) (h1 : 1 ≤ (n : Int)) (h2 : (n : Int) < 100) : NmAt w n := by
  have h2' : n < 100 := by omega
  have d1 : decide ((n : Int) < 1) = false := decide_eq_false (by omega)
  have d2 : decide ((n : Int) > 1000000000) = false := decide_eq_false (by omega)
  have hsz : ¬ 9223372036854775807 < 4 + (Lib.decDigits n).length := by have := dec_len (n := n) (by omega); omega
  have hs := wal_str n
  have Hs := Lib.hid hs
  clear hs
  unfold NmAt
  go_enter Tryd.func19, Tryd.ntmps19
  go_wp2_with fail
  refine (Tryd.strconv_Itoa_small n h2' w).mono ?_
  rintro e w' ⟨rfl, rfl⟩
  go_wp2
  go_ret
  refine ⟨?_, Below.refl _ _⟩
  rw [← Hs.out]; rfl
theorem nms_small (B : Nat) (w : World) {m : Nat} (hm : m < 100) : Nms B w m := fun n w' h1 h2 _ => vNm_small n w' (by omega) (by omega)
theorem vNm_none (n : Int) (w : World) (h : n < 1 ∨ 1000000000 < n) : Calls Tryd.prog 19 #[.int .i64 n] w fun e w' => e = .returned (.string .empty) ∧ w' = w := by
  by_cases h1 : n < 1
  · have d1 : decide (n < 1) = true := decide_eq_true h1
    clear h
    go_enter Tryd.func19, Tryd.ntmps19
    go_wp2
    go_ret
    exact ⟨rfl, rfl⟩
  · have d1 : decide (n < 1) = false := decide_eq_false h1
    have d2 : decide (n > 1000000000) = true := decide_eq_true (by omega)
    clear h
    go_enter Tryd.func19, Tryd.ntmps19
    go_wp2
    go_ret
    exact ⟨rfl, rfl⟩
/-! rows of bytes of the call's own -/
theorem rowsE : Elem Tryd.prog 22 23 (.slice none 0 0) 1 24 := ⟨Tryd.underlying22, by kernel_rfl, rfl, by omega, by omega⟩
theorem bys_one (ps : List ByS) : ∀ u ∈ ps.map ByS.v, u.oneCell' = true := by
  intro u hu; obtain ⟨c, _, rfl⟩ := List.mem_map.1 hu; rfl
structure Pays (w : World) (B : Nat) (v : Value) (ps : List ByS) : Prop where
  own : w.ownsRow B 23 1 v ps.length (ps.map ByS.v)
  all : ∀ p ∈ ps, OwnB w B p.v p.data
theorem Pays.below {w w' : World} {B : Nat} {v : Value} {ps : List ByS} (h : Pays w B v ps) (hb : Below w.heap.size w w') : Pays w' B v ps :=
  ⟨own_below h.own hb, fun p hp => own_below (h.all p hp) hb⟩
theorem Pays.mono {w : World} {B B' : Nat} {v : Value} {ps : List ByS} (h : Pays w B v ps) (hB : B' ≤ B) : Pays w B' v ps :=
  ⟨own_mono h.own hB, fun p hp => own_mono (h.all p hp) hB⟩
theorem Pays.nil (w : World) (B : Nat) : Pays w B (.slice none 0 0) [] := ⟨World.ownsRow_nil _ _ _ _, by simp⟩
/-- worlds that differ in blocks that are elder -/
theorem Pays.but {S : List Nat} {w w' : World} {B : Nat} {v : Value} {ps : List ByS} (h : Pays w B v ps) (hb : But S w w') (hS : ∀ k ∈ S, k < B ∨ w.heap.size ≤ k) : Pays w' B v ps :=
  ⟨own_but h.own hb (fun g hg hm => by have := h.own.lt g hg; have := hS g hm; omega), fun p hp => own_but (h.all p hp) hb (fun g hg hm => by have := (h.all p hp).lt g hg; have := hS g hm; omega)⟩
/-- what an append onto the row leaves of the pieces -/
theorem pay_grown {w w' : World} {B B' sz n : Nat} {v : Value} {xs : List Value} {p : ByS} (h : OwnB w B p.v p.data) (hv : w.ownsRow B' 23 sz v n xs) (hg : w.grownBy w' v.ownBlock) : OwnB w' B p.v p.data := by
  refine own_grown h hg ?_
  by_cases e : p.v.ownBlock = none
  · exact Or.inl e
  · refine Or.inr fun e2 => ?_
    obtain ⟨q, hq⟩ := Option.ne_none_iff_exists'.1 e
    have h1 := own_own h hv (by decide) q (by rw [← e2]; exact hq)
    rw [hq] at h1
    exact h1 (by simp)
theorem Pays.snoc {w w' : World} {B : Nat} {v v' : Value} {ps : List ByS} {p : ByS} (h : Pays w B v ps) (hp : OwnB w B p.v p.data) (hg : w.grownBy w' v.ownBlock) (ho : w'.ownsRow B 23 1 v' (ps.length + 1) (ps.map ByS.v ++ [p.v])) : Pays w' B v' (ps ++ [p]) := by
  refine ⟨by simpa using ho, fun q hq => ?_⟩
  rcases List.mem_append.1 hq with hq | hq
  · exact pay_grown (h.all q hq) h.own hg
  · rw [List.mem_singleton] at hq; subst hq
    exact pay_grown hp h.own hg
theorem Pays.app {w w' : World} {B : Nat} {v v' : Value} {ps qs : List ByS} (h : Pays w B v ps) (hq : ∀ p ∈ qs, OwnB w B p.v p.data) (hg : w.grownBy w' v.ownBlock) (ho : w'.ownsRow B 23 1 v' (ps.length + qs.length) (ps.map ByS.v ++ qs.map ByS.v)) : Pays w' B v' (ps ++ qs) := by
  refine ⟨by simpa using ho, fun q hq' => ?_⟩
  rcases List.mem_append.1 hq' with hq' | hq'
  · exact pay_grown (h.all q hq') h.own hg
  · exact pay_grown (hq q hq') h.own hg
theorem held_go {b p : Bs} {k k' : Nat} (h : fread b k = .ok (p, k')) : heldA (b.length + 1) b k = p :: heldA (b.length + 1) b k' := by
  have := fread_next h
  rw [heldA_ok h, heldA_fuel b.length (b.length + 1) b k' (by omega) (by omega)]
set_option maxRecDepth 100000 in
set_option maxHeartbeats 4000000 in
theorem vHeld (b : Bs) (A : Option Addr) (c B : Nat) (w : World) (hr : Bytes w B A b.length b) (hB : B ≤ w.heap.size) (hc : b.length ≤ c) (hl : b.length ≤ 140737488355328) (hn : (held b).length * 24 ≤ 140737488355328) :
    Calls Tryd.prog 43 #[.slice A b.length c] w fun e w' => ∃ v ps, e = .returned v ∧ Pays w' w.heap.size v ps ∧ ps.map (·.data) = held b ∧ Below w.heap.size w w' := by
  obtain ⟨hh, hhe⟩ : ∃ h, h = held b := ⟨_, rfl⟩
  rw [← hhe] at hn ⊢
  unfold held at hhe
  have Hh := Lib.hid hhe
  clear hhe
  go_enter Tryd.func43, Tryd.ntmps43
  go_wp2_with fail
  go_loopw [3, 4] (fun v i wr => ∃ (ps : List ByS) (k : Nat), i = .int .i64 k ∧ k ≤ b.length ∧ Pays wr w.heap.size v ps ∧ Hid (hh = ps.map (·.data) ++ heldA (b.length + 1) b k) ∧ Below w.heap.size w wr) (fun _ i _ => b.length - (intOf i).toNat)
  case atStart => exact ⟨[], 0, rfl, Nat.zero_le _, Pays.nil _ _, Lib.hid (by rw [Hh.out]; rfl), Below.refl _ _⟩
  case round =>
    clear Hh
    obtain ⟨ps, k, rfl, hk, hp, H, hb⟩ := hrel
    obtain ⟨wo, rfl⟩ : ∃ wo : World, wo = wr := ⟨_, rfl⟩
    go_wp2_with fail
    refine (vRead b A c B wo k (hr.below (hb.mono hB)) (Nat.le_trans hB hb.size) hc hk hl).mono ?_
    rintro e w1 hpost
    cases hf : fread b k with
    | error er =>
      rw [hf] at hpost
      obtain ⟨rfl, hb1⟩ := hpost
      have hz : ((er : Int) != 0) = true := by
        rw [bne_iff_ne]
        intro h0
        have h0' : er = 0 := by omega
        subst h0'
        unfold fread at hf
        split at hf
        · rename_i e1 he1; have := vget_err he1; injection hf with hf; omega
        · split at hf
          · injection hf with hf; omega
          · split at hf
            · injection hf with hf; omega
            · split at hf
              · cases hf
              · injection hf with hf; omega
      have hgo : Hid (hh = ps.map (·.data)) := Lib.hid (by rw [H.out, heldA_err hf, List.append_nil])
      clear H hf
      have hp1 := hp.below hb1
      have hb01 := hb.trans (hb1.mono hb.size)
      clear hp hb hb1
      go_wp2
      go_ret
      exact ⟨_, ps, rfl, hp1, hgo.out.symm, hb01⟩
    | ok r =>
      obtain ⟨p, kx⟩ := r
      rw [hf] at hpost
      obtain ⟨v1, rfl, hown1, hb1⟩ := hpost
      have hnx := fread_next hf
      have hgo : Hid (hh = (ps.map (·.data) ++ [p]) ++ heldA (b.length + 1) b kx) := Lib.hid (by rw [H.out, held_go hf]; simp)
      have hcnt : (ps.length + 1) * 24 ≤ 140737488355328 := by
        have := congrArg List.length hgo.out
        simp only [List.length_append, List.length_map, List.length_cons, List.length_nil] at this
        omega
      clear H hf
      have hp1 := hp.below hb1
      have hb01 := hb.trans (hb1.mono hb.size)
      obtain ⟨A1, c1, rfl, _⟩ := own_form hown1
      have hq1 : OwnB w1 w.heap.size (ByS.v ⟨A1, c1, p⟩) p := own_mono hown1 hb.size
      have hs01 := hb01.size
      obtain ⟨n1, hn1⟩ : ∃ n, n = p.length := ⟨_, rfl⟩
      clear hp hb hb1 hown1
      go_wp2_with (at_builtin; refine wpList_app _ rfl rowsE rfl rfl (hp1.own.alloc _) rfl (row_new w1 _ [_]) (by simp [Value.oneCell']) (by simpa using hcnt) (by simp; omega) ?_; intro v4 w4 hown4 hg4 hb4 hx4)
      have hbX : Below w1.heap.size w1 (w1.alloc (.cells #[.slice A1 p.length c1] 23)) := (Below.refl _ _).alloc (Nat.le_refl _) _
      have hp4 := (hp1.below hbX).snoc (own_below hq1 hbX) hg4 hown4
      have hb04 := (hb01.trans (hbX.mono hs01)).trans hb4
      go_roundw
      case rel => exact ⟨ps ++ [⟨A1, c1, p⟩], kx, rfl, by omega, hp4, Lib.hid (by rw [hgo.out]; simp), hb04⟩
      case measure => simp [intOf]; omega
end Go.Proofs.YtmddgimadlmacaaDoor
