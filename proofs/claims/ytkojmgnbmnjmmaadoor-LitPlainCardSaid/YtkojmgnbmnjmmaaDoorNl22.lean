import Derived.Test.YtkojmgnbmnjmmaaDoorNl12
import Derived.Test.YtkojmgnbmnjmmaaDoorNl14
/-! rexp: escape, member -/
namespace Go.Proofs.YtkojmgnbmnjmmaaDoor
open Go.RowKit Garner

/-- what a reader of pairs answers: a row of them and the rest, or it panics -/
def OutS (F : Nat → Prop) (o : Option (List Nat × List Nat)) (w0 : World) (g : Nat) (ns : List NodeP) (deep most : Nat) (e : Ending) (w' : World) : Prop := match o with
  | some (m, r) => ∃ A c, e = .returned (.slice A m.length c) ∧ RowT w' 21 A m.length (m.map rv) ∧ PS F w' g r ns deep most ∧ ∀ a, A = some a → w0.heap.size ≤ a.block ∧ a.block < w'.heap.size
  | none => e = faulted
theorem outS_lit {F : Nat → Prop} (m : List Nat) {g : Nat} {w w1 : World} {r : List Nat} {ns : List NodeP} {deep most : Nat} (h1 : PS F w1 g r ns deep most) (k1 : PK g w w1) {o : Option (List Nat × List Nat)} (e : o = some (m, r)) :
    PK g w (w1.alloc (.cells (m.map rv).toArray 21)) ∧ OutS F o w g ns deep most (.returned (.slice (some ⟨w1.heap.size, 0, none⟩) m.length m.length)) (w1.alloc (.cells (m.map rv).toArray 21)) := by
  subst e
  have hb : Below w1.heap.size w1 (w1.alloc (.cells (m.map rv).toArray 21)) := (Below.refl _ _).alloc (Nat.le_refl _) _
  have hr := RowT.new w1 21 (m.map rv)
  rw [List.length_map] at hr
  exact ⟨k1.trans (.of_below hb (Nat.le_of_lt h1.lt)), _, _, rfl, hr, h1.below hb, fun a e => (by cases e; exact ⟨k1.keep.size, by simp⟩)⟩
abbrev escB : ByteArray := ⟨#[92, 40, 41, 91, 93, 123, 125, 42, 43, 63, 124, 46, 94, 36, 45]⟩
abbrev memB : ByteArray := ⟨#[91, 93, 94, 45]⟩
abbrev litB : ByteArray := ⟨#[92, 40, 41, 91, 93, 123, 125, 42, 43, 63, 124, 46, 94, 36]⟩
set_option maxRecDepth 100000 in
set_option maxHeartbeats 4000000 in
theorem vEsc {F : Nat → Prop} (g : Nat) (w : World) (rs : List Nat) (ns : List NodeP) (deep most : Nat) (h : PS F w g rs ns deep most) :
    Calls Tryd.prog 104 #[.pointer (some ⟨g, 0, none⟩)] w fun e w' => PK g w w' ∧ OutS F (escR rs) w g ns deep most e w' := by
  go_enter Tryd.func104, Tryd.ntmps104
  cases rs with
  | nil =>
    go_wp2_with fail
    refine (vTake_nil g w ns deep most h).mono ?_
    rintro e w' ⟨rfl, rfl⟩
    exact ⟨rfl, .refl _ _, rfl⟩
  | cons a r =>
    have hb := h.rb a (by simp)
    go_wp2_with fail
    refine (vTake a g w r ns deep most h).mono ?_
    rintro e w1 ⟨rfl, h1, k1⟩
    by_cases c1 : a = 110
    · subst c1
      go_wp2
      go_ret
      exact outS_lit [10, 10] h1 k1 rfl
    by_cases c2 : a = 116
    · subst c2
      go_wp2
      go_ret
      exact outS_lit [9, 9] h1 k1 rfl
    by_cases c3 : a = 100
    · subst c3
      go_wp2
      go_ret
      exact outS_lit [48, 57] h1 k1 rfl
    by_cases c4 : a = 119
    · subst c4
      go_wp2
      go_ret
      exact outS_lit [48, 57, 65, 90, 95, 95, 97, 122] h1 k1 rfl
    by_cases c5 : a = 115
    · subst c5
      go_wp2
      go_ret
      exact outS_lit [9, 10, 13, 13, 32, 32] h1 k1 rfl
    have z1 : ¬ (a : Int) = 110 := by omega
    have z2 : ¬ (a : Int) = 116 := by omega
    have z3 : ¬ (a : Int) = 100 := by omega
    have z4 : ¬ (a : Int) = 119 := by omega
    have z5 : ¬ (a : Int) = 115 := by omega
    have cv := vConR escB a w1 (by decide) (by decide) (by decide) hb
    have em : a ∈ escB.data.toList.map UInt8.toNat ↔ a ∈ specR ∨ a = 45 := by
      show a ∈ specR ++ [45] ↔ _
      rw [List.mem_append, List.mem_singleton]
    by_cases hm : a ∈ specR ∨ a = 45
    · have e : escR (a :: r) = some ([a, a], r) := by rw [escR, if_neg c1, if_neg c2, if_neg c3, if_neg c4, if_neg c5, if_pos hm]
      rw [decide_eq_true (em.2 hm)] at cv
      have E := Lib.hid e
      clear e em hm c1 c2 c3 c4 c5
      go_wp2_with fail
      refine cv.mono ?_
      rintro e w2 ⟨rfl, b2⟩
      go_wp2_with fail
      refine (vMust_t _ rfl _).mono ?_
      rintro e w' ⟨rfl, hw⟩
      obtain rfl : w2 = w' := hw.symm
      go_wp2
      go_ret
      exact outS_lit [a, a] (h1.below b2) (k1.trans (.of_below b2 (Nat.le_of_lt h1.lt))) E.out
    · have e : escR (a :: r) = none := by rw [escR, if_neg c1, if_neg c2, if_neg c3, if_neg c4, if_neg c5, if_neg hm]
      rw [decide_eq_false (fun h => hm (em.1 h))] at cv
      have E := Lib.hid e
      clear e em hm c1 c2 c3 c4 c5
      go_wp2_with fail
      refine cv.mono ?_
      rintro e w2 ⟨rfl, b2⟩
      go_wp2_with fail
      refine (vMust_f _ rfl _).mono ?_
      rintro e w' ⟨rfl, hw⟩
      obtain rfl : w2 = w' := hw.symm
      exact ⟨rfl, k1.trans (.of_below b2 (Nat.le_of_lt h1.lt)), by rw [E.out]; exact rfl⟩
set_option maxRecDepth 100000 in
set_option maxHeartbeats 4000000 in
theorem vMember {F : Nat → Prop} (g : Nat) (w : World) (rs : List Nat) (ns : List NodeP) (deep most : Nat) (h : PS F w g rs ns deep most) :
    Calls Tryd.prog 110 #[.pointer (some ⟨g, 0, none⟩)] w fun e w' => PK g w w' ∧ OutS F (memR rs) w g ns deep most e w' := by
  go_enter Tryd.func110, Tryd.ntmps110
  cases rs with
  | nil =>
    go_wp2_with fail
    refine (vTake_nil g w ns deep most h).mono ?_
    rintro e w' ⟨rfl, rfl⟩
    exact ⟨rfl, .refl _ _, rfl⟩
  | cons a r =>
    have hb := h.rb a (by simp)
    go_wp2_with fail
    refine (vTake a g w r ns deep most h).mono ?_
    rintro e w1 ⟨rfl, h1, k1⟩
    by_cases c1 : a = 92
    · subst c1
      have e : memR (92 :: r) = escR r := by rw [memR, if_pos rfl]
      have E := Lib.hid e
      clear e
      go_wp2_with fail
      refine (vEsc g w1 r ns deep most h1).mono ?_
      rintro e w2 ⟨k2, o2⟩
      cases ho : escR r with
      | none =>
        rw [ho] at o2
        obtain rfl : e = faulted := o2
        exact ⟨rfl, k1.trans k2, by rw [E.out, ho]; exact rfl⟩
      | some p =>
        obtain ⟨m, r2⟩ := p
        rw [ho] at o2
        obtain ⟨A, c, rfl, hr, h2, hA2⟩ := o2
        have HA2 := Lib.hid hA2; clear hA2
        go_wp2
        go_ret
        exact ⟨k1.trans k2, by rw [E.out, ho]; exact ⟨A, c, rfl, hr, h2, fun a e => ⟨Nat.le_trans k1.keep.size (HA2.out a e).1, (HA2.out a e).2⟩⟩⟩
    have z1 : ¬ (a : Int) = 92 := by omega
    have cv := vConR memB a w1 (by decide) (by decide) (by decide) hb
    have em : a ∈ memB.data.toList.map UInt8.toNat ↔ a = 91 ∨ a = 93 ∨ a = 94 ∨ a = 45 := by
      show a ∈ [91, 93, 94, 45] ↔ _
      simp
    by_cases hm : a = 91 ∨ a = 93 ∨ a = 94 ∨ a = 45
    · have e : memR (a :: r) = none := by rw [memR, if_neg c1, if_pos hm]
      rw [decide_eq_true (em.2 hm)] at cv
      have E := Lib.hid e
      clear e em hm c1
      go_wp2_with fail
      refine cv.mono ?_
      rintro e w2 ⟨rfl, b2⟩
      go_wp2_with fail
      refine (vMust_f _ rfl _).mono ?_
      rintro e w' ⟨rfl, hw⟩
      obtain rfl : w2 = w' := hw.symm
      exact ⟨rfl, k1.trans (.of_below b2 (Nat.le_of_lt h1.lt)), by rw [E.out]; exact rfl⟩
    · have e : memR (a :: r) = some ([a, a], r) := by rw [memR, if_neg c1, if_neg hm]
      rw [decide_eq_false (fun h => hm (em.1 h))] at cv
      have E := Lib.hid e
      clear e em hm c1
      go_wp2_with fail
      refine cv.mono ?_
      rintro e w2 ⟨rfl, b2⟩
      go_wp2_with fail
      refine (vMust_t _ rfl _).mono ?_
      rintro e w' ⟨rfl, hw⟩
      obtain rfl : w2 = w' := hw.symm
      go_wp2
      go_ret
      exact outS_lit [a, a] (h1.below b2) (k1.trans (.of_below b2 (Nat.le_of_lt h1.lt))) E.out
end Go.Proofs.YtkojmgnbmnjmmaaDoor
/-! rexp: others -/
namespace Garner
open Go
theorem flat_app (a b : List (Nat × Nat)) : flatR (a ++ b) = flatR a ++ flatR b := List.flatMap_append ..
theorem flat_length : ∀ l : List (Nat × Nat), (flatR l).length = 2 * l.length
  | [] => rfl
  | p :: l => by
    have := flat_length l
    have e : flatR (p :: l) = p.1 :: p.2 :: flatR l := by simp [flatR]
    rw [e, List.length_cons, List.length_cons, List.length_cons, this]; omega
theorem flat_at : ∀ {l : List (Nat × Nat)} {k : Nat} {p : Nat × Nat}, l[k]? = some p → (flatR l)[2 * k]? = some p.1 ∧ (flatR l)[2 * k + 1]? = some p.2
  | [], k, p, h => by simp at h
  | q :: l, 0, p, h => by
    simp at h; subst h
    have e : flatR (q :: l) = q.1 :: q.2 :: flatR l := by simp [flatR]
    rw [e]; exact ⟨rfl, rfl⟩
  | q :: l, k + 1, p, h => by
    have ih := flat_at (l := l) (k := k) (p := p) (by simpa using h)
    have e : flatR (q :: l) = q.1 :: q.2 :: flatR l := by simp [flatR]
    rw [e, show 2 * (k + 1) = 2 * k + 1 + 1 by omega, List.getElem?_cons_succ, List.getElem?_cons_succ, show 2 * k + 1 + 1 + 1 = (2 * k + 1) + 1 + 1 by omega, List.getElem?_cons_succ, List.getElem?_cons_succ]
    exact ih
theorem othersGo_len : ∀ (l : List (Nat × Nat)) (f : Nat), (othersGo f l).length ≤ l.length + 1
  | [], f => by unfold othersGo; split <;> simp
  | (a, b) :: r, f => by
    have := othersGo_len r (b + 1)
    unfold othersGo
    rw [List.length_append, List.length_cons]
    split <;> simp <;> omega
end Garner
namespace Go.Proofs.YtkojmgnbmnjmmaaDoor
open Go.RowKit Garner

set_option maxRecDepth 100000 in
set_option maxHeartbeats 4000000 in
theorem vOthers (P : List (Nat × Nat)) (A : Option Addr) (c n : Nat) (w : World) (hn : n = 2 * P.length) (hr : RowT w 21 A n ((flatR P).map rv)) (hP : ∀ p ∈ P, p.1 ≤ 1114111 ∧ p.2 ≤ 1114111) (hl : P.length ≤ 1000) :
    Calls Tryd.prog 112 #[.slice A n c] w fun e w' => ∃ v, e = .returned v ∧ w'.ownsRow w.heap.size 21 1 v (flatR (othersGo 0 P)).length ((flatR (othersGo 0 P)).map rv) ∧ Below w.heap.size w w' := by
  obtain ⟨ANS, hANS⟩ : ∃ ANS, othersGo 0 P = ANS := ⟨_, rfl⟩
  rw [hANS]
  have HA := Lib.hid hANS; clear hANS
  have Hn := Lib.hid hn; clear hn
  go_enter Tryd.func112, Tryd.ntmps112
  go_wp2
  go_loopw [3, 4, 5] (fun v f i wr => ∃ (k j fr : Nat) (out : List (Nat × Nat)), Hid (j = 2 * k) ∧ k ≤ P.length ∧ i = .int .i64 j ∧ f = .int .i32 fr ∧ fr ≤ 1114112 ∧ wr.ownsRow w.heap.size 21 1 v (flatR out).length ((flatR out).map rv) ∧ out.length ≤ k ∧ Hid (out ++ othersGo fr (P.drop k) = ANS) ∧ Below w.heap.size w wr) (fun _ _ i _ => 2 * P.length - (intOf i).toNat)
  case atStart => exact ⟨0, 0, 0, [], Lib.hid rfl, Nat.zero_le _, rfl, rfl, by omega, World.ownsRow_nil _ _ _ _, Nat.le_refl _, Lib.hid (by rw [List.drop_zero]; exact HA.out), Below.refl _ _⟩
  case round =>
    obtain ⟨k, j, fr, out, hj, hk, rfl, rfl, hfr, hown, hol, hans, hbel⟩ := hrel
    obtain ⟨wo, rfl⟩ : ∃ wo : World, wo = wr := ⟨_, rfl⟩
    have hs0 := hbel.size
    have hjn := hj.out
    have hnn := Hn.out
    have hfl := flat_length out
    by_cases hlt : k < P.length
    · obtain ⟨⟨a, b⟩, hp⟩ : ∃ p, P[k]? = some p := ⟨_, List.getElem?_eq_getElem hlt⟩
      have hab := hP _ (List.mem_of_getElem? hp)
      simp only at hab
      obtain ⟨hab1, hab2⟩ := hab
      obtain ⟨f1, f2⟩ := flat_at hp
      obtain ⟨bb, off, cs, z, rfl, hbk, hc⟩ := hr.2 (by omega)
      have hbw : bb < w.heap.size := (Array.getElem?_eq_some_iff.1 hbk).1
      have cf : ∀ W, Below w.heap.size w W → W.cell? ⟨bb, off + j, none⟩ = some (.int .i32 (a : Nat)) ∧ W.cell? ⟨bb, off + (j + 1), none⟩ = some (.int .i32 (b : Nat)) := fun W hW => by
        have e : W.heap[bb]? = w.heap[bb]? := hW.block bb hbw
        constructor
        · simp only [World.cell?, e, hbk]
          rw [hjn]
          exact hc _ _ (by rw [List.getElem?_map, f1]; rfl)
        · simp only [World.cell?, e, hbk]
          rw [hjn]
          exact hc _ _ (by rw [List.getElem?_map, f2]; rfl)
      obtain ⟨c1, c2⟩ := cf wo hbel
      have Hcf := Lib.hid cf; clear cf
      have hdr : P.drop k = (a, b) :: P.drop (k + 1) := by
        rw [List.getElem?_eq_some_iff] at hp
        obtain ⟨h1, h2⟩ := hp
        rw [List.drop_eq_getElem_cons h1, h2]
      have ha0 := hans.out
      rw [hdr] at ha0
      unfold othersGo at ha0
      have z1 : (j : Int) < (n : Int) := by omega
      have z2 : ((j + 1 : Nat) : Int) < (n : Int) := by omega
      have w1 : IntKind.i64.wrap ((j : Int) + 1) = ((j + 1 : Nat) : Int) := by rw [IntKind.wrap_i64]; omega
      have w2 : IntKind.i64.wrap ((j : Int) + 2) = ((j + 2 : Nat) : Int) := by rw [IntKind.wrap_i64]; omega
      have w3 : IntKind.i32.wrap ((b : Int) + 1) = ((b + 1 : Nat) : Int) := by simp [IntKind.wrap, IntKind.bits, IntKind.signed]; omega
      have hmes : j < n := by omega
      by_cases hc3 : fr < a
      · have z3 : (fr : Int) < (a : Int) := by omega
        have w4 : IntKind.i32.wrap ((a : Int) - 1) = ((a - 1 : Nat) : Int) := by simp [IntKind.wrap, IntKind.bits, IntKind.signed]; omega
        rw [if_pos hc3] at ha0
        have HANS := Lib.hid ha0
        clear ha0 hdr f1 f2 hc hbk hp
        have Hfl := Lib.hid hfl; have Hjn := Lib.hid hjn; have Hnn := Lib.hid hnn; clear hfl hjn hnn
        go_wp2_with (at_builtin; refine wpList_app _ rfl runeE rfl rfl (hown.alloc _) rfl (row_new wo _ [_, _]) (by simp [Value.oneCell']) (by have := Hfl.out; first | omega | (simp; omega)) (by simp; omega) ?_; intro v4 w4 hown4 hg4 hb4 _; have hb5 := (hbel.alloc hs0 _).trans hb4; obtain ⟨c3, c4⟩ := Hcf.out w4 hb5)
        go_roundw
        case rel =>
          refine ⟨k + 1, j + 2, b + 1, out ++ [(fr, a - 1)], Lib.hid (by have := Hjn.out; omega), by omega, rfl, rfl, by omega, ?_, by simp; omega, Lib.hid ?_, hb5⟩
          · rw [flat_app, List.map_append, List.length_append]
            exact hown4
          · rw [← HANS.out]; simp
        case measure => simp [intOf]; have := Hnn.out; omega
      · have z3 : ¬ (fr : Int) < (a : Int) := by omega
        rw [if_neg hc3] at ha0
        have HANS := Lib.hid ha0
        clear ha0 hdr f1 f2 hc hbk hp
        have Hfl := Lib.hid hfl; have Hjn := Lib.hid hjn; have Hnn := Lib.hid hnn; clear hfl hjn hnn
        go_wp2
        go_roundw
        case rel => exact ⟨k + 1, j + 2, b + 1, out, Lib.hid (by have := Hjn.out; omega), by omega, rfl, rfl, by omega, hown, by omega, Lib.hid (by rw [← HANS.out]; simp), hbel⟩
        case measure => simp [intOf]; have := Hnn.out; omega
    · have z1 : ¬ (j : Int) < (n : Int) := by omega
      have ha0 := hans.out
      rw [List.drop_eq_nil_of_le (by omega)] at ha0
      unfold othersGo at ha0
      have Hfl := Lib.hid hfl; have Hjn := Lib.hid hjn; have Hnn := Lib.hid hnn; clear hfl hjn hnn
      by_cases hc3 : fr ≤ 1114111
      · rw [if_pos hc3] at ha0
        have HANS := Lib.hid ha0; clear ha0
        have z3 : (fr : Int) ≤ 1114111 := by omega
        go_wp2_with (at_builtin; refine wpList_app _ rfl runeE rfl rfl (hown.alloc _) rfl (row_new wo _ [_, _]) (by simp [Value.oneCell']) (by have := Hfl.out; first | omega | (simp; omega)) (by simp; omega) ?_; intro v4 w4 hown4 hg4 hb4 _; have hb5 := (hbel.alloc hs0 _).trans hb4)
        go_ret
        refine ⟨_, rfl, ?_, hb5⟩
        rw [← HANS.out, flat_app, List.map_append, List.length_append]
        exact hown4
      · rw [if_neg hc3] at ha0
        have HANS := Lib.hid ha0; clear ha0
        have z3 : ¬ (fr : Int) ≤ 1114111 := by omega
        go_wp2
        go_ret
        refine ⟨_, rfl, ?_, hbel⟩
        rw [← HANS.out, List.append_nil]
        exact hown
end Go.Proofs.YtkojmgnbmnjmmaaDoor
