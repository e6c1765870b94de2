import Derived.Test.YtecejnilajbdpaaGreatDoorTz13
set_option maxRecDepth 100000
set_option maxHeartbeats 16000000
namespace Garner
open Go
theorem escR_pairs {s m s1 : List Nat} (h : escR s = some (m, s1)) (hb : ∀ r ∈ s, r ≤ 1114111) : ∃ P : List (Nat × Nat), m = flatR P ∧ P ≠ [] ∧ P.length ≤ 4 ∧ ∀ p ∈ P, p.1 ≤ p.2 ∧ p.2 ≤ 1114111 := by
 cases s with
 | nil => cases h
 | cons r s =>
  have hr := hb r (by simp)
  rw [escR] at h
  split at h
  ·cases h; exact ⟨[(10, 10)], rfl, by simp, by simp, by simp⟩
  split at h
  ·cases h; exact ⟨[(9, 9)], rfl, by simp, by simp, by simp⟩
  split at h
  ·cases h; exact ⟨[(48, 57)], rfl, by simp, by simp, by simp⟩
  split at h
  ·cases h; exact ⟨[(48, 57), (65, 90), (95, 95), (97, 122)], rfl, by simp, by simp, by simp⟩
  split at h
  ·cases h; exact ⟨[(9, 10), (13, 13), (32, 32)], rfl, by simp, by simp, by simp⟩
  split at h
  ·injection h with h; injection h with h1 h2
   exact ⟨[(r, r)], by rw [← h1]; rfl, by simp, by simp, by simpa using hr⟩
  cases h
theorem memR_pairs {s m s1 : List Nat} (h : memR s = some (m, s1)) (hb : ∀ r ∈ s, r ≤ 1114111) : ∃ P : List (Nat × Nat), m = flatR P ∧ P ≠ [] ∧ P.length ≤ 4 ∧ ∀ p ∈ P, p.1 ≤ p.2 ∧ p.2 ≤ 1114111 := by
 cases s with
 | nil => cases h
 | cons r s =>
  have hr := hb r (by simp)
  rw [memR] at h
  split at h
  ·exact escR_pairs h fun x hx => hb x (by simp [hx])
  split at h
  ·cases h
  injection h with h; injection h with h1 h2
  exact ⟨[(r, r)], by rw [← h1]; rfl, by simp, by simp, by simpa using hr⟩
theorem flat_two {P : List (Nat × Nat)} (hne : P ≠ []) : (∃ a b, flatR P = [a, b] ∧ P = [(a, b)]) ∨ (flatR P).length ≠ 2 := by
 match P, hne with
 | [(a, b)], _ => exact .inl ⟨a, b, rfl, rfl⟩
 | p :: q :: r, _ => exact .inr (by rw [flat_length]; simp; omega)
theorem rng_none {m t : List Nat} (h : m.length ≠ 2 ∨ t.length ≠ 2) : rngR m t = none := by
 unfold rngR
 split
 ·simp at h
 rfl
theorem fold_bound {B : Nat} : ∀ (l out : List (Nat × Nat)), (∀ p ∈ l, p.1 ≤ B ∧ p.2 ≤ B) → (∀ p ∈ out, p.1 ≤ B ∧ p.2 ≤ B) → (∀ p ∈ l.foldl stepI out, p.1 ≤ B ∧ p.2 ≤ B) ∧ (l.foldl stepI out).length ≤ out.length + l.length
 | [], out, _, h => ⟨h, Nat.le_refl _⟩
 | x :: l, out, hl, h => by
  have hx := hl x (by simp)
  have hs : (∀ p ∈ stepI out x, p.1 ≤ B ∧ p.2 ≤ B) ∧ (stepI out x).length ≤ out.length + 1 := by
   rcases List.eq_nil_or_concat out with e | ⟨o, ⟨p, q⟩, e⟩
   ·subst e
    exact ⟨by intro p hp; simp [stepI] at hp; rw [hp]; exact hx, by simp [stepI]⟩
   rw [List.concat_eq_append] at e
   subst e
   obtain ⟨a, b⟩ := x
   rw [Go.Proofs.YtecejnilajbdpaaGreatDoor.stepI_snoc]
   split
   ·refine ⟨fun y hy => ?_, by simp⟩
    rcases List.mem_append.1 hy with hy | hy
    ·exact h y (by simp [hy])
    rw [List.mem_singleton.1 hy]
    have := h (p, q) (by simp)
    simp only at this hx ⊢
    omega
   refine ⟨fun y hy => ?_, by simp⟩
   rcases List.mem_append.1 hy with hy | hy
   ·exact h y hy
   rw [List.mem_singleton.1 hy]; exact hx
  obtain ⟨h1, h2⟩ := fold_bound l (stepI out x) (fun p hp => hl p (by simp [hp])) hs.1
  exact ⟨h1, by simp only [List.foldl_cons, List.length_cons]; omega⟩
theorem sort_length : ∀ l : List (Nat × Nat), (sortR l).length = l.length
 | [] => rfl
 | x :: l => by
  have : ∀ (l : List (Nat × Nat)), (insR x l).length = l.length + 1 := fun l => by
   induction l with
   | nil => rfl
   | cons y l ih => unfold insR; split <;> simp [ih]
  rw [sortR, this, sort_length l, List.length_cons]
theorem merge_bound {P : List (Nat × Nat)} {B : Nat} (h : ∀ p ∈ P, p.1 ≤ B ∧ p.2 ≤ B) : (∀ p ∈ mergeI (sortR P), p.1 ≤ B ∧ p.2 ≤ B) ∧ (mergeI (sortR P)).length ≤ P.length := by
 obtain ⟨h1, h2⟩ := fold_bound (sortR P) [] (fun p hp => h p (mem_sort.1 hp)) (by simp)
 rw [sort_length] at h2
 exact ⟨h1, by unfold mergeI; simpa using h2⟩
end Garner
namespace Go.Proofs.YtecejnilajbdpaaGreatDoor
open Go.RowKit Garner
def psLen (g : Nat) (w : World) : Nat := match w.cell? ⟨g, 0, none⟩ with
 | some (.slice _ n _) => n
 | _ => 0
theorem PS.psLen {F : Nat → Prop} {w : World} {g : Nat} {rs : List Nat} {ns : List NodeP} {deep most : Nat} (h : PS F w g rs ns deep most) : psLen g w = rs.length := by
 obtain ⟨A, c, O, m, h1, -⟩ := h.ex
 have h2 : w.cell? ⟨g, 0, none⟩ = some (.slice A rs.length c) := h1.cell 0
 unfold Go.Proofs.YtecejnilajbdpaaGreatDoor.psLen
 rw [h2]
theorem vNext_any {F : Nat → Prop} (c : Nat) (g : Nat) (w : World) (rs : List Nat) (ns : List NodeP) (deep most : Nat) (h : PS F w g rs ns deep most) :
  Calls Tryz.prog 122 #[.pointer (some ⟨g, 0, none⟩), .int .i32 c] w fun e w' => e = .returned (.bool (decide (rs.head? = some c))) ∧ PS F w' g (if rs.head? = some c then rs.tail else rs) ns deep most ∧ PK g w w' := by
 by_cases hc : rs.head? = some c
 ·cases rs with
  | nil => cases hc
  | cons a r =>
   injection hc with hc
   subst hc
   refine (vNext_yes a g w r ns deep most h).mono ?_
   rintro e w' ⟨rfl, h1, h2⟩
   exact ⟨by simp, by simpa using h1, h2⟩
 refine (vNext_no c g w rs ns deep most h hc).mono ?_
 rintro e w' ⟨rfl, rfl⟩
 rw [if_neg hc, decide_eq_false hc]
 exact ⟨rfl, h, .refl _ _⟩
def OutT (F : Nat → Prop) (o : Option (Re × List Nat)) (w0 : World) (g : Nat) (ns : List NodeP) (deep most : Nat) (e : Ending) (w' : World) : Prop := match o with
 | some (t, r) => e = .returned (.int .i64 ((ns.length + t.cnt - 1 : Nat) : Int)) ∧ PS (Ext F w0 w') w' g r (ns ++ t.flat ns.length) deep most
 | none => e = faulted
theorem vSetNode {F : Nat → Prop} (set : List Nat) (A : Option Addr) (c n : Nat) (g : Nat) (w w1 : World) (r : List Nat) (ns : List NodeP) (deep most : Nat) (hn : n = set.length) (h : PS F w1 g r ns deep most) (h0 : ∀ k, F k → k < w.heap.size) (k1 : PK g w w1) (hr : RowT w1 21 A n (set.map rv))
  (hA : ∀ a, A = some a → w.heap.size ≤ a.block ∧ a.block < w1.heap.size) (hns : ns.length < 100000) :
  Calls Tryz.prog 148 #[.pointer (some ⟨g, 0, none⟩), .agg #[.int .i64 2, .slice none 0 0, .int .i64 0, .int .i64 0, .slice A n c]] w1 fun e w' => PK g w w' ∧ OutT F (some (.set set, r)) w g ns deep most e w' := by
 subst hn
 have hx := h.ext h0 k1.keep.size
 have hd : NodeOk (Ext F w w1) w1 ⟨⟨2, [], 0, 0, set⟩, none, 0, A, c⟩ := ⟨RowT.nil, hr, fun a e => (by cases e), fun a e => .inr (hA a e)⟩
 refine (vNode ⟨⟨2, [], 0, 0, set⟩, none, 0, A, c⟩ g w1 r ns deep most hx hd hns).mono ?_
 rintro e w2 ⟨rfl, h2, k2⟩
 have s1 := k1.keep.size
 have s2 := k2.keep.size
 refine ⟨k1.trans k2, rfl, h2.mono (fun k hk => ?_) (Ext.lt h0 (Nat.le_trans s1 s2))⟩
 rcases hk with hk | hk
 ·exact .inl hk
 exact .inr ⟨hk.1, by omega⟩
structure ClsI (F : Nat → Prop) (ANS : Option (List Nat × List Nat)) (w : World) (g : Nat) (ns : List NodeP) (deep most T : Nat) (v sm : Value) (wr : World) (P : List (Nat × Nat)) (s : List Nat) (f : Nat) (b : Bool) : Prop where
 sm : sm = .bool b
 own : wr.ownsRow w.heap.size 21 1 v (flatR P).length ((flatR P).map rv)
 ps : PS F wr g s ns deep most
 pk : PK g w wr
 ans : clsR f b s (flatR P) = ANS
 some_ : b = true → P ≠ []
 fuel : s.length + 1 ≤ f
 bd : ∀ p ∈ P, p.1 ≤ p.2 ∧ p.2 ≤ 1114111
 len : P.length + 4 * s.length ≤ 4 * T
theorem not_F {F : Nat → Prop} {w0 w : World} {e : TypeId} {sz n : Nat} {v : Value} {xs : List Value} (h0 : ∀ k, F k → k < w0.heap.size) (ho : w.ownsRow w0.heap.size e sz v n xs) : ∀ k, v.ownBlock = some k → ¬ F k := fun k hk hF => by
 have := (ho.lt k hk).1
 have := h0 k hF
 omega
theorem cls_next {F : Nat → Prop} {ANS : Option (List Nat × List Nat)} {w w4 w8 : World} {g : Nat} {ns : List NodeP} {deep most T n nm f : Nat} {v v8 : Value} {P Q : List (Nat × Nat)} {s : List Nat} (h0 : ∀ k, F k → k < w.heap.size) (hgw : g < w.heap.size) (hn : (flatR P).length = n) (hnm : (flatR Q).length = nm)
  (own4 : w4.ownsRow w.heap.size 21 1 v n ((flatR P).map rv)) (own8 : w8.ownsRow w.heap.size 21 1 v8 (n + nm) ((flatR P).map rv ++ (flatR Q).map rv)) (hg : w4.grownBy w8 v.ownBlock) (h4 : PS F w4 g s ns deep most) (pk : PK g w w4)
  (ans : clsR f true s (flatR P ++ flatR Q) = ANS) (hQ : Q ≠ []) (fuel : s.length + 1 ≤ f) (bP : ∀ p ∈ P, p.1 ≤ p.2 ∧ p.2 ≤ 1114111) (bQ : ∀ p ∈ Q, p.1 ≤ p.2 ∧ p.2 ≤ 1114111) (len : P.length + Q.length + 4 * s.length ≤ 4 * T) :
  ClsI F ANS w g ns deep most T v8 (.bool true) w8 (P ++ Q) s f true ∧ psLen g w8 = s.length := by
 have hps : PS F w8 g s ns deep most := h4.grown own4 hg (not_F h0 own4) (by decide) (by decide)
 have hs := pk.keep.size
 refine ⟨⟨rfl, ?_, hps, pk.grown own4 hg (Nat.le_refl _) (Nat.le_of_lt hgw) (by omega), ?_, fun _ => by simp [hQ], fuel, fun p hp => ?_, by rw [List.length_append]; omega⟩, hps.psLen⟩
 ·rw [flat_app, List.map_append, List.length_append, hn, hnm]; exact own8
 ·rw [flat_app]; exact ans
 rcases List.mem_append.1 hp with hp | hp
 ·exact bP p hp
 exact bQ p hp
theorem vClass {F : Nat → Prop} (g : Nat) (w : World) (rs : List Nat) (ns : List NodeP) (deep most : Nat) (h : PS F w g rs ns deep most) (hns : ns.length < 100000) :
  Calls Tryz.prog 196 #[.pointer (some ⟨g, 0, none⟩)] w fun e w' => PK g w w' ∧ OutT F ((classR rs).map fun p => (Re.set p.1, p.2)) w g ns deep most e w' := by
 have hgw := h.lt
 have hlb := h.lb
 have HF := Lh h.hF
 have hcls : classR rs = (clsR (rs.length + 1) false (if rs.head? = some 94 then rs.tail else rs) []).map fun p => (if decide (rs.head? = some 94) = true then othersR (mergedR p.1) else mergedR p.1, p.2) := by
  unfold classR
  by_cases hc : rs.head? = some 94
  ·simp [hc]
  simp [hc]
 have hv := vNext_any 94 g w rs ns deep most h
 have hs0 : (if rs.head? = some 94 then rs.tail else rs).length ≤ rs.length := by
  split
  ·exact tail_le rs
  exact Nat.le_refl _
 obtain ⟨nt, hnt⟩ : ∃ nt, decide (rs.head? = some 94) = nt := ⟨_, rfl⟩
 obtain ⟨s0, hs0e⟩ : ∃ s0, (if rs.head? = some 94 then rs.tail else rs) = s0 := ⟨_, rfl⟩
 rw [hnt, hs0e] at hcls hv
 rw [hs0e] at hs0
 obtain ⟨ANS, hANS⟩ : ∃ ANS, clsR (rs.length + 1) false s0 [] = ANS := ⟨_, rfl⟩
 rw [hANS] at hcls
 obtain ⟨OUT, hOUT⟩ : ∃ OUT, (classR rs).map (fun p => (Re.set p.1, p.2)) = OUT := ⟨_, rfl⟩
 rw [hOUT]
 rw [hcls] at hOUT
 have HO := Lh hOUT; have HA := Lh hANS
 clear hOUT hANS hcls hnt hs0e
 obtain ⟨T, hT⟩ : ∃ T, T = rs.length := ⟨_, rfl⟩
 rw [← hT] at hlb hs0
 have HT := Lh hT; clear hT
 go_enter Tryz.func196, Tryz.ntmps196
 go_wp2_with fail
 refine hv.mono ?_
 rintro e w1 ⟨rfl, h1, k1⟩
 clear hv
 go_wp2
 go_loopw [4, 5] (fun v sm wr => ∃ P s f b, ClsI F ANS w g ns deep most T v sm wr P s f b) (fun _ _ wr => psLen g wr)
 case atStart => exact ⟨[], s0, T + 1, false, rfl, World.ownsRow_nil _ _ _ _, h1, k1, by rw [HT.out]; exact HA.out, fun e => (by cases e), by omega, by simp, by simp; omega⟩
 obtain ⟨P, s, f, b, hI⟩ := hrel
 obtain ⟨rfl, hown, hps, hpk, hans, hsm, hfu, hbd, hlen⟩ := hI
 obtain ⟨wo, rfl⟩ : ∃ wo : World, wo = wr := ⟨_, rfl⟩
 obtain ⟨f, rfl⟩ : ∃ f', f = f' + 1 := ⟨f - 1, by omega⟩
 obtain ⟨A4, c4, rfl, hc4⟩ := own_form hown
 have hfl := flat_length P
 have Hsm := Lh hsm; have Hbd := Lh hbd; have Hans := Lh hans; have Hfl := Lh hfl
 clear hsm hbd hans hfl
 have hlS := hps.psLen
 have HlS := Lh hlS; clear hlS
 have hrb := hps.rb
 have Hrb := Lh hrb; clear hrb
 have Hps := Lh hps; have Hpk := Lh hpk; have Hown := Lh hown
 clear hps hpk hown
 by_cases hend : b = true ∧ s.head? = some 93
 ·obtain ⟨rfl, hh⟩ := hend
  cases s with
  | nil => cases hh
  | cons x r =>
   injection hh with hh
   subst hh
   go_wp2_with fail
   refine (vNext_yes 93 g wo r ns deep most Hps.out).mono ?_
   rintro e w2 ⟨rfl, h2, k2⟩
   go_wp2_with fail
   have hP2 : ∀ p ∈ P, p.1 ≤ 1114111 ∧ p.2 ≤ 1114111 := fun p hp => by have := Hbd.out p hp; omega
   have own2 := k2.keep.own Hown.out (by decide)
   have hPl : P.length ≤ 1000 := by omega
   obtain ⟨mb1, mb2⟩ := merge_bound hP2
   have hans := Hans.out
   rw [clsR, if_pos ⟨rfl, rfl⟩] at hans
   have hout := HO.out
   rw [← hans] at hout
   have hpk2 := Hpk.out.trans k2
   have hs2 := hpk2.keep.size
   refine (vMerged P A4 c4 (flatR P).length w2 Hfl.out (RowT.of_own own2) hP2 (fun p hp => (Hbd.out p hp).1) (Hsm.out (by simp)) hPl).mono ?_
   rintro e w3 ⟨v3, rfl, own3, b3⟩
   obtain ⟨A3, c3, rfl, -⟩ := own_form own3
   have h3 := h2.below b3
   have hpk3 := hpk2.trans (.of_below b3 (Nat.le_of_lt h2.lt))
   have hA3 : ∀ a, A3 = some a → w2.heap.size ≤ a.block ∧ a.block < w3.heap.size := fun a e => own3.lt a.block (by rw [e]; rfl)
   have hr3 := RowT.of_own own3
   cases nt with
   | false =>
    have hv := vSetNode (flatR (mergeI (sortR P))) A3 c3 (flatR (mergeI (sortR P))).length g w w3 r ns deep most rfl h3 HF.out hpk3 hr3 (fun a e => ⟨Nat.le_trans hs2 (hA3 a e).1, (hA3 a e).2⟩) hns
    have hOUT : OUT = some (.set (flatR (mergeI (sortR P))), r) := by
     rw [← hout]; simp [mergedR, pairs_flat]
    obtain ⟨n3, hn3⟩ : ∃ n3, (flatR (mergeI (sortR P))).length = n3 := ⟨_, rfl⟩
    rw [hn3] at hv ⊢
    have HV := Lh hv; have HOU := Lh hOUT
    clear hv hOUT hout hans hA3 mb1 mb2 hP2 own2 own3 hr3 h3 hn3 hpk2 hpk3 h2 k2 b3
    go_wp2_with fail
    refine HV.out.mono ?_
    rintro e w4 ⟨k4, rfl, h4⟩
    go_wp2
    go_ret
    refine ⟨k4, ?_⟩
    rw [HOU.out]
    exact ⟨rfl, h4⟩
   | true =>
    have hv2 := vOthers (mergeI (sortR P)) A3 c3 (flatR (mergeI (sortR P))).length w3 (flat_length _) hr3 mb1 (by omega)
    have hOUT : OUT = some (.set (flatR (othersGo 0 (mergeI (sortR P)))), r) := by
     rw [← hout]; simp [mergedR, othersR, pairs_flat]
    have hs3 := hpk3.keep.size
    obtain ⟨n3, hn3⟩ : ∃ n3, (flatR (mergeI (sortR P))).length = n3 := ⟨_, rfl⟩
    rw [hn3] at hv2 ⊢
    have HOU := Lh hOUT; have H3 := Lh h3; have HK := Lh hpk3
    clear hOUT hout hans hA3 mb1 mb2 hP2 own2 own3 hr3 h3 hn3 hpk2 hpk3 h2 k2 b3
    go_wp2_with fail
    refine hv2.mono ?_
    clear hv2
    rintro e w4 ⟨v4, rfl, own4, b4⟩
    obtain ⟨A5, c5, rfl, -⟩ := own_form own4
    have hA5 : ∀ a, A5 = some a → w3.heap.size ≤ a.block ∧ a.block < w4.heap.size := fun a e => own4.lt a.block (by rw [e]; rfl)
    have hv := vSetNode (flatR (othersGo 0 (mergeI (sortR P)))) A5 c5 (flatR (othersGo 0 (mergeI (sortR P)))).length g w w4 r ns deep most rfl (H3.out.below b4) HF.out (HK.out.trans (.of_below b4 (Nat.le_of_lt H3.out.lt))) (RowT.of_own own4) (fun a e => ⟨Nat.le_trans hs3 (hA5 a e).1, (hA5 a e).2⟩) hns
    obtain ⟨n4, hn4⟩ : ∃ n4, (flatR (othersGo 0 (mergeI (sortR P)))).length = n4 := ⟨_, rfl⟩
    rw [hn4] at hv ⊢
    have HV := Lh hv
    clear hv own4 b4 hn4 hA5
    go_wp2_with fail
    refine HV.out.mono ?_
    rintro e w5 ⟨k5, rfl, h5⟩
    go_wp2
    go_ret
    refine ⟨k5, ?_⟩
    rw [HOU.out]
    exact ⟨rfl, h5⟩
 have hans := Hans.out
 rw [clsR, if_neg hend] at hans
 have hmem := vMember g wo s ns deep most Hps.out
 have hno : b = true → s.head? ≠ some 93 := fun hb hh => hend ⟨hb, hh⟩
 have hhead : ∀ (c : Bool), b = c → (c = true → Calls Tryz.prog 122 #[.pointer (some ⟨g, 0, none⟩), .int .i32 (93 : Nat)] wo fun e w' => e = .returned (.bool false) ∧ w' = wo) := fun c hc h1 => vNext_no 93 g wo s ns deep most Hps.out (hno (hc.trans h1))
 have Hh := Lh hhead; have Hans2 := Lh hans; have Hm := Lh hmem
 clear hend hno hhead hans hmem
 cases b
 all_goals
  go_wp2_with fail
  try
   refine (Hh.out true rfl rfl).mono ?_
   rintro e w2 ⟨rfl, hw⟩
   obtain rfl : wo = w2 := hw.symm
   go_wp2_with fail
  clear Hh
  refine Hm.out.mono ?_
  rintro e w3 ⟨k3, o3⟩
  have hans := Hans2.out
  cases hm : memR s with
  | none =>
   rw [hm] at o3 hans
   obtain rfl : e = faulted := o3
   have hout := HO.out
   rw [← hans] at hout
   exact ⟨rfl, Hpk.out.trans k3, by rw [← hout]; exact rfl⟩
  | some q =>
   obtain ⟨m, s1⟩ := q
   rw [hm] at o3 hans
   obtain ⟨A6, c6, rfl, hr6, h3, hA6⟩ := o3
   dsimp only at hans
   obtain ⟨Pm, hPm, hPne, hPl, hPb⟩ := memR_pairs hm Hrb.out
   have hml := memR_len hm
   have hk3 := Hpk.out.trans k3
   have own3 := k3.keep.own Hown.out (by decide)
   have hv := vNext_any 45 g w3 s1 ns deep most h3
   have Hans3 := Lh hans; have HPb := Lh hPb; have HPm := Lh hPm; have H3 := Lh h3; have HK3 := Lh hk3; have Ho3 := Lh own3; have HR6 := Lh hr6; have HA6 := Lh hA6
   obtain ⟨nm, hnm⟩ : ∃ nm, m.length = nm := ⟨_, rfl⟩
   have Hnm := Lh hnm
   rw [hnm]
   clear hans hPb hPm h3 hk3 own3 hr6 hA6 hm hnm Hm
   by_cases hd : s1.head? = some 45
   ·rw [if_pos hd, decide_eq_true hd] at hv
    have Hd := Lh hd; clear hd
    go_wp2_with fail
    refine hv.mono ?_
    clear hv
    rintro e w4 ⟨rfl, h4, k4⟩
    have hmem2 := vMember g w4 s1.tail ns deep most h4
    go_wp2_with fail
    refine hmem2.mono ?_
    clear hmem2
    rintro e w5 ⟨k5, o5⟩
    have hans := Hans3.out
    rw [if_pos Hd.out] at hans
    cases ht : memR s1.tail with
    | none =>
     rw [ht] at o5 hans
     obtain rfl : e = faulted := o5
     have hout := HO.out
     rw [← hans] at hout
     exact ⟨rfl, HK3.out.trans (k4.trans k5), by rw [← hout]; exact rfl⟩
    | some q2 =>
     obtain ⟨t, s2⟩ := q2
     rw [ht] at o5 hans
     obtain ⟨A7, c7, rfl, hr7, h5, hA7⟩ := o5
     dsimp only at hans
     obtain ⟨Pt, hPt, hPtne, hPtl, hPtb⟩ := memR_pairs ht h4.rb
     have htl := memR_len ht
     have htl2 := tail_le s1
     have hr6 := (HR6.out.keep k4.keep (by decide)).keep k5.keep (by decide)
     have hk5 := HK3.out.trans (k4.trans k5)
     have own5 := (k4.trans k5).keep.own Ho3.out (by decide)
     have hfault : rngR m t = none → ANS = none := fun e => by rw [e] at hans; exact hans.symm
     have hok : ∀ q, rngR m t = some q → clsR f true s2 (flatR P ++ q) = ANS := fun q e => by rw [e] at hans; exact hans
     have hpan : rngR m t = none → ∀ w', Below w5.heap.size w5 w' → PK g w w' ∧ OutT F OUT w g ns deep most faulted w' := fun e w' hb => by
      have hout := HO.out
      rw [hfault e] at hout
      exact ⟨hk5.trans (.of_below hb (Nat.le_of_lt h5.lt)), by rw [← hout]; exact rfl⟩
     have Hpan := Lh hpan; have Hok := Lh hok; have H5 := Lh h5; have HK5 := Lh hk5; have Ho5 := Lh own5
     have Hr6 := Lh hr6; have Hr7 := Lh hr7; have HPt := Lh hPt
     have g5 := hk5.keep.size
     clear hpan hok hfault h5 hk5 own5 hr6 hr7 hA7 hans ht h4 hPt
     have sS : Below w5.heap.size w5 w5.drew := (Below.refl _ _).drew
     obtain ⟨n7, hn7⟩ : ∃ n7, t.length = n7 := ⟨_, rfl⟩
     have Hn7 := Lh hn7
     rw [hn7]
     clear hn7
     rcases flat_two hPne with ⟨a, a2, em, ep⟩ | hm2
     ·have emm : m = [a, a2] := by rw [HPm.out]; exact em
      have enm : nm = 2 := by rw [← Hnm.out, emm]; rfl
      subst enm
      obtain ⟨b1, o1, cs1, zz1, rfl, hbk1, hc1⟩ := Hr6.out.2 (by rw [emm]; simp)
      have cf1 : ∀ W, Below w5.heap.size w5 W → W.cell? ⟨b1, o1, none⟩ = some (.int .i32 (a : Nat)) ∧ W.cell? ⟨b1, o1 + 1, none⟩ = some (.int .i32 (a2 : Nat)) := fun W hW => by
       have e : W.heap[b1]? = w5.heap[b1]? := hW.block b1 (Array.getElem?_eq_some_iff.1 hbk1).1
       constructor
       ·simp only [World.cell?, e, hbk1]
        exact hc1 0 _ (by rw [emm]; rfl)
       simp only [World.cell?, e, hbk1]
       exact hc1 1 _ (by rw [emm]; rfl)
      have Hc1 := Lh cf1
      clear cf1 hbk1 hc1
      have Hemm := Lh emm
      clear em emm
      rcases flat_two hPtne with ⟨d, d2, et, ept⟩ | ht2
      ·have ett : t = [d, d2] := by rw [HPt.out]; exact et
       have en7 : n7 = 2 := by rw [← Hn7.out, ett]; rfl
       subst en7
       obtain ⟨b2, o2, cs2, zz2, rfl, hbk2, hc2⟩ := Hr7.out.2 (by rw [ett]; simp)
       have cf2 : ∀ W, Below w5.heap.size w5 W → W.cell? ⟨b2, o2, none⟩ = some (.int .i32 (d : Nat)) ∧ W.cell? ⟨b2, o2 + 1, none⟩ = some (.int .i32 (d2 : Nat)) := fun W hW => by
        have e : W.heap[b2]? = w5.heap[b2]? := hW.block b2 (Array.getElem?_eq_some_iff.1 hbk2).1
        constructor
        ·simp only [World.cell?, e, hbk2]
         exact hc2 0 _ (by rw [ett]; rfl)
        simp only [World.cell?, e, hbk2]
        exact hc2 1 _ (by rw [ett]; rfl)
       have Hc2 := Lh cf2
       clear cf2 hbk2 hc2
       have Hett := Lh ett
       have hpd := hPtb (d, d2) (by rw [ept]; simp)
       have HPd := Lh hpd
       clear hpd
       clear et ett
       by_cases ha : a = a2
       ·subst ha
        by_cases hdd : d = d2
        ·subst hdd
         by_cases hle : a ≤ d
         ·have hq : rngR m t = some [a, d] := by rw [Hemm.out, Hett.out]; exact if_pos ⟨rfl, rfl, hle⟩
          have hok := Hok.out _ hq
          have HOK := Lh hok
          have z1 : (a : Int) ≤ (d : Int) := by omega
          clear hq hok
          go_upto_region 9 with fail
          refine rgQ (fun w' => Below w5.heap.size w5 w') 100 (by kernel_rfl) (fun _ _ d _ _ h => by cases d <;> exact h) fun qP => ?_
          apply tkq 0 (by kernel_rfl) rfl qP sS
          ·intro w' hS'; go_simp; exact ⟨rfl, rfl⟩
          apply tkq 1 (by kernel_rfl) rfl qP sS
          ·intro w' hS'; go_simp; exact ⟨rfl, rfl⟩
          apply tkq 2 (by kernel_rfl) rfl qP sS
          ·intro w' hS'; go_simp; exact ⟨rfl, rfl⟩
          apply tkq 3 (v := (.bool true)) (by kernel_rfl) rfl qP sS
          ·intro w' hS'
           (go_simp; exact ⟨rfl, rfl⟩)
          apply tkq 4 (v := (.bool true)) (by kernel_rfl) rfl qP sS
          ·intro w' hS'
           (go_simp; exact ⟨rfl, rfl⟩)
          apply tkq 5 (by kernel_rfl) rfl qP sS
          ·intro w' hS'; go_simp; exact ⟨rfl, rfl⟩
          apply tkq 6 (by kernel_rfl) rfl qP sS
          ·intro w' hS'; go_simp; exact ⟨rfl, rfl⟩
          apply tkq 7 (v := (.bool true)) (by kernel_rfl) rfl qP sS
          ·intro w' hS'
           (go_simp; exact ⟨rfl, rfl⟩)
          apply tkq 8 (v := (.bool true)) (by kernel_rfl) rfl qP sS
          ·intro w' hS'
           (go_simp; exact ⟨rfl, rfl⟩)
          apply tkq 9 (v := (.bool true)) (by kernel_rfl) rfl qP sS
          ·intro w' hS'
           (go_simp; exact ⟨rfl, rfl⟩)
          apply tkq 10 (by kernel_rfl) rfl qP sS
          ·intro w' hS'; go_simp; exact ⟨rfl, rfl⟩
          apply tkq 11 (v := (.pointer (some ⟨b1, o1, none⟩))) (by kernel_rfl) rfl qP sS
          ·intro w' hS'
           (go_simp; exact ⟨rfl, rfl⟩)
          apply tkq 12 (v := (.int .i32 (a : Nat))) (by kernel_rfl) rfl qP sS
          ·intro w' hS'; have k1 := (Hc1.out w' hS').1; go_simp; exact ⟨rfl, rfl⟩
          apply tkq 13 (by kernel_rfl) rfl qP sS
          ·intro w' hS'; go_simp; exact ⟨rfl, rfl⟩
          apply tkq 14 (v := (.pointer (some ⟨b1, o1 + 1, none⟩))) (by kernel_rfl) rfl qP sS
          ·intro w' hS'
           (go_simp; exact ⟨rfl, rfl⟩)
          apply tkq 15 (v := (.int .i32 (a : Nat))) (by kernel_rfl) rfl qP sS
          ·intro w' hS'; have k1 := (Hc1.out w' hS').2; go_simp; exact ⟨rfl, rfl⟩
          apply tkq 16 (v := (.bool true)) (by kernel_rfl) rfl qP sS
          ·intro w' hS'
           (go_simp; exact ⟨rfl, rfl⟩)
          apply tkq 17 (v := (.bool true)) (by kernel_rfl) rfl qP sS
          ·intro w' hS'
           (go_simp; exact ⟨rfl, rfl⟩)
          apply tkq 18 (v := (.bool true)) (by kernel_rfl) rfl qP sS
          ·intro w' hS'
           (go_simp; exact ⟨rfl, rfl⟩)
          apply tkq 19 (by kernel_rfl) rfl qP sS
          ·intro w' hS'; go_simp; exact ⟨rfl, rfl⟩
          apply tkq 20 (v := (.pointer (some ⟨b2, o2, none⟩))) (by kernel_rfl) rfl qP sS
          ·intro w' hS'
           (go_simp; exact ⟨rfl, rfl⟩)
          apply tkq 21 (v := (.int .i32 (d : Nat))) (by kernel_rfl) rfl qP sS
          ·intro w' hS'; have k1 := (Hc2.out w' hS').1; go_simp; exact ⟨rfl, rfl⟩
          apply tkq 22 (by kernel_rfl) rfl qP sS
          ·intro w' hS'; go_simp; exact ⟨rfl, rfl⟩
          apply tkq 23 (v := (.pointer (some ⟨b2, o2 + 1, none⟩))) (by kernel_rfl) rfl qP sS
          ·intro w' hS'
           (go_simp; exact ⟨rfl, rfl⟩)
          apply tkq 24 (v := (.int .i32 (d : Nat))) (by kernel_rfl) rfl qP sS
          ·intro w' hS'; have k1 := (Hc2.out w' hS').2; go_simp; exact ⟨rfl, rfl⟩
          apply tkq 25 (v := (.bool true)) (by kernel_rfl) rfl qP sS
          ·intro w' hS'
           (go_simp; exact ⟨rfl, rfl⟩)
          apply tkq 26 (v := (.bool true)) (by kernel_rfl) rfl qP sS
          ·intro w' hS'
           (go_simp; exact ⟨rfl, rfl⟩)
          apply tkq 27 (v := (.bool true)) (by kernel_rfl) rfl qP sS
          ·intro w' hS'
           (go_simp; exact ⟨rfl, rfl⟩)
          apply tkq 28 (by kernel_rfl) rfl qP sS
          ·intro w' hS'; go_simp; exact ⟨rfl, rfl⟩
          apply tkq 29 (v := (.pointer (some ⟨b1, o1, none⟩))) (by kernel_rfl) rfl qP sS
          ·intro w' hS'
           (go_simp; exact ⟨rfl, rfl⟩)
          apply tkq 30 (v := (.int .i32 (a : Nat))) (by kernel_rfl) rfl qP sS
          ·intro w' hS'; have k1 := (Hc1.out w' hS').1; go_simp; exact ⟨rfl, rfl⟩
          apply tkq 31 (by kernel_rfl) rfl qP sS
          ·intro w' hS'; go_simp; exact ⟨rfl, rfl⟩
          apply tkq 32 (v := (.pointer (some ⟨b2, o2, none⟩))) (by kernel_rfl) rfl qP sS
          ·intro w' hS'
           (go_simp; exact ⟨rfl, rfl⟩)
          apply tkq 33 (v := (.int .i32 (d : Nat))) (by kernel_rfl) rfl qP sS
          ·intro w' hS'; have k1 := (Hc2.out w' hS').1; go_simp; exact ⟨rfl, rfl⟩
          apply tkq 34 (v := (.bool true)) (by kernel_rfl) rfl qP sS
          ·intro w' hS'
           (go_simp; exact ⟨rfl, rfl⟩)
          apply tkq 35 (v := (.bool true)) (by kernel_rfl) rfl qP sS
          ·intro w' hS'
           (go_simp; exact ⟨rfl, rfl⟩)
          (try simp only [Act.put]); (try simp only [List.setIfInBounds_toArray]); (try simp only [List.set])
          refine rnL 36 (by kernel_rfl) rfl (by kernel_rfl) (fun K hK => ?_)
          go_simp
          refine (vMust_t _ rfl _).mono ?_
          rintro e w' ⟨rfl, hw'⟩
          rw [hw']
          refine hK _ _ (fun _ => sS) ?_
          clear hK K
          (try simp only [Act.put]); (try simp only [List.setIfInBounds_toArray]); (try simp only [List.set])
          refine dnL (by kernel_rfl) ?_ _
          go_upto_region 10 with fail
          have sT : Below w5.heap.size w5 w5.drew.drew := sS.drew
          refine rgQ (fun w' => Below w5.heap.size w5 w') 100 (by kernel_rfl) (fun _ _ d _ _ h => by cases d <;> exact h) fun qP => ?_
          apply tkq 0 (by kernel_rfl) rfl qP sT
          ·intro w' hS'; go_simp; exact ⟨rfl, rfl⟩
          apply tkq 1 (v := (.pointer (some ⟨b1, o1, none⟩))) (by kernel_rfl) rfl qP sT
          ·intro w' hS'
           (go_simp; exact ⟨rfl, rfl⟩)
          apply tkq 2 (v := (.int .i32 (a : Nat))) (by kernel_rfl) rfl qP sT
          ·intro w' hS'; have k1 := (Hc1.out w' hS').1; go_simp; exact ⟨rfl, rfl⟩
          apply tkq 3 (by kernel_rfl) rfl qP sT
          ·intro w' hS'; go_simp; exact ⟨rfl, rfl⟩
          apply tkq 4 (v := (.pointer (some ⟨b2, o2, none⟩))) (by kernel_rfl) rfl qP sT
          ·intro w' hS'
           (go_simp; exact ⟨rfl, rfl⟩)
          apply tkq 5 (v := (.int .i32 (d : Nat))) (by kernel_rfl) rfl qP sT
          ·intro w' hS'; have k1 := (Hc2.out w' hS').1; go_simp; exact ⟨rfl, rfl⟩
          (try simp only [Act.put]); (try simp only [List.setIfInBounds_toArray]); (try simp only [List.set])
          refine rnL 6 (by kernel_rfl) rfl (by kernel_rfl) (fun K hK => ?_)
          go_simp
          obtain ⟨Y, hY⟩ : ∃ Y, Y = (w5.alloc (.cells #[.int .i32 (a : Nat), .int .i32 (d : Nat)] 21)).drew.drew := ⟨_, rfl⟩
          rw [← hY]
          have bY : Below w5.heap.size w5 Y := by rw [hY]; exact ((Below.refl _ _).alloc (Nat.le_refl _) _).drew.drew
          have rowY : Row Y (w5.heap.size + 1) 1 (some ⟨w5.heap.size, 0, none⟩) 2 ([a, d].map rv) := by rw [hY]; exact ((row_new w5 21 [.int .i32 (a : Nat), .int .i32 (d : Nat)]).drew).drew
          have ownY := own_below Ho5.out bY
          have psY := H5.out.below bY
          have pkY := HK5.out.trans (.of_below bY (Nat.le_of_lt H5.out.lt))
          have sY := bY.size
          clear hY
          refine hK _ _ (fun _ => bY) ?_
          clear hK K
          (try simp only [Act.put]); (try simp only [List.setIfInBounds_toArray]); (try simp only [List.set])
          refine rnL 7 (by kernel_rfl) rfl (by kernel_rfl) (fun K hK => ?_)
          go_simp
          refine hK _ _ (fun _ => bY) ?_
          clear hK K
          (try simp only [Act.put]); (try simp only [List.setIfInBounds_toArray]); (try simp only [List.set])
          refine dnL (by kernel_rfl) ?_ _
          have Hpy := Lh psY; have Hky := Lh pkY
          clear psY pkY bY sT sS
          have bdm : (flatR P).length + 2 ≤ 100000 := by have := Hfl.out; omega
          go_wp2_with (at_builtin; refine wpList_app _ rfl runeE rfl rfl ownY rfl rowY (rv_one _) (by omega) (by omega) ?_; intro v8 w8 own8 hg8 hb8 _)
          obtain ⟨e1, e2⟩ := cls_next (P := P) (Q := [(a, d)]) (n := (flatR P).length) (nm := 2) (s := s2) (f := f) (T := T) (ANS := ANS) HF.out hgw rfl rfl ownY own8 hg8 Hpy.out Hky.out HOK.out (by simp) (by omega) Hbd.out (by intro p hp; simp at hp; subst hp; exact ⟨hle, by have := HPd.out; simp only; omega⟩) (by simp; omega)
          exact ⟨⟨_, _, _, _, e1⟩, by rw [e2, HlS.out]; omega⟩
         have hp2 := Hpan.out (by rw [Hemm.out, Hett.out]; exact if_neg fun h => hle h.2.2)
         have z1 : ¬ (a : Int) ≤ (d : Int) := by omega
         skip
         have HP2 := Lh hp2
         clear hp2
         go_upto_region 9 with fail
         refine rgQ (fun w' => Below w5.heap.size w5 w') 100 (by kernel_rfl) (fun _ _ d _ _ h => by cases d <;> exact h) fun qP => ?_
         apply tkq 0 (by kernel_rfl) rfl qP sS
         ·intro w' hS'; go_simp; exact ⟨rfl, rfl⟩
         apply tkq 1 (by kernel_rfl) rfl qP sS
         ·intro w' hS'; go_simp; exact ⟨rfl, rfl⟩
         apply tkq 2 (by kernel_rfl) rfl qP sS
         ·intro w' hS'; go_simp; exact ⟨rfl, rfl⟩
         apply tkq 3 (v := (.bool true)) (by kernel_rfl) rfl qP sS
         ·intro w' hS'
          (go_simp; exact ⟨rfl, rfl⟩)
         apply tkq 4 (v := (.bool true)) (by kernel_rfl) rfl qP sS
         ·intro w' hS'
          (go_simp; exact ⟨rfl, rfl⟩)
         apply tkq 5 (by kernel_rfl) rfl qP sS
         ·intro w' hS'; go_simp; exact ⟨rfl, rfl⟩
         apply tkq 6 (by kernel_rfl) rfl qP sS
         ·intro w' hS'; go_simp; exact ⟨rfl, rfl⟩
         apply tkq 7 (v := (.bool true)) (by kernel_rfl) rfl qP sS
         ·intro w' hS'
          (go_simp; exact ⟨rfl, rfl⟩)
         apply tkq 8 (v := (.bool true)) (by kernel_rfl) rfl qP sS
         ·intro w' hS'
          (go_simp; exact ⟨rfl, rfl⟩)
         apply tkq 9 (v := (.bool true)) (by kernel_rfl) rfl qP sS
         ·intro w' hS'
          (go_simp; exact ⟨rfl, rfl⟩)
         apply tkq 10 (by kernel_rfl) rfl qP sS
         ·intro w' hS'; go_simp; exact ⟨rfl, rfl⟩
         apply tkq 11 (v := (.pointer (some ⟨b1, o1, none⟩))) (by kernel_rfl) rfl qP sS
         ·intro w' hS'
          (go_simp; exact ⟨rfl, rfl⟩)
         apply tkq 12 (v := (.int .i32 (a : Nat))) (by kernel_rfl) rfl qP sS
         ·intro w' hS'; have k1 := (Hc1.out w' hS').1; go_simp; exact ⟨rfl, rfl⟩
         apply tkq 13 (by kernel_rfl) rfl qP sS
         ·intro w' hS'; go_simp; exact ⟨rfl, rfl⟩
         apply tkq 14 (v := (.pointer (some ⟨b1, o1 + 1, none⟩))) (by kernel_rfl) rfl qP sS
         ·intro w' hS'
          (go_simp; exact ⟨rfl, rfl⟩)
         apply tkq 15 (v := (.int .i32 (a : Nat))) (by kernel_rfl) rfl qP sS
         ·intro w' hS'; have k1 := (Hc1.out w' hS').2; go_simp; exact ⟨rfl, rfl⟩
         apply tkq 16 (v := (.bool true)) (by kernel_rfl) rfl qP sS
         ·intro w' hS'
          (go_simp; exact ⟨rfl, rfl⟩)
         apply tkq 17 (v := (.bool true)) (by kernel_rfl) rfl qP sS
         ·intro w' hS'
          (go_simp; exact ⟨rfl, rfl⟩)
         apply tkq 18 (v := (.bool true)) (by kernel_rfl) rfl qP sS
         ·intro w' hS'
          (go_simp; exact ⟨rfl, rfl⟩)
         apply tkq 19 (by kernel_rfl) rfl qP sS
         ·intro w' hS'; go_simp; exact ⟨rfl, rfl⟩
         apply tkq 20 (v := (.pointer (some ⟨b2, o2, none⟩))) (by kernel_rfl) rfl qP sS
         ·intro w' hS'
          (go_simp; exact ⟨rfl, rfl⟩)
         apply tkq 21 (v := (.int .i32 (d : Nat))) (by kernel_rfl) rfl qP sS
         ·intro w' hS'; have k1 := (Hc2.out w' hS').1; go_simp; exact ⟨rfl, rfl⟩
         apply tkq 22 (by kernel_rfl) rfl qP sS
         ·intro w' hS'; go_simp; exact ⟨rfl, rfl⟩
         apply tkq 23 (v := (.pointer (some ⟨b2, o2 + 1, none⟩))) (by kernel_rfl) rfl qP sS
         ·intro w' hS'
          (go_simp; exact ⟨rfl, rfl⟩)
         apply tkq 24 (v := (.int .i32 (d : Nat))) (by kernel_rfl) rfl qP sS
         ·intro w' hS'; have k1 := (Hc2.out w' hS').2; go_simp; exact ⟨rfl, rfl⟩
         apply tkq 25 (v := (.bool true)) (by kernel_rfl) rfl qP sS
         ·intro w' hS'
          (go_simp; exact ⟨rfl, rfl⟩)
         apply tkq 26 (v := (.bool true)) (by kernel_rfl) rfl qP sS
         ·intro w' hS'
          (go_simp; exact ⟨rfl, rfl⟩)
         apply tkq 27 (v := (.bool true)) (by kernel_rfl) rfl qP sS
         ·intro w' hS'
          (go_simp; exact ⟨rfl, rfl⟩)
         apply tkq 28 (by kernel_rfl) rfl qP sS
         ·intro w' hS'; go_simp; exact ⟨rfl, rfl⟩
         apply tkq 29 (v := (.pointer (some ⟨b1, o1, none⟩))) (by kernel_rfl) rfl qP sS
         ·intro w' hS'
          (go_simp; exact ⟨rfl, rfl⟩)
         apply tkq 30 (v := (.int .i32 (a : Nat))) (by kernel_rfl) rfl qP sS
         ·intro w' hS'; have k1 := (Hc1.out w' hS').1; go_simp; exact ⟨rfl, rfl⟩
         apply tkq 31 (by kernel_rfl) rfl qP sS
         ·intro w' hS'; go_simp; exact ⟨rfl, rfl⟩
         apply tkq 32 (v := (.pointer (some ⟨b2, o2, none⟩))) (by kernel_rfl) rfl qP sS
         ·intro w' hS'
          (go_simp; exact ⟨rfl, rfl⟩)
         apply tkq 33 (v := (.int .i32 (d : Nat))) (by kernel_rfl) rfl qP sS
         ·intro w' hS'; have k1 := (Hc2.out w' hS').1; go_simp; exact ⟨rfl, rfl⟩
         apply tkq 34 (v := (.bool false)) (by kernel_rfl) rfl qP sS
         ·intro w' hS'
          (go_simp; exact ⟨rfl, rfl⟩)
         apply tkq 35 (v := (.bool false)) (by kernel_rfl) rfl qP sS
         ·intro w' hS'
          (go_simp; exact ⟨rfl, rfl⟩)
         (try simp only [Act.put]); (try simp only [List.setIfInBounds_toArray]); (try simp only [List.set])
         refine rnL 36 (by kernel_rfl) rfl (by kernel_rfl) (fun K hK => ?_)
         go_simp
         refine (vMust_f _ rfl _).mono ?_
         rintro e w' ⟨rfl, rfl⟩
         exact ⟨rfl, HP2.out _ sS⟩
        have hp2 := Hpan.out (by rw [Hemm.out, Hett.out]; exact if_neg fun h => hdd h.2.1)
        have z1 : ((d : Int) == (d2 : Int)) = false := by simp; omega
        have z2 : ¬ (d : Int) = (d2 : Int) := by omega
        skip
        have HP2 := Lh hp2
        clear hp2
        go_upto_region 9 with fail
        refine rgQ (fun w' => Below w5.heap.size w5 w') 100 (by kernel_rfl) (fun _ _ d _ _ h => by cases d <;> exact h) fun qP => ?_
        apply tkq 0 (by kernel_rfl) rfl qP sS
        ·intro w' hS'; go_simp; exact ⟨rfl, rfl⟩
        apply tkq 1 (by kernel_rfl) rfl qP sS
        ·intro w' hS'; go_simp; exact ⟨rfl, rfl⟩
        apply tkq 2 (by kernel_rfl) rfl qP sS
        ·intro w' hS'; go_simp; exact ⟨rfl, rfl⟩
        apply tkq 3 (v := (.bool true)) (by kernel_rfl) rfl qP sS
        ·intro w' hS'
         (go_simp; exact ⟨rfl, rfl⟩)
        apply tkq 4 (v := (.bool true)) (by kernel_rfl) rfl qP sS
        ·intro w' hS'
         (go_simp; exact ⟨rfl, rfl⟩)
        apply tkq 5 (by kernel_rfl) rfl qP sS
        ·intro w' hS'; go_simp; exact ⟨rfl, rfl⟩
        apply tkq 6 (by kernel_rfl) rfl qP sS
        ·intro w' hS'; go_simp; exact ⟨rfl, rfl⟩
        apply tkq 7 (v := (.bool true)) (by kernel_rfl) rfl qP sS
        ·intro w' hS'
         (go_simp; exact ⟨rfl, rfl⟩)
        apply tkq 8 (v := (.bool true)) (by kernel_rfl) rfl qP sS
        ·intro w' hS'
         (go_simp; exact ⟨rfl, rfl⟩)
        apply tkq 9 (v := (.bool true)) (by kernel_rfl) rfl qP sS
        ·intro w' hS'
         (go_simp; exact ⟨rfl, rfl⟩)
        apply tkq 10 (by kernel_rfl) rfl qP sS
        ·intro w' hS'; go_simp; exact ⟨rfl, rfl⟩
        apply tkq 11 (v := (.pointer (some ⟨b1, o1, none⟩))) (by kernel_rfl) rfl qP sS
        ·intro w' hS'
         (go_simp; exact ⟨rfl, rfl⟩)
        apply tkq 12 (v := (.int .i32 (a : Nat))) (by kernel_rfl) rfl qP sS
        ·intro w' hS'; have k1 := (Hc1.out w' hS').1; go_simp; exact ⟨rfl, rfl⟩
        apply tkq 13 (by kernel_rfl) rfl qP sS
        ·intro w' hS'; go_simp; exact ⟨rfl, rfl⟩
        apply tkq 14 (v := (.pointer (some ⟨b1, o1 + 1, none⟩))) (by kernel_rfl) rfl qP sS
        ·intro w' hS'
         (go_simp; exact ⟨rfl, rfl⟩)
        apply tkq 15 (v := (.int .i32 (a : Nat))) (by kernel_rfl) rfl qP sS
        ·intro w' hS'; have k1 := (Hc1.out w' hS').2; go_simp; exact ⟨rfl, rfl⟩
        apply tkq 16 (v := (.bool true)) (by kernel_rfl) rfl qP sS
        ·intro w' hS'
         (go_simp; exact ⟨rfl, rfl⟩)
        apply tkq 17 (v := (.bool true)) (by kernel_rfl) rfl qP sS
        ·intro w' hS'
         (go_simp; exact ⟨rfl, rfl⟩)
        apply tkq 18 (v := (.bool true)) (by kernel_rfl) rfl qP sS
        ·intro w' hS'
         (go_simp; exact ⟨rfl, rfl⟩)
        apply tkq 19 (by kernel_rfl) rfl qP sS
        ·intro w' hS'; go_simp; exact ⟨rfl, rfl⟩
        apply tkq 20 (v := (.pointer (some ⟨b2, o2, none⟩))) (by kernel_rfl) rfl qP sS
        ·intro w' hS'
         (go_simp; exact ⟨rfl, rfl⟩)
        apply tkq 21 (v := (.int .i32 (d : Nat))) (by kernel_rfl) rfl qP sS
        ·intro w' hS'; have k1 := (Hc2.out w' hS').1; go_simp; exact ⟨rfl, rfl⟩
        apply tkq 22 (by kernel_rfl) rfl qP sS
        ·intro w' hS'; go_simp; exact ⟨rfl, rfl⟩
        apply tkq 23 (v := (.pointer (some ⟨b2, o2 + 1, none⟩))) (by kernel_rfl) rfl qP sS
        ·intro w' hS'
         (go_simp; exact ⟨rfl, rfl⟩)
        apply tkq 24 (v := (.int .i32 (d2 : Nat))) (by kernel_rfl) rfl qP sS
        ·intro w' hS'; have k1 := (Hc2.out w' hS').2; go_simp; exact ⟨rfl, rfl⟩
        apply tkq 25 (v := (.bool false)) (by kernel_rfl) rfl qP sS
        ·intro w' hS'
         (go_simp; exact ⟨rfl, rfl⟩)
        apply tkq 26 (v := (.bool false)) (by kernel_rfl) rfl qP sS
        ·intro w' hS'
         (go_simp; exact ⟨rfl, rfl⟩)
        apply tkq 27 (v := (.bool false)) (by kernel_rfl) rfl qP sS
        ·intro w' hS'
         (go_simp; exact ⟨rfl, rfl⟩)
        refine skq 28 (by kernel_rfl) rfl qP sS ?_
        refine skq 29 (by kernel_rfl) rfl qP sS ?_
        refine skq 30 (by kernel_rfl) rfl qP sS ?_
        refine skq 31 (by kernel_rfl) rfl qP sS ?_
        refine skq 32 (by kernel_rfl) rfl qP sS ?_
        refine skq 33 (by kernel_rfl) rfl qP sS ?_
        refine skq 34 (by kernel_rfl) rfl qP sS ?_
        apply tkq 35 (v := (.bool false)) (by kernel_rfl) rfl qP sS
        ·intro w' hS'
         (go_simp; exact ⟨rfl, rfl⟩)
        (try simp only [Act.put]); (try simp only [List.setIfInBounds_toArray]); (try simp only [List.set])
        refine rnL 36 (by kernel_rfl) rfl (by kernel_rfl) (fun K hK => ?_)
        go_simp
        refine (vMust_f _ rfl _).mono ?_
        rintro e w' ⟨rfl, rfl⟩
        exact ⟨rfl, HP2.out _ sS⟩
       have hp2 := Hpan.out (by rw [Hemm.out, Hett.out]; exact if_neg fun h => ha h.1)
       have z1 : ((a : Int) == (a2 : Int)) = false := by simp; omega
       have z2 : ¬ (a : Int) = (a2 : Int) := by omega
       skip
       have HP2 := Lh hp2
       clear hp2
       go_upto_region 9 with fail
       refine rgQ (fun w' => Below w5.heap.size w5 w') 100 (by kernel_rfl) (fun _ _ d _ _ h => by cases d <;> exact h) fun qP => ?_
       apply tkq 0 (by kernel_rfl) rfl qP sS
       ·intro w' hS'; go_simp; exact ⟨rfl, rfl⟩
       apply tkq 1 (by kernel_rfl) rfl qP sS
       ·intro w' hS'; go_simp; exact ⟨rfl, rfl⟩
       apply tkq 2 (by kernel_rfl) rfl qP sS
       ·intro w' hS'; go_simp; exact ⟨rfl, rfl⟩
       apply tkq 3 (v := (.bool true)) (by kernel_rfl) rfl qP sS
       ·intro w' hS'
        (go_simp; exact ⟨rfl, rfl⟩)
       apply tkq 4 (v := (.bool true)) (by kernel_rfl) rfl qP sS
       ·intro w' hS'
        (go_simp; exact ⟨rfl, rfl⟩)
       apply tkq 5 (by kernel_rfl) rfl qP sS
       ·intro w' hS'; go_simp; exact ⟨rfl, rfl⟩
       apply tkq 6 (by kernel_rfl) rfl qP sS
       ·intro w' hS'; go_simp; exact ⟨rfl, rfl⟩
       apply tkq 7 (v := (.bool true)) (by kernel_rfl) rfl qP sS
       ·intro w' hS'
        (go_simp; exact ⟨rfl, rfl⟩)
       apply tkq 8 (v := (.bool true)) (by kernel_rfl) rfl qP sS
       ·intro w' hS'
        (go_simp; exact ⟨rfl, rfl⟩)
       apply tkq 9 (v := (.bool true)) (by kernel_rfl) rfl qP sS
       ·intro w' hS'
        (go_simp; exact ⟨rfl, rfl⟩)
       apply tkq 10 (by kernel_rfl) rfl qP sS
       ·intro w' hS'; go_simp; exact ⟨rfl, rfl⟩
       apply tkq 11 (v := (.pointer (some ⟨b1, o1, none⟩))) (by kernel_rfl) rfl qP sS
       ·intro w' hS'
        (go_simp; exact ⟨rfl, rfl⟩)
       apply tkq 12 (v := (.int .i32 (a : Nat))) (by kernel_rfl) rfl qP sS
       ·intro w' hS'; have k1 := (Hc1.out w' hS').1; go_simp; exact ⟨rfl, rfl⟩
       apply tkq 13 (by kernel_rfl) rfl qP sS
       ·intro w' hS'; go_simp; exact ⟨rfl, rfl⟩
       apply tkq 14 (v := (.pointer (some ⟨b1, o1 + 1, none⟩))) (by kernel_rfl) rfl qP sS
       ·intro w' hS'
        (go_simp; exact ⟨rfl, rfl⟩)
       apply tkq 15 (v := (.int .i32 (a2 : Nat))) (by kernel_rfl) rfl qP sS
       ·intro w' hS'; have k1 := (Hc1.out w' hS').2; go_simp; exact ⟨rfl, rfl⟩
       apply tkq 16 (v := (.bool false)) (by kernel_rfl) rfl qP sS
       ·intro w' hS'
        (go_simp; exact ⟨rfl, rfl⟩)
       apply tkq 17 (v := (.bool false)) (by kernel_rfl) rfl qP sS
       ·intro w' hS'
        (go_simp; exact ⟨rfl, rfl⟩)
       apply tkq 18 (v := (.bool false)) (by kernel_rfl) rfl qP sS
       ·intro w' hS'
        (go_simp; exact ⟨rfl, rfl⟩)
       refine skq 19 (by kernel_rfl) rfl qP sS ?_
       refine skq 20 (by kernel_rfl) rfl qP sS ?_
       refine skq 21 (by kernel_rfl) rfl qP sS ?_
       refine skq 22 (by kernel_rfl) rfl qP sS ?_
       refine skq 23 (by kernel_rfl) rfl qP sS ?_
       refine skq 24 (by kernel_rfl) rfl qP sS ?_
       refine skq 25 (by kernel_rfl) rfl qP sS ?_
       apply tkq 26 (v := (.bool false)) (by kernel_rfl) rfl qP sS
       ·intro w' hS'
        (go_simp; exact ⟨rfl, rfl⟩)
       apply tkq 27 (v := (.bool false)) (by kernel_rfl) rfl qP sS
       ·intro w' hS'
        (go_simp; exact ⟨rfl, rfl⟩)
       refine skq 28 (by kernel_rfl) rfl qP sS ?_
       refine skq 29 (by kernel_rfl) rfl qP sS ?_
       refine skq 30 (by kernel_rfl) rfl qP sS ?_
       refine skq 31 (by kernel_rfl) rfl qP sS ?_
       refine skq 32 (by kernel_rfl) rfl qP sS ?_
       refine skq 33 (by kernel_rfl) rfl qP sS ?_
       refine skq 34 (by kernel_rfl) rfl qP sS ?_
       apply tkq 35 (v := (.bool false)) (by kernel_rfl) rfl qP sS
       ·intro w' hS'
        (go_simp; exact ⟨rfl, rfl⟩)
       (try simp only [Act.put]); (try simp only [List.setIfInBounds_toArray]); (try simp only [List.set])
       refine rnL 36 (by kernel_rfl) rfl (by kernel_rfl) (fun K hK => ?_)
       go_simp
       refine (vMust_f _ rfl _).mono ?_
       rintro e w' ⟨rfl, rfl⟩
       exact ⟨rfl, HP2.out _ sS⟩
      have ht3 : t.length ≠ 2 := by rw [HPt.out]; exact ht2
      have hp2 := Hpan.out (rng_none (.inr ht3))
      have z1 : ((n7 : Int) == 2) = false := by have := Hn7.out; simp; omega
      clear ht2 ht3
      skip
      have HP2 := Lh hp2
      clear hp2
      go_upto_region 9 with fail
      refine rgQ (fun w' => Below w5.heap.size w5 w') 100 (by kernel_rfl) (fun _ _ d _ _ h => by cases d <;> exact h) fun qP => ?_
      apply tkq 0 (by kernel_rfl) rfl qP sS
      ·intro w' hS'; go_simp; exact ⟨rfl, rfl⟩
      apply tkq 1 (by kernel_rfl) rfl qP sS
      ·intro w' hS'; go_simp; exact ⟨rfl, rfl⟩
      apply tkq 2 (by kernel_rfl) rfl qP sS
      ·intro w' hS'; go_simp; exact ⟨rfl, rfl⟩
      apply tkq 3 (v := (.bool true)) (by kernel_rfl) rfl qP sS
      ·intro w' hS'
       (go_simp; exact ⟨rfl, rfl⟩)
      apply tkq 4 (v := (.bool true)) (by kernel_rfl) rfl qP sS
      ·intro w' hS'
       (go_simp; exact ⟨rfl, rfl⟩)
      apply tkq 5 (by kernel_rfl) rfl qP sS
      ·intro w' hS'; go_simp; exact ⟨rfl, rfl⟩
      apply tkq 6 (by kernel_rfl) rfl qP sS
      ·intro w' hS'; go_simp; exact ⟨rfl, rfl⟩
      apply tkq 7 (v := (.bool false)) (by kernel_rfl) rfl qP sS
      ·intro w' hS'
       (go_simp; exact ⟨rfl, rfl⟩)
      apply tkq 8 (v := (.bool false)) (by kernel_rfl) rfl qP sS
      ·intro w' hS'
       (go_simp; exact ⟨rfl, rfl⟩)
      apply tkq 9 (v := (.bool false)) (by kernel_rfl) rfl qP sS
      ·intro w' hS'
       (go_simp; exact ⟨rfl, rfl⟩)
      refine skq 10 (by kernel_rfl) rfl qP sS ?_
      refine skq 11 (by kernel_rfl) rfl qP sS ?_
      refine skq 12 (by kernel_rfl) rfl qP sS ?_
      refine skq 13 (by kernel_rfl) rfl qP sS ?_
      refine skq 14 (by kernel_rfl) rfl qP sS ?_
      refine skq 15 (by kernel_rfl) rfl qP sS ?_
      refine skq 16 (by kernel_rfl) rfl qP sS ?_
      apply tkq 17 (v := (.bool false)) (by kernel_rfl) rfl qP sS
      ·intro w' hS'
       (go_simp; exact ⟨rfl, rfl⟩)
      apply tkq 18 (v := (.bool false)) (by kernel_rfl) rfl qP sS
      ·intro w' hS'
       (go_simp; exact ⟨rfl, rfl⟩)
      refine skq 19 (by kernel_rfl) rfl qP sS ?_
      refine skq 20 (by kernel_rfl) rfl qP sS ?_
      refine skq 21 (by kernel_rfl) rfl qP sS ?_
      refine skq 22 (by kernel_rfl) rfl qP sS ?_
      refine skq 23 (by kernel_rfl) rfl qP sS ?_
      refine skq 24 (by kernel_rfl) rfl qP sS ?_
      refine skq 25 (by kernel_rfl) rfl qP sS ?_
      apply tkq 26 (v := (.bool false)) (by kernel_rfl) rfl qP sS
      ·intro w' hS'
       (go_simp; exact ⟨rfl, rfl⟩)
      apply tkq 27 (v := (.bool false)) (by kernel_rfl) rfl qP sS
      ·intro w' hS'
       (go_simp; exact ⟨rfl, rfl⟩)
      refine skq 28 (by kernel_rfl) rfl qP sS ?_
      refine skq 29 (by kernel_rfl) rfl qP sS ?_
      refine skq 30 (by kernel_rfl) rfl qP sS ?_
      refine skq 31 (by kernel_rfl) rfl qP sS ?_
      refine skq 32 (by kernel_rfl) rfl qP sS ?_
      refine skq 33 (by kernel_rfl) rfl qP sS ?_
      refine skq 34 (by kernel_rfl) rfl qP sS ?_
      apply tkq 35 (v := (.bool false)) (by kernel_rfl) rfl qP sS
      ·intro w' hS'
       (go_simp; exact ⟨rfl, rfl⟩)
      (try simp only [Act.put]); (try simp only [List.setIfInBounds_toArray]); (try simp only [List.set])
      refine rnL 36 (by kernel_rfl) rfl (by kernel_rfl) (fun K hK => ?_)
      go_simp
      refine (vMust_f _ rfl _).mono ?_
      rintro e w' ⟨rfl, rfl⟩
      exact ⟨rfl, HP2.out _ sS⟩
     have hm3 : m.length ≠ 2 := by rw [HPm.out]; exact hm2
     have hp2 := Hpan.out (rng_none (.inl hm3))
     have z1 : ((nm : Int) == 2) = false := by have := Hnm.out; simp; omega
     clear hm2 hm3
     skip
     have HP2 := Lh hp2
     clear hp2
     go_upto_region 9 with fail
     refine rgQ (fun w' => Below w5.heap.size w5 w') 100 (by kernel_rfl) (fun _ _ d _ _ h => by cases d <;> exact h) fun qP => ?_
     apply tkq 0 (by kernel_rfl) rfl qP sS
     ·intro w' hS'; go_simp; exact ⟨rfl, rfl⟩
     apply tkq 1 (by kernel_rfl) rfl qP sS
     ·intro w' hS'; go_simp; exact ⟨rfl, rfl⟩
     apply tkq 2 (by kernel_rfl) rfl qP sS
     ·intro w' hS'; go_simp; exact ⟨rfl, rfl⟩
     apply tkq 3 (v := (.bool false)) (by kernel_rfl) rfl qP sS
     ·intro w' hS'
      (go_simp; exact ⟨rfl, rfl⟩)
     apply tkq 4 (v := (.bool false)) (by kernel_rfl) rfl qP sS
     ·intro w' hS'
      (go_simp; exact ⟨rfl, rfl⟩)
     refine skq 5 (by kernel_rfl) rfl qP sS ?_
     refine skq 6 (by kernel_rfl) rfl qP sS ?_
     refine skq 7 (by kernel_rfl) rfl qP sS ?_
     apply tkq 8 (v := (.bool false)) (by kernel_rfl) rfl qP sS
     ·intro w' hS'
      (go_simp; exact ⟨rfl, rfl⟩)
     apply tkq 9 (v := (.bool false)) (by kernel_rfl) rfl qP sS
     ·intro w' hS'
      (go_simp; exact ⟨rfl, rfl⟩)
     refine skq 10 (by kernel_rfl) rfl qP sS ?_
     refine skq 11 (by kernel_rfl) rfl qP sS ?_
     refine skq 12 (by kernel_rfl) rfl qP sS ?_
     refine skq 13 (by kernel_rfl) rfl qP sS ?_
     refine skq 14 (by kernel_rfl) rfl qP sS ?_
     refine skq 15 (by kernel_rfl) rfl qP sS ?_
     refine skq 16 (by kernel_rfl) rfl qP sS ?_
     apply tkq 17 (v := (.bool false)) (by kernel_rfl) rfl qP sS
     ·intro w' hS'
      (go_simp; exact ⟨rfl, rfl⟩)
     apply tkq 18 (v := (.bool false)) (by kernel_rfl) rfl qP sS
     ·intro w' hS'
      (go_simp; exact ⟨rfl, rfl⟩)
     refine skq 19 (by kernel_rfl) rfl qP sS ?_
     refine skq 20 (by kernel_rfl) rfl qP sS ?_
     refine skq 21 (by kernel_rfl) rfl qP sS ?_
     refine skq 22 (by kernel_rfl) rfl qP sS ?_
     refine skq 23 (by kernel_rfl) rfl qP sS ?_
     refine skq 24 (by kernel_rfl) rfl qP sS ?_
     refine skq 25 (by kernel_rfl) rfl qP sS ?_
     apply tkq 26 (v := (.bool false)) (by kernel_rfl) rfl qP sS
     ·intro w' hS'
      (go_simp; exact ⟨rfl, rfl⟩)
     apply tkq 27 (v := (.bool false)) (by kernel_rfl) rfl qP sS
     ·intro w' hS'
      (go_simp; exact ⟨rfl, rfl⟩)
     refine skq 28 (by kernel_rfl) rfl qP sS ?_
     refine skq 29 (by kernel_rfl) rfl qP sS ?_
     refine skq 30 (by kernel_rfl) rfl qP sS ?_
     refine skq 31 (by kernel_rfl) rfl qP sS ?_
     refine skq 32 (by kernel_rfl) rfl qP sS ?_
     refine skq 33 (by kernel_rfl) rfl qP sS ?_
     refine skq 34 (by kernel_rfl) rfl qP sS ?_
     apply tkq 35 (v := (.bool false)) (by kernel_rfl) rfl qP sS
     ·intro w' hS'
      (go_simp; exact ⟨rfl, rfl⟩)
     (try simp only [Act.put]); (try simp only [List.setIfInBounds_toArray]); (try simp only [List.set])
     refine rnL 36 (by kernel_rfl) rfl (by kernel_rfl) (fun K hK => ?_)
     go_simp
     refine (vMust_f _ rfl _).mono ?_
     rintro e w' ⟨rfl, rfl⟩
     exact ⟨rfl, HP2.out _ sS⟩
   rw [if_neg hd, decide_eq_false hd] at hv
   have Hd := Lh hd; clear hd
   go_wp2_with fail
   refine hv.mono ?_
   clear hv
   rintro e w4 ⟨rfl, h4, k4⟩
   have hans := Hans3.out
   rw [if_neg Hd.out] at hans
   have own4 := k4.keep.own Ho3.out (by decide)
   have row4 := (HR6.out.keep k4.keep (by decide)).row
   have Hans4 := Lh hans
   have Hh4 := Lh h4
   clear hans h4
   have s4 := (HK3.out.trans k4).keep.size
   rw [Hnm.out] at row4
   have bdm : (flatR P).length + nm ≤ 100000 := by
    have := Hfl.out; have := Hnm.out; rw [HPm.out, flat_length] at this; omega
   go_wp2_with (at_builtin; refine wpList_app _ rfl runeE rfl rfl own4 rfl row4 (rv_one _) (by omega) s4 ?_; intro v8 w8 own8 hg8 hb8 _)
   obtain ⟨e1, e2⟩ := cls_next (P := P) (Q := Pm) (n := (flatR P).length) (nm := nm) (s := s1) (f := f) (T := T) (ANS := ANS) HF.out hgw rfl (by rw [← HPm.out]; exact Hnm.out) own4 (by rw [← HPm.out]; exact own8) hg8 Hh4.out (HK3.out.trans k4) (by rw [← HPm.out]; exact Hans4.out) hPne (by omega) Hbd.out HPb.out (by omega)
   exact ⟨⟨_, _, _, _, e1⟩, by rw [e2, HlS.out]; omega⟩
end Go.Proofs.YtecejnilajbdpaaGreatDoor
