import Derived.Test.YtecejnilajbdpaaGreatDoorTz14
set_option maxRecDepth 100000
set_option maxHeartbeats 16000000
namespace Garner
open Go
theorem runesFrom_eq (s : ByteArray) : ∀ (n i : Nat) (acc : Array Value), s.size - i ≤ n → (Conv.runesFrom s n i acc).toList = acc.toList ++ (runesGo n (s.data.toList.drop i)).map fun r : Nat => Value.int .i32 (r : Int)
 | 0, i, acc, h => by simp [Conv.runesFrom, runesGo]
 | n + 1, i, acc, h => by
  have hsz := Lib.size_eq s
  unfold Conv.runesFrom runesGo
  by_cases hi : i < s.size
  ·have hne : s.data.toList.drop i ≠ [] := fun e => by
    have := congrArg List.length e
    rw [List.length_drop] at this
    simp only [List.length_nil] at this
    omega
   have hd := Lib.decodeL_drop s i
   have hw := Lib.decodeL_width (s.data.toList.drop i)
   rw [if_pos hi, if_neg hne, runesFrom_eq s n _ _ (by rw [hd] at hw; omega), hd, List.drop_drop]
   simp
  have he : s.data.toList.drop i = [] := List.drop_eq_nil_of_le (by omega)
  rw [if_neg hi, if_pos he]
  simp
end Garner
namespace Go.Proofs.YtecejnilajbdpaaGreatDoor
open Go.RowKit Go.Shelf Garner
structure Lt (w : World) : Prop where
 m : ∃ m, w.cell? ⟨2, 0, none⟩ = some (.int .i64 m)
 t : Lib.Utf8Tabs 0 1 w
theorem Lt.below {w w' : World} (h : Lt w) (hb : Below w.heap.size w w') : Lt w' := by
 obtain ⟨m, hm⟩ := h.m
 refine ⟨⟨m, ?_⟩, Utf8Tabs_below h.t hb⟩
 have hlt : 2 < w.heap.size := by
  rcases Nat.lt_or_ge 2 w.heap.size with h | h
  ·exact h
  unfold World.cell? at hm
  simp only [Array.getElem?_eq_none h] at hm
  cases hm
 rw [hb.cell (p := ⟨2, 0, none⟩) hlt]
 exact hm
abbrev str (l : Bs) : Value := .string ⟨l.toArray⟩
theorem str_size (l : Bs) : (⟨l.toArray⟩ : ByteArray).size = l.length := by simp [ByteArray.size]
theorem str_list (l : Bs) : (⟨l.toArray⟩ : ByteArray).data.toList = l := by simp
theorem cContains (l sub : Bs) (w : World) (hL : Lt w) (hl : l.length < 4294967281) :
  Calls Tryz.prog 70 #[str l, str sub] w fun e w' => e = .returned (.bool (Lib.contains l sub)) ∧ w' = w := by
 obtain ⟨m, hm⟩ := hL.m
 refine (Tryz.strings_Contains ⟨l.toArray⟩ ⟨sub.toArray⟩ m w (by rw [str_size]; exact hl) hm).mono ?_
 rintro e w' ⟨rfl, hd⟩
 exact ⟨rfl, hd⟩
theorem cValid (l : Bs) (w : World) (hL : Lt w) (hl : l.length ≤ 9223372036854775807) :
  Calls Tryz.prog 47 #[str l] w fun e w' => e = .returned (.bool (Lib.validD l)) ∧ Below w.heap.size w w' := by
 go_enter Tryz.func47, Tryz.ntmps47
 go_wp2_with fail
 refine (Any.utf8_ValidString Tryz.lays196 ⟨l.toArray⟩ w (by rw [str_size]; exact hl) hL.t).mono ?_
 rintro e w' ⟨rfl, hd⟩
 rw [show Lib.validD (⟨l.toArray⟩ : ByteArray).data.toList = Lib.validD l by rw [str_list]]
 go_wp2
 go_ret
 exact ⟨rfl, hd⟩
theorem conv_runes (l : Bs) (w : World) (hl : l.length ≤ 1000000) : ∃ c w1, (convert 9 96 (str l)).run Tryz.prog w = .ok (.slice (some ⟨w.heap.size, 0, none⟩) (runesP l).length c) w1 ∧ RowT w1 21 (some ⟨w.heap.size, 0, none⟩) (runesP l).length ((runesP l).map rv) ∧ Below w.heap.size w w1 ∧ (runesP l).length ≤ c ∧ w1.heap.size = w.heap.size + 1 := by
 have hsz : (⟨l.toArray⟩ : ByteArray).size = l.length := str_size l
 have hr := runesFrom_eq ⟨l.toArray⟩ (⟨l.toArray⟩ : ByteArray).size 0 #[] (by omega)
 rw [List.drop_zero, str_list, hsz] at hr
 have hR : (Conv.runesFrom ⟨l.toArray⟩ l.length 0 #[]).toList = (runesP l).map rv := by rw [hr]; rfl
 have hRl : (Conv.runesFrom ⟨l.toArray⟩ l.length 0 #[]).size = (runesP l).length := by rw [← Array.length_toList, hR, List.length_map]
 have hle := runes_len _ l (Nat.le_refl _)
 have h := run_runes_of_string (P := Tryz.prog) w 9 96 21 ⟨l.toArray⟩ Tryz.underlying9 Tryz.underlying96 Tryz.underlying21 (by rw [hsz, hRl]; omega)
 have hcap := grownCap_ge w (Conv.runesFrom ⟨l.toArray⟩ (⟨l.toArray⟩ : ByteArray).size 0 #[]).size 0 21
 rw [hsz, hRl] at h hcap
 refine ⟨_, _, h, ⟨by simp, fun _ => ⟨w.heap.size, 0, _, _, rfl, heap_alloc_new w.drew _, fun j u hu => ?_⟩⟩, ((Below.refl _ _).drew).alloc (Nat.le_refl _) _, by omega, by simp⟩
 rw [Nat.zero_add, Array.getElem?_append_left (by rw [hRl]; have := (List.getElem?_eq_some_iff.1 hu).1; simpa using this), ← Array.getElem?_toList, hR]
 exact hu
def OutA (F : Nat → Prop) (o : Option (Re × List Nat × Nat)) (w0 : World) (g : Nat) (ns : List NodeP) (deep most : Nat) (e : Ending) (w' : World) : Prop := match o with
 | some (t, r, d) => e = .returned (.int .i64 ((ns.length + t.cnt - 1 : Nat) : Int)) ∧ PS (Ext F w0 w') w' g r (ns ++ t.flat ns.length) deep (max most (deep + d))
 | none => e = faulted
def AltC (L : Nat) : Prop := ∀ (F : Nat → Prop) (g : Nat) (w : World) (rs : List Nat) (ns : List NodeP) (deep most : Nat), rs.length ≤ L → PS F w g rs ns deep most → ns.length + 4 * rs.length ≤ 5000 → deep + rs.length ≤ 500 →
 Calls Tryz.prog 89 #[.pointer (some ⟨g, 0, none⟩)] w fun e w' => PK g w w' ∧ OutA F ((altF rs).map fun p => (manyR .alt p.1, p.2.1, p.2.2)) w g ns deep most e w'
def RowC (L : Nat) : Prop := ∀ (F : Nat → Prop) (g : Nat) (w : World) (rs : List Nat) (ns : List NodeP) (deep most : Nat), rs.length ≤ L → PS F w g rs ns deep most → ns.length + 4 * rs.length ≤ 5000 → deep + rs.length ≤ 500 →
 Calls Tryz.prog 121 #[.pointer (some ⟨g, 0, none⟩)] w fun e w' => PK g w w' ∧ OutA F ((rowF rs).map fun p => (rowOf p.1, p.2.1, p.2.2)) w g ns deep most e w'
def ItemC (L : Nat) : Prop := ∀ (F : Nat → Prop) (g : Nat) (w : World) (rs : List Nat) (ns : List NodeP) (deep most : Nat), rs.length ≤ L → PS F w g rs ns deep most → ns.length + 4 * rs.length ≤ 5000 → deep + rs.length ≤ 500 →
 Calls Tryz.prog 147 #[.pointer (some ⟨g, 0, none⟩)] w fun e w' => PK g w w' ∧ OutA F (itemF rs) w g ns deep most e w'
def AtomC (L : Nat) : Prop := ∀ (F : Nat → Prop) (g : Nat) (w : World) (rs : List Nat) (ns : List NodeP) (deep most : Nat), rs.length ≤ L → PS F w g rs ns deep most → ns.length + 4 * rs.length ≤ 5000 → deep + rs.length ≤ 500 →
 Calls Tryz.prog 172 #[.pointer (some ⟨g, 0, none⟩)] w fun e w' => PK g w w' ∧ OutA F (atomF rs) w g ns deep most e w'
theorem outA_of_T {F : Nat → Prop} {o : Option (Re × List Nat)} {w0 w1 : World} {g : Nat} {ns : List NodeP} {deep most : Nat} {e : Ending} {w' : World} (h : OutT F o w1 g ns deep most e w') (hd : deep ≤ most) (hs : w0.heap.size ≤ w1.heap.size) (h0 : ∀ k, F k → k < w0.heap.size) (hs' : w0.heap.size ≤ w'.heap.size) : OutA F (o.map fun p => (p.1, p.2, 0)) w0 g ns deep most e w' := by
 cases o with
 | none => exact h
 | some p =>
  obtain ⟨rfl, h2⟩ := h
  refine ⟨rfl, ?_⟩
  rw [show max most (deep + 0) = most by omega]
  refine h2.mono (fun k hk => ?_) (Ext.lt h0 hs')
  rcases hk with hk | hk
  ·exact .inl hk
  exact .inr ⟨by omega, hk.2⟩
theorem vBareNode {F : Nat → Prop} (kind : Nat) (t : Re) (ht : ∀ b, t.flat b = [⟨kind, [], 0, 0, []⟩]) (hc : t.cnt = 1) (g : Nat) (w w1 : World) (r : List Nat) (ns : List NodeP) (deep most : Nat) (h : PS F w1 g r ns deep most) (h0 : ∀ k, F k → k < w.heap.size) (k1 : PK g w w1) (hns : ns.length < 100000) :
  Calls Tryz.prog 148 #[.pointer (some ⟨g, 0, none⟩), .agg #[.int .i64 kind, .slice none 0 0, .int .i64 0, .int .i64 0, .slice none 0 0]] w1 fun e w' => PK g w w' ∧ OutT F (some (t, r)) w g ns deep most e w' := by
 have hx := h.ext h0 k1.keep.size
 have hd : NodeOk (Ext F w w1) w1 ⟨⟨kind, [], 0, 0, []⟩, none, 0, none, 0⟩ := ⟨RowT.nil, RowT.nil, fun a e => (by cases e), fun a e => (by cases e)⟩
 refine (vNode ⟨⟨kind, [], 0, 0, []⟩, none, 0, none, 0⟩ g w1 r ns deep most hx hd hns).mono ?_
 rintro e w2 ⟨rfl, h2, k2⟩
 have s1 := k1.keep.size
 have s2 := k2.keep.size
 refine ⟨k1.trans k2, by rw [hc]; rfl, ?_⟩
 rw [ht]
 refine h2.mono (fun k hk => ?_) (Ext.lt h0 (Nat.le_trans s1 s2))
 rcases hk with hk | hk
 ·exact .inl hk
 exact .inr ⟨hk.1, by omega⟩
theorem PS.setDeep {F : Nat → Prop} {w : World} {g : Nat} {rs : List Nat} {ns : List NodeP} {deep most : Nat} (h : PS F w g rs ns deep most) (d : Nat) (hd : d ≤ most) : PS F (w.setCell ⟨g, 2, none⟩ (.int .i64 (d : Nat))) g rs ns d most ∧ PK g w (w.setCell ⟨g, 2, none⟩ (.int .i64 (d : Nat))) := by
 obtain ⟨A, c, O, m, hb, hr, h3, h4, hn⟩ := h.ex
 have hk : KeepT [147] w (w.setCell ⟨g, 2, none⟩ (.int .i64 (d : Nat))) := (KeepT.refl _ w).setCell (p := ⟨g, 2, none⟩) hb (by simp) _
 exact ⟨⟨⟨A, c, O, m, hb.set_ 2 _, hr.keep hk (by decide), h3, h4, hn.keep hk (by decide) (by decide) (by decide)⟩, fun k hk => (by have := h.hF k hk; simpa [World.setCell] using this), hd, h.mb, h.rb, h.nb, h.lb⟩, ⟨(KeepT.refl _ w).setCell (p := ⟨g, 2, none⟩) hb (by simp) _, (Below.refl _ _).setCell (p := ⟨g, 2, none⟩) (Nat.le_refl _) _⟩⟩
theorem PS.setBoth {F : Nat → Prop} {w : World} {g : Nat} {rs : List Nat} {ns : List NodeP} {deep most : Nat} (h : PS F w g rs ns deep most) (d m' : Nat) (hd : d ≤ m') (hm : m' ≤ 100000) : PS F ((w.setCell ⟨g, 2, none⟩ (.int .i64 (d : Nat))).setCell ⟨g, 3, none⟩ (.int .i64 (m' : Nat))) g rs ns d m' ∧ PK g w ((w.setCell ⟨g, 2, none⟩ (.int .i64 (d : Nat))).setCell ⟨g, 3, none⟩ (.int .i64 (m' : Nat))) := by
 obtain ⟨A, c, O, m, hb, hr, h3, h4, hn⟩ := h.ex
 have hb2 := hb.set_ 2 (.int .i64 (d : Nat))
 have hk : KeepT [147] w ((w.setCell ⟨g, 2, none⟩ (.int .i64 (d : Nat))).setCell ⟨g, 3, none⟩ (.int .i64 (m' : Nat))) := ((KeepT.refl _ w).setCell (p := ⟨g, 2, none⟩) hb (by simp) _).setCell (p := ⟨g, 3, none⟩) hb2 (by simp) _
 exact ⟨⟨⟨A, c, O, m, hb2.set_ 3 _, hr.keep hk (by decide), h3, h4, hn.keep hk (by decide) (by decide) (by decide)⟩, fun k hk => (by have := h.hF k hk; simpa [World.setCell] using this), hd, hm, h.rb, h.nb, h.lb⟩, ⟨((KeepT.refl _ w).setCell (p := ⟨g, 2, none⟩) hb (by simp) _).setCell (p := ⟨g, 3, none⟩) hb2 (by simp) _, ((Below.refl _ _).setCell (p := ⟨g, 2, none⟩) (Nat.le_refl _) _).setCell (p := ⟨g, 3, none⟩) (Nat.le_refl _) _⟩⟩
theorem PS.cells {F : Nat → Prop} {w : World} {g : Nat} {rs : List Nat} {ns : List NodeP} {deep most : Nat} (h : PS F w g rs ns deep most) : w.cell? ⟨g, 2, none⟩ = some (.int .i64 (deep : Nat)) ∧ w.cell? ⟨g, 3, none⟩ = some (.int .i64 (most : Nat)) ∧ w.frozen? ⟨g, 2, none⟩ = false ∧ w.frozen? ⟨g, 3, none⟩ = false := by
 obtain ⟨A, c, O, m, hb, -⟩ := h.ex
 exact ⟨hb.cell 2, hb.cell 3, hb.frozen 2, hb.frozen 3⟩
theorem PS.drew {F : Nat → Prop} {w : World} {g : Nat} {rs : List Nat} {ns : List NodeP} {deep most : Nat} (h : PS F w g rs ns deep most) : PS F w.drew g rs ns deep most := h.below (Below.refl _ _).drew
theorem vAtom (L : Nat) (hA : ∀ K, K < L → AltC K) : AtomC L := by
 intro F g w rs ns deep most hL h hns hdp
 have hgw := h.lt
 have HF := Lh h.hF
 have hdm := h.dm
 have hmb := h.mb
 go_enter Tryz.func172, Tryz.ntmps172
 cases rs with
 | nil =>
  go_wp2_with fail
  refine (vTake_nil g w ns deep most h).mono ?_
  rintro e w' ⟨rfl, rfl⟩
  exact ⟨rfl, .refl _ _, rfl⟩
 | cons a r =>
  have hb := h.rb a (by simp)
  have hl : r.length + 1 ≤ L := by simpa using hL
  have hns2 : ns.length + 4 * r.length ≤ 4996 := by simp at hns; omega
  have hdp2 : deep + 1 + r.length ≤ 500 := by simp at hdp; omega
  have hn9 : ns.length < 100000 := by omega
  have heq := atomF_eq a r
  obtain ⟨OUT, hOUT⟩ : ∃ OUT, atomF (a :: r) = OUT := ⟨_, rfl⟩
  rw [hOUT] at heq ⊢
  have HE := Lh heq
  clear heq hOUT
  go_wp2_with fail
  refine (vTake a g w r ns deep most h).mono ?_
  rintro e w1 ⟨rfl, h1, k1⟩
  have s1 := k1.keep.size
  by_cases c1 : a = 40
  ·subst c1
   have he := HE.out
   rw [if_pos rfl] at he
   have HE2 := Lh he
   clear he
   obtain ⟨f2, f3, z2, z3⟩ := h1.cells
   go_upto_region 7 with fail
   obtain ⟨X, hX⟩ : ∃ X, X = w1.setCell ⟨g, 2, none⟩ (.int .i64 ((deep : Int) + 1)) := ⟨_, rfl⟩
   rw [← hX]
   have hX2 : X = w1.setCell ⟨g, 2, none⟩ (.int .i64 ((deep + 1 : Nat) : Int)) := hX
   obtain ⟨A, c, O, m, hbk, -⟩ := h1.ex
   have hb2 := hbk.set_ 2 (.int .i64 ((deep + 1 : Nat) : Int))
   rw [← hX2] at hb2
   have x2 : X.cell? ⟨g, 2, none⟩ = some (.int .i64 ((deep + 1 : Nat) : Int)) := hb2.cell 2
   have x3 : X.cell? ⟨g, 3, none⟩ = some (.int .i64 (most : Nat)) := hb2.cell 3
   have x4 : X.frozen? ⟨g, 3, none⟩ = false := hb2.frozen 3
   have sX : X.drew.cell? ⟨g, 2, none⟩ = some (.int .i64 ((deep + 1 : Nat) : Int)) ∧ X.drew.cell? ⟨g, 3, none⟩ = some (.int .i64 (most : Nat)) ∧ X.drew.frozen? ⟨g, 3, none⟩ = false := ⟨x2, x3, x4⟩
   obtain ⟨hB1, hB2⟩ := h1.setBoth (deep + 1) (max most (deep + 1)) (by omega) (by omega)
   rw [← hX2] at hB1 hB2
   have HB1 := Lh hB1; have HB2 := Lh hB2
   clear hX hX2 hb2 hbk hB1 hB2 f2 f3 z2 z3 x2 x3 x4
   refine rgQ (fun w' => w'.cell? ⟨g, 2, none⟩ = some (.int .i64 ((deep + 1 : Nat) : Int)) ∧ w'.cell? ⟨g, 3, none⟩ = some (.int .i64 (most : Nat)) ∧ w'.frozen? ⟨g, 3, none⟩ = false) 12 (by kernel_rfl) (fun _ _ d _ _ h => by cases d <;> exact h) fun qP => ?_
   apply tkq 0 (by kernel_rfl) rfl qP sX
   ·intro w' hS'; go_simp; exact ⟨rfl, rfl⟩
   apply tkq 1 (by kernel_rfl) rfl qP sX
   ·intro w' hS'; go_simp; exact ⟨rfl, rfl⟩
   apply tkq 2 (by kernel_rfl) rfl qP sX
   ·intro w' hS'; go_simp; exact ⟨rfl, rfl⟩
   apply tkq 3 (by kernel_rfl) rfl qP sX
   ·intro w' hS'; go_simp; exact ⟨rfl, rfl⟩
   apply tkq 4 (v := (.int .i64 (most : Nat))) (by kernel_rfl) rfl qP sX
   ·intro w' hS'; have k1 := hS'.2.1; go_simp; exact ⟨rfl, rfl⟩
   apply tkq 5 (by kernel_rfl) rfl qP sX
   ·intro w' hS'; go_simp; exact ⟨rfl, rfl⟩
   apply tkq 6 (by kernel_rfl) rfl qP sX
   ·intro w' hS'; go_simp; exact ⟨rfl, rfl⟩
   apply tkq 7 (by kernel_rfl) rfl qP sX
   ·intro w' hS'; go_simp; exact ⟨rfl, rfl⟩
   apply tkq 8 (v := (.int .i64 ((deep + 1 : Nat) : Int))) (by kernel_rfl) rfl qP sX
   ·intro w' hS'; have k1 := hS'.1; go_simp; exact ⟨rfl, rfl⟩
   apply tkq 9 (v := (.int .i64 ((max most (deep + 1) : Nat) : Int))) (by kernel_rfl) rfl qP sX
   ·intro w' hS'
    (go_simp; exact ⟨congrArg (Value.int .i64) (by omega), rfl⟩)
   (try simp only [Act.put]); (try simp only [List.setIfInBounds_toArray]); (try simp only [List.set])
   refine rnL 10 (by kernel_rfl) rfl (by kernel_rfl) (fun K hK => ?_)
   go_simp
   refine hK _ _ (fun _ => sX) ?_
   clear hK K
   (try simp only [Act.put]); (try simp only [List.setIfInBounds_toArray]); (try simp only [List.set])
   refine rnL 11 (by kernel_rfl) rfl (by kernel_rfl) (fun K hK => ?_)
   go_simp
   refine hK _ _ (fun _ => sX) ?_
   clear hK K
   (try simp only [Act.put]); (try simp only [List.setIfInBounds_toArray]); (try simp only [List.set])
   have x3 := sX.2.1
   have x4 := sX.2.2
   refine rnL 12 (by kernel_rfl) rfl (by kernel_rfl) (fun K hK => ?_)
   go_simp
   refine hK _ _ (fun h => absurd rfl h) ?_
   clear hK K x3 x4 sX
   (try simp only [Act.put])
   refine dnL (by kernel_rfl) ?_ _
   have hps := HB1.out.drew
   have hpk := k1.trans HB2.out.drew
   obtain ⟨Y, hY⟩ : ∃ Y, Y = (X.setCell ⟨g, 3, none⟩ (.int .i64 ((max most (deep + 1) : Nat) : Int))).drew := ⟨_, rfl⟩
   rw [← hY] at hps hpk ⊢
   have ha := hA r.length (by omega) F g Y r ns (deep + 1) (max most (deep + 1)) (Nat.le_refl _) hps (by omega) hdp2
   have sY := hpk.keep.size
   have HK := Lh hpk; have Ha := Lh ha
   clear hY hps hpk ha HB1 HB2
   go_wp2_with fail
   refine Ha.out.mono ?_
   rintro e w2 ⟨k2, o2⟩
   have s2 := k2.keep.size
   cases ho : altF r with
   | none =>
    rw [ho] at o2
    obtain rfl : e = faulted := o2
    have he := HE2.out
    rw [ho] at he
    exact ⟨rfl, HK.out.trans k2, by rw [he]; exact rfl⟩
   | some q =>
    obtain ⟨ts, r2, d⟩ := q
    rw [ho] at o2
    obtain ⟨rfl, h2⟩ := o2
    have he := HE2.out
    rw [ho] at he
    dsimp only at he
    dsimp only at h2
    have hv := vNext_any 41 g w2 r2 _ _ _ h2
    have HE3 := Lh he; have HK2 := Lh (HK.out.trans k2)
    clear he h2 ho Ha HE2 HE
    obtain ⟨kv, hkv⟩ : ∃ kv, ns.length + (manyR Re.alt ts).cnt - 1 = kv := ⟨_, rfl⟩
    rw [hkv]
    have Hkv := Lh hkv
    clear hkv
    by_cases hd : r2.head? = some 41
    ·rw [if_pos hd, decide_eq_true hd] at hv
     have Hd := Lh hd; clear hd
     go_wp2_with fail
     refine hv.mono ?_
     clear hv
     rintro e w3 ⟨rfl, h3, k3⟩
     go_wp2_with fail
     refine (vMust_t _ rfl _).mono ?_
     rintro e w4 ⟨rfl, hw⟩
     obtain rfl : w3 = w4 := hw.symm
     obtain ⟨f2, -, z2, -⟩ := h3.cells
     have w3' : IntKind.i64.wrap (((deep + 1 : Nat) : Int) - 1) = (deep : Int) := by rw [IntKind.wrap_i64]; omega
     obtain ⟨h5, k5⟩ := h3.setDeep deep (by omega)
     have s3 := k3.keep.size
     have s5 := k5.keep.size
     have H5 := Lh h5; have K5 := Lh (HK2.out.trans (k3.trans k5))
     clear h5 k5 h3
     go_wp2
     go_ret
     refine ⟨K5.out, ?_⟩
     have he := HE3.out
     rw [if_pos Hd.out] at he
     rw [he]
     refine ⟨congrArg (fun x : Nat => Ending.returned (.int .i64 (x : Int))) Hkv.out.symm, ?_⟩
     have h6 := H5.out
     rw [show max (max most (deep + 1)) (deep + 1 + d) = max most (deep + (d + 1)) by omega] at h6
     refine h6.mono (fun k hk => ?_) (Ext.lt HF.out (by omega))
     rcases hk with hk | hk
     ·exact .inl hk
     exact .inr ⟨by omega, by omega⟩
    rw [if_neg hd, decide_eq_false hd] at hv
    have Hd := Lh hd; clear hd
    go_wp2_with fail
    refine hv.mono ?_
    clear hv
    rintro e w3 ⟨rfl, h3, k3⟩
    go_wp2_with fail
    refine (vMust_f _ rfl _).mono ?_
    rintro e w4 ⟨rfl, hw⟩
    obtain rfl : w3 = w4 := hw.symm
    have he := HE3.out
    rw [if_neg Hd.out] at he
    exact ⟨rfl, HK2.out.trans k3, by rw [he]; exact rfl⟩
  by_cases c2 : a = 91
  ·subst c2
   have he := HE.out
   rw [if_neg (by decide), if_pos rfl] at he
   have HE2 := Lh he
   clear he
   go_wp2_with fail
   refine (vClass g w1 r ns deep most h1 hn9).mono ?_
   rintro e w3 ⟨k3, o3⟩
   have hA2 := outA_of_T (w0 := w) o3 hdm s1 HF.out (Nat.le_trans s1 k3.keep.size)
   have K3 := Lh (k1.trans k3)
   cases hc : classR r with
   | none =>
    rw [hc] at o3
    obtain rfl : e = faulted := o3
    exact ⟨rfl, K3.out, by rw [HE2.out, hc]; exact rfl⟩
   | some q =>
    rw [hc] at o3 hA2
    obtain ⟨rfl, h3⟩ := o3
    have HA2 := Lh hA2; have HC := Lh hc
    clear hA2 h3 k3 hc
    go_wp2
    go_ret
    exact ⟨K3.out, by rw [HE2.out, HC.out]; exact HA2.out⟩
  by_cases c3 : a = 46
  ·subst c3
   have he := HE.out
   rw [if_neg (by decide), if_neg (by decide), if_pos rfl] at he
   have HE2 := Lh he
   have hb1 : Below w1.heap.size w1 (w1.alloc (.cells ([0, 9, 11, 1114111].map rv).toArray 21)) := (Below.refl _ _).alloc (Nat.le_refl _) _
   have hv := vSetNode (F := F) [0, 9, 11, 1114111] (some ⟨w1.heap.size, 0, none⟩) 4 4 g w (w1.alloc (.cells ([0, 9, 11, 1114111].map rv).toArray 21)) r ns deep most rfl (h1.below hb1) HF.out (k1.trans (.of_below hb1 (Nat.le_of_lt h1.lt))) (RowT.new w1 21 ([0, 9, 11, 1114111].map rv)) (fun a e => (by cases e; exact ⟨s1, by simp⟩)) hn9
   have HV := Lh hv
   clear he hv hb1
   go_wp2_with fail
   refine HV.out.mono ?_
   rintro e w3 ⟨k3, o3⟩
   have hA2 := outA_of_T o3 hdm (Nat.le_refl _) HF.out k3.keep.size
   obtain ⟨rfl, h3⟩ := o3
   have HA2 := Lh hA2; have K3 := Lh k3
   clear hA2 h3 k3
   go_wp2
   go_ret
   exact ⟨K3.out, by rw [HE2.out]; exact HA2.out⟩
  by_cases c4 : a = 94
  ·subst c4
   have he := HE.out
   rw [if_neg (by decide), if_neg (by decide), if_neg (by decide), if_pos rfl] at he
   have HE2 := Lh he
   have hv := vBareNode (F := F) 6 .bgn (fun _ => rfl) rfl g w w1 r ns deep most h1 HF.out k1 hn9
   have HV := Lh hv
   clear he hv
   go_wp2_with fail
   refine HV.out.mono ?_
   rintro e w3 ⟨k3, o3⟩
   have hA2 := outA_of_T o3 hdm (Nat.le_refl _) HF.out k3.keep.size
   obtain ⟨rfl, h3⟩ := o3
   have HA2 := Lh hA2; have K3 := Lh k3
   clear hA2 h3 k3
   go_wp2
   go_ret
   exact ⟨K3.out, by rw [HE2.out]; exact HA2.out⟩
  by_cases c5 : a = 36
  ·subst c5
   have he := HE.out
   rw [if_neg (by decide), if_neg (by decide), if_neg (by decide), if_neg (by decide), if_pos rfl] at he
   have HE2 := Lh he
   have hv := vBareNode (F := F) 7 .fin (fun _ => rfl) rfl g w w1 r ns deep most h1 HF.out k1 hn9
   have HV := Lh hv
   clear he hv
   go_wp2_with fail
   refine HV.out.mono ?_
   rintro e w3 ⟨k3, o3⟩
   have hA2 := outA_of_T o3 hdm (Nat.le_refl _) HF.out k3.keep.size
   obtain ⟨rfl, h3⟩ := o3
   have HA2 := Lh hA2; have K3 := Lh k3
   clear hA2 h3 k3
   go_wp2
   go_ret
   exact ⟨K3.out, by rw [HE2.out]; exact HA2.out⟩
  by_cases c6 : a = 92
  ·subst c6
   have he := HE.out
   rw [if_neg (by decide), if_neg (by decide), if_neg (by decide), if_neg (by decide), if_neg (by decide), if_pos rfl] at he
   have HE0 := Lh he
   clear he
   go_wp2_with fail
   refine (vEsc g w1 r ns deep most h1).mono ?_
   rintro e w2 ⟨k2, o2⟩
   have s2 := k2.keep.size
   cases hc : escR r with
   | none =>
    rw [hc] at o2
    obtain rfl : e = faulted := o2
    exact ⟨rfl, k1.trans k2, by rw [HE0.out, hc]; exact rfl⟩
   | some q =>
    obtain ⟨m, r2⟩ := q
    rw [hc] at o2
    obtain ⟨A, c, rfl, hr, h2, hAA⟩ := o2
    have hv := vSetNode (F := F) m A c m.length g w w2 r2 ns deep most rfl h2 HF.out (k1.trans k2) hr (fun a e => ⟨Nat.le_trans s1 (hAA a e).1, (hAA a e).2⟩) hn9
    have he := HE0.out
    rw [hc] at he
    have HE2 : Hid (OUT = some (.set m, r2, 0)) := Lh he
    have HV := Lh hv
    obtain ⟨nm, hnm⟩ : ∃ nm, m.length = nm := ⟨_, rfl⟩
    rw [hnm] at HV ⊢
    clear he hv hc hAA hr h2 hnm
    go_wp2_with fail
    refine HV.out.mono ?_
    rintro e w3 ⟨k3, o3⟩
    have hA2 := outA_of_T o3 hdm (Nat.le_refl _) HF.out k3.keep.size
    obtain ⟨rfl, h3⟩ := o3
    have HA2 := Lh hA2; have K3 := Lh k3
    clear hA2 h3 k3
    go_wp2
    go_ret
    exact ⟨K3.out, by rw [HE2.out]; exact HA2.out⟩
  have z1 : ¬ (a : Int) = 40 := by omega
  have z2 : ¬ (a : Int) = 91 := by omega
  have z3 : ¬ (a : Int) = 46 := by omega
  have z4 : ¬ (a : Int) = 94 := by omega
  have z5 : ¬ (a : Int) = 36 := by omega
  have z6 : ¬ (a : Int) = 92 := by omega
  have cv := vConR litB a w1 (by decide) (by decide) (by decide) hb
  have em : a ∈ litB.data.toList.map UInt8.toNat ↔ a ∈ specR := Iff.rfl
  have he := HE.out
  rw [if_neg c1, if_neg c2, if_neg c3, if_neg c4, if_neg c5, if_neg c6] at he
  by_cases hm : a ∈ specR
  ·rw [decide_eq_true (em.2 hm)] at cv
   rw [if_pos hm] at he
   have HE2 := Lh he
   clear em hm c1 c2 c3 c4 c5 c6 he
   go_wp2_with fail
   refine cv.mono ?_
   clear cv
   rintro e w2 ⟨rfl, b2⟩
   go_wp2_with fail
   refine (vMust_f _ rfl _).mono ?_
   rintro e w' ⟨rfl, hw⟩
   obtain rfl : w2 = w' := hw.symm
   exact ⟨rfl, k1.trans (.of_below b2 (Nat.le_of_lt h1.lt)), by rw [HE2.out]; exact rfl⟩
  rw [decide_eq_false (fun h => hm (em.1 h))] at cv
  rw [if_neg hm] at he
  have HE2 := Lh he
  clear em hm c1 c2 c3 c4 c5 c6 he
  go_wp2_with fail
  refine cv.mono ?_
  clear cv
  rintro e w2 ⟨rfl, b2⟩
  have h2 := h1.below b2
  have hb1 : Below w2.heap.size w2 (w2.alloc (.cells ([a, a].map rv).toArray 21)) := (Below.refl _ _).alloc (Nat.le_refl _) _
  have hv := vSetNode (F := F) [a, a] (some ⟨w2.heap.size, 0, none⟩) 2 2 g w (w2.alloc (.cells ([a, a].map rv).toArray 21)) r ns deep most rfl (h2.below hb1) HF.out ((k1.trans (.of_below b2 (Nat.le_of_lt h1.lt))).trans (.of_below hb1 (Nat.le_of_lt h2.lt))) (RowT.new w2 21 ([a, a].map rv)) (fun x e => (by cases e; exact ⟨Nat.le_trans s1 b2.size, by simp⟩)) hn9
  have HV := Lh hv
  clear hv hb1 h2
  go_wp2_with fail
  refine (vMust_t _ rfl _).mono ?_
  rintro e w' ⟨rfl, hw⟩
  obtain rfl : w2 = w' := hw.symm
  go_wp2_with fail
  refine HV.out.mono ?_
  rintro e w3 ⟨k3, o3⟩
  have hA2 := outA_of_T o3 hdm (Nat.le_refl _) HF.out k3.keep.size
  obtain ⟨rfl, h3⟩ := o3
  have HA2 := Lh hA2; have K3 := Lh k3
  clear hA2 h3 k3
  go_wp2
  go_ret
  exact ⟨K3.out, by rw [HE2.out]; exact HA2.out⟩
end Go.Proofs.YtecejnilajbdpaaGreatDoor
