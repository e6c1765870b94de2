import Derived.Test.YtecejnilajbdpaaGreatDoorTt14
import Derived.Laws.IdiomStrings
import Derived.Test.YtecejnilajbdpaaGreatDoorTt17
import Derived.Test.YtecejnilajbdpaaGreatDoorTt08
/-! the library at lists of bytes; []rune(s) -/
namespace Garner
open Go
theorem runesFrom_eq (s : ByteArray) : ∀ (n i : Nat) (acc : Array Value), s.size - i ≤ n → (Conv.runesFrom s n i acc).toList = acc.toList ++ (runesGo n (s.data.toList.drop i)).map fun r : Nat => Value.int .i32 (r : Int)
  | 0, i, acc, h => by simp [Conv.runesFrom, runesGo]
  | n + 1, i, acc, h => by
    have hsz := Lib.size_eq s
    unfold Conv.runesFrom runesGo
    by_cases hi : i < s.size
    · have hne : s.data.toList.drop i ≠ [] := fun e => by
        have := congrArg List.length e
        rw [List.length_drop] at this
        simp only [List.length_nil] at this
        omega
      have hd := Lib.decodeL_drop s i
      have hw := Lib.decodeL_width (s.data.toList.drop i)
      rw [if_pos hi, if_neg hne, runesFrom_eq s n _ _ (by rw [hd] at hw; omega), hd, List.drop_drop]
      simp
    · have he : s.data.toList.drop i = [] := List.drop_eq_nil_of_le (by omega)
      rw [if_neg hi, if_pos he]
      simp
end Garner
namespace Go.Proofs.YtecejnilajbdpaaGreatDoor
open Go.RowKit Go.Shelf Garner

/-- what the library reads: internal/bytealg.MaxLen, utf8's tables -/
structure Lt (w : World) : Prop where
  m : ∃ m, w.cell? ⟨2, 0, none⟩ = some (.int .i64 m)
  t : Lib.Utf8Tabs 0 1 w
theorem Lt.below {w w' : World} (h : Lt w) (hb : Below w.heap.size w w') : Lt w' := by
  obtain ⟨m, hm⟩ := h.m
  refine ⟨⟨m, ?_⟩, Utf8Tabs_below h.t hb⟩
  have hlt : 2 < w.heap.size := by
    rcases Nat.lt_or_ge 2 w.heap.size with h | h
    · exact h
    · unfold World.cell? at hm
      simp only [Array.getElem?_eq_none h] at hm
      cases hm
  rw [hb.cell (p := ⟨2, 0, none⟩) hlt]
  exact hm
abbrev str (l : Bs) : Value := .string ⟨l.toArray⟩
theorem str_size (l : Bs) : (⟨l.toArray⟩ : ByteArray).size = l.length := by simp [ByteArray.size]
theorem str_list (l : Bs) : (⟨l.toArray⟩ : ByteArray).data.toList = l := by simp
theorem cContains (l sub : Bs) (w : World) (hL : Lt w) (hl : l.length < 4294967281) :
    Calls Tryz.prog 70 #[str l, str sub] w fun e w' => e = .returned (.bool (Lib.contains l sub)) ∧ w' = w := by
  obtain ⟨m, hm⟩ := hL.m
  refine (Tryz.strings_Contains ⟨l.toArray⟩ ⟨sub.toArray⟩ m w (by rw [str_size]; exact hl) hm).mono ?_
  rintro e w' ⟨rfl, hd⟩
  exact ⟨rfl, hd⟩
theorem cValid (l : Bs) (w : World) (hL : Lt w) (hl : l.length ≤ 9223372036854775807) :
    Calls Tryz.prog 47 #[str l] w fun e w' => e = .returned (.bool (Lib.validD l)) ∧ Below w.heap.size w w' := by
  go_enter Tryz.func47, Tryz.ntmps47
  go_wp2_with fail
  refine (Any.utf8_ValidString Tryz.lays196 ⟨l.toArray⟩ w (by rw [str_size]; exact hl) hL.t).mono ?_
  rintro e w' ⟨rfl, hd⟩
  rw [show Lib.validD (⟨l.toArray⟩ : ByteArray).data.toList = Lib.validD l by rw [str_list]]
  go_wp2
  go_ret
  exact ⟨rfl, hd⟩
theorem conv_runes (l : Bs) (w : World) (hl : l.length ≤ 1000000) : ∃ c w1, (convert 9 96 (str l)).run Tryz.prog w = .ok (.slice (some ⟨w.heap.size, 0, none⟩) (runesP l).length c) w1 ∧ RowT w1 21 (some ⟨w.heap.size, 0, none⟩) (runesP l).length ((runesP l).map rv) ∧ Below w.heap.size w w1 ∧ (runesP l).length ≤ c ∧ w1.heap.size = w.heap.size + 1 := by
  have hsz : (⟨l.toArray⟩ : ByteArray).size = l.length := str_size l
  have hr := runesFrom_eq ⟨l.toArray⟩ (⟨l.toArray⟩ : ByteArray).size 0 #[] (by omega)
  rw [List.drop_zero, str_list, hsz] at hr
  have hR : (Conv.runesFrom ⟨l.toArray⟩ l.length 0 #[]).toList = (runesP l).map rv := by rw [hr]; rfl
  have hRl : (Conv.runesFrom ⟨l.toArray⟩ l.length 0 #[]).size = (runesP l).length := by rw [← Array.length_toList, hR, List.length_map]
  have hle := runes_len _ l (Nat.le_refl _)
  have h := run_runes_of_string (P := Tryz.prog) w 9 96 21 ⟨l.toArray⟩ Tryz.underlying9 Tryz.underlying96 Tryz.underlying21 (by rw [hsz, hRl]; omega)
  have hcap := grownCap_ge w (Conv.runesFrom ⟨l.toArray⟩ (⟨l.toArray⟩ : ByteArray).size 0 #[]).size 0 21
  rw [hsz, hRl] at h hcap
  refine ⟨_, _, h, ⟨by simp, fun _ => ⟨w.heap.size, 0, _, _, rfl, heap_alloc_new w.drew _, fun j u hu => ?_⟩⟩, ((Below.refl _ _).drew).alloc (Nat.le_refl _) _, by omega, by simp⟩
  rw [Nat.zero_add, Array.getElem?_append_left (by rw [hRl]; have := (List.getElem?_eq_some_iff.1 hu).1; simpa using this), ← Array.getElem?_toList, hR]
  exact hu
end Go.Proofs.YtecejnilajbdpaaGreatDoor

/-! rexp: atoms -/
namespace Go.Proofs.YtecejnilajbdpaaGreatDoor
open Go.RowKit Garner
/-- what a reader of trees answers: a node's number, the rest, and how deep -/
def OutA (F : Nat → Prop) (o : Option (Re × List Nat × Nat)) (w0 : World) (g : Nat) (ns : List NodeP) (deep most : Nat) (e : Ending) (w' : World) : Prop := match o with
  | some (t, r, d) => e = .returned (.int .i64 ((ns.length + t.cnt - 1 : Nat) : Int)) ∧ PS (Ext F w0 w') w' g r (ns ++ t.flat ns.length) deep (max most (deep + d))
  | none => e = faulted
def AltC (L : Nat) : Prop := ∀ (F : Nat → Prop) (g : Nat) (w : World) (rs : List Nat) (ns : List NodeP) (deep most : Nat), rs.length ≤ L → PS F w g rs ns deep most → ns.length + 4 * rs.length ≤ 5000 → deep + rs.length ≤ 500 →
  Calls Tryz.prog 89 #[.pointer (some ⟨g, 0, none⟩)] w fun e w' => PK g w w' ∧ OutA F ((altF rs).map fun p => (manyR .alt p.1, p.2.1, p.2.2)) w g ns deep most e w'
def RowC (L : Nat) : Prop := ∀ (F : Nat → Prop) (g : Nat) (w : World) (rs : List Nat) (ns : List NodeP) (deep most : Nat), rs.length ≤ L → PS F w g rs ns deep most → ns.length + 4 * rs.length ≤ 5000 → deep + rs.length ≤ 500 →
  Calls Tryz.prog 121 #[.pointer (some ⟨g, 0, none⟩)] w fun e w' => PK g w w' ∧ OutA F ((rowF rs).map fun p => (rowOf p.1, p.2.1, p.2.2)) w g ns deep most e w'
def ItemC (L : Nat) : Prop := ∀ (F : Nat → Prop) (g : Nat) (w : World) (rs : List Nat) (ns : List NodeP) (deep most : Nat), rs.length ≤ L → PS F w g rs ns deep most → ns.length + 4 * rs.length ≤ 5000 → deep + rs.length ≤ 500 →
  Calls Tryz.prog 147 #[.pointer (some ⟨g, 0, none⟩)] w fun e w' => PK g w w' ∧ OutA F (itemF rs) w g ns deep most e w'
def AtomC (L : Nat) : Prop := ∀ (F : Nat → Prop) (g : Nat) (w : World) (rs : List Nat) (ns : List NodeP) (deep most : Nat), rs.length ≤ L → PS F w g rs ns deep most → ns.length + 4 * rs.length ≤ 5000 → deep + rs.length ≤ 500 →
  Calls Tryz.prog 172 #[.pointer (some ⟨g, 0, none⟩)] w fun e w' => PK g w w' ∧ OutA F (atomF rs) w g ns deep most e w'
theorem outA_of_T {F : Nat → Prop} {o : Option (Re × List Nat)} {w0 w1 : World} {g : Nat} {ns : List NodeP} {deep most : Nat} {e : Ending} {w' : World} (h : OutT F o w1 g ns deep most e w') (hd : deep ≤ most) (hs : w0.heap.size ≤ w1.heap.size) (h0 : ∀ k, F k → k < w0.heap.size) (hs' : w0.heap.size ≤ w'.heap.size) : OutA F (o.map fun p => (p.1, p.2, 0)) w0 g ns deep most e w' := by
  cases o with
  | none => exact h
  | some p =>
    obtain ⟨rfl, h2⟩ := h
    refine ⟨rfl, ?_⟩
    rw [show max most (deep + 0) = most by omega]
    refine h2.mono (fun k hk => ?_) (Ext.lt h0 hs')
    rcases hk with hk | hk
    · exact .inl hk
    · exact .inr ⟨by omega, hk.2⟩
/-- a node that has no rows -/
theorem vBareNode {F : Nat → Prop} (kind : Nat) (t : Re) (ht : ∀ b, t.flat b = [⟨kind, [], 0, 0, []⟩]) (hc : t.cnt = 1) (g : Nat) (w w1 : World) (r : List Nat) (ns : List NodeP) (deep most : Nat) (h : PS F w1 g r ns deep most) (h0 : ∀ k, F k → k < w.heap.size) (k1 : PK g w w1) (hns : ns.length < 100000) :
    Calls Tryz.prog 148 #[.pointer (some ⟨g, 0, none⟩), .agg #[.int .i64 kind, .slice none 0 0, .int .i64 0, .int .i64 0, .slice none 0 0]] w1 fun e w' => PK g w w' ∧ OutT F (some (t, r)) w g ns deep most e w' := by
  have hx := h.ext h0 k1.keep.size
  have hd : NodeOk (Ext F w w1) w1 ⟨⟨kind, [], 0, 0, []⟩, none, 0, none, 0⟩ := ⟨RowT.nil, RowT.nil, fun a e => (by cases e), fun a e => (by cases e)⟩
  refine (vNode ⟨⟨kind, [], 0, 0, []⟩, none, 0, none, 0⟩ g w1 r ns deep most hx hd hns).mono ?_
  rintro e w2 ⟨rfl, h2, k2⟩
  have s1 := k1.keep.size
  have s2 := k2.keep.size
  refine ⟨k1.trans k2, by rw [hc]; rfl, ?_⟩
  rw [ht]
  refine h2.mono (fun k hk => ?_) (Ext.lt h0 (Nat.le_trans s1 s2))
  rcases hk with hk | hk
  · exact .inl hk
  · exact .inr ⟨hk.1, by omega⟩
theorem PS.setDeep {F : Nat → Prop} {w : World} {g : Nat} {rs : List Nat} {ns : List NodeP} {deep most : Nat} (h : PS F w g rs ns deep most) (d : Nat) (hd : d ≤ most) : PS F (w.setCell ⟨g, 2, none⟩ (.int .i64 (d : Nat))) g rs ns d most ∧ PK g w (w.setCell ⟨g, 2, none⟩ (.int .i64 (d : Nat))) := by
  obtain ⟨A, c, O, m, hb, hr, h3, h4, hn⟩ := h.ex
  have hk : KeepT [147] w (w.setCell ⟨g, 2, none⟩ (.int .i64 (d : Nat))) := (KeepT.refl _ w).setCell (p := ⟨g, 2, none⟩) hb (by simp) _
  exact ⟨⟨⟨A, c, O, m, hb.set_ 2 _, hr.keep hk (by decide), h3, h4, hn.keep hk (by decide) (by decide) (by decide)⟩, fun k hk => (by have := h.hF k hk; simpa [World.setCell] using this), hd, h.mb, h.rb, h.nb, h.lb⟩, ⟨(KeepT.refl _ w).setCell (p := ⟨g, 2, none⟩) hb (by simp) _, (Below.refl _ _).setCell (p := ⟨g, 2, none⟩) (Nat.le_refl _) _⟩⟩
theorem PS.setBoth {F : Nat → Prop} {w : World} {g : Nat} {rs : List Nat} {ns : List NodeP} {deep most : Nat} (h : PS F w g rs ns deep most) (d m' : Nat) (hd : d ≤ m') (hm : m' ≤ 100000) : PS F ((w.setCell ⟨g, 2, none⟩ (.int .i64 (d : Nat))).setCell ⟨g, 3, none⟩ (.int .i64 (m' : Nat))) g rs ns d m' ∧ PK g w ((w.setCell ⟨g, 2, none⟩ (.int .i64 (d : Nat))).setCell ⟨g, 3, none⟩ (.int .i64 (m' : Nat))) := by
  obtain ⟨A, c, O, m, hb, hr, h3, h4, hn⟩ := h.ex
  have hb2 := hb.set_ 2 (.int .i64 (d : Nat))
  have hk : KeepT [147] w ((w.setCell ⟨g, 2, none⟩ (.int .i64 (d : Nat))).setCell ⟨g, 3, none⟩ (.int .i64 (m' : Nat))) := ((KeepT.refl _ w).setCell (p := ⟨g, 2, none⟩) hb (by simp) _).setCell (p := ⟨g, 3, none⟩) hb2 (by simp) _
  exact ⟨⟨⟨A, c, O, m, hb2.set_ 3 _, hr.keep hk (by decide), h3, h4, hn.keep hk (by decide) (by decide) (by decide)⟩, fun k hk => (by have := h.hF k hk; simpa [World.setCell] using this), hd, hm, h.rb, h.nb, h.lb⟩, ⟨((KeepT.refl _ w).setCell (p := ⟨g, 2, none⟩) hb (by simp) _).setCell (p := ⟨g, 3, none⟩) hb2 (by simp) _, ((Below.refl _ _).setCell (p := ⟨g, 2, none⟩) (Nat.le_refl _) _).setCell (p := ⟨g, 3, none⟩) (Nat.le_refl _) _⟩⟩
end Go.Proofs.YtecejnilajbdpaaGreatDoor

