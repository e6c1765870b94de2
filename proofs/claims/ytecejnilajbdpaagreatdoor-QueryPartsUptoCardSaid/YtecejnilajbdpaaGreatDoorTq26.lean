import Derived.Test.YtecejnilajbdpaaGreatDoorTq25
import Derived.Test.YtecejnilajbdpaaGreatDoorTq24
import Derived.Lib.DecodeN
import Derived.Test.YtecejnilajbdpaaGreatDoorTq07
import Derived.Test.YtecejnilajbdpaaGreatDoorTq16
/-! Orders: an operation that comes ahead of another one, through others -/
namespace Garner
open Go
section
variable {P : Program} {ops : Array Oper} {Q : Exit → Act → World → Prop} {md : Region.Mode} {S : World → Prop}
def reachO (md : Region.Mode) (ops : Array Oper) : Nat → Nat → Nat → Bool
  | 0, _, _ => false
  | f + 1, n, i => match ops[n]? with
    | some o => o.after.any fun e => Region.binds md e && (e.on == i || reachO md ops f e.on i)
    | none => false
def ClosedO (md : Region.Mode) (ops : Array Oper) (listed : Array Bool) : Prop := ∀ (m : Nat) (o : Oper), ops[m]? = some o → listed.getD m false = true → ∀ e ∈ o.after, Region.binds md e = true → listed.getD e.on false = true
def closedB (md : Region.Mode) (ops : Array Oper) (listed : Array Bool) : Bool := (List.range ops.size).all fun m => !(listed.getD m false) || (match ops[m]? with
  | some o => o.after.all fun e => !(Region.binds md e) || listed.getD e.on false
  | none => true)
theorem closed_of {listed : Array Bool} (h : closedB md ops listed = true) : ClosedO md ops listed := fun m o hm hl e he hb => by
  have h1 := List.all_eq_true.1 h m (List.mem_range.2 (by
    rcases Nat.lt_or_ge m ops.size with h' | h'
    · exact h'
    · rw [Array.getElem?_eq_none h'] at hm; cases hm))
  simp only [hm, hl, Bool.not_true, Bool.false_or] at h1
  have h2 := Array.all_eq_true'.1 h1 e he
  simpa [hb] using h2
theorem reach_listed {listed : Array Bool} (hc : ClosedO md ops listed) : ∀ (f n i : Nat), reachO md ops f n i = true → (∀ o, ops[n]? = some o → ∀ e ∈ o.after, Region.binds md e = true → listed.getD e.on false = true) → listed.getD i false = true
  | 0, _, _, h, _ => by cases h
  | f + 1, n, i, h, hn => by
    rw [reachO] at h
    cases ho : ops[n]? with
    | none => rw [ho] at h; cases h
    | some o =>
      rw [ho] at h
      obtain ⟨e, he, hb⟩ := Array.any_eq_true'.1 h
      rw [Bool.and_eq_true, Bool.or_eq_true] at hb
      have h1 := hn o ho e he hb.1
      rcases hb.2 with h2 | h2
      · rw [beq_iff_eq] at h2; rw [← h2]; exact h1
      · exact reach_listed hc f e.on i h2 fun o' ho' => hc e.on o' ho' h1
theorem ClosedO.add {listed : Array Bool} {j : Nat} {oj : Oper} (hc : ClosedO md ops listed) (hj : ops[j]? = some oj) (h : ∀ e ∈ oj.after, Region.binds md e = true → listed.getD e.on false = true) : ClosedO md ops (listed.setIfInBounds j true) := fun m o hm hl e he hb => by
  by_cases hjm : j = m
  · subst hjm
    rw [hj] at hm
    cases hm
    exact getD_set_true (h e he hb)
  · rw [getD_set_ne false hjm] at hl
    exact getD_set_true (hc m o hm hl e he hb)
theorem wpAnyN_firstT {n i f : Nat} {oi : Oper} {v : Value} (hi : ops[i]? = some oi) (hsel : ∀ (j : Nat) (o : Oper) cs b, ops[j]? = some o → o.op ≠ .select cs b)
    (hQ : ∀ c a w, Q (.panic c) (a.put oi.dst v) w → Q (.panic c) a w) (hn : reachO md ops f n i = true) :
    ∀ (fuel : Nat) (listed : Array Bool) (a : Act) (w : World), ClosedO md ops listed →
      (∀ j oj, ops[j]? = some oj → j ≠ i → listed.getD j true = false → (∀ e ∈ oj.after, Region.binds md e = true → e.on ≠ i) → oi.apart ops oj = true) →
      i ∈ Region.ready md ops listed → YieldsG P ops S oi v a → S w →
      wpAnyN P md ops Q S n fuel (listed.setIfInBounds i true) (a.put oi.dst v) w → wpAnyN P md ops Q S n (fuel + 1) listed a w := by
  intro fuel
  induction fuel with
  | zero =>
    intro listed a w _ _ hr hy hS H
    refine ⟨fun h => (by rw [h] at hr; cases hr), fun j hj => ?_⟩
    by_cases hji : j = i
    · subst hji; exact hy.wpOp hi hS ⟨fun _ => hS, H⟩
    · have := ready_mono hj hji
      rw [H.1] at this
      cases this
  | succ fuel ih =>
    intro listed a w hcl hfree hr hy hS H
    refine ⟨fun h => (by rw [h] at hr; cases hr), fun j hj => ?_⟩
    by_cases hji : j = i
    · subst hji; exact hy.wpOp hi hS ⟨fun _ => hS, H⟩
    · have h1 := H.2 j (ready_mono hj hji)
      obtain ⟨hjun, oj, hoj, hall⟩ := mem_ready.1 hj
      have hunl : listed.getD i false ≠ true := fun h1 => by
        have h0 := (mem_ready.1 hr).1
        rcases Nat.lt_or_ge i listed.size with h' | h'
        · simp [h'] at h0 h1; rw [h0] at h1; cases h1
        · simp [Array.getElem?_eq_none h'] at h1
      have hnot : ∀ e ∈ oj.after, Region.binds md e = true → e.on ≠ i := fun e he hb heq => by
        have h1 := hall e he hb
        rw [heq] at h1
        exact hunl h1
      have hjn : j ≠ n := fun e => by
        subst e
        exact hunl (reach_listed hcl f j i hn fun o ho => (by rw [hoj] at ho; cases ho; exact hall))
      have h2 := wpOp_putG hoj (hfree j oj hoj hji hjun hnot) (fun cs b => hsel i oi cs b hi) (fun cs b => hsel j oj cs b hoj) hQ hy h1
      have hfree' : ∀ k ok, ops[k]? = some ok → k ≠ i → (listed.setIfInBounds j true).getD k true = false →
          (∀ e ∈ ok.after, Region.binds md e = true → e.on ≠ i) → oi.apart ops ok = true := fun k ok hk hki hun hno => by
        refine hfree k ok hk hki ?_ hno
        by_cases hjk : j = k
        · subst hjk; exact hjun
        · rw [getD_set_ne true hjk] at hun; exact hun
      refine wpOp_mono (fun a' w' h3 => ⟨h3.2.1, ih (listed.setIfInBounds j true) a' w' (hcl.add hoj hall) hfree' (ready_mono hr (Ne.symm hji)) h3.1 (h3.2.1 hjn) ?_⟩) h2
      rw [Array.setIfInBounds_comm _ _ hji]
      exact h3.2.2
def mayTakeT (md : Region.Mode) (ops : Array Oper) (n : Nat) (listed : Array Bool) (i : Nat) : Bool :=
  Region.noSelect ops && Region.free md ops listed i && (Region.ready md ops listed).contains i && closedB md ops listed && reachO md ops ops.size n i
theorem wpAnyN_takeT (i : Nat) {n : Nat} {oi : Oper} {v : Value} {fuel : Nat} {listed : Array Bool} {a : Act} {w : World} (hm : mayTakeT md ops n listed i = true) (hi : ops.toList[i]? = some oi)
    (hQ : ∀ c a w, Q (.panic c) (a.put oi.dst v) w → Q (.panic c) a w) (hw : Region.wanted oi (yielded ops a.tmps) = true) (hS : S w) (hy : ∀ w, S w → stillRun P v w ((execOp a.eval oi).run P w))
    (h : wpAnyN P md ops Q S n fuel (listed.setIfInBounds i true) (a.put oi.dst v) w) : wpAnyN P md ops Q S n (fuel + 1) listed a w := by
  simp only [mayTakeT, Bool.and_eq_true] at hm
  obtain ⟨⟨⟨⟨h1, h2⟩, h3⟩, h4⟩, h5⟩ := hm
  exact wpAnyN_firstT (of_toList hi) (Region.noSelect_spec h1) hQ h5 fuel listed a w (closed_of h4) (Region.free_spec (of_toList hi) h2) (by simpa using h3) ⟨hw, hy⟩ hS h
end
end Garner

/-! a tree's nodes in memory; rows cut; strings' iterators beside rows -/
namespace Go.Proofs.YtecejnilajbdpaaGreatDoor
open Go.RowKit Garner
theorem NodesIs.node {F : Nat → Prop} {w : World} {B c k : Nat} {A : Option Addr} {ns : List NodeP} {n : NodeP} (h : NodesIs F w B (.slice A ns.length c) ns) (hk : ns[k]? = some n) : ∃ g d, A = some ⟨g, 0, none⟩ ∧ NodeD.n d = n ∧ NodeOk F w d ∧ g < w.heap.size ∧ ∀ j, j < 5 → w.cell? ⟨g, k * 5 + j, none⟩ = (NodeD.cells d)[j]? := by
  obtain ⟨ds, hds, hown, hok⟩ := h
  obtain ⟨hlt, -⟩ := List.getElem?_eq_some_iff.1 hk
  obtain ⟨g, rfl, -, hg, -, -, hc⟩ := own_at hown (by omega)
  have hk' := hk
  rw [← hds, List.getElem?_map] at hk'
  cases hd : ds[k]? with
  | none => rw [hd] at hk'; cases hk'
  | some d =>
    rw [hd] at hk'
    injection hk' with e
    exact ⟨g, d, rfl, e, hok d (List.mem_of_getElem? hd), hg, fun j hj => by rw [hc (k * 5 + j) (by omega), cells_at hd j hj]⟩
/-- nodes that lie at b -/
def AtN (ns : List NodeP) (b : Nat) (l : List NodeP) : Prop := ∀ k n, l[k]? = some n → ns[b + k]? = some n
theorem AtN.left {ns l m : List NodeP} {b : Nat} (h : AtN ns b (l ++ m)) : AtN ns b l := fun k n hk => h k n (by
  rw [List.getElem?_append_left (List.getElem?_eq_some_iff.1 hk).1]; exact hk)
theorem AtN.right {ns l m : List NodeP} {b n : Nat} (h : AtN ns b (l ++ m)) (hn : l.length = n) : AtN ns (b + n) m := fun k x hk => by
  have := h (n + k) x (by rw [List.getElem?_append_right (by omega), hn, Nat.add_sub_cancel_left]; exact hk)
  rwa [← Nat.add_assoc] at this
theorem last_at {ns : List NodeP} {b : Nat} {l : List NodeP} {x : NodeP} {t : Re} (hf : t.flat b = l ++ [x]) (hl : t.cnt = l.length + 1) (h : AtN ns b (t.flat b)) : ns[b + t.cnt - 1]? = some x := by
  have := h l.length x (by rw [hf, List.getElem?_append_right (Nat.le_refl _), Nat.sub_self]; rfl)
  rw [show b + t.cnt - 1 = b + l.length by omega]; exact this
theorem split_at {l : List Re} {j : Nat} {t : Re} (h : l[j]? = some t) : ∃ a m, l = a ++ t :: m ∧ a.length = j ∧ l.take j = a ∧ l.take (j + 1) = a ++ [t] := by
  obtain ⟨hj, e⟩ := List.getElem?_eq_some_iff.1 h
  refine ⟨l.take j, l.drop (j + 1), ?_, by rw [List.length_take]; omega, rfl, ?_⟩
  · rw [← e, ← List.drop_eq_getElem_cons hj, List.take_append_drop]
  · rw [List.take_succ_eq_append_getElem hj, e]
theorem kid_root {l : List Re} {j : Nat} {t : Re} (h : l[j]? = some t) (b : Nat) : (roots b l)[j]? = some (b + cnts (l.take j) + t.cnt - 1) := by
  obtain ⟨a, m, e, hj, ht, -⟩ := split_at h
  rw [ht, e, roots_app, List.getElem?_append_right (by rw [roots_length]; omega), roots_length, hj, Nat.sub_self]
  rfl
theorem kid_nodes {ns : List NodeP} {l : List Re} {j : Nat} {t : Re} (h : l[j]? = some t) {b : Nat} (hat : AtN ns b (flats b l)) : AtN ns (b + cnts (l.take j)) (t.flat (b + cnts (l.take j))) := by
  obtain ⟨a, m, e, hj, ht, -⟩ := split_at h
  rw [ht]
  rw [e, flats_app] at hat
  have h1 := hat.right (flats_len a b)
  rw [flats] at h1
  exact h1.left
theorem own_cutA {w : World} {B : Nat} {e : TypeId} {n m c : Nat} {A : Option Addr} {xs : List Value} (h : w.ownsRow B e 1 (.slice A n c) n xs) (hm : m ≤ n) : w.ownsRow B e 1 (.slice A m c) m (xs.take m) := by
  obtain ⟨h1, h2⟩ := h
  rcases h2 with ⟨e1, h0⟩ | ⟨g', cap, cur, e1, hB, hh, hc, hm2, hs, hp⟩
  · injection e1 with e2 e3 e4
    obtain rfl : m = 0 := by omega
    subst e2; subst e4
    exact ⟨by simp, .inl ⟨rfl, rfl⟩⟩
  · injection e1 with e2 e3 e4
    subst e2; subst e4
    refine ⟨by rw [List.length_take]; omega, .inr ⟨g', c, cur, rfl, hB, hh, by omega, hm2, hs, ?_⟩⟩
    rw [← hp, List.take_take]; congr 1; omega
theorem own_iterAt {w : World} {B : Nat} {e : TypeId} {sz n : Nat} {v : Value} {xs : List Value} {k : Nat} {s : ByteArray} {pos pos' : Nat} (h : w.ownsRow B e sz v n xs) (hk : w.heap[k]? = some (.stringIter s pos)) : (w.iterAt k s pos').ownsRow B e sz v n xs := by
  obtain ⟨h1, h2⟩ := h
  refine ⟨h1, ?_⟩
  rcases h2 with h2 | ⟨g, cap, cur, hv, hg, hh, r⟩
  · exact Or.inl h2
  · refine Or.inr ⟨g, cap, cur, hv, hg, ?_, r⟩
    rw [Lib.iterAt_other]
    · exact hh
    · rintro rfl; rw [hk] at hh; cases hh
theorem Blk.iterAt {w : World} {g : Nat} {t : TypeId} {cs : List Value} {k : Nat} {s : ByteArray} {pos pos' : Nat} (h : Blk w g t cs) (hk : w.heap[k]? = some (.stringIter s pos)) : Blk (w.iterAt k s pos') g t cs := by
  unfold Blk at h ⊢
  rw [Lib.iterAt_other]
  · exact h
  · rintro rfl; rw [hk] at h; cases h
end Go.Proofs.YtecejnilajbdpaaGreatDoor

/-! garnerref06: One, Runes -/
namespace Garner
open Go
/-- the byte at a place -/
def byteN (l : Bs) (i : Nat) : Nat := (l.getD i 0).toNat
theorem getD_byte (s : ByteArray) (i : Nat) (hi : i < s.size) : s[i] = s.data.toList.getD i 0 := by
  show s.data[i] = _
  rw [List.getD_eq_getElem?_getD, List.getElem?_eq_getElem (by rw [Array.length_toList]; exact hi)]
  simp
theorem idx_byte {P : Program} (t : TypeId) (ht : P.underlying t = some .string) (S : ByteArray) (l : Bs) (hS : S = ⟨l.toArray⟩) (z : Int) (i : Nat) (hz : z = (i : Int)) (hi : i < l.length) (w : World) :
    (Instr.index t (.string S) (.int .i64 z)).run P w = .ok (.int .u8 (byteN l i : Nat)) w := by
  subst hz; subst hS
  have hs : (⟨l.toArray⟩ : ByteArray).size = l.length := by simp [ByteArray.size]
  rw [run_index_string w t _ .i64 _ ht, dif_pos ⟨by omega, by rw [hs]; omega⟩]
  have e : ((i : Int)).toNat = i := by omega
  simp only [e]
  rw [getD_byte _ i (by rw [hs]; exact hi)]
  simp [byteN]
end Garner

/-! garnerref18: node, digit, in -/
namespace Go.Proofs.YtecejnilajbdpaaGreatDoor
open Go.RowKit Garner
section
variable {F : Nat → Prop}
end
end Go.Proofs.YtecejnilajbdpaaGreatDoor

/-! garnerref18: digit, escape, member -/
namespace Garner
open Go
end Garner
namespace Go.Proofs.YtecejnilajbdpaaGreatDoor
open Go.RowKit Garner
section
variable {F : Nat → Prop}
theorem QS.bad2 {w : World} {g N : Nat} {rs : List Nat} {ns : List NodeP} {deep most : Nat} (h : QS F w g N rs ns deep most) : ∃ p : Nat, w.cell? ⟨g, 1, none⟩ = some (.int .i64 (p : Nat)) ∧ w.frozen? ⟨g, 1, none⟩ = false ∧ p ≤ 200 ∧ ∀ wx, Below (w.setCell ⟨g, 1, none⟩ (.int .i64 ((p : Int) + 1))).heap.size (w.setCell ⟨g, 1, none⟩ (.int .i64 ((p : Int) + 1))) wx → (wx.cell? ⟨g, 5, none⟩ = some (.bool false) ∧ wx.frozen? ⟨g, 5, none⟩ = false ∧ QX (wx.setCell ⟨g, 5, none⟩ (.bool true)) g ns.length ∧ QP g w (wx.setCell ⟨g, 5, none⟩ (.bool true)) ∧ QP g w wx) := by
  obtain ⟨A, c, O, m, rs0, p, h1, h2, h3, ⟨ds, hds, hown, hd⟩, h5, h6, h7⟩ := h.ex
  have hlb := h.lb
  refine ⟨p, h1.cell 1, h1.frozen 1, by omega, fun wx hx => ?_⟩
  have hk : KeepT [132] w (w.setCell ⟨g, 1, none⟩ (.int .i64 ((p : Int) + 1))) := (KeepT.refl _ w).setCell (p := ⟨g, 1, none⟩) h1 (by simp) _
  have hk8 : QP g w (w.setCell ⟨g, 1, none⟩ (.int .i64 ((p : Int) + 1))) := ⟨(KeepT.refl _ w).setCell (p := ⟨g, 1, none⟩) h1 (by simp) _, (Below.refl _ _).setCell (p := ⟨g, 1, none⟩) (Nat.le_refl _) _⟩
  have b1 := h1.set_ 1 (.int .i64 ((p : Int) + 1))
  have bx := b1.below hx b1.lt
  have hkx : QP g w wx := hk8.trans (.of_below hx (Nat.le_of_lt b1.lt))
  have ox := own_below (hk.own hown (by decide)) hx
  have hk5 : KeepT [132] wx (wx.setCell ⟨g, 5, none⟩ (.bool true)) := (KeepT.refl _ wx).setCell (p := ⟨g, 5, none⟩) bx (by simp) _
  exact ⟨bx.cell 5, bx.frozen 5, ⟨_, _, _, _, O, m, _, bx.set_ 5 _, hk5.own ox (by decide), nodes_one ds⟩, hkx.trans ⟨(KeepT.refl _ wx).setCell (p := ⟨g, 5, none⟩) bx (by simp) _, (Below.refl _ _).setCell (p := ⟨g, 5, none⟩) (Nat.le_refl _) _⟩, hkx⟩
end
end Go.Proofs.YtecejnilajbdpaaGreatDoor

/-! garnerref18: Has -/
namespace Garner
open Go
end Garner
namespace Go.Proofs.YtecejnilajbdpaaGreatDoor
open Go.RowKit Garner
end Go.Proofs.YtecejnilajbdpaaGreatDoor

/-! garnerref18: Clean -/
namespace Garner
open Go
end Garner
namespace Go.Proofs.YtecejnilajbdpaaGreatDoor
open Go.RowKit Garner
end Go.Proofs.YtecejnilajbdpaaGreatDoor

