import Derived.Test.YtecejnilajbdpaaGreatDoorTz08
import Derived.Test.YtecejnilajbdpaaGreatDoorTz06
namespace Go.Proofs.YtecejnilajbdpaaGreatDoor
open Go.RowKit Garner
structure KeepT (T : List TypeId) (w w' : World) : Prop where
 os : w'.os = w.os
 tape : w'.tape = w.tape
 output : w'.output = w.output
 size : w.heap.size ≤ w'.heap.size
 block : ∀ k, k < w.heap.size → (∀ cs t z, w.heap[k]? = some (.cells cs t z) → t ∉ T) → w'.heap[k]? = w.heap[k]?
section
variable {T : List TypeId} {a b c w w' : World}
theorem KeepT.refl (T : List TypeId) (w : World) : KeepT T w w := ⟨rfl, rfl, rfl, Nat.le_refl _, fun _ _ _ => rfl⟩
theorem KeepT.trans (h : KeepT T a b) (k : KeepT T b c) : KeepT T a c :=
 ⟨k.os.trans h.os, k.tape.trans h.tape, k.output.trans h.output, Nat.le_trans h.size k.size, fun i hi hn => by
  have h1 := h.block i hi hn
  rw [k.block i (Nat.lt_of_lt_of_le hi h.size) fun cs t z e => hn cs t z (by rw [← h1]; exact e), h1]⟩
theorem KeepT.of_below (h : Below w.heap.size w w') : KeepT T w w' := ⟨h.os, h.tape, h.output, h.size, fun k hk _ => h.block k hk⟩
theorem KeepT.drew (h : KeepT T a w) : KeepT T a w.drew := ⟨h.os, h.tape, h.output, h.size, h.block⟩
theorem KeepT.alloc (h : KeepT T a w) (o : Obj) : KeepT T a (w.alloc o) := h.trans (.of_below ((Below.refl _ _).alloc (Nat.le_refl _) o))
theorem KeepT.setCell (h : KeepT T a w) {p : Addr} {cs : Array Value} {t : TypeId} {z : Nat × Nat} (hp : w.heap[p.block]? = some (.cells cs t z)) (ht : t ∈ T) (u : Value) : KeepT T a (w.setCell p u) :=
 h.trans ⟨rfl, rfl, rfl, by simp [World.setCell], fun k _ hk => Below.heap_setCell _ _ _ _ fun e => hk cs t z (by rw [e]; exact hp) ht⟩
theorem KeepT.grown {row : Option Nat} (hg : w.grownBy w' row) (hr : ∀ k, row = some k → ∃ cs t z, w.heap[k]? = some (.cells cs t z) ∧ t ∈ T) : KeepT T w w' :=
 ⟨hg.os, hg.tape, hg.output, hg.size, fun k hk hn => hg.block k hk fun e => by
  obtain ⟨cs, t, z, h1, h2⟩ := hr k e.symm
  exact hn cs t z h1 h2⟩
theorem KeepT.blk {g : Nat} {t : TypeId} {cs : List Value} (h : KeepT T w w') (hb : Blk w g t cs) (ht : t ∉ T) : Blk w' g t cs := by
 unfold Blk at hb ⊢
 rw [h.block g (Array.getElem?_eq_some_iff.1 hb).1 fun cs' t' z e => by rw [hb] at e; cases e; exact ht, hb]
theorem KeepT.own {B : Nat} {e : TypeId} {sz n : Nat} {v : Value} {xs : List Value} (h : KeepT T w w') (ho : w.ownsRow B e sz v n xs) (ht : e ∉ T) : w'.ownsRow B e sz v n xs := by
 obtain ⟨h1, h2⟩ := ho
 refine ⟨h1, ?_⟩
 rcases h2 with h2 | ⟨g, cap, cur, rfl, hg, hh, r⟩
 ·exact Or.inl h2
 refine Or.inr ⟨g, cap, cur, rfl, hg, ?_, r⟩
 rw [h.block g (Array.getElem?_eq_some_iff.1 hh).1 fun cs' t' z e => by rw [hh] at e; cases e; exact ht]
 exact hh
end
theorem own_typed {w : World} {B : Nat} {e : TypeId} {sz n : Nat} {v : Value} {xs : List Value} (h : w.ownsRow B e sz v n xs) : ∀ k, v.ownBlock = some k → ∃ cs t z, w.heap[k]? = some (.cells cs t z) ∧ t = e := by
 intro k hk
 rcases h.2 with ⟨rfl, h0⟩ | ⟨g, cap, cur, rfl, hg, hh, r⟩
 ·cases hk
 have : g = k := by simpa [Value.ownBlock] using hk
 subst this
 exact ⟨_, _, _, hh, rfl⟩
def RowT (w : World) (t : TypeId) (A : Option Addr) (n : Nat) (xs : List Value) : Prop :=
 xs.length = n ∧ (0 < n → ∃ b off cs z, A = some ⟨b, off, none⟩ ∧ w.heap[b]? = some (.cells cs t z) ∧ ∀ j u, xs[j]? = some u → cs[off + j]? = some u)
section
variable {w w' : World} {t : TypeId} {A : Option Addr} {n : Nat} {xs : List Value}
theorem RowT.row (h : RowT w t A n xs) : Row w w.heap.size 1 A n xs := by
 refine ⟨by rw [h.1, Nat.mul_one], fun hn => ?_⟩
 obtain ⟨b, off, cs, z, rfl, hb, hc⟩ := h.2 hn
 exact ⟨b, off, rfl, (Array.getElem?_eq_some_iff.1 hb).1, fun j u hu => by simp only [World.cell?, hb]; exact hc j u hu⟩
theorem RowT.keep {T : List TypeId} (h : RowT w t A n xs) (hk : KeepT T w w') (ht : t ∉ T) : RowT w' t A n xs := by
 refine ⟨h.1, fun hn => ?_⟩
 obtain ⟨b, off, cs, z, rfl, hb, hc⟩ := h.2 hn
 refine ⟨b, off, cs, z, rfl, ?_, hc⟩
 rw [hk.block b (Array.getElem?_eq_some_iff.1 hb).1 fun cs' t' z' e => by rw [hb] at e; cases e; exact ht, hb]
theorem RowT.below (h : RowT w t A n xs) (hb : Below w.heap.size w w') : RowT w' t A n xs := h.keep (T := []) (.of_below hb) (by simp)
theorem RowT.nil : RowT w t A 0 [] := ⟨rfl, fun h => absurd h (Nat.lt_irrefl 0)⟩
theorem RowT.of_own {B c : Nat} (h : w.ownsRow B t 1 (.slice A n c) n xs) : RowT w t A n xs := by
 refine ⟨by have := h.1; omega, fun hn => ?_⟩
 rcases h.2 with ⟨e, h0⟩ | ⟨g, cap, cur, e, _, hh, hc, _, hs, hx⟩
 ·omega
 cases e
 refine ⟨g, 0, cur, _, rfl, hh, fun j u hu => ?_⟩
 rw [← hx] at hu
 rw [Nat.zero_add, ← Array.getElem?_toList]
 rw [List.getElem?_take] at hu
 split at hu
 ·exact hu
 cases hu
theorem RowT.new (w : World) (t : TypeId) (l : List Value) : RowT (w.alloc (.cells l.toArray t)) t (some ⟨w.heap.size, 0, none⟩) l.length l :=
 ⟨rfl, fun _ => ⟨w.heap.size, 0, l.toArray, _, rfl, heap_alloc_new w _, fun j u hu => by simpa using hu⟩⟩
theorem RowT.tail {x : Value} {b off : Nat} (h : RowT w t (some ⟨b, off, none⟩) (n + 1) (x :: xs)) : RowT w t (some ⟨b, off + 1, none⟩) n xs := by
 refine ⟨by have := h.1; simp at this; exact this, fun hn => ?_⟩
 obtain ⟨b', off', cs, z, e, hb, hc⟩ := h.2 (by omega)
 cases e
 exact ⟨b, off + 1, cs, z, rfl, hb, fun j u hu => by
  have := hc (j + 1) u (by simpa using hu)
  rwa [show off + (j + 1) = off + 1 + j by omega] at this⟩
theorem RowT.at_ {k : Nat} {u : Value} (h : RowT w t A n xs) (hu : xs[k]? = some u) : ∃ b off, A = some ⟨b, off, none⟩ ∧ w.cell? ⟨b, off + k, none⟩ = some u := by
 have hk := (List.getElem?_eq_some_iff.1 hu).1
 obtain ⟨b, off, cs, z, rfl, hb, hc⟩ := h.2 (by have := h.1; omega)
 exact ⟨b, off, rfl, by simp only [World.cell?, hb]; exact hc k u hu⟩
end
def rv (r : Nat) : Value := .int .i32 r
def iv (n : Nat) : Value := .int .i64 n
structure NodeD where
 n : NodeP
 kA : Option Addr
 kc : Nat
 sA : Option Addr
 sc : Nat
def NodeD.v (d : NodeD) : Value := .agg #[.int .i64 d.n.kind, .slice d.kA d.n.kids.length d.kc, .int .i64 d.n.mn, .int .i64 d.n.mx, .slice d.sA d.n.set.length d.sc]
def NodeD.cells (d : NodeD) : List Value := [.int .i64 d.n.kind, .slice d.kA d.n.kids.length d.kc, .int .i64 d.n.mn, .int .i64 d.n.mx, .slice d.sA d.n.set.length d.sc]
structure NodeOk (F : Nat → Prop) (w : World) (d : NodeD) : Prop where
 kids : RowT w 3 d.kA d.n.kids.length (d.n.kids.map iv)
 set : RowT w 21 d.sA d.n.set.length (d.n.set.map rv)
 kF : ∀ a, d.kA = some a → F a.block
 sF : ∀ a, d.sA = some a → F a.block
theorem NodeOk.keep {F : Nat → Prop} {T : List TypeId} {w w' : World} {d : NodeD} (h : NodeOk F w d) (hk : KeepT T w w') (h1 : 3 ∉ T) (h2 : 21 ∉ T) : NodeOk F w' d := ⟨h.kids.keep hk h1, h.set.keep hk h2, h.kF, h.sF⟩
def NodesIs (F : Nat → Prop) (w : World) (B : Nat) (v : Value) (ns : List NodeP) : Prop :=
 ∃ ds : List NodeD, ds.map (·.n) = ns ∧ w.ownsRow B 182 5 v ns.length (ds.flatMap NodeD.cells) ∧ ∀ d ∈ ds, NodeOk F w d
theorem NodesIs.keep {F : Nat → Prop} {T : List TypeId} {w w' : World} {B : Nat} {v : Value} {ns : List NodeP} (h : NodesIs F w B v ns) (hk : KeepT T w w') (h1 : 3 ∉ T) (h2 : 21 ∉ T) (h3 : 182 ∉ T) : NodesIs F w' B v ns := by
 obtain ⟨ds, e, ho, hd⟩ := h
 exact ⟨ds, e, hk.own ho h3, fun d hm => (hd d hm).keep hk h1 h2⟩
theorem nodes_one (ds : List NodeD) : ∀ u ∈ ds.flatMap NodeD.cells, u.oneCell' = true := by
 intro u hu
 obtain ⟨d, -, h⟩ := List.mem_flatMap.1 hu
 simp [NodeD.cells] at h
 rcases h with rfl | rfl | rfl | rfl | rfl <;> rfl
theorem nodeE : Elem Tryz.prog 105 182 (.agg #[.int .i64 0, .slice none 0 0, .int .i64 0, .int .i64 0, .slice none 0 0]) 5 72 := ⟨Tryz.underlying105, by kernel_rfl, rfl, by omega, by omega⟩
theorem intE : Elem Tryz.prog 104 3 (.int .i64 0) 1 8 := ⟨Tryz.underlying104, by kernel_rfl, rfl, by omega, by omega⟩
theorem runeE : Elem Tryz.prog 96 21 (.int .i32 0) 1 4 := ⟨Tryz.underlying96, by kernel_rfl, rfl, by omega, by omega⟩
theorem rv_one (l : List Nat) : ∀ u ∈ l.map rv, u.oneCell' = true := by
 intro u hu; obtain ⟨c, _, rfl⟩ := List.mem_map.1 hu; rfl
abbrev PT : List TypeId := [147, 182]
structure PS (F : Nat → Prop) (w : World) (g : Nat) (rs : List Nat) (ns : List NodeP) (deep most : Nat) : Prop where
 ex : ∃ A c O m, Blk w g 147 [.slice A rs.length c, .slice O ns.length m, .int .i64 deep, .int .i64 most] ∧ RowT w 21 A rs.length (rs.map rv) ∧ rs.length ≤ c ∧ ((A = none → c = 0) ∧ ∀ a, A = some a → F a.block) ∧ NodesIs F w (g + 1) (.slice O ns.length m) ns
 hF : ∀ k, F k → k < w.heap.size
 dm : deep ≤ most
 mb : most ≤ 100000
 rb : ∀ r ∈ rs, r ≤ 1114111
 nb : ns.length ≤ 100000
 lb : rs.length ≤ 200
structure PK (g : Nat) (w w' : World) : Prop where
 keep : KeepT PT w w'
 low : Below g w w'
theorem PK.refl (g : Nat) (w : World) : PK g w w := ⟨.refl _ _, .refl _ _⟩
theorem PK.trans {g : Nat} {a b c : World} (h : PK g a b) (k : PK g b c) : PK g a c := ⟨h.keep.trans k.keep, h.low.trans k.low⟩
theorem PK.of_below {g : Nat} {w w' : World} (h : Below w.heap.size w w') (hg : g ≤ w.heap.size) : PK g w w' := ⟨.of_below h, h.mono hg⟩
theorem PK.drew {g : Nat} {a w : World} (h : PK g a w) : PK g a w.drew := ⟨h.keep.drew, h.low.drew⟩
theorem PS.below {F : Nat → Prop} {w w' : World} {g : Nat} {rs : List Nat} {ns : List NodeP} {deep most : Nat} (h : PS F w g rs ns deep most) (hb : Below w.heap.size w w') : PS F w' g rs ns deep most := by
 obtain ⟨A, c, O, m, h1, h2, h3, h4, h5⟩ := h.ex
 exact ⟨⟨A, c, O, m, h1.below hb h1.lt, h2.below hb, h3, h4, h5.keep (T := []) (.of_below hb) (by simp) (by simp) (by simp)⟩, fun k hk => Nat.lt_of_lt_of_le (h.hF k hk) hb.size, h.dm, h.mb, h.rb, h.nb, h.lb⟩
theorem PS.lt {F : Nat → Prop} {w : World} {g : Nat} {rs : List Nat} {ns : List NodeP} {deep most : Nat} (h : PS F w g rs ns deep most) : g < w.heap.size := by
 obtain ⟨A, c, O, m, h1, -⟩ := h.ex
 exact h1.lt
theorem PS.mono {F F' : Nat → Prop} {w : World} {g : Nat} {rs : List Nat} {ns : List NodeP} {deep most : Nat} (h : PS F w g rs ns deep most) (hF : ∀ k, F k → F' k) (hs : ∀ k, F' k → k < w.heap.size) : PS F' w g rs ns deep most := by
 obtain ⟨A, c, O, m, h1, h2, h3, h4, ds, e, ho, hd⟩ := h.ex
 exact ⟨⟨A, c, O, m, h1, h2, h3, ⟨h4.1, fun a ha => hF _ (h4.2 a ha)⟩, ds, e, ho, fun d hm => ⟨(hd d hm).kids, (hd d hm).set, fun a ha => hF _ ((hd d hm).kF a ha), fun a ha => hF _ ((hd d hm).sF a ha)⟩⟩, hs, h.dm, h.mb, h.rb, h.nb, h.lb⟩
def Ext (F : Nat → Prop) (w w' : World) : Nat → Prop := fun k => F k ∨ (w.heap.size ≤ k ∧ k < w'.heap.size)
theorem Ext.lt {F : Nat → Prop} {w w' : World} (h : ∀ k, F k → k < w.heap.size) (hs : w.heap.size ≤ w'.heap.size) : ∀ k, Ext F w w' k → k < w'.heap.size := fun k hk => by
 rcases hk with hk | hk
 ·have := h k hk; omega
 exact hk.2
theorem Ext.trans {F : Nat → Prop} {a b c : World} (h1 : a.heap.size ≤ b.heap.size) (h2 : b.heap.size ≤ c.heap.size) : ∀ k, Ext (Ext F a b) b c k → Ext F a c k := fun k hk => by
 rcases hk with (hk | hk) | hk
 ·exact .inl hk
 ·exact .inr ⟨hk.1, by omega⟩
 exact .inr ⟨by omega, hk.2⟩
theorem PS.ext {F : Nat → Prop} {w0 w : World} {g : Nat} {rs : List Nat} {ns : List NodeP} {deep most : Nat} (h : PS F w g rs ns deep most) (h0 : ∀ k, F k → k < w0.heap.size) (hs : w0.heap.size ≤ w.heap.size) : PS (Ext F w0 w) w g rs ns deep most := h.mono (fun _ hk => .inl hk) (Ext.lt h0 hs)
theorem RowT.grown {w w' : World} {t : TypeId} {A : Option Addr} {n : Nat} {xs : List Value} {row : Option Nat} (h : RowT w t A n xs) (hg : w.grownBy w' row) (hne : ∀ a, A = some a → some a.block ≠ row) : RowT w' t A n xs := by
 refine ⟨h.1, fun hn => ?_⟩
 obtain ⟨b, off, cs, z, rfl, hb, hc⟩ := h.2 hn
 exact ⟨b, off, cs, z, rfl, (hg.block b (Array.getElem?_eq_some_iff.1 hb).1 (hne _ rfl)).trans hb, hc⟩
theorem PS.grown {F : Nat → Prop} {w w' : World} {g : Nat} {rs : List Nat} {ns : List NodeP} {deep most : Nat} (h : PS F w g rs ns deep most) {B : Nat} {e : TypeId} {sz n : Nat} {v : Value} {xs : List Value} (ho : w.ownsRow B e sz v n xs) (hg : w.grownBy w' v.ownBlock) (hv : ∀ k, v.ownBlock = some k → ¬ F k) (he1 : e ≠ 147) (he2 : e ≠ 182) : PS F w' g rs ns deep most := by
 obtain ⟨A, c, O, m, h1, h2, h3, h4, ds, hds, hown, hd⟩ := h.ex
 have hrow : ∀ {t : TypeId} {A : Option Addr} {n : Nat} {xs : List Value}, RowT w t A n xs → (∀ a, A = some a → F a.block) → RowT w' t A n xs := fun hr hf => hr.grown hg fun a ha e1 => hv _ e1.symm (hf a ha)
 refine ⟨⟨A, c, O, m, h1.grown hg fun e1 => ?_, hrow h2 h4.2, h3, h4, ds, hds, own_grown hown hg ?_, fun d hm => ⟨hrow (hd d hm).kids (hd d hm).kF, hrow (hd d hm).set (hd d hm).sF, (hd d hm).kF, (hd d hm).sF⟩⟩, fun k hk => Nat.lt_of_lt_of_le (h.hF k hk) hg.size, h.dm, h.mb, h.rb, h.nb, h.lb⟩
 ·have := own_blk ho h1 he1
  rw [← e1] at this
  simp at this
 rcases hb : (Value.slice O ns.length m).ownBlock with _ | k
 ·exact .inl rfl
 refine .inr fun e1 => ?_
 have := own_own ho hown he2 k hb
 rw [← e1] at this
 simp at this
theorem PK.grown {g : Nat} {w0 w w' : World} (h : PK g w0 w) {B : Nat} {e : TypeId} {sz n : Nat} {v : Value} {xs : List Value} (ho : w.ownsRow B e sz v n xs) (hg : w.grownBy w' v.ownBlock) (hB : w0.heap.size ≤ B) (hgB : g ≤ B) (hgw : g ≤ w.heap.size) : PK g w0 w' := by
 have hlt := h.keep.size
 refine ⟨⟨hg.os.trans h.keep.os, hg.tape.trans h.keep.tape, hg.output.trans h.keep.output, Nat.le_trans hlt hg.size, fun k hk hn => ?_⟩, ⟨hg.os.trans h.low.os, hg.tape.trans h.low.tape, hg.output.trans h.low.output, Nat.le_trans h.low.size hg.size, fun k hk => ?_⟩⟩
 ·rw [hg.block k (by omega) fun e1 => by have := (ho.lt k e1.symm).1; omega]
  exact h.keep.block k hk hn
 rw [hg.block k (by omega) fun e1 => by have := (ho.lt k e1.symm).1; omega]
 exact h.low.block k hk
end Go.Proofs.YtecejnilajbdpaaGreatDoor
