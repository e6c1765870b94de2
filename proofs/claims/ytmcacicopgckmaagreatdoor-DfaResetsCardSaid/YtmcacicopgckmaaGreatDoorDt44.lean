import Derived.Test.YtmcacicopgckmaaGreatDoorDt40
import Derived.Test.YtmcacicopgckmaaGreatDoorDt43
import Derived.Test.YtmcacicopgckmaaGreatDoorDt39
import Derived.Test.YtmcacicopgckmaaGreatDoorDt16
import Derived.Test.YtmcacicopgckmaaGreatDoorDt05
/-! layer 20, plain: names of states; what a cache keeps -/
namespace Garner
open Go
def boolT (f : Bool) : Bs := if f then [116, 114, 117, 101] else [102, 97, 108, 115, 101]
/-- the numbers of a state, each behind a space -/
def pcsT : List Nat → Bs
  | [] => []
  | p :: r => 32 :: (Lib.decDigits p ++ pcsT r)
def nameT (f : Bool) (st : List Nat) : Bs := boolT f ++ pcsT st
theorem pcsT_app : ∀ a b : List Nat, pcsT (a ++ b) = pcsT a ++ pcsT b
  | [], b => rfl
  | p :: r, b => by rw [List.cons_append, pcsT, pcsT, pcsT_app r b]; simp
theorem pcsT_snoc (a : List Nat) (p : Nat) : pcsT (a ++ [p]) = (pcsT a ++ [32]) ++ Lib.decDigits p := by rw [pcsT_app]; simp [pcsT]
/-- digits up to a space or the end -/
theorem split_dig : ∀ (a b x y : Bs), (∀ c ∈ a, c ≠ 32) → (∀ c ∈ b, c ≠ 32) → (x = [] ∨ x.head? = some 32) → (y = [] ∨ y.head? = some 32) → a ++ x = b ++ y → a = b ∧ x = y
  | [], [], x, y, _, _, _, _, h => ⟨rfl, h⟩
  | [], c :: b, x, y, _, hb, hx, _, h => by
    rcases hx with rfl | hx
    · cases h
    · rw [List.nil_append] at h
      rw [h] at hx
      injection hx with hx
      exact absurd hx (hb c (by simp))
  | c :: a, [], x, y, ha, _, _, hy, h => by
    rcases hy with rfl | hy
    · cases h
    · rw [List.nil_append] at h
      rw [← h] at hy
      injection hy with hy
      exact absurd hy (ha c (by simp))
  | c :: a, d :: b, x, y, ha, hb, hx, hy, h => by
    injection h with h1 h2
    obtain ⟨h3, h4⟩ := split_dig a b x y (fun u hu => ha u (by simp [hu])) (fun u hu => hb u (by simp [hu])) hx hy h2
    exact ⟨by rw [h1, h3], h4⟩
theorem dig_ne (n : Nat) : ∀ c ∈ Lib.decDigits n, c ≠ 32 := fun c hc e => by
  have := (dec_digits n c hc).1
  rw [e] at this
  exact absurd this (by decide)
theorem pcsT_head (l : List Nat) : pcsT l = [] ∨ (pcsT l).head? = some 32 := by
  cases l with
  | nil => exact .inl rfl
  | cons p r => exact .inr rfl
theorem pcsT_inj : ∀ a b : List Nat, pcsT a = pcsT b → a = b
  | [], [], _ => rfl
  | [], q :: b, h => by cases h
  | p :: a, [], h => by cases h
  | p :: a, q :: b, h => by
    rw [pcsT, pcsT] at h
    injection h with _ h
    obtain ⟨h1, h2⟩ := split_dig _ _ _ _ (dig_ne p) (dig_ne q) (pcsT_head a) (pcsT_head b) h
    rw [dec_inj h1, pcsT_inj a b h2]
theorem nameT_inj {f g : Bool} {a b : List Nat} (h : nameT f a = nameT g b) : f = g ∧ a = b := by
  unfold nameT boolT at h
  cases f <;> cases g
  · exact ⟨rfl, pcsT_inj _ _ (List.append_cancel_left h)⟩
  · simp at h
  · simp at h
  · exact ⟨rfl, pcsT_inj _ _ (List.append_cancel_left h)⟩
theorem pcsT_len : ∀ (l : List Nat), (∀ p ∈ l, p ≤ 1000000000) → (pcsT l).length ≤ 11 * l.length
  | [], _ => Nat.le_refl _
  | p :: r, h => by
    have h1 := pcsT_len r fun x hx => h x (by simp [hx])
    have h2 := dec_len (h p (by simp))
    rw [pcsT, List.length_cons, List.length_append, List.length_cons]
    omega
/-- a state that is kept -/
structure KeptP where
  pcs : List Nat
  first : Bool
  here : Bool
  last : Bool
/-- a state, a rune, and whether a part is looked for: the state's number, one more -/
structure EdgeP where
  from_ : Fin 40
  r : Fin 1114112
  part : Bool
deriving DecidableEq
end Garner
namespace Go.Proofs.YtmcacicopgckmaaGreatDoor
open Go.RowKit Garner
/-- what is kept is right -/
structure GoodC (ins : List InstP) (lim : Nat) (st : List KeptP) (nm : Bs → Option Value) (ed : EdgeP → Option Value) : Prop where
  lb : lim ≤ 32
  len : st.length ≤ lim
  lt : ∀ s ∈ st, ∀ x ∈ s.pcs, x < ins.length
  few : ∀ s ∈ st, s.pcs.length ≤ 100000
  here : ∀ s ∈ st, s.here = matB ins s.pcs s.first false
  last : ∀ s ∈ st, s.last = matB ins s.pcs s.first true
  nm : ∀ a v, nm a = some v → ∃ i s, v = .int .i64 (i : Nat) ∧ st[i]? = some s ∧ a = nameT s.first s.pcs
  ed : ∀ k v, ed k = some v → ∃ i j s u, (k.from_ : Nat) = i + 1 ∧ v = .int .i64 (j : Nat) ∧ st[i]? = some s ∧ st[j]? = some u ∧ u.first = false ∧ u.pcs = stepR ins k.part s.pcs k.r
theorem GoodC.none (ins : List InstP) {lim : Nat} (h : lim ≤ 32) : GoodC ins lim [] (fun _ => none) (fun _ => none) :=
  ⟨h, Nat.zero_le _, by simp, by simp, by simp, by simp, by simp, by simp⟩
theorem get_app {α : Type} {l : List α} {i : Nat} {x y : α} (h : l[i]? = some x) : (l ++ [y])[i]? = some x := by
  rw [List.getElem?_append_left (List.getElem?_eq_some_iff.1 h).1]; exact h
theorem GoodC.add {ins : List InstP} {lim : Nat} {st : List KeptP} {nm : Bs → Option Value} {ed : EdgeP → Option Value} (h : GoodC ins lim st nm ed) (hl : st.length < lim) (s : List Nat) (f : Bool) (hs : ∀ x ∈ s, x < ins.length) (hf : s.length ≤ 100000) :
    GoodC ins lim (st ++ [⟨s, f, matB ins s f false, matB ins s f true⟩]) (fun x => if x = nameT f s then some (.int .i64 (st.length : Nat)) else nm x) ed := by
  have hm : ∀ x, x ∈ st ++ [⟨s, f, matB ins s f false, matB ins s f true⟩] → x ∈ st ∨ x = ⟨s, f, matB ins s f false, matB ins s f true⟩ := fun x hx => by simpa using hx
  refine ⟨h.lb, by rw [List.length_append]; simp; omega, fun x hx => ?_, fun x hx => ?_, fun x hx => ?_, fun x hx => ?_, fun a v ha => ?_, fun k v hk => ?_⟩
  · rcases hm x hx with hx | rfl
    · exact h.lt x hx
    · exact hs
  · rcases hm x hx with hx | rfl
    · exact h.few x hx
    · exact hf
  · rcases hm x hx with hx | rfl
    · exact h.here x hx
    · rfl
  · rcases hm x hx with hx | rfl
    · exact h.last x hx
    · rfl
  · split at ha
    · rename_i e
      injection ha with ha
      exact ⟨st.length, ⟨s, f, matB ins s f false, matB ins s f true⟩, ha.symm, by simp, e⟩
    · obtain ⟨i, s', h1, h2, h3⟩ := h.nm a v ha
      exact ⟨i, s', h1, get_app h2, h3⟩
  · obtain ⟨i, j, s', u, h1, h2, h3, h4, h5⟩ := h.ed k v hk
    exact ⟨i, j, s', u, h1, h2, get_app h3, get_app h4, h5⟩
theorem GoodC.edge {ins : List InstP} {lim : Nat} {st : List KeptP} {nm : Bs → Option Value} {ed : EdgeP → Option Value} (h : GoodC ins lim st nm ed) (k : EdgeP) {i j : Nat} {s u : KeptP} (h1 : (k.from_ : Nat) = i + 1) (h3 : st[i]? = some s) (h4 : st[j]? = some u) (h5 : u.first = false) (h6 : u.pcs = stepR ins k.part s.pcs k.r) :
    GoodC ins lim st nm (fun x => if x = k then some (.int .i64 (j : Nat)) else ed x) := by
  refine ⟨h.lb, h.len, h.lt, h.few, h.here, h.last, h.nm, fun x v hx => ?_⟩
  split at hx
  · rename_i e
    injection hx with hx
    subst e
    exact ⟨i, j, s, u, h1, hx.symm, h3, h4, h5, h6⟩
  · exact h.ed x v hx
/-- a state's name is kept at that state alone -/
theorem GoodC.found {ins : List InstP} {lim : Nat} {st : List KeptP} {nm : Bs → Option Value} {ed : EdgeP → Option Value} (h : GoodC ins lim st nm ed) {f : Bool} {s : List Nat} {v : Value} (hv : nm (nameT f s) = some v) : ∃ i u, v = .int .i64 (i : Nat) ∧ st[i]? = some u ∧ u.first = f ∧ u.pcs = s := by
  obtain ⟨i, u, h1, h2, h3⟩ := h.nm _ _ hv
  obtain ⟨e1, e2⟩ := nameT_inj h3
  exact ⟨i, u, h1, h2, e1.symm, e2.symm⟩
end Go.Proofs.YtmcacicopgckmaaGreatDoor
/-! nfa: New, Whole, Part -/
namespace Garner
open Go
end Garner
namespace Go.Proofs.YtmcacicopgckmaaGreatDoor
open Go.RowKit Garner
/-- a matcher of a tree's -/
def MatIs (w : World) (b : Nat) (t : Re) : Prop := ∃ W0 B L g, Blk w b 60 [.pointer (some ⟨g, 0, none⟩)] ∧ ProgIs W0 B L w g (progR t) ∧ Below W0.heap.size W0 w ∧ GoodT t
theorem MatIs.below {w w' : World} {b : Nat} {t : Re} (h : MatIs w b t) (hb : Below w.heap.size w w') : MatIs w' b t := by
  obtain ⟨W0, B, L, g, h1, h2, h3, h4⟩ := h
  exact ⟨W0, B, L, g, h1.below hb h1.lt, h2.below hb, h3.trans (hb.mono h3.size), h4⟩
theorem MatIs.good {w : World} {b : Nat} {t : Re} (h : MatIs w b t) : GoodT t := by
  obtain ⟨W0, B, L, g, h1, h2, h3, h4⟩ := h
  exact h4
def NewP (o : Except Nat Re) (e : Ending) (w' : World) : Prop := match o with
  | .error k => e = .returned (.tuple #[.pointer none, .int .i64 (k : Nat)])
  | .ok t => ∃ b, e = .returned (.tuple #[.pointer (some ⟨b, 0, none⟩), .int .i64 0]) ∧ MatIs w' b t
set_option maxRecDepth 100000 in
set_option maxHeartbeats 8000000 in
theorem vNew (l : Bs) (w : World) (hL : Lt w) (hl : l.length ≤ 9223372036854775807) :
    Calls Tryz.prog 15 #[str l] w fun e w' => Below w.heap.size w w' ∧ NewP (rexpP l) e w' := by
  have hp := vParse l w hL hl
  have hg := fun t => @rexp_good l t
  have he := fun k => @err_pos l k
  obtain ⟨OUT, hOUT⟩ : ∃ OUT, rexpP l = OUT := ⟨_, rfl⟩
  rw [hOUT] at hp ⊢
  have HP := Lib.hid hp
  cases OUT with
  | error k =>
    have hk := he k hOUT
    have z1 : ¬ (k : Int) = 0 := by omega
    clear hp hg he hOUT hk
    go_enter Tryz.func15, Tryz.ntmps15
    go_wp2_with fail
    refine HP.out.mono ?_
    rintro e w1 ⟨hb, ho⟩
    obtain rfl : e = _ := ho
    go_wp2
    go_ret2
    exact ⟨hb, rfl⟩
  | ok t =>
    have hgt := hg t hOUT
    have HG := Lib.hid hgt
    clear hp hg he hOUT hgt
    go_enter Tryz.func15, Tryz.ntmps15
    go_wp2_with fail
    refine HP.out.mono ?_
    rintro e w1 ⟨hb, v, rfl, hn⟩
    obtain ⟨N, hN⟩ : ∃ N, (t.flat 0).length = N := ⟨_, rfl⟩
    obtain ⟨A, c, hv⟩ : ∃ A c, v = .slice A N c := by
      obtain ⟨ds, -, ho, -⟩ := hn
      obtain ⟨A, c, e, -⟩ := own_form ho
      exact ⟨A, c, by rw [← hN]; exact e⟩
    subst hv
    have hc := vCompile w1 A c N t hN hn HG.out.cnt HG.out.ok HG.out.lim HG.out.len
    have HC := Lib.hid hc; have HB := Lib.hid hb
    clear hc hn hN hb
    go_wp2_with fail
    refine HC.out.mono ?_
    rintro e w2 ⟨g, rfl, hgw, hps, hb2⟩
    have HPs := Lib.hid hps; have HB2 := Lib.hid hb2
    have hs2 := HB.out.size
    clear hps hb2
    go_wp2
    go_ret2
    have hbx : Below w2.heap.size w2 (w2.alloc (.cells #[.pointer (some ⟨g, 0, none⟩)] 60)) := (Below.refl _ _).alloc (Nat.le_refl _) _
    refine ⟨(HB.out.trans (HB2.out.mono hs2)).trans (hbx.mono (Nat.le_trans hs2 HB2.out.size)), w2.heap.size, rfl, w1, w1.heap.size, _, g, Blk.new w2 _ _, HPs.out.below hbx, HB2.out.trans (hbx.mono HB2.out.size), HG.out⟩
end Go.Proofs.YtmcacicopgckmaaGreatDoor
/-! dfa: a cache in memory -/
namespace Go.Proofs.YtmcacicopgckmaaGreatDoor
open Go.RowKit Garner
/-- w' is w, but for cells of the types T, for what is no cells, and for new blocks -/
structure KeepM (T : List TypeId) (w w' : World) : Prop where
  os : w'.os = w.os
  tape : w'.tape = w.tape
  output : w'.output = w.output
  size : w.heap.size ≤ w'.heap.size
  block : ∀ (k : Nat) (cs : Array Value) (t : TypeId) (z : Nat × Nat), w.heap[k]? = some (.cells cs t z) → t ∉ T → w'.heap[k]? = w.heap[k]?
section
variable {T : List TypeId} {a b c w w' : World}
theorem KeepM.refl (T : List TypeId) (w : World) : KeepM T w w := ⟨rfl, rfl, rfl, Nat.le_refl _, fun _ _ _ _ _ _ => rfl⟩
theorem KeepM.trans (h : KeepM T a b) (k : KeepM T b c) : KeepM T a c :=
  ⟨k.os.trans h.os, k.tape.trans h.tape, k.output.trans h.output, Nat.le_trans h.size k.size, fun i cs t z hi hn => by
    have h1 := h.block i cs t z hi hn
    rw [k.block i cs t z (h1.trans hi) hn, h1]⟩
theorem KeepM.of_below (h : Below w.heap.size w w') : KeepM T w w' := ⟨h.os, h.tape, h.output, h.size, fun k _ _ _ hk _ => h.block k (Array.getElem?_eq_some_iff.1 hk).1⟩
theorem KeepM.drew (h : KeepM T a w) : KeepM T a w.drew := ⟨h.os, h.tape, h.output, h.size, h.block⟩
theorem KeepM.setCell (h : KeepM T a w) {p : Addr} {cs : Array Value} {t : TypeId} {z : Nat × Nat} (hp : w.heap[p.block]? = some (.cells cs t z)) (ht : t ∈ T) (u : Value) : KeepM T a (w.setCell p u) :=
  h.trans ⟨rfl, rfl, rfl, by simp [World.setCell], fun k cs' t' z' hk hn => Below.heap_setCell _ _ _ _ fun e => by
    rw [← e, hk] at hp
    cases hp
    exact hn ht⟩
theorem KeepM.grown {row : Option Nat} (hg : w.grownBy w' row) (hr : ∀ k, row = some k → ∀ cs t z, w.heap[k]? = some (.cells cs t z) → t ∈ T) : KeepM T w w' :=
  ⟨hg.os, hg.tape, hg.output, hg.size, fun k cs t z hk hn => hg.block k (Array.getElem?_eq_some_iff.1 hk).1 fun e => hn (hr k e.symm cs t z hk)⟩
theorem KeepM.blk {g : Nat} {t : TypeId} {cs : List Value} (h : KeepM T w w') (hb : Blk w g t cs) (ht : t ∉ T) : Blk w' g t cs := (h.block g _ _ _ hb ht).trans hb
theorem KeepM.own {B : Nat} {e : TypeId} {sz n : Nat} {v : Value} {xs : List Value} (h : KeepM T w w') (ho : w.ownsRow B e sz v n xs) (ht : e ∉ T) : w'.ownsRow B e sz v n xs := by
  obtain ⟨h1, h2⟩ := ho
  refine ⟨h1, ?_⟩
  rcases h2 with h2 | ⟨g, cap, cur, rfl, hg, hh, r⟩
  · exact Or.inl h2
  · exact Or.inr ⟨g, cap, cur, rfl, hg, (h.block g _ _ _ hh ht).trans hh, r⟩
theorem RowT.keepM {t : TypeId} {A : Option Addr} {n : Nat} {xs : List Value} (h : RowT w t A n xs) (hk : KeepM T w w') (ht : t ∉ T) : RowT w' t A n xs := by
  refine ⟨h.1, fun hn => ?_⟩
  obtain ⟨b, off, cs, z, rfl, hb, hc⟩ := h.2 hn
  exact ⟨b, off, cs, z, rfl, (hk.block b _ _ _ hb ht).trans hb, hc⟩
theorem ProgIs.keepM {W0 : World} {B : Nat} {L : Value} {g : Nat} {ins : List InstP} (h : ProgIs W0 B L w g ins) (hk : KeepM T w w') (h1 : 109 ∉ T) (h2 : 113 ∉ T) : ProgIs W0 B L w' g ins := by
  obtain ⟨O, m, h3, ds, h4, h5, h6⟩ := h.ex
  exact ⟨⟨O, m, hk.blk h3 h1, ds, h4, hk.own h5 h2, h6⟩, h.nb⟩
end
/-- a state that is kept, and where its row lies -/
structure KeptD where
  p : KeptP
  A : Option Addr
  c : Nat
def KeptD.cells (d : KeptD) : List Value := [.slice d.A d.p.pcs.length d.c, .bool d.p.first, .bool d.p.here, .bool d.p.last]
theorem kept_one (ds : List KeptD) : ∀ u ∈ ds.flatMap KeptD.cells, u.oneCell' = true := by
  intro u hu
  obtain ⟨d, -, h⟩ := List.mem_flatMap.1 hu
  simp [KeptD.cells] at h
  rcases h with rfl | rfl | rfl | rfl <;> rfl
theorem keptE : Elem Tryz.prog 76 129 (.agg #[.slice none 0 0, .bool false, .bool false, .bool false]) 4 40 := ⟨Tryz.underlying76, by kernel_rfl, rfl, by omega, by omega⟩
def strK (s : Bs) : Value := .string ⟨s.toArray⟩
def edgeK (k : EdgeP) : Value := .agg #[.int .i64 ((k.from_ : Nat) - 1 : Int), .int .i32 (k.r : Nat), .bool k.part]
theorem strK_law : FindLaw Tryz.prog 9 strK := .of_kind (strKeys Tryz.underlying9) fun a b h => by
  have := Value.string.inj h
  simpa using this
theorem edgeK_inj (a b : EdgeP) (h : edgeK a = edgeK b) : a = b := by
  obtain ⟨⟨a1, _⟩, ⟨a2, _⟩, a3⟩ := a
  obtain ⟨⟨b1, _⟩, ⟨b2, _⟩, b3⟩ := b
  simp only [edgeK, Value.agg.injEq, Array.mk.injEq, List.cons.injEq, Value.int.injEq, Value.bool.injEq, true_and, and_true] at h
  obtain ⟨h1, h2, h3⟩ := h
  obtain rfl : a1 = b1 := by omega
  obtain rfl : a2 = b2 := by omega
  rw [h3]
theorem edgeK_law : FindLaw Tryz.prog 127 edgeK := by
  refine .of_law (deep_law (m := 3) (by decide) (by kernel_rfl) (by kernel_rfl) (by kernel_rfl)) edgeK_inj fun k => ?_
  obtain ⟨⟨a1, h1⟩, ⟨a2, h2⟩, a3⟩ := k
  have w1 : (Lit.int .i64 ((a1 : Int) - 1)).wf = true := by
    simp [Lit.wf, IntKind.min, IntKind.max, IntKind.signed, IntKind.bits]; omega
  have w2 : (Lit.int .i32 (a2 : Int)).wf = true := by
    simp [Lit.wf, IntKind.min, IntKind.max, IntKind.signed, IntKind.bits]; omega
  have u1 : Tryz.prog.underlying 3 = some (.int .i64) := Tryz.underlying3
  have u2 : Tryz.prog.underlying 21 = some (.int .i32) := Tryz.underlying21
  have u3 : Tryz.prog.underlying 4 = some .bool := Tryz.underlying4
  have hu := Tryz.underlying127
  have c1 : Tryz.prog.cellsOf 3 = 1 := by kernel_rfl
  have c2 : Tryz.prog.cellsOf 21 = 1 := by kernel_rfl
  have c3 : Tryz.prog.cellsOf 4 = 1 := by kernel_rfl
  have c4 : Tryz.prog.cellsOf 127 = 3 := by kernel_rfl
  have k1 : Tryz.prog.keyType 127 = true := by kernel_rfl
  obtain ⟨n, hn⟩ : ∃ n, Tryz.prog.types.size = n + 2 := ⟨Tryz.prog.types.size - 2, by kernel_rfl⟩
  have hf : (Value.agg #[.int .i64 ((a1 : Int) - 1), .int .i32 (a2 : Int), .bool a3]).formed Tryz.prog 127 = true := by
    simp [Value.formed, hu, c4]
  have hl : Tryz.prog.keyLits (Tryz.prog.types.size + 1) 127 [.int .i64 ((a1 : Int) - 1), .int .i32 (a2 : Int), .bool a3] = some [.int .i64 ((a1 : Int) - 1), .int .i32 (a2 : Int), .bool a3] := by
    rw [hn]
    simp [Program.keyLits, hu, u1, u2, u3, c1, c2, c3, c4, w1, w2]
  refine ⟨.string (keyBytes [.int .i64 ((a1 : Int) - 1), .int .i32 (a2 : Int), .bool a3]), ?_⟩
  unfold keyOf edgeK
  rw [hu]
  dsimp only
  rw [k1, hf, if_pos (show (true && true) = true from rfl)]
  show (Tryz.prog.keyLits _ _ [.int .i64 ((a1 : Int) - 1), .int .i32 (a2 : Int), .bool a3]).map _ = _
  rw [hl]
  rfl
end Go.Proofs.YtmcacicopgckmaaGreatDoor
