import Derived.Test.YtmcacicopgckmaaGreatDoorDg17
import Derived.Test.YtmcacicopgckmaaGreatDoorDg41
import Derived.Test.YtmcacicopgckmaaGreatDoorDg02
import Derived.Lib.AppendStr
import Derived.Lib.AppendIntMem
import Derived.Deep.CutBlock
import Derived.Test.YtmcacicopgckmaaGreatDoorDg08
import Derived.Test.YtmcacicopgckmaaGreatDoorDg39
import Derived.Test.YtmcacicopgckmaaGreatDoorDg18
import Derived.Test.YtmcacicopgckmaaGreatDoorDg01
import Derived.Test.YtmcacicopgckmaaGreatDoorDg36
/-! layer 20, plain: names of states; what a cache keeps -/
namespace Garner
open Go
def boolT (f : Bool) : Bs := if f then [116, 114, 117, 101] else [102, 97, 108, 115, 101]
/-- the numbers of a state, each behind a space -/
def pcsT : List Nat → Bs
  | [] => []
  | p :: r => 32 :: (Lib.decDigits p ++ pcsT r)
def nameT (f : Bool) (st : List Nat) : Bs := boolT f ++ pcsT st
theorem pcsT_app : ∀ a b : List Nat, pcsT (a ++ b) = pcsT a ++ pcsT b
  | [], b => rfl
  | p :: r, b => by rw [List.cons_append, pcsT, pcsT, pcsT_app r b]; simp
theorem pcsT_snoc (a : List Nat) (p : Nat) : pcsT (a ++ [p]) = (pcsT a ++ [32]) ++ Lib.decDigits p := by rw [pcsT_app]; simp [pcsT]
/-- digits up to a space or the end -/
theorem split_dig : ∀ (a b x y : Bs), (∀ c ∈ a, c ≠ 32) → (∀ c ∈ b, c ≠ 32) → (x = [] ∨ x.head? = some 32) → (y = [] ∨ y.head? = some 32) → a ++ x = b ++ y → a = b ∧ x = y
  | [], [], x, y, _, _, _, _, h => ⟨rfl, h⟩
  | [], c :: b, x, y, _, hb, hx, _, h => by
    rcases hx with rfl | hx
    · cases h
    · rw [List.nil_append] at h
      rw [h] at hx
      injection hx with hx
      exact absurd hx (hb c (by simp))
  | c :: a, [], x, y, ha, _, _, hy, h => by
    rcases hy with rfl | hy
    · cases h
    · rw [List.nil_append] at h
      rw [← h] at hy
      injection hy with hy
      exact absurd hy (ha c (by simp))
  | c :: a, d :: b, x, y, ha, hb, hx, hy, h => by
    injection h with h1 h2
    obtain ⟨h3, h4⟩ := split_dig a b x y (fun u hu => ha u (by simp [hu])) (fun u hu => hb u (by simp [hu])) hx hy h2
    exact ⟨by rw [h1, h3], h4⟩
theorem dig_ne (n : Nat) : ∀ c ∈ Lib.decDigits n, c ≠ 32 := fun c hc e => by
  have := (dec_digits n c hc).1
  rw [e] at this
  exact absurd this (by decide)
theorem pcsT_head (l : List Nat) : pcsT l = [] ∨ (pcsT l).head? = some 32 := by
  cases l with
  | nil => exact .inl rfl
  | cons p r => exact .inr rfl
theorem pcsT_inj : ∀ a b : List Nat, pcsT a = pcsT b → a = b
  | [], [], _ => rfl
  | [], q :: b, h => by cases h
  | p :: a, [], h => by cases h
  | p :: a, q :: b, h => by
    rw [pcsT, pcsT] at h
    injection h with _ h
    obtain ⟨h1, h2⟩ := split_dig _ _ _ _ (dig_ne p) (dig_ne q) (pcsT_head a) (pcsT_head b) h
    rw [dec_inj h1, pcsT_inj a b h2]
theorem nameT_inj {f g : Bool} {a b : List Nat} (h : nameT f a = nameT g b) : f = g ∧ a = b := by
  unfold nameT boolT at h
  cases f <;> cases g
  · exact ⟨rfl, pcsT_inj _ _ (List.append_cancel_left h)⟩
  · simp at h
  · simp at h
  · exact ⟨rfl, pcsT_inj _ _ (List.append_cancel_left h)⟩
/-- a state that is kept -/
structure KeptP where
  pcs : List Nat
  first : Bool
  here : Bool
  last : Bool
/-- a state, a rune, and whether a part is looked for: the state's number, one more -/
structure EdgeP where
  from_ : Fin 40
  r : Fin 1114112
  part : Bool
deriving DecidableEq
end Garner
namespace Go.Proofs.YtmcacicopgckmaaGreatDoor
open Go.RowKit Garner
/-- what is kept is right -/
structure GoodC (ins : List InstP) (lim : Nat) (st : List KeptP) (nm : Bs → Option Value) (ed : EdgeP → Option Value) : Prop where
  lb : lim ≤ 32
  len : st.length ≤ lim
  lt : ∀ s ∈ st, ∀ x ∈ s.pcs, x < ins.length
  few : ∀ s ∈ st, s.pcs.length ≤ 100000
  here : ∀ s ∈ st, s.here = matB ins s.pcs s.first false
  last : ∀ s ∈ st, s.last = matB ins s.pcs s.first true
  nm : ∀ a v, nm a = some v → ∃ i s, v = .int .i64 (i : Nat) ∧ st[i]? = some s ∧ a = nameT s.first s.pcs
  ed : ∀ k v, ed k = some v → ∃ i j s u, (k.from_ : Nat) = i + 1 ∧ v = .int .i64 (j : Nat) ∧ st[i]? = some s ∧ st[j]? = some u ∧ u.first = false ∧ u.pcs = stepR ins k.part s.pcs k.r
theorem GoodC.none (ins : List InstP) {lim : Nat} (h : lim ≤ 32) : GoodC ins lim [] (fun _ => none) (fun _ => none) :=
  ⟨h, Nat.zero_le _, by simp, by simp, by simp, by simp, by simp, by simp⟩
theorem get_app {α : Type} {l : List α} {i : Nat} {x y : α} (h : l[i]? = some x) : (l ++ [y])[i]? = some x := by
  rw [List.getElem?_append_left (List.getElem?_eq_some_iff.1 h).1]; exact h
theorem GoodC.add {ins : List InstP} {lim : Nat} {st : List KeptP} {nm : Bs → Option Value} {ed : EdgeP → Option Value} (h : GoodC ins lim st nm ed) (hl : st.length < lim) (s : List Nat) (f : Bool) (hs : ∀ x ∈ s, x < ins.length) (hf : s.length ≤ 100000) :
    GoodC ins lim (st ++ [⟨s, f, matB ins s f false, matB ins s f true⟩]) (fun x => if x = nameT f s then some (.int .i64 (st.length : Nat)) else nm x) ed := by
  have hm : ∀ x, x ∈ st ++ [⟨s, f, matB ins s f false, matB ins s f true⟩] → x ∈ st ∨ x = ⟨s, f, matB ins s f false, matB ins s f true⟩ := fun x hx => by simpa using hx
  refine ⟨h.lb, by rw [List.length_append]; simp; omega, fun x hx => ?_, fun x hx => ?_, fun x hx => ?_, fun x hx => ?_, fun a v ha => ?_, fun k v hk => ?_⟩
  · rcases hm x hx with hx | rfl
    · exact h.lt x hx
    · exact hs
  · rcases hm x hx with hx | rfl
    · exact h.few x hx
    · exact hf
  · rcases hm x hx with hx | rfl
    · exact h.here x hx
    · rfl
  · rcases hm x hx with hx | rfl
    · exact h.last x hx
    · rfl
  · split at ha
    · rename_i e
      injection ha with ha
      exact ⟨st.length, ⟨s, f, matB ins s f false, matB ins s f true⟩, ha.symm, by simp, e⟩
    · obtain ⟨i, s', h1, h2, h3⟩ := h.nm a v ha
      exact ⟨i, s', h1, get_app h2, h3⟩
  · obtain ⟨i, j, s', u, h1, h2, h3, h4, h5⟩ := h.ed k v hk
    exact ⟨i, j, s', u, h1, h2, get_app h3, get_app h4, h5⟩
theorem GoodC.edge {ins : List InstP} {lim : Nat} {st : List KeptP} {nm : Bs → Option Value} {ed : EdgeP → Option Value} (h : GoodC ins lim st nm ed) (k : EdgeP) {i j : Nat} {s u : KeptP} (h1 : (k.from_ : Nat) = i + 1) (h3 : st[i]? = some s) (h4 : st[j]? = some u) (h5 : u.first = false) (h6 : u.pcs = stepR ins k.part s.pcs k.r) :
    GoodC ins lim st nm (fun x => if x = k then some (.int .i64 (j : Nat)) else ed x) := by
  refine ⟨h.lb, h.len, h.lt, h.few, h.here, h.last, h.nm, fun x v hx => ?_⟩
  split at hx
  · rename_i e
    injection hx with hx
    subst e
    exact ⟨i, j, s, u, h1, hx.symm, h3, h4, h5, h6⟩
  · exact h.ed x v hx
/-- a state's name is kept at that state alone -/
theorem GoodC.found {ins : List InstP} {lim : Nat} {st : List KeptP} {nm : Bs → Option Value} {ed : EdgeP → Option Value} (h : GoodC ins lim st nm ed) {f : Bool} {s : List Nat} {v : Value} (hv : nm (nameT f s) = some v) : ∃ i u, v = .int .i64 (i : Nat) ∧ st[i]? = some u ∧ u.first = f ∧ u.pcs = s := by
  obtain ⟨i, u, h1, h2, h3⟩ := h.nm _ _ hv
  obtain ⟨e1, e2⟩ := nameT_inj h3
  exact ⟨i, u, h1, h2, e1.symm, e2.symm⟩
end Go.Proofs.YtmcacicopgckmaaGreatDoor

/-! dfa: a cache in memory -/
namespace Go.Proofs.YtmcacicopgckmaaGreatDoor
open Go.RowKit Garner
/-- w' is w, but for cells of the types T, for what is no cells, and for new blocks -/
structure KeepM (T : List TypeId) (w w' : World) : Prop where
  os : w'.os = w.os
  tape : w'.tape = w.tape
  output : w'.output = w.output
  size : w.heap.size ≤ w'.heap.size
  block : ∀ (k : Nat) (cs : Array Value) (t : TypeId) (z : Nat × Nat), w.heap[k]? = some (.cells cs t z) → t ∉ T → w'.heap[k]? = w.heap[k]?
section
variable {T : List TypeId} {a b c w w' : World}
theorem KeepM.refl (T : List TypeId) (w : World) : KeepM T w w := ⟨rfl, rfl, rfl, Nat.le_refl _, fun _ _ _ _ _ _ => rfl⟩
theorem KeepM.trans (h : KeepM T a b) (k : KeepM T b c) : KeepM T a c :=
  ⟨k.os.trans h.os, k.tape.trans h.tape, k.output.trans h.output, Nat.le_trans h.size k.size, fun i cs t z hi hn => by
    have h1 := h.block i cs t z hi hn
    rw [k.block i cs t z (h1.trans hi) hn, h1]⟩
theorem KeepM.of_below (h : Below w.heap.size w w') : KeepM T w w' := ⟨h.os, h.tape, h.output, h.size, fun k _ _ _ hk _ => h.block k (Array.getElem?_eq_some_iff.1 hk).1⟩
theorem KeepM.drew (h : KeepM T a w) : KeepM T a w.drew := ⟨h.os, h.tape, h.output, h.size, h.block⟩
theorem KeepM.setCell (h : KeepM T a w) {p : Addr} {cs : Array Value} {t : TypeId} {z : Nat × Nat} (hp : w.heap[p.block]? = some (.cells cs t z)) (ht : t ∈ T) (u : Value) : KeepM T a (w.setCell p u) :=
  h.trans ⟨rfl, rfl, rfl, by simp [World.setCell], fun k cs' t' z' hk hn => Below.heap_setCell _ _ _ _ fun e => by
    rw [← e, hk] at hp
    cases hp
    exact hn ht⟩
theorem KeepM.grown {row : Option Nat} (hg : w.grownBy w' row) (hr : ∀ k, row = some k → ∀ cs t z, w.heap[k]? = some (.cells cs t z) → t ∈ T) : KeepM T w w' :=
  ⟨hg.os, hg.tape, hg.output, hg.size, fun k cs t z hk hn => hg.block k (Array.getElem?_eq_some_iff.1 hk).1 fun e => hn (hr k e.symm cs t z hk)⟩
theorem KeepM.blk {g : Nat} {t : TypeId} {cs : List Value} (h : KeepM T w w') (hb : Blk w g t cs) (ht : t ∉ T) : Blk w' g t cs := (h.block g _ _ _ hb ht).trans hb
theorem KeepM.own {B : Nat} {e : TypeId} {sz n : Nat} {v : Value} {xs : List Value} (h : KeepM T w w') (ho : w.ownsRow B e sz v n xs) (ht : e ∉ T) : w'.ownsRow B e sz v n xs := by
  obtain ⟨h1, h2⟩ := ho
  refine ⟨h1, ?_⟩
  rcases h2 with h2 | ⟨g, cap, cur, rfl, hg, hh, r⟩
  · exact Or.inl h2
  · exact Or.inr ⟨g, cap, cur, rfl, hg, (h.block g _ _ _ hh ht).trans hh, r⟩
theorem RowT.keepM {t : TypeId} {A : Option Addr} {n : Nat} {xs : List Value} (h : RowT w t A n xs) (hk : KeepM T w w') (ht : t ∉ T) : RowT w' t A n xs := by
  refine ⟨h.1, fun hn => ?_⟩
  obtain ⟨b, off, cs, z, rfl, hb, hc⟩ := h.2 hn
  exact ⟨b, off, cs, z, rfl, (hk.block b _ _ _ hb ht).trans hb, hc⟩
theorem ProgIs.keepM {W0 : World} {B : Nat} {L : Value} {g : Nat} {ins : List InstP} (h : ProgIs W0 B L w g ins) (hk : KeepM T w w') (h1 : 109 ∉ T) (h2 : 113 ∉ T) : ProgIs W0 B L w' g ins := by
  obtain ⟨O, m, h3, ds, h4, h5, h6⟩ := h.ex
  exact ⟨⟨O, m, hk.blk h3 h1, ds, h4, hk.own h5 h2, h6⟩, h.nb⟩
end
/-- a state that is kept, and where its row lies -/
structure KeptD where
  p : KeptP
  A : Option Addr
  c : Nat
def KeptD.cells (d : KeptD) : List Value := [.slice d.A d.p.pcs.length d.c, .bool d.p.first, .bool d.p.here, .bool d.p.last]
theorem kept_one (ds : List KeptD) : ∀ u ∈ ds.flatMap KeptD.cells, u.oneCell' = true := by
  intro u hu
  obtain ⟨d, -, h⟩ := List.mem_flatMap.1 hu
  simp [KeptD.cells] at h
  rcases h with rfl | rfl | rfl | rfl <;> rfl
theorem keptE : Elem Tryz.prog 76 129 (.agg #[.slice none 0 0, .bool false, .bool false, .bool false]) 4 40 := ⟨Tryz.underlying76, by kernel_rfl, rfl, by omega, by omega⟩
def strK (s : Bs) : Value := .string ⟨s.toArray⟩
def edgeK (k : EdgeP) : Value := .agg #[.int .i64 ((k.from_ : Nat) - 1 : Int), .int .i32 (k.r : Nat), .bool k.part]
theorem strK_law : FindLaw Tryz.prog 9 strK := .of_kind (strKeys Tryz.underlying9) fun a b h => by
  have := Value.string.inj h
  simpa using this
theorem edgeK_inj (a b : EdgeP) (h : edgeK a = edgeK b) : a = b := by
  obtain ⟨⟨a1, _⟩, ⟨a2, _⟩, a3⟩ := a
  obtain ⟨⟨b1, _⟩, ⟨b2, _⟩, b3⟩ := b
  simp only [edgeK, Value.agg.injEq, Array.mk.injEq, List.cons.injEq, Value.int.injEq, Value.bool.injEq, true_and, and_true] at h
  obtain ⟨h1, h2, h3⟩ := h
  obtain rfl : a1 = b1 := by omega
  obtain rfl : a2 = b2 := by omega
  rw [h3]
theorem edgeK_law : FindLaw Tryz.prog 127 edgeK := by
  refine .of_law (deep_law (m := 3) (by decide) (by kernel_rfl) (by kernel_rfl) (by kernel_rfl)) edgeK_inj fun k => ?_
  obtain ⟨⟨a1, h1⟩, ⟨a2, h2⟩, a3⟩ := k
  have w1 : (Lit.int .i64 ((a1 : Int) - 1)).wf = true := by
    simp [Lit.wf, IntKind.min, IntKind.max, IntKind.signed, IntKind.bits]; omega
  have w2 : (Lit.int .i32 (a2 : Int)).wf = true := by
    simp [Lit.wf, IntKind.min, IntKind.max, IntKind.signed, IntKind.bits]; omega
  have u1 : Tryz.prog.underlying 3 = some (.int .i64) := Tryz.underlying3
  have u2 : Tryz.prog.underlying 21 = some (.int .i32) := Tryz.underlying21
  have u3 : Tryz.prog.underlying 4 = some .bool := Tryz.underlying4
  have hu := Tryz.underlying127
  have c1 : Tryz.prog.cellsOf 3 = 1 := by kernel_rfl
  have c2 : Tryz.prog.cellsOf 21 = 1 := by kernel_rfl
  have c3 : Tryz.prog.cellsOf 4 = 1 := by kernel_rfl
  have c4 : Tryz.prog.cellsOf 127 = 3 := by kernel_rfl
  have k1 : Tryz.prog.keyType 127 = true := by kernel_rfl
  obtain ⟨n, hn⟩ : ∃ n, Tryz.prog.types.size = n + 2 := ⟨Tryz.prog.types.size - 2, by kernel_rfl⟩
  have hf : (Value.agg #[.int .i64 ((a1 : Int) - 1), .int .i32 (a2 : Int), .bool a3]).formed Tryz.prog 127 = true := by
    simp [Value.formed, hu, c4]
  have hl : Tryz.prog.keyLits (Tryz.prog.types.size + 1) 127 [.int .i64 ((a1 : Int) - 1), .int .i32 (a2 : Int), .bool a3] = some [.int .i64 ((a1 : Int) - 1), .int .i32 (a2 : Int), .bool a3] := by
    rw [hn]
    simp [Program.keyLits, hu, u1, u2, u3, c1, c2, c3, c4, w1, w2]
  refine ⟨.string (keyBytes [.int .i64 ((a1 : Int) - 1), .int .i32 (a2 : Int), .bool a3]), ?_⟩
  unfold keyOf edgeK
  rw [hu]
  dsimp only
  rw [k1, hf, if_pos (show (true && true) = true from rfl)]
  show (Tryz.prog.keyLits _ _ [.int .i64 ((a1 : Int) - 1), .int .i32 (a2 : Int), .bool a3]).map _ = _
  rw [hl]
  rfl
end Go.Proofs.YtmcacicopgckmaaGreatDoor

/-! dfa: a state's name -/
namespace Garner
open Go
theorem itoa_nat (n : Nat) : Lib.itoa (n : Int) = Lib.decDigits n := by
  unfold Lib.itoa
  rw [if_neg (by omega)]
  rfl
end Garner
namespace Go.Proofs.YtmcacicopgckmaaGreatDoor
open Go.RowKit Garner
/-- the table of the library's number texts, whatever is done from B on -/
abbrev TabW (B : Nat) (w : World) : Prop := Lib.TabBelow Tryz.prog B w "internal/strconv.uint64pow10" .u64 Lib.pow10Tab
theorem TabW.mono {B B' : Nat} {w : World} (h : TabW B w) (hB : B ≤ B') : TabW B' w := fun w' hb => h w' (hb.mono hB)
set_option maxRecDepth 100000 in
set_option maxHeartbeats 4000000 in
theorem vAppBool (f : Bool) (w : World) :
    Calls Tryz.prog 120 #[.slice none 0 0, .bool f] w fun e w' => ∃ v, e = .returned v ∧ OwnB w' w.heap.size v (boolT f) ∧ Below w.heap.size w w' := by
  have key : Calls Tryz.prog 141 #[.slice none 0 0, .bool f] w fun e w' => ∃ v, e = .returned v ∧ OwnB w' w.heap.size v (boolT f) ∧ Below w.heap.size w w' := by
    obtain ⟨i, hi, hz, hs1, hb1⟩ := info_parts bytesE.info
    have own0 : w.ownsRow w.heap.size 5 1 (.slice none 0 0) 0 [] := World.ownsRow_nil _ _ _ _
    cases f
    all_goals
      go_enter Tryz.func141, Tryz.ntmps141
      go_wp2_with (at_builtin; refine Lib.wpList_append_own_string _ rfl _ _ _ _ rfl w.heap.size 5 i bytesE.slice Tryz.underlying9 hi hz hs1 hb1 _ _ _ rfl own0 _ rfl (by decide) (by decide) (Nat.le_refl _) ?_; intro v8 w8 own8 hg8 hn8)
      have hb8 : Below w.heap.size w w8 := (Below.refl _ _).grown hg8 (Nat.le_refl _) fun k hk => by cases hk
      have o8 := Lib.hid own8; have b8 := Lib.hid hb8
      clear own8 hg8 hn8 hb8
      go_wp2
      go_ret
      exact ⟨_, rfl, o8.out, b8.out⟩
  have HK := Lib.hid key
  clear key
  go_enter Tryz.func120, Tryz.ntmps120
  go_wp2_with fail
  refine HK.out.mono ?_
  rintro e w1 ⟨v, rfl, o1, b1⟩
  have O1 := Lib.hid o1; have B1 := Lib.hid b1
  clear o1 b1
  go_wp2
  go_ret
  exact ⟨_, rfl, O1.out, B1.out⟩
set_option maxRecDepth 100000 in
set_option maxHeartbeats 16000000 in
theorem vDName (f : Bool) (st : List Nat) (A : Option Addr) (n c : Nat) (hn : st.length = n) (hst : ∀ p ∈ st, p ≤ 1000000000) (hnl : n ≤ 100000) (w : World) (hr : RowT w 3 A n (st.map iv)) (hT : TabW w.heap.size w) :
    Calls Tryz.prog 106 #[.agg #[.slice A n c, .bool f]] w fun e w' => e = .returned (.string ⟨(nameT f st).toArray⟩) ∧ Below w.heap.size w w' := by
  obtain ⟨X, hX⟩ : ∃ X, X = w.alloc (.cells #[.slice A n c, .bool f] 70) := ⟨_, rfl⟩
  have hbX : Below w.heap.size w X := by rw [hX]; exact (Below.refl _ _).alloc (Nat.le_refl _) _
  have bX : Blk X w.heap.size 70 [.slice A n c, .bool f] := by rw [hX]; exact Blk.new w _ _
  have x0 : X.cell? ⟨w.heap.size, 0, none⟩ = some (.slice A n c) := bX.cell 0
  have x1 : X.cell? ⟨w.heap.size, 1, none⟩ = some (.bool f) := bX.cell 1
  have hv := vAppBool f X
  have hsX := hbX.size
  have HV := Lib.hid hv; have HB := Lib.hid hbX; have BX := Lib.hid bX; have Hn := Lib.hid hn; have Hst := Lib.hid hst; have HR := Lib.hid hr; have HT := Lib.hid hT
  clear hv hbX bX hn hst hr hT
  go_enter Tryz.func106, Tryz.ntmps106
  go_upto_region 1 with fail
  rw [← hX]
  clear hX
  go_wp2_with fail
  refine HV.out.mono ?_
  rintro e w1 ⟨v1, rfl, o1, b1⟩
  have hw1 := HB.out.trans (b1.mono hsX)
  have bX1 := BX.out.below b1 BX.out.lt
  have y0 : w1.cell? ⟨w.heap.size, 0, none⟩ = some (.slice A n c) := bX1.cell 0
  have hsz1 := hw1.size
  have O1 := Lib.hid (own_mono o1 hsX); have HW1 := Lib.hid hw1
  clear x0 x1 bX1 o1 b1 hw1 HV
  go_wp2
  go_loopw [3, 12] (fun v i wr => ∃ (j : Nat) (l : Bs), j ≤ n ∧ i = .int .i64 j ∧ Hid (l = nameT f (st.take j)) ∧ l.length ≤ 5 + 11 * j ∧ Hid (OwnB wr w.heap.size v l) ∧ Hid (Below w.heap.size w wr)) (fun _ i _ => n - (intOf i).toNat)
  case atStart => exact ⟨0, boolT f, Nat.zero_le _, rfl, Lib.hid (by simp [nameT, pcsT]), by cases f <;> decide, O1, HW1⟩
  case round =>
    obtain ⟨j, l, hj, rfl, hl, hll, hown, hbw⟩ := hrel
    obtain ⟨wo, rfl⟩ : ∃ wo : World, wo = wr := ⟨_, rfl⟩
    obtain ⟨A3, c3, rfl, -⟩ := own_form hown.out
    obtain ⟨n3, hn3⟩ : ∃ n3, l.length = n3 := ⟨_, rfl⟩
    have hso := hbw.out.size
    have wj1 : IntKind.i64.wrap ((j : Int) + 1) = ((j + 1 : Nat) : Int) := by rw [IntKind.wrap_i64]; omega
    by_cases hlt : j < n
    · have z1 : (j : Int) < (n : Int) := by omega
      obtain ⟨p, hp⟩ : ∃ p, st[j]? = some p := ⟨_, List.getElem?_eq_getElem (by rw [Hn.out]; exact hlt)⟩
      have hpl := Hst.out p (List.mem_of_getElem? hp)
      have hdl := dec_len hpl
      have hro := HR.out.below (hbw.out.mono (Nat.le_refl _))
      obtain ⟨b, off, rfl, hc⟩ := hro.at_ (k := j) (u := iv p) (by rw [List.getElem?_map, hp]; rfl)
      have hc : wo.cell? ⟨b, off + j, none⟩ = some (.int .i64 (p : Nat)) := hc
      have htk : nameT f (st.take (j + 1)) = (l ++ [32]) ++ Lib.decDigits p := by
        rw [List.take_add_one, hp, Option.toList_some, nameT, pcsT_snoc, hl.out, nameT]; simp
      obtain ⟨q, hq⟩ : ∃ q, (Lib.decDigits p).length = q := ⟨_, rfl⟩
      have hlen2 : (nameT f (st.take (j + 1))).length = n3 + 1 + q := by rw [htk, List.length_append, List.length_append, hn3, hq]; rfl
      rw [hn3] at hll
      rw [hq] at hdl
      rw [hn3] at hown ⊢
      have own3 : wo.ownsRow w.heap.size 5 1 (.slice A3 n3 c3) n3 (l.map bv) := by have := hown.out; rwa [OwnB, hn3] at this
      have Own3 := Lib.hid own3; have Hbw := Lib.hid hbw.out; have Htk := Lib.hid htk; have Hq := Lib.hid hq; have Hl2 := Lib.hid hlen2
      clear hown hbw hl htk hq hlen2 own3 hp hro hn3
      go_wp2_with (at_builtin; refine wpList_app _ rfl bytesE rfl rfl (Own3.out.alloc _) rfl (row_new wo _ [_]) (by simp [Value.oneCell']) (by first | omega | (simp; omega)) (by simp; omega) ?_; intro v8 w8 own8 hg8 hb8 hx8)
      have hb0 : Below w.heap.size w w8 := ((Hbw.out.alloc hso _).trans hb8)
      have hsz8 := hb0.size
      have own8' : w8.ownsRow w.heap.size 5 1 v8 (n3 + 1) ((l ++ [32]).map bv) := by rw [List.map_append]; exact own8
      have hai := Tryz.strconv_AppendInt_10 w.heap.size (n3 + 1) (p : Int) (by omega) (by omega) v8 _ w8 own8' hsz8 (by omega) (HT.out.on hb0)
      rw [itoa_nat, Hq.out] at hai
      have HA := Lib.hid hai; have B0 := Lib.hid hb0
      clear own8 own8' hg8 hb8 hx8 hb0 hai hc
      go_wp2_with fail
      refine HA.out.mono ?_
      rintro e w9 ⟨v9, rfl, own9, hb9, -⟩
      have hb19 := B0.out.trans hb9
      have own9' : OwnB w9 w.heap.size v9 (nameT f (st.take (j + 1))) := by
        rw [OwnB, Hl2.out, Htk.out, List.map_append]; exact own9
      have O9 := Lib.hid own9'; have B9 := Lib.hid hb19
      clear own9 own9' hb9 hb19 HA
      go_wp2
      go_roundw
      case rel => exact ⟨j + 1, _, by omega, by first | rfl | go_num, Lib.hid rfl, by rw [Hl2.out]; omega, O9, B9⟩
      case measure => simp [intOf]; omega
    · obtain rfl : j = n := by omega
      have z1 : ¬ (j : Int) < (j : Int) := by omega
      have hfin : l = nameT f st := by rw [hl.out, List.take_of_length_le (by rw [Hn.out]; exact Nat.le_refl _)]
      have hro : Bytes wo wo.heap.size A3 n3 l := by
        have h := hown.out
        unfold OwnB at h
        rw [hn3] at h
        exact Row.of_own h
      have hcv := run_str (c := c3) hro
      have Hf := Lib.hid hfin; have Hbw := Lib.hid hbw.out
      rw [hn3]
      clear hro hfin hown hbw hl hll hn3
      go_wp2
      go_ret
      exact ⟨by rw [Hf.out]; rfl, Hbw.out⟩
end Go.Proofs.YtmcacicopgckmaaGreatDoor

/-! dfa: a cache, and what calls leave of it -/
namespace Go.Proofs.YtmcacicopgckmaaGreatDoor
open Go.RowKit Garner
abbrev TC : List TypeId := [80, 129]
/-- a program whose runes lie where it does -/
theorem ProgIs.self {W0 w : World} {B : Nat} {L : Value} {g : Nat} {ins : List InstP} (h : ProgIs W0 B L w g ins) (hb : Below W0.heap.size W0 w) : ProgIs w B L w g ins := by
  obtain ⟨O, m, h3, ds, h4, h5, h6⟩ := h.ex
  exact ⟨⟨O, m, h3, ds, h4, h5, fun d hd => (h6 d hd).below hb⟩, h.nb⟩
theorem ProgIs.selfM {T : List TypeId} {w w' : World} {B : Nat} {L : Value} {g : Nat} {ins : List InstP} (h : ProgIs w B L w g ins) (hk : KeepM T w w') (h1 : 109 ∉ T) (h2 : 113 ∉ T) (h3 : 21 ∉ T) : ProgIs w' B L w' g ins := by
  obtain ⟨O, m, e3, ds, h4, h5, h6⟩ := h.ex
  exact ⟨⟨O, m, hk.blk e3 h1, ds, h4, hk.own h5 h2, fun d hd => (h6 d hd).keepM hk h3⟩, h.nb⟩
/-- where a cache's parts lie, and what they hold -/
structure CacheD where
  g : Nat
  A : Option Addr
  cs : Nat
  mN : Nat
  mE : Nat
  nN : Nat
  nE : Nat
  nm : Bs → Option Value
  ed : EdgeP → Option Value
  ds : List KeptD
/-- the blocks that a cache's calls write -/
def CacheD.S (d : CacheD) (c : Nat) : List Nat := c :: d.mN :: d.mE :: (match d.A with | some a => [a.block] | none => [])
theorem CacheD.S_own {d : CacheD} {c n k : Nat} (h : (Value.slice d.A n d.cs).ownBlock = some k) : k ∈ d.S c := by
  unfold CacheD.S
  cases hA : d.A with
  | none => rw [hA] at h; cases h
  | some a =>
    rw [hA] at h
    have : a.block = k := by simpa [Value.ownBlock] using h
    simp [this]
structure CacheIs (B0 : Nat) (w : World) (c : Nat) (t : Re) (lim : Nat) (d : CacheD) : Prop where
  blk : Blk w c 80 [.pointer (some ⟨d.g, 0, none⟩), .int .i64 lim, .slice d.A d.ds.length d.cs, .map (some d.mN), .map (some d.mE)]
  prog : ∃ B L, ProgIs w B L w d.g (progR t)
  good : GoodT t
  own : w.ownsRow B0 129 4 (.slice d.A d.ds.length d.cs) d.ds.length (d.ds.flatMap KeptD.cells)
  rows : ∀ x ∈ d.ds, RowT w 3 x.A x.p.pcs.length (x.p.pcs.map iv) ∧ PlainA x.A x.c
  mapN : MapF strK w d.mN d.nN d.nm
  mapE : MapF edgeK w d.mE d.nE d.ed
  ne : d.mN ≠ d.mE
  gc : GoodC (progR t) lim (d.ds.map (·.p)) d.nm d.ed
  few : d.nE ≤ 4096
  low : B0 ≤ c ∧ B0 ≤ d.mN ∧ B0 ≤ d.mE ∧ B0 ≤ w.heap.size
section
variable {B0 : Nat} {w w' : World} {c : Nat} {t : Re} {lim : Nat} {d : CacheD}
theorem CacheIs.mem (h : CacheIs B0 w c t lim d) : ∀ k ∈ d.S c, B0 ≤ k ∧ k < w.heap.size := fun k hk => by
  unfold CacheD.S at hk
  rcases List.mem_cons.1 hk with rfl | hk
  · exact ⟨h.low.1, h.blk.lt⟩
  rcases List.mem_cons.1 hk with rfl | hk
  · exact ⟨h.low.2.1, h.mapN.lt⟩
  rcases List.mem_cons.1 hk with rfl | hk
  · exact ⟨h.low.2.2.1, h.mapE.lt⟩
  cases hA : d.A with
  | none => rw [hA] at hk; cases hk
  | some a =>
    rw [hA] at hk
    rw [List.mem_singleton] at hk
    subst hk
    exact h.own.lt _ (by rw [hA]; simp [Value.ownBlock])
/-- what is written lies elsewhere -/
theorem CacheIs.other {S : List Nat} (h : CacheIs B0 w c t lim d) (hb : But S w w') (hk : KeepM TC w w') (hS : ∀ k ∈ d.S c, k ∉ S) : CacheIs B0 w' c t lim d := by
  have m1 : c ∈ d.S c := by simp [CacheD.S]
  have m2 : d.mN ∈ d.S c := by simp [CacheD.S]
  have m3 : d.mE ∈ d.S c := by simp [CacheD.S]
  obtain ⟨B, L, hp⟩ := h.prog
  exact ⟨h.blk.but hb (hS _ m1), ⟨B, L, hp.selfM hk (by decide) (by decide) (by decide)⟩, h.good, own_but h.own hb fun g hg => hS _ (CacheD.S_own hg), fun x hx => ⟨(h.rows x hx).1.keepM hk (by decide), (h.rows x hx).2⟩,
    h.mapN.of_block (hb.block _ h.mapN.lt (hS _ m2)), h.mapE.of_block (hb.block _ h.mapE.lt (hS _ m3)), h.ne, h.gc, h.few, h.low.1, h.low.2.1, h.low.2.2.1, Nat.le_trans h.low.2.2.2 hb.size⟩
theorem CacheIs.below (h : CacheIs B0 w c t lim d) (hb : Below w.heap.size w w') : CacheIs B0 w' c t lim d := h.other (S := []) (.of_below hb) (.of_below hb) (by simp)
end
/-- what a call of a cache's leaves -/
structure CStep (c : Nat) (w : World) (d : CacheD) (w' : World) (d' : CacheD) : Prop where
  but : But (d.S c) w w'
  keep : KeepM TC w w'
  sub : ∀ k ∈ d'.S c, k ∈ d.S c ∨ w.heap.size ≤ k
  more : ∀ (j : Nat) x, d.ds[j]? = some x → d'.ds[j]? = some x
section
variable {B0 : Nat} {w w' w2 : World} {c : Nat} {t : Re} {lim : Nat} {d d' d2 : CacheD}
theorem CStep.refl : CStep c w d w d := ⟨.refl _ _, .refl _ _, fun _ hk => .inl hk, fun _ _ h => h⟩
theorem CStep.of_below (hb : Below w.heap.size w w') : CStep c w d w' d := ⟨.of_below hb, .of_below hb, fun _ hk => .inl hk, fun _ _ h => h⟩
theorem CStep.trans (h : CStep c w d w' d') (k : CStep c w' d' w2 d2) : CStep c w d w2 d2 :=
  ⟨h.but.old k.but h.sub, h.keep.trans k.keep, fun x hx => by
    rcases k.sub x hx with hx | hx
    · exact h.sub x hx
    · exact .inr (Nat.le_trans h.but.size hx), fun j x hx => k.more j x (h.more j x hx)⟩
theorem CStep.low (h : CStep c w d w' d') (hc : CacheIs B0 w c t lim d) : Below B0 w w' := h.but.below hc.low.2.2.2 fun k hk => (hc.mem k hk).1
end
end Go.Proofs.YtmcacicopgckmaaGreatDoor

/-! nfa: Part -/
namespace Go.Proofs.YtmcacicopgckmaaGreatDoor
open Go.RowKit Garner
end Go.Proofs.YtmcacicopgckmaaGreatDoor

/-! layer 19: awake; text.Has, utf.Count; matchers that are none -/
namespace Go.Proofs.YtmcacicopgckmaaGreatDoor
open Go.RowKit Garner
end Go.Proofs.YtmcacicopgckmaaGreatDoor

/-! layer 19: what New answers, told as a pointer and a number; matchers that are asked again and again -/
namespace Garner
open Go
end Garner
namespace Go.Proofs.YtmcacicopgckmaaGreatDoor
open Go.RowKit Garner
/-- what New answers: a pointer and a number -/
def NewK (o : Except Nat Re) (p : Option Addr) (k : Nat) (w' : World) : Prop := match o with
  | .error n => p = none ∧ k = n ∧ 0 < n ∧ n ≤ 40
  | .ok t => k = 0 ∧ ∃ b, p = some ⟨b, 0, none⟩ ∧ MatIs w' b t
theorem NewK.below {o : Except Nat Re} {p : Option Addr} {k : Nat} {w w' : World} (h : NewK o p k w) (hb : Below w.heap.size w w') : NewK o p k w' := by
  cases o with
  | error n => exact h
  | ok t =>
    obtain ⟨h1, b, h2, h3⟩ := h
    exact ⟨h1, b, h2, h3.below hb⟩
theorem NewK.zero {o : Except Nat Re} {p : Option Addr} {k : Nat} {w : World} (h : NewK o p k w) (hk : k = 0) : ∃ t b, o = .ok t ∧ p = some ⟨b, 0, none⟩ ∧ MatIs w b t := by
  cases o with
  | error n =>
    obtain ⟨-, h1, h2, -⟩ := h
    omega
  | ok t =>
    obtain ⟨-, b, h2, h3⟩ := h
    exact ⟨t, b, rfl, h2, h3⟩
theorem NewK.pos {o : Except Nat Re} {p : Option Addr} {k : Nat} {w : World} (h : NewK o p k w) (hk : k ≠ 0) : o = .error k ∧ p = none := by
  cases o with
  | error n =>
    obtain ⟨h0, h1, h2, -⟩ := h
    exact ⟨by rw [h1], h0⟩
  | ok t => exact absurd h.1 hk
end Go.Proofs.YtmcacicopgckmaaGreatDoor

