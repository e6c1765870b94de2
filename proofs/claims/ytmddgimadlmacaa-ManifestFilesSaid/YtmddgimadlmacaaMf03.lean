import Derived.Test.YtmddgimadlmacaaMf01
import Derived.Test.YtmddgimadlmacaaMf02
import Derived.StillTailTactics
import Derived.Deep.RegionHeld3
import Derived.Laws.RangeAny
/-! Plain functions of layer 15: manifests; no program in sight. -/
namespace Garner

structure Seg where
  id : Int
  count : Int
  mn : Int
  mx : Int
structure Man where
  wal : Int
  next : Int
  seq : Nat
  mark : Int
  segs : List Seg

def in64 (n : Int) : Prop := -9223372036854775808 ≤ n ∧ n ≤ 9223372036854775807
structure Seg.wf (s : Seg) : Prop where
  id : in64 s.id
  count : in64 s.count
  mn : in64 s.mn
  mx : in64 s.mx
structure Man.wf (m : Man) : Prop where
  wal : in64 m.wal
  next : in64 m.next
  seq : m.seq < 18446744073709551616
  mark : in64 m.mark
  segs : ∀ s ∈ m.segs, s.wf

/-- may a segment be, behind those numbers? -/
def segOk (next : Int) (seen : List Int) (s : Seg) : Prop := 1 ≤ s.id ∧ s.id < next ∧ s.id ∉ seen ∧ 1 ≤ s.count ∧ s.count ≤ 65536 ∧ s.mn ≤ s.mx
def segsOk (next : Int) : List Int → List Seg → Prop
  | _, [] => True
  | seen, s :: r => segOk next seen s ∧ segsOk next (seen ++ [s.id]) r
def may (m : Man) : Prop := 1 ≤ m.wal ∧ m.wal ≤ 1000000000 ∧ 1 ≤ m.next ∧ m.next ≤ 1000000000 ∧ m.segs.length ≤ 1024 ∧ segsOk m.next [] m.segs
instance decSegOk (next : Int) (seen : List Int) (s : Seg) : Decidable (segOk next seen s) := by unfold segOk; infer_instance
instance decSegsOk (next : Int) : ∀ (seen : List Int) (l : List Seg), Decidable (segsOk next seen l)
  | _, [] => .isTrue trivial
  | seen, s :: r => by unfold segsOk; have := decSegsOk next (seen ++ [s.id]) r; infer_instance
instance decMay (m : Man) : Decidable (may m) := by unfold may; infer_instance

def ids (l : List Seg) : List Int := l.map (·.id)
theorem segsOk_append (next : Int) : ∀ (a b : List Seg) (seen : List Int), segsOk next seen (a ++ b) ↔ segsOk next seen a ∧ segsOk next (seen ++ ids a) b
  | [], b, seen => by simp [segsOk, ids]
  | s :: a, b, seen => by
    simp only [List.cons_append, segsOk, segsOk_append next a b (seen ++ [s.id]), ids, List.map_cons, List.append_assoc, List.cons_append, List.nil_append, and_assoc]
/-- what a manifest's first so many segments say -/
theorem segsOk_step {next : Int} {l : List Seg} {k : Nat} (h : segsOk next [] (l.take k)) (hk : k < l.length) : segsOk next [] (l.take (k + 1)) ↔ segOk next (ids (l.take k)) l[k] := by
  rw [List.take_succ_eq_append_getElem hk, segsOk_append]
  simp only [List.nil_append, segsOk, and_true]
  exact ⟨fun h => h.2, fun h' => ⟨h, h'⟩⟩
theorem segsOk_take {next : Int} {l : List Seg} {k : Nat} (h : segsOk next [] l) : segsOk next [] (l.take k) := by
  rw [← List.take_append_drop k l, segsOk_append] at h
  exact h.1
theorem segsOk_of_not {next : Int} {l : List Seg} {k : Nat} (hk : k < l.length) (h : segsOk next [] (l.take k)) (hn : ¬ segOk next (ids (l.take k)) l[k]) : ¬ segsOk next [] l :=
  fun hl => hn ((segsOk_step h hk).1 (segsOk_take hl))

/-- a manifest's numbers -/
def segNums (s : Seg) : List Nat := [s.id.toNat, s.count.toNat, zig s.mn, zig s.mx]
def manNums (m : Man) : List Nat := m.wal.toNat :: m.next.toNat :: m.seq :: zig m.mark :: m.segs.length :: m.segs.flatMap segNums
def mwrite (m : Man) : Except Nat Bs := if may m then frame (vput (manNums m)) else .error 1

def firstMan : Man := { wal := 1, next := 1, seq := 1, mark := -9223372036854775808, segs := [] }
def smallMan : Man := { wal := 2, next := 3, seq := 9, mark := 5, segs := [{ id := 1, count := 4, mn := 10, mx := 20 }] }

theorem segsOk_wfs {next : Int} : ∀ (l : List Seg) (seen : List Int), segsOk next seen l → ∀ s ∈ l, 1 ≤ s.id ∧ s.id < next ∧ 1 ≤ s.count ∧ s.count ≤ 65536
  | [], _, _, s, hs => by cases hs
  | x :: r, seen, h, s, hs => by
    rcases List.mem_cons.1 hs with rfl | hs
    · exact ⟨h.1.1, h.1.2.1, h.1.2.2.2.1, h.1.2.2.2.2.1⟩
    · exact segsOk_wfs r _ h.2 s hs
theorem segNums_lt {s : Seg} (hw : s.wf) : ∀ n ∈ segNums s, n < 18446744073709551616 := by
  intro n hn
  have h1 := hw.id; have h2 := hw.count
  unfold in64 at h1 h2
  simp only [segNums, List.mem_cons, List.not_mem_nil, or_false] at hn
  rcases hn with rfl | rfl | rfl | rfl
  · omega
  · omega
  · exact zig_lt hw.mn.1 hw.mn.2
  · exact zig_lt hw.mx.1 hw.mx.2
theorem segsNums_lt {l : List Seg} (hw : ∀ s ∈ l, s.wf) : ∀ n ∈ l.flatMap segNums, n < 18446744073709551616 := by
  intro n hn
  obtain ⟨s, hs, hn⟩ := List.mem_flatMap.1 hn
  exact segNums_lt (hw s hs) n hn
theorem segsNums_len (l : List Seg) : (l.flatMap segNums).length = 4 * l.length := by
  induction l with
  | nil => rfl
  | cons s l ih => rw [List.flatMap_cons, List.length_append, ih, List.length_cons]; simp [segNums]; omega
theorem manNums_lt {m : Man} (hw : m.wf) (h : m.segs.length ≤ 1024) : ∀ n ∈ manNums m, n < 18446744073709551616 := by
  intro n hn
  have h1 := hw.wal; have h2 := hw.next
  unfold in64 at h1 h2
  simp only [manNums, List.mem_cons] at hn
  rcases hn with rfl | rfl | rfl | rfl | rfl | hn
  · omega
  · omega
  · exact hw.seq
  · exact zig_lt hw.mark.1 hw.mark.2
  · omega
  · exact segsNums_lt hw.segs n hn
/-- a number that an int may be -/
def smallN (n : Nat) : Int := if n ≤ 2147483647 then (n : Int) else 2147483647
def segsOf (g : Nat → Int) : List Nat → List Seg
  | a :: b :: c :: d :: r => { id := g a, count := g b, mn := zag c, mx := zag d } :: segsOf g r
  | _ => []
def manOf (g : Nat → Int) (ns : List Nat) : Man := { wal := g (ns[0]?.getD 0), next := g (ns[1]?.getD 0), seq := ns[2]?.getD 0, mark := zag (ns[3]?.getD 0), segs := segsOf g (ns.drop 5) }
def madeOk (ns : List Nat) : Prop := 5 ≤ ns.length ∧ ns[4]?.getD 0 = (ns.length - 5) / 4 ∧ ns.length % 4 = 1
theorem segsOf_take (g : Nat → Int) : ∀ (k : Nat) (l : List Nat), k * 4 + 4 ≤ l.length → segsOf g (l.take (k * 4 + 4)) = segsOf g (l.take (k * 4)) ++ [{ id := g (l[k * 4]?.getD 0), count := g (l[k * 4 + 1]?.getD 0), mn := zag (l[k * 4 + 2]?.getD 0), mx := zag (l[k * 4 + 3]?.getD 0) }]
  | 0, a :: b :: c :: d :: r, _ => rfl
  | k + 1, a :: b :: c :: d :: r, h => by
    have ih := segsOf_take g k r (by simp only [List.length_cons] at h; omega)
    rw [show (k + 1) * 4 + 4 = (k * 4 + 4) + 1 + 1 + 1 + 1 by omega, show (k + 1) * 4 = k * 4 + 1 + 1 + 1 + 1 by omega]
    simp only [List.take_succ_cons, segsOf, ih, List.cons_append]
    rfl
  | 0, [], h => by simp at h
  | 0, [_], h => by simp at h
  | 0, [_, _], h => by simp at h
  | 0, [_, _, _], h => by simp at h
  | k + 1, [], h => by simp at h
  | k + 1, [_], h => by simp at h
  | k + 1, [_, _], h => by simp at h
  | k + 1, [_, _, _], h => by simp at h
end Garner
namespace Go.Proofs.Ytmddgimadlmacaa
open Go.ChangeShapes Go.WideShapes Go.RowKit Garner

/-- bytes that came in -/
abbrev kBytes : Kind (Sl Int) := kSlice (kInt .u8) 1
theorem o_int : Opens Try.prog 3 (kInt .i64) := opens_int Try.underlying3 (by kernel_rfl)
theorem o_i64 : Opens Try.prog 2 (kInt .i64) := opens_int Try.underlying2 (by kernel_rfl)
theorem o_u64 : Opens Try.prog 22 (kInt .u64) := opens_int Try.underlying22 (by kernel_rfl)
theorem o_u8 : Opens Try.prog 5 (kInt .u8) := opens_int Try.underlying5 (by kernel_rfl)
theorem o_bytes : Opens Try.prog 26 kBytes := opens_slice o_u8 Try.underlying26 (by kernel_rfl) (by kernel_rfl) (by decide) (fun _ => rfl)
theorem o_bool : Opens Try.prog 4 kBool := opens_bool Try.underlying4 (by kernel_rfl)
theorem wf64 {n : Int} (h : (Lit.int .i64 n).wf = true) : in64 n := by simpa [in64, Lit.wf, IntKind.min, IntKind.max, IntKind.signed, IntKind.bits] using h
theorem wfu64 {n : Int} (h : (Lit.int .u64 n).wf = true) : ∃ k : Nat, n = k ∧ k < 18446744073709551616 := by
  have h1 : 0 ≤ n ∧ n ≤ 18446744073709551615 := by simpa [Lit.wf, IntKind.min, IntKind.max, IntKind.signed, IntKind.bits] using h
  exact ⟨n.toNat, by omega, by omega⟩
theorem wfu8 {n : Int} (h : (Lit.int .u8 n).wf = true) : 0 ≤ n ∧ n ≤ 255 := by simpa [Lit.wf, IntKind.min, IntKind.max, IntKind.signed, IntKind.bits] using h
/-- bytes that came in, as a list of bytes -/
theorem bytes_of {w : World} {B : Nat} {s : Sl Int} (h : kBytes.mem w B s) : ∃ l : Bs, l.length = s.l.length ∧ Bytes w B s.A l.length l ∧ l.length ≤ s.c ∧ s.c ≤ 140737488351232 := by
  have hr := h.row
  refine ⟨s.l.map fun n => UInt8.ofNat n.toNat, by simp, ?_, by simpa using h.cap, by have := h.room; simp only [reachBytes] at this; omega⟩
  have e : (s.l.map fun n => UInt8.ofNat n.toNat).map bv = s.l.flatMap (kInt .u8).cells := by
    rw [List.map_map]
    have h2 : ∀ (l : List Int), (∀ n ∈ l, 0 ≤ n ∧ n ≤ 255) → l.map (bv ∘ fun n => UInt8.ofNat n.toNat) = l.flatMap (kInt .u8).cells := by
      intro l
      induction l with
      | nil => intro _; rfl
      | cons n l ih =>
        intro hl
        have hn := hl n (by simp)
        have e1 : ((UInt8.ofNat n.toNat).toNat : Int) = n := by rw [ofNat_toNat (by omega)]; omega
        simp only [List.map_cons, List.flatMap_cons, ih fun m hm => hl m (by simp [hm]), Function.comp_apply, bv, kInt, e1]
        rfl
    exact h2 s.l fun n hn => wfu8 (h.all n hn)
  show Row w B 1 s.A _ _
  rw [e, List.length_map]
  exact hr
end Go.Proofs.Ytmddgimadlmacaa
/-
  Blocks that are known whole; rows of the call's own, written out.
-/
namespace Go.Proofs.Ytmddgimadlmacaa
open Go.RowKit Garner

theorem step_app {P : Program} (w : World) {ops : Array Oper} {o : Oper} {a : Act} {K : Act → World → Prop} {Q : Exit → Act → World → Prop} {E0 : Prop} (hgd : o.guard = none) {s x : Operand} {t e : TypeId} {z : Value} {size bytes : Nat} (E : Elem P t e z size bytes)
    (ho : o.op = .call { callee := .builtin .append, args := #[s, x], argTypes := #[t, t] }) {base : Nat}
    {v : Value} {n : Nat} {xs : List Value} (hs : a.eval s = v) (hown : w.ownsRow base e size v n xs)
    {B : Nat} {A : Option Addr} {m m' c : Nat} {news : List Value} (hx : a.eval x = .slice A m c) (hr : Row w B size A m' news) (h1 : ∀ u ∈ news, u.oneCell' = true)
    (hbytes : (n + m') * bytes ≤ 140737488355328) (hbase : base ≤ w.heap.size)
    (h : ∀ v' w', w'.ownsRow base e size v' (n + m') (xs ++ news) → w.grownBy w' v.ownBlock → Below base w w' → (v'.ownBlock = v.ownBlock ∨ v'.ownBlock = some w.heap.size) → K (a.put o.dst v') w') (hm : m' = m := by first | rfl | omega) :
    if Region.wanted o (yielded ops a.tmps) = true then Oper.wp P o a w K Q else E0 := by
  subst hm
  have hw : Region.wanted o (yielded ops a.tmps) = true := by simp [Region.wanted, hgd]
  rw [if_pos hw]
  exact wp_app w E ho hs hown hx hr h1 hbytes hbase h

/-- a block known whole -/
def Blk (w : World) (g : Nat) (t : TypeId) (cs : List Value) : Prop := w.heap[g]? = some (.cells cs.toArray t (0, 0))
theorem Blk.lt {w : World} {g : Nat} {t : TypeId} {cs : List Value} (h : Blk w g t cs) : g < w.heap.size := (Array.getElem?_eq_some_iff.1 h).1
theorem Blk.new (w : World) (t : TypeId) (cs : List Value) : Blk (w.alloc (.cells cs.toArray t)) w.heap.size t cs := heap_alloc_new w _
theorem Blk.drew {w : World} {g : Nat} {t : TypeId} {cs : List Value} (h : Blk w g t cs) : Blk w.drew g t cs := h
theorem Blk.drewN {w : World} {g : Nat} {t : TypeId} {cs : List Value} (h : Blk w g t cs) (n : Nat) : Blk (w.drewN n) g t cs := h
theorem Blk.alloc {w : World} {g : Nat} {t : TypeId} {cs : List Value} (h : Blk w g t cs) (o : Obj) : Blk (w.alloc o) g t cs := (Below.heap_alloc w o g h.lt).trans h
theorem Blk.below {w w' : World} {g B : Nat} {t : TypeId} {cs : List Value} (h : Blk w g t cs) (hb : Below B w w') (hg : g < B) : Blk w' g t cs := (hb.block g hg).trans h
theorem Blk.grown {w w' : World} {g : Nat} {t : TypeId} {cs : List Value} (h : Blk w g t cs) {row : Option Nat} (hb : w.grownBy w' row) (hne : some g ≠ row) : Blk w' g t cs := (hb.block g h.lt hne).trans h
theorem Blk.cell {w : World} {g : Nat} {t : TypeId} {cs : List Value} (h : Blk w g t cs) (i : Nat) : w.cell? ⟨g, i, none⟩ = cs[i]? := by
  unfold Blk at h; simp [World.cell?, h]

theorem row_newN (w : World) (t : TypeId) (sz n : Nat) (l : List Value) (h : l.length = n * sz) : Row (w.alloc (.cells l.toArray t)) (w.heap.size + 1) sz (some ⟨w.heap.size, 0, none⟩) n l := by
  refine ⟨h, fun _ => ⟨w.heap.size, 0, rfl, by omega, fun j u hu => ?_⟩⟩
  rw [cell_new _ _ _ _ _ rfl]
  simpa using hu
theorem Blk.frozen {w : World} {g : Nat} {t : TypeId} {cs : List Value} (h : Blk w g t cs) (i : Nat) : w.frozen? ⟨g, i, none⟩ = false := by
  unfold Blk at h; simp [World.frozen?, h]
theorem Blk.set_ {w : World} {g : Nat} {t : TypeId} {cs : List Value} (h : Blk w g t cs) (i : Nat) (u : Value) : Blk (w.setCell ⟨g, i, none⟩ u) g t (cs.set i u) := by
  unfold Blk at h ⊢
  simp [World.setCell, Array.getElem?_modify, h]
theorem own_slice {w : World} {B : Nat} {e : TypeId} {sz n : Nat} {v : Value} {xs : List Value} (h : w.ownsRow B e sz v n xs) : ∃ A c, v = .slice A n c := by
  rcases h.2 with ⟨rfl, h0⟩ | ⟨g, cap, cur, rfl, _⟩
  · exact ⟨none, 0, by rw [h0]⟩
  · exact ⟨_, _, rfl⟩
theorem OwnB.shapeC {w : World} {B : Nat} {v : Value} {l : List UInt8} (h : OwnB w B v l) : ∃ A c, v = .slice A l.length c ∧ l.length ≤ c ∧ Bytes w w.heap.size A l.length l := by
  rcases h.2 with ⟨rfl, h0⟩ | ⟨g, cap, cur, rfl, _, _, hc, _⟩
  · rw [h0]; exact ⟨none, 0, rfl, by omega, by rw [List.eq_nil_of_length_eq_zero h0]; exact Row.none_⟩
  · exact ⟨_, _, rfl, hc, Row.of_own h⟩
end Go.Proofs.Ytmddgimadlmacaa
/-
  Slices of slices of bytes, and slices of bools, as plain data.
-/
namespace Go.Proofs.Ytmddgimadlmacaa
open Go.ChangeShapes Go.WideShapes Go.RowKit Garner

/-- bytes, and where they lie -/
structure ByS where
  A : Option Addr
  c : Nat
  data : Bs
def ByS.v (p : ByS) : Value := .slice p.A p.data.length p.c
structure ByOk (w : World) (B : Nat) (p : ByS) : Prop where
  row : Bytes w B p.A p.data.length p.data
  cap : p.data.length ≤ p.c
  room : p.c ≤ 140737488351232
structure Pieces (w : World) (B : Nat) (A : Option Addr) (ps : List ByS) : Prop where
  row : Row w B 1 A ps.length (ps.map ByS.v)
  all : ∀ p ∈ ps, ByOk w B p
theorem Pieces.below {w w' : World} {B : Nat} {A : Option Addr} {ps : List ByS} (h : Pieces w B A ps) (hb : Below B w w') : Pieces w' B A ps :=
  ⟨h.row.below hb, fun p hp => ⟨(h.all p hp).row.below hb, (h.all p hp).cap, (h.all p hp).room⟩⟩
abbrev kBytess : Kind (Sl (Sl Int)) := kSlice kBytes 24
theorem o_bytess : Opens Try.prog 38 kBytess := opens_slice o_bytes Try.underlying38 (by kernel_rfl) (by kernel_rfl) (by decide) (fun _ => rfl)
def sumLen (ps : List ByS) : Nat := (ps.map fun p => p.data.length).sum
theorem pieces_list {w : World} {B : Nat} : ∀ (l : List (Sl Int)), (∀ s ∈ l, kBytes.mem w B s) → ∃ ps : List ByS, ps.map ByS.v = l.flatMap kBytes.cells ∧ ps.length = l.length ∧ (∀ p ∈ ps, ByOk w B p) ∧ sumLen ps + ps.length ≤ (l.map kBytes.bulk).sum
  | [], _ => ⟨[], rfl, rfl, by simp, by simp [sumLen]⟩
  | s :: l, h => by
    obtain ⟨ps, h1, h2, h3, h4⟩ := pieces_list l fun x hx => h x (by simp [hx])
    obtain ⟨d, e1, e2, e3, e4⟩ := bytes_of (h s (by simp))
    refine ⟨⟨s.A, s.c, d⟩ :: ps, ?_, by simp [h2], ?_, ?_⟩
    · rw [List.map_cons, h1, List.flatMap_cons]
      simp only [ByS.v, e1]
      rfl
    · intro p hp
      rcases List.mem_cons.1 hp with rfl | hp
      · exact ⟨e2, e3, e4⟩
      · exact h3 p hp
    · have hb : kBytes.bulk s = s.l.length + 1 := by
        show (s.l.map (kInt .u8).bulk).sum + 1 = _
        have : s.l.map (kInt .u8).bulk = List.replicate s.l.length 1 := by simp only [kInt]; rw [List.map_const']
        rw [this]; simp
      unfold sumLen at h4 ⊢
      simp only [List.map_cons, List.sum_cons, List.length_cons, hb, e1]
      omega
theorem pieces_of {w : World} {B : Nat} {s : Sl (Sl Int)} (h : kBytess.mem w B s) : ∃ ps : List ByS, ps.length = s.l.length ∧ Pieces w B s.A ps ∧ ps.length ≤ s.c ∧ sumLen ps + ps.length ≤ kBytess.bulk s := by
  obtain ⟨ps, h1, h2, h3, h4⟩ := pieces_list s.l h.all
  refine ⟨ps, h2, ⟨?_, h3⟩, by rw [h2]; exact h.cap, by show _ ≤ (s.l.map kBytes.bulk).sum + 1; omega⟩
  rw [h1, h2]; exact h.row
abbrev kBools : Kind (Sl Bool) := kSlice kBool 1
theorem o_bools : Opens Try.prog 39 kBools := opens_slice o_bool Try.underlying39 (by kernel_rfl) (by kernel_rfl) (by decide) (fun _ => rfl)
theorem bools_of {w : World} {B : Nat} {s : Sl Bool} (h : kBools.mem w B s) : Row w B 1 s.A s.l.length (s.l.map Value.bool) ∧ s.l.length ≤ s.c ∧ s.c ≤ 140737488351232 := by
  have hr := h.row
  have e : s.l.flatMap kBool.cells = s.l.map Value.bool := by
    induction s.l with
    | nil => rfl
    | cons b l ih => rw [List.flatMap_cons, List.map_cons, ih]; rfl
  rw [e] at hr
  exact ⟨hr, h.cap, by have := h.room; simp only [reachBytes] at this; omega⟩
abbrev kInts : Kind (Sl Int) := kSlice (kInt .i64) 8
theorem o_ints : Opens Try.prog 61 kInts := opens_slice o_int Try.underlying61 (by kernel_rfl) (by kernel_rfl) (by decide) (fun _ => rfl)
theorem ints_of {w : World} {B : Nat} {s : Sl Int} (h : kInts.mem w B s) : Row w B 1 s.A s.l.length (s.l.map (Value.int .i64)) ∧ s.l.length ≤ s.c ∧ s.c * 8 ≤ 140737488351232 ∧ ∀ k ∈ s.l, in64 k := by
  have hr := h.row
  have e : s.l.flatMap (kInt .i64).cells = s.l.map (Value.int .i64) := by
    induction s.l with
    | nil => rfl
    | cons b l ih => rw [List.flatMap_cons, List.map_cons, ih]; rfl
  rw [e] at hr
  exact ⟨hr, h.cap, h.room, fun k hk => wf64 (h.all k hk)⟩
/-- one piece -/
theorem Pieces.at_ {w : World} {B : Nat} {A : Option Addr} {ps : List ByS} (h : Pieces w B A ps) {k : Nat} (hk : k < ps.length) : ∃ b off, A = some ⟨b, off, none⟩ ∧ b < B ∧ w.cell? ⟨b, off + k, none⟩ = some (.slice ps[k].A ps[k].data.length ps[k].c) := by
  obtain ⟨b, off, e, hb, hc⟩ := h.row.at_ hk
  refine ⟨b, off, e, hb, ?_⟩
  rw [hc k (by simpa using hk)]
  simp [ByS.v]
def catN (ps : List ByS) (k : Nat) : Bs := (ps.take k).flatMap (·.data)
theorem catN_zero (ps : List ByS) : catN ps 0 = [] := rfl
theorem catN_succ {ps : List ByS} {k : Nat} (hk : k < ps.length) : catN ps (k + 1) = catN ps k ++ ps[k].data := by
  unfold catN; rw [List.take_succ_eq_append_getElem hk, List.flatMap_append]; simp
theorem catN_len (ps : List ByS) (k : Nat) : (catN ps k).length ≤ sumLen ps := by
  unfold catN sumLen
  induction ps generalizing k with
  | nil => simp
  | cons p ps ih =>
    cases k with
    | zero => simp
    | succ k =>
      have := ih k
      simp only [List.take_succ_cons, List.flatMap_cons, List.length_append, List.map_cons, List.sum_cons]
      omega
theorem len_le_sum {ps : List ByS} {k : Nat} (hk : k < ps.length) : (catN ps k).length + ps[k].data.length ≤ sumLen ps := by
  have := catN_len ps (k + 1)
  rw [catN_succ hk, List.length_append] at this
  exact this
end Go.Proofs.Ytmddgimadlmacaa
namespace Garner
open Go
theorem dec_pos (s : ByteArray) (pos : Nat) (h : pos < s.size) : 1 ≤ (Utf8.decode s pos).2 := by
  by_cases ha : (s[pos]'h).toNat < 128
  · rw [decode_ascii s pos h ha]; omega
  · exact (decode_high s pos h (by omega)).2
/-- a rune that a file's name may hold -/
def runeOk (r : Nat) : Prop := r = 46 ∨ r = 45 ∨ (48 ≤ r ∧ r ≤ 57) ∨ (97 ≤ r ∧ r ≤ 122)
instance (r : Nat) : Decidable (runeOk r) := by unfold runeOk; infer_instance
def runesOk : Nat → ByteArray → Nat → Bool
  | 0, _, _ => true
  | f + 1, s, pos => if pos < s.size then decide (runeOk (Utf8.decode s pos).1) && runesOk f s (pos + (Utf8.decode s pos).2) else true
theorem runesOk_fuel : ∀ (f g : Nat) (s : ByteArray) (pos : Nat), s.size - pos ≤ f → s.size - pos ≤ g → runesOk f s pos = runesOk g s pos
  | 0, 0, _, _, _, _ => rfl
  | 0, g + 1, s, pos, h, _ => by rw [runesOk, runesOk, if_neg (by omega)]
  | f + 1, 0, s, pos, _, h => by rw [runesOk, runesOk, if_neg (by omega)]
  | f + 1, g + 1, s, pos, h1, h2 => by
    rw [runesOk, runesOk]
    split
    · rename_i hlt
      have := dec_pos s pos hlt
      rw [runesOk_fuel f g s _ (by omega) (by omega)]
    · rfl
def nameOk (s : ByteArray) : Bool := decide (1 ≤ s.size ∧ s.size ≤ 32) && runesOk s.size s 0
theorem runes_end {s : ByteArray} {pos : Nat} (h : ¬ pos < s.size) : runesOk s.size s pos = true := by
  cases hf : s.size with
  | zero => rfl
  | succ n => rw [runesOk, if_neg h]
theorem runes_step {s : ByteArray} {pos : Nat} (h : pos < s.size) : runesOk s.size s pos = (decide (runeOk (Utf8.decode s pos).1) && runesOk s.size s (pos + (Utf8.decode s pos).2)) := by
  have hp := dec_pos s pos h
  rw [runesOk_fuel s.size (s.size + 1) s pos (by omega) (by omega), runesOk, if_pos h]
end Garner
namespace Go.Proofs.Ytmddgimadlmacaa
open Go.RowKit Garner

set_option maxRecDepth 100000 in
set_option maxHeartbeats 4000000 in
theorem vName (s : ByteArray) (w : World) : Calls Try.prog 82 #[.string s] w fun e w' => e = .returned (.bool (nameOk s)) ∧ Below w.heap.size w w' := by
  by_cases h1 : (s.size : Int) < 1
  · have hn : nameOk s = false := by unfold nameOk; rw [decide_eq_false (by omega)]; rfl
    go_enter Try.func82, Try.ntmps82
    go_wp2
    go_ret
    (try rw [hn]); exact ⟨rfl, Below.refl _ _⟩
  · by_cases h2 : (32 : Int) < s.size
    · have hn : nameOk s = false := by unfold nameOk; rw [decide_eq_false (by omega)]; rfl
      go_enter Try.func82, Try.ntmps82
      go_wp2
      go_ret
      (try rw [hn]); exact ⟨rfl, Below.refl _ _⟩
    · have hn : nameOk s = runesOk s.size s 0 := by unfold nameOk; rw [decide_eq_true (by omega)]; rfl
      have Hn := Lib.hid hn; clear hn
      go_enter Try.func82, Try.ntmps82
      go_wp2_with fail
      go_loopw [4] (fun _ wr => ∃ pos : Nat, wr = w.iter s pos ∧ Hid (runesOk s.size s 0 = runesOk s.size s pos)) (fun _ wr => s.size - wr.iterPos w.heap.size)
      case atStart => exact ⟨0, rfl, rfl⟩
      case round =>
        obtain ⟨pos, rfl, hr⟩ := hrel
        by_cases hlt : pos < s.size
        · have hnx := run_next_any (P := Try.prog) w s pos
          have hst := runes_step hlt
          have hps := dec_pos s pos hlt
          have hle := decode_le s pos
          generalize hd : (Utf8.decode s pos).1 = r at *
          generalize hd2 : (Utf8.decode s pos).2 = wd at *
          have Hst := Lib.hid hst; clear hst hd hd2
          have hnx' := fun ty => hnx ty hlt
          clear hnx
          have hle' : (r : Int) ≤ 2147483647 := by omega
          by_cases hok : runeOk r
          · have hgo : Hid (runesOk s.size s 0 = runesOk s.size s (pos + wd)) := by
              show _ = _
              rw [hr.out, Hst.out, decide_eq_true hok]; rfl
            rcases hok with rfl | rfl | ⟨a1, a2⟩ | ⟨a1, a2⟩
            all_goals
              go_wp2
              all_goals
                go_roundw
                case rel => exact ⟨pos + wd, rfl, hgo⟩
                case measure => simp; omega
          · have hno : Hid (runesOk s.size s 0 = false) := by
              show _ = _
              rw [hr.out, Hst.out, decide_eq_false hok]; rfl
            have b1 : (r : Int) ≠ 46 := fun h => hok (.inl (by omega))
            have b2 : (r : Int) ≠ 45 := fun h => hok (.inr (.inl (by omega)))
            have b3 : ¬ (48 ≤ (r : Int) ∧ (r : Int) ≤ 57) := fun h => hok (.inr (.inr (.inl (by omega))))
            have b4 : ¬ (97 ≤ (r : Int) ∧ (r : Int) ≤ 122) := fun h => hok (.inr (.inr (.inr (by omega))))
            clear hok
            have b5 : (r : Int) < 48 ∨ 57 < (r : Int) := by omega
            have b6 : (r : Int) < 97 ∨ 122 < (r : Int) := by omega
            clear b3 b4
            have b7 : ((r : Int) != 46) = true := by rw [bne_iff_ne]; exact b1
            have b8 : ((r : Int) != 45) = true := by rw [bne_iff_ne]; exact b2
            rcases b5 with b5 | b5 <;> rcases b6 with b6 | b6
            all_goals
              first
                | (exfalso; omega)
                | (go_wp2
                   all_goals
                     first
                       | (go_ret
                          rw [Hn.out, hno.out]
                          exact ⟨rfl, (Below.refl _ _).alloc (Nat.le_refl _) _⟩)
                       | (exfalso; omega)
                       | (exfalso; simp at *; omega))
        · have hnx := fun ty => run_next_end (P := Try.prog) w s pos ty hlt
          have hend := runes_end hlt
          go_wp2
          go_ret
          rw [Hn.out, hr.out, hend]
          exact ⟨rfl, (Below.refl _ _).alloc (Nat.le_refl _) _⟩
end Go.Proofs.Ytmddgimadlmacaa
