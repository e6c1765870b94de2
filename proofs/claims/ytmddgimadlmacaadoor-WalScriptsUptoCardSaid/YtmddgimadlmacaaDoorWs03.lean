import Derived.Test.YtmddgimadlmacaaDoorWs01
/-! Plain functions of layer 15: manifests; no program in sight. -/
namespace Garner

structure Seg where
  id : Int
  count : Int
  mn : Int
  mx : Int
structure Man where
  wal : Int
  next : Int
  seq : Nat
  mark : Int
  segs : List Seg

def in64 (n : Int) : Prop := -9223372036854775808 ≤ n ∧ n ≤ 9223372036854775807
structure Seg.wf (s : Seg) : Prop where
  id : in64 s.id
  count : in64 s.count
  mn : in64 s.mn
  mx : in64 s.mx
structure Man.wf (m : Man) : Prop where
  wal : in64 m.wal
  next : in64 m.next
  seq : m.seq < 18446744073709551616
  mark : in64 m.mark
  segs : ∀ s ∈ m.segs, s.wf

/-- may a segment be, behind those numbers? -/
def segOk (next : Int) (seen : List Int) (s : Seg) : Prop := 1 ≤ s.id ∧ s.id < next ∧ s.id ∉ seen ∧ 1 ≤ s.count ∧ s.count ≤ 65536 ∧ s.mn ≤ s.mx
def segsOk (next : Int) : List Int → List Seg → Prop
  | _, [] => True
  | seen, s :: r => segOk next seen s ∧ segsOk next (seen ++ [s.id]) r
def may (m : Man) : Prop := 1 ≤ m.wal ∧ m.wal ≤ 1000000000 ∧ 1 ≤ m.next ∧ m.next ≤ 1000000000 ∧ m.segs.length ≤ 1024 ∧ segsOk m.next [] m.segs
instance decSegOk (next : Int) (seen : List Int) (s : Seg) : Decidable (segOk next seen s) := by unfold segOk; infer_instance
instance decSegsOk (next : Int) : ∀ (seen : List Int) (l : List Seg), Decidable (segsOk next seen l)
  | _, [] => .isTrue trivial
  | seen, s :: r => by unfold segsOk; have := decSegsOk next (seen ++ [s.id]) r; infer_instance
instance decMay (m : Man) : Decidable (may m) := by unfold may; infer_instance

def ids (l : List Seg) : List Int := l.map (·.id)
theorem segsOk_append (next : Int) : ∀ (a b : List Seg) (seen : List Int), segsOk next seen (a ++ b) ↔ segsOk next seen a ∧ segsOk next (seen ++ ids a) b
  | [], b, seen => by simp [segsOk, ids]
  | s :: a, b, seen => by
    simp only [List.cons_append, segsOk, segsOk_append next a b (seen ++ [s.id]), ids, List.map_cons, List.append_assoc, List.cons_append, List.nil_append, and_assoc]
/-- what a manifest's first so many segments say -/
theorem segsOk_step {next : Int} {l : List Seg} {k : Nat} (h : segsOk next [] (l.take k)) (hk : k < l.length) : segsOk next [] (l.take (k + 1)) ↔ segOk next (ids (l.take k)) l[k] := by
  rw [List.take_succ_eq_append_getElem hk, segsOk_append]
  simp only [List.nil_append, segsOk, and_true]
  exact ⟨fun h => h.2, fun h' => ⟨h, h'⟩⟩
theorem segsOk_take {next : Int} {l : List Seg} {k : Nat} (h : segsOk next [] l) : segsOk next [] (l.take k) := by
  rw [← List.take_append_drop k l, segsOk_append] at h
  exact h.1
theorem segsOk_of_not {next : Int} {l : List Seg} {k : Nat} (hk : k < l.length) (h : segsOk next [] (l.take k)) (hn : ¬ segOk next (ids (l.take k)) l[k]) : ¬ segsOk next [] l :=
  fun hl => hn ((segsOk_step h hk).1 (segsOk_take hl))

/-- a manifest's numbers -/
def segNums (s : Seg) : List Nat := [s.id.toNat, s.count.toNat, zig s.mn, zig s.mx]
def manNums (m : Man) : List Nat := m.wal.toNat :: m.next.toNat :: m.seq :: zig m.mark :: m.segs.length :: m.segs.flatMap segNums
def mwrite (m : Man) : Except Nat Bs := if may m then frame (vput (manNums m)) else .error 1

def firstMan : Man := { wal := 1, next := 1, seq := 1, mark := -9223372036854775808, segs := [] }
def smallMan : Man := { wal := 2, next := 3, seq := 9, mark := 5, segs := [{ id := 1, count := 4, mn := 10, mx := 20 }] }

theorem segsOk_wfs {next : Int} : ∀ (l : List Seg) (seen : List Int), segsOk next seen l → ∀ s ∈ l, 1 ≤ s.id ∧ s.id < next ∧ 1 ≤ s.count ∧ s.count ≤ 65536
  | [], _, _, s, hs => by cases hs
  | x :: r, seen, h, s, hs => by
    rcases List.mem_cons.1 hs with rfl | hs
    · exact ⟨h.1.1, h.1.2.1, h.1.2.2.2.1, h.1.2.2.2.2.1⟩
    · exact segsOk_wfs r _ h.2 s hs
theorem segNums_lt {s : Seg} (hw : s.wf) : ∀ n ∈ segNums s, n < 18446744073709551616 := by
  intro n hn
  have h1 := hw.id; have h2 := hw.count
  unfold in64 at h1 h2
  simp only [segNums, List.mem_cons, List.not_mem_nil, or_false] at hn
  rcases hn with rfl | rfl | rfl | rfl
  · omega
  · omega
  · exact zig_lt hw.mn.1 hw.mn.2
  · exact zig_lt hw.mx.1 hw.mx.2
theorem segsNums_lt {l : List Seg} (hw : ∀ s ∈ l, s.wf) : ∀ n ∈ l.flatMap segNums, n < 18446744073709551616 := by
  intro n hn
  obtain ⟨s, hs, hn⟩ := List.mem_flatMap.1 hn
  exact segNums_lt (hw s hs) n hn
theorem segsNums_len (l : List Seg) : (l.flatMap segNums).length = 4 * l.length := by
  induction l with
  | nil => rfl
  | cons s l ih => rw [List.flatMap_cons, List.length_append, ih, List.length_cons]; simp [segNums]; omega
theorem manNums_lt {m : Man} (hw : m.wf) (h : m.segs.length ≤ 1024) : ∀ n ∈ manNums m, n < 18446744073709551616 := by
  intro n hn
  have h1 := hw.wal; have h2 := hw.next
  unfold in64 at h1 h2
  simp only [manNums, List.mem_cons] at hn
  rcases hn with rfl | rfl | rfl | rfl | rfl | hn
  · omega
  · omega
  · exact hw.seq
  · exact zig_lt hw.mark.1 hw.mark.2
  · omega
  · exact segsNums_lt hw.segs n hn
/-- a number that an int may be -/
def smallN (n : Nat) : Int := if n ≤ 2147483647 then (n : Int) else 2147483647
def segsOf (g : Nat → Int) : List Nat → List Seg
  | a :: b :: c :: d :: r => { id := g a, count := g b, mn := zag c, mx := zag d } :: segsOf g r
  | _ => []
def manOf (g : Nat → Int) (ns : List Nat) : Man := { wal := g (ns[0]?.getD 0), next := g (ns[1]?.getD 0), seq := ns[2]?.getD 0, mark := zag (ns[3]?.getD 0), segs := segsOf g (ns.drop 5) }
def madeOk (ns : List Nat) : Prop := 5 ≤ ns.length ∧ ns[4]?.getD 0 = (ns.length - 5) / 4 ∧ ns.length % 4 = 1
theorem segsOf_take (g : Nat → Int) : ∀ (k : Nat) (l : List Nat), k * 4 + 4 ≤ l.length → segsOf g (l.take (k * 4 + 4)) = segsOf g (l.take (k * 4)) ++ [{ id := g (l[k * 4]?.getD 0), count := g (l[k * 4 + 1]?.getD 0), mn := zag (l[k * 4 + 2]?.getD 0), mx := zag (l[k * 4 + 3]?.getD 0) }]
  | 0, a :: b :: c :: d :: r, _ => rfl
  | k + 1, a :: b :: c :: d :: r, h => by
    have ih := segsOf_take g k r (by simp only [List.length_cons] at h; omega)
    rw [show (k + 1) * 4 + 4 = (k * 4 + 4) + 1 + 1 + 1 + 1 by omega, show (k + 1) * 4 = k * 4 + 1 + 1 + 1 + 1 by omega]
    simp only [List.take_succ_cons, segsOf, ih, List.cons_append]
    rfl
  | 0, [], h => by simp at h
  | 0, [_], h => by simp at h
  | 0, [_, _], h => by simp at h
  | 0, [_, _, _], h => by simp at h
  | k + 1, [], h => by simp at h
  | k + 1, [_], h => by simp at h
  | k + 1, [_, _], h => by simp at h
  | k + 1, [_, _, _], h => by simp at h
end Garner
