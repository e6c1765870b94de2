import Derived.Test.YtmcacicopgckmaaGreatDoorProg
import Derived.Test.YtmcacicopgckmaaGreatDoorLs01
import Derived.WalkKit
import Derived.WalkSpells
import Derived.WalkLawsBesides
import Derived.WalkSmall
import Derived.Maps.AppendAt
import Derived.Deep.AppendLies
import Derived.Deep.Draws
import Derived.Lib.Hide
/-
  Words for memory that the walks of this seat share: a slice that reads as a list (nil let in), a row of the call's own, append onto it.
-/
namespace Go.Proofs.YtmcacicopgckmaaGreatDoor
open Go.RowKit Garner

/-- A slice's cells: n elements of sz cells each; where there is one, they lie from ⟨b, off⟩ on, in a block below B. -/
def Row (w : World) (B sz : Nat) (A : Option Addr) (n : Nat) (xs : List Value) : Prop :=
  xs.length = n * sz ∧ (0 < n → ∃ b off, A = some ⟨b, off, none⟩ ∧ b < B ∧ ∀ j u, xs[j]? = some u → w.cell? ⟨b, off + j, none⟩ = some u)

section
variable {w w' : World} {B B' sz n : Nat} {A : Option Addr} {xs : List Value}
theorem Row.none_ : Row w B sz A 0 [] := ⟨by simp, fun h => absurd h (by omega)⟩
theorem Row.len (h : Row w B 1 A n xs) : xs.length = n := by have := h.1; omega
theorem Row.at_ {k : Nat} (h : Row w B 1 A n xs) (hk : k < n) : ∃ b off, A = some ⟨b, off, none⟩ ∧ b < B ∧ ∀ j (hj : j < xs.length), w.cell? ⟨b, off + j, none⟩ = some xs[j] := by
  obtain ⟨b, off, e, hb, hc⟩ := h.2 (by omega)
  exact ⟨b, off, e, hb, fun j hj => hc j _ (List.getElem?_eq_getElem hj)⟩
theorem Row.keep (h : Row w B sz A n xs) (hk : ∀ p : Addr, p.block < B → w'.cell? p = w.cell? p) : Row w' B sz A n xs :=
  ⟨h.1, fun hn => by
    obtain ⟨b, off, e, hb, hc⟩ := h.2 hn
    exact ⟨b, off, e, hb, fun j u hu => (hk ⟨b, off + j, none⟩ hb).trans (hc j u hu)⟩⟩
theorem Row.more (h : Row w B sz A n xs) (hB : B ≤ B') : Row w B' sz A n xs :=
  ⟨h.1, fun hn => by
    obtain ⟨b, off, e, hb, hc⟩ := h.2 hn
    exact ⟨b, off, e, by omega, hc⟩⟩
theorem Row.below (h : Row w B sz A n xs) (hb : Below B w w') : Row w' B sz A n xs := h.keep fun _ hp => hb.cell hp
theorem Row.drew (h : Row w B sz A n xs) : Row w.drew B sz A n xs := h
theorem Row.alloc (h : Row w B sz A n xs) (hB : B ≤ w.heap.size) (o : Obj) : Row (w.alloc o) B sz A n xs := h.keep fun p hp => World.cell?_alloc_lt w o p (by omega)
theorem Row.cut {lo hi : Nat} (h : Row w B 1 A n xs) (h1 : lo ≤ hi) (h2 : hi ≤ n) {b off : Nat} (e : A = some ⟨b, off, none⟩) : Row w B 1 (some ⟨b, off + lo, none⟩) (hi - lo) ((xs.drop lo).take (hi - lo)) := by
  refine ⟨by rw [List.length_take, List.length_drop, h.1]; omega, fun hn => ?_⟩
  obtain ⟨b', off', e', hb, hc⟩ := h.2 (by omega)
  rw [e] at e'
  simp only [Option.some.injEq, Addr.mk.injEq, and_true] at e'
  obtain ⟨rfl, rfl⟩ := e'
  refine ⟨b, off + lo, rfl, hb, fun j u hu => ?_⟩
  rw [Nat.add_assoc]
  refine hc _ u ?_
  rw [List.getElem?_take] at hu
  split at hu
  · rwa [List.getElem?_drop] at hu
  · cases hu
theorem addr_add (b off k : Nat) : (⟨b, off, none⟩ : Addr).add k = ⟨b, off + k, none⟩ := by unfold Addr.add; split <;> simp_all
theorem Row.of_own {base : Nat} {e : TypeId} {c : Nat} (h : w.ownsRow base e sz (.slice A n c) n xs) : Row w w.heap.size sz A n xs := by
  refine ⟨h.1, fun hn => ?_⟩
  obtain ⟨g, cap, hv, _, hlt⟩ := h.form hn
  have hA : A = some ⟨g, 0, none⟩ := by injection hv
  subst hA
  refine ⟨g, 0, rfl, hlt, fun j u hu => ?_⟩
  have := h.cells (g := g) rfl j u hu
  rwa [addr_add] at this
end

/-- What the table says of a slice's type t and its elements' type e. -/
structure Elem (P : Program) (t e : TypeId) (z : Value) (size bytes : Nat) : Prop where
  slice : P.underlying t = some (.slice e)
  info : (P.info? e).map (fun i => (i.zero, i.size, i.bytes)) = some (some z, size, bytes)
  zcells : z.cells.size = size
  pos : 0 < size
  bpos : 0 < bytes

section
variable {P : Program} (w : World)

theorem run_append_of_nil (base : Nat) (t ty e : TypeId) (i : TypeInfo) (size : Nat) (ht : P.underlying t = some (.slice e)) (hi : P.info? e = some i)
    (v : Value) (n : Nat) (xs : List Value) (hown : w.ownsRow base e size v n xs) (A : Option Addr) (c : Nat) (hA : A = none) : (Builtin.append_ #[t, t] ty #[v, .slice A 0 c]).run P w = .ok v w := by
  subst hA
  rcases hown.2 with ⟨rfl, rfl⟩ | ⟨g, cap, cur, rfl, _, _, hnc, _⟩
  · simp [Builtin.append_, run_underlying ht, sizeOf, typeInfo, hi, Builtin.lenOf, Builtin.firstCells]
  · simp [Builtin.append_, run_underlying ht, sizeOf, typeInfo, hi, Builtin.lenOf, Builtin.firstCells, hnc, storeCells]

/-- append onto a row of the call's own, from whatever source. -/
theorem run_app {t e : TypeId} {z : Value} {size bytes : Nat} (E : Elem P t e z size bytes) (ty : TypeId) {base : Nat}
    {v : Value} {n : Nat} {xs : List Value} (hown : w.ownsRow base e size v n xs)
    {B : Nat} {A : Option Addr} {m c : Nat} {news : List Value} (hr : Row w B size A m news) (h1 : ∀ u ∈ news, u.oneCell' = true)
    (hbytes : (n + m) * bytes ≤ 140737488355328) (hbase : base ≤ w.heap.size) :
    ∃ v' w', (Builtin.append_ #[t, t] ty #[v, .slice A m c]).run P w = .ok v' w' ∧ w'.ownsRow base e size v' (n + m) (xs ++ news) ∧ w.grownBy w' v.ownBlock ∧ Below base w w' ∧
      (v'.ownBlock = v.ownBlock ∨ v'.ownBlock = some w.heap.size) := by
  obtain ⟨i, hi, hz, hsize, hby⟩ := info_parts E.info
  have h63 : n + m ≤ maxLen := by
    have := Nat.mul_le_mul_left (n + m) E.bpos
    simp only [maxLen]; omega
  have fin : ∀ w', w.grownBy w' v.ownBlock → Below base w w' := fun w' hg => (Below.refl base w).grown hg hbase fun k hk => (hown.lt k hk).1
  have key : ∀ ad : Addr, A = some ad → (∀ j u, news[j]? = some u → w.cell? (ad.add j) = some u) → ∃ v' w', (Builtin.append_ #[t, t] ty #[v, .slice A m c]).run P w = .ok v' w' ∧ w'.ownsRow base e size v' (n + m) (xs ++ news) ∧ w.grownBy w' v.ownBlock ∧ Below base w w' ∧
      (v'.ownBlock = v.ownBlock ∨ v'.ownBlock = some w.heap.size) := by
    rintro ad rfl hcells
    obtain ⟨v', w', hrun, h2, h3, _, h5⟩ := run_append_own_at (P := P) w base t ty e i z size bytes E.slice hi hz hsize hby E.zcells E.pos v n xs hown ad m c news hr.1 hcells h1 h63 hbytes hbase
    exact ⟨v', w', hrun, h2, h3, fin w' h3, h5⟩
  rcases Nat.eq_zero_or_pos m with h0 | h0
  · subst h0
    have hn : news = [] := List.eq_nil_of_length_eq_zero (by simpa using hr.1)
    subst hn
    rcases A with _ | ad
    · exact ⟨v, w, run_append_of_nil w base t ty e i size E.slice hi v n xs hown none c rfl, by simpa using hown, World.grownBy.refl w _, Below.refl _ _, .inl rfl⟩
    · exact key ad rfl (by intro j u hu; simp at hu)
  · obtain ⟨b, off, rfl, _, hc⟩ := hr.2 h0
    exact key _ rfl fun j u hu => by rw [addr_add]; exact hc j u hu

theorem wp_app {o : Oper} {a : Act} {K : Act → World → Prop} {Q : Exit → Act → World → Prop} {s x : Operand} {t e : TypeId} {z : Value} {size bytes : Nat} (E : Elem P t e z size bytes)
    (ho : o.op = .call { callee := .builtin .append, args := #[s, x], argTypes := #[t, t] }) {base : Nat}
    {v : Value} {n : Nat} {xs : List Value} (hs : a.eval s = v) (hown : w.ownsRow base e size v n xs)
    {B : Nat} {A : Option Addr} {m c : Nat} {news : List Value} (hx : a.eval x = .slice A m c) (hr : Row w B size A m news) (h1 : ∀ u ∈ news, u.oneCell' = true)
    (hbytes : (n + m) * bytes ≤ 140737488355328) (hbase : base ≤ w.heap.size)
    (h : ∀ v' w', w'.ownsRow base e size v' (n + m) (xs ++ news) → w.grownBy w' v.ownBlock → Below base w w' → (v'.ownBlock = v.ownBlock ∨ v'.ownBlock = some w.heap.size) → K (a.put o.dst v') w') : o.wp P a w K Q := by
  obtain ⟨v', w', hrun, h2, h3, h4, h5⟩ := run_app (P := P) w E o.type hown hr h1 hbytes hbase (c := c)
  unfold Oper.wp execOp
  simp only [ho, resolve, invoke, builtin, Sem.run_bind, Sem.run_pure, Result.andThen_ok, List.map_toArray, List.map_cons, List.map_nil, hs, hx, hrun]
  exact h v' w' h2 h3 h4 h5

theorem wpList_app {ops : Array Oper} {rest : List Oper} {o : Oper} {a : Act} {Q : Exit → Act → World → Prop} (hgd : o.guard = none) {s x : Operand} {t e : TypeId} {z : Value} {size bytes : Nat} (E : Elem P t e z size bytes)
    (ho : o.op = .call { callee := .builtin .append, args := #[s, x], argTypes := #[t, t] }) {base : Nat}
    {v : Value} {n : Nat} {xs : List Value} (hs : a.eval s = v) (hown : w.ownsRow base e size v n xs)
    {B : Nat} {A : Option Addr} {m m' c : Nat} {news : List Value} (hx : a.eval x = .slice A m c) (hr : Row w B size A m' news) (h1 : ∀ u ∈ news, u.oneCell' = true)
    (hbytes : (n + m') * bytes ≤ 140737488355328) (hbase : base ≤ w.heap.size)
    (h : ∀ v' w', w'.ownsRow base e size v' (n + m') (xs ++ news) → w.grownBy w' v.ownBlock → Below base w w' → (v'.ownBlock = v.ownBlock ∨ v'.ownBlock = some w.heap.size) → wpList P ops Q rest (a.put o.dst v') w') (hm : m' = m := by first | rfl | omega) : wpList P ops Q (o :: rest) a w := by
  subst hm
  exact wpList_plain hgd fun _ hK => wp_app w E ho hs hown hx hr h1 hbytes hbase fun v' w' h2 h3 h4 h5 => hK _ _ (h v' w' h2 h3 h4 h5)
end

/-- A new block of cells, as a row. -/
theorem row_new (w : World) (t : TypeId) (l : List Value) : Row (w.alloc (.cells l.toArray t)) (w.heap.size + 1) 1 (some ⟨w.heap.size, 0, none⟩) l.length l := by
  refine ⟨by omega, fun _ => ⟨w.heap.size, 0, rfl, by omega, fun j u hu => ?_⟩⟩
  have h := (Go.heap_alloc_new w (.cells l.toArray t))
  simp only [World.cell?, h]
  simpa using hu

theorem own_mono {w : World} {B B' : Nat} {e : TypeId} {sz n : Nat} {v : Value} {xs : List Value} (h : w.ownsRow B e sz v n xs) (hB : B' ≤ B) : w.ownsRow B' e sz v n xs := by
  obtain ⟨h1, h2⟩ := h
  refine ⟨h1, ?_⟩
  rcases h2 with h2 | ⟨g, cap, cur, hv, hg, r⟩
  · exact Or.inl h2
  · exact Or.inr ⟨g, cap, cur, hv, Nat.le_trans hB hg, r⟩
/-- What is owned stays, where below the world's size nothing has turned. -/
theorem own_below {w w' : World} {B : Nat} {e : TypeId} {sz n : Nat} {v : Value} {xs : List Value} (h : w.ownsRow B e sz v n xs) (hb : Below w.heap.size w w') : w'.ownsRow B e sz v n xs := by
  obtain ⟨h1, h2⟩ := h
  refine ⟨h1, ?_⟩
  rcases h2 with h2 | ⟨g, cap, cur, hv, hg, hh, r⟩
  · exact Or.inl h2
  · refine Or.inr ⟨g, cap, cur, hv, hg, ?_, r⟩
    rw [hb.block g ?_]; exact hh
    exact (Array.getElem?_eq_some_iff.1 hh).1
/-- What is owned stays, where the one row that is written is another one. -/
theorem own_grown {w w' : World} {B : Nat} {e : TypeId} {sz n : Nat} {v : Value} {xs : List Value} (h : w.ownsRow B e sz v n xs) {row : Option Nat} (hg : w.grownBy w' row) (hne : v.ownBlock = none ∨ v.ownBlock ≠ row) : w'.ownsRow B e sz v n xs :=
  h.kept hg hne

theorem cell_new (w : World) (cs : Array Value) (t : TypeId) (k i : Nat) (h : k = w.heap.size) : (w.alloc (.cells cs t)).cell? ⟨k, i, none⟩ = cs[i]? := by
  subst h
  have h := (Go.heap_alloc_new w (.cells cs t))
  simp only [World.cell?, h]
  rfl

/-- bytes, and 64-bit numbers without a sign, as values -/
def bv (c : UInt8) : Value := .int .u8 c.toNat
def u64v (n : Nat) : Value := .int .u64 n
theorem bv_one (l : List UInt8) : ∀ u ∈ l.map bv, u.oneCell' = true := by
  intro u hu; obtain ⟨c, _, rfl⟩ := List.mem_map.1 hu; rfl
theorem u64v_one (l : List Nat) : ∀ u ∈ l.map u64v, u.oneCell' = true := by
  intro u hu; obtain ⟨c, _, rfl⟩ := List.mem_map.1 hu; rfl

/-- A slice of bytes that reads as l. -/
abbrev Bytes (w : World) (B : Nat) (A : Option Addr) (n : Nat) (l : List UInt8) : Prop := Row w B 1 A n (l.map bv)
/-- A slice of bytes of the call's own. -/
abbrev OwnB (w : World) (B : Nat) (v : Value) (l : List UInt8) : Prop := w.ownsRow B 5 1 v l.length (l.map bv)
theorem OwnB.shape {w : World} {B : Nat} {v : Value} {l : List UInt8} (h : OwnB w B v l) : ∃ A c, v = .slice A l.length c ∧ Bytes w w.heap.size A l.length l := by
  rcases h.2 with ⟨rfl, h0⟩ | ⟨g, cap, cur, rfl, _⟩
  · rw [h0]; exact ⟨none, 0, rfl, by rw [List.eq_nil_of_length_eq_zero h0]; exact Row.none_⟩
  · exact ⟨_, _, rfl, Row.of_own h⟩

/-- string(b) -/
theorem strOfNums_bytes (l : List UInt8) : strOfNums (l.map fun c => (c.toNat : Int)) = ⟨l.toArray⟩ := by
  unfold strOfNums
  congr 2
  rw [List.map_map]
  conv => rhs; rw [← List.map_id l]
  refine List.map_congr_left fun c _ => ?_
  simp
theorem run_str {w : World} {B n c : Nat} {A : Option Addr} {l : List UInt8} (h : Bytes w B A n l) : (convert 104 9 (.slice A n c)).run Tryz.prog w = .ok (.string ⟨l.toArray⟩) w := by
  rcases Nat.eq_zero_or_pos n with h0 | h0
  · subst h0
    have hl : l = [] := by have := h.1; simp at this; exact this
    subst hl
    rw [run_convert_bytes_string w 104 9 5 A 0 c Tryz.underlying104 Tryz.underlying5 Tryz.underlying9]
    cases A with
    | none => simp [Conv.bytesToString]; rfl
    | some a => simp [Conv.bytesToString, loadCells, loadCellsFrom]; rfl
  · obtain ⟨b, off, rfl, _, hc⟩ := h.2 h0
    rw [← strOfNums_bytes l]
    refine run_convert_bytes_arg w 104 5 Tryz.underlying104 Tryz.underlying5 b off n c _ (by have := h.1; simpa using this) (fun i hi => ?_) 9 Tryz.underlying9
    have hl : l.length = n := by have := h.1; simpa using this
    refine hc i _ ?_
    rw [List.getElem?_map, List.getElem?_eq_getElem (by omega)]
    simp [bv, List.getD, List.getElem?_eq_getElem (show i < l.length by omega)]

theorem bytesE : Elem Tryz.prog 104 5 (.int .u8 0) 1 1 := ⟨Tryz.underlying104, by kernel_rfl, rfl, by omega, by omega⟩
end Go.Proofs.YtmcacicopgckmaaGreatDoor
/-
  Maps as association lists, in the order in which the keys came: whatever the elements are.
-/
namespace Garner
open Go

section
variable {κ : Type} [DecidableEq κ] {ν : Type}
def aget (a : κ) : List (κ × ν) → Option ν
  | [] => none
  | (b, v) :: r => if a = b then some v else aget a r
def aput (a : κ) (v : ν) : List (κ × ν) → List (κ × ν)
  | [] => [(a, v)]
  | (b, u) :: r => if a = b then (b, v) :: r else (b, u) :: aput a v r
def adel (a : κ) : List (κ × ν) → List (κ × ν)
  | [] => []
  | (b, u) :: r => if a = b then r else (b, u) :: adel a r
/-- the place of a key, and what it has -/
def aidx (a : κ) : List (κ × ν) → Option (Nat × ν)
  | [] => none
  | (b, v) :: r => if a = b then some (0, v) else (aidx a r).map fun p => (p.1 + 1, p.2)
theorem aidx_get (a : κ) : ∀ l : List (κ × ν), (aidx a l).map (·.2) = aget a l
  | [] => rfl
  | (b, v) :: r => by
    unfold aidx aget
    split
    · rfl
    · rw [← aidx_get a r]; cases aidx a r <;> rfl
theorem aidx_none {a : κ} : ∀ {l : List (κ × ν)}, aidx a l = none → ∀ v, aput a v l = l ++ [(a, v)] ∧ adel a l = l
  | [], _, v => ⟨rfl, rfl⟩
  | (b, u) :: r, h, v => by
    unfold aidx at h
    split at h
    · cases h
    · rename_i hne
      have h' : aidx a r = none := by cases hh : aidx a r with
        | none => rfl
        | some p => rw [hh] at h; cases h
      obtain ⟨h1, h2⟩ := aidx_none h' v
      unfold aput adel
      rw [if_neg hne, if_neg hne, h1, h2]
      exact ⟨rfl, rfl⟩
theorem aidx_some {a : κ} : ∀ {l : List (κ × ν)} {j : Nat} {u : ν}, aidx a l = some (j, u) → l[j]? = some (a, u) ∧ (∀ v, aput a v l = l.set j (a, v)) ∧ adel a l = l.eraseIdx j
  | [], _, _, h => by cases h
  | (b, w) :: r, j, u, h => by
    unfold aidx at h
    split at h
    · rename_i he
      subst he
      injection h with h
      injection h with h1 h2
      subst h1; subst h2
      refine ⟨rfl, fun v => ?_, ?_⟩
      · unfold aput; rw [if_pos rfl]; rfl
      · unfold adel; rw [if_pos rfl]; rfl
    · rename_i hne
      cases hh : aidx a r with
      | none => rw [hh] at h; cases h
      | some p =>
        rw [hh] at h
        simp only [Option.map_some, Option.some.injEq, Prod.mk.injEq] at h
        obtain ⟨h1, h2⟩ := h
        subst h1; subst h2
        obtain ⟨g1, g2, g3⟩ := aidx_some (j := p.1) (u := p.2) hh
        refine ⟨by simpa using g1, fun v => ?_, ?_⟩
        · unfold aput; rw [if_neg hne, g2]; rfl
        · unfold adel; rw [if_neg hne, g3]; rfl
end

/-- Keys of a plain kind. -/
structure KeyKind (P : Program) (k : TypeId) {κ : Type} [DecidableEq κ] (key : κ → Value) : Prop where
  same : ∃ d, P.underlying k = some d ∧ ∀ a b, Instr.sameNow d (key a) (key b) = some (decide (a = b))
  check : ∀ e w a, (Instr.checkKey e 10000 k (key a)).run P w = .ok () w
  bits : ∀ a, Instr.sameBits 10000 (key a) (key a) = true

theorem eraseIdx_map' {α β : Type} (f : α → β) : ∀ (l : List α) (j : Nat), (l.map f).eraseIdx j = (l.eraseIdx j).map f
  | [], _ => rfl
  | _ :: _, 0 => rfl
  | x :: l, j + 1 => by simp only [List.map_cons, List.eraseIdx_cons_succ, eraseIdx_map' f l j]

def pairOf (e : MapEntry) : Value × Value := (e.key, e.val)

section
variable {κ : Type} {key : κ → Value}
/-- block b is a map that holds al -/
def MapIs (key : κ → Value) (w : World) (b : Nat) (al : List (κ × Value)) : Prop :=
  ∃ es clock, w.heap[b]? = some (.map es clock) ∧ es.toList.map pairOf = al.map (fun p => (key p.1, p.2)) ∧
    (es.toList.map (·.born)).Pairwise (· < ·) ∧ ∀ e ∈ es.toList, e.born < clock

theorem MapIs.lt {w : World} {b : Nat} {al : List (κ × Value)} (h : MapIs key w b al) : b < w.heap.size := by
  obtain ⟨es, clock, hb, _⟩ := h
  exact (Array.getElem?_eq_some_iff.1 hb).1
theorem MapIs.of_block {w w' : World} {b : Nat} {al : List (κ × Value)} (h : MapIs key w b al) (hb : w'.heap[b]? = w.heap[b]?) : MapIs key w' b al := by
  obtain ⟨es, clock, h1, h2⟩ := h
  exact ⟨es, clock, hb.trans h1, h2⟩
theorem MapIs.made (w : World) : MapIs key (w.alloc (.map #[] 0)) w.heap.size [] :=
  ⟨#[], 0, (MapKept.heap_alloc w _).1, rfl, by simp, by simp⟩
theorem MapIs.below {w w' : World} {B b : Nat} {al : List (κ × Value)} (h : MapIs key w b al) (hb : RowKit.Below B w w') (hlt : b < B) : MapIs key w' b al := h.of_block (hb.block b hlt)
theorem MapIs.alloc {w : World} {b : Nat} {al : List (κ × Value)} (h : MapIs key w b al) (o : Obj) : MapIs key (w.alloc o) b al := h.of_block (RowKit.Below.heap_alloc w o b h.lt)

end

section
variable {P : Program} {k : TypeId} {κ : Type} [DecidableEq κ] {key : κ → Value}

theorem findNow_of {d : TypeDesc} (hs : ∀ a b, Instr.sameNow d (key a) (key b) = some (decide (a = b))) (a : κ) :
    ∀ (L : List MapEntry) (al : List (κ × Value)) (i : Nat), L.map pairOf = al.map (fun p => (key p.1, p.2)) →
      Instr.findNow d (key a) L i = some ((aidx a al).map fun p => (i + p.1, p.2)) := by
  intro L
  induction L with
  | nil => intro al i h; cases al with
    | nil => rfl
    | cons p r => cases h
  | cons e L ih =>
    intro al i h
    cases al with
    | nil => cases h
    | cons p r =>
      obtain ⟨b, v⟩ := p
      simp only [List.map_cons, List.cons.injEq] at h
      obtain ⟨h1, h2⟩ := h
      have hk : e.key = key b := congrArg Prod.fst h1
      have hv : e.val = v := congrArg Prod.snd h1
      unfold Instr.findNow aidx
      rw [hk, hs]
      by_cases hab : a = b
      · simp [hab, hv]
      · simp only [hab, decide_false, if_false]
        rw [ih r (i + 1) h2]
        cases aidx a r with
        | none => rfl
        | some q => simp; omega

theorem run_look {t e : TypeId} (K : KeyKind P k key) (ht : P.underlying t = some (.map k e)) {w : World} {b : Nat} {al : List (κ × Value)} (h : MapIs key w b al)
    {z : Value} (hz : (zeroValue e).run P w = .ok z w) (a : κ) (ok : Bool) :
    (Instr.lookup t (.map (some b)) (key a) ok).run P w = .ok (if ok then .tuple #[(aget a al).getD z, .bool (aget a al).isSome] else (aget a al).getD z) w := by
  obtain ⟨es, clock, hb, hp, _⟩ := h
  obtain ⟨d, hd, hs⟩ := K.same
  have hf := findNow_of hs a es.toList al 0 hp
  have hg := aidx_get a al
  cases hi : aidx a al with
  | none =>
    rw [hi] at hf hg
    rw [← hg]
    simp [Instr.lookup, Instr.findKey, run_underlying ht, run_underlying hd, MapKept.run_getObj_map hb, K.check, hf, hz, Result.andThen]
  | some p =>
    rw [hi] at hf hg
    rw [← hg]
    simp [Instr.lookup, Instr.findKey, run_underlying ht, run_underlying hd, MapKept.run_getObj_map hb, K.check, hf, Result.andThen]

theorem run_put {t e : TypeId} (K : KeyKind P k key) (ht : P.underlying t = some (.map k e)) {w : World} {b : Nat} {al : List (κ × Value)} (h : MapIs key w b al) (a : κ) (v : Value) :
    ∃ w', (Instr.mapUpdate t (.map (some b)) (key a) v).run P w = .ok () w' ∧ MapIs key w' b (aput a v al) ∧ w.grownBy w' (some b) ∧ w'.heap.size = w.heap.size := by
  obtain ⟨es, clock, hb, hp, hinc, hlt⟩ := h
  obtain ⟨d, hd, hs⟩ := K.same
  have hf := findNow_of hs a es.toList al 0 hp
  have hbs : b < w.heap.size := (Array.getElem?_eq_some_iff.1 hb).1
  have fin : ∀ o : Obj, w.grownBy { w with heap := w.heap.setIfInBounds b o } (some b) := fun o =>
    ⟨rfl, rfl, rfl, by simp, fun i _ hi => by rw [Array.getElem?_setIfInBounds, if_neg (fun e => hi (by rw [e]))]⟩
  cases hi : aidx a al with
  | none =>
    rw [hi] at hf
    refine ⟨{ w with heap := w.heap.setIfInBounds b (.map (es.push { key := key a, val := v, born := clock }) (clock + 1)) }, ?_, ?_, fin _, by simp⟩
    · simp [Instr.mapUpdate, Instr.findKey, run_underlying ht, run_underlying hd, MapKept.run_getObj_map hb, K.check, hf, MapKept.run_setObj_map _ hb, Result.andThen]
    · refine ⟨es.push { key := key a, val := v, born := clock }, clock + 1, by simp [hbs], ?_, ?_, ?_⟩
      · rw [(aidx_none hi v).1]; simp [hp, pairOf]
      · simp only [Array.toList_push, List.map_append, List.map_cons, List.map_nil]
        rw [List.pairwise_append]
        refine ⟨hinc, by simp, ?_⟩
        intro x hx y hy
        obtain ⟨e0, he0, rfl⟩ := List.mem_map.1 hx
        simp at hy
        subst hy
        exact hlt e0 he0
      · intro e0 he0
        simp at he0
        rcases he0 with he0 | rfl
        · have := hlt e0 (by simpa using he0); omega
        · simp
  | some p =>
    obtain ⟨j, u⟩ := p
    rw [hi] at hf
    obtain ⟨g1, g2, _⟩ := aidx_some hi
    have hj : es.toList[j]?.map pairOf = some (key a, u) := by rw [← List.getElem?_map, hp, List.getElem?_map, g1]; rfl
    obtain ⟨e0, he0, he1⟩ : ∃ e0, es.toList[j]? = some e0 ∧ pairOf e0 = (key a, u) := by
      cases h0 : es.toList[j]? with
      | none => rw [h0] at hj; cases hj
      | some e0 => rw [h0] at hj; exact ⟨e0, rfl, by simpa using hj⟩
    have hk0 : e0.key = key a := congrArg Prod.fst he1
    have he0' : es[j]? = some e0 := by simpa using he0
    refine ⟨{ w with heap := w.heap.setIfInBounds b (.map (es.modify j fun e => { e with key := key a, val := v }) clock) }, ?_, ?_, fin _, by simp⟩
    · simp [Instr.mapUpdate, Instr.findKey, run_underlying ht, run_underlying hd, MapKept.run_getObj_map hb, K.check, hf, he0', hk0, Instr.keyThatStays, K.bits, MapKept.run_setObj_map _ hb, Result.andThen]
    · have hmod : (es.modify j fun e => { e with key := key a, val := v }).toList = es.toList.modify j fun e => { e with key := key a, val := v } := by simp
      refine ⟨es.modify j fun e => { e with key := key a, val := v }, clock, by simp [hbs], ?_, ?_, ?_⟩
      · rw [hmod, g2 v]
        apply List.ext_getElem?
        intro i
        have hpi := congrArg (fun l => l[i]?) hp
        simp only [List.getElem?_map] at hpi
        simp only [List.getElem?_map, List.getElem?_modify, List.getElem?_set]
        by_cases hij : j = i
        · subst hij
          have hjl : j < al.length := by
            rcases Nat.lt_or_ge j al.length with hl | hl
            · exact hl
            · rw [List.getElem?_eq_none hl] at g1; cases g1
          rw [he0, if_pos rfl, if_pos hjl]
          simp [pairOf]
        · rw [if_neg hij, ← hpi]
          cases es.toList[i]? <;> simp [hij]
      · rw [hmod]
        have : (es.toList.modify j fun e => { e with key := key a, val := v }).map (·.born) = es.toList.map (·.born) := by
          apply List.ext_getElem?
          intro i
          simp only [List.getElem?_map, List.getElem?_modify]
          by_cases hij : j = i
          · subst hij; rw [he0]; simp
          · cases es.toList[i]? <;> simp [hij]
        rw [this]; exact hinc
      · rw [hmod]
        intro e1 he1'
        obtain ⟨i, hi1⟩ := List.mem_iff_getElem?.1 he1'
        rw [List.getElem?_modify] at hi1
        by_cases hij : j = i
        · subst hij; rw [he0] at hi1; simp at hi1; subst hi1; exact hlt e0 (List.mem_of_getElem? he0)
        · cases hc : es.toList[i]? with
          | none => rw [hc] at hi1; cases hi1
          | some e2 => rw [hc] at hi1; simp [hij] at hi1; subst hi1; exact hlt e2 (List.mem_of_getElem? hc)

theorem run_del {t e : TypeId} (K : KeyKind P k key) (ht : P.underlying t = some (.map k e)) {w : World} {b : Nat} {al : List (κ × Value)} (h : MapIs key w b al) (a : κ) (ts : Array TypeId) (ty : TypeId) (hts : ts[0]? = some t) :
    ∃ w', (Builtin.delete_ ts ty #[.map (some b), key a]).run P w = .ok (.tuple #[]) w' ∧ MapIs key w' b (adel a al) ∧ w.grownBy w' (some b) ∧ w'.heap.size = w.heap.size := by
  obtain ⟨es, clock, hb, hp, hinc, hlt⟩ := h
  obtain ⟨d, hd, hs⟩ := K.same
  have hf := findNow_of hs a es.toList al 0 hp
  have hbs : b < w.heap.size := (Array.getElem?_eq_some_iff.1 hb).1
  have fin : ∀ o : Obj, w.grownBy { w with heap := w.heap.setIfInBounds b o } (some b) := fun o =>
    ⟨rfl, rfl, rfl, by simp, fun i _ hi => by rw [Array.getElem?_setIfInBounds, if_neg (fun e => hi (by rw [e]))]⟩
  cases hi : aidx a al with
  | none =>
    rw [hi] at hf
    refine ⟨{ w with heap := w.heap.setIfInBounds b (.map es clock) }, ?_, ?_, fin _, by simp⟩
    · simp [Builtin.delete_, hts, Instr.findKey, run_underlying ht, run_underlying hd, MapKept.run_getObj_map hb, K.check, hf, MapKept.run_setObj_map _ hb, Result.andThen]
    · refine ⟨es, clock, by simp [hbs], ?_, hinc, hlt⟩
      rw [(aidx_none hi (.bool true)).2]; exact hp
  | some p =>
    obtain ⟨j, u⟩ := p
    rw [hi] at hf
    obtain ⟨g1, _, g3⟩ := aidx_some hi
    refine ⟨{ w with heap := w.heap.setIfInBounds b (.map (es.eraseIdxIfInBounds j) clock) }, ?_, ?_, fin _, by simp⟩
    · simp [Builtin.delete_, hts, Instr.findKey, run_underlying ht, run_underlying hd, MapKept.run_getObj_map hb, K.check, hf, MapKept.run_setObj_map _ hb, Result.andThen]
    · have her : (es.eraseIdxIfInBounds j).toList = es.toList.eraseIdx j := by
        unfold Array.eraseIdxIfInBounds
        split
        · simp
        · rename_i hge
          rw [List.eraseIdx_of_length_le (by simpa using hge)]
      refine ⟨es.eraseIdxIfInBounds j, clock, by simp [hbs], ?_, ?_, ?_⟩
      · rw [her, g3, ← eraseIdx_map', ← eraseIdx_map', hp]
      · rw [her, ← eraseIdx_map']
        exact hinc.sublist (List.eraseIdx_sublist _ _)
      · rw [her]
        intro e0 he0
        exact hlt e0 (List.mem_of_mem_eraseIdx he0)
end

/-- int and string keys -/
theorem str_beq (a b : List UInt8) : ((⟨a.toArray⟩ : ByteArray) == ⟨b.toArray⟩) = decide (a = b) := by
  show (a.toArray == b.toArray) = _
  rw [Bool.eq_iff_iff]; simp
theorem check_int {P : Program} {k : TypeId} (hk : P.underlying k = some (.int .i64)) (n : Nat) (e : Bool) (w : World) (a : Int) : (Instr.checkKey e (n + 1) k (.int .i64 a)).run P w = .ok () w := by
  simp only [Instr.checkKey, Sem.run_bind, run_underlying hk, Result.andThen_ok]; rfl
theorem check_str {P : Program} {k : TypeId} (hk : P.underlying k = some .string) (n : Nat) (e : Bool) (w : World) (s : ByteArray) : (Instr.checkKey e (n + 1) k (.string s)).run P w = .ok () w := by
  simp only [Instr.checkKey, Sem.run_bind, run_underlying hk, Result.andThen_ok]; rfl
theorem bits_int (n : Nat) (a : Int) : Instr.sameBits n (.int .i64 a) (.int .i64 a) = true := by cases n <;> simp [Instr.sameBits]
theorem bits_str (n : Nat) (a : List UInt8) : Instr.sameBits n (.string ⟨a.toArray⟩) (.string ⟨a.toArray⟩) = true := by
  cases n <;> (simp only [Instr.sameBits, str_beq]; simp)
theorem intKeys {P : Program} {k : TypeId} (hk : P.underlying k = some (.int .i64)) : KeyKind P k (fun n : Int => Value.int .i64 n) :=
  ⟨⟨_, hk, fun a b => by simp [Instr.sameNow, Bool.beq_eq_decide_eq]⟩, fun e w a => check_int hk 9999 e w a, fun a => bits_int _ a⟩
theorem strKeys {P : Program} {k : TypeId} (hk : P.underlying k = some .string) : KeyKind P k (fun s : List UInt8 => Value.string ⟨s.toArray⟩) :=
  ⟨⟨_, hk, fun a b => by simp only [Instr.sameNow, str_beq]⟩, fun e w a => check_str hk 9999 e w _, fun a => bits_str _ a⟩
end Garner
