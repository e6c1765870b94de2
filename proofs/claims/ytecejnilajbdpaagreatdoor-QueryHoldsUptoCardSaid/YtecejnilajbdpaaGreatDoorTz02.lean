import Derived.Test.YtecejnilajbdpaaGreatDoorProg
import Derived.WalkKit
import Derived.WalkSpells
import Derived.WalkLawsBesides
import Derived.WalkSmall
import Derived.Maps.AppendAt
import Derived.Deep.AppendLies
import Derived.Deep.Draws
import Derived.Lib.Hide
import Derived.Test.YtecejnilajbdpaaGreatDoorTz01
namespace Go.Proofs.YtecejnilajbdpaaGreatDoor
open Go.RowKit Garner
def Row (w : World) (B sz : Nat) (A : Option Addr) (n : Nat) (xs : List Value) : Prop :=
 xs.length = n * sz ∧ (0 < n → ∃ b off, A = some ⟨b, off, none⟩ ∧ b < B ∧ ∀ j u, xs[j]? = some u → w.cell? ⟨b, off + j, none⟩ = some u)
section
variable {w w' : World} {B B' sz n : Nat} {A : Option Addr} {xs : List Value}
theorem Row.none_ : Row w B sz A 0 [] := ⟨by simp, fun h => absurd h (by omega)⟩
theorem Row.len (h : Row w B 1 A n xs) : xs.length = n := by have := h.1; omega
theorem Row.at_ {k : Nat} (h : Row w B 1 A n xs) (hk : k < n) : ∃ b off, A = some ⟨b, off, none⟩ ∧ b < B ∧ ∀ j (hj : j < xs.length), w.cell? ⟨b, off + j, none⟩ = some xs[j] := by
 obtain ⟨b, off, e, hb, hc⟩ := h.2 (by omega)
 exact ⟨b, off, e, hb, fun j hj => hc j _ (List.getElem?_eq_getElem hj)⟩
theorem Row.keep (h : Row w B sz A n xs) (hk : ∀ p : Addr, p.block < B → w'.cell? p = w.cell? p) : Row w' B sz A n xs :=
 ⟨h.1, fun hn => by
  obtain ⟨b, off, e, hb, hc⟩ := h.2 hn
  exact ⟨b, off, e, hb, fun j u hu => (hk ⟨b, off + j, none⟩ hb).trans (hc j u hu)⟩⟩
theorem Row.more (h : Row w B sz A n xs) (hB : B ≤ B') : Row w B' sz A n xs :=
 ⟨h.1, fun hn => by
  obtain ⟨b, off, e, hb, hc⟩ := h.2 hn
  exact ⟨b, off, e, by omega, hc⟩⟩
theorem Row.below (h : Row w B sz A n xs) (hb : Below B w w') : Row w' B sz A n xs := h.keep fun _ hp => hb.cell hp
theorem Row.drew (h : Row w B sz A n xs) : Row w.drew B sz A n xs := h
theorem Row.alloc (h : Row w B sz A n xs) (hB : B ≤ w.heap.size) (o : Obj) : Row (w.alloc o) B sz A n xs := h.keep fun p hp => World.cell?_alloc_lt w o p (by omega)
theorem addr_add (b off k : Nat) : (⟨b, off, none⟩ : Addr).add k = ⟨b, off + k, none⟩ := by unfold Addr.add; split <;> simp_all
theorem Row.of_own {base : Nat} {e : TypeId} {c : Nat} (h : w.ownsRow base e sz (.slice A n c) n xs) : Row w w.heap.size sz A n xs := by
 refine ⟨h.1, fun hn => ?_⟩
 obtain ⟨g, cap, hv, _, hlt⟩ := h.form hn
 have hA : A = some ⟨g, 0, none⟩ := by injection hv
 subst hA
 refine ⟨g, 0, rfl, hlt, fun j u hu => ?_⟩
 have := h.cells (g := g) rfl j u hu
 rwa [addr_add] at this
end
structure Elem (P : Program) (t e : TypeId) (z : Value) (size bytes : Nat) : Prop where
 slice : P.underlying t = some (.slice e)
 info : (P.info? e).map (fun i => (i.zero, i.size, i.bytes)) = some (some z, size, bytes)
 zcells : z.cells.size = size
 pos : 0 < size
 bpos : 0 < bytes
section
variable {P : Program} (w : World)
theorem run_append_of_nil (base : Nat) (t ty e : TypeId) (i : TypeInfo) (size : Nat) (ht : P.underlying t = some (.slice e)) (hi : P.info? e = some i)
  (v : Value) (n : Nat) (xs : List Value) (hown : w.ownsRow base e size v n xs) (A : Option Addr) (c : Nat) (hA : A = none) : (Builtin.append_ #[t, t] ty #[v, .slice A 0 c]).run P w = .ok v w := by
 subst hA
 rcases hown.2 with ⟨rfl, rfl⟩ | ⟨g, cap, cur, rfl, _, _, hnc, _⟩
 ·simp [Builtin.append_, run_underlying ht, sizeOf, typeInfo, hi, Builtin.lenOf, Builtin.firstCells]
 simp [Builtin.append_, run_underlying ht, sizeOf, typeInfo, hi, Builtin.lenOf, Builtin.firstCells, hnc, storeCells]
theorem run_app {t e : TypeId} {z : Value} {size bytes : Nat} (E : Elem P t e z size bytes) (ty : TypeId) {base : Nat}
  {v : Value} {n : Nat} {xs : List Value} (hown : w.ownsRow base e size v n xs)
  {B : Nat} {A : Option Addr} {m c : Nat} {news : List Value} (hr : Row w B size A m news) (h1 : ∀ u ∈ news, u.oneCell' = true)
  (hbytes : (n + m) * bytes ≤ 140737488355328) (hbase : base ≤ w.heap.size) :
  ∃ v' w', (Builtin.append_ #[t, t] ty #[v, .slice A m c]).run P w = .ok v' w' ∧ w'.ownsRow base e size v' (n + m) (xs ++ news) ∧ w.grownBy w' v.ownBlock ∧ Below base w w' ∧
   (v'.ownBlock = v.ownBlock ∨ v'.ownBlock = some w.heap.size) := by
 obtain ⟨i, hi, hz, hsize, hby⟩ := info_parts E.info
 have h63 : n + m ≤ maxLen := by
  have := Nat.mul_le_mul_left (n + m) E.bpos
  simp only [maxLen]; omega
 have fin : ∀ w', w.grownBy w' v.ownBlock → Below base w w' := fun w' hg => (Below.refl base w).grown hg hbase fun k hk => (hown.lt k hk).1
 have key : ∀ ad : Addr, A = some ad → (∀ j u, news[j]? = some u → w.cell? (ad.add j) = some u) → ∃ v' w', (Builtin.append_ #[t, t] ty #[v, .slice A m c]).run P w = .ok v' w' ∧ w'.ownsRow base e size v' (n + m) (xs ++ news) ∧ w.grownBy w' v.ownBlock ∧ Below base w w' ∧
   (v'.ownBlock = v.ownBlock ∨ v'.ownBlock = some w.heap.size) := by
  rintro ad rfl hcells
  obtain ⟨v', w', hrun, h2, h3, _, h5⟩ := run_append_own_at (P := P) w base t ty e i z size bytes E.slice hi hz hsize hby E.zcells E.pos v n xs hown ad m c news hr.1 hcells h1 h63 hbytes hbase
  exact ⟨v', w', hrun, h2, h3, fin w' h3, h5⟩
 rcases Nat.eq_zero_or_pos m with h0 | h0
 ·subst h0
  have hn : news = [] := List.eq_nil_of_length_eq_zero (by simpa using hr.1)
  subst hn
  rcases A with _ | ad
  ·exact ⟨v, w, run_append_of_nil w base t ty e i size E.slice hi v n xs hown none c rfl, by simpa using hown, World.grownBy.refl w _, Below.refl _ _, .inl rfl⟩
  exact key ad rfl (by intro j u hu; simp at hu)
 obtain ⟨b, off, rfl, _, hc⟩ := hr.2 h0
 exact key _ rfl fun j u hu => by rw [addr_add]; exact hc j u hu
theorem wp_app {o : Oper} {a : Act} {K : Act → World → Prop} {Q : Exit → Act → World → Prop} {s x : Operand} {t e : TypeId} {z : Value} {size bytes : Nat} (E : Elem P t e z size bytes)
  (ho : o.op = .call { callee := .builtin .append, args := #[s, x], argTypes := #[t, t] }) {base : Nat}
  {v : Value} {n : Nat} {xs : List Value} (hs : a.eval s = v) (hown : w.ownsRow base e size v n xs)
  {B : Nat} {A : Option Addr} {m c : Nat} {news : List Value} (hx : a.eval x = .slice A m c) (hr : Row w B size A m news) (h1 : ∀ u ∈ news, u.oneCell' = true)
  (hbytes : (n + m) * bytes ≤ 140737488355328) (hbase : base ≤ w.heap.size)
  (h : ∀ v' w', w'.ownsRow base e size v' (n + m) (xs ++ news) → w.grownBy w' v.ownBlock → Below base w w' → (v'.ownBlock = v.ownBlock ∨ v'.ownBlock = some w.heap.size) → K (a.put o.dst v') w') : o.wp P a w K Q := by
 obtain ⟨v', w', hrun, h2, h3, h4, h5⟩ := run_app (P := P) w E o.type hown hr h1 hbytes hbase (c := c)
 unfold Oper.wp execOp
 simp only [ho, resolve, invoke, builtin, Sem.run_bind, Sem.run_pure, Result.andThen_ok, List.map_toArray, List.map_cons, List.map_nil, hs, hx, hrun]
 exact h v' w' h2 h3 h4 h5
theorem wpList_app {ops : Array Oper} {rest : List Oper} {o : Oper} {a : Act} {Q : Exit → Act → World → Prop} (hgd : o.guard = none) {s x : Operand} {t e : TypeId} {z : Value} {size bytes : Nat} (E : Elem P t e z size bytes)
  (ho : o.op = .call { callee := .builtin .append, args := #[s, x], argTypes := #[t, t] }) {base : Nat}
  {v : Value} {n : Nat} {xs : List Value} (hs : a.eval s = v) (hown : w.ownsRow base e size v n xs)
  {B : Nat} {A : Option Addr} {m m' c : Nat} {news : List Value} (hx : a.eval x = .slice A m c) (hr : Row w B size A m' news) (h1 : ∀ u ∈ news, u.oneCell' = true)
  (hbytes : (n + m') * bytes ≤ 140737488355328) (hbase : base ≤ w.heap.size)
  (h : ∀ v' w', w'.ownsRow base e size v' (n + m') (xs ++ news) → w.grownBy w' v.ownBlock → Below base w w' → (v'.ownBlock = v.ownBlock ∨ v'.ownBlock = some w.heap.size) → wpList P ops Q rest (a.put o.dst v') w') (hm : m' = m := by first | rfl | omega) : wpList P ops Q (o :: rest) a w := by
 subst hm
 exact wpList_plain hgd fun _ hK => wp_app w E ho hs hown hx hr h1 hbytes hbase fun v' w' h2 h3 h4 h5 => hK _ _ (h v' w' h2 h3 h4 h5)
end
theorem row_new (w : World) (t : TypeId) (l : List Value) : Row (w.alloc (.cells l.toArray t)) (w.heap.size + 1) 1 (some ⟨w.heap.size, 0, none⟩) l.length l := by
 refine ⟨by omega, fun _ => ⟨w.heap.size, 0, rfl, by omega, fun j u hu => ?_⟩⟩
 have h := (Go.heap_alloc_new w (.cells l.toArray t))
 simp only [World.cell?, h]
 simpa using hu
theorem own_mono {w : World} {B B' : Nat} {e : TypeId} {sz n : Nat} {v : Value} {xs : List Value} (h : w.ownsRow B e sz v n xs) (hB : B' ≤ B) : w.ownsRow B' e sz v n xs := by
 obtain ⟨h1, h2⟩ := h
 refine ⟨h1, ?_⟩
 rcases h2 with h2 | ⟨g, cap, cur, hv, hg, r⟩
 ·exact Or.inl h2
 exact Or.inr ⟨g, cap, cur, hv, Nat.le_trans hB hg, r⟩
theorem own_below {w w' : World} {B : Nat} {e : TypeId} {sz n : Nat} {v : Value} {xs : List Value} (h : w.ownsRow B e sz v n xs) (hb : Below w.heap.size w w') : w'.ownsRow B e sz v n xs := by
 obtain ⟨h1, h2⟩ := h
 refine ⟨h1, ?_⟩
 rcases h2 with h2 | ⟨g, cap, cur, hv, hg, hh, r⟩
 ·exact Or.inl h2
 refine Or.inr ⟨g, cap, cur, hv, hg, ?_, r⟩
 rw [hb.block g ?_]; exact hh
 exact (Array.getElem?_eq_some_iff.1 hh).1
theorem own_grown {w w' : World} {B : Nat} {e : TypeId} {sz n : Nat} {v : Value} {xs : List Value} (h : w.ownsRow B e sz v n xs) {row : Option Nat} (hg : w.grownBy w' row) (hne : v.ownBlock = none ∨ v.ownBlock ≠ row) : w'.ownsRow B e sz v n xs :=
 h.kept hg hne
theorem cell_new (w : World) (cs : Array Value) (t : TypeId) (k i : Nat) (h : k = w.heap.size) : (w.alloc (.cells cs t)).cell? ⟨k, i, none⟩ = cs[i]? := by
 subst h
 have h := (Go.heap_alloc_new w (.cells cs t))
 simp only [World.cell?, h]
 rfl
def bv (c : UInt8) : Value := .int .u8 c.toNat
abbrev Bytes (w : World) (B : Nat) (A : Option Addr) (n : Nat) (l : List UInt8) : Prop := Row w B 1 A n (l.map bv)
theorem strOfNums_bytes (l : List UInt8) : strOfNums (l.map fun c => (c.toNat : Int)) = ⟨l.toArray⟩ := by
 unfold strOfNums
 congr 2
 rw [List.map_map]
 conv => rhs; rw [← List.map_id l]
 refine List.map_congr_left fun c _ => ?_
 simp
theorem run_str {w : World} {B n c : Nat} {A : Option Addr} {l : List UInt8} (h : Bytes w B A n l) : (convert 52 9 (.slice A n c)).run Tryz.prog w = .ok (.string ⟨l.toArray⟩) w := by
 rcases Nat.eq_zero_or_pos n with h0 | h0
 ·subst h0
  have hl : l = [] := by have := h.1; simp at this; exact this
  subst hl
  rw [run_convert_bytes_string w 52 9 5 A 0 c Tryz.underlying52 Tryz.underlying5 Tryz.underlying9]
  cases A with
  | none => simp [Conv.bytesToString]; rfl
  | some a => simp [Conv.bytesToString, loadCells, loadCellsFrom]; rfl
 obtain ⟨b, off, rfl, _, hc⟩ := h.2 h0
 rw [← strOfNums_bytes l]
 refine run_convert_bytes_arg w 52 5 Tryz.underlying52 Tryz.underlying5 b off n c _ (by have := h.1; simpa using this) (fun i hi => ?_) 9 Tryz.underlying9
 have hl : l.length = n := by have := h.1; simpa using this
 refine hc i _ ?_
 rw [List.getElem?_map, List.getElem?_eq_getElem (by omega)]
 simp [bv, List.getD, List.getElem?_eq_getElem (show i < l.length by omega)]
theorem bytesE : Elem Tryz.prog 52 5 (.int .u8 0) 1 1 := ⟨Tryz.underlying52, by kernel_rfl, rfl, by omega, by omega⟩
end Go.Proofs.YtecejnilajbdpaaGreatDoor
namespace Garner
open Go
section
variable {κ : Type} [DecidableEq κ] {ν : Type}
end
structure KeyKind (P : Program) (k : TypeId) {κ : Type} [DecidableEq κ] (key : κ → Value) : Prop where
 same : ∃ d, P.underlying k = some d ∧ ∀ a b, Instr.sameNow d (key a) (key b) = some (decide (a = b))
 check : ∀ e w a, (Instr.checkKey e 10000 k (key a)).run P w = .ok () w
 bits : ∀ a, Instr.sameBits 10000 (key a) (key a) = true
def pairOf (e : MapEntry) : Value × Value := (e.key, e.val)
section
variable {κ : Type} {key : κ → Value}
def MapIs (key : κ → Value) (w : World) (b : Nat) (al : List (κ × Value)) : Prop :=
 ∃ es clock, w.heap[b]? = some (.map es clock) ∧ es.toList.map pairOf = al.map (fun p => (key p.1, p.2)) ∧
  (es.toList.map (·.born)).Pairwise (· < ·) ∧ ∀ e ∈ es.toList, e.born < clock
theorem MapIs.lt {w : World} {b : Nat} {al : List (κ × Value)} (h : MapIs key w b al) : b < w.heap.size := by
 obtain ⟨es, clock, hb, _⟩ := h
 exact (Array.getElem?_eq_some_iff.1 hb).1
theorem MapIs.of_block {w w' : World} {b : Nat} {al : List (κ × Value)} (h : MapIs key w b al) (hb : w'.heap[b]? = w.heap[b]?) : MapIs key w' b al := by
 obtain ⟨es, clock, h1, h2⟩ := h
 exact ⟨es, clock, hb.trans h1, h2⟩
theorem MapIs.below {w w' : World} {B b : Nat} {al : List (κ × Value)} (h : MapIs key w b al) (hb : RowKit.Below B w w') (hlt : b < B) : MapIs key w' b al := h.of_block (hb.block b hlt)
theorem MapIs.alloc {w : World} {b : Nat} {al : List (κ × Value)} (h : MapIs key w b al) (o : Obj) : MapIs key (w.alloc o) b al := h.of_block (RowKit.Below.heap_alloc w o b h.lt)
end
section
variable {P : Program} {k : TypeId} {κ : Type} [DecidableEq κ] {key : κ → Value}
end
end Garner
