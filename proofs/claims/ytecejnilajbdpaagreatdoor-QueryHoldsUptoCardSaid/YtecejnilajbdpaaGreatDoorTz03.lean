import Derived.Test.YtecejnilajbdpaaGreatDoorRows
import Derived.ProofKit
import Derived.OpenShut
import Derived.Deep.CondSized
import Derived.Test.YtecejnilajbdpaaGreatDoorTz02
namespace Go.Proofs.YtecejnilajbdpaaGreatDoor
open Go.ChangeShapes Go.WideShapes Go.RowKit
structure Kind (α : Type) where
 cells : α → List Value
 size : Nat
 mem : World → Nat → α → Prop
 bulk : α → Nat
def Opens (P : Program) (t : TypeId) {α : Type} (K : Kind α) : Prop :=
 P.cellsOf t = K.size ∧ ∀ (H : Type) (enc : TypeId × Value → H) (w : World) (base : Nat) (held : Bool) (fuel : Nat) (cs : List Value) (y : DataW H × List MemPlace),
  DataW.trod enc P w base (fun _ => true) held fuel t cs = some y → (∀ n ∈ y.1.weights P t, n ≤ reachBytes) →
  ∃ x, cs = K.cells x ∧ K.mem w w.heap.size x ∧ K.bulk x ≤ Rows.uptoBulk y.1
def kInt (k : IntKind) : Kind Int := ⟨fun n => [.int k n], 1, fun _ _ n => (Lit.int k n).wf = true, fun _ => 1⟩
def kStr : Kind ByteArray := ⟨fun s => [.string s], 1, fun _ _ s => s.size ≤ reachBytes, fun s => s.size + 1⟩
structure Sl (α : Type) where
 A : Option Addr
 c : Nat
 l : List α
structure SlMem {α : Type} (K : Kind α) (bytes : Nat) (w : World) (B : Nat) (s : Sl α) : Prop where
 row : Row w B K.size s.A s.l.length (s.l.flatMap K.cells)
 cap : s.l.length ≤ s.c
 room : s.c * bytes ≤ reachBytes
 all : ∀ x ∈ s.l, K.mem w B x
 nil : s.A = none → s.c = 0
def kSlice {α : Type} (K : Kind α) (bytes : Nat) : Kind (Sl α) := ⟨fun s => [.slice s.A s.l.length s.c], 1, SlMem K bytes, fun s => (s.l.map K.bulk).sum + 1⟩
def kUnit : Kind Unit := ⟨fun _ => [], 0, fun _ _ _ => True, fun _ => 0⟩
def kPair {α β : Type} (K : Kind α) (L : Kind β) : Kind (α × β) := ⟨fun x => K.cells x.1 ++ L.cells x.2, K.size + L.size, fun w B x => K.mem w B x.1 ∧ L.mem w B x.2, fun x => K.bulk x.1 + L.bulk x.2⟩
section
variable {P : Program} {t : TypeId}
theorem opens_int {k : IntKind} (ht : P.underlying t = some (.int k)) (hc : P.cellsOf t = 1) : Opens P t (kInt k) := by
 refine ⟨hc, fun H enc w base held fuel cs y h _ => ?_⟩
 obtain ⟨n, rfl, rfl, hw⟩ := DataW.trod_int ht h
 exact ⟨n, rfl, hw, by simp [kInt, Rows.uptoBulk]⟩
theorem opens_str (ht : P.underlying t = some .string) (hc : P.cellsOf t = 1) : Opens P t kStr := by
 refine ⟨hc, fun H enc w base held fuel cs y h hw => ?_⟩
 obtain ⟨s, rfl, rfl, _⟩ := DataW.trod_string ht h
 have h1 := hw s.data.toList.length (by simp [DataW.weights])
 have e : s.data.toList.length = s.size := Array.length_toList
 rw [e] at h1
 exact ⟨s, rfl, h1, by simp only [Rows.uptoBulk, e]; exact Nat.le_refl _⟩
theorem weightsAll_mem {H : Type} {e : TypeId} {d : DataW H} : ∀ {l : List (DataW H)}, d ∈ l → ∀ n ∈ d.weights P e, n ∈ DataW.weightsAll P e l
 | x :: r, hd, n, hn => by
  simp only [DataW.weightsAll, List.mem_append]
  rcases List.mem_cons.1 hd with rfl | hd
  ·exact Or.inl hn
  exact Or.inr (weightsAll_mem hd n hn)
theorem bulkAll_sum {H α : Type} (f : α → Nat) : ∀ (xs : List α) (ds : List (DataW H)), xs.length = ds.length → (∀ (i : Nat) (x : α) (d : DataW H), xs[i]? = some x → ds[i]? = some d → f x ≤ Rows.uptoBulk d) → (xs.map f).sum ≤ Rows.uptoBulkAll ds
 | [], [], _, _ => by simp
 | x :: xs, d :: ds, hl, h => by
  have h0 := h 0 x d rfl rfl
  have ih := bulkAll_sum f xs ds (by simpa using hl) fun i y e hy he => h (i + 1) y e (by simpa using hy) (by simpa using he)
  simp only [List.map_cons, List.sum_cons, Rows.uptoBulkAll]
  omega
theorem choose_list {α : Type} {p : Nat → α → Prop} : ∀ n : Nat, (∀ i, i < n → ∃ x, p i x) → ∃ l : List α, l.length = n ∧ ∀ i x, l[i]? = some x → p i x
 | 0, _ => ⟨[], rfl, by simp⟩
 | n + 1, h => by
  obtain ⟨l, hl, hp⟩ := choose_list n fun i hi => h i (by omega)
  obtain ⟨x, hx⟩ := h n (by omega)
  refine ⟨l ++ [x], by simp [hl], fun i y hy => ?_⟩
  rcases Nat.lt_or_ge i n with hlt | hge
  ·rw [List.getElem?_append_left (by omega)] at hy; exact hp i y hy
  rw [List.getElem?_append_right (by omega)] at hy
  rcases Nat.eq_or_lt_of_le hge with rfl | hgt
  ·simp [hl] at hy; subst hy; exact hx
  rw [List.getElem?_eq_none (by simp; omega)] at hy; cases hy
theorem flat_get {α : Type} {f : α → List Value} {sz : Nat} : ∀ {l : List α}, (∀ x ∈ l, (f x).length = sz) → ∀ {j : Nat} {u : Value}, (l.flatMap f)[j]? = some u → ∃ i x k, l[i]? = some x ∧ j = i * sz + k ∧ k < sz ∧ (f x)[k]? = some u
 | [], _, j, u, h => by simp at h
 | x :: r, hs, j, u, h => by
  have hx := hs x (by simp)
  rw [List.flatMap_cons] at h
  rcases Nat.lt_or_ge j sz with hlt | hge
  ·rw [List.getElem?_append_left (by omega)] at h
   exact ⟨0, x, j, rfl, by omega, hlt, h⟩
  rw [List.getElem?_append_right (by omega), hx] at h
  obtain ⟨i, y, k, h1, h2, h3, h4⟩ := flat_get (fun z hz => hs z (by simp [hz])) h
  exact ⟨i + 1, y, k, by simpa using h1, by rw [Nat.add_mul]; omega, h3, h4⟩
theorem flat_len {α : Type} {f : α → List Value} {sz : Nat} : ∀ {l : List α}, (∀ x ∈ l, (f x).length = sz) → (l.flatMap f).length = l.length * sz
 | [], _ => by simp
 | x :: r, hs => by
  rw [List.flatMap_cons, List.length_append, hs x (by simp), flat_len fun z hz => hs z (by simp [hz]), List.length_cons, Nat.add_mul]; omega
theorem opens_slice {α : Type} {K : Kind α} {e : TypeId} {bytes : Nat} (hK : Opens P e K) (ht : P.underlying t = some (.slice e)) (hc : P.cellsOf t = 1) (hby : P.bytesOf e = bytes) (hpos : 0 < K.size) (hlen : ∀ x, (K.cells x).length = K.size) : Opens P t (kSlice K bytes) := by
 refine ⟨hc, fun H enc w base held fuel cs y h hw => ?_⟩
 rcases DataW.trod_slice ht h with ⟨rfl, rfl⟩ | ⟨a, len, cap, elems, rest, n, _, rfl, rfl, hb, hl, hm, hle, hel, hsp, hns⟩
 ·exact ⟨⟨none, 0, []⟩, rfl, ⟨Row.none_, Nat.le_refl _, by simp, by simp, fun _ => rfl⟩, by simp [kSlice, Rows.uptoBulk]⟩
 have hwt : ∀ m ∈ ((elems.map (·.1)).length + (rest.map (·.1)).length) * P.bytesOf e :: (DataW.weightsAll P e (elems.map (·.1)) ++ DataW.weightsAll P e (rest.map (·.1))), m ≤ reachBytes := by
  intro m hm'
  refine hw m ?_
  simp only [DataW.weights, ht]
  exact hm'
 have hroom : (elems.length + rest.length) * bytes ≤ reachBytes := by
  have := hwt _ (List.mem_cons_self ..)
  rw [hby] at this
  simpa using this
 have hex : ∀ i, i < len → ∃ x, (∃ csi, w.cells? base (a.add (i * P.cellsOf e)) (P.cellsOf e) = some csi ∧ csi = K.cells x) ∧ K.mem w w.heap.size x ∧ ∀ d, (elems.map (·.1))[i]? = some d → K.bulk x ≤ Rows.uptoBulk d := by
  intro i hi
  have h1 := hel i hi
  have h2 : elems[i]? = some elems[i] := List.getElem?_eq_getElem (by omega)
  rw [h2] at h1
  cases hcs : w.cells? base (a.add (i * P.cellsOf e)) (P.cellsOf e) with
  | none => rw [hcs] at h1; cases h1
  | some csi =>
   rw [hcs] at h1
   obtain ⟨x, hx1, hx2, hx3⟩ := hK.2 H enc w base held n csi _ h1 fun m hm' => hwt m (by
    refine List.mem_cons_of_mem _ (List.mem_append_left _ (weightsAll_mem (d := elems[i].1) ?_ m hm'))
    exact List.mem_map.2 ⟨_, List.getElem_mem _, rfl⟩)
   refine ⟨x, ⟨csi, rfl, hx1⟩, hx2, fun d hd => ?_⟩
   rw [List.getElem?_map, h2] at hd
   simp only [Option.map_some, Option.some.injEq] at hd
   rw [← hd]; exact hx3
 obtain ⟨l, hll, hl2⟩ := choose_list len hex
 have hsz : ∀ x ∈ l, (K.cells x).length = K.size := fun x _ => hlen x
 have hcell : ∀ j u, (l.flatMap K.cells)[j]? = some u → w.cell? (a.add j) = some u := by
  intro j u hu
  obtain ⟨i, x, k, h1, h2, h3, h4⟩ := flat_get hsz hu
  obtain ⟨⟨csi, h5, h6⟩, _, _⟩ := hl2 i x h1
  obtain ⟨_, _, h7⟩ := World.cells?_some h5
  have h8 := h7 k (by rw [hK.1]; exact h3)
  rw [h6, h4, hK.1] at h8
  rw [h2]
  have e : a.add (i * K.size + k) = (a.add (i * K.size)).add k := by
   unfold Addr.add
   by_cases h0 : i * K.size = 0 <;> by_cases h0' : k = 0 <;> simp [h0, h0', Nat.add_assoc]
  rw [e]; exact h8
 refine ⟨⟨some a, cap, l⟩, by rw [← hll]; rfl, ⟨⟨flat_len hsz, fun hn => ?_⟩, by simpa [hll] using hl, ?_, fun x hx => ?_, fun e => by cases e⟩, ?_⟩
 ·simp only at hn
  obtain ⟨b, off, spot⟩ := a
  have hne : 0 < (l.flatMap K.cells).length := by rw [flat_len hsz]; exact Nat.mul_pos hn hpos
  have h0 := hcell 0 _ (List.getElem?_eq_getElem hne)
  have hspot : spot = none := by simpa [Addr.add] using World.cell?_spot h0
  subst hspot
  have hlt : b < w.heap.size := by
   unfold World.cell? at h0
   simp only [Addr.add, if_true] at h0
   cases hh : w.heap[b]? with
   | none => rw [hh] at h0; cases h0
   | some o => exact (Array.getElem?_eq_some_iff.1 hh).1
  exact ⟨b, off, rfl, hlt, fun j u hu => by rw [← addr_add]; exact hcell j u hu⟩
 ·have := (hsp rfl).1
  have hcap : elems.length + rest.length = cap := by omega
  rw [hcap] at hroom
  exact hroom
 ·obtain ⟨i, hi⟩ := List.mem_iff_getElem?.1 hx
  exact (hl2 i x hi).2.1
 have := bulkAll_sum K.bulk l (elems.map (·.1)) (by simp [hll, hle]) fun i x d hx hd => (hl2 i x hx).2.2 d hd
 simp only [kSlice, Rows.uptoBulk]
 omega
def FOpens (P : Program) (off : Nat) (fs : List Field) {α : Type} (K : Kind α) : Prop :=
 ∀ (H : Type) (enc : TypeId × Value → H) (w : World) (base : Nat) (held : Bool) (n : Nat) (cs : List Value) (ys : List (DataW H × List MemPlace)), cs.length = off + K.size → ys.length = fs.length →
  (∀ (i : Nat) (f : Field), fs[i]? = some f → DataW.trod enc P w base (fun _ => true) held n f.type ((cs.drop f.offset).take (P.cellsOf f.type)) = ys[i]?) →
  (∀ m ∈ DataW.weightsEach P (fs.map (·.type)) (ys.map (·.1)), m ≤ reachBytes) → ∃ x, cs.drop off = K.cells x ∧ K.mem w w.heap.size x ∧ K.bulk x ≤ Rows.uptoBulkAll (ys.map (·.1))
theorem fopens_nil (off : Nat) : FOpens P off [] kUnit := by
 intro H enc w base held n cs ys hl hy _ _
 exact ⟨(), List.drop_eq_nil_of_le (by simp only [kUnit] at hl; omega), trivial, Nat.zero_le _⟩
theorem fopens_cons {α β : Type} {K : Kind α} {L : Kind β} {off : Nat} {f : Field} {fs : List Field} (hK : Opens P f.type K) (ho : f.offset = off) (hL : FOpens P (off + K.size) fs L) : FOpens P off (f :: fs) (kPair K L) := by
 intro H enc w base held n cs ys hl hy hf hw
 match ys, hy with
 | y :: ys, hy =>
  have h0 := hf 0 f rfl
  simp only [List.getElem?_cons_zero, ho, hK.1] at h0
  simp only [List.map_cons, DataW.weightsEach, List.mem_append] at hw
  obtain ⟨x, hx1, hx2, hx3⟩ := hK.2 H enc w base held n _ y h0 fun m hm => hw m (Or.inl hm)
  have hl' : cs.length = off + K.size + L.size := by simp only [kPair] at hl; omega
  obtain ⟨z, hz1, hz2, hz3⟩ := hL H enc w base held n cs ys hl' (by simpa using hy) (fun i g hg => by simpa using hf (i + 1) g (by simpa using hg)) fun m hm => hw m (Or.inr hm)
  refine ⟨(x, z), ?_, ⟨hx2, hz2⟩, ?_⟩
  ·show _ = K.cells x ++ L.cells z
   rw [← hx1, ← hz1, ← List.drop_drop, List.take_append_drop]
  show K.bulk x + L.bulk z ≤ Rows.uptoBulk y.1 + Rows.uptoBulkAll (ys.map (·.1))
  omega
theorem opens_struct {α : Type} {K : Kind α} {fs : Array Field} (ht : P.underlying t = some (.struct fs)) (hc : P.cellsOf t = K.size) (hF : FOpens P 0 fs.toList K) : Opens P t K := by
 refine ⟨hc, fun H enc w base held fuel cs y h hw => ?_⟩
 obtain ⟨xs, n, _, rfl, hl, hxl, hf⟩ := DataW.trod_struct ht h
 obtain ⟨x, h1, h2, h3⟩ := hF H enc w base held n cs xs (by omega) (by simpa using hxl) (fun i f hi => hf i f (by simpa using hi)) fun m hm => hw m (by simp only [DataW.weights, ht]; exact hm)
 refine ⟨x, by simpa using h1, h2, ?_⟩
 simp only [Rows.uptoBulk]
 omega
theorem open_arg {H : Type} {enc : TypeId × Value → H} {W : World} {base : Nat} {α : Type} {K : Kind α} (hK : Opens P t K) {v : Value} {d : DataW H} {p : List MemPlace} (h : DataW.Trod enc P W base (fun _ => true) true t v d p) (hw : ∀ n ∈ d.weights P t, n ≤ reachBytes) :
  ∃ x, v.cells.toList = K.cells x ∧ K.mem W W.heap.size x ∧ K.bulk x ≤ Rows.uptoBulk d := by
 obtain ⟨fuel, hf⟩ := h
 exact hK.2 H enc W base true fuel _ _ hf hw
theorem val_slice {W : World} {base : Nat} {e : TypeId} {v u : Value} (ht : P.underlying t = some (.slice e)) (h : Value.okWide P W .any base t v) (hc : v.cells.toList = [u]) : v = u := by
 obtain ⟨a, n, c, rfl⟩ := okWide_slice ht h
 simpa [Value.cells] using hc
theorem val_agg {W : World} {base : Nat} {fs : Array Field} {v : Value} {l : List Value} (ht : P.underlying t = some (.struct fs)) (h : Value.okWide P W .any base t v) (hc : v.cells.toList = l) : v = .agg l.toArray := by
 obtain ⟨cs, rfl, _⟩ := okWide_struct ht h
 subst hc
 simp [Value.cells]
theorem sized_arg {H : Type} {ts : List TypeId} {ds : List (DataW H)} {j : Nat} {d : DataW H} (h : (DataW.weightsEach P ts ds).all (· ≤ reachBytes) = true) (ht : ts[j]? = some t) (hd : ds[j]? = some d) : ∀ n ∈ d.weights P t, n ≤ reachBytes := by
 intro n hn
 have := List.all_eq_true.1 h n (DataW.weights_mem_each ht hd n hn)
 simpa using this
end
end Go.Proofs.YtecejnilajbdpaaGreatDoor
