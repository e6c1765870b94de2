import Derived.Test.YtecejnilajbdpaaGreatDoorRows
import Derived.Test.YtecejnilajbdpaaGreatDoorTy02
import Derived.ProofKit
import Derived.OpenShut
import Derived.SizedLaws
import Derived.Deep.CondSized
namespace Go.Proofs.YtecejnilajbdpaaGreatDoor
open Go.ChangeShapes Go.WideShapes Go.RowKit
structure Kind (α : Type) where
 cells : α → List Value
 size : Nat
 mem : World → Nat → α → Prop
 bulk : α → Nat
def Opens (P : Program) (t : TypeId) {α : Type} (K : Kind α) : Prop :=
 P.cellsOf t = K.size ∧ ∀ (H : Type) (enc : TypeId × Value → H) (w : World) (base : Nat) (held : Bool) (fuel : Nat) (cs : List Value) (y : DataW H × List MemPlace),
  DataW.trod enc P w base (fun _ => true) held fuel t cs = some y → (∀ n ∈ y.1.weights P t, n ≤ reachBytes) →
  ∃ x, cs = K.cells x ∧ K.mem w w.heap.size x ∧ K.bulk x ≤ Rows.uptoBulk y.1
def kStr : Kind ByteArray := ⟨fun s => [.string s], 1, fun _ _ s => s.size ≤ reachBytes, fun s => s.size + 1⟩
structure Sl (α : Type) where
 A : Option Addr
 c : Nat
 l : List α
structure SlMem {α : Type} (K : Kind α) (bytes : Nat) (w : World) (B : Nat) (s : Sl α) : Prop where
 row : Row w B K.size s.A s.l.length (s.l.flatMap K.cells)
 cap : s.l.length ≤ s.c
 room : s.c * bytes ≤ reachBytes
 all : ∀ x ∈ s.l, K.mem w B x
 nil : s.A = none → s.c = 0
section
variable {P : Program} {t : TypeId}
theorem opens_str (ht : P.underlying t = some .string) (hc : P.cellsOf t = 1) : Opens P t kStr := by
 refine ⟨hc, fun H enc w base held fuel cs y h hw => ?_⟩
 obtain ⟨s, rfl, rfl, _⟩ := DataW.trod_string ht h
 have h1 := hw s.data.toList.length (by simp [DataW.weights])
 have e : s.data.toList.length = s.size := Array.length_toList
 rw [e] at h1
 exact ⟨s, rfl, h1, by simp only [Rows.uptoBulk, e]; exact Nat.le_refl _⟩
theorem flat_len {α : Type} {f : α → List Value} {sz : Nat} : ∀ {l : List α}, (∀ x ∈ l, (f x).length = sz) → (l.flatMap f).length = l.length * sz
 | [], _ => by simp
 | x :: r, hs => by
  rw [List.flatMap_cons, List.length_append, hs x (by simp), flat_len fun z hz => hs z (by simp [hz]), List.length_cons, Nat.add_mul]; omega
theorem open_arg {H : Type} {enc : TypeId × Value → H} {W : World} {base : Nat} {α : Type} {K : Kind α} (hK : Opens P t K) {v : Value} {d : DataW H} {p : List MemPlace} (h : DataW.Trod enc P W base (fun _ => true) true t v d p) (hw : ∀ n ∈ d.weights P t, n ≤ reachBytes) :
  ∃ x, v.cells.toList = K.cells x ∧ K.mem W W.heap.size x ∧ K.bulk x ≤ Rows.uptoBulk d := by
 obtain ⟨fuel, hf⟩ := h
 exact hK.2 H enc W base true fuel _ _ hf hw
theorem val_str {W : World} {base : Nat} {v u : Value} (ht : P.underlying t = some .string) (h : Value.okWide P W .any base t v) (hc : v.cells.toList = [u]) : v = u := by
 obtain ⟨s, rfl⟩ := okWide_string ht h
 simpa [Value.cells] using hc
theorem sized_arg {H : Type} {ts : List TypeId} {ds : List (DataW H)} {j : Nat} {d : DataW H} (h : (DataW.weightsEach P ts ds).all (· ≤ reachBytes) = true) (ht : ts[j]? = some t) (hd : ds[j]? = some d) : ∀ n ∈ d.weights P t, n ≤ reachBytes := by
 intro n hn
 have := List.all_eq_true.1 h n (DataW.weights_mem_each ht hd n hn)
 simpa using this
end
end Go.Proofs.YtecejnilajbdpaaGreatDoor
