import Derived.Test.YtmcacicopgckmaaGreatDoorLn38
import Derived.Laws.CopyOwn
import Derived.BigQuiet
/-! garnerref19: Ends at leaves -/
namespace Go.Proofs.YtmcacicopgckmaaGreatDoor
open Go.RowKit Garner
theorem Blk.own {w : World} {B g n : Nat} {e : TypeId} {xs : List Value} (h : Blk w g e xs) (hB : B ≤ g) (hn : xs.length = n) (hm : n ≤ maxLen) : w.ownsRow B e 1 (.slice (some ⟨g, 0, none⟩) n n) n xs :=
  ⟨by omega, .inr ⟨g, n, xs.toArray, rfl, hB, h, Nat.le_refl _, hm, by simp [hn], by simp [List.take_of_length_le, hn]⟩⟩
theorem node_cells {F : Nat → Prop} {W0 : World} {B0 : Nat} {A : Option Addr} {c : Nat} {ns : List NodeP} (hN : NodesIs F W0 B0 (.slice A ns.length c) ns) {n : NodeP} {k : Nat} (hk : ns[k]? = some n) {w : World} (hb : Below W0.heap.size W0 w) :
    ∃ gN kA kc sA sc, A = some ⟨gN, 0, none⟩ ∧ gN < W0.heap.size ∧ w.cell? ⟨gN, k * 5, none⟩ = some (.int .i64 (n.kind : Nat)) ∧ w.cell? ⟨gN, k * 5 + 1, none⟩ = some (.slice kA n.kids.length kc) ∧ w.cell? ⟨gN, k * 5 + 2, none⟩ = some (.int .i64 (n.mn : Nat)) ∧ w.cell? ⟨gN, k * 5 + 3, none⟩ = some (.int .i64 n.mx) ∧ w.cell? ⟨gN, k * 5 + 4, none⟩ = some (.slice sA n.set.length sc) ∧ RowT w 3 kA n.kids.length (n.kids.map iv) ∧ RowT w 21 sA n.set.length (n.set.map rv) := by
  obtain ⟨gN, d, rfl, hd, hok, hgN, hcell⟩ := hN.node hk
  have cc : ∀ j, j < 5 → w.cell? ⟨gN, k * 5 + j, none⟩ = d.cells[j]? := fun j hj => by
    rw [hb.cell (p := ⟨gN, k * 5 + j, none⟩) hgN, hcell j hj]
  have h1 := hok.kids.below hb
  have h2 := hok.set.below hb
  subst hd
  exact ⟨gN, d.kA, d.kc, d.sA, d.sc, rfl, hgN, cc 0 (by omega), cc 1 (by omega), cc 2 (by omega), cc 3 (by omega), cc 4 (by omega), h1, h2⟩
/-- a tree's nodes and a text's runes in memory -/
structure EIn (W0 : World) (A : Option Addr) (c : Nat) (ns : List NodeP) (SA : Option Addr) (s : List Nat) (n m : Nat) : Prop where
  nodes : ∃ F B0, NodesIs F W0 B0 (.slice A ns.length c) ns
  few : ns.length ≤ 10000
  runes : RowT W0 21 SA n (s.map rv)
  len : s.length = n
  m_ : n + 1 = m
  small : n ≤ 1500000
  sets : ∀ nd ∈ ns, nd.set.length ≤ 100000
section
variable {W0 : World} {A : Option Addr} {c : Nat} {ns : List NodeP} {SA : Option Addr} {sc : Nat} {s : List Nat} {n m : Nat}
end
end Go.Proofs.YtmcacicopgckmaaGreatDoor

