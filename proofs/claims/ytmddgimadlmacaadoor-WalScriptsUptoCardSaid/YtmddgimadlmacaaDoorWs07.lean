import Derived.Test.YtmddgimadlmacaaDoorWs02
import Derived.StillTailTactics
import Derived.Deep.RegionHeld3
import Derived.Test.YtmddgimadlmacaaDoorWs05
import Derived.Test.YtmddgimadlmacaaDoorWs06
/-
  Blocks that are known whole; rows of the call's own, written out.
-/
namespace Go.Proofs.YtmddgimadlmacaaDoor
open Go.RowKit Garner

theorem step_app {P : Program} (w : World) {ops : Array Oper} {o : Oper} {a : Act} {K : Act → World → Prop} {Q : Exit → Act → World → Prop} {E0 : Prop} (hgd : o.guard = none) {s x : Operand} {t e : TypeId} {z : Value} {size bytes : Nat} (E : Elem P t e z size bytes)
    (ho : o.op = .call { callee := .builtin .append, args := #[s, x], argTypes := #[t, t] }) {base : Nat}
    {v : Value} {n : Nat} {xs : List Value} (hs : a.eval s = v) (hown : w.ownsRow base e size v n xs)
    {B : Nat} {A : Option Addr} {m m' c : Nat} {news : List Value} (hx : a.eval x = .slice A m c) (hr : Row w B size A m' news) (h1 : ∀ u ∈ news, u.oneCell' = true)
    (hbytes : (n + m') * bytes ≤ 140737488355328) (hbase : base ≤ w.heap.size)
    (h : ∀ v' w', w'.ownsRow base e size v' (n + m') (xs ++ news) → w.grownBy w' v.ownBlock → Below base w w' → (v'.ownBlock = v.ownBlock ∨ v'.ownBlock = some w.heap.size) → K (a.put o.dst v') w') (hm : m' = m := by first | rfl | omega) :
    if Region.wanted o (yielded ops a.tmps) = true then Oper.wp P o a w K Q else E0 := by
  subst hm
  have hw : Region.wanted o (yielded ops a.tmps) = true := by simp [Region.wanted, hgd]
  rw [if_pos hw]
  exact wp_app w E ho hs hown hx hr h1 hbytes hbase h

/-- a block known whole -/
def Blk (w : World) (g : Nat) (t : TypeId) (cs : List Value) : Prop := w.heap[g]? = some (.cells cs.toArray t (0, 0))
theorem Blk.lt {w : World} {g : Nat} {t : TypeId} {cs : List Value} (h : Blk w g t cs) : g < w.heap.size := (Array.getElem?_eq_some_iff.1 h).1
theorem Blk.new (w : World) (t : TypeId) (cs : List Value) : Blk (w.alloc (.cells cs.toArray t)) w.heap.size t cs := heap_alloc_new w _
theorem Blk.drew {w : World} {g : Nat} {t : TypeId} {cs : List Value} (h : Blk w g t cs) : Blk w.drew g t cs := h
theorem Blk.drewN {w : World} {g : Nat} {t : TypeId} {cs : List Value} (h : Blk w g t cs) (n : Nat) : Blk (w.drewN n) g t cs := h
theorem Blk.alloc {w : World} {g : Nat} {t : TypeId} {cs : List Value} (h : Blk w g t cs) (o : Obj) : Blk (w.alloc o) g t cs := (Below.heap_alloc w o g h.lt).trans h
theorem Blk.below {w w' : World} {g B : Nat} {t : TypeId} {cs : List Value} (h : Blk w g t cs) (hb : Below B w w') (hg : g < B) : Blk w' g t cs := (hb.block g hg).trans h
theorem Blk.grown {w w' : World} {g : Nat} {t : TypeId} {cs : List Value} (h : Blk w g t cs) {row : Option Nat} (hb : w.grownBy w' row) (hne : some g ≠ row) : Blk w' g t cs := (hb.block g h.lt hne).trans h
theorem Blk.cell {w : World} {g : Nat} {t : TypeId} {cs : List Value} (h : Blk w g t cs) (i : Nat) : w.cell? ⟨g, i, none⟩ = cs[i]? := by
  unfold Blk at h; simp [World.cell?, h]

theorem row_newN (w : World) (t : TypeId) (sz n : Nat) (l : List Value) (h : l.length = n * sz) : Row (w.alloc (.cells l.toArray t)) (w.heap.size + 1) sz (some ⟨w.heap.size, 0, none⟩) n l := by
  refine ⟨h, fun _ => ⟨w.heap.size, 0, rfl, by omega, fun j u hu => ?_⟩⟩
  rw [cell_new _ _ _ _ _ rfl]
  simpa using hu
theorem Blk.frozen {w : World} {g : Nat} {t : TypeId} {cs : List Value} (h : Blk w g t cs) (i : Nat) : w.frozen? ⟨g, i, none⟩ = false := by
  unfold Blk at h; simp [World.frozen?, h]
theorem Blk.set_ {w : World} {g : Nat} {t : TypeId} {cs : List Value} (h : Blk w g t cs) (i : Nat) (u : Value) : Blk (w.setCell ⟨g, i, none⟩ u) g t (cs.set i u) := by
  unfold Blk at h ⊢
  simp [World.setCell, Array.getElem?_modify, h]
theorem own_slice {w : World} {B : Nat} {e : TypeId} {sz n : Nat} {v : Value} {xs : List Value} (h : w.ownsRow B e sz v n xs) : ∃ A c, v = .slice A n c := by
  rcases h.2 with ⟨rfl, h0⟩ | ⟨g, cap, cur, rfl, _⟩
  · exact ⟨none, 0, by rw [h0]⟩
  · exact ⟨_, _, rfl⟩
theorem OwnB.shapeC {w : World} {B : Nat} {v : Value} {l : List UInt8} (h : OwnB w B v l) : ∃ A c, v = .slice A l.length c ∧ l.length ≤ c ∧ Bytes w w.heap.size A l.length l := by
  rcases h.2 with ⟨rfl, h0⟩ | ⟨g, cap, cur, rfl, _, _, hc, _⟩
  · rw [h0]; exact ⟨none, 0, rfl, by omega, by rw [List.eq_nil_of_length_eq_zero h0]; exact Row.none_⟩
  · exact ⟨_, _, rfl, hc, Row.of_own h⟩
end Go.Proofs.YtmddgimadlmacaaDoor
namespace Go.Proofs.YtmddgimadlmacaaDoor
open Go.RowKit Garner

theorem zeroFile (w : World) : (zeroValue 79).run Tryd.prog w = .ok (.agg #[.slice none 0 0, .int .i64 0]) w := by kernel_rfl
abbrev strKey : List UInt8 → Value := fun s => Value.string ⟨s.toArray⟩
/-- a disk's box -/
def diskV (mp : Nat) (down taken : Bool) (left : Int) : List Value := [.map (some mp), .bool down, .bool taken, .int .i64 left]
set_option maxRecDepth 100000 in
set_option maxHeartbeats 2000000 in
theorem vNew (w : World) : Calls Tryd.prog 9 #[] w fun e w' => e = .returned (.pointer (some ⟨w.heap.size + 1, 0, none⟩)) ∧ MapIs (fun s : List UInt8 => Value.string ⟨s.toArray⟩) w' w.heap.size [] ∧ Blk w' (w.heap.size + 1) 76 (diskV w.heap.size false false (-1)) ∧ Below w.heap.size w w' := by
  have hmm := @run_makeMap Tryd.prog
  go_enter Tryd.func9, Tryd.ntmps9
  go_wp2
  go_ret
  refine ⟨rfl, (MapIs.made w).alloc _, ?_, ((Below.refl _ _).alloc (Nat.le_refl _) _).alloc (by simp) _⟩
  have h := Blk.new (w.alloc (.map #[] 0)) 76 (diskV w.heap.size false false (-1))
  rw [World.size_alloc] at h
  exact h
end Go.Proofs.YtmddgimadlmacaaDoor
namespace Go.Proofs.YtmddgimadlmacaaDoor
open Go.RowKit Garner

/-- what may says of names -/
def dmay (names : List ByteArray) (down : Bool) : Nat := if names.all nameOk then (if down then 23 else 0) else 1
set_option maxRecDepth 100000 in
set_option maxHeartbeats 4000000 in
theorem vDmay (names : List ByteArray) (A : Option Addr) (c B g mp : Nat) (a b : Bool) (left : Int) (w : World) (hr : Row w B 1 A names.length (names.map Value.string)) (hB : B ≤ w.heap.size) (hd : Blk w g 76 (diskV mp a b left)) (hl : names.length ≤ 1000) :
    Calls Tryd.prog 44 #[.pointer (some ⟨g, 0, none⟩), .slice A names.length c] w fun e w' => e = .returned (.int .i64 (dmay names b)) ∧ Below w.heap.size w w' := by
  have hgw : g < w.heap.size := hd.lt
  go_enter Tryd.func44, Tryd.ntmps44
  go_wp2_with fail
  go_loopw [11] (fun i wr => ∃ k : Nat, k ≤ names.length ∧ i = .int .i64 k ∧ Hid ((names.take k).all nameOk = true) ∧ Below w.heap.size w wr) (fun i _ => names.length - (intOf i).toNat)
  case atStart => exact ⟨0, by omega, rfl, rfl, Below.refl _ _⟩
  case round =>
    obtain ⟨k, hk, rfl, hall, hbel⟩ := hrel
    obtain ⟨wo, rfl⟩ : ∃ wo : World, wo = wr := ⟨_, rfl⟩
    by_cases hlt : (k : Int) < names.length
    · have hlt' : k < names.length := by omega
      obtain ⟨bb, off, rfl, hb, hcell⟩ := (hr.below (hbel.mono hB)).at_ (k := k) hlt'
      have c0 : wo.cell? ⟨bb, off + k, none⟩ = some (.string names[k]) := by have := hcell k (by simpa using hlt'); simpa using this
      clear hcell
      have hnx : (names.take (k + 1)).all nameOk = nameOk names[k] := by
        rw [List.take_succ_eq_append_getElem hlt', List.all_append, hall.out]; simp
      obtain ⟨s, hs⟩ : ∃ s, s = names[k] := ⟨_, rfl⟩
      rw [← hs] at c0 hnx
      have Hs := Lib.hid hs; clear hs
      have Hnx := Lib.hid hnx; clear hnx
      go_wp2_with fail
      refine (vName s wo).mono ?_
      rintro e w2 ⟨rfl, hb2⟩
      have hb02 : Below w.heap.size w w2 := hbel.trans (hb2.mono hbel.size)
      cases hn : nameOk s with
      | true =>
        have hn2 : Hid ((names.take (k + 1)).all nameOk = true) := Hnx.out.trans hn
        clear hn
        go_wp2
        go_roundw
        case rel =>
          first
            | exact ⟨k + 1, by omega, by go_num, hn2, hb02⟩
            | ((repeat apply Exists.intro); exact ⟨⟨k + 1, by omega, by go_num, hn2, hb02⟩, rfl⟩)
        case measure => simp [intOf]; omega
      | false =>
        have hn2 : Hid (dmay names b = 1) := by
          show dmay names b = 1
          unfold dmay; rw [if_neg]
          intro h
          rw [List.all_eq_true] at h
          have := h s (by rw [Hs.out]; exact List.getElem_mem hlt')
          rw [hn] at this; cases this
        clear hn
        go_wp2
        go_ret
        rw [hn2.out]
        exact ⟨rfl, hb02⟩
    · obtain rfl : k = names.length := by omega
      rw [List.take_length] at hall
      have hd2 : Hid (dmay names b = if b then 23 else 0) := by show dmay names b = _; unfold dmay; rw [if_pos hall.out]
      have x2 : wo.cell? ⟨g, 2, none⟩ = some (.bool b) := (hbel.cell (p := ⟨g, 2, none⟩) hgw).trans (hd.cell 2)
      cases b
      all_goals
        go_wp2
        go_ret
        rw [hd2.out]
        exact ⟨rfl, hbel⟩
end Go.Proofs.YtmddgimadlmacaaDoor
