import Derived.Test.YtkojmgnbmnjmmaaDoorNl22
import Derived.Test.YtkojmgnbmnjmmaaDoorNl21
import Derived.Sort.AssemblyPlain
/-! rexp: pairs sorted by slices.SortFunc -/
namespace Garner
open Go Go.Sort Go.Proofs
/-- a pair of runes -/
abbrev PairB : Type := { p : Nat × Nat // p.1 ≤ 1114111 ∧ p.2 ≤ 1114111 }
instance : Inhabited PairB := ⟨⟨(0, 0), by decide⟩⟩
def cmpB (x y : PairB) : Int := (x.1.1 : Int) - (y.1.1 : Int)
theorem ltB (x y : PairB) : ltOf cmpB x y = decide (x.1.1 < y.1.1) := by
  unfold ltOf cmpB
  rw [decide_eq_decide]; omega
theorem swoB : SWO (ltOf cmpB) where
  irrefl x := by rw [ltB]; simp
  trans x y z h1 h2 := by rw [ltB] at *; simp at *; omega
  ntrans x y z h1 h2 := by rw [ltB] at *; simp at *; omega
theorem flatK_eq {enc : PairB → List Value} {f : Nat → Value} (he : ∀ x, enc x = [f x.1.1, f x.1.2]) (d : Array PairB) : (flatK enc 2 d).toList = (flatR (d.toList.map (·.1))).map f := by
  have hsz : (flatK enc 2 d).toList.length = ((flatR (d.toList.map (·.1))).map f).length := by
    rw [Array.length_toList, size_flatK, List.length_map, flat_length, List.length_map, Array.length_toList, Nat.mul_comm]
  refine List.ext_getElem hsz fun t h1 h2 => ?_
  have ht : t < d.size * 2 := by rw [Array.length_toList, size_flatK] at h1; exact h1
  have hk : t / 2 < d.size := by omega
  have e1 := get_flatK enc 2 d t ht
  rw [getElem!_pos _ t (by rw [size_flatK]; exact ht), he, getElem!_pos d (t / 2) hk] at e1
  rw [Array.getElem_toList, e1]
  have hp : (d.toList.map (·.1))[t / 2]? = some (d[t / 2]'hk).1 := by
    rw [List.getElem?_map, Array.getElem?_toList, Array.getElem?_eq_getElem hk]; rfl
  obtain ⟨f1, f2⟩ := flat_at hp
  have h3 : ((flatR (d.toList.map (·.1))).map f)[t]? = some ([f (d[t / 2]'hk).1.1, f (d[t / 2]'hk).1.2][t % 2]!) := by
    obtain ⟨q, hq⟩ : ∃ q, (d[t / 2]'hk).1 = q := ⟨_, rfl⟩
    rw [hq] at f1 f2 ⊢
    rcases Nat.mod_two_eq_zero_or_one t with h | h
    · have e : t = 2 * (t / 2) := by omega
      rw [← e] at f1
      rw [h, List.getElem?_map, f1]; rfl
    · have e : t = 2 * (t / 2) + 1 := by omega
      rw [← e] at f2
      rw [h, List.getElem?_map, f2]; rfl
  rw [List.getElem?_eq_getElem h2] at h3
  exact (Option.some.inj h3).symm
theorem sortedI_of : ∀ {l : List (Nat × Nat)}, (∀ i j (hi : i < j) (hj : j < l.length), (l[i]'(by omega)).1 ≤ l[j].1) → SortedI l
  | [], _ => trivial
  | [_], _ => trivial
  | p :: q :: r, h => ⟨h 0 1 (by omega) (by simp), sortedI_of fun i j hi hj => by
      have := h (i + 1) (j + 1) (by omega) (by simpa using hj)
      simpa using this⟩
/-- rows of one's own sorted in place -/
theorem holds_id {w : World} {g : Nat} {cur : Array Value} {e : TypeId} {F : Array Value} (hb : w.heap[g]? = some (.cells cur e (0, 0))) (ht : cur.toList.take F.size = F.toList) : Holds id w g 0 F := by
  intro j hj
  refine ⟨?_, by simp [World.frozen?, hb]⟩
  have h1 : (cur.toList.take F.size)[j]? = F.toList[j]? := by rw [ht]
  rw [List.getElem?_take_of_lt hj] at h1
  simp only [World.cell?, hb, Nat.zero_add]
  rw [Array.getElem?_toList, Array.getElem?_toList] at h1
  simpa [getElem!_pos F j hj, Array.getElem?_eq_getElem hj] using h1
theorem heap_sortedId {w : World} {g n : Nat} {os : Array Obj} {cur : Array Value} {e : TypeId} {fr : Nat × Nat} (d : Array Value) (hb : w.heap[g]? = some (.cells cur e fr)) :
    (grow (putRow id (Sort.ahead w n) g 0 d) os).heap[g]? = some (.cells (putCells id 0 d cur) e fr) := by
  have hg : g < w.heap.size := (Array.getElem?_eq_some_iff.1 hb).1
  rw [heap_grow_old _ _ (by simpa using hg)]
  simp [putRow, mapBlock, Sort.ahead, Array.getElem?_modify, hb, onCells]
theorem grownBy_sortedId {w : World} {g n : Nat} {os : Array Obj} (d : Array Value) : w.grownBy (grow (putRow id (Sort.ahead w n) g 0 d) os) (some g) := by
  refine ⟨rfl, rfl, rfl, by simp, fun k hk hne => ?_⟩
  rw [heap_grow_old _ _ (by simpa using hk)]
  have : g ≠ k := fun e => hne (by rw [e])
  simp [putRow, mapBlock, Sort.ahead, Array.getElem?_modify, this]
theorem take_putCellsId (cur : Array Value) (ts : Array Value) (h : ts.size ≤ cur.size) : (putCells id 0 ts cur).toList.take ts.size = ts.toList := by
  apply List.ext_getElem?
  intro j
  by_cases hj : j < ts.size
  · rw [List.getElem?_take_of_lt hj, Array.getElem?_toList]
    simp [putCells, hj, show j < cur.size by omega]
  · rw [List.getElem?_take_eq_none (by omega), List.getElem?_eq_none (by simp; omega)]
theorem ownsRow_sortedId {w : World} {base g cap n sz m : Nat} {e : TypeId} {os : Array Obj} {cur : Array Value} {ts : Array Value} (hl : ts.size = n * sz) (hbase : base ≤ g) (hb : w.heap[g]? = some (.cells cur e (0, 0)))
    (h1 : n ≤ cap) (h2 : cap ≤ maxLen) (h3 : cur.size = cap * sz) :
    (grow (putRow id (Sort.ahead w m) g 0 ts) os).ownsRow base e sz (.slice (some ⟨g, 0, none⟩) n cap) n ts.toList := by
  have hle : n * sz ≤ cap * sz := Nat.mul_le_mul_right _ h1
  exact ⟨by simp [hl], .inr ⟨g, cap, _, rfl, hbase, heap_sortedId _ hb, h1, h2, by simp [putCells, h3], by rw [← hl]; exact take_putCellsId cur ts (by omega)⟩⟩
end Garner
namespace Go.Proofs.YtkojmgnbmnjmmaaDoor
open Go.RowKit Go.Sort Garner
def encB (x : PairB) : List Value := [rv x.1.1, rv x.1.2]
set_option maxHeartbeats 1000000 in
theorem vCmp (x y : PairB) (W : World) : Calls Tryd.prog 116 #[.agg #[rv x.1.1, rv x.1.2], .agg #[rv y.1.1, rv y.1.2]] W fun e w' => e = .returned (.int .i64 (cmpB x y)) ∧ ∃ q os', w' = grow (W.drewN q) os' := by
  unfold cmpB rv
  obtain ⟨a, ha⟩ : ∃ a, x.1.1 = a := ⟨_, rfl⟩
  obtain ⟨b, hb⟩ : ∃ b, x.1.2 = b := ⟨_, rfl⟩
  obtain ⟨c, hc⟩ : ∃ c, y.1.1 = c := ⟨_, rfl⟩
  obtain ⟨d, hd⟩ : ∃ d, y.1.2 = d := ⟨_, rfl⟩
  have h1 := x.2.1
  have h2 := y.2.1
  rw [ha] at h1
  rw [hc] at h2
  rw [ha, hb, hc, hd]
  clear ha hb hc hd
  have w1 : IntKind.i32.wrap ((a : Int) - (c : Int)) = (a : Int) - (c : Int) := by simp [IntKind.wrap, IntKind.bits, IntKind.signed]; omega
  have w2 : IntKind.i64.wrap ((a : Int) - (c : Int)) = (a : Int) - (c : Int) := by rw [IntKind.wrap_i64]; omega
  go_enter Tryd.func116, Tryd.ntmps116
  go_wp2
  go_ret
  exact ⟨rfl, 0, _, by rw [alloc_eq_grow, alloc_eq_grow, grow_grow]; rfl⟩
set_option maxHeartbeats 1000000 in
theorem vSortP (l : List (Nat × Nat)) (v : Value) (B : Nat) (w : World) (hown : w.ownsRow B 149 2 v l.length ((flatR l).map rv)) (hl : l ≠ []) (hp : ∀ p ∈ l, p.1 ≤ 1114111 ∧ p.2 ≤ 1114111) (h100 : l.length ≤ 1000) :
    Calls Tryd.prog 115 #[v, .func (.func 116) #[] #[]] w fun e w' => e = .returned (.tuple #[]) ∧ ∃ l' : List (Nat × Nat), l'.Perm l ∧ SortedI l' ∧ w'.ownsRow B 149 2 v l.length ((flatR l').map rv) ∧ w.grownBy w' v.ownBlock := by
  have h0 : 0 < l.length := List.length_pos_iff.2 hl
  rcases hown.2 with ⟨rfl, h1⟩ | ⟨g, cap, cur, rfl, hbase, hb, h1, h2, h3, h4⟩
  · omega
  · obtain ⟨d, hd⟩ : ∃ d : Array PairB, d = (l.pmap Subtype.mk hp).toArray := ⟨_, rfl⟩
    have hdl : d.toList.map (·.1) = l := by
      rw [hd]; simp [List.map_pmap]
    have hds : d.size = l.length := by rw [hd]; simp
    have hF := flatK_eq (enc := encB) (f := rv) (fun _ => rfl) d
    rw [hdl] at hF
    have hFs : (flatK encB 2 d).size = l.length * 2 := by rw [size_flatK, hds]
    have hH : HoldsK encB 2 w g 0 d := holds_id hb (by rw [hFs, hF]; exact h4)
    have eg : ∀ args w, (callFunc 116 args).run Tryd.prog w = .ok (.enter 116 args) w := enters_of Tryd.func116 (by kernel_rfl) rfl
    have hcon := AnyQ.slices_SortFunc Tryd.eSortF 2 Tryd.isAgg149 Tryd.sizeOf149 encB (fun _ => rfl) (fun x v hv => by simp [encB] at hv; rcases hv with rfl | rfl <;> rfl) cmpB swoB 116 #[] g 0 cap d w eg (fun _ _ _ _ x y => vCmp x y _) hH (Array.getElem?_eq_some_iff.1 hb).1 (by omega)
    rw [hds] at hcon
    refine Calls.mono hcon ?_
    rintro e w' ⟨rfl, d', n, os, hperm, hsort, rfl⟩
    have hs' : d'.size = d.size := hperm.1
    have hF' := flatK_eq (enc := encB) (f := rv) (fun _ => rfl) d'
    refine ⟨rfl, d'.toList.map (·.1), ?_, ?_, ?_, grownBy_sortedId _⟩
    · have hp2 := hperm.2.2
      rw [show d'.extract 0 l.length = d' by rw [← hds, ← hs']; simp, show d.extract 0 l.length = d by rw [← hds]; simp] at hp2
      rw [← hdl]
      exact hp2.map _
    · refine sortedI_of fun i j hi hj => ?_
      rw [List.length_map, Array.length_toList] at hj
      have := hsort i j (Nat.zero_le _) hi (by omega)
      rw [ltB, getElem!_pos d' j hj, getElem!_pos d' i (by omega)] at this
      simpa using this
    · rw [← hF']
      exact ownsRow_sortedId (by rw [size_flatK, hs', hds]) hbase hb h1 h2 h3
end Go.Proofs.YtkojmgnbmnjmmaaDoor
