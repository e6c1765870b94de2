import Derived.Test.YtecejnilajbdpaaGreatDoorTu30
import Derived.Test.YtecejnilajbdpaaGreatDoorTu31
import Derived.Test.YtecejnilajbdpaaGreatDoorTu11
/-! slices.Clone of rows of structs; label.Canon of one label; query.named -/
namespace Go.Proofs.YtecejnilajbdpaaGreatDoor
open Go.RowKit Go.Shelf Garner
theorem labE : Elem Tryz.prog 36 43 (.agg #[.string .empty, .string .empty]) 2 32 := ⟨Tryz.underlying36, by kernel_rfl, rfl, by omega, by omega⟩
theorem matE : Elem Tryz.prog 22 69 (.agg #[.string .empty, .int .i64 0, .string .empty]) 3 40 := ⟨Tryz.underlying22, by kernel_rfl, rfl, by omega, by omega⟩
theorem filE : Elem Tryz.prog 23 71 (.agg #[.int .i64 0, .string .empty]) 2 24 := ⟨Tryz.underlying23, by kernel_rfl, rfl, by omega, by omega⟩
/-- Clone of a row of structs: new memory -/
def CloneP (e : TypeId) (sz n : Nat) (xs : List Value) (w : World) (en : Ending) (w' : World) : Prop := ∃ v, en = .returned v ∧ w'.ownsRow w.heap.size e sz v n xs ∧ Below w.heap.size w w'
set_option maxRecDepth 100000 in
set_option maxHeartbeats 4000000 in
theorem vCloneLab (n : Nat) (xs : List Value) (A : Option Addr) (c B : Nat) (w : World) (hr : Row w B 2 A n xs) (h1 : ∀ u ∈ xs, u.oneCell' = true) (hB : B ≤ w.heap.size) (hl : n ≤ 1000000000000) :
    Calls Tryz.prog 34 #[.slice A n c] w fun e w' => CloneP 43 2 n xs w e w' := by
  have hq := fun (u : World) (a : Option Addr) (n c : Nat) => Lib.run_eql_slice_nil (P := Tryz.prog) u 36 43 a n c 0 0 Tryz.underlying36
  cases A with
  | none =>
    have h0 : n = 0 := by
      rcases Nat.eq_zero_or_pos n with h | h
      · exact h
      · obtain ⟨_, _, h, _⟩ := hr.2 h; cases h
    subst h0
    obtain rfl : xs = [] := List.eq_nil_of_length_eq_zero (by have := hr.1; omega)
    go_enter Tryz.func34, Tryz.ntmps34
    go_wp2
    go_ret
    exact ⟨_, rfl, World.ownsRow_nil _ _ _ _, Below.refl _ _⟩
  | some a =>
    go_enter Tryz.func34, Tryz.ntmps34
    have hown : (w.alloc (.cells #[] 43)).ownsRow w.heap.size 43 2 (.slice (some ⟨w.heap.size, 0, none⟩) 0 0) 0 [] := own_empty (heap_alloc_new _ _) (Nat.le_refl _)
    go_wp2_with (at_builtin; refine wpList_app _ rfl labE rfl rfl hown rfl (hr.alloc hB _) h1 (by omega) (by simp) ?_; intro v3 w3 hown3 hg3 hb3 _)
    go_ret
    exact ⟨v3, rfl, by simpa using hown3, ((Below.refl _ _).alloc (Nat.le_refl _) _).trans hb3⟩
set_option maxRecDepth 100000 in
set_option maxHeartbeats 4000000 in
theorem vInsLab1 (A : Option Addr) (c : Nat) (fv : Value) (w : World) :
    Calls Tryz.prog 162 #[.slice A 1 c, .int .i64 0, .int .i64 1, fv] w fun e w' => e = .returned (.tuple #[]) ∧ Below w.heap.size w w' := by
  go_enter Tryz.func162, Tryz.ntmps162
  go_wp2_with fail
  refine wp_loop_rounds 2 ?_
  rw [rounds_succ]
  go_wp2_with fail
  go_end0
  exact ⟨rfl, Below.refl _ _⟩
set_option maxRecDepth 100000 in
set_option maxHeartbeats 4000000 in
theorem vPdqLab1 (A : Option Addr) (c : Nat) (lim : Int) (fv : Value) (w : World) :
    Calls Tryz.prog 144 #[.slice A 1 c, .int .i64 0, .int .i64 1, .int .i64 lim, fv] w fun e w' => e = .returned (.tuple #[]) ∧ Below w.heap.size w w' := by
  have H := Lib.hid (vInsLab1 A c fv w)
  go_enter Tryz.func144, Tryz.ntmps144
  go_wp2_with fail
  refine wp_loop_rounds 2 ?_
  rw [rounds_succ]
  go_wp2_with fail
  refine H.out.mono ?_
  rintro e w1 ⟨rfl, hb⟩
  go_wp2
  refine bodyPost_ret (results_none rfl _ _ _) rfl ?_
  exact ⟨rfl, hb⟩
set_option maxRecDepth 100000 in
set_option maxHeartbeats 4000000 in
/-- slices.SortFunc of one label: nothing moves -/
theorem vSortLab1 (A : Option Addr) (c : Nat) (fv : Value) (w : World) :
    Calls Tryz.prog 118 #[.slice A 1 c, fv] w fun e w' => e = .returned (.tuple #[]) ∧ Below w.heap.size w w' := by
  have hb := Tryz.bits_Len 1 w (by decide) (by decide)
  have HB := Lib.hid hb
  clear hb
  go_enter Tryz.func118, Tryz.ntmps118
  go_wp2_with fail
  refine HB.out.mono ?_
  rintro e w1 ⟨rfl, hz⟩
  obtain rfl : w = w1 := hz.symm
  have H := Lib.hid (vPdqLab1 A c (Lib.bitLen (Int.toNat 1) : Nat) fv w)
  go_wp2_with fail
  refine H.out.mono ?_
  rintro e w1 ⟨rfl, hb⟩
  go_wp2
  go_end0
  exact ⟨rfl, hb⟩
def CanonO (b : Bool) (w : World) (e : Ending) (w' : World) : Prop := ∃ v, e = .returned (.tuple #[v, .int .i64 (if b = true then 0 else 6)]) ∧ Below w.heap.size w w'
theorem below_dn {B : Nat} {a w : World} (h : Below B a w) (n : Nat) : Below B a (w.drewN n) := ⟨h.os, h.tape, h.output, h.size, h.block⟩
set_option maxRecDepth 100000 in
set_option maxHeartbeats 8000000 in
/-- Canon of one label without a value -/
theorem vCanon1 (S : ByteArray) (s : Bs) (hS : S = ⟨s.toArray⟩) (b : Nat) (w : World) (hL : Lt w) (hb : Blk w b 43 [.string S, .string ⟨#[]⟩]) (hl : s.length ≤ 9223372036854775807) :
    Calls Tryz.prog 87 #[.slice (some ⟨b, 0, none⟩) 1 1] w fun e w' => CanonO (nameP s) w e w' := by
  obtain ⟨ANS, hA⟩ : ∃ ANS, nameP s = ANS := ⟨_, rfl⟩
  have c0 : w.cell? ⟨b, 0, none⟩ = some (.string S) := hb.cell 0
  have c1 : w.cell? ⟨b, 1, none⟩ = some (.string ⟨#[]⟩) := hb.cell 1
  have hrow : Row w w.heap.size 2 (some ⟨b, 0, none⟩) 1 [.string S, .string ⟨#[]⟩] := ⟨rfl, fun _ => ⟨b, 0, rfl, hb.lt, fun j u hu => by rw [Nat.zero_add, hb.cell j]; exact hu⟩⟩
  obtain ⟨X, hX⟩ : ∃ X, X = w.alloc (.cells #[.string S, .string ⟨#[]⟩] 43) := ⟨_, rfl⟩
  have hwX : Below w.heap.size w X := by rw [hX]; exact (Below.refl _ _).alloc (Nat.le_refl _) _
  have bX : Blk X w.heap.size 43 [.string S, .string ⟨#[]⟩] := by rw [hX]; exact Blk.new w _ _
  have x0 : X.cell? ⟨w.heap.size, 0, none⟩ = some (.string S) := bX.cell 0
  have hn := vLName S s hS X hl
  rw [hA] at hn ⊢
  have HN := Lib.hid hn; have HwX := Lib.hid hwX; have BX := Lib.hid bX; have HL := Lib.hid hL; have HRow := Lib.hid hrow
  clear hn hwX bX hL hrow hb hA hS
  go_enter Tryz.func87, Tryz.ntmps87
  go_wp2_with fail
  refine wp_loop_rounds 3 ?_
  rw [rounds_succ]
  go_upto_region 6 with fail
  rw [← hX]
  clear hX c0 c1
  go_wp2_with fail
  refine HN.out.mono ?_
  rintro e w2 ⟨rfl, hb2⟩
  have hw2 := HwX.out.trans (hb2.mono HwX.out.size)
  cases ANS with
  | false =>
    have HW2 := Lib.hid hw2
    clear hb2 hw2 x0
    go_wp2
    go_ret2
    exact ⟨_, rfl, HW2.out⟩
  | true =>
    have y1 : w2.cell? ⟨w.heap.size, 1, none⟩ = some (.string ⟨#[]⟩) := (BX.out.below hb2 BX.out.lt).cell 1
    have hu := cValid [] w2 (HL.out.below hw2) (by decide)
    rw [Lib.validD_nil] at hu
    have HU := Lib.hid hu; have HW2 := Lib.hid hw2
    clear hb2 hw2 x0 hu
    go_wp2_with fail
    refine HU.out.mono ?_
    rintro e w3 ⟨rfl, hb3⟩
    have hw3 := HW2.out.trans (hb3.mono HW2.out.size)
    have hcl := vCloneLab 1 [.string S, .string ⟨#[]⟩] (some ⟨b, 0, none⟩) 1 w.heap.size w3 (HRow.out.below hw3) (by simp [Value.oneCell']) hw3.size (by omega)
    have HCl := Lib.hid hcl; have HW3 := Lib.hid hw3
    clear hb3 hw3 hcl y1
    go_wp2_with fail
    rw [rounds_succ]
    go_wp2_with fail
    refine HCl.out.mono ?_
    rintro e w4 ⟨v4, rfl, o4, b4⟩
    obtain ⟨A4, c4, rfl, -⟩ := own_form o4
    have HSo := Lib.hid (vSortLab1 A4 c4); have HW4 := Lib.hid (HW3.out.trans (b4.mono HW3.out.size))
    clear o4 b4 HCl
    go_wp2_with fail
    refine (HSo.out _ _).mono ?_
    rintro e w5 ⟨rfl, b5⟩
    have HW5 := Lib.hid (HW4.out.trans (b5.mono HW4.out.size))
    clear b5
    go_wp2_with fail
    refine wp_loop_rounds 3 ?_
    rw [rounds_succ]
    go_upto_region 18 with fail
    go_quiet (fail)
    go_wp2
    rw [rounds_succ]
    go_wp2
    go_ret2
    exact ⟨_, rfl, below_dn HW5.out _⟩
set_option maxRecDepth 100000 in
set_option maxHeartbeats 8000000 in
theorem vNamed (S : ByteArray) (s : Bs) (hS : S = ⟨s.toArray⟩) (w : World) (hL : Lt w) (hl : s.length ≤ 9223372036854775807) :
    Calls Tryz.prog 59 #[.string S] w fun e w' => e = .returned (.bool (nameP s)) ∧ Below w.heap.size w w' := by
  obtain ⟨X, hX⟩ : ∃ X, X = w.alloc (.cells #[.string S, .string ⟨#[]⟩] 43) := ⟨_, rfl⟩
  have hwX : Below w.heap.size w X := by rw [hX]; exact (Below.refl _ _).alloc (Nat.le_refl _) _
  have bX : Blk X w.heap.size 43 [.string S, .string ⟨#[]⟩] := by rw [hX]; exact Blk.new w _ _
  have hc := vCanon1 S s hS w.heap.size X (hL.below hwX) bX hl
  obtain ⟨ANS, hA⟩ : ∃ ANS, nameP s = ANS := ⟨_, rfl⟩
  rw [hA] at hc ⊢
  have HC := Lib.hid hc; have HwX := Lib.hid hwX
  clear hc hwX bX hL hA hS
  go_enter Tryz.func59, Tryz.ntmps59
  go_wp2_with fail
  rw [← hX]
  clear hX
  refine HC.out.mono ?_
  rintro e w2 ⟨v, rfl, hb2⟩
  have HW2 := Lib.hid (HwX.out.trans (hb2.mono HwX.out.size))
  clear hb2 HC
  cases ANS with
  | false =>
    go_wp2
    go_ret
    exact ⟨rfl, HW2.out⟩
  | true =>
    go_wp2
    go_ret
    exact ⟨rfl, HW2.out⟩
end Go.Proofs.YtecejnilajbdpaaGreatDoor

/-! query: all -/
namespace Garner
open Go
theorem MatP.cells_len (m : MatP) : m.cells.length = 3 := rfl
theorem FilP.cells_len (f : FilP) : f.cells.length = 2 := rfl
theorem str_form (s : Bs) : ∃ S : ByteArray, strB s = .string S ∧ S = ⟨s.toArray⟩ := ⟨_, rfl, rfl⟩
end Garner
namespace Go.Proofs.YtecejnilajbdpaaGreatDoor
open Go.RowKit Go.Shelf Garner
theorem Blk.appq {w w' : World} {B g n sz : Nat} {e t : TypeId} {cs xs : List Value} {v : Value} (h : Blk w g t cs) (ho : w.ownsRow B e sz v n xs) (hne : e ≠ t) (hg : w.grownBy w' v.ownBlock) : Blk w' g t cs :=
  h.grown hg fun e1 => by
    have := own_blk ho h hne
    rw [← e1] at this
    simp at this
theorem row_cells {α : Type} {f : α → List Value} {sz : Nat} (hf : ∀ x, (f x).length = sz) {w : World} {B n : Nat} {A : Option Addr} {l : List α} (h : Row w B sz A n (l.flatMap f)) {k : Nat} {x : α} (hx : l[k]? = some x) (hn : k < n) : ∃ b off, A = some ⟨b, off, none⟩ ∧ b < B ∧ ∀ j, j < sz → w.cell? ⟨b, off + (k * sz + j), none⟩ = (f x)[j]? := by
  obtain ⟨b, off, e, hb, hc⟩ := h.2 (by omega)
  refine ⟨b, off, e, hb, fun j hj => ?_⟩
  obtain ⟨v, hv⟩ : ∃ v, (f x)[j]? = some v := ⟨_, List.getElem?_eq_getElem (by rw [hf]; exact hj)⟩
  rw [hv]
  exact hc _ v (by rw [cells3_at hf hx j hj]; exact hv)
/-- a query's rows in memory -/
structure QueryAt (w : World) (MA : Option Addr) (nm : Nat) (FA : Option Addr) (nf : Nat) (q : QueryP) : Prop where
  ms : Row w w.heap.size 3 MA nm (q.ms.flatMap MatP.cells)
  fs : Row w w.heap.size 2 FA nf (q.fs.flatMap FilP.cells)
  nm_ : q.ms.length = nm
  nf_ : q.fs.length = nf
  sm : ∀ m ∈ q.ms, m.name.length ≤ 140737488355328 ∧ m.val.length ≤ 140737488355328
  sf : ∀ f ∈ q.fs, f.text.length ≤ 140737488355328
section
variable {w w' : World} {MA FA : Option Addr} {nm nf : Nat} {q : QueryP}
theorem QueryAt.below (h : QueryAt w MA nm FA nf q) (hb : Below w.heap.size w w') : QueryAt w' MA nm FA nf q :=
  ⟨(h.ms.below hb).more hb.size, (h.fs.below hb).more hb.size, h.nm_, h.nf_, h.sm, h.sf⟩
/-- a matcher's cells, at every world above -/
theorem QueryAt.mat (h : QueryAt w MA nm FA nf q) {k : Nat} {m : MatP} (hm : q.ms[k]? = some m) : ∃ b off, MA = some ⟨b, off, none⟩ ∧ ∀ wx, Below w.heap.size w wx → wx.cell? ⟨b, off + k * 3, none⟩ = some (strB m.name) ∧ wx.cell? ⟨b, off + k * 3 + 1, none⟩ = some (.int .i64 m.op) ∧ wx.cell? ⟨b, off + k * 3 + 2, none⟩ = some (strB m.val) := by
  have hk : k < nm := by rw [← h.nm_]; exact (List.getElem?_eq_some_iff.1 hm).1
  obtain ⟨b, off, e, hb, hc⟩ := row_cells MatP.cells_len h.ms hm hk
  refine ⟨b, off, e, fun wx hx => ?_⟩
  have key : ∀ j, j < 3 → wx.cell? ⟨b, off + (k * 3 + j), none⟩ = m.cells[j]? := fun j hj => by
    rw [hx.cell (p := ⟨b, off + (k * 3 + j), none⟩) hb]; exact hc j hj
  refine ⟨key 0 (by omega), ?_, ?_⟩
  · have := key 1 (by omega); rwa [← Nat.add_assoc] at this
  · have := key 2 (by omega); rwa [← Nat.add_assoc] at this
theorem fil_cells {B : Nat} {l : List FilP} {A : Option Addr} {n : Nat} (h : Row w B 2 A n (l.flatMap FilP.cells)) {k : Nat} {f : FilP} (hf : l[k]? = some f) (hk : k < n) : ∃ b off, A = some ⟨b, off, none⟩ ∧ ∀ wx, Below B w wx → wx.cell? ⟨b, off + k * 2, none⟩ = some (.int .i64 f.op) ∧ wx.cell? ⟨b, off + k * 2 + 1, none⟩ = some (strB f.text) := by
  obtain ⟨b, off, e, hb, hc⟩ := row_cells FilP.cells_len h hf hk
  refine ⟨b, off, e, fun wx hx => ?_⟩
  have key : ∀ j, j < 2 → wx.cell? ⟨b, off + (k * 2 + j), none⟩ = f.cells[j]? := fun j hj => by
    rw [hx.cell (p := ⟨b, off + (k * 2 + j), none⟩) hb]; exact hc j hj
  refine ⟨key 0 (by omega), ?_⟩
  have := key 1 (by omega); rwa [← Nat.add_assoc] at this
end
theorem fil_one (l : List FilP) : ∀ u ∈ l.flatMap FilP.cells, u.oneCell' = true := by
  intro u hu
  obtain ⟨f, -, h⟩ := List.mem_flatMap.1 hu
  simp [FilP.cells, strB] at h
  rcases h with rfl | rfl <;> rfl
set_option maxRecDepth 100000 in
set_option maxHeartbeats 16000000 in
theorem vAllQ (q : QueryP) (MA FA : Option Addr) (nm nf cm cf : Nat) (w : World) (hq : QueryAt w MA nm FA nf q) (hnm : nm ≤ 1000000) (hnf : nf ≤ 1000000) :
    Calls Tryz.prog 38 #[.agg #[.slice MA nm cm, .slice FA nf cf]] w fun e w' => ∃ v, e = .returned v ∧ w'.ownsRow w.heap.size 71 2 v (partsQ q).length ((partsQ q).flatMap FilP.cells) ∧ Below w.heap.size w w' := by
  obtain ⟨X, hX⟩ : ∃ X, X = w.alloc (.cells #[.slice MA nm cm, .slice FA nf cf] 25) := ⟨_, rfl⟩
  have hwX : Below w.heap.size w X := by rw [hX]; exact (Below.refl _ _).alloc (Nat.le_refl _) _
  have bX : Blk X w.heap.size 25 [.slice MA nm cm, .slice FA nf cf] := by rw [hX]; exact Blk.new w _ _
  have x0 : X.cell? ⟨w.heap.size, 0, none⟩ = some (.slice MA nm cm) := bX.cell 0
  have HQ := Lib.hid hq; have HwX := Lib.hid hwX; have BX := Lib.hid bX
  clear hq hwX bX
  go_enter Tryz.func38, Tryz.ntmps38
  go_upto_region 1 with fail
  rw [← hX]
  clear hX
  go_wp2
  go_loopw [3, 9] (fun v i wr => ∃ k : Nat, k ≤ nm ∧ i = .int .i64 k ∧ Hid (wr.ownsRow w.heap.size 71 2 v k (((q.ms.take k).map MatP.part).flatMap FilP.cells)) ∧ Hid (Blk wr w.heap.size 25 [.slice MA nm cm, .slice FA nf cf]) ∧ Hid (Below w.heap.size w wr)) (fun _ i _ => nm - (intOf i).toNat)
  case atStart => exact ⟨0, Nat.zero_le _, rfl, Lib.hid (World.ownsRow_nil _ _ _ _), BX, HwX⟩
  case round =>
    obtain ⟨k, hk, rfl, hO, hB, hbw⟩ := hrel
    obtain ⟨wo, rfl⟩ : ∃ wo : World, wo = wr := ⟨_, rfl⟩
    obtain ⟨OA, oc, rfl, -⟩ := own_form hO.out
    have wk1 : IntKind.i64.wrap ((k : Int) + 1) = ((k + 1 : Nat) : Int) := by rw [IntKind.wrap_i64]; omega
    by_cases hlt : k < nm
    · have z1 : (k : Int) < (nm : Int) := by omega
      obtain ⟨m, hm⟩ : ∃ m, q.ms[k]? = some m := ⟨_, List.getElem?_eq_getElem (by rw [HQ.out.nm_]; exact hlt)⟩
      obtain ⟨b, off, rfl, hc⟩ := HQ.out.mat hm
      obtain ⟨c0, c1, c2⟩ := hc wo hbw.out
      obtain ⟨N1, e1, -⟩ := str_form m.name
      obtain ⟨N2, e2, -⟩ := str_form m.val
      rw [e1] at c0
      rw [e2] at c2
      obtain ⟨mo, hmo⟩ : ∃ mo, m.op = mo := ⟨_, rfl⟩
      rw [hmo] at c1
      have hnx : ((q.ms.take (k + 1)).map MatP.part).flatMap FilP.cells = ((q.ms.take k).map MatP.part).flatMap FilP.cells ++ [.int .i64 mo, .string N2] := by
        rw [List.take_add_one, hm, Option.toList_some, List.map_append, List.flatMap_append]
        simp [MatP.part, FilP.cells, hmo, e2]
      have hs := hbw.out.size
      have HNx := Lib.hid hnx
      clear hnx hc hm e1 e2 hmo
      obtain ⟨V, hV⟩ : ∃ V, V = wo.alloc (.cells #[.string N1, .int .i64 mo, .string N2] 69) := ⟨_, rfl⟩
      have bV : Below wo.heap.size wo V := by rw [hV]; exact (Below.refl _ _).alloc (Nat.le_refl _) _
      have kV : Blk V wo.heap.size 69 [.string N1, .int .i64 mo, .string N2] := by rw [hV]; exact Blk.new wo _ _
      have v0 : V.cell? ⟨wo.heap.size, 0, none⟩ = some (.string N1) := kV.cell 0
      have v1 : V.cell? ⟨wo.heap.size, 1, none⟩ = some (.int .i64 mo) := kV.cell 1
      have v2 : V.cell? ⟨wo.heap.size, 2, none⟩ = some (.string N2) := kV.cell 2
      have OV := Lib.hid (own_below hO.out bV); have BV := Lib.hid (hB.out.below bV hB.out.lt); have LV := Lib.hid (hbw.out.trans (bV.mono hs))
      have hsV : w.heap.size ≤ V.heap.size := LV.out.size
      clear bV kV hO hB hbw
      go_upto_region 5 with fail
      rw [← hV]
      clear hV c0 c1 c2
      go_wp2_with (at_builtin; refine wpList_app _ rfl filE rfl rfl (OV.out.alloc _) rfl (row_newN V 71 2 1 [_, _] rfl) (by simp [Value.oneCell']) (by first | omega | (simp; omega)) (by simp; omega) ?_; intro v8 w8 own8 hg8 hb8 hx8)
      have hO8 : Hid (w8.ownsRow w.heap.size 71 2 v8 (k + 1) (((q.ms.take (k + 1)).map MatP.part).flatMap FilP.cells)) := Lib.hid (by rw [HNx.out]; exact own8)
      have hX8 := Lib.hid ((BV.out.alloc _).appq (OV.out.alloc _) (by decide) hg8); have hB8 := Lib.hid ((LV.out.alloc hsV (.cells #[.int .i64 mo, .string N2] 71)).trans hb8)
      clear own8 hg8 hb8 hx8 v0 v1 v2
      go_wp2
      go_roundw
      case rel => exact ⟨k + 1, by omega, by first | rfl | go_num, hO8, hX8, hB8⟩
      case measure => simp [intOf]; omega
    · obtain rfl : k = nm := by omega
      have z1 : ¬ (k : Int) < (k : Int) := by omega
      have y1 : wo.cell? ⟨w.heap.size, 1, none⟩ = some (.slice FA nf cf) := hB.out.cell 1
      have hrow := (HQ.out.fs.below hbw.out)
      have hs := hbw.out.size
      have HR := Lib.hid hrow; have hnf2 := Lib.hid HQ.out.nf_; have hnm2 := Lib.hid HQ.out.nm_
      clear hrow
      go_wp2_with (at_builtin; refine wpList_app _ rfl filE rfl rfl hO.out rfl HR.out (fil_one _) (by omega) hs ?_; intro v8 w8 own8 hg8 hb8 hx8)
      have hO8 : Hid (w8.ownsRow w.heap.size 71 2 v8 (partsQ q).length ((partsQ q).flatMap FilP.cells)) := Lib.hid (by
        unfold partsQ
        rw [List.length_append, List.length_map, hnm2.out, hnf2.out, List.flatMap_append]
        rw [List.take_of_length_le (by rw [hnm2.out]; exact Nat.le_refl _)] at own8
        exact own8)
      have hB8 := Lib.hid (hbw.out.trans hb8)
      clear own8 hg8 hb8 hx8
      go_wp2
      go_ret
      exact ⟨_, rfl, hO8.out, hB8.out⟩
end Go.Proofs.YtecejnilajbdpaaGreatDoor

