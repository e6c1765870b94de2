import Derived.Test.YtecejnilajbdpaaGreatDoorTz28
import Derived.Test.YtecejnilajbdpaaGreatDoorTz33
set_option maxRecDepth 100000
set_option maxHeartbeats 32000000
namespace Go.Proofs.YtecejnilajbdpaaGreatDoor
open Go.RowKit Go.Shelf Garner
theorem labE : Elem Tryz.prog 36 43 (.agg #[.string .empty, .string .empty]) 2 32 := ⟨Tryz.underlying36, by kernel_rfl, rfl, by omega, by omega⟩
theorem matE : Elem Tryz.prog 22 69 (.agg #[.string .empty, .int .i64 0, .string .empty]) 3 40 := ⟨Tryz.underlying22, by kernel_rfl, rfl, by omega, by omega⟩
theorem filE : Elem Tryz.prog 23 71 (.agg #[.int .i64 0, .string .empty]) 2 24 := ⟨Tryz.underlying23, by kernel_rfl, rfl, by omega, by omega⟩
def CloneP (e : TypeId) (sz n : Nat) (xs : List Value) (w : World) (en : Ending) (w' : World) : Prop := ∃ v, en = .returned v ∧ w'.ownsRow w.heap.size e sz v n xs ∧ Below w.heap.size w w'
theorem vCloneLab (n : Nat) (xs : List Value) (A : Option Addr) (c B : Nat) (w : World) (hr : Row w B 2 A n xs) (h1 : ∀ u ∈ xs, u.oneCell' = true) (hB : B ≤ w.heap.size) (hl : n ≤ 1000000000000) :
  Calls Tryz.prog 34 #[.slice A n c] w fun e w' => CloneP 43 2 n xs w e w' := by
 have hq := fun (u : World) (a : Option Addr) (n c : Nat) => Lib.run_eql_slice_nil (P := Tryz.prog) u 36 43 a n c 0 0 Tryz.underlying36
 cases A with
 | none =>
  have h0 : n = 0 := by
   rcases Nat.eq_zero_or_pos n with h | h
   ·exact h
   obtain ⟨_, _, h, _⟩ := hr.2 h; cases h
  subst h0
  obtain rfl : xs = [] := List.eq_nil_of_length_eq_zero (by have := hr.1; omega)
  go_enter Tryz.func34, Tryz.ntmps34
  go_wp2
  go_ret
  exact ⟨_, rfl, World.ownsRow_nil _ _ _ _, Below.refl _ _⟩
 | some a =>
  go_enter Tryz.func34, Tryz.ntmps34
  have hown : (w.alloc (.cells #[] 43)).ownsRow w.heap.size 43 2 (.slice (some ⟨w.heap.size, 0, none⟩) 0 0) 0 [] := own_empty (heap_alloc_new _ _) (Nat.le_refl _)
  go_wp2_with (at_builtin; refine wpList_app _ rfl labE rfl rfl hown rfl (hr.alloc hB _) h1 (by omega) (by simp) ?_; intro v3 w3 hown3 hg3 hb3 _)
  go_ret
  exact ⟨v3, rfl, by simpa using hown3, ((Below.refl _ _).alloc (Nat.le_refl _) _).trans hb3⟩
theorem vInsLab1 (A : Option Addr) (c : Nat) (fv : Value) (w : World) :
  Calls Tryz.prog 162 #[.slice A 1 c, .int .i64 0, .int .i64 1, fv] w fun e w' => e = .returned (.tuple #[]) ∧ Below w.heap.size w w' := by
 go_enter Tryz.func162, Tryz.ntmps162
 go_wp2_with fail
 refine wp_loop_rounds 2 ?_
 rw [rounds_succ]
 go_wp2_with fail
 go_end0
 exact ⟨rfl, Below.refl _ _⟩
theorem vPdqLab1 (A : Option Addr) (c : Nat) (lim : Int) (fv : Value) (w : World) :
  Calls Tryz.prog 144 #[.slice A 1 c, .int .i64 0, .int .i64 1, .int .i64 lim, fv] w fun e w' => e = .returned (.tuple #[]) ∧ Below w.heap.size w w' := by
 have H := Lh (vInsLab1 A c fv w)
 go_enter Tryz.func144, Tryz.ntmps144
 go_wp2_with fail
 refine wp_loop_rounds 2 ?_
 rw [rounds_succ]
 go_wp2_with fail
 refine H.out.mono ?_
 rintro e w1 ⟨rfl, hb⟩
 go_wp2
 refine bodyPost_ret (results_none rfl _ _ _) rfl ?_
 exact ⟨rfl, hb⟩
theorem vSortLab1 (A : Option Addr) (c : Nat) (fv : Value) (w : World) :
  Calls Tryz.prog 118 #[.slice A 1 c, fv] w fun e w' => e = .returned (.tuple #[]) ∧ Below w.heap.size w w' := by
 have hb := Tryz.bits_Len 1 w (by decide) (by decide)
 have HB := Lh hb
 clear hb
 go_enter Tryz.func118, Tryz.ntmps118
 go_wp2_with fail
 refine HB.out.mono ?_
 rintro e w1 ⟨rfl, hz⟩
 obtain rfl : w = w1 := hz.symm
 have H := Lh (vPdqLab1 A c (Lib.bitLen (Int.toNat 1) : Nat) fv w)
 go_wp2_with fail
 refine H.out.mono ?_
 rintro e w1 ⟨rfl, hb⟩
 go_wp2
 go_end0
 exact ⟨rfl, hb⟩
def CanonO (b : Bool) (w : World) (e : Ending) (w' : World) : Prop := ∃ v, e = .returned (.tuple #[v, .int .i64 (if b = true then 0 else 6)]) ∧ Below w.heap.size w w'
theorem below_dn {B : Nat} {a w : World} (h : Below B a w) (n : Nat) : Below B a (w.drewN n) := ⟨h.os, h.tape, h.output, h.size, h.block⟩
theorem vCanon1 (S : ByteArray) (s : Bs) (hS : S = ⟨s.toArray⟩) (b : Nat) (w : World) (hL : Lt w) (hb : Blk w b 43 [.string S, .string ⟨#[]⟩]) (hl : s.length ≤ 9223372036854775807) :
  Calls Tryz.prog 87 #[.slice (some ⟨b, 0, none⟩) 1 1] w fun e w' => CanonO (nameP s) w e w' := by
 obtain ⟨ANS, hA⟩ : ∃ ANS, nameP s = ANS := ⟨_, rfl⟩
 have c0 : w.cell? ⟨b, 0, none⟩ = some (.string S) := hb.cell 0
 have c1 : w.cell? ⟨b, 1, none⟩ = some (.string ⟨#[]⟩) := hb.cell 1
 have hrow : Row w w.heap.size 2 (some ⟨b, 0, none⟩) 1 [.string S, .string ⟨#[]⟩] := ⟨rfl, fun _ => ⟨b, 0, rfl, hb.lt, fun j u hu => by rw [Nat.zero_add, hb.cell j]; exact hu⟩⟩
 obtain ⟨X, hX⟩ : ∃ X, X = w.alloc (.cells #[.string S, .string ⟨#[]⟩] 43) := ⟨_, rfl⟩
 have hwX : Below w.heap.size w X := by rw [hX]; exact (Below.refl _ _).alloc (Nat.le_refl _) _
 have bX : Blk X w.heap.size 43 [.string S, .string ⟨#[]⟩] := by rw [hX]; exact Blk.new w _ _
 have x0 : X.cell? ⟨w.heap.size, 0, none⟩ = some (.string S) := bX.cell 0
 have hn := vLName S s hS X hl
 rw [hA] at hn ⊢
 have HN := Lh hn; have HwX := Lh hwX; have BX := Lh bX; have HL := Lh hL; have HRow := Lh hrow
 clear hn hwX bX hL hrow hb hA hS
 go_enter Tryz.func87, Tryz.ntmps87
 go_wp2_with fail
 refine wp_loop_rounds 3 ?_
 rw [rounds_succ]
 go_upto_region 6 with fail
 rw [← hX]
 clear hX c0 c1
 go_wp2_with fail
 refine HN.out.mono ?_
 rintro e w2 ⟨rfl, hb2⟩
 have hw2 := HwX.out.trans (hb2.mono HwX.out.size)
 cases ANS with
 | false =>
  have HW2 := Lh hw2
  clear hb2 hw2 x0
  go_wp2
  go_ret2
  exact ⟨_, rfl, HW2.out⟩
 | true =>
  have y1 : w2.cell? ⟨w.heap.size, 1, none⟩ = some (.string ⟨#[]⟩) := (BX.out.below hb2 BX.out.lt).cell 1
  have hu := cValid [] w2 (HL.out.below hw2) (by decide)
  rw [Lib.validD_nil] at hu
  have HU := Lh hu; have HW2 := Lh hw2
  clear hb2 hw2 x0 hu
  go_wp2_with fail
  refine HU.out.mono ?_
  rintro e w3 ⟨rfl, hb3⟩
  have hw3 := HW2.out.trans (hb3.mono HW2.out.size)
  have hcl := vCloneLab 1 [.string S, .string ⟨#[]⟩] (some ⟨b, 0, none⟩) 1 w.heap.size w3 (HRow.out.below hw3) (by simp [Value.oneCell']) hw3.size (by omega)
  have HCl := Lh hcl; have HW3 := Lh hw3
  clear hb3 hw3 hcl y1
  go_wp2_with fail
  rw [rounds_succ]
  go_wp2_with fail
  refine HCl.out.mono ?_
  rintro e w4 ⟨v4, rfl, o4, b4⟩
  obtain ⟨A4, c4, rfl, -⟩ := own_form o4
  have HSo := Lh (vSortLab1 A4 c4); have HW4 := Lh (HW3.out.trans (b4.mono HW3.out.size))
  clear o4 b4 HCl
  go_wp2_with fail
  refine (HSo.out _ _).mono ?_
  rintro e w5 ⟨rfl, b5⟩
  have HW5 := Lh (HW4.out.trans (b5.mono HW4.out.size))
  clear b5
  go_wp2_with fail
  refine wp_loop_rounds 3 ?_
  rw [rounds_succ]
  go_upto_region 18 with fail
  go_quiet (fail)
  go_wp2
  rw [rounds_succ]
  go_wp2
  go_ret2
  exact ⟨_, rfl, below_dn HW5.out _⟩
theorem vNamed (S : ByteArray) (s : Bs) (hS : S = ⟨s.toArray⟩) (w : World) (hL : Lt w) (hl : s.length ≤ 9223372036854775807) :
  Calls Tryz.prog 59 #[.string S] w fun e w' => e = .returned (.bool (nameP s)) ∧ Below w.heap.size w w' := by
 obtain ⟨X, hX⟩ : ∃ X, X = w.alloc (.cells #[.string S, .string ⟨#[]⟩] 43) := ⟨_, rfl⟩
 have hwX : Below w.heap.size w X := by rw [hX]; exact (Below.refl _ _).alloc (Nat.le_refl _) _
 have bX : Blk X w.heap.size 43 [.string S, .string ⟨#[]⟩] := by rw [hX]; exact Blk.new w _ _
 have hc := vCanon1 S s hS w.heap.size X (hL.below hwX) bX hl
 obtain ⟨ANS, hA⟩ : ∃ ANS, nameP s = ANS := ⟨_, rfl⟩
 rw [hA] at hc ⊢
 have HC := Lh hc; have HwX := Lh hwX
 clear hc hwX bX hL hA hS
 go_enter Tryz.func59, Tryz.ntmps59
 go_wp2_with fail
 rw [← hX]
 clear hX
 refine HC.out.mono ?_
 rintro e w2 ⟨v, rfl, hb2⟩
 have HW2 := Lh (HwX.out.trans (hb2.mono HwX.out.size))
 clear hb2 HC
 cases ANS with
 | false =>
  go_wp2
  go_ret
  exact ⟨rfl, HW2.out⟩
 | true =>
  go_wp2
  go_ret
  exact ⟨rfl, HW2.out⟩
end Go.Proofs.YtecejnilajbdpaaGreatDoor
namespace Garner
open Go
theorem MatP.cells_len (m : MatP) : m.cells.length = 3 := rfl
theorem FilP.cells_len (f : FilP) : f.cells.length = 2 := rfl
theorem str_form (s : Bs) : ∃ S : ByteArray, strB s = .string S ∧ S = ⟨s.toArray⟩ := ⟨_, rfl, rfl⟩
end Garner
namespace Go.Proofs.YtecejnilajbdpaaGreatDoor
open Go.RowKit Go.Shelf Garner
theorem Blk.appq {w w' : World} {B g n sz : Nat} {e t : TypeId} {cs xs : List Value} {v : Value} (h : Blk w g t cs) (ho : w.ownsRow B e sz v n xs) (hne : e ≠ t) (hg : w.grownBy w' v.ownBlock) : Blk w' g t cs :=
 h.grown hg fun e1 => by
  have := own_blk ho h hne
  rw [← e1] at this
  simp at this
theorem row_cells {α : Type} {f : α → List Value} {sz : Nat} (hf : ∀ x, (f x).length = sz) {w : World} {B n : Nat} {A : Option Addr} {l : List α} (h : Row w B sz A n (l.flatMap f)) {k : Nat} {x : α} (hx : l[k]? = some x) (hn : k < n) : ∃ b off, A = some ⟨b, off, none⟩ ∧ b < B ∧ ∀ j, j < sz → w.cell? ⟨b, off + (k * sz + j), none⟩ = (f x)[j]? := by
 obtain ⟨b, off, e, hb, hc⟩ := h.2 (by omega)
 refine ⟨b, off, e, hb, fun j hj => ?_⟩
 obtain ⟨v, hv⟩ : ∃ v, (f x)[j]? = some v := ⟨_, List.getElem?_eq_getElem (by rw [hf]; exact hj)⟩
 rw [hv]
 exact hc _ v (by rw [cells3_at hf hx j hj]; exact hv)
structure QueryAt (w : World) (MA : Option Addr) (nm : Nat) (FA : Option Addr) (nf : Nat) (q : QueryP) : Prop where
 ms : Row w w.heap.size 3 MA nm (q.ms.flatMap MatP.cells)
 fs : Row w w.heap.size 2 FA nf (q.fs.flatMap FilP.cells)
 nm_ : q.ms.length = nm
 nf_ : q.fs.length = nf
 sm : ∀ m ∈ q.ms, m.name.length ≤ 140737488355328 ∧ m.val.length ≤ 140737488355328
 sf : ∀ f ∈ q.fs, f.text.length ≤ 140737488355328
section
variable {w w' : World} {MA FA : Option Addr} {nm nf : Nat} {q : QueryP}
theorem QueryAt.below (h : QueryAt w MA nm FA nf q) (hb : Below w.heap.size w w') : QueryAt w' MA nm FA nf q :=
 ⟨(h.ms.below hb).more hb.size, (h.fs.below hb).more hb.size, h.nm_, h.nf_, h.sm, h.sf⟩
theorem QueryAt.mat (h : QueryAt w MA nm FA nf q) {k : Nat} {m : MatP} (hm : q.ms[k]? = some m) : ∃ b off, MA = some ⟨b, off, none⟩ ∧ ∀ wx, Below w.heap.size w wx → wx.cell? ⟨b, off + k * 3, none⟩ = some (strB m.name) ∧ wx.cell? ⟨b, off + k * 3 + 1, none⟩ = some (.int .i64 m.op) ∧ wx.cell? ⟨b, off + k * 3 + 2, none⟩ = some (strB m.val) := by
 have hk : k < nm := by rw [← h.nm_]; exact (List.getElem?_eq_some_iff.1 hm).1
 obtain ⟨b, off, e, hb, hc⟩ := row_cells MatP.cells_len h.ms hm hk
 refine ⟨b, off, e, fun wx hx => ?_⟩
 have key : ∀ j, j < 3 → wx.cell? ⟨b, off + (k * 3 + j), none⟩ = m.cells[j]? := fun j hj => by
  rw [hx.cell (p := ⟨b, off + (k * 3 + j), none⟩) hb]; exact hc j hj
 refine ⟨key 0 (by omega), ?_, ?_⟩
 ·have := key 1 (by omega); rwa [← Nat.add_assoc] at this
 have := key 2 (by omega); rwa [← Nat.add_assoc] at this
theorem fil_cells {B : Nat} {l : List FilP} {A : Option Addr} {n : Nat} (h : Row w B 2 A n (l.flatMap FilP.cells)) {k : Nat} {f : FilP} (hf : l[k]? = some f) (hk : k < n) : ∃ b off, A = some ⟨b, off, none⟩ ∧ ∀ wx, Below B w wx → wx.cell? ⟨b, off + k * 2, none⟩ = some (.int .i64 f.op) ∧ wx.cell? ⟨b, off + k * 2 + 1, none⟩ = some (strB f.text) := by
 obtain ⟨b, off, e, hb, hc⟩ := row_cells FilP.cells_len h hf hk
 refine ⟨b, off, e, fun wx hx => ?_⟩
 have key : ∀ j, j < 2 → wx.cell? ⟨b, off + (k * 2 + j), none⟩ = f.cells[j]? := fun j hj => by
  rw [hx.cell (p := ⟨b, off + (k * 2 + j), none⟩) hb]; exact hc j hj
 refine ⟨key 0 (by omega), ?_⟩
 have := key 1 (by omega); rwa [← Nat.add_assoc] at this
end
theorem fil_one (l : List FilP) : ∀ u ∈ l.flatMap FilP.cells, u.oneCell' = true := by
 intro u hu
 obtain ⟨f, -, h⟩ := List.mem_flatMap.1 hu
 simp [FilP.cells, strB] at h
 rcases h with rfl | rfl <;> rfl
theorem vAllQ (q : QueryP) (MA FA : Option Addr) (nm nf cm cf : Nat) (w : World) (hq : QueryAt w MA nm FA nf q) (hnm : nm ≤ 1000000) (hnf : nf ≤ 1000000) :
  Calls Tryz.prog 38 #[.agg #[.slice MA nm cm, .slice FA nf cf]] w fun e w' => ∃ v, e = .returned v ∧ w'.ownsRow w.heap.size 71 2 v (partsQ q).length ((partsQ q).flatMap FilP.cells) ∧ Below w.heap.size w w' := by
 obtain ⟨X, hX⟩ : ∃ X, X = w.alloc (.cells #[.slice MA nm cm, .slice FA nf cf] 25) := ⟨_, rfl⟩
 have hwX : Below w.heap.size w X := by rw [hX]; exact (Below.refl _ _).alloc (Nat.le_refl _) _
 have bX : Blk X w.heap.size 25 [.slice MA nm cm, .slice FA nf cf] := by rw [hX]; exact Blk.new w _ _
 have x0 : X.cell? ⟨w.heap.size, 0, none⟩ = some (.slice MA nm cm) := bX.cell 0
 have HQ := Lh hq; have HwX := Lh hwX; have BX := Lh bX
 clear hq hwX bX
 go_enter Tryz.func38, Tryz.ntmps38
 go_upto_region 1 with fail
 rw [← hX]
 clear hX
 go_wp2
 go_loopw [3, 9] (fun v i wr => ∃ k : Nat, k ≤ nm ∧ i = .int .i64 k ∧ Hid (wr.ownsRow w.heap.size 71 2 v k (((q.ms.take k).map MatP.part).flatMap FilP.cells)) ∧ Hid (Blk wr w.heap.size 25 [.slice MA nm cm, .slice FA nf cf]) ∧ Hid (Below w.heap.size w wr)) (fun _ i _ => nm - (intOf i).toNat)
 case atStart => exact ⟨0, Nat.zero_le _, rfl, Lh (World.ownsRow_nil _ _ _ _), BX, HwX⟩
 obtain ⟨k, hk, rfl, hO, hB, hbw⟩ := hrel
 obtain ⟨wo, rfl⟩ : ∃ wo : World, wo = wr := ⟨_, rfl⟩
 obtain ⟨OA, oc, rfl, -⟩ := own_form hO.out
 have wk1 := wS k (by omega)
 by_cases hlt : k < nm
 ·have z1 : (k : Int) < (nm : Int) := by omega
  obtain ⟨m, hm⟩ : ∃ m, q.ms[k]? = some m := ⟨_, List.getElem?_eq_getElem (by rw [HQ.out.nm_]; exact hlt)⟩
  obtain ⟨b, off, rfl, hc⟩ := HQ.out.mat hm
  obtain ⟨c0, c1, c2⟩ := hc wo hbw.out
  obtain ⟨N1, e1, -⟩ := str_form m.name
  obtain ⟨N2, e2, -⟩ := str_form m.val
  rw [e1] at c0
  rw [e2] at c2
  obtain ⟨mo, hmo⟩ : ∃ mo, m.op = mo := ⟨_, rfl⟩
  rw [hmo] at c1
  have hnx : ((q.ms.take (k + 1)).map MatP.part).flatMap FilP.cells = ((q.ms.take k).map MatP.part).flatMap FilP.cells ++ [.int .i64 mo, .string N2] := by
   rw [List.take_add_one, hm, Option.toList_some, List.map_append, List.flatMap_append]
   simp [MatP.part, FilP.cells, hmo, e2]
  have hs := hbw.out.size
  have HNx := Lh hnx
  clear hnx hc hm e1 e2 hmo
  obtain ⟨V, hV⟩ : ∃ V, V = wo.alloc (.cells #[.string N1, .int .i64 mo, .string N2] 69) := ⟨_, rfl⟩
  have bV : Below wo.heap.size wo V := by rw [hV]; exact (Below.refl _ _).alloc (Nat.le_refl _) _
  have kV : Blk V wo.heap.size 69 [.string N1, .int .i64 mo, .string N2] := by rw [hV]; exact Blk.new wo _ _
  have v0 : V.cell? ⟨wo.heap.size, 0, none⟩ = some (.string N1) := kV.cell 0
  have v1 : V.cell? ⟨wo.heap.size, 1, none⟩ = some (.int .i64 mo) := kV.cell 1
  have v2 : V.cell? ⟨wo.heap.size, 2, none⟩ = some (.string N2) := kV.cell 2
  have OV := Lh (own_below hO.out bV); have BV := Lh (hB.out.below bV hB.out.lt); have LV := Lh (hbw.out.trans (bV.mono hs))
  have hsV : w.heap.size ≤ V.heap.size := LV.out.size
  clear bV kV hO hB hbw
  go_upto_region 5 with fail
  rw [← hV]
  clear hV c0 c1 c2
  go_wp2_with (at_builtin; refine wpList_app _ rfl filE rfl rfl (OV.out.alloc _) rfl (row_newN V 71 2 1 [_, _] rfl) (by simp [Value.oneCell']) (by first | omega | (simp; omega)) (by simp; omega) ?_; intro v8 w8 own8 hg8 hb8 hx8)
  have hO8 : Hid (w8.ownsRow w.heap.size 71 2 v8 (k + 1) (((q.ms.take (k + 1)).map MatP.part).flatMap FilP.cells)) := Lh (by rw [HNx.out]; exact own8)
  have hX8 := Lh ((BV.out.alloc _).appq (OV.out.alloc _) (by decide) hg8); have hB8 := Lh ((LV.out.alloc hsV (.cells #[.int .i64 mo, .string N2] 71)).trans hb8)
  clear own8 hg8 hb8 hx8 v0 v1 v2
  go_wp2
  go_roundw
  case rel => exact ⟨k + 1, by omega, by first | rfl | go_num, hO8, hX8, hB8⟩
  case measure => simp [intOf]; omega
 obtain rfl : k = nm := by omega
 have z1 : ¬ (k : Int) < (k : Int) := by omega
 have y1 : wo.cell? ⟨w.heap.size, 1, none⟩ = some (.slice FA nf cf) := hB.out.cell 1
 have hrow := (HQ.out.fs.below hbw.out)
 have hs := hbw.out.size
 have HR := Lh hrow; have hnf2 := Lh HQ.out.nf_; have hnm2 := Lh HQ.out.nm_
 clear hrow
 go_wp2_with (at_builtin; refine wpList_app _ rfl filE rfl rfl hO.out rfl HR.out (fil_one _) (by omega) hs ?_; intro v8 w8 own8 hg8 hb8 hx8)
 have hO8 : Hid (w8.ownsRow w.heap.size 71 2 v8 (partsQ q).length ((partsQ q).flatMap FilP.cells)) := Lh (by
  unfold partsQ
  rw [List.length_append, List.length_map, hnm2.out, hnf2.out, List.flatMap_append]
  rw [List.take_of_length_le (by rw [hnm2.out]; exact Nat.le_refl _)] at own8
  exact own8)
 have hB8 := Lh (hbw.out.trans hb8)
 clear own8 hg8 hb8 hx8
 go_wp2
 go_ret
 exact ⟨_, rfl, hO8.out, hB8.out⟩
end Go.Proofs.YtecejnilajbdpaaGreatDoor
namespace Garner
open Go
theorem check_ms {q : QueryP} (h1 : ¬ (16 < q.ms.length ∨ 16 < q.fs.length)) (h2 : q.ms.all matOk = false) : checkQ q = 50 := by unfold checkQ; rw [if_neg h1, if_pos h2]
theorem check_fs {q : QueryP} (h1 : ¬ (16 < q.ms.length ∨ 16 < q.fs.length)) (h2 : q.ms.all matOk = true) (h3 : q.fs.all filOk = false) : checkQ q = 50 := by unfold checkQ; rw [if_neg h1, if_neg (by rw [h2]; decide), if_pos h3]
theorem check_utf {q : QueryP} (h1 : ¬ (16 < q.ms.length ∨ 16 < q.fs.length)) (h2 : q.ms.all matOk = true) (h3 : q.fs.all filOk = true) (h4 : (partsQ q).all utfOk = false) : checkQ q = 8 := by unfold checkQ; rw [if_neg h1, if_neg (by rw [h2]; decide), if_neg (by rw [h3]; decide), if_pos h4]
theorem check_pat {q : QueryP} (h1 : ¬ (16 < q.ms.length ∨ 16 < q.fs.length)) (h2 : q.ms.all matOk = true) (h3 : q.fs.all filOk = true) (h4 : (partsQ q).all utfOk = true) (h5 : (partsQ q).all patOk = false) : checkQ q = 40 := by unfold checkQ; rw [if_neg h1, if_neg (by rw [h2]; decide), if_neg (by rw [h3]; decide), if_neg (by rw [h4]; decide), if_pos h5]
theorem check_ok {q : QueryP} (h1 : ¬ (16 < q.ms.length ∨ 16 < q.fs.length)) (h2 : q.ms.all matOk = true) (h3 : q.fs.all filOk = true) (h4 : (partsQ q).all utfOk = true) (h5 : (partsQ q).all patOk = true) : checkQ q = 0 := by unfold checkQ; rw [if_neg h1, if_neg (by rw [h2]; decide), if_neg (by rw [h3]; decide), if_neg (by rw [h4]; decide), if_neg (by rw [h5]; decide)]
theorem opOk_no {o : Int} (h : o < 1 ∨ 4 < o) : opOk o = false := by
 unfold opOk
 rw [Bool.and_eq_false_iff, decide_eq_false_iff_not, decide_eq_false_iff_not]; omega
theorem opOk_yes {o : Int} (h1 : 1 ≤ o) (h2 : o ≤ 4) : opOk o = true := by unfold opOk; rw [decide_eq_true h1, decide_eq_true h2]; rfl
end Garner
namespace Go.Proofs.YtecejnilajbdpaaGreatDoor
open Go.RowKit Go.Shelf Garner
theorem vLike (o : Int) (w : World) : Calls Tryz.prog 39 #[.int .i64 o] w fun e w' => e = .returned (.bool (likeO o)) ∧ w' = w := by
 obtain ⟨ANS, hA⟩ : ∃ ANS, likeO o = ANS := ⟨_, rfl⟩
 have hx := hA
 unfold likeO at hx
 rw [hA]
 clear hA
 go_enter Tryz.func39, Tryz.ntmps39
 by_cases h3 : o = 3
 ·subst h3
  obtain rfl := hx
  go_wp2
  go_ret
  exact ⟨rfl, rfl⟩
 by_cases h4 : o = 4
 ·subst h4
  obtain rfl := hx
  go_wp2
  go_ret
  exact ⟨rfl, rfl⟩
 rw [decide_eq_false h3, decide_eq_false h4] at hx
 obtain rfl := hx
 have z3 : (o == 3) = false := by simp [h3]
 have z4 : (o == 4) = false := by simp [h4]
 go_wp2
 go_ret
 exact ⟨by first | rfl | simp [h3, h4], rfl⟩
theorem vCheck (q : QueryP) (MA FA : Option Addr) (nm nf cm cf : Nat) (w : World) (hL : Lt w) (hq : QueryAt w MA nm FA nf q) (hnm : nm ≤ 140737488355328) (hnf : nf ≤ 140737488355328) :
  Calls Tryz.prog 31 #[.agg #[.slice MA nm cm, .slice FA nf cf]] w fun e w' => e = .returned (.int .i64 (checkQ q : Nat)) ∧ Below w.heap.size w w' := by
 obtain ⟨ANS, hA⟩ : ∃ ANS, checkQ q = ANS := ⟨_, rfl⟩
 rw [hA]
 obtain ⟨X, hX⟩ : ∃ X, X = w.alloc (.cells #[.slice MA nm cm, .slice FA nf cf] 25) := ⟨_, rfl⟩
 have hwX : Below w.heap.size w X := by rw [hX]; exact (Below.refl _ _).alloc (Nat.le_refl _) _
 have bX : Blk X w.heap.size 25 [.slice MA nm cm, .slice FA nf cf] := by rw [hX]; exact Blk.new w _ _
 have x0 : X.cell? ⟨w.heap.size, 0, none⟩ = some (.slice MA nm cm) := bX.cell 0
 have x1 : X.cell? ⟨w.heap.size, 1, none⟩ = some (.slice FA nf cf) := bX.cell 1
 have hs1 := hwX.size
 have HQ := Lh hq; have HwX := Lh hwX; have BX := Lh bX; have HA := Lh hA; have HL := Lh hL
 have Hnm := Lh hq.nm_; have Hnf := Lh hq.nf_
 clear hq hwX bX hA hL
 go_enter Tryz.func31, Tryz.ntmps31
 go_upto_region 1 with fail
 rw [← hX]
 clear hX
 by_cases hm16 : 16 < nm
 ·have z1 : (16 : Int) < (nm : Int) := by omega
  have hans : ANS = 3 := by rw [← HA.out]; unfold checkQ; rw [if_pos (.inl (by rw [Hnm.out]; exact hm16))]
  have HAn := Lh hans
  clear hans
  go_wp2
  go_ret
  exact ⟨by rw [HAn.out]; rfl, HwX.out⟩
 have z1 : ¬ (16 : Int) < (nm : Int) := by omega
 by_cases hf16 : 16 < nf
 ·have z2 : (16 : Int) < (nf : Int) := by omega
  have hans : ANS = 3 := by rw [← HA.out]; unfold checkQ; rw [if_pos (.inr (by rw [Hnf.out]; exact hf16))]
  have HAn := Lh hans
  clear hans
  go_wp2
  go_ret
  exact ⟨by rw [HAn.out]; rfl, HwX.out⟩
 have z2 : ¬ (16 : Int) < (nf : Int) := by omega
 have h16 : Hid (¬ (16 < q.ms.length ∨ 16 < q.fs.length)) := Lh (by rw [Hnm.out, Hnf.out]; omega)
 go_wp2
 go_loopw [27] (fun i wr => ∃ k : Nat, k ≤ nm ∧ i = .int .i64 k ∧ Hid ((q.ms.take k).all matOk = true) ∧ Hid (Below X.heap.size X wr)) (fun i _ => nm - (intOf i).toNat)
 case atStart => exact ⟨0, Nat.zero_le _, rfl, Lh rfl, Lh (Below.refl _ _)⟩
 obtain ⟨k, hk, rfl, hall, hbw⟩ := hrel
 obtain ⟨wo, rfl⟩ : ∃ wo : World, wo = wr := ⟨_, rfl⟩
 have wk1 := wS k (by omega)
 have hwo := HwX.out.trans (hbw.out.mono HwX.out.size)
 by_cases hlt : k < nm
 ·have z3 : (k : Int) < (nm : Int) := by omega
  obtain ⟨m, hm⟩ : ∃ m, q.ms[k]? = some m := ⟨_, List.getElem?_eq_getElem (by rw [Hnm.out]; exact hlt)⟩
  obtain ⟨b, off, rfl, hc⟩ := HQ.out.mat hm
  obtain ⟨c0, c1, c2⟩ := hc wo hwo
  obtain ⟨N1, e1, hN1⟩ := str_form m.name
  obtain ⟨N2, e2, -⟩ := str_form m.val
  rw [e1] at c0
  rw [e2] at c2
  obtain ⟨mo, hmo⟩ : ∃ mo, m.op = mo := ⟨_, rfl⟩
  rw [hmo] at c1
  have hmk : matOk m = (nameP m.name && opOk mo) := by unfold matOk; rw [hmo]
  have htk := all_take matOk hm
  have hbad : matOk m = false → ANS = 50 := fun h => by rw [← HA.out]; exact check_ms h16.out (all_false matOk hm h)
  have hlen := (HQ.out.sm m (List.mem_of_getElem? hm)).1
  obtain ⟨V, hV⟩ : ∃ V, V = wo.alloc (.cells #[.string N1, .int .i64 mo, .string N2] 69) := ⟨_, rfl⟩
  have bV : Below wo.heap.size wo V := by rw [hV]; exact (Below.refl _ _).alloc (Nat.le_refl _) _
  have kV : Blk V wo.heap.size 69 [.string N1, .int .i64 mo, .string N2] := by rw [hV]; exact Blk.new wo _ _
  have v0 : V.cell? ⟨wo.heap.size, 0, none⟩ = some (.string N1) := kV.cell 0
  have hn := vNamed N1 m.name hN1 V (HL.out.below (hwo.trans (bV.mono hwo.size))) (by omega)
  obtain ⟨nb, hnb⟩ : ∃ nb, nameP m.name = nb := ⟨_, rfl⟩
  rw [hnb] at hn hmk
  have HN := Lh hn; have KV := Lh kV; have LV := Lh (hbw.out.trans (bV.mono hbw.out.size)); have HMk := Lh hmk; have HTk := Lh htk; have HBad := Lh hbad
  clear hn kV bV hmk htk hbad hc hm e1 hN1 e2 hmo hlen hnb hwo
  go_upto_region 6 with fail
  rw [← hV]
  clear hV c0 c1 c2
  cases nb with
  | false =>
   have hans := HBad.out (by rw [HMk.out]; rfl)
   have HAn := Lh hans
   clear hans
   go_wp2_with fail
   refine HN.out.mono ?_
   rintro e w5 ⟨rfl, hb5⟩
   have HW5 := Lh (HwX.out.trans ((LV.out.trans (hb5.mono LV.out.size)).mono HwX.out.size))
   clear hb5
   go_wp2
   go_ret
   exact ⟨by rw [HAn.out]; rfl, HW5.out⟩
  | true =>
   go_wp2_with fail
   refine HN.out.mono ?_
   rintro e w5 ⟨rfl, hb5⟩
   have y1 : w5.cell? ⟨wo.heap.size, 1, none⟩ = some (.int .i64 mo) := (KV.out.below hb5 KV.out.lt).cell 1
   have hx5 := LV.out.trans (hb5.mono LV.out.size)
   have HX5 := Lh hx5; have HW5 := Lh (HwX.out.trans (hx5.mono HwX.out.size))
   clear hb5 hx5 v0
   by_cases ho1 : mo < 1
   ·have hans := HBad.out (by rw [HMk.out, opOk_no (.inl ho1)]; rfl)
    have HAn := Lh hans
    clear hans
    go_wp2
    go_ret
    exact ⟨by rw [HAn.out]; rfl, HW5.out⟩
   by_cases ho4 : 4 < mo
   ·have hans := HBad.out (by rw [HMk.out, opOk_no (.inr ho4)]; rfl)
    have HAn := Lh hans
    clear hans
    go_wp2
    go_ret
    exact ⟨by rw [HAn.out]; rfl, HW5.out⟩
   have hnx : (q.ms.take (k + 1)).all matOk = true := by rw [HTk.out, hall.out, HMk.out, opOk_yes (by omega) (by omega)]; rfl
   have HNx := Lh hnx
   clear hnx
   go_wp2
   go_roundw
   case rel => exact ⟨k + 1, by omega, by first | rfl | go_num, HNx, HX5⟩
   case measure => simp [intOf]; omega
 obtain rfl : k = nm := by omega
 have z3 : ¬ (k : Int) < (k : Int) := by omega
 have hms : q.ms.all matOk = true := by
  have := hall.out
  rwa [List.take_of_length_le (by rw [Hnm.out]; exact Nat.le_refl _)] at this
 have HMs := Lh hms; have HWo := Lh hwo; have HBo := Lh hbw.out
 have y1 : wo.cell? ⟨w.heap.size, 1, none⟩ = some (.slice FA nf cf) := (BX.out.below hbw.out BX.out.lt).cell 1
 clear hms hall hwo hbw x0 x1
 go_wp2
 go_loopw [49] (fun i wr => ∃ j : Nat, j ≤ nf ∧ i = .int .i64 j ∧ Hid ((q.fs.take j).all filOk = true) ∧ Hid (Below wo.heap.size wo wr)) (fun i _ => nf - (intOf i).toNat)
 case atStart => exact ⟨0, Nat.zero_le _, rfl, Lh rfl, Lh (Below.refl _ _)⟩
 obtain ⟨j, hj, rfl, hall, hbw⟩ := hrel
 obtain ⟨wp, rfl⟩ : ∃ wp : World, wp = wr := ⟨_, rfl⟩
 have wj1 := wS j (by omega)
 have hwp := HWo.out.trans (hbw.out.mono HWo.out.size)
 by_cases hlt : j < nf
 ·have z4 : (j : Int) < (nf : Int) := by omega
  obtain ⟨f, hf⟩ : ∃ f, q.fs[j]? = some f := ⟨_, List.getElem?_eq_getElem (by rw [Hnf.out]; exact hlt)⟩
  obtain ⟨b, off, rfl, hc⟩ := fil_cells HQ.out.fs hf hlt
  obtain ⟨c0, c1⟩ := hc wp hwp
  obtain ⟨N1, e1, -⟩ := str_form f.text
  rw [e1] at c1
  obtain ⟨fo, hfo⟩ : ∃ fo, f.op = fo := ⟨_, rfl⟩
  rw [hfo] at c0
  have hfk : filOk f = opOk fo := by unfold filOk; rw [hfo]
  have htk := all_take filOk hf
  have hbad : filOk f = false → ANS = 50 := fun h => by rw [← HA.out]; exact check_fs h16.out HMs.out (all_false filOk hf h)
  obtain ⟨V, hV⟩ : ∃ V, V = wp.alloc (.cells #[.int .i64 fo, .string N1] 71) := ⟨_, rfl⟩
  have bV : Below wp.heap.size wp V := by rw [hV]; exact (Below.refl _ _).alloc (Nat.le_refl _) _
  have kV : Blk V wp.heap.size 71 [.int .i64 fo, .string N1] := by rw [hV]; exact Blk.new wp _ _
  have v0 : V.cell? ⟨wp.heap.size, 0, none⟩ = some (.int .i64 fo) := kV.cell 0
  have LV := Lh (hbw.out.trans (bV.mono hbw.out.size)); have HFk := Lh hfk; have HTk := Lh htk; have HBad := Lh hbad; have HWV := Lh (hwp.trans (bV.mono hwp.size))
  clear kV bV hfk htk hbad hc hf e1 hfo hwp
  go_upto_region 12 with fail
  rw [← hV]
  clear hV c0 c1
  by_cases ho1 : fo < 1
  ·have hans := HBad.out (by rw [HFk.out, opOk_no (.inl ho1)])
   have HAn := Lh hans
   clear hans
   go_wp2
   go_ret
   exact ⟨by rw [HAn.out]; rfl, HWV.out⟩
  by_cases ho4 : 4 < fo
  ·have hans := HBad.out (by rw [HFk.out, opOk_no (.inr ho4)])
   have HAn := Lh hans
   clear hans
   go_wp2
   go_ret
   exact ⟨by rw [HAn.out]; rfl, HWV.out⟩
  have hnx : (q.fs.take (j + 1)).all filOk = true := by rw [HTk.out, hall.out, HFk.out, opOk_yes (by omega) (by omega)]; rfl
  have HNx := Lh hnx
  clear hnx
  go_wp2
  go_roundw
  case rel => exact ⟨j + 1, by omega, by first | rfl | go_num, HNx, LV⟩
  case measure => simp [intOf]; omega
 obtain rfl : j = nf := by omega
 have z4 : ¬ (j : Int) < (j : Int) := by omega
 have hfs : q.fs.all filOk = true := by
  have := hall.out
  rwa [List.take_of_length_le (by rw [Hnf.out]; exact Nat.le_refl _)] at this
 have hXp := HBo.out.trans (hbw.out.mono HBo.out.size)
 have y0 : wp.cell? ⟨w.heap.size, 0, none⟩ = some (.slice MA k cm) := (BX.out.below hXp BX.out.lt).cell 0
 have y2 : wp.cell? ⟨w.heap.size, 1, none⟩ = some (.slice FA j cf) := (BX.out.below hXp BX.out.lt).cell 1
 have hallc := vAllQ q MA FA k j cm cf wp (HQ.out.below hwp) (by omega) (by omega)
 have hps : ∀ f ∈ partsQ q, f.text.length ≤ 140737488355328 := fun f hf => by
  rcases List.mem_append.1 hf with h | h
  ·obtain ⟨m, hm, rfl⟩ := List.mem_map.1 h
   exact (HQ.out.sm m hm).2
  exact HQ.out.sf f h
 obtain ⟨P, hP⟩ : ∃ P, partsQ q = P := ⟨_, rfl⟩
 rw [hP] at hallc hps
 obtain ⟨np, hnp⟩ : ∃ np, P.length = np := ⟨_, rfl⟩
 rw [hnp] at hallc
 have hnp9 : np ≤ 1000000 := by
  rw [← hnp, ← hP]
  unfold partsQ
  rw [List.length_append, List.length_map, Hnm.out, Hnf.out]; omega
 have HFs := Lh hfs; have HAllc := Lh hallc; have HWp := Lh hwp; have HPs := Lh hps; have Hnp := Lh hnp; have HP := Lh hP
 clear hfs hall hwp hbw hXp hallc hps hnp hP y1
 go_wp2_with fail
 refine HAllc.out.mono ?_
 rintro e w6 ⟨v6, rfl, o6, b6⟩
 obtain ⟨PA, pc, rfl, -⟩ := own_form o6
 have HR6 := Lh (Row.of_own o6); have HW6 := Lh (HWp.out.trans (b6.mono HWp.out.size))
 clear o6 b6 HAllc y0 y2
 go_wp2
 go_loopw [66] (fun i wr => ∃ p : Nat, p ≤ np ∧ i = .int .i64 p ∧ Hid ((P.take p).all utfOk = true) ∧ Hid (Below w6.heap.size w6 wr)) (fun i _ => np - (intOf i).toNat)
 case atStart => exact ⟨0, Nat.zero_le _, rfl, Lh rfl, Lh (Below.refl _ _)⟩
 obtain ⟨p, hp, rfl, hall, hbw⟩ := hrel
 obtain ⟨ws, rfl⟩ : ∃ ws : World, ws = wr := ⟨_, rfl⟩
 have wp1 := wS p (by omega)
 have hws := HW6.out.trans (hbw.out.mono HW6.out.size)
 by_cases hlt : p < np
 ·have z5 : (p : Int) < (np : Int) := by omega
  obtain ⟨f, hf⟩ : ∃ f, P[p]? = some f := ⟨_, List.getElem?_eq_getElem (by rw [Hnp.out]; exact hlt)⟩
  obtain ⟨b, off, rfl, hc⟩ := fil_cells HR6.out hf hlt
  obtain ⟨c0, c1⟩ := hc ws hbw.out
  obtain ⟨N1, e1, hN1⟩ := str_form f.text
  rw [e1] at c1
  obtain ⟨fo, hfo⟩ : ∃ fo, f.op = fo := ⟨_, rfl⟩
  rw [hfo] at c0
  have htk := all_take utfOk hf
  have hbad : utfOk f = false → ANS = 8 := fun h => by rw [← HA.out]; exact check_utf h16.out HMs.out HFs.out (by rw [HP.out]; exact all_false utfOk hf h)
  obtain ⟨V, hV⟩ : ∃ V, V = ws.alloc (.cells #[.int .i64 fo, .string N1] 71) := ⟨_, rfl⟩
  have bV : Below ws.heap.size ws V := by rw [hV]; exact (Below.refl _ _).alloc (Nat.le_refl _) _
  have kV : Blk V ws.heap.size 71 [.int .i64 fo, .string N1] := by rw [hV]; exact Blk.new ws _ _
  have v1 : V.cell? ⟨ws.heap.size, 1, none⟩ = some (.string N1) := kV.cell 1
  have hwV := hws.trans (bV.mono hws.size)
  have hu := cValid f.text V (HL.out.below hwV) (by have := HPs.out f (List.mem_of_getElem? hf); omega)
  rw [show str f.text = .string N1 by rw [hN1]] at hu
  obtain ⟨ub, hub⟩ : ∃ ub, utfOk f = ub := ⟨_, rfl⟩
  rw [show Lib.validD f.text = ub from hub] at hu
  rw [hub] at htk hbad
  have HU := Lh hu; have LV := Lh (hbw.out.trans (bV.mono hbw.out.size)); have HTk := Lh htk; have HBad := Lh hbad; have HWV := Lh hwV
  clear kV bV htk hbad hc hf e1 hN1 hfo hws hwV hu hub
  go_upto_region 19 with fail
  rw [← hV]
  clear hV c0 c1
  go_wp2_with fail
  refine HU.out.mono ?_
  rintro e w7 ⟨rfl, hb7⟩
  have HW7 := Lh (HWV.out.trans (hb7.mono HWV.out.size)); have L7 := Lh (LV.out.trans (hb7.mono LV.out.size))
  clear hb7 HU v1
  cases ub with
  | false =>
   have hans := HBad.out rfl
   have HAn := Lh hans
   clear hans
   go_wp2
   go_ret
   exact ⟨by rw [HAn.out]; rfl, HW7.out⟩
  | true =>
   have hnx : (P.take (p + 1)).all utfOk = true := by rw [HTk.out, hall.out]; rfl
   have HNx := Lh hnx
   clear hnx
   go_wp2
   go_roundw
   case rel => exact ⟨p + 1, by omega, by first | rfl | go_num, HNx, L7⟩
   case measure => simp [intOf]; omega
 obtain rfl : p = np := by omega
 have z5 : ¬ (p : Int) < (p : Int) := by omega
 have hut : (partsQ q).all utfOk = true := by
  have := hall.out
  rwa [List.take_of_length_le (by rw [Hnp.out]; exact Nat.le_refl _), ← HP.out] at this
 have HUt := Lh hut; have HWs := Lh hws; have HLs := Lh hbw.out
 clear hut hall hws hbw
 go_wp2
 go_loopw [77] (fun i wr => ∃ u : Nat, u ≤ p ∧ i = .int .i64 u ∧ Hid ((P.take u).all patOk = true) ∧ Hid (Below ws.heap.size ws wr)) (fun i _ => p - (intOf i).toNat)
 case atStart => exact ⟨0, Nat.zero_le _, rfl, Lh rfl, Lh (Below.refl _ _)⟩
 obtain ⟨u, hu, rfl, hall, hbw⟩ := hrel
 obtain ⟨wt, rfl⟩ : ∃ wt : World, wt = wr := ⟨_, rfl⟩
 have wu1 := wS u (by omega)
 have hwt := HWs.out.trans (hbw.out.mono HWs.out.size)
 by_cases hlt : u < p
 ·have z6 : (u : Int) < (p : Int) := by omega
  obtain ⟨f, hf⟩ : ∃ f, P[u]? = some f := ⟨_, List.getElem?_eq_getElem (by rw [Hnp.out]; exact hlt)⟩
  obtain ⟨b, off, rfl, hc⟩ := fil_cells HR6.out hf hlt
  obtain ⟨c0, c1⟩ := hc wt (HLs.out.trans (hbw.out.mono HLs.out.size))
  obtain ⟨N1, e1, hN1⟩ := str_form f.text
  rw [e1] at c1
  obtain ⟨fo, hfo⟩ : ∃ fo, f.op = fo := ⟨_, rfl⟩
  rw [hfo] at c0
  have htk := all_take patOk hf
  have hbad : patOk f = false → ANS = 40 := fun h => by rw [← HA.out]; exact check_pat h16.out HMs.out HFs.out HUt.out (by rw [HP.out]; exact all_false patOk hf h)
  obtain ⟨V, hV⟩ : ∃ V, V = wt.alloc (.cells #[.int .i64 fo, .string N1] 71) := ⟨_, rfl⟩
  have bV : Below wt.heap.size wt V := by rw [hV]; exact (Below.refl _ _).alloc (Nat.le_refl _) _
  have kV : Blk V wt.heap.size 71 [.int .i64 fo, .string N1] := by rw [hV]; exact Blk.new wt _ _
  have v0 : V.cell? ⟨wt.heap.size, 0, none⟩ = some (.int .i64 fo) := kV.cell 0
  have v1 : V.cell? ⟨wt.heap.size, 1, none⟩ = some (.string N1) := kV.cell 1
  have hwV := hwt.trans (bV.mono hwt.size)
  have hpr := vParse f.text V (HL.out.below hwV) (by have := HPs.out f (List.mem_of_getElem? hf); omega)
  rw [show str f.text = .string N1 by rw [hN1]] at hpr
  have hlk := vLike fo V
  have hpk : patOk f = (!likeO fo || (match rexpP f.text with | .ok _ => true | .error _ => false)) := by unfold patOk; rw [hfo]; cases rexpP f.text <;> rfl
  obtain ⟨lk, hlk2⟩ : ∃ lk, likeO fo = lk := ⟨_, rfl⟩
  rw [hlk2] at hlk hpk
  have herr := fun n => @err_pos f.text n
  obtain ⟨OUT, hO⟩ : ∃ OUT, rexpP f.text = OUT := ⟨_, rfl⟩
  rw [hO] at hpr hpk
  have herr2 : ∀ n, OUT = .error n → 0 < n := fun n h => (herr n (hO.trans h)).1
  have HPr := Lh hpr; have HLk := Lh hlk; have LV := Lh (hbw.out.trans (bV.mono hbw.out.size)); have HTk := Lh htk; have HBad := Lh hbad; have HWV := Lh hwV; have HPk := Lh hpk; have HErr := Lh herr2
  clear kV bV htk hbad hc hf e1 hN1 hfo hwt hwV hpr hlk hpk hlk2 herr herr2 hO
  go_upto_region 25 with fail
  rw [← hV]
  clear hV c0 c1
  cases lk with
  | false =>
   have hnx : (P.take (u + 1)).all patOk = true := by rw [HTk.out, hall.out, HPk.out]; rfl
   have HNx := Lh hnx
   clear hnx
   go_wp2_with (with_reducible refine HLk.out.mono ?_; rintro e wy ⟨rfl, hz⟩; obtain rfl : V = wy := hz.symm)
   go_roundw
   case rel => exact ⟨u + 1, by omega, by first | rfl | go_num, HNx, LV⟩
   case measure => simp [intOf]; omega
  | true =>
   go_wp2_with (with_reducible refine HLk.out.mono ?_; rintro e wy ⟨rfl, hz⟩; obtain rfl : V = wy := hz.symm)
   refine HPr.out.mono ?_
   rintro e w7 ⟨hb7, ho⟩
   have HW7 := Lh (HWV.out.trans (hb7.mono HWV.out.size)); have L7 := Lh (LV.out.trans (hb7.mono LV.out.size))
   clear hb7 HPr
   cases OUT with
   | error n =>
    obtain rfl := ho
    have hn0 := HErr.out n rfl
    have hn1 : ((n : Int) != 0) = true := by simp; omega
    have hn2 : ¬ (n : Int) = 0 := by omega
    have hans := HBad.out (by rw [HPk.out]; rfl)
    have HAn := Lh hans
    clear hans
    go_wp2
    go_ret
    exact ⟨by rw [HAn.out]; rfl, HW7.out⟩
   | ok t =>
    obtain ⟨v7, rfl, -⟩ := ho
    have hnx : (P.take (u + 1)).all patOk = true := by rw [HTk.out, hall.out, HPk.out]; rfl
    have HNx := Lh hnx
    clear hnx
    go_wp2
    go_roundw
    case rel => exact ⟨u + 1, by omega, by first | rfl | go_num, HNx, L7⟩
    case measure => simp [intOf]; omega
 obtain rfl : u = p := by omega
 have z6 : ¬ (u : Int) < (u : Int) := by omega
 have hpt : (partsQ q).all patOk = true := by
  have := hall.out
  rwa [List.take_of_length_le (by rw [Hnp.out]; exact Nat.le_refl _), ← HP.out] at this
 have hans : ANS = 0 := by rw [← HA.out]; exact check_ok h16.out HMs.out HFs.out HUt.out hpt
 have HAn := Lh hans; have HW := Lh hwt
 clear hans hpt hall hwt hbw
 go_wp2
 go_ret
 exact ⟨by rw [HAn.out]; rfl, HW.out⟩
end Go.Proofs.YtecejnilajbdpaaGreatDoor
