import Derived.Test.YtmddgimadlmacaaDmay
import Derived.Test.YtmddgimadlmacaaFirst
namespace Go.Proofs.Ytmddgimadlmacaa
open Go.RowKit Garner

def bsManifest : List UInt8 := [109, 97, 110, 105, 102, 101, 115, 116]
theorem nameManifest : nameOk ⟨#[109, 97, 110, 105, 102, 101, 115, 116]⟩ = true := by rfl
set_option maxRecDepth 100000 in
set_option maxHeartbeats 4000000 in
theorem vDread0 (g mp : Nat) (a : Bool) (left : Int) (w : World) (hm : MapIs strKey w mp []) (hd : Blk w g 97 (diskV mp a false left)) :
    Calls Try.prog 22 #[.pointer (some ⟨g, 0, none⟩), .string ⟨#[109, 97, 110, 105, 102, 101, 115, 116]⟩] w fun e w' => e = .returned (.tuple #[.slice none 0 0, .int .i64 21]) ∧ Below w.heap.size w w' := by
  have hgw : g < w.heap.size := hd.lt
  go_enter Try.func22, Try.ntmps22
  go_wp2_with fail
  refine (vDmay [⟨#[109, 97, 110, 105, 102, 101, 115, 116]⟩] (some ⟨w.heap.size, 0, none⟩) 1 (w.heap.size + 1) g mp a false left _ (row_new w 9 [.string ⟨#[109, 97, 110, 105, 102, 101, 115, 116]⟩]) (by simp) (hd.alloc _) (by simp)).mono ?_
  rintro e w2 ⟨rfl, hb2⟩
  simp only [World.size_alloc] at hb2
  have hdm : dmay [⟨#[109, 97, 110, 105, 102, 101, 115, 116]⟩] false = 0 := by simp [dmay, nameManifest]
  rw [hdm]
  have hbw : Below w.heap.size w w2 := ((Below.refl w.heap.size w).alloc (Nat.le_refl _) _).trans (hb2.mono (Nat.le_succ _))
  have hm2 : MapIs strKey w2 mp [] := hm.below hbw hm.lt
  have x0 : w2.cell? ⟨g, 0, none⟩ = some (.map (some mp)) := (hbw.cell (p := ⟨g, 0, none⟩) hgw).trans (hd.cell 0)
  have hlook : (Instr.lookup 95 (.map (some mp)) (.string ⟨#[109, 97, 110, 105, 102, 101, 115, 116]⟩) true).run Try.prog w2 = .ok (.tuple #[.agg #[.slice none 0 0, .int .i64 0], .bool false]) w2 := by
    have := run_look (strKeys Try.underlying9) Try.underlying95 hm2 (zeroFile _) bsManifest true
    simpa [aget, bsManifest] using this
  go_wp2
  go_ret2
  exact ⟨rfl, hbw.alloc hbw.size _⟩
set_option maxRecDepth 100000 in
set_option maxHeartbeats 4000000 in
theorem vLoad0 (g mp : Nat) (a : Bool) (left : Int) (w : World) (hm : MapIs strKey w mp []) (hd : Blk w g 97 (diskV mp a false left)) :
    Calls Try.prog 40 #[.pointer (some ⟨g, 0, none⟩)] w fun e w' => e = .returned (.tuple #[manV firstMan none 0, .int .i64 0]) ∧ Below w.heap.size w w' := by
  have hgw : g < w.heap.size := hd.lt
  go_enter Try.func40, Try.ntmps40
  go_wp2_with fail
  refine (vDread0 g mp a left _ (hm.alloc _) (hd.alloc _)).mono ?_
  rintro e w1 ⟨rfl, hb1⟩
  simp only [World.size_alloc] at hb1
  go_wp2_with fail
  refine (vFirst w1).mono ?_
  rintro e w2 ⟨rfl, hb2⟩
  have hres1 : Blk w1 w.heap.size 25 [.int .i64 0, .int .i64 0, .int .u64 0, .int .i64 0, .slice none 0 0] := (Blk.new w _ _).below hb1 (by omega)
  have hres : Blk w2 w.heap.size 25 [.int .i64 0, .int .i64 0, .int .u64 0, .int .i64 0, .slice none 0 0] := hres1.below hb2 hres1.lt
  have hbw : Below w.heap.size w w2 := (((Below.refl w.heap.size w).alloc (Nat.le_refl _) _).trans (hb1.mono (Nat.le_succ _))).trans (hb2.mono (by have := hres1.lt; omega))
  have v0 := hres.frozen 0; have v1 := hres.frozen 1; have v2 := hres.frozen 2; have v3 := hres.frozen 3; have v4 := hres.frozen 4
  have r0 := hres.cell 0; have r1 := hres.cell 1; have r2 := hres.cell 2; have r3 := hres.cell 3; have r4 := hres.cell 4
  simp only [List.getElem?_cons_zero, List.getElem?_cons_succ] at r0 r1 r2 r3 r4
  simp only [firstMan]
  go_wp2
  refine bodyPost_ret (v := .tuple #[manV firstMan none 0, .int .i64 0]) (by simp [results, Try.results40, go_sem, firstMan, *]) rfl ?_
  exact ⟨rfl, below_set5 hbw (Nat.le_refl _) _ _ _ _ _⟩
end Go.Proofs.Ytmddgimadlmacaa
