import Derived.Test.YtmddgimadlmacaaMf10
import Derived.Test.YtmddgimadlmacaaMf03
namespace Go.Proofs.Ytmddgimadlmacaa
open Go.RowKit Garner

/-- a manifest of zeros -/
def manZ : Value := .agg #[.int .i64 0, .int .i64 0, .int .u64 0, .int .i64 0, .slice none 0 0]

set_option maxRecDepth 100000 in
set_option maxHeartbeats 4000000 in
theorem vMade_no (ns : List Nat) (A : Option Addr) (c B : Nat) (w : World) (hr : Row w B 1 A ns.length (ns.map u64v)) (hB : B ≤ w.heap.size) (hl : ns.length ≤ 100000) (hno : ¬ madeOk ns) :
    Calls Try.prog 57 #[.slice A ns.length c] w fun e w' => e = .returned (.tuple #[manZ, .bool false]) ∧ Below w.heap.size w w' := by
  by_cases h5 : (ns.length : Int) < 5
  · clear hno
    go_enter Try.func57, Try.ntmps57
    go_wp2
    refine bodyPost_ret (v := .tuple #[manZ, .bool false]) (by simp [results, Try.results57, go_sem, manZ, *]) rfl ?_
    exact ⟨rfl, (Below.refl _ _).alloc (Nat.le_refl _) _⟩
  · obtain ⟨b, off, rfl, hb, hcell⟩ := hr.at_ (k := 4) (by omega)
    have c4 : w.cell? ⟨b, off + 4, none⟩ = some (.int .u64 (ns[4]?.getD 0 : Nat)) := by
      have := hcell 4 (by simp; omega); rw [List.getElem?_eq_getElem (by omega)]; simpa [u64v] using this
    have c4' : ∀ o : Obj, (w.alloc o).cell? ⟨b, off + 4, none⟩ = some (.int .u64 (ns[4]?.getD 0 : Nat)) := fun o => (World.cell?_alloc_lt w o ⟨b, off + 4, none⟩ (by show b < _; omega)).trans c4
    clear c4 hcell
    have hno' : ns[4]?.getD 0 ≠ (ns.length - 5) / 4 ∨ (ns[4]?.getD 0 = (ns.length - 5) / 4 ∧ ns.length % 4 ≠ 1) := by
      by_cases h : ns[4]?.getD 0 = (ns.length - 5) / 4
      · exact .inr ⟨h, fun h' => hno ⟨by omega, h, h'⟩⟩
      · exact .inl h
    generalize ns[4]?.getD 0 = x4 at *
    have i4 : (4 : Int) < ns.length := by omega
    clear hno
    rcases hno' with h | ⟨h, h'⟩
    · have t2 : ((x4 : Int) != ((ns.length : Int) - 5) / 4) = true := by rw [bne_iff_ne]; omega
      have H := Lib.hid h; clear h
      go_enter Try.func57, Try.ntmps57
      go_wp2
      refine bodyPost_ret (v := .tuple #[manZ, .bool false]) (by simp [results, Try.results57, go_sem, manZ, *]) rfl ?_
      exact ⟨rfl, (Below.refl _ _).alloc (Nat.le_refl _) _⟩
    · have t2 : ((x4 : Int) != ((ns.length : Int) - 5) / 4) = false := by rw [bne_eq_false_iff_eq]; omega
      have t3 : ((ns.length : Int) % 4 != 1) = true := by rw [bne_iff_ne]; omega
      have H := Lib.hid (And.intro h h'); clear h h'
      go_enter Try.func57, Try.ntmps57
      go_wp2
      refine bodyPost_ret (v := .tuple #[manZ, .bool false]) (by simp [results, Try.results57, go_sem, manZ, *]) rfl ?_
      exact ⟨rfl, (Below.refl _ _).alloc (Nat.le_refl _) _⟩
end Go.Proofs.Ytmddgimadlmacaa
/-! Plain functions of layer 15: what is read. -/
namespace Garner

theorem vallAux_nil (f : Nat) : vallAux f [] = .ok [] := by cases f <;> rfl
theorem vallAux_fuel : ∀ (f g : Nat) (b : Bs), b.length ≤ f → b.length ≤ g → vallAux f b = vallAux g b := by
  intro f
  induction f with
  | zero =>
    intro g b h _
    obtain rfl : b = [] := List.eq_nil_of_length_eq_zero (by omega)
    rw [vallAux_nil, vallAux_nil]
  | succ f ih =>
    intro g b hf hg
    cases b with
    | nil => rw [vallAux_nil, vallAux_nil]
    | cons c r =>
      simp only [List.length_cons] at hf hg
      obtain ⟨g, rfl⟩ : ∃ g', g = g' + 1 := ⟨g - 1, by omega⟩
      rw [vallAux, vallAux]
      cases hv : vgetAux (c :: r) 0 0 with
      | error e => rfl
      | ok q =>
        obtain ⟨n, k⟩ := q
        obtain ⟨m, _, _, e3, _, _⟩ := vgetAux_ok _ 0 0 _ _ (by omega) hv
        have hp := put1_pos m
        have hl : ((c :: r).drop k).length ≤ r.length := by rw [List.length_drop, List.length_cons]; omega
        simp only []
        rw [ih g _ (by omega) (by omega)]
theorem vall_nil : vall [] = .ok [] := rfl
theorem vall_at {p : Bs} {i : Nat} (hi : i < p.length) : vall (p.drop i) = match vget p i with
    | .error e => .error e
    | .ok (n, nx) => match vall (p.drop nx) with
      | .error e => .error e
      | .ok ns => .ok (n :: ns) := by
  unfold vget
  cases hb : p.drop i with
  | nil => have := congrArg List.length hb; rw [List.length_drop] at this; simp at this; omega
  | cons c r =>
    show vallAux (r.length + 1) (c :: r) = _
    rw [vallAux]
    cases hv : vgetAux (c :: r) 0 0 with
    | error e => rfl
    | ok q =>
      obtain ⟨n, k⟩ := q
      obtain ⟨m, _, _, e3, _, _⟩ := vgetAux_ok _ 0 0 _ _ (by omega) hv
      have hp := put1_pos m
      simp only []
      have hl : ((c :: r).drop k).length ≤ r.length := by rw [List.length_drop, List.length_cons]; omega
      rw [vallAux_fuel r.length ((c :: r).drop k).length _ hl (Nat.le_refl _), ← hb, List.drop_drop]
      rfl
/-- what stands ahead of number i reads as acc -/
def vallUpto (p : Bs) (i : Nat) (acc : List Nat) : Prop := vall p = match vall (p.drop i) with
  | .error e => .error e
  | .ok l => .ok (acc ++ l)
theorem vallUpto_zero (p : Bs) : vallUpto p 0 [] := by
  unfold vallUpto; rw [List.drop_zero]; cases vall p <;> rfl
theorem vallUpto_step {p : Bs} {i n nx : Nat} {acc : List Nat} (h : vallUpto p i acc) (hi : i < p.length) (hv : vget p i = .ok (n, nx)) : vallUpto p nx (acc ++ [n]) := by
  unfold vallUpto at *
  rw [h, vall_at hi, hv]
  simp only []
  cases vall (p.drop nx) <;> simp
theorem vallUpto_err {p : Bs} {i k : Nat} {acc : List Nat} (h : vallUpto p i acc) (hi : i < p.length) (hv : vget p i = .error k) : vall p = .error k := by
  unfold vallUpto at h
  rw [h, vall_at hi, hv]
theorem vallUpto_end {p : Bs} {i : Nat} {acc : List Nat} (h : vallUpto p i acc) (hi : p.length ≤ i) : vall p = .ok acc := by
  unfold vallUpto at h
  rw [h, List.drop_eq_nil_of_le hi, vall_nil]
  simp

instance decMadeOk (ns : List Nat) : Decidable (madeOk ns) := by unfold madeOk; infer_instance
/-- what the program reads -/
def mreadP (b : Bs) : Option Man :=
  match fread b 0 with
  | .error _ => none
  | .ok (p, to) => if to ≠ b.length then none else match vall p with
    | .error _ => none
    | .ok ns => if madeOk ns ∧ may (manOf smallN ns) then some (manOf smallN ns) else none
theorem fread_small {b p : Bs} {i to : Nat} (h : fread b i = .ok (p, to)) : p.length ≤ 65536 := by
  obtain ⟨f, hf, _⟩ := fread_ok h
  unfold frame at hf
  split at hf
  · cases hf
  · omega
theorem smallN_lo (n : Nat) : 0 ≤ smallN n ∧ smallN n ≤ 2147483647 := by unfold smallN; split <;> omega
theorem segsOf_wf {g : Nat → Int} (hg : ∀ n, in64 (g n)) : ∀ (l : List Nat), (∀ n ∈ l, n < 18446744073709551616) → ∀ s ∈ segsOf g l, s.wf
  | a :: b :: c :: d :: r, hl, s, hs => by
    rw [segsOf] at hs
    rcases List.mem_cons.1 hs with rfl | hs
    · exact ⟨hg _, hg _, zag_lo (hl c (by simp)), zag_lo (hl d (by simp))⟩
    · exact segsOf_wf hg r (fun n hn => hl n (by simp [hn])) s hs
  | [], _, s, hs => by simp [segsOf] at hs
  | [_], _, s, hs => by simp [segsOf] at hs
  | [_, _], _, s, hs => by simp [segsOf] at hs
  | [_, _, _], _, s, hs => by simp [segsOf] at hs
theorem manOf_wf {g : Nat → Int} (hg : ∀ n, in64 (g n)) {l : List Nat} (hl : ∀ n ∈ l, n < 18446744073709551616) : (manOf g l).wf := by
  have hi : ∀ i, l[i]?.getD 0 < 18446744073709551616 := fun i => by
    rcases Nat.lt_or_ge i l.length with h | h
    · rw [List.getElem?_eq_getElem h]; exact hl _ (List.getElem_mem h)
    · rw [List.getElem?_eq_none h]; simp
  exact ⟨hg _, hg _, hi 2, zag_lo (hi 3), segsOf_wf hg _ fun n hn => hl n (List.mem_of_mem_drop hn)⟩
theorem smallN_in (n : Nat) : in64 (smallN n) := by have := smallN_lo n; unfold in64; omega
theorem segsOf_len (g : Nat → Int) : ∀ l : List Nat, (segsOf g l).length ≤ l.length
  | a :: b :: c :: d :: r => by have := segsOf_len g r; simp only [segsOf, List.length_cons]; omega
  | [] => by simp [segsOf]
  | [_] => by simp [segsOf]
  | [_, _] => by simp [segsOf]
  | [_, _, _] => by simp [segsOf]
end Garner
namespace Go.Proofs.Ytmddgimadlmacaa
open Go.RowKit Garner

theorem fread_err {b : Bs} {i k : Nat} (h : fread b i = .error k) : k ≠ 0 := by
  unfold fread at h
  split at h
  · rename_i e he
    injection h with h; subst h
    have := vget_err he; omega
  · split at h
    · injection h with h; omega
    · split at h
      · injection h with h; omega
      · split at h
        · cases h
        · injection h with h; omega
theorem below_set5 {B g : Nat} {w w1 : World} (h : Below B w w1) (hg : B ≤ g) (a b c d e : Value) : Below B w (((((w1.setCell ⟨g, 0, none⟩ a).setCell ⟨g, 1, none⟩ b).setCell ⟨g, 2, none⟩ c).setCell ⟨g, 3, none⟩ d).setCell ⟨g, 4, none⟩ e) :=
  ((((h.setCell hg _).setCell hg _).setCell hg _).setCell hg _).setCell hg _
def MreadPost (w : World) (r : Option Man) (e : Ending) (w' : World) : Prop :=
  match r with
  | none => e = .returned (.tuple #[manZ, .int .i64 30]) ∧ Below w.heap.size w w'
  | some m => ∃ A c, e = .returned (.tuple #[manV m A c, .int .i64 0]) ∧ w'.ownsRow w.heap.size 36 4 (.slice A m.segs.length c) m.segs.length (segCells m.segs) ∧ Below w.heap.size w w'

set_option maxRecDepth 100000 in
set_option maxHeartbeats 4000000 in
theorem vMread1 (l : List UInt8) (A : Option Addr) (c B : Nat) (w : World) (hr : Bytes w B A l.length l) (hB : B ≤ w.heap.size) (hc : l.length ≤ c) (hl : l.length ≤ 140737488355328) (k : Nat) (hv : fread l 0 = .error k) :
    Calls Try.prog 14 #[.slice A l.length c] w fun e w' => MreadPost w none e w' := by
  have hread := fun (o : Obj) => vRead l A c B (w.alloc o) 0 (hr.alloc hB o) (by simp; omega) hc (by omega) hl
  rw [hv] at hread
  have hk : ((k : Int) == 0) = false := by rw [beq_eq_false_iff_ne]; have := fread_err hv; omega
  have hk' : ((k : Int) != 0) = true := by rw [bne_iff_ne]; have := fread_err hv; omega
  have Hread := Lib.hid hread; clear hread hv
  go_enter Try.func14, Try.ntmps14
  go_wp2_with fail
  refine (Hread.out _).mono ?_
  rintro e w1 ⟨rfl, hb1⟩
  simp only [World.size_alloc] at hb1
  have hres : Blk w1 w.heap.size 25 [.int .i64 0, .int .i64 0, .int .u64 0, .int .i64 0, .slice none 0 0] := (Blk.new w _ _).below hb1 (by omega)
  have hbw : Below w.heap.size w w1 := ((Below.refl w.heap.size w).alloc (Nat.le_refl _) _).trans (hb1.mono (Nat.le_succ _))
  have v0 := hres.frozen 0; have v1 := hres.frozen 1; have v2 := hres.frozen 2; have v3 := hres.frozen 3; have v4 := hres.frozen 4
  have r0 := hres.cell 0; have r1 := hres.cell 1; have r2 := hres.cell 2; have r3 := hres.cell 3; have r4 := hres.cell 4
  simp only [List.getElem?_cons_zero, List.getElem?_cons_succ] at r0 r1 r2 r3 r4
  go_wp2
  refine bodyPost_ret (v := .tuple #[manZ, .int .i64 30]) (by simp [results, Try.results14, go_sem, manZ, *]) rfl ?_
  refine ⟨rfl, ?_⟩
  exact below_set5 hbw (Nat.le_refl _) _ _ _ _ _
set_option maxRecDepth 100000 in
set_option maxHeartbeats 4000000 in
theorem vMread2 (l : List UInt8) (A : Option Addr) (c B : Nat) (w : World) (hr : Bytes w B A l.length l) (hB : B ≤ w.heap.size) (hc : l.length ≤ c) (hl : l.length ≤ 140737488355328) (p : Bs) (to : Nat) (hv : fread l 0 = .ok (p, to)) (hto : to ≠ l.length) :
    Calls Try.prog 14 #[.slice A l.length c] w fun e w' => MreadPost w none e w' := by
  have hread := fun (o : Obj) => vRead l A c B (w.alloc o) 0 (hr.alloc hB o) (by simp; omega) hc (by omega) hl
  rw [hv] at hread
  have hto' : ((to : Int) != (l.length : Int)) = true := by rw [bne_iff_ne]; omega
  have Hread := Lib.hid hread; clear hread hv
  go_enter Try.func14, Try.ntmps14
  go_wp2_with fail
  refine (Hread.out _).mono ?_
  rintro e w1 ⟨v, rfl, hown, hb1⟩
  simp only [World.size_alloc] at hb1 hown
  have hres : Blk w1 w.heap.size 25 [.int .i64 0, .int .i64 0, .int .u64 0, .int .i64 0, .slice none 0 0] := (Blk.new w _ _).below hb1 (by omega)
  have hbw : Below w.heap.size w w1 := ((Below.refl w.heap.size w).alloc (Nat.le_refl _) _).trans (hb1.mono (Nat.le_succ _))
  have v0 := hres.frozen 0; have v1 := hres.frozen 1; have v2 := hres.frozen 2; have v3 := hres.frozen 3; have v4 := hres.frozen 4
  have r0 := hres.cell 0; have r1 := hres.cell 1; have r2 := hres.cell 2; have r3 := hres.cell 3; have r4 := hres.cell 4
  simp only [List.getElem?_cons_zero, List.getElem?_cons_succ] at r0 r1 r2 r3 r4
  clear hown
  go_wp2
  refine bodyPost_ret (v := .tuple #[manZ, .int .i64 30]) (by simp [results, Try.results14, go_sem, manZ, *]) rfl ?_
  refine ⟨rfl, ?_⟩
  exact below_set5 hbw (Nat.le_refl _) _ _ _ _ _
end Go.Proofs.Ytmddgimadlmacaa
