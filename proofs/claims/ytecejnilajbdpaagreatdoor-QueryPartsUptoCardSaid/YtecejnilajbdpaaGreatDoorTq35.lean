import Derived.Test.YtecejnilajbdpaaGreatDoorTq34
import Derived.Test.YtecejnilajbdpaaGreatDoorTq31
import Derived.Test.YtecejnilajbdpaaGreatDoorTq26
import Derived.Test.YtecejnilajbdpaaGreatDoorTq19
/-! query: not; label.Find; slices.Clone of matchers, filters, records -/
namespace Garner
open Go
theorem find_at {ls : List (Bs × Bs)} {n : Bs} {k : Nat} (h : ∀ x ∈ ls.take k, x.1 ≠ n) : findP ls n = findP (ls.drop k) n := by
  induction ls generalizing k with
  | nil => simp
  | cons y r ih =>
    cases k with
    | zero => rfl
    | succ k =>
      have h1 := h y (by simp)
      rw [findP, if_neg h1, List.drop_succ_cons]
      exact ih fun x hx => h x (by simp [hx])
theorem find_hit {ls : List (Bs × Bs)} {n : Bs} {k : Nat} {x : Bs × Bs} (h : ∀ x ∈ ls.take k, x.1 ≠ n) (hx : ls[k]? = some x) (he : x.1 = n) : findP ls n = x.2 := by
  rw [find_at h]
  obtain ⟨h1, h2⟩ := List.getElem?_eq_some_iff.1 hx
  rw [List.drop_eq_getElem_cons h1, h2, findP, if_pos he]
theorem labCells_len (x : Bs × Bs) : (labCells x).length = 2 := rfl
end Garner
namespace Go.Proofs.YtecejnilajbdpaaGreatDoor
open Go.RowKit Go.Shelf Garner
set_option maxRecDepth 100000 in
set_option maxHeartbeats 4000000 in
theorem vCloneMat (n : Nat) (xs : List Value) (A : Option Addr) (c B : Nat) (w : World) (hr : Row w B 3 A n xs) (h1 : ∀ u ∈ xs, u.oneCell' = true) (hB : B ≤ w.heap.size) (hl : n ≤ 1000000000000) :
    Calls Tryz.prog 36 #[.slice A n c] w fun e w' => CloneP 69 3 n xs w e w' := by
  have hq := fun (u : World) (a : Option Addr) (n c : Nat) => Lib.run_eql_slice_nil (P := Tryz.prog) u 22 69 a n c 0 0 Tryz.underlying22
  cases A with
  | none =>
    have h0 : n = 0 := by
      rcases Nat.eq_zero_or_pos n with h | h
      · exact h
      · obtain ⟨_, _, h, _⟩ := hr.2 h; cases h
    subst h0
    obtain rfl : xs = [] := List.eq_nil_of_length_eq_zero (by have := hr.1; omega)
    go_enter Tryz.func36, Tryz.ntmps36
    go_wp2
    go_ret
    exact ⟨_, rfl, World.ownsRow_nil _ _ _ _, Below.refl _ _⟩
  | some a =>
    go_enter Tryz.func36, Tryz.ntmps36
    have hown : (w.alloc (.cells #[] 69)).ownsRow w.heap.size 69 3 (.slice (some ⟨w.heap.size, 0, none⟩) 0 0) 0 [] := own_empty (heap_alloc_new _ _) (Nat.le_refl _)
    go_wp2_with (at_builtin; refine wpList_app _ rfl matE rfl rfl hown rfl (hr.alloc hB _) h1 (by omega) (by simp) ?_; intro v3 w3 hown3 hg3 hb3 _)
    go_ret
    exact ⟨v3, rfl, by simpa using hown3, ((Below.refl _ _).alloc (Nat.le_refl _) _).trans hb3⟩
set_option maxRecDepth 100000 in
set_option maxHeartbeats 4000000 in
theorem vCloneFil (n : Nat) (xs : List Value) (A : Option Addr) (c B : Nat) (w : World) (hr : Row w B 2 A n xs) (h1 : ∀ u ∈ xs, u.oneCell' = true) (hB : B ≤ w.heap.size) (hl : n ≤ 1000000000000) :
    Calls Tryz.prog 37 #[.slice A n c] w fun e w' => CloneP 71 2 n xs w e w' := by
  have hq := fun (u : World) (a : Option Addr) (n c : Nat) => Lib.run_eql_slice_nil (P := Tryz.prog) u 23 71 a n c 0 0 Tryz.underlying23
  cases A with
  | none =>
    have h0 : n = 0 := by
      rcases Nat.eq_zero_or_pos n with h | h
      · exact h
      · obtain ⟨_, _, h, _⟩ := hr.2 h; cases h
    subst h0
    obtain rfl : xs = [] := List.eq_nil_of_length_eq_zero (by have := hr.1; omega)
    go_enter Tryz.func37, Tryz.ntmps37
    go_wp2
    go_ret
    exact ⟨_, rfl, World.ownsRow_nil _ _ _ _, Below.refl _ _⟩
  | some a =>
    go_enter Tryz.func37, Tryz.ntmps37
    have hown : (w.alloc (.cells #[] 71)).ownsRow w.heap.size 71 2 (.slice (some ⟨w.heap.size, 0, none⟩) 0 0) 0 [] := own_empty (heap_alloc_new _ _) (Nat.le_refl _)
    go_wp2_with (at_builtin; refine wpList_app _ rfl filE rfl rfl hown rfl (hr.alloc hB _) h1 (by omega) (by simp) ?_; intro v3 w3 hown3 hg3 hb3 _)
    go_ret
    exact ⟨v3, rfl, by simpa using hown3, ((Below.refl _ _).alloc (Nat.le_refl _) _).trans hb3⟩
set_option maxRecDepth 100000 in
set_option maxHeartbeats 4000000 in
theorem vNot (o : Int) (w : World) : Calls Tryz.prog 43 #[.int .i64 o] w fun e w' => e = .returned (.bool (notO o)) ∧ w' = w := by
  obtain ⟨ANS, hA⟩ : ∃ ANS, notO o = ANS := ⟨_, rfl⟩
  have hx := hA
  unfold notO at hx
  rw [hA]
  clear hA
  go_enter Tryz.func43, Tryz.ntmps43
  by_cases h2 : o = 2
  · subst h2
    obtain rfl := hx
    go_wp2
    go_ret
    exact ⟨rfl, rfl⟩
  · by_cases h4 : o = 4
    · subst h4
      obtain rfl := hx
      go_wp2
      go_ret
      exact ⟨rfl, rfl⟩
    · rw [decide_eq_false h2, decide_eq_false h4] at hx
      obtain rfl := hx
      have z3 : (o == 2) = false := by simp [h2]
      have z4 : (o == 4) = false := by simp [h4]
      go_wp2
      go_ret
      exact ⟨by first | rfl | simp [h2, h4], rfl⟩
/-- a label's cells, at every world above -/
theorem lab_cells {w : World} {B : Nat} {l : List (Bs × Bs)} {A : Option Addr} {n : Nat} (h : Row w B 2 A n (l.flatMap labCells)) {k : Nat} {x : Bs × Bs} (hx : l[k]? = some x) (hk : k < n) : ∃ b off, A = some ⟨b, off, none⟩ ∧ ∀ wx, Below B w wx → wx.cell? ⟨b, off + k * 2, none⟩ = some (strB x.1) ∧ wx.cell? ⟨b, off + k * 2 + 1, none⟩ = some (strB x.2) := by
  obtain ⟨b, off, e, hb, hc⟩ := row_cells labCells_len h hx hk
  refine ⟨b, off, e, fun wx hw => ?_⟩
  have key : ∀ j, j < 2 → wx.cell? ⟨b, off + (k * 2 + j), none⟩ = (labCells x)[j]? := fun j hj => by
    rw [hw.cell (p := ⟨b, off + (k * 2 + j), none⟩) hb]; exact hc j hj
  refine ⟨key 0 (by omega), ?_⟩
  have := key 1 (by omega); rwa [← Nat.add_assoc] at this
def FindO (v : Bs) (w : World) (e : Ending) (w' : World) : Prop := ∃ b, e = .returned (.tuple #[strB v, .bool b]) ∧ Below w.heap.size w w'
set_option maxRecDepth 100000 in
set_option maxHeartbeats 16000000 in
theorem vFind (ls : List (Bs × Bs)) (name : Bs) (A : Option Addr) (n c : Nat) (w : World) (hr : Row w w.heap.size 2 A n (ls.flatMap labCells)) (hn : ls.length = n) (hl : n ≤ 140737488355328) :
    Calls Tryz.prog 41 #[.slice A n c, strB name] w fun e w' => FindO (findP ls name) w e w' := by
  obtain ⟨S, eS, hS⟩ := str_form name
  obtain ⟨ANS, hA⟩ : ∃ ANS, findP ls name = ANS := ⟨_, rfl⟩
  rw [eS, hA]
  have HR := Lib.hid hr; have Hn := Lib.hid hn; have HA := Lib.hid hA; have HS := Lib.hid hS
  clear hr hn hA eS hS
  go_enter Tryz.func41, Tryz.ntmps41
  go_wp2_with fail
  go_loopw [10] (fun i wr => ∃ k : Nat, k ≤ n ∧ i = .int .i64 k ∧ Hid (∀ x ∈ ls.take k, x.1 ≠ name) ∧ Hid (Below w.heap.size w wr)) (fun i _ => n - (intOf i).toNat)
  case atStart => exact ⟨0, Nat.zero_le _, rfl, Lib.hid (by simp), Lib.hid (Below.refl _ _)⟩
  case round =>
    obtain ⟨k, hk, rfl, hall, hbw⟩ := hrel
    obtain ⟨wo, rfl⟩ : ∃ wo : World, wo = wr := ⟨_, rfl⟩
    have wk1 : IntKind.i64.wrap ((k : Int) + 1) = ((k + 1 : Nat) : Int) := by rw [IntKind.wrap_i64]; omega
    by_cases hlt : k < n
    · have z1 : (k : Int) < (n : Int) := by omega
      obtain ⟨x, hx⟩ : ∃ x, ls[k]? = some x := ⟨_, List.getElem?_eq_getElem (by rw [Hn.out]; exact hlt)⟩
      obtain ⟨b, off, rfl, hc⟩ := lab_cells HR.out hx hlt
      obtain ⟨c0, c1⟩ := hc wo hbw.out
      obtain ⟨N1, e1, hN1⟩ := str_form x.1
      obtain ⟨N2, e2, hN2⟩ := str_form x.2
      rw [e1] at c0
      rw [e2] at c1
      obtain ⟨V, hV⟩ : ∃ V, V = wo.alloc (.cells #[.string N1, .string N2] 43) := ⟨_, rfl⟩
      have bV : Below wo.heap.size wo V := by rw [hV]; exact (Below.refl _ _).alloc (Nat.le_refl _) _
      have kV : Blk V wo.heap.size 43 [.string N1, .string N2] := by rw [hV]; exact Blk.new wo _ _
      have v0 : V.cell? ⟨wo.heap.size, 0, none⟩ = some (.string N1) := kV.cell 0
      have v1 : V.cell? ⟨wo.heap.size, 1, none⟩ = some (.string N2) := kV.cell 1
      have LV := Lib.hid (hbw.out.trans (bV.mono hbw.out.size))
      have hq : (N1.toList == S.toList) = decide (x.1 = name) := by
        rw [hN1, HS.out]
        simp
        by_cases h : x.1 = name
        · rw [decide_eq_true h, beq_iff_eq]; exact h
        · rw [decide_eq_false h, beq_eq_false_iff_ne]; exact h
      by_cases h1 : x.1 = name
      · have he : N2 = ⟨ANS.toArray⟩ := by rw [hN2, ← find_hit hall.out hx h1, HA.out]
        rw [decide_eq_true h1] at hq
        have HE := Lib.hid he
        clear he hN2 hN1 e1 e2 h1 hx hc kV bV hall
        go_upto_region 4 with fail
        rw [← hV]
        clear hV c0 c1
        go_wp2
        go_ret2
        exact ⟨true, by rw [HE.out]; rfl, LV.out⟩
      · have hnx : ∀ y ∈ ls.take (k + 1), y.1 ≠ name := by
          intro y hy
          rw [List.take_add_one, hx, Option.toList_some, List.mem_append, List.mem_singleton] at hy
          rcases hy with hy | rfl
          · exact hall.out y hy
          · exact h1
        rw [decide_eq_false h1] at hq
        have HNx := Lib.hid hnx
        clear hnx hN2 hN1 e1 e2 h1 hx hc kV bV hall
        go_upto_region 4 with fail
        rw [← hV]
        clear hV c0 c1
        go_wp2
        exact ⟨⟨k + 1, by omega, by first | rfl | go_num, HNx, LV⟩, by simp [intOf]; omega⟩
    · obtain rfl : k = n := by omega
      have z1 : ¬ (k : Int) < (k : Int) := by omega
      have he : ANS = [] := by
        have := hall.out
        rw [← HA.out, find_at this, List.drop_eq_nil_of_le (by rw [Hn.out]; exact Nat.le_refl _)]
        rfl
      have HE := Lib.hid he
      clear he hall
      go_wp2
      go_ret2
      exact ⟨false, by rw [HE.out]; rfl, hbw.out⟩
end Go.Proofs.YtecejnilajbdpaaGreatDoor

/-! the document's Name, Find, Has -/
namespace Garner
open Go
end Garner
namespace Go.Proofs.YtecejnilajbdpaaGreatDoor
open Go.RowKit Go.Shelf Garner
end Go.Proofs.YtecejnilajbdpaaGreatDoor

/-! QueryParts, plain: a part alone, and its opposite -/
namespace Garner
open Go
def flipO (o : Int) : Int := o + 2 * (o.tmod 2) - 1
theorem flip_cases {o : Int} (h : opOk o = true) : (o = 1 ∧ flipO o = 2) ∨ (o = 2 ∧ flipO o = 1) ∨ (o = 3 ∧ flipO o = 4) ∨ (o = 4 ∧ flipO o = 3) := by
  unfold opOk at h
  simp at h
  obtain h1 | h1 | h1 | h1 : o = 1 ∨ o = 2 ∨ o = 3 ∨ o = 4 := by omega
  all_goals (subst h1; decide)
theorem flip_laws {o : Int} (h : opOk o = true) : opOk (flipO o) = true ∧ likeO (flipO o) = likeO o ∧ notO (flipO o) = !notO o := by
  rcases flip_cases h with ⟨rfl, e⟩ | ⟨rfl, e⟩ | ⟨rfl, e⟩ | ⟨rfl, e⟩ <;> rw [e] <;> decide
def MatP.flip (m : MatP) : MatP := ⟨m.name, flipO m.op, m.val⟩
def FilP.flip (f : FilP) : FilP := ⟨flipO f.op, f.text⟩
theorem mat_flip {m : MatP} (r : RecP) (h : opOk m.op = true) : matHolds r m.flip = !matHolds r m := by
  obtain ⟨-, h2, h3⟩ := flip_laws h
  unfold matHolds matYes MatP.flip
  rw [h2, h3]
  cases (if likeO m.op then patWhole m.val (findP r.labels m.name) else decide (findP r.labels m.name = m.val)) <;> cases notO m.op <;> rfl
theorem fil_flip {f : FilP} (r : RecP) (h : opOk f.op = true) : filHolds r f.flip = !filHolds r f := by
  obtain ⟨-, h2, h3⟩ := flip_laws h
  unfold filHolds filYes FilP.flip
  rw [h2, h3]
  cases (if likeO f.op then patPart f.text r.line else Lib.contains r.line f.text) <;> cases notO f.op <;> rfl
theorem pat_flip {f : FilP} (h : opOk f.op = true) : patOk f.flip = patOk f := by
  obtain ⟨-, h2, -⟩ := flip_laws h
  unfold patOk FilP.flip
  rw [h2]
theorem one_mat {q : QueryP} {k : Nat} {m : MatP} (hc : checkQ q = 0) (h : q.ms[k]? = some m) : opOk m.op = true ∧ checkQ ⟨[m], []⟩ = 0 ∧ checkQ ⟨[m.flip], []⟩ = 0 := by
  obtain ⟨-, h2, -, h4, h5⟩ := check_zero hc
  have hm := List.mem_of_getElem? h
  have a1 := List.all_eq_true.1 h2 m hm
  have hp : m.part ∈ partsQ q := List.mem_append.2 (.inl (List.mem_map.2 ⟨m, hm, rfl⟩))
  have a2 := List.all_eq_true.1 h4 _ hp
  have a3 := List.all_eq_true.1 h5 _ hp
  have a4 := a1
  unfold matOk at a4
  rw [Bool.and_eq_true] at a4
  obtain ⟨f1, -, -⟩ := flip_laws a4.2
  refine ⟨a4.2, check_ok (by simp) (by simp [a1]) rfl (by simp [partsQ, a2]) (by simp [partsQ, a3]), check_ok (by simp) (by simp [matOk, MatP.flip, a4.1, f1]) rfl ?_ ?_⟩
  · show [m.flip.part].all utfOk = true
    rw [List.all_cons, show utfOk m.flip.part = utfOk m.part from rfl, a2]; rfl
  · show [m.part.flip].all patOk = true
    rw [List.all_cons, pat_flip (f := m.part) a4.2, a3]; rfl
theorem one_fil {q : QueryP} {k : Nat} {f : FilP} (hc : checkQ q = 0) (h : q.fs[k]? = some f) : opOk f.op = true ∧ checkQ ⟨[], [f]⟩ = 0 ∧ checkQ ⟨[], [f.flip]⟩ = 0 := by
  obtain ⟨-, -, h3, h4, h5⟩ := check_zero hc
  have hm := List.mem_of_getElem? h
  have a1 := List.all_eq_true.1 h3 f hm
  have hp : f ∈ partsQ q := List.mem_append.2 (.inr hm)
  have a2 := List.all_eq_true.1 h4 _ hp
  have a3 := List.all_eq_true.1 h5 _ hp
  have a4 : opOk f.op = true := a1
  obtain ⟨f1, -, -⟩ := flip_laws a4
  refine ⟨a4, check_ok (by simp) rfl (by simp [a1]) (by simp [partsQ, a2]) (by simp [partsQ, a3]), check_ok (by simp) rfl (by simp [filOk, FilP.flip, f1]) ?_ ?_⟩
  · show [f.flip].all utfOk = true
    rw [List.all_cons, show utfOk f.flip = utfOk f from rfl, a2]; rfl
  · show [f.flip].all patOk = true
    rw [List.all_cons, pat_flip a4, a3]; rfl
theorem holds_one_m (r : RecP) (m : MatP) : holdsQ ⟨[m], []⟩ r = matHolds r m := by simp [holdsQ]
theorem holds_one_f (r : RecP) (f : FilP) : holdsQ ⟨[], [f]⟩ r = filHolds r f := by simp [holdsQ]
end Garner

