import Derived.Test.YtecejnilajbdpaaGreatDoorTz34
set_option maxRecDepth 100000
set_option maxHeartbeats 16000000
namespace Garner
open Go
theorem find_at {ls : List (Bs × Bs)} {n : Bs} {k : Nat} (h : ∀ x ∈ ls.take k, x.1 ≠ n) : findP ls n = findP (ls.drop k) n := by
 induction ls generalizing k with
 | nil => simp
 | cons y r ih =>
  cases k with
  | zero => rfl
  | succ k =>
   have h1 := h y (by simp)
   rw [findP, if_neg h1, List.drop_succ_cons]
   exact ih fun x hx => h x (by simp [hx])
theorem find_hit {ls : List (Bs × Bs)} {n : Bs} {k : Nat} {x : Bs × Bs} (h : ∀ x ∈ ls.take k, x.1 ≠ n) (hx : ls[k]? = some x) (he : x.1 = n) : findP ls n = x.2 := by
 rw [find_at h]
 obtain ⟨h1, h2⟩ := List.getElem?_eq_some_iff.1 hx
 rw [List.drop_eq_getElem_cons h1, h2, findP, if_pos he]
theorem labCells_len (x : Bs × Bs) : (labCells x).length = 2 := rfl
end Garner
namespace Go.Proofs.YtecejnilajbdpaaGreatDoor
open Go.RowKit Go.Shelf Garner
theorem vCloneMat (n : Nat) (xs : List Value) (A : Option Addr) (c B : Nat) (w : World) (hr : Row w B 3 A n xs) (h1 : ∀ u ∈ xs, u.oneCell' = true) (hB : B ≤ w.heap.size) (hl : n ≤ 1000000000000) :
  Calls Tryz.prog 36 #[.slice A n c] w fun e w' => CloneP 69 3 n xs w e w' := by
 have hq := fun (u : World) (a : Option Addr) (n c : Nat) => Lib.run_eql_slice_nil (P := Tryz.prog) u 22 69 a n c 0 0 Tryz.underlying22
 cases A with
 | none =>
  have h0 : n = 0 := by
   rcases Nat.eq_zero_or_pos n with h | h
   ·exact h
   obtain ⟨_, _, h, _⟩ := hr.2 h; cases h
  subst h0
  obtain rfl : xs = [] := List.eq_nil_of_length_eq_zero (by have := hr.1; omega)
  go_enter Tryz.func36, Tryz.ntmps36
  go_wp2
  go_ret
  exact ⟨_, rfl, World.ownsRow_nil _ _ _ _, Below.refl _ _⟩
 | some a =>
  go_enter Tryz.func36, Tryz.ntmps36
  have hown : (w.alloc (.cells #[] 69)).ownsRow w.heap.size 69 3 (.slice (some ⟨w.heap.size, 0, none⟩) 0 0) 0 [] := own_empty (heap_alloc_new _ _) (Nat.le_refl _)
  go_wp2_with (at_builtin; refine wpList_app _ rfl matE rfl rfl hown rfl (hr.alloc hB _) h1 (by omega) (by simp) ?_; intro v3 w3 hown3 hg3 hb3 _)
  go_ret
  exact ⟨v3, rfl, by simpa using hown3, ((Below.refl _ _).alloc (Nat.le_refl _) _).trans hb3⟩
theorem vCloneFil (n : Nat) (xs : List Value) (A : Option Addr) (c B : Nat) (w : World) (hr : Row w B 2 A n xs) (h1 : ∀ u ∈ xs, u.oneCell' = true) (hB : B ≤ w.heap.size) (hl : n ≤ 1000000000000) :
  Calls Tryz.prog 37 #[.slice A n c] w fun e w' => CloneP 71 2 n xs w e w' := by
 have hq := fun (u : World) (a : Option Addr) (n c : Nat) => Lib.run_eql_slice_nil (P := Tryz.prog) u 23 71 a n c 0 0 Tryz.underlying23
 cases A with
 | none =>
  have h0 : n = 0 := by
   rcases Nat.eq_zero_or_pos n with h | h
   ·exact h
   obtain ⟨_, _, h, _⟩ := hr.2 h; cases h
  subst h0
  obtain rfl : xs = [] := List.eq_nil_of_length_eq_zero (by have := hr.1; omega)
  go_enter Tryz.func37, Tryz.ntmps37
  go_wp2
  go_ret
  exact ⟨_, rfl, World.ownsRow_nil _ _ _ _, Below.refl _ _⟩
 | some a =>
  go_enter Tryz.func37, Tryz.ntmps37
  have hown : (w.alloc (.cells #[] 71)).ownsRow w.heap.size 71 2 (.slice (some ⟨w.heap.size, 0, none⟩) 0 0) 0 [] := own_empty (heap_alloc_new _ _) (Nat.le_refl _)
  go_wp2_with (at_builtin; refine wpList_app _ rfl filE rfl rfl hown rfl (hr.alloc hB _) h1 (by omega) (by simp) ?_; intro v3 w3 hown3 hg3 hb3 _)
  go_ret
  exact ⟨v3, rfl, by simpa using hown3, ((Below.refl _ _).alloc (Nat.le_refl _) _).trans hb3⟩
theorem vNot (o : Int) (w : World) : Calls Tryz.prog 43 #[.int .i64 o] w fun e w' => e = .returned (.bool (notO o)) ∧ w' = w := by
 obtain ⟨ANS, hA⟩ : ∃ ANS, notO o = ANS := ⟨_, rfl⟩
 have hx := hA
 unfold notO at hx
 rw [hA]
 clear hA
 go_enter Tryz.func43, Tryz.ntmps43
 by_cases h2 : o = 2
 ·subst h2
  obtain rfl := hx
  go_wp2
  go_ret
  exact ⟨rfl, rfl⟩
 by_cases h4 : o = 4
 ·subst h4
  obtain rfl := hx
  go_wp2
  go_ret
  exact ⟨rfl, rfl⟩
 rw [decide_eq_false h2, decide_eq_false h4] at hx
 obtain rfl := hx
 have z3 : (o == 2) = false := by simp [h2]
 have z4 : (o == 4) = false := by simp [h4]
 go_wp2
 go_ret
 exact ⟨by first | rfl | simp [h2, h4], rfl⟩
theorem lab_cells {w : World} {B : Nat} {l : List (Bs × Bs)} {A : Option Addr} {n : Nat} (h : Row w B 2 A n (l.flatMap labCells)) {k : Nat} {x : Bs × Bs} (hx : l[k]? = some x) (hk : k < n) : ∃ b off, A = some ⟨b, off, none⟩ ∧ ∀ wx, Below B w wx → wx.cell? ⟨b, off + k * 2, none⟩ = some (strB x.1) ∧ wx.cell? ⟨b, off + k * 2 + 1, none⟩ = some (strB x.2) := by
 obtain ⟨b, off, e, hb, hc⟩ := row_cells labCells_len h hx hk
 refine ⟨b, off, e, fun wx hw => ?_⟩
 have key : ∀ j, j < 2 → wx.cell? ⟨b, off + (k * 2 + j), none⟩ = (labCells x)[j]? := fun j hj => by
  rw [hw.cell (p := ⟨b, off + (k * 2 + j), none⟩) hb]; exact hc j hj
 refine ⟨key 0 (by omega), ?_⟩
 have := key 1 (by omega); rwa [← Nat.add_assoc] at this
def FindO (v : Bs) (w : World) (e : Ending) (w' : World) : Prop := ∃ b, e = .returned (.tuple #[strB v, .bool b]) ∧ Below w.heap.size w w'
theorem vFind (ls : List (Bs × Bs)) (name : Bs) (A : Option Addr) (n c : Nat) (w : World) (hr : Row w w.heap.size 2 A n (ls.flatMap labCells)) (hn : ls.length = n) (hl : n ≤ 140737488355328) :
  Calls Tryz.prog 41 #[.slice A n c, strB name] w fun e w' => FindO (findP ls name) w e w' := by
 obtain ⟨S, eS, hS⟩ := str_form name
 obtain ⟨ANS, hA⟩ : ∃ ANS, findP ls name = ANS := ⟨_, rfl⟩
 rw [eS, hA]
 have HR := Lh hr; have Hn := Lh hn; have HA := Lh hA; have HS := Lh hS
 clear hr hn hA eS hS
 go_enter Tryz.func41, Tryz.ntmps41
 go_wp2_with fail
 go_loopw [10] (fun i wr => ∃ k : Nat, k ≤ n ∧ i = .int .i64 k ∧ Hid (∀ x ∈ ls.take k, x.1 ≠ name) ∧ Hid (Below w.heap.size w wr)) (fun i _ => n - (intOf i).toNat)
 case atStart => exact ⟨0, Nat.zero_le _, rfl, Lh (by simp), Lh (Below.refl _ _)⟩
 obtain ⟨k, hk, rfl, hall, hbw⟩ := hrel
 obtain ⟨wo, rfl⟩ : ∃ wo : World, wo = wr := ⟨_, rfl⟩
 have wk1 := wS k (by omega)
 by_cases hlt : k < n
 ·have z1 : (k : Int) < (n : Int) := by omega
  obtain ⟨x, hx⟩ : ∃ x, ls[k]? = some x := ⟨_, List.getElem?_eq_getElem (by rw [Hn.out]; exact hlt)⟩
  obtain ⟨b, off, rfl, hc⟩ := lab_cells HR.out hx hlt
  obtain ⟨c0, c1⟩ := hc wo hbw.out
  obtain ⟨N1, e1, hN1⟩ := str_form x.1
  obtain ⟨N2, e2, hN2⟩ := str_form x.2
  rw [e1] at c0
  rw [e2] at c1
  obtain ⟨V, hV⟩ : ∃ V, V = wo.alloc (.cells #[.string N1, .string N2] 43) := ⟨_, rfl⟩
  have bV : Below wo.heap.size wo V := by rw [hV]; exact (Below.refl _ _).alloc (Nat.le_refl _) _
  have kV : Blk V wo.heap.size 43 [.string N1, .string N2] := by rw [hV]; exact Blk.new wo _ _
  have v0 : V.cell? ⟨wo.heap.size, 0, none⟩ = some (.string N1) := kV.cell 0
  have v1 : V.cell? ⟨wo.heap.size, 1, none⟩ = some (.string N2) := kV.cell 1
  have LV := Lh (hbw.out.trans (bV.mono hbw.out.size))
  have hq : (N1.toList == S.toList) = decide (x.1 = name) := by
   rw [hN1, HS.out]
   simp
   by_cases h : x.1 = name
   ·rw [decide_eq_true h, beq_iff_eq]; exact h
   rw [decide_eq_false h, beq_eq_false_iff_ne]; exact h
  by_cases h1 : x.1 = name
  ·have he : N2 = ⟨ANS.toArray⟩ := by rw [hN2, ← find_hit hall.out hx h1, HA.out]
   rw [decide_eq_true h1] at hq
   have HE := Lh he
   clear he hN2 hN1 e1 e2 h1 hx hc kV bV hall
   go_upto_region 4 with fail
   rw [← hV]
   clear hV c0 c1
   go_wp2
   go_ret2
   exact ⟨true, by rw [HE.out]; rfl, LV.out⟩
  have hnx : ∀ y ∈ ls.take (k + 1), y.1 ≠ name := by
   intro y hy
   rw [List.take_add_one, hx, Option.toList_some, List.mem_append, List.mem_singleton] at hy
   rcases hy with hy | rfl
   ·exact hall.out y hy
   exact h1
  rw [decide_eq_false h1] at hq
  have HNx := Lh hnx
  clear hnx hN2 hN1 e1 e2 h1 hx hc kV bV hall
  go_upto_region 4 with fail
  rw [← hV]
  clear hV c0 c1
  go_wp2
  exact ⟨⟨k + 1, by omega, by first | rfl | go_num, HNx, LV⟩, by simp [intOf]; omega⟩
 obtain rfl : k = n := by omega
 have z1 : ¬ (k : Int) < (k : Int) := by omega
 have he : ANS = [] := by
  have := hall.out
  rw [← HA.out, find_at this, List.drop_eq_nil_of_le (by rw [Hn.out]; exact Nat.le_refl _)]
  rfl
 have HE := Lh he
 clear he hall
 go_wp2
 go_ret2
 exact ⟨false, by rw [HE.out]; rfl, hbw.out⟩
end Go.Proofs.YtecejnilajbdpaaGreatDoor
namespace Garner
open Go
theorem has_at {l p : Bs} {k : Nat} (e : (l.drop k).take p.length = p) : Lib.contains l p = true := by
 rw [contains_iff]
 refine ⟨l.take k, (l.drop k).drop p.length, ?_⟩
 have h1 : (l.drop k).take p.length ++ (l.drop k).drop p.length = l.drop k := List.take_append_drop _ _
 rw [e] at h1
 rw [List.append_assoc, h1, List.take_append_drop]
theorem str_eqlA {a b : Bs} {S T : ByteArray} (hS : S = ⟨a.toArray⟩) (hT : T = ⟨b.toArray⟩) : (S.toList == T.toList) = decide (a = b) := by
 rw [hS, hT]
 simp
 by_cases h : a = b
 ·rw [decide_eq_true h, beq_iff_eq]; exact h
 rw [decide_eq_false h, beq_eq_false_iff_ne]; exact h
theorem has_none {l p : Bs} (h : ∀ j, j + p.length ≤ l.length → (l.drop j).take p.length ≠ p) : Lib.contains l p = false := by
 rw [← Bool.not_eq_true, contains_iff]
 rintro ⟨a, b, e⟩
 refine h a.length (by rw [e]; simp) ?_
 rw [e, List.append_assoc, List.drop_left, List.take_left]
end Garner
namespace Go.Proofs.YtecejnilajbdpaaGreatDoor
open Go.RowKit Go.Shelf Garner
theorem gName (S : ByteArray) (l : Bs) (hS : S = ⟨l.toArray⟩) (w : World) (hl : l.length ≤ 9223372036854775807) :
  Calls Tryz.prog 55 #[.string S] w fun e w' => e = .returned (.bool (nameP l)) ∧ w' = w := by
 have hidx : ∀ k, k < l.length → ∀ z : Int, z = (k : Int) → (Instr.index 9 (.string S) (.int .i64 z)).run Tryz.prog w = .ok (.int .u8 (byteN l k : Nat)) w := fun k hk z hz => idx_byte (P := Tryz.prog) 9 Tryz.underlying9 S l hS z k hz hk w
 have zS : S.size = l.length := by rw [hS]; exact str_size l
 obtain ⟨ANS, hANS⟩ : ∃ ANS, nameP l = ANS := ⟨_, rfl⟩
 obtain ⟨N, hN⟩ : ∃ N, l.length = N := ⟨_, rfl⟩
 rw [hN] at hl zS hidx
 rw [hANS]
 have HI := Lh hidx; have HA := Lh hANS; have HN := Lh hN
 clear hidx hANS hN hS
 go_enter Tryz.func55, Tryz.ntmps55
 by_cases h1 : N < 1
 ·have z1 : (N : Int) < 1 := by omega
  have hans : ANS = false := by rw [← HA.out, nameP, HN.out, decide_eq_false (show ¬ 1 ≤ N by omega)]; rfl
  have HAn := Lh hans
  clear hans h1
  go_wp2
  go_ret
  exact ⟨by rw [HAn.out]; rfl, rfl⟩
 have z1 : ¬ (N : Int) < 1 := by omega
 by_cases h2 : 32 < N
 ·have z2 : (32 : Int) < (N : Int) := by omega
  have hans : ANS = false := by rw [← HA.out, nameP, HN.out, decide_eq_false (show ¬ N ≤ 32 by omega), Bool.and_false]; rfl
  have HAn := Lh hans
  clear hans h1 h2
  go_wp2
  go_ret
  exact ⟨by rw [HAn.out]; rfl, rfl⟩
 have z2 : ¬ (32 : Int) < (N : Int) := by omega
 have hans : ANS = nameAll true l := by rw [← HA.out, nameP, HN.out, decide_eq_true (show 1 ≤ N by omega), decide_eq_true (show N ≤ 32 by omega)]; rfl
 have HAn := Lh hans
 clear hans
 go_wp2
 go_loopw [3] (fun i wr => ∃ k : Nat, k ≤ N ∧ i = .int .i64 k ∧ Hid (nameAll true l = nameAll (decide (k = 0)) (l.drop k)) ∧ wr = w) (fun i _ => N - (intOf i).toNat)
 case atStart => exact ⟨0, Nat.zero_le _, rfl, Lh rfl, rfl⟩
 obtain ⟨k, hk, rfl, heq, hwr⟩ := hrel
 obtain rfl : w = wr := hwr.symm
 have wk1 := wS k (by omega)
 by_cases hlt : k < N
 ·have z3 : (k : Int) < (N : Int) := by omega
  obtain ⟨c, hc⟩ : ∃ c, l[k]? = some c := ⟨_, List.getElem?_eq_getElem (by rw [HN.out]; exact hlt)⟩
  have i1 := HI.out k hlt (k : Int) rfl
  have eb : byteN l k = c.toNat := by unfold byteN; rw [List.getD, hc]; rfl
  rw [eb] at i1
  have hst := heq.out
  rw [nameAll_at hc] at hst
  have hno : nameC (decide (k = 0)) c = false → ANS = false := fun h => by rw [HAn.out, hst, h]; rfl
  have hyes : nameC (decide (k = 0)) c = true → nameAll true l = nameAll (decide (k + 1 = 0)) (l.drop (k + 1)) := fun h => by rw [hst, h]; rfl
  obtain ⟨q, hq⟩ : ∃ q, c.toNat = q := ⟨_, rfl⟩
  have hn : nameC (decide (k = 0)) c = (decide (q = 95) || (decide (97 ≤ q) && decide (q ≤ 122)) || (!decide (k = 0) && (decide (48 ≤ q) && decide (q ≤ 57)))) := by unfold nameC; rw [hq]
  rw [hn] at hno hyes
  rw [hq] at i1
  have HNo := Lh hno; have HYes := Lh hyes
  clear hno hyes hn hst eb hc hq heq
  have fin : ∀ h : (decide (q = 95) || (decide (97 ≤ q) && decide (q ≤ 122)) || (!decide (k = 0) && (decide (48 ≤ q) && decide (q ≤ 57)))) = true, Hid (nameAll true l = nameAll (decide (k + 1 = 0)) (l.drop (k + 1))) := fun h => Lh (HYes.out h)
  have HFin := Lh fin
  clear fin
  have hcase : (97 ≤ q ∧ q ≤ 122) ∨ q = 95 ∨ (48 ≤ q ∧ q ≤ 57 ∧ 0 < k) ∨ (48 ≤ q ∧ q ≤ 57 ∧ k = 0) ∨ q < 48 ∨ (57 < q ∧ q < 95) ∨ q = 96 ∨ 122 < q := by omega
  rcases hcase with ⟨a1, a2⟩ | a1 | ⟨a1, a2, a3⟩ | ⟨a1, a2, a3⟩ | a1 | ⟨a1, a2⟩ | a1 | a1
  ·have HF := HFin.out (by simp [a1, a2])
   have c1 : (97 : Int) ≤ (q : Int) := by omega
   have c2 : (q : Int) ≤ 122 := by omega
   go_wp2
   go_roundw
   case rel => exact ⟨k + 1, by omega, by first | rfl | go_num, HF, (by first | rfl | trivial)⟩
   case measure => simp [intOf]; omega
  ·subst a1
   have HF := HFin.out (by simp)
   go_wp2
   go_roundw
   case rel => exact ⟨k + 1, by omega, by first | rfl | go_num, HF, (by first | rfl | trivial)⟩
   case measure => simp [intOf]; omega
  ·have b3 : ¬ k = 0 := by omega
   have HF := HFin.out (by simp [a1, a2, b3])
   have b4 : ((q : Int) == 95) = false := by simp; omega
   have b5 : (0 : Int) < (k : Int) := by omega
   have c1 : (48 : Int) ≤ (q : Int) := by omega
   have c2 : (q : Int) ≤ 57 := by omega
   have c3 : ¬ (97 : Int) ≤ (q : Int) := by omega
   go_wp2
   go_roundw
   case rel => exact ⟨k + 1, by omega, by first | rfl | go_num, HF, (by first | rfl | trivial)⟩
   case measure => simp [intOf]; omega
  ·have hans := HNo.out (by simp [a3]; omega)
   have HAn2 := Lh hans
   clear hans
   have b4 : ((q : Int) == 95) = false := by simp; omega
   have c3 : ¬ (97 : Int) ≤ (q : Int) := by omega
   subst a3
   replace i1 : (Instr.index 9 (.string S) (.int .i64 0)).run Tryz.prog w = .ok (.int .u8 (q : Nat)) w := i1
   go_wp2
   go_ret
   exact ⟨by rw [HAn2.out]; rfl, rfl⟩
  ·have hans := HNo.out (by simp; omega)
   have HAn2 := Lh hans
   clear hans
   have b4 : ((q : Int) == 95) = false := by simp; omega
   have c1 : ¬ (48 : Int) ≤ (q : Int) := by omega
   have c3 : ¬ (97 : Int) ≤ (q : Int) := by omega
   by_cases hk0 : k = 0
   ·subst hk0
    replace i1 : (Instr.index 9 (.string S) (.int .i64 0)).run Tryz.prog w = .ok (.int .u8 (q : Nat)) w := i1
    go_wp2
    go_ret
    exact ⟨by rw [HAn2.out]; rfl, rfl⟩
   have b5 : (0 : Int) < (k : Int) := by omega
   go_wp2
   go_ret
   exact ⟨by rw [HAn2.out]; rfl, rfl⟩
  ·have hans := HNo.out (by simp; omega)
   have HAn2 := Lh hans
   clear hans
   have b4 : ((q : Int) == 95) = false := by simp; omega
   have c1 : (48 : Int) ≤ (q : Int) := by omega
   have c2 : ¬ (q : Int) ≤ 57 := by omega
   have c3 : ¬ (97 : Int) ≤ (q : Int) := by omega
   by_cases hk0 : k = 0
   ·subst hk0
    replace i1 : (Instr.index 9 (.string S) (.int .i64 0)).run Tryz.prog w = .ok (.int .u8 (q : Nat)) w := i1
    go_wp2
    go_ret
    exact ⟨by rw [HAn2.out]; rfl, rfl⟩
   have b5 : (0 : Int) < (k : Int) := by omega
   go_wp2
   go_ret
   exact ⟨by rw [HAn2.out]; rfl, rfl⟩
  ·subst a1
   have hans := HNo.out (by simp)
   have HAn2 := Lh hans
   clear hans
   by_cases hk0 : k = 0
   ·subst hk0
    replace i1 : (Instr.index 9 (.string S) (.int .i64 0)).run Tryz.prog w = .ok (.int .u8 96) w := i1
    go_wp2
    go_ret
    exact ⟨by rw [HAn2.out]; rfl, rfl⟩
   have b5 : (0 : Int) < (k : Int) := by omega
   go_wp2
   go_ret
   exact ⟨by rw [HAn2.out]; rfl, rfl⟩
  have hans := HNo.out (by simp; omega)
  have HAn2 := Lh hans
  clear hans
  have b4 : ((q : Int) == 95) = false := by simp; omega
  have c1 : (48 : Int) ≤ (q : Int) := by omega
  have c2 : ¬ (q : Int) ≤ 57 := by omega
  have c3 : (97 : Int) ≤ (q : Int) := by omega
  have c4 : ¬ (q : Int) ≤ 122 := by omega
  by_cases hk0 : k = 0
  ·subst hk0
   replace i1 : (Instr.index 9 (.string S) (.int .i64 0)).run Tryz.prog w = .ok (.int .u8 (q : Nat)) w := i1
   go_wp2
   go_ret
   exact ⟨by rw [HAn2.out]; rfl, rfl⟩
  have b5 : (0 : Int) < (k : Int) := by omega
  go_wp2
  go_ret
  exact ⟨by rw [HAn2.out]; rfl, rfl⟩
 obtain rfl : k = N := by omega
 have z3 : ¬ (k : Int) < (k : Int) := by omega
 have hans2 : ANS = true := by rw [HAn.out, heq.out, List.drop_eq_nil_of_le (by rw [HN.out]; exact Nat.le_refl _), nameAll]
 have HAn2 := Lh hans2
 clear hans2 heq
 go_wp2
 go_ret
 exact ⟨by rw [HAn2.out]; rfl, rfl⟩
theorem gFind (ls : List (Bs × Bs)) (name : Bs) (A : Option Addr) (n c : Nat) (w : World) (hr : Row w w.heap.size 2 A n (ls.flatMap labCells)) (hn : ls.length = n) (hl : n ≤ 140737488355328) :
  Calls Tryz.prog 62 #[.slice A n c, strB name] w fun e w' => FindO (findP ls name) w e w' := by
 obtain ⟨S, eS, hS⟩ := str_form name
 obtain ⟨ANS, hA⟩ : ∃ ANS, findP ls name = ANS := ⟨_, rfl⟩
 rw [eS, hA]
 have HR := Lh hr; have Hn := Lh hn; have HA := Lh hA; have HS := Lh hS
 clear hr hn hA eS hS
 go_enter Tryz.func62, Tryz.ntmps62
 go_wp2_with fail
 go_loopw [6] (fun i wr => ∃ k : Nat, k ≤ n ∧ i = .int .i64 k ∧ Hid (∀ x ∈ ls.take k, x.1 ≠ name) ∧ wr = w) (fun i _ => n - (intOf i).toNat)
 case atStart => exact ⟨0, Nat.zero_le _, rfl, Lh (by simp), rfl⟩
 obtain ⟨k, hk, rfl, hall, hwr⟩ := hrel
 obtain rfl : w = wr := hwr.symm
 have wk1 := wS k (by omega)
 by_cases hlt : k < n
 ·have z1 : (k : Int) < (n : Int) := by omega
  obtain ⟨x, hx⟩ : ∃ x, ls[k]? = some x := ⟨_, List.getElem?_eq_getElem (by rw [Hn.out]; exact hlt)⟩
  obtain ⟨b, off, rfl, hc⟩ := lab_cells HR.out hx hlt
  obtain ⟨c0, c1⟩ := hc w (Below.refl _ _)
  obtain ⟨N1, e1, hN1⟩ := str_form x.1
  obtain ⟨N2, e2, hN2⟩ := str_form x.2
  rw [e1] at c0
  rw [e2] at c1
  have hq : (N1.toList == S.toList) = decide (x.1 = name) := by
   rw [hN1, HS.out]
   simp
   by_cases h : x.1 = name
   ·rw [decide_eq_true h, beq_iff_eq]; exact h
   rw [decide_eq_false h, beq_eq_false_iff_ne]; exact h
  by_cases h1 : x.1 = name
  ·have he : N2 = ⟨ANS.toArray⟩ := by rw [hN2, ← find_hit hall.out hx h1, HA.out]
   rw [decide_eq_true h1] at hq
   have HE := Lh he
   clear he hN2 hN1 e1 e2 h1 hx hc hall
   go_wp2
   go_ret2
   exact ⟨true, by rw [HE.out]; rfl, Below.refl _ _⟩
  have hnx : ∀ y ∈ ls.take (k + 1), y.1 ≠ name := by
   intro y hy
   rw [List.take_add_one, hx, Option.toList_some, List.mem_append, List.mem_singleton] at hy
   rcases hy with hy | rfl
   ·exact hall.out y hy
   exact h1
  rw [decide_eq_false h1] at hq
  have HNx := Lh hnx
  clear hnx hN2 hN1 e1 e2 h1 hx hc hall
  go_wp2
  go_roundw
  case rel => exact ⟨k + 1, by omega, by first | rfl | go_num, HNx, (by first | rfl | trivial)⟩
  case measure => simp [intOf]; omega
 obtain rfl : k = n := by omega
 have z1 : ¬ (k : Int) < (k : Int) := by omega
 have he : ANS = [] := by
  have := hall.out
  rw [← HA.out, find_at this, List.drop_eq_nil_of_le (by rw [Hn.out]; exact Nat.le_refl _)]
  rfl
 have HE := Lh he
 clear he hall
 go_wp2
 go_ret2
 exact ⟨false, by rw [HE.out]; rfl, Below.refl _ _⟩
theorem gHas (S T : ByteArray) (l p : Bs) (hS : S = ⟨l.toArray⟩) (hT : T = ⟨p.toArray⟩) (w : World) (hl : l.length ≤ 4000000000000000000) (hp : p.length ≤ 4000000000000000000) :
  Calls Tryz.prog 64 #[.string S, .string T] w fun e w' => e = .returned (.bool (Lib.contains l p)) ∧ w' = w := by
 have zS : S.size = l.length := by rw [hS]; exact str_size l
 have zT : T.size = p.length := by rw [hT]; exact str_size p
 obtain ⟨ANS, hANS⟩ : ∃ ANS, Lib.contains l p = ANS := ⟨_, rfl⟩
 obtain ⟨N, hN⟩ : ∃ N, l.length = N := ⟨_, rfl⟩
 obtain ⟨M, hM⟩ : ∃ M, p.length = M := ⟨_, rfl⟩
 rw [hN] at zS hl
 rw [hM] at zT hp
 rw [hANS]
 have HA := Lh hANS; have HN := Lh hN; have HM := Lh hM; have HS := Lh hS; have HT := Lh hT
 clear hANS hN hS hM hT
 go_enter Tryz.func64, Tryz.ntmps64
 go_wp2
 go_loopw [5] (fun i wr => ∃ k : Nat, k ≤ N + 1 ∧ i = .int .i64 k ∧ Hid (∀ j, j < k → j + p.length ≤ l.length → (l.drop j).take p.length ≠ p) ∧ wr = w) (fun i _ => N + 1 - (intOf i).toNat)
 case atStart => exact ⟨0, Nat.zero_le _, rfl, Lh (by intro j hj; omega), rfl⟩
 obtain ⟨k, hk, rfl, hall, hwr⟩ := hrel
 obtain rfl : w = wr := hwr.symm
 have wk1 := wS k (by omega)
 have wk2 : IntKind.i64.wrap ((k : Int) + (M : Int)) = ((k + M : Nat) : Int) := by rw [IntKind.wrap_i64]; omega
 by_cases hlt : k + M ≤ N
 ·have z1 : ((k + M : Nat) : Int) ≤ (N : Int) := by omega
  have hex : S.extract k (k + M) = ⟨((l.drop k).take p.length).toArray⟩ := by
   rw [HS.out]
   apply ByteArray.ext
   rw [← Array.toList_inj, Lib.extract_data]
   simp only
   rw [HM.out, Nat.add_sub_cancel_left]
  have hq : ((S.extract k (k + M)).toList == T.toList) = decide ((l.drop k).take p.length = p) := str_eqlA hex HT.out
  by_cases he : (l.drop k).take p.length = p
  ·rw [decide_eq_true he] at hq
   have hans : ANS = true := by rw [← HA.out]; exact has_at he
   have HAn := Lh hans
   clear hans hex he hall
   go_wp2
   go_ret
   exact ⟨by rw [HAn.out]; rfl, rfl⟩
  rw [decide_eq_false he] at hq
  have hnx : ∀ j, j < k + 1 → j + p.length ≤ l.length → (l.drop j).take p.length ≠ p := fun j hj hl => by
   by_cases h : j < k
   ·exact hall.out j h hl
   obtain rfl : j = k := by omega
   exact he
  have HNx := Lh hnx
  clear hnx hex he hall
  go_wp2
  go_roundw
  case rel => exact ⟨k + 1, by omega, by first | rfl | go_num, HNx, (by first | rfl | trivial)⟩
  case measure => simp [intOf]; omega
 have z1 : ¬ ((k + M : Nat) : Int) ≤ (N : Int) := by omega
 have he : ANS = false := by
  rw [← HA.out]
  refine has_none fun j hj => hall.out j ?_ hj
  rw [HM.out, HN.out] at hj
  omega
 have HE := Lh he
 clear he hall
 go_wp2
 go_ret
 exact ⟨by rw [HE.out]; rfl, rfl⟩
end Go.Proofs.YtecejnilajbdpaaGreatDoor
namespace Garner
open Go
end Garner
