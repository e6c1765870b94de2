import Derived.Test.YtmalkgakdmghiaaPa44
/-! layer 11: block -/
namespace Go.Proofs.Ytmalkgakdmghiaa
open Go.RowKit Go.Shelf Garner

theorem Bytes.take {w : World} {B n m : Nat} {A : Option Addr} {l : Bs} (h : Bytes w B A n l) (hm : m ≤ n) : Bytes w B A m (l.take m) := by
  have h1 := h.1
  refine ⟨by simp at h1 ⊢; omega, fun h0 => ?_⟩
  obtain ⟨b, off, e, hb, hc⟩ := h.2 (by omega)
  refine ⟨b, off, e, hb, fun j u hu => hc j u ?_⟩
  rw [List.map_take, List.getElem?_take] at hu
  split at hu
  · exact hu
  · cases hu
theorem bytesB_upto {bs : List (List Nat)} {k : Nat} (h : k < bs.length) : (bytesB bs).take (atB (put1 bs.length ++ headB bs).length bs (k + 1)) = (put1 bs.length ++ headB bs ++ bodyB (bs.take k)) ++ packB bs[k] := by
  have e : bytesB bs = (put1 bs.length ++ headB bs ++ bodyB (bs.take (k + 1))) ++ bodyB (bs.drop (k + 1)) := by
    unfold bytesB; rw [List.append_assoc, ← bodyB_split, List.append_assoc]
  rw [e, List.take_left' (by unfold atB; simp only [List.length_append]), bodyB_take h, List.append_assoc (put1 bs.length ++ headB bs)]

set_option maxRecDepth 100000 in
set_option maxHeartbeats 4000000 in
theorem vBlock (bs : List (List Nat)) (bb : Bs) (A Ah : Option Addr) (c ch B I hb0 k base : Nat) (w : World) (n0 op0 nx0 : Value) (hok : BlksOk bs) (hbb : bb = bytesB bs) (hb : Bytes w B A bb.length bb) (hB : B ≤ w.heap.size) (hc : bb.length ≤ c)
    (hI : Blk w I 47 [.slice A bb.length c, .slice Ah bs.length ch, n0, op0, nx0]) (hbase : base = (put1 bs.length ++ headB bs).length)
    (hh : w.ownsRow hb0 65 3 (.slice Ah bs.length ch) bs.length (hdC bs base bs.length bs.length)) (hk : k < bs.length) :
    Calls Try.prog 20 #[.pointer (some ⟨I, 0, none⟩), .int .i64 k] w fun e w' => ∃ v, e = .returned (.tuple #[v, .bool true]) ∧ OwnU w' w.heap.size v bs[k] ∧ Below w.heap.size w w' := by
  obtain ⟨g, rfl, hg1, hg2, hg3, hg4, hg5⟩ := own_at hh (by omega)
  obtain ⟨a1, ha1⟩ : ∃ a1, a1 = atB base bs k := ⟨_, rfl⟩
  obtain ⟨a2, ha2⟩ : ∃ a2, a2 = atB base bs (k + 1) := ⟨_, rfl⟩
  obtain ⟨z, hz⟩ : ∃ z, z = lastN bs[k] := ⟨_, rfl⟩
  have c0 : w.cell? ⟨g, k * 3, none⟩ = some (.int .u64 (z : Int)) := by
    rw [hg5 _ (by omega), hdC_at _ _ _ _ _ (by omega)]; unfold hdF; rw [if_pos (by omega), show k * 3 / 3 = k by omega, List.getElem?_eq_getElem hk, hz]; rfl
  have c1 : w.cell? ⟨g, k * 3 + 1, none⟩ = some (.int .i64 (a1 : Int)) := by
    rw [hg5 _ (by omega), hdC_at _ _ _ _ _ (by omega)]; unfold hdF; rw [if_neg (by omega), if_pos (by omega), if_pos (by omega), show (k * 3 + 1) / 3 = k by omega, ha1]
  have c2 : w.cell? ⟨g, k * 3 + 2, none⟩ = some (.int .i64 (a2 : Int)) := by
    rw [hg5 _ (by omega), hdC_at _ _ _ _ _ (by omega)]; unfold hdF; rw [if_neg (by omega), if_pos (by omega), if_neg (by omega), show (k * 3 + 2) / 3 = k by omega, ha2]
  clear hg5
  have cI1 : w.cell? ⟨I, 1, none⟩ = some (.slice (some ⟨g, 0, none⟩) bs.length ch) := hI.cell 1
  have lt1 : (k : Int) < (bs.length : Int) := by omega
  have ha2l : a2 ≤ bb.length := by
    rw [ha2, hbb, hbase]; unfold bytesB; have h1 := atB_end (base := (put1 bs.length ++ headB bs).length) (k := k + 1) (bs := bs); simp only [List.length_append] at h1 ⊢; omega
  have hbbl : bb.length ≤ 5000000 := by rw [hbb]; exact hok.len
  have htk : bb.take a2 = (put1 bs.length ++ headB bs ++ bodyB (bs.take k)) ++ packB bs[k] := by rw [hbb, ha2, hbase]; exact bytesB_upto hk
  have hpl : a1 = (put1 bs.length ++ headB bs ++ bodyB (bs.take k)).length := by rw [ha1, hbase]; unfold atB; rw [← List.length_append]
  obtain ⟨p0, p32, prs, pn, -, -⟩ := hok.ok bs[k] (List.getElem_mem _)
  obtain ⟨p, hp⟩ : ∃ p, p = bs[k] := ⟨_, rfl⟩
  rw [← hp] at p0 p32 prs pn htk
  rw [← hp]
  have hp0 : 0 < p.length := List.length_pos_iff.2 p0
  have Ha1 := Lib.hid ha1; clear ha1
  have Ha2 := Lib.hid ha2; clear ha2
  have Hz := Lib.hid hz; clear hz
  have Hpl := Lib.hid hpl; clear hpl
  have Htk := Lib.hid htk; clear htk
  have Hbb := Lib.hid hbb; clear hbb
  have Hpn := Lib.hid pn; clear pn
  have Hp := Lib.hid hp; clear hp
  have Hbase := Lib.hid hbase; clear hbase
  have k0 := hI.cell 0
  go_enter Try.func20, Try.ntmps20
  go_upto_region 2 with fail
  obtain ⟨w1, hw1⟩ : ∃ w1, w1 = w.alloc (.cells #[.int .u64 (z : Int), .int .i64 (a1 : Int), .int .i64 (a2 : Int)] 65) := ⟨_, rfl⟩
  have s1 : w1.heap.size = w.heap.size + 1 := by rw [hw1]; simp
  have bw1 : Below w.heap.size w w1 := by rw [hw1]; exact (Below.refl _ _).alloc (Nat.le_refl _) _
  have bh1 : Blk w1 w.heap.size 65 [.int .u64 (z : Int), .int .i64 (a1 : Int), .int .i64 (a2 : Int)] := by rw [hw1]; exact Blk.new _ _ _
  have bI1 : Blk w1 I 47 [.slice A bb.length c, .slice (some ⟨g, 0, none⟩) bs.length ch, n0, op0, nx0] := hI.below bw1 hI.lt
  have hb1 : Bytes w1 B A bb.length bb := hb.below (bw1.mono hB)
  rw [← hw1]
  have Hw1 := Lib.hid hw1; clear hw1
  have hIw := hI.lt
  have ha12 : a1 ≤ a2 := by rw [Ha1.out, Ha2.out]; exact atB_le (by omega)
  have hbp : 0 < a2 := by
    have h1 := congrArg List.length Htk.out
    have h2 : 0 < (packB p).length := by unfold packB; rw [List.length_append]; have := put1_pos p.length; omega
    rw [List.length_take, List.length_append] at h1; omega
  obtain ⟨bA, oA, rfl, hbA, -⟩ := hb1.at_ (k := 0) (by omega)
  have ha2c : (a2 : Int) ≤ (c : Int) := by omega
  have ha2c' : a2 ≤ c := by omega
  have hS0 : Below w1.heap.size w1 w1.drew := (Below.refl _ _).drew
  have y0 : ∀ w', Below w1.heap.size w1 w' → w'.cell? ⟨I, 0, none⟩ = some (.slice (some ⟨bA, oA, none⟩) bb.length c) := fun w' h => (h.cell (p := ⟨I, 0, none⟩) (by show I < _; omega)).trans (bI1.cell 0)
  have y1 : ∀ w', Below w1.heap.size w1 w' → w'.cell? ⟨w.heap.size, 1, none⟩ = some (.int .i64 (a1 : Int)) := fun w' h => (h.cell (p := ⟨w.heap.size, 1, none⟩) (by show w.heap.size < _; omega)).trans (bh1.cell 1)
  have y2 : ∀ w', Below w1.heap.size w1 w' → w'.cell? ⟨w.heap.size, 2, none⟩ = some (.int .i64 (a2 : Int)) := fun w' h => (h.cell (p := ⟨w.heap.size, 2, none⟩) (by show w.heap.size < _; omega)).trans (bh1.cell 2)
  have S1 := Lib.hid s1; clear s1
  refine wp_region_N (fun w' => Below w1.heap.size w1 w') 100 (by kernel_rfl) ?_
  apply wpAnyN_takeL 0 (by kernel_rfl) rfl (fun _ _ _ h => h) (by kernel_rfl) hS0
  · intro w' hS'
    go_simp; exact ⟨rfl, rfl⟩
  (try simp only [Act.put]); (try simp only [List.setIfInBounds_toArray]); (try simp only [List.set])
  apply wpAnyN_takeL 1 (by kernel_rfl) rfl (fun _ _ _ h => h) (by kernel_rfl) hS0
  · intro w' hS'
    go_simp; exact ⟨rfl, rfl⟩
  (try simp only [Act.put]); (try simp only [List.setIfInBounds_toArray]); (try simp only [List.set])
  apply wpAnyN_takeL 2 (by kernel_rfl) rfl (fun _ _ _ h => h) (by kernel_rfl) hS0
  · intro w' hS'
    go_simp; exact ⟨rfl, rfl⟩
  (try simp only [Act.put]); (try simp only [List.setIfInBounds_toArray]); (try simp only [List.set])
  apply wpAnyN_takeL 3 (by kernel_rfl) rfl (fun _ _ _ h => h) (by kernel_rfl) hS0
  · intro w' hS'
    go_simp; exact ⟨rfl, rfl⟩
  (try simp only [Act.put]); (try simp only [List.setIfInBounds_toArray]); (try simp only [List.set])
  apply wpAnyN_takeL 4 (by kernel_rfl) rfl (fun _ _ _ h => h) (by kernel_rfl) hS0
  · intro w' hS'
    go_simp; exact ⟨rfl, rfl⟩
  (try simp only [Act.put]); (try simp only [List.setIfInBounds_toArray]); (try simp only [List.set])
  apply wpAnyN_takeL 5 (by kernel_rfl) rfl (fun _ _ _ h => h) (by kernel_rfl) hS0
  · intro w' hS'
    go_simp; exact ⟨rfl, rfl⟩
  (try simp only [Act.put]); (try simp only [List.setIfInBounds_toArray]); (try simp only [List.set])
  apply wpAnyN_takeL 6 (by kernel_rfl) rfl (fun _ _ _ h => h) (by kernel_rfl) hS0
  · intro w' hS'
    go_simp; exact ⟨rfl, rfl⟩
  (try simp only [Act.put]); (try simp only [List.setIfInBounds_toArray]); (try simp only [List.set])
  apply wpAnyN_takeL 7 (by kernel_rfl) rfl (fun _ _ _ h => h) (by kernel_rfl) hS0
  · intro w' hS'
    go_simp; exact ⟨rfl, rfl⟩
  (try simp only [Act.put]); (try simp only [List.setIfInBounds_toArray]); (try simp only [List.set])
  apply wpAnyN_takeL 8 (by kernel_rfl) rfl (fun _ _ _ h => h) (by kernel_rfl) hS0
  · intro w' hS'
    go_simp; exact ⟨rfl, rfl⟩
  (try simp only [Act.put]); (try simp only [List.setIfInBounds_toArray]); (try simp only [List.set])
  refine wpAnyN_runL 9 (by kernel_rfl) rfl (by kernel_rfl) (fun K hK => ?_)
  go_simp
  obtain ⟨cc, hcc⟩ : ∃ cc, cc = bb.take a2 := ⟨_, rfl⟩
  have hlen : a2 = cc.length := by rw [hcc, List.length_take]; omega
  have hbc : Bytes w1.drew B (some ⟨bA, oA, none⟩) cc.length cc := by rw [← hlen, hcc]; exact (Bytes.take hb1 ha2l)
  have hcc2 := hcc.trans Htk.out
  clear hcc Htk
  have Hcc2 := Lib.hid hcc2; clear hcc2
  subst hlen
  refine (vUnpack p (put1 bs.length ++ headB bs ++ bodyB (bs.take k)) cc (some ⟨bA, oA, none⟩) c B w1.drew Hcc2.out p0 (by omega) prs Hpn.out hbc ha2c' (by have := S1.out; simp; omega) (by omega) _ (by rw [Hpl.out])).mono ?_
  rintro e w2 ⟨v, rfl, own2, hb2⟩
  have hS2 : Below w1.heap.size w1 w2 := (Below.refl _ _).drew.trans hb2
  refine hK _ _ (fun _ => hS2) ?_
  clear hK K
  (try simp only [Act.put]); (try simp only [List.setIfInBounds_toArray]); (try simp only [List.set])
  refine wpAnyN_runL 10 (by kernel_rfl) rfl (by kernel_rfl) (fun K hK => ?_)
  go_simp
  refine hK _ _ (fun _ => hS2) ?_
  clear hK K
  (try simp only [Act.put]); (try simp only [List.setIfInBounds_toArray]); (try simp only [List.set])
  apply wpAnyN_takeL 11 (by kernel_rfl) rfl (fun _ _ _ h => h) (by kernel_rfl) hS2
  · intro w' hS'
    go_simp; exact ⟨rfl, rfl⟩
  (try simp only [Act.put]); (try simp only [List.setIfInBounds_toArray]); (try simp only [List.set])
  apply wpAnyN_takeL 12 (by kernel_rfl) rfl (fun _ _ _ h => h) (by kernel_rfl) hS2
  · intro w' hS'
    go_simp; exact ⟨rfl, rfl⟩
  (try simp only [Act.put]); (try simp only [List.setIfInBounds_toArray]); (try simp only [List.set])
  apply wpAnyN_takeL 13 (by kernel_rfl) rfl (fun _ _ _ h => h) (by kernel_rfl) hS2
  · intro w' hS'
    go_simp; exact ⟨rfl, rfl⟩
  (try simp only [Act.put]); (try simp only [List.setIfInBounds_toArray]); (try simp only [List.set])
  refine wpAnyN_runL 14 (by kernel_rfl) rfl (by kernel_rfl) (fun K hK => ?_)
  go_simp
  refine hK _ _ (fun _ => hS2) ?_
  clear hK K
  (try simp only [Act.put]); (try simp only [List.setIfInBounds_toArray]); (try simp only [List.set])
  refine wpAnyN_runL 15 (by kernel_rfl) rfl (by kernel_rfl) (fun K hK => ?_)
  go_simp
  refine hK _ _ (fun _ => hS2) ?_
  clear hK K
  (try simp only [Act.put]); (try simp only [List.setIfInBounds_toArray]); (try simp only [List.set])
  refine wpAnyN_runL 16 (by kernel_rfl) rfl (by kernel_rfl) (fun K hK => ?_)
  go_simp
  refine hK _ _ (fun _ => hS2) ?_
  clear hK K
  (try simp only [Act.put]); (try simp only [List.setIfInBounds_toArray]); (try simp only [List.set])
  refine wpAnyN_done (by kernel_rfl) ?_ _
  obtain ⟨Av, cv, rfl, -⟩ := own_form own2
  have y2' : w2.cell? ⟨w.heap.size, 2, none⟩ = some (.int .i64 (cc.length : Int)) := y2 w2 hS2
  have p0' : (0 : Int) < (p.length : Int) := by omega
  go_wp2
  go_ret2
  exact ⟨_, rfl, own_mono own2 (by have := S1.out; simp; omega), bw1.trans (hS2.mono (by have := S1.out; omega))⟩
end Go.Proofs.Ytmalkgakdmghiaa
