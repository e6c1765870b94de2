import Derived.Test.YtmddgimadlmacaaMf11
import Derived.Test.YtmddgimadlmacaaMf07
namespace Go.Proofs.Ytmddgimadlmacaa
open Go.RowKit Garner

set_option maxRecDepth 100000 in
set_option maxHeartbeats 4000000 in
theorem vMread3 (l : List UInt8) (A : Option Addr) (c B : Nat) (w : World) (hr : Bytes w B A l.length l) (hB : B ≤ w.heap.size) (hc : l.length ≤ c) (hl : l.length ≤ 140737488355328) (p : Bs) (hv : fread l 0 = .ok (p, l.length)) :
    Calls Try.prog 14 #[.slice A l.length c] w fun e w' => MreadPost w (mreadP l) e w' := by
  have hread := fun (o : Obj) => vRead l A c B (w.alloc o) 0 (hr.alloc hB o) (by simp; omega) hc (by omega) hl
  rw [hv] at hread
  have hpl := fread_small hv
  have hP : mreadP l = match vall p with
    | .error _ => none
    | .ok ns => if madeOk ns ∧ may (manOf smallN ns) then some (manOf smallN ns) else none := by unfold mreadP; rw [hv]; simp only [ne_eq, not_true_eq_false, ite_false]; rfl
  have Hread := Lib.hid hread; clear hread hv
  have HP := Lib.hid hP; clear hP
  go_enter Try.func14, Try.ntmps14
  go_wp2_with fail
  refine (Hread.out _).mono ?_
  rintro e w1 ⟨v, rfl, hown, hb1⟩
  simp only [World.size_alloc] at hb1 hown
  have hres : Blk w1 w.heap.size 25 [.int .i64 0, .int .i64 0, .int .u64 0, .int .i64 0, .slice none 0 0] := (Blk.new w _ _).below hb1 (by omega)
  have hbw : Below w.heap.size w w1 := ((Below.refl w.heap.size w).alloc (Nat.le_refl _) _).trans (hb1.mono (Nat.le_succ _))
  have hs1 : w.heap.size + 1 ≤ w1.heap.size := hres.lt
  obtain ⟨Ap, cp, rfl, hcp, hrow⟩ := OwnB.shapeC hown
  clear hown
  go_wp2_with fail
  go_loopw [7, 8] (fun v i wr => ∃ (acc : List Nat) (at_ : Nat), Hid (vallUpto p at_ acc ∧ acc.length ≤ at_ ∧ ∀ n ∈ acc, n < 18446744073709551616) ∧ at_ ≤ p.length ∧ i = .int .i64 at_ ∧ OwnU wr w1.heap.size v acc ∧ Below w1.heap.size w1 wr) (fun _ i _ => p.length - (intOf i).toNat)
  case atStart => exact ⟨[], 0, ⟨vallUpto_zero p, by simp, by simp⟩, by omega, rfl, World.ownsRow_nil _ _ _ _, Below.refl _ _⟩
  case round =>
    obtain ⟨acc, at_, hacc, hat, rfl, hown, hbel⟩ := hrel
    obtain ⟨wo, rfl⟩ : ∃ wo : World, wo = wr := ⟨_, rfl⟩
    have hso : w1.heap.size ≤ wo.heap.size := hbel.size
    by_cases hlt : (at_ : Int) < p.length
    · have hget := vGet p Ap cp w1.heap.size wo at_ (hrow.below hbel) hcp (by omega) (by omega)
      cases hv : vget p at_ with
      | error k =>
        rw [hv] at hget
        have hPn : Hid (mreadP l = none) := by
          show _ = _
          rw [HP.out, vallUpto_err hacc.out.1 (by omega) hv]
        have hk' : ((k : Int) != 0) = true := by rw [bne_iff_ne]; have := vget_err hv; omega
        have Hget := Lib.hid hget; clear hget hv
        have hres' : Blk wo w.heap.size 25 _ := hres.below hbel (by omega)
        have v0 := hres'.frozen 0; have v1 := hres'.frozen 1; have v2 := hres'.frozen 2; have v3 := hres'.frozen 3; have v4 := hres'.frozen 4
        have r0 := hres'.cell 0; have r1 := hres'.cell 1; have r2 := hres'.cell 2; have r3 := hres'.cell 3; have r4 := hres'.cell 4
        simp only [List.getElem?_cons_zero, List.getElem?_cons_succ] at r0 r1 r2 r3 r4
        have hbo : Below w.heap.size w wo := hbw.trans (hbel.mono (by omega))
        go_wp2_with fail
        refine Hget.out.mono ?_
        rintro e w2 ⟨rfl, rfl⟩
        simp only [vgetV]
        go_wp2
        refine bodyPost_ret (v := .tuple #[manZ, .int .i64 30]) (by simp [results, Try.results14, go_sem, manZ, *]) rfl ?_
        rw [hPn.out]
        refine ⟨rfl, ?_⟩
        exact below_set5 hbo (Nat.le_refl _) _ _ _ _ _
      | ok q =>
        obtain ⟨n, nx⟩ := q
        rw [hv] at hget
        have hgo := vget_ok hv
        have hpos := put1_pos n
        have hup := vallUpto_step hacc.out.1 (by omega) hv
        have hal := hacc.out.2.1
        have hrel' : Hid (vallUpto p nx (acc ++ [n]) ∧ (acc ++ [n]).length ≤ nx ∧ ∀ m ∈ acc ++ [n], m < 18446744073709551616) := by
          refine ⟨hup, by rw [List.length_append, List.length_singleton]; omega, fun m hm => ?_⟩
          rcases List.mem_append.1 hm with h | h
          · exact hacc.out.2.2 m h
          · rw [List.mem_singleton.1 h]; exact hgo.1
        have hnx : nx ≤ p.length := hgo.2.2.2
        have hnx2 : at_ < nx := by omega
        have hn0 : (n : Int) ≤ 18446744073709551615 := by omega
        have Hal : Hid (acc.length ≤ at_) := hal
        have Hget := Lib.hid hget; clear hget hv hgo hpos hup hal
        go_wp2_with fail
        refine Hget.out.mono ?_
        rintro e w2 ⟨rfl, rfl⟩
        simp only [vgetV]
        have hrn : Row (wo.alloc (.cells #[.int .u64 n] 22)) (wo.heap.size + 1) 1 (some ⟨wo.heap.size, 0, none⟩) 1 [u64v n] := row_new wo 22 [u64v n]
        go_wp2_with (at_builtin; refine wpList_app _ rfl u64E rfl rfl (hown.alloc _) rfl hrn (u64v_one [n]) (by have := Hal.out; omega) (by simp; omega) ?_; intro v4 w4 hown4 hg4 hb4 _)
        go_roundw
        case rel =>
          have hfin : OwnU w4 w1.heap.size v4 (acc ++ [n]) := by simpa [OwnU] using hown4
          have hbf : Below w1.heap.size w1 w4 := (hbel.alloc hso _).trans hb4
          first
            | exact ⟨acc ++ [n], nx, hrel', hnx, by go_num, hfin, hbf⟩
            | ((repeat apply Exists.intro); exact ⟨⟨acc ++ [n], nx, hrel', hnx, by go_num, hfin, hbf⟩, rfl⟩)
        case measure => simp [intOf]; omega
    · obtain ⟨A3, c3, rfl, hrow3⟩ := OwnU.shape hown
      have hPs := HP.out
      rw [vallUpto_end hacc.out.1 (by omega)] at hPs
      simp only [] at hPs
      have hn := hacc.out.2.2
      have hl3 : acc.length ≤ 100000 := by have := hacc.out.2.1; omega
      have hbo : Below w.heap.size w wo := hbw.trans (hbel.mono (by omega))
      have hres' : Blk wo w.heap.size 25 _ := hres.below hbel (by omega)
      clear hown hbel hres hbw hrow hb1 HP Hread hacc
      by_cases hm : madeOk acc
      · have hcall := vMade_ok acc A3 c3 wo.heap.size wo hrow3 (Nat.le_refl _) hn hl3 hm
        have hwf := manOf_wf smallN_in hn
        have hsl2 : (manOf smallN acc).segs.length ≤ 140737488355328 := by
          have hsl := segsOf_len smallN (acc.drop 5)
          show (segsOf smallN (acc.drop 5)).length ≤ _
          rw [List.length_drop] at hsl; omega
        have hP2 : mreadP l = if may (manOf smallN acc) then some (manOf smallN acc) else none := by rw [hPs]; simp only [hm, true_and]
        clear hPs
        generalize manOf smallN acc = m at *
        have Hcall := Lib.hid hcall
        have HP := Lib.hid hP2
        have Hwf := Lib.hid hwf
        clear hcall hP2 hwf hn hm hrow3
        go_wp2_with fail
        refine Hcall.out.mono ?_
        clear Hcall
        rintro e w3 ⟨v3, rfl, hown3, hb3⟩
        obtain ⟨A4, c4, rfl⟩ := own_slice hown3
        go_wp2_with fail
        have hs3 : wo.heap.size ≤ w3.heap.size := hb3.size
        have hres3 : Blk w3 w.heap.size 25 _ := hres'.below hb3 (by have := hres'.lt; omega)
        have hs4 : w.heap.size + 1 ≤ w3.heap.size := hres3.lt
        obtain ⟨X, hX⟩ : ∃ X, X = w3.alloc (manBox m A4 c4) := ⟨_, rfl⟩
        rw [← hX]
        have hbX : Below w3.heap.size w3 X := by rw [hX]; exact (Below.refl _ _).alloc (Nat.le_refl _) _
        have hblk : Blk X w3.heap.size 25 [.int .i64 m.wal, .int .i64 m.next, .int .u64 m.seq, .int .i64 m.mark, .slice A4 m.segs.length c4] := by rw [hX]; exact Blk.new _ _ _
        clear hX
        have hownX := own_below hown3 hbX
        refine (vMay m A4 c4 X.heap.size X (Row.of_own hownX) (Nat.le_refl _) Hwf.out hsl2).mono ?_
        rintro e w5 ⟨rfl, hb5⟩
        have hsX : w3.heap.size + 1 ≤ X.heap.size := hblk.lt
        have hres5 : Blk w5 w.heap.size 25 _ := (hres3.below hbX (by omega)).below hb5 (by omega)
        have hblk5 := hblk.below hb5 (by omega)
        have hown5 := own_below hownX hb5
        have hb05 : Below w.heap.size w w5 := ((hbo.trans (hb3.mono (by omega))).trans (hbX.mono (by omega))).trans (hb5.mono (by omega))
        have k0 := hblk5.cell 0; have k1 := hblk5.cell 1; have k2 := hblk5.cell 2; have k3 := hblk5.cell 3; have k4 := hblk5.cell 4
        have v0 := hres5.frozen 0; have v1 := hres5.frozen 1; have v2 := hres5.frozen 2; have v3 := hres5.frozen 3; have v4 := hres5.frozen 4
        have r0 := hres5.cell 0; have r1 := hres5.cell 1; have r2 := hres5.cell 2; have r3 := hres5.cell 3; have r4 := hres5.cell 4
        simp only [List.getElem?_cons_zero, List.getElem?_cons_succ] at r0 r1 r2 r3 r4 k0 k1 k2 k3 k4
        have HP' := HP.out
        clear HP
        by_cases hmay : may m
        · rw [if_pos hmay] at HP'
          rw [decide_eq_true hmay]
          have HP := Lib.hid HP'
          clear HP' hmay
          go_wp2
          refine bodyPost_ret (v := .tuple #[manV m A4 c4, .int .i64 0]) (by simp [results, Try.results14, go_sem, *]) rfl ?_
          rw [HP.out]
          refine ⟨A4, c4, rfl, ?_, below_set5 hb05 (Nat.le_refl _) _ _ _ _ _⟩
          refine own_mono (B := w.heap.size + 1) ?_ (by omega)
          repeat' refine ownsRow_setCell_below ?_ (by show w.heap.size < _; omega) _
          exact own_mono hown5 (by omega)
        · rw [if_neg hmay] at HP'
          rw [decide_eq_false hmay]
          have HP := Lib.hid HP'
          clear HP' hmay
          go_wp2
          refine bodyPost_ret (v := .tuple #[manZ, .int .i64 30]) (by simp [results, Try.results14, go_sem, manZ, *]) rfl ?_
          rw [HP.out]
          exact ⟨rfl, below_set5 hb05 (Nat.le_refl _) _ _ _ _ _⟩
      · have hcall := vMade_no acc A3 c3 wo.heap.size wo hrow3 (Nat.le_refl _) hl3 hm
        have hP2 : mreadP l = none := by rw [hPs]; simp only [hm, false_and, if_false]
        clear hPs
        have Hcall := Lib.hid hcall
        have HP := Lib.hid hP2
        clear hcall hP2 hn hm hrow3
        go_wp2_with fail
        refine Hcall.out.mono ?_
        clear Hcall
        rintro e w3 ⟨rfl, hb3⟩
        simp only [manZ]
        have hres3 : Blk w3 w.heap.size 25 _ := hres'.below hb3 (by have := hbo.size; have := hres'.lt; omega)
        have hs3 : w.heap.size + 1 ≤ w3.heap.size := hres3.lt
        have hres4 : ∀ o : Obj, Blk (w3.alloc o) w.heap.size 25 _ := fun o => hres3.alloc o
        have v0 := fun o => (hres4 o).frozen 0; have v1 := fun o => (hres4 o).frozen 1; have v2 := fun o => (hres4 o).frozen 2; have v3 := fun o => (hres4 o).frozen 3; have v4 := fun o => (hres4 o).frozen 4
        have r0 := fun o => (hres4 o).cell 0; have r1 := fun o => (hres4 o).cell 1; have r2 := fun o => (hres4 o).cell 2; have r3 := fun o => (hres4 o).cell 3; have r4 := fun o => (hres4 o).cell 4
        simp only [List.getElem?_cons_zero, List.getElem?_cons_succ] at r0 r1 r2 r3 r4
        go_wp2
        refine bodyPost_ret (v := .tuple #[manZ, .int .i64 30]) (by simp [results, Try.results14, go_sem, manZ, *]) rfl ?_
        rw [HP.out]
        refine ⟨rfl, ?_⟩
        exact below_set5 ((hbo.trans (hb3.mono (by omega))).alloc (by omega) _) (Nat.le_refl _) _ _ _ _ _
end Go.Proofs.Ytmddgimadlmacaa
/-! The program's read and the reference's read are one function of the bytes. -/
namespace Garner

def numN (n : Nat) : Int := if 2000000000 < n then -1 else (n : Int)
theorem numN_in (n : Nat) : in64 (numN n) := by unfold numN in64; split <;> omega
theorem smallN_toNat {n : Nat} (h : smallN n ≤ 1000000000) : (smallN n).toNat = n := by unfold smallN at *; split at h <;> (split; omega; omega)
theorem num_small {n : Nat} (h : smallN n ≤ 1000000000) : numN n = smallN n := by unfold smallN at *; unfold numN; split at h <;> (repeat' split) <;> omega
theorem smallN_of {n : Int} (h1 : 1 ≤ n) (h2 : n ≤ 1000000000) : smallN n.toNat = n := by unfold smallN; split <;> omega
theorem numN_toNat {n : Nat} (h : 1 ≤ numN n) : (numN n).toNat = n := by unfold numN at *; split at h <;> (split <;> omega)

/-- a segment's numbers, read again -/
theorem segsOf_nums {next : Int} (hn : next ≤ 1000000000) : ∀ (l : List Seg) (seen : List Int), segsOk next seen l → segsOf smallN (l.flatMap segNums) = l
  | [], _, _ => rfl
  | s :: r, seen, h => by
    have ih := segsOf_nums hn r _ h.2
    have h1 := h.1
    rw [List.flatMap_cons]
    show segsOf smallN (s.id.toNat :: s.count.toNat :: zig s.mn :: zig s.mx :: r.flatMap segNums) = _
    rw [segsOf, ih, smallN_of h1.1 (by have := h1.2.1; omega), smallN_of h1.2.2.2.1 (by have := h1.2.2.2.2.1; omega), zag_zig, zag_zig]
theorem manOf_nums {m : Man} (h : may m) : manOf smallN (manNums m) = m := by
  obtain ⟨h1, h2, h3, h4, h5, h6⟩ := h
  unfold manOf manNums
  simp only [List.getElem?_cons_zero, List.getElem?_cons_succ, Option.getD_some, List.drop_succ_cons, List.drop_zero]
  rw [smallN_of h1 h2, smallN_of h3 h4, zag_zig, segsOf_nums h4 _ _ h6]
theorem madeOk_nums (m : Man) : madeOk (manNums m) := by
  have h := segsNums_len m.segs
  unfold madeOk manNums
  simp only [List.length_cons, List.getElem?_cons_zero, List.getElem?_cons_succ, Option.getD_some, h]
  omega
theorem nums_segsOf {next : Int} (hn : next ≤ 1000000000) {g : Nat → Int} (hg : ∀ n, 1 ≤ g n → g n ≤ 1000000000 → (g n).toNat = n) : ∀ (k : Nat) (l : List Nat) (seen : List Int), l.length = 4 * k → segsOk next seen (segsOf g l) → (segsOf g l).flatMap segNums = l
  | 0, l, _, h, _ => by
    have h0 : l = [] := List.eq_nil_of_length_eq_zero (by omega)
    rw [h0]; rfl
  | k + 1, a :: b :: c :: d :: r, seen, h, hok => by
    rw [segsOf] at hok ⊢
    obtain ⟨⟨o1, o2, _, o4, o5, _⟩, ho⟩ := hok
    rw [List.flatMap_cons, nums_segsOf hn hg k r _ (by simp only [List.length_cons] at h; omega) ho]
    show (g a).toNat :: (g b).toNat :: zig (zag c) :: zig (zag d) :: r = _
    simp only at o1 o2 o4 o5
    rw [hg a o1 (by omega), hg b o4 (by omega), zig_zag, zig_zag]
  | k + 1, [], _, h, _ => by simp at h
  | k + 1, [_], _, h, _ => by simp at h; omega
  | k + 1, [_, _], _, h, _ => by simp at h; omega
  | k + 1, [_, _, _], _, h, _ => by simp at h; omega
theorem segsOf_len4 (g : Nat → Int) : ∀ (k : Nat) (l : List Nat), l.length = 4 * k → (segsOf g l).length = k
  | 0, l, h => by
    have h0 : l = [] := List.eq_nil_of_length_eq_zero (by omega)
    rw [h0]; rfl
  | k + 1, a :: b :: c :: d :: r, h => by rw [segsOf, List.length_cons, segsOf_len4 g k r (by simp only [List.length_cons] at h; omega)]
  | k + 1, [], h => by simp at h
  | k + 1, [_], h => by simp at h; omega
  | k + 1, [_, _], h => by simp at h; omega
  | k + 1, [_, _, _], h => by simp at h; omega
theorem nums_manOf {ns : List Nat} (hm : madeOk ns) (h : may (manOf smallN ns)) : manNums (manOf smallN ns) = ns := by
  obtain ⟨m1, m2, m3⟩ := hm
  match ns, m1 with
  | a :: b :: c :: d :: e :: r, _ =>
    obtain ⟨h1, h2, h3, h4, h5, h6⟩ := h
    have hd : (a :: b :: c :: d :: e :: r).drop 5 = r := rfl
    have hr : r.length = 4 * (r.length / 4) := by simp only [List.length_cons] at m3; omega
    have he : e = r.length / 4 := by simpa using m2
    have e1 := nums_segsOf h4 (fun n _ hn => smallN_toNat hn) (r.length / 4) r _ hr h6
    have e2 := segsOf_len4 smallN (r.length / 4) r hr
    show (smallN a).toNat :: (smallN b).toNat :: c :: zig (zag d) :: (segsOf smallN r).length :: (segsOf smallN r).flatMap segNums = _
    rw [e1, e2, zig_zag, smallN_toNat (n := a) h2, smallN_toNat (n := b) h4, ← he]
theorem segsOf_num {next : Int} (hn : next ≤ 1000000000) : ∀ (l : List Nat) (seen : List Int), segsOk next seen (segsOf smallN l) → segsOf numN l = segsOf smallN l
  | a :: b :: c :: d :: r, seen, h => by
    rw [segsOf] at h ⊢
    obtain ⟨⟨o1, o2, _, o4, o5, _⟩, ho⟩ := h
    simp only at o1 o2 o4 o5
    rw [segsOf, segsOf_num hn r _ ho, num_small (by omega), num_small (by omega)]
  | [], _, _ => rfl
  | [_], _, _ => rfl
  | [_, _], _, _ => rfl
  | [_, _, _], _, _ => rfl
theorem manOf_num {ns : List Nat} (h : may (manOf smallN ns)) : manOf numN ns = manOf smallN ns := by
  obtain ⟨h1, h2, h3, h4, h5, h6⟩ := h
  unfold manOf at *
  rw [num_small h2, num_small h4, segsOf_num h4 _ _ h6]

/-- what the reference reads -/
def mreadR (b : Bs) : Option Man :=
  match fread b 0 with
  | .error _ => none
  | .ok (p, _) => match vall p with
    | .error _ => none
    | .ok ns => if ns.length < 5 then none else match mwrite (manOf numN ns) with
      | .error _ => none
      | .ok f => if f = b then some (manOf numN ns) else none
theorem mwrite_inv {m : Man} {f : Bs} (h : mwrite m = .ok f) : may m ∧ frame (vput (manNums m)) = .ok f := by
  unfold mwrite at h
  split at h
  · exact ⟨‹_›, h⟩
  · cases h
theorem vall_put {ns : List Nat} (h : ∀ n ∈ ns, n < 18446744073709551616) : vall (vput ns) = .ok ns := vall_vput ns _ h (Nat.le_refl _)
/-- read, what was written -/
theorem mread_mwrite {m : Man} {f : Bs} (hw : m.wf) (h : mwrite m = .ok f) : mreadP f = some m ∧ fread f 0 = .ok (vput (manNums m), f.length) := by
  obtain ⟨h1, h2⟩ := mwrite_inv h
  have h3 := fread_frame [] [] h2
  simp only [List.nil_append, List.append_nil, List.length_nil, Nat.zero_add] at h3
  refine ⟨?_, h3⟩
  unfold mreadP
  rw [h3]
  simp only [ne_eq, not_true_eq_false, ite_false]
  rw [vall_put (manNums_lt hw h1.2.2.2.2.1)]
  simp only []
  rw [manOf_nums h1, if_pos ⟨madeOk_nums m, h1⟩]
theorem mread_eq (b : Bs) : mreadR b = mreadP b := by
  cases hf : fread b 0 with
  | error k => unfold mreadR mreadP; rw [hf]
  | ok q =>
    obtain ⟨p, to⟩ := q
    obtain ⟨f, hff, hft, hto, htl⟩ := fread_ok hf
    cases hv : vall p with
    | error k =>
      have h1 : mreadP b = none := by unfold mreadP; rw [hf]; simp only []; rw [hv]; simp
      have h2 : mreadR b = none := by unfold mreadR; rw [hf]; simp only []; rw [hv]
      rw [h1, h2]
    | ok ns =>
      obtain ⟨hp, hlt⟩ := vall_ok _ _ _ hv
      have hR : mreadR b = if ns.length < 5 then none else match mwrite (manOf numN ns) with
          | .error _ => none
          | .ok f => if f = b then some (manOf numN ns) else none := by unfold mreadR; rw [hf]; simp only []; rw [hv]
      have hP : mreadP b = if to ≠ b.length then none else if madeOk ns ∧ may (manOf smallN ns) then some (manOf smallN ns) else none := by unfold mreadP; rw [hf]; simp only []; rw [hv]
      by_cases hok : to = b.length ∧ madeOk ns ∧ may (manOf smallN ns)
      · obtain ⟨k1, k2, k3⟩ := hok
        have hfb : f = b := by rw [← hft, List.drop_zero]; exact List.take_of_length_le (by omega)
        rw [hP, hR, if_neg (by have := k2.1; omega), if_neg (fun h => h k1), if_pos ⟨k2, k3⟩, manOf_num k3]
        have : mwrite (manOf smallN ns) = .ok b := by
          unfold mwrite; rw [if_pos k3, nums_manOf k2 k3, ← hp, hff, hfb]
        rw [this]; simp
      · have hPn : mreadP b = none := by
          rw [hP]
          split
          · rfl
          · split
            · exact absurd ⟨by omega, ‹_›⟩ hok
            · rfl
        rw [hPn, hR]
        split
        · rfl
        · cases hm : mwrite (manOf numN ns) with
          | error e => rfl
          | ok g =>
            simp only []
            split
            · exfalso
              rename_i hgb
              subst hgb
              have hwf := manOf_wf numN_in hlt
              obtain ⟨_, h3⟩ := mread_mwrite hwf hm
              rw [hf] at h3
              injection h3 with h3
              injection h3 with h3 h4
              obtain ⟨hmay, _⟩ := mwrite_inv hm
              have h5 : ns = manNums (manOf numN ns) := by
                have h6 := hv
                rw [h3, vall_put (manNums_lt hwf hmay.2.2.2.2.1)] at h6
                injection h6 with h6; exact h6.symm
              have h7 : manOf smallN ns = manOf numN ns := by
                have h8 := manOf_nums hmay
                rw [← h5] at h8; exact h8
              exact hok ⟨h4, h5 ▸ madeOk_nums _, h7 ▸ hmay⟩
            · rfl
end Garner
namespace Go.Proofs.Ytmddgimadlmacaa
open Go.RowKit Garner

set_option maxHeartbeats 1000000 in
theorem rNumber (ns : List Nat) (A : Option Addr) (c B : Nat) (w : World) (i : Nat) (z : Int) (hz : z = (i : Int)) (hr : Row w B 1 A ns.length (ns.map u64v)) (hi : i < ns.length) (hn : ((ns[i]?.getD 0 : Nat) : Int) ≤ 18446744073709551615) :
    Calls Try.prog 60 #[.slice A ns.length c, .int .i64 z] w fun e w' => e = .returned (.int .i64 (numN (ns[i]?.getD 0))) ∧ w' = w := by
  subst hz
  obtain ⟨b, off, rfl, hb, hcell⟩ := hr.at_ (k := i) (by omega)
  have c4 : w.cell? ⟨b, off + i, none⟩ = some (.int .u64 (ns[i]?.getD 0 : Nat)) := by
    have := hcell i (by simpa using hi); rw [List.getElem?_eq_getElem hi]; simpa [u64v] using this
  clear hcell
  generalize ns[i]?.getD 0 = x4 at *
  have i4 : (i : Int) < ns.length := by omega
  by_cases h : (2000000000 : Int) < x4
  all_goals
    go_enter Try.func60, Try.ntmps60
    go_wp2
    all_goals
      go_ret
      refine ⟨congrArg (fun z : Int => Ending.returned (.int .i64 z)) ?_, rfl⟩
      unfold numN
      first | (rw [if_pos (by omega)]; done) | (rw [if_pos (by omega)]; omega) | (rw [if_neg (by omega)]; done) | (rw [if_neg (by omega)]; omega)
theorem mwrite_err {m : Man} {k : Nat} (h : mwrite m = .error k) : k ≠ 0 := by
  unfold mwrite at h
  split at h
  · unfold frame at h
    split at h
    · injection h with h; omega
    · cases h
  · injection h with h; omega
theorem rZagS (n : Nat) (w : World) (h2 : (n : Int) ≤ 18446744073709551615) :
    Calls Try.prog 61 #[.int .u64 n] w fun e w' => e = .returned (.int .i64 (zag n)) ∧ w' = w := (rZag n w h2).mono fun _ _ h => ⟨h.1, h.2.symm⟩

set_option maxRecDepth 100000 in
set_option maxHeartbeats 4000000 in
theorem rMread1 (l : List UInt8) (A : Option Addr) (c B : Nat) (w : World) (hr : Bytes w B A l.length l) (hB : B ≤ w.heap.size) (hc : l.length ≤ c) (hl : l.length ≤ 140737488355328) (k : Nat) (hv : fread l 0 = .error k) :
    Calls Try.prog 15 #[.slice A l.length c] w fun e w' => MreadPost w none e w' := by
  have hread := fun (o : Obj) => rRead l A c B (w.alloc o) 0 (hr.alloc hB o) (by simp; omega) hc (by omega) hl
  rw [hv] at hread
  have hk : ((k : Int) == 0) = false := by rw [beq_eq_false_iff_ne]; have := fread_err hv; omega
  have hk' : ((k : Int) != 0) = true := by rw [bne_iff_ne]; have := fread_err hv; omega
  have Hread := Lib.hid hread; clear hread hv
  go_enter Try.func15, Try.ntmps15
  go_wp2_with fail
  refine (Hread.out _).mono ?_
  rintro e w1 ⟨rfl, hb1⟩
  simp only [World.size_alloc] at hb1
  have hres : Blk w1 w.heap.size 25 [.int .i64 0, .int .i64 0, .int .u64 0, .int .i64 0, .slice none 0 0] := (Blk.new w _ _).below hb1 (by omega)
  have hbw : Below w.heap.size w w1 := ((Below.refl w.heap.size w).alloc (Nat.le_refl _) _).trans (hb1.mono (Nat.le_succ _))
  have v0 := hres.frozen 0; have v1 := hres.frozen 1; have v2 := hres.frozen 2; have v3 := hres.frozen 3; have v4 := hres.frozen 4
  have r0 := hres.cell 0; have r1 := hres.cell 1; have r2 := hres.cell 2; have r3 := hres.cell 3; have r4 := hres.cell 4
  simp only [List.getElem?_cons_zero, List.getElem?_cons_succ] at r0 r1 r2 r3 r4
  go_wp2
  refine bodyPost_ret (v := .tuple #[manZ, .int .i64 30]) (by simp [results, Try.results15, go_sem, manZ, *]) rfl ?_
  refine ⟨rfl, ?_⟩
  exact below_set5 hbw (Nat.le_refl _) _ _ _ _ _
end Go.Proofs.Ytmddgimadlmacaa
