import Derived.Test.YtmddgimadlmacaaMf08
import Derived.Test.YtmddgimadlmacaaMf03
import Derived.StillTailTactics
import Derived.Deep.RegionHeld3
namespace Go.Proofs.Ytmddgimadlmacaa
open Go.RowKit Garner

theorem vZigS (n : Int) (w : World) (h1 : -9223372036854775808 ≤ n) (h2 : n ≤ 9223372036854775807) :
    Calls Try.prog 49 #[.int .i64 n] w fun e w' => e = .returned (.int .u64 (zig n)) ∧ w' = w := (vZig n w h1 h2).mono fun _ _ h => ⟨h.1, h.2.symm⟩
theorem rZigS (n : Int) (w : World) (h1 : -9223372036854775808 ≤ n) (h2 : n ≤ 9223372036854775807) :
    Calls Try.prog 52 #[.int .i64 n] w fun e w' => e = .returned (.int .u64 (zig n)) ∧ w' = w := (rZig n w h1 h2).mono fun _ _ h => ⟨h.1, h.2.symm⟩

set_option maxRecDepth 100000 in
set_option maxHeartbeats 1000000 in
theorem rPut (ns : List Nat) (A : Option Addr) (c B : Nat) (w : World) (hr : Row w B 1 A ns.length (ns.map u64v)) (hB : B ≤ w.heap.size) (hn : ∀ n ∈ ns, n < 18446744073709551616) (hl : ns.length ≤ 100000) :
    Calls Try.prog 54 #[.slice A ns.length c] w fun e w' => ∃ v, e = .returned v ∧ OwnB w' w.heap.size v (vput ns) ∧ Below w.heap.size w w' := by
  have hlen : ∀ k, k < ns.length → (vput (ns.take k)).length + (put1 (ns[k]?.getD 0)).length ≤ 10 * ns.length := by
    intro k hk
    have h1 := vput_len (ns.take (k + 1)) fun n hm => hn n (List.mem_of_mem_take hm)
    rw [vput_snoc ns k hk, List.length_append, List.length_take] at h1
    rw [List.getElem?_eq_getElem hk]
    simp only [Option.getD_some]; omega
  have Hlen := Lib.hid hlen; clear hlen
  have Hn := Lib.hid hn; clear hn
  go_enter Try.func54, Try.ntmps54
  go_wp2
  go_loopw [3, 4] (fun v i wr => ∃ k : Nat, k ≤ ns.length ∧ i = .int .i64 k ∧ OwnB wr w.heap.size v (vput (ns.take k)) ∧ Below w.heap.size w wr) (fun _ i _ => ns.length - (intOf i).toNat)
  case atStart => exact ⟨0, Nat.zero_le _, rfl, World.ownsRow_nil _ _ _ _, Below.refl _ _⟩
  case round =>
    obtain ⟨k, hk, rfl, hown, hbel⟩ := hrel
    by_cases hlt : (k : Int) < ns.length
    · have hlt' : k < ns.length := by omega
      obtain ⟨b, off, rfl, hb, hc⟩ := hr.at_ (k := k) hlt'
      have hc1 : wr.cell? ⟨b, off + k, none⟩ = some (.int .u64 (ns[k] : Nat)) := by
        rw [(hbel.cell (p := ⟨b, off + k, none⟩) (by show b < _; omega)), hc k (by simpa using hlt')]; simp [u64v]
      clear hc
      have hnk := Hn.out _ (List.getElem_mem hlt')
      have hlk := Hlen.out k hlt'
      rw [List.getElem?_eq_getElem hlt'] at hlk
      simp only [Option.getD_some] at hlk
      have Hnk := Lib.hid hnk; clear hnk
      have Hlk := Lib.hid hlk; clear hlk
      have hB0 : w.heap.size ≤ wr.heap.size := hbel.size
      go_wp2_with (first
        | (go_at_call 75; refine (rOne 9 ns[k] _ (by have := Hnk.out; omega) Hnk.out (by omega)).mono ?_; rintro e w2 ⟨v2, rfl, hown2, hbel2⟩; obtain ⟨A2, c2, rfl, hrow2⟩ := hown2.shape)
        | (at_builtin; refine wpList_app _ rfl bytesE rfl rfl (own_below hown hbel2) rfl hrow2 (bv_one _) (by have := Hlk.out; omega) (by have := hbel2.size; omega) ?_; intro v3 w3 hown3 _ hbel3 _))
      go_roundw
      case rel =>
        refine ⟨k + 1, by omega, by go_num, ?_, (hbel.trans (hbel2.mono hB0)).trans hbel3⟩
        rw [vput_snoc ns k hlt']
        simpa [OwnB] using hown3
      case measure => simp [intOf]; omega
    · go_wp2
      go_ret
      obtain rfl : k = ns.length := by omega
      exact ⟨_, rfl, by simpa using hown, hbel⟩

def WritePost (w : World) (r : Except Nat Bs) (e : Ending) (w' : World) : Prop :=
  match r with
  | .error k => e = .returned (.tuple #[.slice none 0 0, .int .i64 k]) ∧ Below w.heap.size w w'
  | .ok f => ∃ v, e = .returned (.tuple #[v, .int .i64 0]) ∧ OwnB w' w.heap.size v f ∧ Below w.heap.size w w'

theorem mwrite_ok {m : Man} (hw : m.wf) (h : may m) : (vput (manNums m)).length ≤ 41010 ∧ mwrite m = .ok (put1 (vput (manNums m)).length ++ vput (manNums m) ++ four (crc (vput (manNums m)))) := by
  have hl := h.2.2.2.2.1
  have h1 := vput_len (manNums m) (manNums_lt hw hl)
  have h2 : (manNums m).length = 5 + 4 * m.segs.length := by simp only [manNums, List.length_cons, segsNums_len]; omega
  refine ⟨by omega, ?_⟩
  unfold mwrite Garner.frame
  rw [if_pos h, if_neg (by omega)]

/-- a manifest's first five numbers, as the walk has them -/
theorem nums5 {m : Man} (hw : 1 ≤ m.wal) (hn : 1 ≤ m.next) : [Value.int .u64 m.wal, .int .u64 m.next, .int .u64 m.seq, .int .u64 (zig m.mark), .int .u64 m.segs.length] = ([m.wal.toNat, m.next.toNat, m.seq, zig m.mark, m.segs.length]).map u64v := by
  simp only [List.map_cons, List.map_nil, u64v, Int.toNat_of_nonneg (show 0 ≤ m.wal by omega), Int.toNat_of_nonneg (show 0 ≤ m.next by omega)]
theorem nums4 {s : Seg} (hw : 1 ≤ s.id) (hn : 1 ≤ s.count) : [Value.int .u64 s.id, .int .u64 s.count, .int .u64 (zig s.mn), .int .u64 (zig s.mx)] = (segNums s).map u64v := by
  simp only [segNums, List.map_cons, List.map_nil, u64v, Int.toNat_of_nonneg (show 0 ≤ s.id by omega), Int.toNat_of_nonneg (show 0 ≤ s.count by omega)]

def pre5 (m : Man) : List Nat := [m.wal.toNat, m.next.toNat, m.seq, zig m.mark, m.segs.length]
def numsAt (m : Man) (k : Nat) : List Nat := pre5 m ++ (m.segs.take k).flatMap segNums
theorem numsAt_zero (m : Man) : numsAt m 0 = pre5 m := by simp [numsAt]
theorem numsAt_all (m : Man) : numsAt m m.segs.length = manNums m := by unfold numsAt; rw [List.take_length]; rfl
theorem numsAt_succ (m : Man) (k : Nat) (h : k < m.segs.length) : numsAt m (k + 1) = numsAt m k ++ segNums m.segs[k] := by
  unfold numsAt; rw [List.take_succ_eq_append_getElem h, List.flatMap_append, List.append_assoc]; simp
theorem numsAt_len (m : Man) (k : Nat) (h : k ≤ m.segs.length) : (numsAt m k).length = 5 + 4 * k := by
  unfold numsAt; rw [List.length_append, segsNums_len, List.length_take]; simp [pre5]; omega
theorem numsAt_lt {m : Man} (hw : m.wf) (hl : m.segs.length ≤ 1024) (k : Nat) : ∀ n ∈ numsAt m k, n < 18446744073709551616 := fun n hn => manNums_lt hw hl n (by
  unfold numsAt at hn
  have e : manNums m = pre5 m ++ m.segs.flatMap segNums := rfl
  rw [e, List.mem_append]
  rcases List.mem_append.1 hn with h | h
  · exact Or.inl h
  · obtain ⟨s, hs, h⟩ := List.mem_flatMap.1 h
    exact Or.inr (List.mem_flatMap.2 ⟨s, List.mem_of_mem_take hs, h⟩))
theorem vputAt_len {m : Man} (hw : m.wf) (hl : m.segs.length ≤ 1024) (k : Nat) (h : k ≤ m.segs.length) : (vput (numsAt m k)).length ≤ 41010 := by
  have h1 := vput_len (numsAt m k) (numsAt_lt hw hl k)
  rw [numsAt_len m k h] at h1
  omega

set_option maxRecDepth 100000 in
set_option maxHeartbeats 4000000 in
theorem vWrite (m : Man) (A : Option Addr) (c B : Nat) (w : World) (hr : Segs w B A m.segs.length m.segs) (hB : B ≤ w.heap.size) (hw : m.wf) (hl : m.segs.length ≤ 140737488355328) :
    Calls Try.prog 12 #[manV m A c] w fun e w' => WritePost w (mwrite m) e w' := by
  have Hw := Lib.hid hw; clear hw
  by_cases hmay : may m
  · have Hmay := Lib.hid hmay; clear hmay
    obtain ⟨m1, m2, m3, m4, m5, _⟩ := Hmay.out
    obtain ⟨k1, k2⟩ := Hw.out.mark
    have hdec : decide (may m) = true := decide_eq_true Hmay.out
    have Hdec := Lib.hid hdec; clear hdec
    have m5' : (m.segs.length : Int) ≤ 1024 := by omega
    go_enter Try.func12, Try.ntmps12
    go_wp2_with fail
    refine (vMay m A c B _ (hr.alloc hB _) (by simp; omega) Hw.out hl).mono ?_
    rintro e w1 ⟨rfl, hb1⟩
    rw [Hdec.out]
    simp only [World.size_alloc] at hb1
    have hs1 : w.heap.size + 1 ≤ w1.heap.size := by have := hb1.size; simpa using this
    have x0 : w1.cell? ⟨w.heap.size, 0, none⟩ = some (.int .i64 m.wal) := (hb1.cell (p := ⟨w.heap.size, 0, none⟩) (by show w.heap.size < _; omega)).trans (cell_new _ _ _ _ _ rfl)
    have x1 : w1.cell? ⟨w.heap.size, 1, none⟩ = some (.int .i64 m.next) := (hb1.cell (p := ⟨w.heap.size, 1, none⟩) (by show w.heap.size < _; omega)).trans (cell_new _ _ _ _ _ rfl)
    have x2 : w1.cell? ⟨w.heap.size, 2, none⟩ = some (.int .u64 m.seq) := (hb1.cell (p := ⟨w.heap.size, 2, none⟩) (by show w.heap.size < _; omega)).trans (cell_new _ _ _ _ _ rfl)
    have x3 : w1.cell? ⟨w.heap.size, 3, none⟩ = some (.int .i64 m.mark) := (hb1.cell (p := ⟨w.heap.size, 3, none⟩) (by show w.heap.size < _; omega)).trans (cell_new _ _ _ _ _ rfl)
    have x4 : w1.cell? ⟨w.heap.size, 4, none⟩ = some (.slice A m.segs.length c) := (hb1.cell (p := ⟨w.heap.size, 4, none⟩) (by show w.heap.size < _; omega)).trans (cell_new _ _ _ _ _ rfl)
    go_wp2_with fail
    refine wp_region_still_tail 15 (by kernel_rfl) (by kernel_rfl) ?_
    simp only [List.take_succ_cons, List.take_zero, List.drop_succ_cons, List.drop_zero]
    iterate 10 still_step
    still_call (vZigS m.mark _ k1 k2)
    repeat still_step
    refine wpStill_nil ?_
    change wpList _ _ _ _ _ w1.drew
    go_wp2_with fail
    have hn5 := nums5 (m := m) m1 m3
    have hrow5 := row_new w1 22 [Value.int .u64 m.wal, .int .u64 m.next, .int .u64 m.seq, .int .u64 (zig m.mark), .int .u64 m.segs.length]
    have hlt5 : ∀ n ∈ pre5 m, n < 18446744073709551616 := numsAt_zero m ▸ numsAt_lt Hw.out (by omega) 0
    refine (vPut (pre5 m) _ 5 (w1.heap.size + 1) _ (hn5 ▸ hrow5) (by simp) hlt5 (by simp [pre5])).mono ?_
    clear hrow5 hlt5
    rintro e w2 ⟨v2, rfl, hown2, hb2⟩
    simp only [World.size_drew, World.size_alloc] at hown2 hb2
    have hb12 : Below w1.heap.size w1 w2 := ((Below.refl _ _).alloc (Nat.le_refl _) _).drew.trans (hb2.mono (by omega))
    have y4 : w2.cell? ⟨w.heap.size, 4, none⟩ = some (.slice A m.segs.length c) := (hb12.cell (p := ⟨w.heap.size, 4, none⟩) (by show w.heap.size < _; omega)).trans x4
    have hb02 : Below (w.heap.size + 1) (w.alloc (manBox m A c)) w2 := hb1.trans (hb12.mono (by omega))
    have hown2' : OwnB w2 (w.heap.size + 1) v2 (vput (numsAt m 0)) := by rw [numsAt_zero]; exact own_mono hown2 (by omega)
    clear x0 x1 x2 x3 x4 hown2 hn5
    go_wp2_with fail
    go_loopw [4, 30] (fun v i wr => ∃ k : Nat, k ≤ m.segs.length ∧ i = .int .i64 k ∧ OwnB wr (w.heap.size + 1) v (vput (numsAt m k)) ∧ Below (w.heap.size + 1) (w.alloc (manBox m A c)) wr) (fun _ i _ => m.segs.length - (intOf i).toNat)
    case atStart => exact ⟨0, by omega, rfl, hown2', hb02⟩
    case round =>
      clear hown2' hb02 hb12 hb1 hb2 y4
      obtain ⟨k, hk, rfl, hown, hbel⟩ := hrel
      obtain ⟨wo, rfl⟩ : ∃ wo : World, wo = wr := ⟨_, rfl⟩
      have hbw : Below w.heap.size w wo := ((Below.refl _ _).alloc (Nat.le_refl _) _).trans (hbel.mono (by omega))
      have hs0 : w.heap.size + 1 ≤ wo.heap.size := by have := hbel.size; simpa using this
      have hlen := vputAt_len Hw.out (by omega) k hk
      have Hlen := Lib.hid hlen; clear hlen
      by_cases hlt : (k : Int) < m.segs.length
      · have hlt' : k < m.segs.length := by omega
        obtain ⟨b, off, rfl, hb, g0, g1, g2, g3⟩ := seg_at hr rfl hlt'
        have hwf := Hw.out.segs _ (List.getElem_mem hlt')
        have hok := segsOk_wfs m.segs [] Hmay.out.2.2.2.2.2 _ (List.getElem_mem hlt')
        have hns := numsAt_succ m k hlt'
        obtain ⟨s, hs⟩ : ∃ s, s = m.segs[k] := ⟨_, rfl⟩
        rw [← hs] at g0 g1 g2 g3 hwf hok hns
        obtain ⟨o1, _, o2, o3⟩ := hok
        obtain ⟨_, w2'⟩ := hwf.id; obtain ⟨w5, w6⟩ := hwf.mn; obtain ⟨w7, w8⟩ := hwf.mx
        have Hwf := Lib.hid hwf; clear hwf
        have Hs := Lib.hid hs; clear hs
        have Hns := Lib.hid hns; clear hns
        have e0 := (hbw.cell (p := ⟨b, off + k * 4, none⟩) (by show b < _; omega)).trans g0
        have e1 := (hbw.cell (p := ⟨b, off + k * 4 + 1, none⟩) (by show b < _; omega)).trans g1
        have e2 := (hbw.cell (p := ⟨b, off + k * 4 + 2, none⟩) (by show b < _; omega)).trans g2
        have e3 := (hbw.cell (p := ⟨b, off + k * 4 + 3, none⟩) (by show b < _; omega)).trans g3
        clear g0 g1 g2 g3
        go_wp2_with fail
        obtain ⟨X, hX⟩ : ∃ X, X = wo.alloc (.cells #[.int .i64 s.id, .int .i64 s.count, .int .i64 s.mn, .int .i64 s.mx] 36) := ⟨_, rfl⟩
        rw [← hX]
        have hbX : Below wo.heap.size wo X := by rw [hX]; exact (Below.refl _ _).alloc (Nat.le_refl _) _
        have hblk : Blk X wo.heap.size 36 (segV s) := by rw [hX]; exact Blk.new _ _ _
        clear hX
        have hownX : OwnB X (w.heap.size + 1) _ (vput (numsAt m k)) := own_below hown hbX
        have hbX0 : Below (w.heap.size + 1) (w.alloc (manBox m (some ⟨b, off, none⟩) c)) X := hbel.trans (hbX.mono (by omega))
        have hsX : w.heap.size + 1 ≤ X.heap.size := by have := hbX.size; omega
        have hl4 : Hid ((vput (segNums s)).length ≤ 40) := by have := vput_len (segNums s) (segNums_lt Hwf.out); simpa [Hid, segNums] using this
        have hrow4 : Hid (Row (X.alloc (.cells #[.int .u64 s.id, .int .u64 s.count, .int .u64 (zig s.mn), .int .u64 (zig s.mx)] 22)).drew (X.heap.size + 1) 1 (some ⟨X.heap.size, 0, none⟩) 4 ((segNums s).map u64v)) := by
          have hn4 := nums4 (s := s) o1 o2
          have h := row_new X 22 [Value.int .u64 s.id, .int .u64 s.count, .int .u64 (zig s.mn), .int .u64 (zig s.mx)]
          rw [Hid, ← hn4]; exact h
        obtain ⟨_, w4'⟩ := Hwf.out.count
        have wq1 : IntKind.u64.wrap s.id = s.id := IntWalk.u64_in _ ⟨by omega, by omega⟩
        have wq2 : IntKind.u64.wrap s.count = s.count := IntWalk.u64_in _ ⟨by omega, by omega⟩
        have hne4 : some wo.heap.size ≠ Value.ownBlock _ := fun e => by have := (hown.lt _ e.symm).2; omega
        have hz0 : ∀ w' : World, Blk w' wo.heap.size 36 (segV s) → w'.cell? ⟨wo.heap.size, 0, none⟩ = some (.int .i64 s.id) := fun w' h => h.cell 0
        have hz1 : ∀ w' : World, Blk w' wo.heap.size 36 (segV s) → w'.cell? ⟨wo.heap.size, 1, none⟩ = some (.int .i64 s.count) := fun w' h => h.cell 1
        have hz2 : ∀ w' : World, Blk w' wo.heap.size 36 (segV s) → w'.cell? ⟨wo.heap.size, 2, none⟩ = some (.int .i64 s.mn) := fun w' h => h.cell 2
        have hz3 : ∀ w' : World, Blk w' wo.heap.size 36 (segV s) → w'.cell? ⟨wo.heap.size, 3, none⟩ = some (.int .i64 s.mx) := fun w' h => h.cell 3
        have Hne4 := Lib.hid hne4; clear hne4
        clear hown hbel e0 e1 e2 e3
        go_region_held3 (fun w' => Blk w' wo.heap.size 36 (segV s))
          ((first | assumption | exact hblk | exact Blk.alloc (by assumption) _ | exact Blk.below hblk hb3' (by have := hbX.size; have := hblk.lt; omega) | exact (Blk.below hblk hb3' (by have := hbX.size; have := hblk.lt; omega)).grown hg4 Hne4.out))
          (first
            | (go_at_call 49; refine (vZig _ _ (by assumption) (by assumption)).mono ?_; rintro e w3 ⟨rfl, rfl⟩)
            | (go_at_call 48; refine (vPut (segNums s) _ 4 (X.heap.size + 1) _ hrow4.out (by simp) (segNums_lt Hwf.out) (by simp [segNums])).mono ?_; rintro e w3 ⟨v3, rfl, hown3, hb3⟩; simp only [World.size_drew, World.size_alloc] at hown3 hb3; have hb3' : Below X.heap.size X w3 := ((Below.refl _ _).alloc (Nat.le_refl _) _).drew.trans (hb3.mono (by omega)); obtain ⟨A3, c3, rfl, hrow3⟩ := hown3.shape)
            | (refine step_app _ rfl bytesE rfl rfl (own_below hownX hb3') rfl hrow3 (bv_one _) (by have := Hlen.out; have := hl4.out; omega) (by have := hb3'.size; omega) ?_; intro v4 w4 hown4 hg4 hb4 _))
        go_wp2
        go_roundw
        case rel =>
          have hfin : OwnB w4 (w.heap.size + 1) v4 (vput (numsAt m (k + 1))) := by
            rw [Hns.out, vput_append]
            simpa [OwnB] using hown4
          have hbf : Below (w.heap.size + 1) (w.alloc (manBox m (some ⟨b, off, none⟩) c)) w4 := (hbX0.trans (hb3'.mono (by omega))).trans hb4
          first
            | exact ⟨k + 1, by omega, by go_num, hfin, hbf⟩
            | ((repeat apply Exists.intro); exact ⟨⟨k + 1, by omega, by go_num, hfin, hbf⟩, rfl⟩)
        case measure => simp [intOf]; omega
      · obtain rfl : k = m.segs.length := by omega
        obtain ⟨A3, c3, rfl, hrow3⟩ := hown.shape
        have hle : ((vput (numsAt m m.segs.length)).length : Int) ≤ 65536 := by have := Hlen.out; omega
        go_wp2_with (go_at_call 50; refine (vFrame_ok _ A3 c3 wo.heap.size wo hrow3 (Nat.le_refl _) hle).mono ?_; rintro e w4 ⟨v4, rfl, hown4, hb4⟩)
        go_ret2
        rw [(mwrite_ok Hw.out Hmay.out).2, ← numsAt_all]
        exact ⟨_, rfl, own_mono hown4 (by omega), hbw.trans (hb4.mono (by omega))⟩
  · have hdec : decide (may m) = false := decide_eq_false hmay
    have hno : mwrite m = .error 1 := by unfold mwrite; rw [if_neg hmay]
    have Hdec := Lib.hid hdec; clear hdec
    have Hno := Lib.hid hno; clear hno hmay
    go_enter Try.func12, Try.ntmps12
    go_wp2_with fail
    refine (vMay m A c B _ (hr.alloc hB _) (by simp; omega) Hw.out hl).mono ?_
    rintro e w1 ⟨rfl, hb1⟩
    rw [Hdec.out]
    go_wp2
    go_ret2
    rw [Hno.out]
    simp only [World.size_alloc] at hb1
    exact ⟨rfl, ((Below.refl _ _).alloc (Nat.le_refl _) _).trans (hb1.mono (by omega))⟩
end Go.Proofs.Ytmddgimadlmacaa
namespace Go.Proofs.Ytmddgimadlmacaa
open Go.RowKit Garner

/-- numbers of the call's own -/
abbrev OwnU (w : World) (B : Nat) (v : Value) (l : List Nat) : Prop := w.ownsRow B 22 1 v l.length (l.map u64v)
theorem OwnU.shape {w : World} {B : Nat} {v : Value} {l : List Nat} (h : OwnU w B v l) : ∃ A c, v = .slice A l.length c ∧ Row w w.heap.size 1 A l.length (l.map u64v) := by
  rcases h.2 with ⟨rfl, h0⟩ | ⟨g, cap, cur, rfl, _⟩
  · rw [h0]; exact ⟨none, 0, rfl, by rw [List.eq_nil_of_length_eq_zero h0]; exact Row.none_⟩
  · exact ⟨_, _, rfl, Row.of_own h⟩
theorem ownU_lit (w : World) (B : Nat) (l : List Nat) (h : B ≤ w.heap.size) (hl : l.length ≤ 1000) : OwnU (w.alloc (.cells (l.map u64v).toArray 22)) B (.slice (some ⟨w.heap.size, 0, none⟩) l.length l.length) l := by
  have := World.ownsRow_lit (base := B) (e := 22) (size := 1) w (l.map u64v).toArray l.length h (by simp only [maxLen]; omega) (by simp)
  simpa [OwnU] using this

set_option maxRecDepth 100000 in
set_option maxHeartbeats 4000000 in
theorem rWrite (m : Man) (A : Option Addr) (c B : Nat) (w : World) (hr : Segs w B A m.segs.length m.segs) (hB : B ≤ w.heap.size) (hw : m.wf) (hl : m.segs.length ≤ 140737488355328) :
    Calls Try.prog 13 #[manV m A c] w fun e w' => WritePost w (mwrite m) e w' := by
  have Hw := Lib.hid hw; clear hw
  by_cases hmay : may m
  · have Hmay := Lib.hid hmay; clear hmay
    obtain ⟨m1, m2, m3, m4, m5, _⟩ := Hmay.out
    obtain ⟨k1, k2⟩ := Hw.out.mark
    have hdec : decide (may m) = true := decide_eq_true Hmay.out
    have Hdec := Lib.hid hdec; clear hdec
    have m5' : (m.segs.length : Int) ≤ 1024 := by omega
    go_enter Try.func13, Try.ntmps13
    go_wp2_with fail
    refine (rMay m A c B _ (hr.alloc hB _) (by simp; omega) Hw.out hl).mono ?_
    rintro e w1 ⟨rfl, hb1⟩
    rw [Hdec.out]
    simp only [World.size_alloc] at hb1
    have hs1 : w.heap.size + 1 ≤ w1.heap.size := by have := hb1.size; simpa using this
    have x0 : w1.cell? ⟨w.heap.size, 0, none⟩ = some (.int .i64 m.wal) := (hb1.cell (p := ⟨w.heap.size, 0, none⟩) (by show w.heap.size < _; omega)).trans (cell_new _ _ _ _ _ rfl)
    have x1 : w1.cell? ⟨w.heap.size, 1, none⟩ = some (.int .i64 m.next) := (hb1.cell (p := ⟨w.heap.size, 1, none⟩) (by show w.heap.size < _; omega)).trans (cell_new _ _ _ _ _ rfl)
    have x2 : w1.cell? ⟨w.heap.size, 2, none⟩ = some (.int .u64 m.seq) := (hb1.cell (p := ⟨w.heap.size, 2, none⟩) (by show w.heap.size < _; omega)).trans (cell_new _ _ _ _ _ rfl)
    have x3 : w1.cell? ⟨w.heap.size, 3, none⟩ = some (.int .i64 m.mark) := (hb1.cell (p := ⟨w.heap.size, 3, none⟩) (by show w.heap.size < _; omega)).trans (cell_new _ _ _ _ _ rfl)
    have x4 : w1.cell? ⟨w.heap.size, 4, none⟩ = some (.slice A m.segs.length c) := (hb1.cell (p := ⟨w.heap.size, 4, none⟩) (by show w.heap.size < _; omega)).trans (cell_new _ _ _ _ _ rfl)
    go_wp2_with fail
    refine wp_region_still_tail 15 (by kernel_rfl) (by kernel_rfl) ?_
    simp only [List.take_succ_cons, List.take_zero, List.drop_succ_cons, List.drop_zero]
    iterate 10 still_step
    still_call (rZigS m.mark _ k1 k2)
    repeat still_step
    refine wpStill_nil ?_
    change wpList _ _ _ _ _ w1.drew
    have hn5 := nums5 (m := m) m1 m3
    have hown5 : OwnU (w1.alloc (.cells #[.int .u64 m.wal, .int .u64 m.next, .int .u64 m.seq, .int .u64 (zig m.mark), .int .u64 m.segs.length] 22)).drew (w.heap.size + 1) (.slice (some ⟨w1.heap.size, 0, none⟩) 5 5) (numsAt m 0) := by
      have h := ownU_lit w1 (w.heap.size + 1) (pre5 m) hs1 (by simp [pre5])
      rw [numsAt_zero]
      have e : ((pre5 m).map u64v) = [Value.int .u64 m.wal, .int .u64 m.next, .int .u64 m.seq, .int .u64 (zig m.mark), .int .u64 m.segs.length] := hn5.symm
      rw [e] at h
      exact h
    have hb02 : Below (w.heap.size + 1) (w.alloc (manBox m A c)) (w1.alloc (.cells #[.int .u64 m.wal, .int .u64 m.next, .int .u64 m.seq, .int .u64 (zig m.mark), .int .u64 m.segs.length] 22)).drew := (hb1.alloc hs1 _).drew
    clear x0 x1 x2 x3 hn5
    go_wp2_with fail
    go_loopw [4, 5] (fun v i wr => ∃ k : Nat, k ≤ m.segs.length ∧ i = .int .i64 k ∧ OwnU wr (w.heap.size + 1) v (numsAt m k) ∧ Below (w.heap.size + 1) (w.alloc (manBox m A c)) wr) (fun _ i _ => m.segs.length - (intOf i).toNat)
    case atStart => exact ⟨0, by omega, rfl, hown5, hb02⟩
    case round =>
      clear hown5 hb02 hb1 x4
      obtain ⟨k, hk, rfl, hown, hbel⟩ := hrel
      obtain ⟨wo, rfl⟩ : ∃ wo : World, wo = wr := ⟨_, rfl⟩
      have hbw : Below w.heap.size w wo := ((Below.refl _ _).alloc (Nat.le_refl _) _).trans (hbel.mono (by omega))
      have hs0 : w.heap.size + 1 ≤ wo.heap.size := by have := hbel.size; simpa using this
      have hlen := vputAt_len Hw.out (by omega) k hk
      have Hlen := Lib.hid hlen; clear hlen
      have Hlen2 := Lib.hid (numsAt_len m k hk)
      have x4 : wo.cell? ⟨w.heap.size, 4, none⟩ = some (.slice A m.segs.length c) := (hbel.cell (p := ⟨w.heap.size, 4, none⟩) (by show w.heap.size < _; omega)).trans (cell_new _ _ _ _ _ rfl)
      by_cases hlt : (k : Int) < m.segs.length
      · have hlt' : k < m.segs.length := by omega
        obtain ⟨b, off, rfl, hb, g0, g1, g2, g3⟩ := seg_at hr rfl hlt'
        have hwf := Hw.out.segs _ (List.getElem_mem hlt')
        have hok := segsOk_wfs m.segs [] Hmay.out.2.2.2.2.2 _ (List.getElem_mem hlt')
        have hns := numsAt_succ m k hlt'
        obtain ⟨s, hs⟩ : ∃ s, s = m.segs[k] := ⟨_, rfl⟩
        rw [← hs] at g0 g1 g2 g3 hwf hok hns
        obtain ⟨o1, _, o2, o3⟩ := hok
        obtain ⟨_, w2'⟩ := hwf.id; obtain ⟨w5, w6⟩ := hwf.mn; obtain ⟨w7, w8⟩ := hwf.mx
        have Hwf := Lib.hid hwf; clear hwf
        have Hs := Lib.hid hs; clear hs
        have Hns := Lib.hid hns; clear hns
        have e0 := (hbw.cell (p := ⟨b, off + k * 4, none⟩) (by show b < _; omega)).trans g0
        have e1 := (hbw.cell (p := ⟨b, off + k * 4 + 1, none⟩) (by show b < _; omega)).trans g1
        have e2 := (hbw.cell (p := ⟨b, off + k * 4 + 2, none⟩) (by show b < _; omega)).trans g2
        have e3 := (hbw.cell (p := ⟨b, off + k * 4 + 3, none⟩) (by show b < _; omega)).trans g3
        clear g0 g1 g2 g3
        go_wp2_with fail
        obtain ⟨X, hX⟩ : ∃ X, X = wo.alloc (.cells #[.int .i64 s.id, .int .i64 s.count, .int .i64 s.mn, .int .i64 s.mx] 36) := ⟨_, rfl⟩
        rw [← hX]
        have hbX : Below wo.heap.size wo X := by rw [hX]; exact (Below.refl _ _).alloc (Nat.le_refl _) _
        have hblk : Blk X wo.heap.size 36 (segV s) := by rw [hX]; exact Blk.new _ _ _
        clear hX
        have hownX : OwnU X (w.heap.size + 1) _ (numsAt m k) := own_below hown hbX
        have hbX0 : Below (w.heap.size + 1) (w.alloc (manBox m (some ⟨b, off, none⟩) c)) X := hbel.trans (hbX.mono (by omega))
        have hsX : w.heap.size + 1 ≤ X.heap.size := by have := hbX.size; omega
        have hrow4 : Hid (Row (X.alloc (.cells #[.int .u64 s.id, .int .u64 s.count, .int .u64 (zig s.mn), .int .u64 (zig s.mx)] 22)).drew (X.heap.size + 1) 1 (some ⟨X.heap.size, 0, none⟩) 4 ((segNums s).map u64v)) := by
          have hn4 := nums4 (s := s) o1 o2
          have h := row_new X 22 [Value.int .u64 s.id, .int .u64 s.count, .int .u64 (zig s.mn), .int .u64 (zig s.mx)]
          rw [Hid, ← hn4]; exact h
        obtain ⟨_, w4'⟩ := Hwf.out.count
        have wq1 : IntKind.u64.wrap s.id = s.id := IntWalk.u64_in _ ⟨by omega, by omega⟩
        have wq2 : IntKind.u64.wrap s.count = s.count := IntWalk.u64_in _ ⟨by omega, by omega⟩
        have hne4 : some wo.heap.size ≠ Value.ownBlock _ := fun e => by have := (hown.lt _ e.symm).2; omega
        have hz0 : ∀ w' : World, Blk w' wo.heap.size 36 (segV s) → w'.cell? ⟨wo.heap.size, 0, none⟩ = some (.int .i64 s.id) := fun w' h => h.cell 0
        have hz1 : ∀ w' : World, Blk w' wo.heap.size 36 (segV s) → w'.cell? ⟨wo.heap.size, 1, none⟩ = some (.int .i64 s.count) := fun w' h => h.cell 1
        have hz2 : ∀ w' : World, Blk w' wo.heap.size 36 (segV s) → w'.cell? ⟨wo.heap.size, 2, none⟩ = some (.int .i64 s.mn) := fun w' h => h.cell 2
        have hz3 : ∀ w' : World, Blk w' wo.heap.size 36 (segV s) → w'.cell? ⟨wo.heap.size, 3, none⟩ = some (.int .i64 s.mx) := fun w' h => h.cell 3
        have Hne4 := Lib.hid hne4; clear hne4
        clear hown hbel e0 e1 e2 e3
        go_region_held3 (fun w' => Blk w' wo.heap.size 36 (segV s))
          ((first | assumption | exact hblk | exact Blk.alloc (by assumption) _ | exact Blk.grown (Blk.drew (Blk.alloc hblk _)) hg4 Hne4.out))
          (first
            | (go_at_call 52; refine (rZig _ _ (by assumption) (by assumption)).mono ?_; rintro e w3 ⟨rfl, rfl⟩)
            | (refine step_app _ rfl u64E rfl rfl (hownX.alloc _) rfl hrow4.out (u64v_one _) (by have := Hlen2.out; omega) (by first | omega | (simp; omega)) ?_; intro v4 w4 hown4 hg4 hb4 _))
        go_wp2
        go_roundw
        case rel =>
          have hfin : OwnU w4 (w.heap.size + 1) v4 (numsAt m (k + 1)) := by
            rw [Hns.out]
            simpa [OwnU, segNums] using hown4
          have hbf : Below (w.heap.size + 1) (w.alloc (manBox m (some ⟨b, off, none⟩) c)) w4 := (hbX0.alloc hsX _).drew.trans hb4
          first
            | exact ⟨k + 1, by omega, by go_num, hfin, hbf⟩
            | ((repeat apply Exists.intro); exact ⟨⟨k + 1, by omega, by go_num, hfin, hbf⟩, rfl⟩)
        case measure => simp [intOf]; omega
      · obtain rfl : k = m.segs.length := by omega
        obtain ⟨A3, c3, rfl, hrow3⟩ := OwnU.shape hown
        have hle : ((vput (numsAt m m.segs.length)).length : Int) ≤ 65536 := by have := Hlen.out; omega
        go_wp2_with (first
          | (go_at_call 54; refine (rPut (numsAt m m.segs.length) A3 c3 wo.heap.size wo hrow3 (Nat.le_refl _) (numsAt_lt Hw.out (by omega) _) (by have := Hlen2.out; omega)).mono ?_; rintro e w3 ⟨v3, rfl, hown3, hb3⟩; obtain ⟨A5, c5, rfl, hrow5⟩ := hown3.shape)
          | (go_at_call 53; refine (rFrame_ok _ A5 c5 w3.heap.size w3 hrow5 (Nat.le_refl _) hle).mono ?_; rintro e w4 ⟨v4, rfl, hown4, hb4⟩))
        go_ret2
        rw [(mwrite_ok Hw.out Hmay.out).2, ← numsAt_all]
        exact ⟨_, rfl, own_mono hown4 (by have := hb3.size; omega), (hbw.trans (hb3.mono (by omega))).trans (hb4.mono (by have := hb3.size; omega))⟩
  · have hdec : decide (may m) = false := decide_eq_false hmay
    have hno : mwrite m = .error 1 := by unfold mwrite; rw [if_neg hmay]
    have Hdec := Lib.hid hdec; clear hdec
    have Hno := Lib.hid hno; clear hno hmay
    go_enter Try.func13, Try.ntmps13
    go_wp2_with fail
    refine (rMay m A c B _ (hr.alloc hB _) (by simp; omega) Hw.out hl).mono ?_
    rintro e w1 ⟨rfl, hb1⟩
    rw [Hdec.out]
    go_wp2
    go_ret2
    rw [Hno.out]
    simp only [World.size_alloc] at hb1
    exact ⟨rfl, ((Below.refl _ _).alloc (Nat.le_refl _) _).trans (hb1.mono (by omega))⟩
end Go.Proofs.Ytmddgimadlmacaa
