import Derived.Test.YtmddgimadlmacaaDoorWs30
import Derived.Test.YtmddgimadlmacaaDoorWs29
import Derived.Test.YtmddgimadlmacaaDoorWs39
/-! layer 10: what bytes hold, the document's; Open of both, up to the last number -/
namespace Go.Proofs.YtmddgimadlmacaaDoor
open Go.RowKit Garner

set_option maxRecDepth 100000 in
set_option maxHeartbeats 4000000 in
theorem rHeld (b : Bs) (A : Option Addr) (c B : Nat) (w : World) (hr : Bytes w B A b.length b) (hB : B ≤ w.heap.size) (hc : b.length ≤ c) (hl : b.length ≤ 140737488355328) (hn : (held b).length * 24 ≤ 140737488355328) :
    Calls Tryd.prog 48 #[.slice A b.length c] w fun e w' => ∃ v ps, e = .returned v ∧ Pays w' w.heap.size v ps ∧ ps.map (·.data) = held b ∧ Below w.heap.size w w' := by
  obtain ⟨hh, hhe⟩ : ∃ h, h = held b := ⟨_, rfl⟩
  rw [← hhe] at hn ⊢
  unfold held at hhe
  have Hh := Lib.hid hhe
  clear hhe
  go_enter Tryd.func48, Tryd.ntmps48
  go_wp2_with fail
  go_loopw [3, 4] (fun v i wr => ∃ (ps : List ByS) (k : Nat), i = .int .i64 k ∧ k ≤ b.length ∧ Pays wr w.heap.size v ps ∧ Hid (hh = ps.map (·.data) ++ heldA (b.length + 1) b k) ∧ Below w.heap.size w wr) (fun _ i _ => b.length - (intOf i).toNat)
  case atStart => exact ⟨[], 0, rfl, Nat.zero_le _, Pays.nil _ _, Lib.hid (by rw [Hh.out]; rfl), Below.refl _ _⟩
  case round =>
    clear Hh
    obtain ⟨ps, k, rfl, hk, hp, H, hb⟩ := hrel
    obtain ⟨wo, rfl⟩ : ∃ wo : World, wo = wr := ⟨_, rfl⟩
    go_wp2_with fail
    refine (rRead b A c B wo k (hr.below (hb.mono hB)) (Nat.le_trans hB hb.size) hc hk hl).mono ?_
    rintro e w1 hpost
    cases hf : fread b k with
    | error er =>
      rw [hf] at hpost
      obtain ⟨rfl, hb1⟩ := hpost
      have hz : ((er : Int) != 0) = true := by
        rw [bne_iff_ne]
        intro h0
        have h0' : er = 0 := by omega
        subst h0'
        unfold fread at hf
        split at hf
        · rename_i e1 he1; have := vget_err he1; injection hf with hf; omega
        · split at hf
          · injection hf with hf; omega
          · split at hf
            · injection hf with hf; omega
            · split at hf
              · cases hf
              · injection hf with hf; omega
      have hgo : Hid (hh = ps.map (·.data)) := Lib.hid (by rw [H.out, heldA_err hf, List.append_nil])
      clear H hf
      have hp1 := hp.below hb1
      have hb01 := hb.trans (hb1.mono hb.size)
      clear hp hb hb1
      go_wp2
      go_ret
      exact ⟨_, ps, rfl, hp1, hgo.out.symm, hb01⟩
    | ok r =>
      obtain ⟨p, kx⟩ := r
      rw [hf] at hpost
      obtain ⟨v1, rfl, hown1, hb1⟩ := hpost
      have hnx := fread_next hf
      have hgo : Hid (hh = (ps.map (·.data) ++ [p]) ++ heldA (b.length + 1) b kx) := Lib.hid (by rw [H.out, held_go hf]; simp)
      have hcnt : (ps.length + 1) * 24 ≤ 140737488355328 := by
        have := congrArg List.length hgo.out
        simp only [List.length_append, List.length_map, List.length_cons, List.length_nil] at this
        omega
      clear H hf
      have hp1 := hp.below hb1
      have hb01 := hb.trans (hb1.mono hb.size)
      obtain ⟨A1, c1, rfl, _⟩ := own_form hown1
      have hq1 : OwnB w1 w.heap.size (ByS.v ⟨A1, c1, p⟩) p := own_mono hown1 hb.size
      have hs01 := hb01.size
      obtain ⟨n1, hn1⟩ : ∃ n, n = p.length := ⟨_, rfl⟩
      clear hp hb hb1 hown1
      go_wp2_with (at_builtin; refine wpList_app _ rfl rowsE rfl rfl (hp1.own.alloc _) rfl (row_new w1 _ [_]) (by simp [Value.oneCell']) (by simpa using hcnt) (by simp; omega) ?_; intro v4 w4 hown4 hg4 hb4 hx4)
      have hbX : Below w1.heap.size w1 (w1.alloc (.cells #[.slice A1 p.length c1] 23)) := (Below.refl _ _).alloc (Nat.le_refl _) _
      have hp4 := (hp1.below hbX).snoc (own_below hq1 hbX) hg4 hown4
      have hb04 := (hb01.trans (hbX.mono hs01)).trans hb4
      go_roundw
      case rel => exact ⟨ps ++ [⟨A1, c1, p⟩], kx, rfl, by omega, hp4, Lib.hid (by rw [hgo.out]; simp), hb04⟩
      case measure => simp [intOf]; omega
theorem nm_size {k : Nat} (hk : k ≤ 1000000000) : (nmS (walNm k)).size ≤ 140737488355328 := by
  have h := dec_len hk
  show (walNm k).toArray.size ≤ _
  rw [List.size_toArray]
  unfold walNm
  rw [List.length_append]
  have : ([119, 97, 108, 45] : Bs).length = 4 := rfl
  omega
theorem RefD.rlen {w : World} {g fb : Nat} {d : AD} (h : RefD w g fb d) (nm : Bs) : (aRead nm d).1.length ≤ 140737488355328 := by
  obtain ⟨rs, h1, h2⟩ := h.ex
  unfold aRead
  split
  · simp
  · cases hg : aget nm d.fs with
    | none => simp
    | some f =>
      rw [← h2] at hg
      obtain ⟨e, he, rfl⟩ := aget_abs_some hg
      exact (h1.files _ (aget_mem he)).len
def OpenPostR (w : World) (g first : Nat) (r : Nat × Nat × List Bs) (e : Ending) (w' : World) : Prop :=
  Below w.heap.size w w' ∧
  ((r.1 ≠ 0 ∧ e = .returned (.tuple #[.pointer none, .slice none 0 0, .int .i64 r.1])) ∨
   (r.1 = 0 ∧ ∃ gl v ps, e = .returned (.tuple #[.pointer (some ⟨gl, 0, none⟩), v, .int .i64 0]) ∧ w.heap.size ≤ gl ∧ Blk w' gl 65 (logV g first r.2.1 false) ∧ Pays w' w.heap.size v ps ∧ ps.map (·.data) = r.2.2))
set_option maxRecDepth 100000 in
set_option maxHeartbeats 4000000 in
theorem vOpen3 (first base g mp : Nat) (d : AD) (w : World) (h : DiskA base w g mp d) (hf1 : 1 ≤ first) (hf2 : first ≤ 1000000000) (r : Nat × Nat × List Bs) (hr : r = wOpen first d) (hnm : Nms base w 1000000000) (hlen : r.2.2.length * 24 ≤ 140737488355328) :
    Calls Tryd.prog 11 #[.pointer (some ⟨g, 0, none⟩), .int .i64 first] w fun e w' => OpenPost w g first r e w' := by
  have Hr := Lib.hid hr
  clear hr
  have d1 : decide ((first : Int) < 1) = false := decide_eq_false (by omega)
  have d2 : decide ((first : Int) > 1000000000) = false := decide_eq_false (by omega)
  go_enter Tryd.func11, Tryd.ntmps11
  go_wp2_with fail
  go_loopw [7, 8] (fun v i wr => ∃ (ps : List ByS) (k : Nat), i = .int .i64 k ∧ first ≤ k ∧ k ≤ 1000000000 ∧ Pays wr w.heap.size v ps ∧ Hid (r = ((wOpen k d).1, (wOpen k d).2.1, ps.map (·.data) ++ (wOpen k d).2.2)) ∧ Below w.heap.size w wr) (fun _ i _ => 1000000001 - (intOf i).toNat)
  case atStart => exact ⟨[], first, rfl, Nat.le_refl _, hf2, Pays.nil _ _, Lib.hid (by rw [Hr.out]; simp), Below.refl _ _⟩
  case round =>
    clear Hr
    obtain ⟨ps, k, rfl, hk1, hk2, hp, H, hb⟩ := hrel
    obtain ⟨wo, rfl⟩ : ∃ wo : World, wo = wr := ⟨_, rfl⟩
    have hbb : Below base w wo := hb.mono h.hb
    have hnk := hnm k wo (by omega) hk2 hbb
    have Hnk := Lib.hid hnk
    clear hnk
    go_wp2_with fail
    refine Hnk.out.mono ?_
    rintro e w1 ⟨rfl, hb1⟩
    have hp1 := hp.below hb1
    have hb01 := hb.trans (hb1.mono hb.size)
    have hd1 := h.below hb01
    clear hp hb hb1 Hnk
    go_wp2_with fail
    have hrl := hd1.rlen (walNm k)
    refine (aRead_calls (walNm k) base g mp d w1 hd1).mono ?_
    rintro e w2 ⟨A2, c2, rfl, hown2, hb2⟩
    obtain ⟨q, hq⟩ : ∃ q, q = aRead (walNm k) d := ⟨_, rfl⟩
    rw [← hq] at hown2 hrl ⊢
    have hp2 := hp1.below hb2
    have hb02 := hb01.trans (hb2.mono hb01.size)
    clear hp1 hd1
    by_cases h21 : q.2 = 21
    · have hz : ((q.2 : Int) == 21) = true := by rw [h21]; rfl
      have hgo : Hid (r = (0, k, ps.map (·.data))) := Lib.hid (by rw [H.out, wOpen_none hk2 (by rw [← hq]; exact h21)]; simp)
      clear H hq h21
      go_wp2
      refine bodyPost_ret (v := .tuple #[.pointer (some ⟨w2.heap.size, 0, none⟩), _, .int .i64 0]) (by simp [results, Tryd.results11, go_sem]; rfl) rfl ?_
      have hbX : Below w2.heap.size w2 (w2.alloc (.cells #[.pointer (some ⟨g, 0, none⟩), .int .i64 first, .int .i64 k, .bool false] 83)) := (Below.refl _ _).alloc (Nat.le_refl _) _
      refine ⟨hb02.trans (hbX.mono hb02.size), Or.inr ⟨by rw [hgo.out], w2.heap.size, _, ps, rfl, hb02.size, ?_, hp2.below hbX, by rw [hgo.out]⟩⟩
      rw [hgo.out]
      exact Blk.new w2 _ (logV g first k false)
    · have hz : ((q.2 : Int) == 21) = false := by rw [beq_eq_false_iff_ne]; omega
      by_cases h0 : q.2 = 0
      · have hz0 : ((q.2 : Int) != 0) = false := by rw [h0]; rfl
        have hstep := wOpen_go hk2 (d := d) (by rw [← hq]; exact h0)
        rw [← hq] at hstep
        have hgo : Hid (r = ((wOpen (k + 1) d).1, (wOpen (k + 1) d).2.1, (ps.map (·.data) ++ held q.1) ++ (wOpen (k + 1) d).2.2)) := Lib.hid (by rw [H.out, hstep]; simp)
        have hcnt : (ps.length + (held q.1).length) * 24 ≤ 140737488355328 := by
          rw [hgo.out] at hlen
          simp only [List.length_append, List.length_map] at hlen
          omega
        clear H hq hstep h21 h0
        go_wp2_with fail
        have hrow2 : Bytes w2 w2.heap.size A2 q.1.length q.1 := Row.of_own hown2
        obtain ⟨A2', c2', he2, hc2⟩ := own_form hown2
        simp only [Value.slice.injEq, true_and] at he2
        obtain ⟨rfl, rfl⟩ := he2
        refine (vHeld q.1 A2 c2 w2.heap.size w2 hrow2 (Nat.le_refl _) hc2 hrl (by omega)).mono ?_
        rintro e w3 ⟨v3, qs, rfl, hq3, hqd, hb3⟩
        obtain ⟨A3, c3, rfl, _⟩ := own_form hq3.own
        have hql : qs.length = (held q.1).length := by rw [← hqd, List.length_map]
        have hcnt' : (ps.length + qs.length) * 24 ≤ 140737488355328 := by omega
        have hp3 := hp2.below hb3
        have hb03 := hb02.trans (hb3.mono hb02.size)
        have hs03 := hb03.size
        have hgo' : Hid (r = ((wOpen (k + 1) d).1, (wOpen (k + 1) d).2.1, (ps ++ qs).map (·.data) ++ (wOpen (k + 1) d).2.2)) := Lib.hid (by rw [hgo.out, ← hqd]; simp)
        have hq3' := hq3.mono hb02.size
        have hrow3 : Row w3 w3.heap.size 1 A3 qs.length (qs.map ByS.v) := Row.of_own hq3.own
        clear hgo hqd hp2 hb02 hb3 hown2 hrow2 hql hcnt hq3
        by_cases hkl : k = 1000000000
        · have hzl : ((k : Int) == 1000000000) = true := by rw [beq_iff_eq]; omega
          have hgo2 : Hid (r.1 = 3) := Lib.hid (by rw [hgo'.out, hkl]; rfl)
          go_wp2_with (at_builtin; refine wpList_app _ rfl rowsE rfl rfl hp3.own rfl hrow3 (bys_one _) (by omega) hs03 ?_; intro v4 w4 hown4 hg4 hb4 hx4)
          have hb04 := hb03.trans hb4
          go_ret3
          exact ⟨hb04, Or.inl ⟨by rw [hgo2.out]; decide, by rw [hgo2.out]; rfl⟩⟩
        · have hzl : ((k : Int) == 1000000000) = false := by rw [beq_eq_false_iff_ne]; omega
          go_wp2_with (at_builtin; refine wpList_app _ rfl rowsE rfl rfl hp3.own rfl hrow3 (bys_one _) (by omega) hs03 ?_; intro v4 w4 hown4 hg4 hb4 hx4)
          have hp4 := hp3.app hq3'.all hg4 hown4
          have hb04 := hb03.trans hb4
          go_roundw
          case rel => exact ⟨ps ++ qs, k + 1, by go_num, by omega, by omega, hp4, hgo', hb04⟩
          case measure => simp [intOf]; omega
      · have hz0 : ((q.2 : Int) != 0) = true := by rw [bne_iff_ne]; omega
        have hgo : Hid (r = (q.2, k, ps.map (·.data))) := Lib.hid (by rw [H.out, wOpen_err hk2 (by rw [← hq]; exact h21) (by rw [← hq]; exact h0), ← hq]; simp)
        clear H hq
        go_wp2
        go_ret3
        refine ⟨hb02, Or.inl ⟨by rw [hgo.out]; exact h0, by rw [hgo.out]; rfl⟩⟩
set_option maxRecDepth 100000 in
set_option maxHeartbeats 4000000 in
theorem rOpen (first g fb : Nat) (d : AD) (w : World) (h : RefD w g fb d) (hfn : d.fs.length ≤ 140737488355328) (hf1 : 1 ≤ first) (hf2 : first ≤ 1000000000) (r : Nat × Nat × List Bs) (hr : r = wOpen first d) (hlen : r.2.2.length * 24 ≤ 140737488355328) :
    Calls Tryd.prog 22 #[.pointer (some ⟨g, 0, none⟩), .int .i64 first] w fun e w' => OpenPostR w g first r e w' := by
  have Hr := Lib.hid hr
  clear hr
  have d1 : decide ((first : Int) < 1) = false := decide_eq_false (by omega)
  have d2 : decide ((first : Int) > 1000000000) = false := decide_eq_false (by omega)
  go_enter Tryd.func22, Tryd.ntmps22
  go_wp2_with fail
  go_loopw [7, 8] (fun v i wr => ∃ (ps : List ByS) (k : Nat), i = .int .i64 k ∧ first ≤ k ∧ k ≤ 1000000001 ∧ Pays wr w.heap.size v ps ∧ Hid (r = ((wOpen k d).1, (wOpen k d).2.1, ps.map (·.data) ++ (wOpen k d).2.2)) ∧ Below w.heap.size w wr) (fun _ i _ => 1000000002 - (intOf i).toNat)
  case atStart => exact ⟨[], first, rfl, Nat.le_refl _, by omega, Pays.nil _ _, Lib.hid (by rw [Hr.out]; simp), Below.refl _ _⟩
  case round =>
    clear Hr
    obtain ⟨ps, k, rfl, hk1, hk2, hp, H, hb⟩ := hrel
    obtain ⟨wo, rfl⟩ : ∃ wo : World, wo = wr := ⟨_, rfl⟩
    by_cases hk3 : (k : Int) ≤ 1000000000
    rotate_left
    · obtain rfl : k = 1000000001 := by omega
      have hgo2 : Hid (r.1 = 3) := Lib.hid (by rw [H.out]; rfl)
      go_wp2
      go_ret3
      exact ⟨hb, Or.inl ⟨by rw [hgo2.out]; decide, by rw [hgo2.out]; rfl⟩⟩
    have hk2 : k ≤ 1000000000 := by omega
    go_wp2_with fail
    refine (rNm k wo (by omega) hk3).mono ?_
    rintro e w1 ⟨rfl, hb1⟩
    have hp1 := hp.below hb1
    have hb01 := hb.trans (hb1.mono hb.size)
    have hd1 := h.below hb01
    clear hp hb hb1
    go_wp2_with fail
    have hrl := hd1.rlen (walNm k)
    refine (bRead_calls (walNm k) g fb d w1 hd1 (nm_size hk2) hfn).mono ?_
    rintro e w2 ⟨⟨A2, c2, rfl, hrow2, hc2⟩, hb2⟩
    obtain ⟨q, hq⟩ : ∃ q, q = aRead (walNm k) d := ⟨_, rfl⟩
    rw [← hq] at hrow2 hc2 hrl ⊢
    have hp2 := hp1.below hb2
    have hb02 := hb01.trans (hb2.mono hb01.size)
    clear hp1 hd1
    by_cases h21 : q.2 = 21
    · have hz : ((q.2 : Int) == 21) = true := by rw [h21]; rfl
      have hgo : Hid (r = (0, k, ps.map (·.data))) := Lib.hid (by rw [H.out, wOpen_none hk2 (by rw [← hq]; exact h21)]; simp)
      clear H hq h21
      go_wp2
      refine bodyPost_ret (v := .tuple #[.pointer (some ⟨w2.heap.size, 0, none⟩), _, .int .i64 0]) (by simp [results, Tryd.results22, go_sem]; rfl) rfl ?_
      have hbX : Below w2.heap.size w2 (w2.alloc (.cells #[.pointer (some ⟨g, 0, none⟩), .int .i64 first, .int .i64 k, .bool false] 65)) := (Below.refl _ _).alloc (Nat.le_refl _) _
      refine ⟨hb02.trans (hbX.mono hb02.size), Or.inr ⟨by rw [hgo.out], w2.heap.size, _, ps, rfl, hb02.size, ?_, hp2.below hbX, by rw [hgo.out]⟩⟩
      rw [hgo.out]
      exact Blk.new w2 _ (logV g first k false)
    · have hz : ((q.2 : Int) == 21) = false := by rw [beq_eq_false_iff_ne]; omega
      by_cases h0 : q.2 = 0
      · have hz0 : ((q.2 : Int) != 0) = false := by rw [h0]; rfl
        have hstep := wOpen_go hk2 (d := d) (by rw [← hq]; exact h0)
        rw [← hq] at hstep
        have hgo : Hid (r = ((wOpen (k + 1) d).1, (wOpen (k + 1) d).2.1, (ps.map (·.data) ++ held q.1) ++ (wOpen (k + 1) d).2.2)) := Lib.hid (by rw [H.out, hstep]; simp)
        have hcnt : (ps.length + (held q.1).length) * 24 ≤ 140737488355328 := by
          rw [hgo.out] at hlen
          simp only [List.length_append, List.length_map] at hlen
          omega
        clear H hq hstep h21 h0
        go_wp2_with fail
        refine (rHeld q.1 A2 c2 w2.heap.size w2 hrow2 (Nat.le_refl _) hc2 hrl (by omega)).mono ?_
        rintro e w3 ⟨v3, qs, rfl, hq3, hqd, hb3⟩
        obtain ⟨A3, c3, rfl, _⟩ := own_form hq3.own
        have hql : qs.length = (held q.1).length := by rw [← hqd, List.length_map]
        have hcnt' : (ps.length + qs.length) * 24 ≤ 140737488355328 := by omega
        have hp3 := hp2.below hb3
        have hb03 := hb02.trans (hb3.mono hb02.size)
        have hs03 := hb03.size
        have hgo' : Hid (r = ((wOpen (k + 1) d).1, (wOpen (k + 1) d).2.1, (ps ++ qs).map (·.data) ++ (wOpen (k + 1) d).2.2)) := Lib.hid (by rw [hgo.out, ← hqd]; simp)
        have hq3' := hq3.mono hb02.size
        have hrow3 : Row w3 w3.heap.size 1 A3 qs.length (qs.map ByS.v) := Row.of_own hq3.own
        clear hgo hqd hp2 hb02 hb3 hrow2 hql hcnt hq3
        go_wp2_with (at_builtin; refine wpList_app _ rfl rowsE rfl rfl hp3.own rfl hrow3 (bys_one _) (by omega) hs03 ?_; intro v4 w4 hown4 hg4 hb4 hx4)
        have hp4 := hp3.app hq3'.all hg4 hown4
        have hb04 := hb03.trans hb4
        go_roundw
        case rel => exact ⟨ps ++ qs, k + 1, by go_num, by omega, by omega, hp4, hgo', hb04⟩
        case measure => simp [intOf]; omega
      · have hz0 : ((q.2 : Int) != 0) = true := by rw [bne_iff_ne]; omega
        have hgo : Hid (r = (q.2, k, ps.map (·.data))) := Lib.hid (by rw [H.out, wOpen_err hk2 (by rw [← hq]; exact h21) (by rw [← hq]; exact h0), ← hq]; simp)
        clear H hq
        go_wp2
        go_ret3
        refine ⟨hb02, Or.inl ⟨by rw [hgo.out]; exact h0, by rw [hgo.out]; rfl⟩⟩
end Go.Proofs.YtmddgimadlmacaaDoor
