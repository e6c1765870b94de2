import Derived.Test.YtcjapjnhejenaaaDoorHtJ
/-! strings.SplitSeq at a separator of one byte -/
namespace Garner
open Go
theorem splitC_miss {c : UInt8} : ∀ {r : Bs}, Lib.index r [c] = -1 → splitC c r = [r]
  | [], _ => rfl
  | x :: r, h => by
    by_cases hx : x = c
    · subst hx; rw [index_eq1] at h; cases h
    · rw [index_ne1 r hx] at h
      have hge := Lib.index_ge r [c]
      have h2 : Lib.index r [c] = -1 := by
        by_cases e : Lib.index r [c] = -1
        · exact e
        · rw [if_neg e] at h; omega
      rw [splitC, if_neg hx, splitC_miss h2]
theorem splitC_hit {c : UInt8} : ∀ {r : Bs} {i : Nat}, Lib.index r [c] = i → splitC c r = r.take i :: splitC c (r.drop (i + 1))
  | [], i, h => by rw [index_nil1] at h; omega
  | x :: r, i, h => by
    by_cases hx : x = c
    · subst hx
      rw [index_eq1] at h
      obtain rfl : i = 0 := by omega
      rw [splitC, if_pos rfl]; rfl
    · rw [index_ne1 r hx] at h
      have hge := Lib.index_ge r [c]
      by_cases e : Lib.index r [c] = -1
      · rw [if_pos e] at h; omega
      · rw [if_neg e] at h
        obtain ⟨i', rfl⟩ : ∃ i', i = i' + 1 := ⟨i - 1, by omega⟩
        rw [splitC, if_neg hx, splitC_hit (r := r) (i := i') (by omega)]
        rfl
def restLen (w : World) (T : Nat) : Nat := match w.cell? ⟨T, 0, none⟩ with
  | some (.string s) => s.size
  | _ => 0
structure KpB (n₀ : Nat) (S : List Nat) (W W' : World) : Prop where
  bel : Go.RowKit.Below n₀ W W'
  box : ∀ k, k ∈ S → ∀ o, W.heap[k]? = some o → W'.heap[k]? = some o
theorem KpB.trans {n₀ : Nat} {S : List Nat} {X Y Z : World} (h : KpB n₀ S X Y) (k : KpB n₀ S Y Z) : KpB n₀ S X Z := ⟨h.bel.trans k.bel, fun i hi o ho => k.box i hi o (h.box i hi o ho)⟩
end Garner
namespace Go.Proofs.YtcjapjnhejenaaaDoor
open Go.RowKit Go.Shelf Garner

attribute [local go_sem] Oper.semAt_some

def LtIn (n₀ : Nat) : Prop := 0 < n₀ ∧ 1 < n₀ ∧ 2 < n₀
theorem cell_lo {w : World} {g i : Nat} {v : Value} (h : w.cell? ⟨g, i, none⟩ = some v) : g < w.heap.size := by
  rcases Nat.lt_or_ge g w.heap.size with h1 | h1
  · exact h1
  · unfold World.cell? at h
    simp only [Array.getElem?_eq_none h1] at h
    cases h
theorem Lt.lo {w : World} (h : Lt w) : LtIn w.heap.size := by
  obtain ⟨m, hm⟩ := h.m
  exact ⟨cell_lo hm, cell_lo (h.t.1 0 (by omega)), cell_lo (h.t.2 0 (by omega)).1⟩
theorem Lt.near {w w' : World} {n₀ : Nat} (h : Lt w) (h0 : LtIn n₀) (hb : Below n₀ w w') : Lt w' := by
  obtain ⟨m, hm⟩ := h.m
  refine ⟨⟨m, ?_⟩, fun c hc => ?_, fun i hi => ?_⟩
  · rw [hb.cell (p := ⟨0, 0, none⟩) h0.1]; exact hm
  · rw [hb.cell (p := ⟨1, c, none⟩) h0.2.1]; exact h.t.1 c hc
  · rw [hb.cell (p := ⟨2, 2 * i, none⟩) h0.2.2, hb.cell (p := ⟨2, 2 * i + 1, none⟩) h0.2.2]; exact h.t.2 i hi
theorem kpB_blk {n₀ g : Nat} {S : List Nat} {W W' : World} {t : TypeId} {cs : List Value} (h : KpB n₀ S W W') (hb : Blk W g t cs) (hg : g ∈ S) : Blk W' g t cs := h.box g hg _ hb
theorem kpB_obj {n₀ : Nat} {S : List Nat} {w : World} (hn : n₀ ≤ w.heap.size) (hS : ∀ k ∈ S, k < w.heap.size) (W : World) (l : Nat) (o o' : Obj) (hl : w.heap.size ≤ l) (h : W.heap[l]? = some o) (hc : o.isCells = false) (hw : o.isWalk = false) : KpB n₀ S W (W.putObj l o') :=
  ⟨belowK_b hn W l o o' hl h hc hw, fun k hk o2 h2 => (World.putObj_heap_other (by have := hS k hk; omega)).trans h2⟩

theorem restLen_blk {w : World} {T : Nat} {t : TypeId} {r : Bs} (h : Blk w T t [str r]) : restLen w T = r.length := by
  unfold restLen
  rw [h.cell 0]
  show (⟨r.toArray⟩ : ByteArray).size = _
  rw [str_size]
set_option linter.unusedVariables false in
set_option maxRecDepth 100000 in
set_option maxHeartbeats 4000000 in
theorem seq1_in (n : Nat) (hn : 1 ≤ n) (c : UInt8) (L : Bs) (hLl : L.length ≤ 100000) (l T Ts Tv n₀ : Nat) (h0 : LtIn n₀) (hT : n₀ ≤ T) (hne1 : T ≠ Ts) (hne2 : T ≠ Tv) (J : Nat → World → Prop)
    (hJd : ∀ k A, J k A → J k A.drew) (hJs : ∀ k A u, J k A → J k (A.setCell ⟨T, 0, none⟩ u))
    (hY : ∀ k x W1, J k W1 → (splitC c L)[k]? = some x → YieldAt Fence.wide (n - 1) Tryd.prog l #[str x] W1 fun e W' => e = .returned (.bool true) ∧ J (k + 1) W' ∧ KpB n₀ [T, Ts, Tv] W1 W')
    (W : World) (hL : Lt W) (hbT : Blk W T 9 [str L]) (hbs : Blk W Ts 9 [str [c]]) (hbv : Blk W Tv 3 [.int .i64 0]) (hJ0 : J 0 W) :
    CallsIn Fence.wide n Tryd.prog 80 #[.func (.yield l) #[] #[], .pointer (some ⟨Ts, 0, none⟩), .pointer (some ⟨T, 0, none⟩), .pointer (some ⟨Tv, 0, none⟩)] W fun e W' => (∃ v, e = .returned v) ∧ J (splitC c L).length W' := by
  refine callsIn_of_wp Tryd.func80 rfl trivial ?_ rfl
  simp only [Tryd.ntmps80, List.size_toArray, List.length_cons, List.length_nil, Nat.reduceAdd, Nat.reduceSub, Array.replicate_succ, Array.replicate_zero, List.push_toArray, List.append_toArray, List.nil_append, List.cons_append]
  have cs0 : W.cell? ⟨Ts, 0, none⟩ = some (str [c]) := hbs.cell 0
  gi_wp2
  gi_loopw [7] (fun _ wr => ∃ (k : Nat) (r : Bs), k < (splitC c L).length ∧ splitC c r = (splitC c L).drop k ∧ r.length ≤ L.length ∧ J k wr ∧ Blk wr T 9 [str r] ∧ Blk wr Ts 9 [str [c]] ∧ Blk wr Tv 3 [.int .i64 0] ∧ Lt wr) (fun _ wr => restLen wr T)
  case atStart => exact ⟨0, L, List.length_pos_iff.2 (splitC_ne c L), rfl, Nat.le_refl _, hJ0, hbT, hbs, hbv, hL⟩
  case round =>
    obtain ⟨k, r, hk, hsp, hrl, hJk, bT, bs, bv, hLw⟩ := hrel
    obtain ⟨wo, rfl⟩ : ∃ wo : World, wo = wr := ⟨_, rfl⟩
    have c1 : wo.cell? ⟨T, 0, none⟩ = some (str r) := bT.cell 0
    have c2 : wo.cell? ⟨Ts, 0, none⟩ = some (str [c]) := bs.cell 0
    have c3 : wo.cell? ⟨Tv, 0, none⟩ = some (.int .i64 0) := bv.cell 0
    have hidx := cIndex r [c] wo hLw (by omega)
    have hge := Lib.index_ge r [c]
    by_cases hi : Lib.index r [c] < 0
    · have h1 : Lib.index r [c] = -1 := by omega
      rw [h1] at hidx
      have hlast := splitC_miss h1
      rw [hlast] at hsp
      have hkx : (splitC c L)[k]? = some r := by
        have := congrArg (·[0]?) hsp
        simp only [List.getElem?_drop] at this
        simpa using this.symm
      have hkl : k + 1 = (splitC c L).length := by
        have := congrArg List.length hsp
        rw [List.length_drop] at this
        simp at this
        omega
      obtain ⟨fn, tmps, assign, body, hy, hR⟩ := hY k r wo hJk hkx
      gi_wp2_with fail
      refine ⟨trivial, callsIn_wide.2 (hidx.mono ?_)⟩
      rintro e w' ⟨rfl, rfl⟩
      gi_wp2
      refine hR.mono ?_
      rintro e W3 ⟨rfl, hJ3, hk3⟩
      gi_wp2
      go_end0
      exact ⟨⟨_, rfl⟩, hkl ▸ hJ3⟩
    · obtain ⟨i, hi2⟩ : ∃ i : Nat, Lib.index r [c] = i := ⟨(Lib.index r [c]).toNat, by omega⟩
      rw [hi2] at hidx
      have hroom := Lib.index_room r [c] (by omega)
      rw [hi2, List.length_singleton] at hroom
      have hil : i + 1 ≤ r.length := by omega
      rw [splitC_hit hi2] at hsp
      have hkx : (splitC c L)[k]? = some (r.take i) := by
        have := congrArg (·[0]?) hsp
        simp only [List.getElem?_drop] at this
        simpa using this.symm
      have hsp2 : splitC c (r.drop (i + 1)) = (splitC c L).drop (k + 1) := by
        have := congrArg List.tail hsp
        rw [List.tail_drop] at this
        exact this
      have hk2 : k + 1 < (splitC c L).length := by
        have h1 := congrArg List.length hsp2
        have h2 := List.length_pos_iff.2 (splitC_ne c (r.drop (i + 1)))
        rw [List.length_drop] at h1
        omega
      obtain ⟨fn, tmps, assign, body, hy, hR⟩ := hY k (r.take i) wo hJk hkx
      obtain ⟨sv, hsv⟩ : ∃ sv : ByteArray, sv = ⟨r.toArray⟩ := ⟨_, rfl⟩
      have hsz : sv.size = r.length := by rw [hsv, str_size]
      have hx1 : sv.extract 0 i = ⟨(r.take i).toArray⟩ := by
        rw [hsv]
        apply ByteArray.ext
        rw [← Array.toList_inj, Lib.extract_data]
        simp
      have hx2 : sv.extract (i + 1) sv.size = ⟨(r.drop (i + 1)).toArray⟩ := by
        rw [hsz, hsv]
        apply ByteArray.ext
        rw [← Array.toList_inj, Lib.extract_data]
        simp only
        rw [List.take_of_length_le (by rw [List.length_drop]; omega)]
      have z0 : ¬ (i : Int) < 0 := by omega
      have z1 : (0 : Int) ≤ (i : Int) := by omega
      have z2 : (i : Int) ≤ (sv.size : Int) := by omega
      have z3 : (0 : Int) ≤ ((i + 1 : Nat) : Int) := by omega
      have z4 : ((i + 1 : Nat) : Int) ≤ (sv.size : Int) := by omega
      have w1 : IntKind.i64.wrap ((i : Int) + 1) = ((i + 1 : Nat) : Int) := by rw [IntKind.wrap_i64]; omega
      have hstr : ∀ s : Bs, str s = .string ⟨s.toArray⟩ := fun _ => rfl
      rw [hstr r, ← hsv] at c1 bT
      unfold str at hidx
      rw [← hsv] at hidx
      have hfz := bT.frozen 0
      rw [hstr, ← hx1] at hy
      have Hsv := Lib.hid hsv; clear hsv
      have Hx1 := Lib.hid hx1; clear hx1
      have Hx2 := Lib.hid hx2; clear hx2
      have Hsz := Lib.hid hsz; clear hsz
      clear hstr
      gi_wp2_with fail
      refine ⟨trivial, callsIn_wide.2 (hidx.mono ?_)⟩
      rintro e w' ⟨rfl, hw'⟩
      obtain rfl : wo = w' := hw'.symm
      gi_wp2
      refine hR.mono ?_
      rintro e W3 ⟨rfl, hJ3, hk3⟩
      have bT3 := kpB_blk hk3 bT (by simp)
      have bs3 := kpB_blk hk3 bs (by simp)
      have bv3 := kpB_blk hk3 bv (by simp)
      have d1 : W3.cell? ⟨T, 0, none⟩ = some (.string sv) := bT3.cell 0
      have d2 : W3.cell? ⟨Ts, 0, none⟩ = some (str [c]) := bs3.cell 0
      have hfz3 := bT3.frozen 0
      have hL3 := hLw.near h0 hk3.bel
      gi_wp2
      have hx2 := Hx2.out
      rw [hx2]
      have bT4 : Blk (W3.setCell ⟨T, 0, none⟩ (str (r.drop (i + 1)))) T 9 [str (r.drop (i + 1))] := bT3.set_ 0 _
      refine ⟨⟨k + 1, r.drop (i + 1), hk2, hsp2, by rw [List.length_drop]; omega, hJs _ _ _ hJ3, bT4, bs3.far (p := ⟨T, 0, none⟩) (by simp; omega) _, bv3.far (p := ⟨T, 0, none⟩) (by simp; omega) _, hL3.near h0 ((Below.refl _ _).setCell (p := ⟨T, 0, none⟩) hT _)⟩, ?_⟩
      have bT0 : Blk wo T 9 [str r] := by unfold str; rw [← Hsv.out]; exact bT
      rw [restLen_blk bT4, restLen_blk bT0, List.length_drop]
      omega
/-- SplitSeq: its function, and the three boxes that it reads -/
theorem seq_in (n : Nat) (c : UInt8) (L : Bs) (w : World) :
    CallsIn Fence.wide n Tryd.prog 44 #[str L, str [c]] w fun e w' => e = .returned (.func (.func 80) #[] #[.pointer (some ⟨w.heap.size + 1, 0, none⟩), .pointer (some ⟨w.heap.size, 0, none⟩), .pointer (some ⟨w.heap.size + 2, 0, none⟩)]) ∧
      w' = ((w.alloc (.cells #[str L] 9)).alloc (.cells #[str [c]] 9)).alloc (.cells #[.int .i64 0] 3) := by
  have inner : Calls Tryd.prog 62 #[str L, str [c], .int .i64 0] w fun e w' => e = .returned (.func (.func 80) #[] #[.pointer (some ⟨w.heap.size + 1, 0, none⟩), .pointer (some ⟨w.heap.size, 0, none⟩), .pointer (some ⟨w.heap.size + 2, 0, none⟩)]) ∧
      w' = ((w.alloc (.cells #[str L] 9)).alloc (.cells #[str [c]] 9)).alloc (.cells #[.int .i64 0] 3) := by
    go_enter Tryd.func62, Tryd.ntmps62
    go_wp2
    go_ret
    exact ⟨rfl, rfl⟩
  refine callsIn_wide.2 ?_
  go_enter Tryd.func44, Tryd.ntmps44
  go_wp2_with fail
  refine inner.mono ?_
  rintro e w' ⟨rfl, rfl⟩
  go_wp2
  go_ret
  exact ⟨rfl, rfl⟩
theorem seqT (n : Nat) (hn : 1 ≤ n) (c : UInt8) (L : Bs) (hLl : L.length ≤ 100000) (T Ts Tv n₀ : Nat) (h0 : LtIn n₀) (hT : n₀ ≤ T) (hne1 : T ≠ Ts) (hne2 : T ≠ Tv) (w : World) (hL : Lt w) (hbT : Blk w T 9 [str L]) (hbs : Blk w Ts 9 [str [c]]) (hbv : Blk w Tv 3 [.int .i64 0]) :
    SeqT n Tryd.prog 80 #[.pointer (some ⟨Ts, 0, none⟩), .pointer (some ⟨T, 0, none⟩), .pointer (some ⟨Tv, 0, none⟩)] T str (splitC c L) (KpB n₀ [T, Ts, Tv]) w :=
  fun l J W hW hJd hJs hY h0' => seq1_in n hn c L hLl l T Ts Tv n₀ h0 hT hne1 hne2 J hJd hJs hY W (hL.below hW) (hbT.below hW hbT.lt) (hbs.below hW hbs.lt) (hbv.below hW hbv.lt) h0'
end Go.Proofs.YtcjapjnhejenaaaDoor
