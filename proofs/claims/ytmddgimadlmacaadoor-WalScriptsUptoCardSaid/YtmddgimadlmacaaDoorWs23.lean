import Derived.Test.YtmddgimadlmacaaDoorWs21
import Derived.Test.YtmddgimadlmacaaDoorWs22
import Derived.Test.YtmddgimadlmacaaDoorWs16
namespace Go.Proofs.YtmddgimadlmacaaDoor
open Go.RowKit Garner

theorem rst_one (keep : List Int) (k : Bs) (f : FileD) : rst keep [(k, f)] = [(k, cutD keep 0 f)] := by
  have h1 : sortN [k] = [k] := by simp [sortN]
  have h2 : List.idxOf k [k] = 0 := by simp
  simp only [rst, List.map_cons, List.map_nil, h1, rstUp, h2, List.length_cons, List.length_nil]
  rfl
theorem rst_two (n : Int) (fs : List (Bs × FileD)) (h : fs.length ≤ 2) : rst [n, n] fs = fs.map fun p => (p.1, cutD [n] 0 p.2) := by
  unfold rst rstUp
  refine List.map_congr_left fun p hp => ?_
  have hm : p.1 ∈ sortN (fs.map (·.1)) := mem_sortN.2 (List.mem_map.2 ⟨p, hp, rfl⟩)
  have hlt := List.idxOf_lt_length_of_mem hm
  rw [sortN_len, List.length_map] at hlt
  rw [if_pos hlt]
  congr 1
  generalize List.idxOf p.1 (sortN (fs.map (·.1))) = j at *
  unfold cutD keptN
  have : j = 0 ∨ j = 1 := by omega
  rcases this with rfl | rfl <;> rfl
theorem ap_dn (nm data : Bs) (fs : List (Bs × FileD)) (L : Int) (h : dmay [nmS nm] true = 23) : aAppend nm data ⟨fs, false, true, L⟩ = (23, ⟨fs, false, true, L⟩) := by unfold aAppend; rw [if_pos (by rw [h]; decide), h]
theorem sy_dn (nm : Bs) (fs : List (Bs × FileD)) (L : Int) (h : dmay [nmS nm] true = 23) : aSync nm ⟨fs, false, true, L⟩ = (23, ⟨fs, false, true, L⟩) := by unfold aSync; rw [if_pos (by rw [h]; decide), h]
theorem rn_dn (nm nm2 : Bs) (fs : List (Bs × FileD)) (L : Int) (h : dmay [nmS nm, nmS nm2] true = 23) : aRename nm nm2 ⟨fs, false, true, L⟩ = (23, ⟨fs, false, true, L⟩) := by unfold aRename; rw [if_pos (by rw [h]; decide), h]
theorem ap_up (nm data : Bs) (fs : List (Bs × FileD)) (L : Int) (h : dmay [nmS nm] false = 0) : aAppend nm data ⟨fs, false, false, L⟩ = (0, ⟨aput nm ((fget nm fs).1 ++ data, (fget nm fs).2) fs, false, armedD L false, armed L⟩) := by unfold aAppend; rw [if_neg (by rw [h]; decide)]; rfl
theorem sy_up (nm : Bs) (fs : List (Bs × FileD)) (L : Int) (f : FileD) (h : dmay [nmS nm] false = 0) (hf : aget nm fs = some f) : aSync nm ⟨fs, false, false, L⟩ = (0, ⟨aput nm (f.1, f.1.length) fs, false, armedD L false, armed L⟩) := by unfold aSync; rw [if_neg (by rw [h]; decide)]; simp only [hf]; rfl
theorem rn_up (nm nm2 : Bs) (fs : List (Bs × FileD)) (L : Int) (f : FileD) (h : dmay [nmS nm, nmS nm2] false = 0) (hf : aget nm fs = some f) : aRename nm nm2 ⟨fs, false, false, L⟩ = (0, ⟨aput nm2 f (adel nm fs), false, armedD L false, armed L⟩) := by unfold aRename; rw [if_neg (by rw [h]; decide)]; simp only [hf]; rfl
theorem cut_full (n : Int) (l : Bs) : cutD [n] 0 (l, l.length) = (l, l.length) := by
  have h : keptN [n] 0 (l, l.length) = l.length := by simp only [keptN, List.getElem?_cons_zero]; omega
  unfold cutD; rw [h]; simp
theorem u64_lo (n : Int) : 0 ≤ IntKind.u64.wrap n ∧ IntKind.u64.wrap n < 18446744073709551616 := by
  simp only [IntKind.wrap, IntKind.bits, IntKind.signed]
  simp
  omega
/-- a number without a sign, modulo a small one, as an int -/
theorem u64_mod (n : Int) (m : Nat) (hm : 0 < m) (hm2 : m ≤ 1000000) : ∃ k : Nat, k < m ∧ wrap64 ((IntKind.u64.wrap n).tmod m) = k := by
  obtain ⟨h1, h2⟩ := u64_lo n
  rw [Int.tmod_eq_emod_of_nonneg h1]
  have h3 := Int.emod_nonneg (IntKind.u64.wrap n) (show (m : Int) ≠ 0 by omega)
  have h4 := Int.emod_lt_of_pos (IntKind.u64.wrap n) (show (0 : Int) < m by omega)
  refine ⟨((IntKind.u64.wrap n) % m).toNat, by omega, ?_⟩
  rw [IntWalk.wrap64_in _ ⟨by omega, by omega⟩]; omega
theorem FileOk.far {O : Nat → Prop} {w : World} {e : FileE} (h : FileOk O w e) {q : Nat} {t : TypeId} {cs : List Value} (hk : Blk w q t cs) (hne : ∀ (i : Nat) (c : UInt8), cs[i]? ≠ some (bv c)) : FileOk (fun b => O b ∧ b ≠ q) w e := by
  refine ⟨h.row, fun hn b off e' => ⟨h.own hn b off e', fun hq => ?_⟩, h.cap, h.syn, h.len, h.typ⟩
  obtain ⟨b', off', e'', _, hc⟩ := h.row.2 hn
  rw [e'] at e''
  injection e'' with e''
  injection e'' with hb ho
  subst hb ho hq
  have h1 := hc 0 (bv e.data[0]) (by rw [List.getElem?_map, List.getElem?_eq_getElem hn]; rfl)
  rw [Nat.add_zero, hk.cell] at h1
  exact hne _ _ h1
/-- a block that has no bytes is no file's -/
theorem DiskA.but_far {base g mp : Nat} {d : AD} {w w' : World} (h : DiskA base w g mp d) {q : Nat} (hb : But [q] w w') {t : TypeId} {cs : List Value} (hk : Blk w q t cs) (hne : ∀ (i : Nat) (c : UInt8), cs[i]? ≠ some (bv c)) (hg : q ∉ [g, mp]) : DiskA base w' g mp d := by
  obtain ⟨es, h1, h2⟩ := h.ex
  simp only [List.mem_cons, List.not_mem_nil, or_false, not_or] at hg
  have h3 : DiskIs (fun b => base ≤ b ∧ b ≠ q) w g mp es d.fl d.dn d.left := ⟨h1.blk, h1.map, fun p hp => (h1.files p hp).far hk hne, h1.nodup, h1.lo, h1.hi⟩
  exact ⟨⟨es, (h3.but hb (by simp only [List.mem_cons, List.not_mem_nil, or_false]; exact fun h => hg.1 h.symm) (by simp only [List.mem_cons, List.not_mem_nil, or_false]; exact fun h => hg.2 h.symm) (fun b hO _ => by simp only [List.mem_cons, List.not_mem_nil, or_false]; exact hO.2)).mono (fun b hO => hO.1), h2⟩, h.hg, h.hm, Nat.le_trans h.hb hb.size⟩
theorem aget_adel {κ ν : Type} [DecidableEq κ] (a : κ) : ∀ l : List (κ × ν), (l.map (·.1)).Nodup → aget a (adel a l) = none
  | [], _ => rfl
  | (b, v) :: l, h => by
    rw [List.map_cons, List.nodup_cons] at h
    by_cases hb : a = b
    · subst hb
      simp only [adel, if_true]
      exact aget_none h.1
    · simp only [adel, if_neg hb, aget]
      exact aget_adel a l h.2
section
variable {base g mp : Nat} {d : AD} {w : World}
theorem DiskA.nodup (h : DiskA base w g mp d) : (d.fs.map (·.1)).Nodup := by
  obtain ⟨es, h1, h2⟩ := h.ex
  rw [← h2]
  have := h1.nodup
  simpa [Files.abs, List.map_map, Function.comp_def] using this
theorem DiskA.flen (h : DiskA base w g mp d) (nm : Bs) : (fget nm d.fs).1.length ≤ 140737488355328 := by
  obtain ⟨es, h1, h2⟩ := h.ex
  rw [← h2, fget_abs]
  unfold Files.get
  cases he : aget nm es with
  | none => exact Nat.zero_le _
  | some e => exact (h1.files _ (aget_mem he)).len
theorem DiskA.rlen (h : DiskA base w g mp d) (nm : Bs) : (aRead nm d).1.length ≤ 140737488355328 := by
  have h1 := h.flen nm
  unfold aRead
  split
  · simp
  · unfold fget at h1
    cases he : aget nm d.fs with
    | none => simp
    | some f => rw [he] at h1; exact h1
end
theorem bytes_mark (w : World) (l : List UInt8) (fr : Nat × Nat) (vs : List Value) (hv : vs = l.map bv) : Bytes (w.alloc (.cells vs.toArray 5 fr)) (w.heap.size + 1) (some ⟨w.heap.size, 0, none⟩) l.length l := by
  subst hv
  refine ⟨by simp, fun _ => ⟨w.heap.size, 0, rfl, by omega, fun j u hu => ?_⟩⟩
  rw [Nat.zero_add, World.cell?_alloc_mark]
  simpa using hu
theorem row_bytes (w : World) (l : List UInt8) (B : Nat) (hB : w.heap.size + 1 ≤ B) (vs : List Value) (hv : vs = l.map bv) : Bytes (w.alloc (.cells vs.toArray 5)) B (some ⟨w.heap.size, 0, none⟩) l.length l := by
  subst hv
  have h := row_new w 5 (l.map bv)
  rw [List.length_map] at h
  exact h.more hB
end Go.Proofs.YtmddgimadlmacaaDoor
namespace Go.Proofs.YtmddgimadlmacaaDoor
open Go.RowKit Garner

/-- the document's disk: its box -/
abbrev refV (F : Value) (fl dn : Bool) (left : Int) : List Value := [F, .bool fl, .bool dn, .int .i64 left]
theorem dmay_bad1 {a b : ByteArray} {dn : Bool} (h : nameOk a = false) : dmay [a, b] dn = 1 := by unfold dmay; simp [h]
theorem dmay_bad2 {a b : ByteArray} {dn : Bool} (h : nameOk b = false) : dmay [a, b] dn = 1 := by unfold dmay; simp [h]
theorem dmay_ok {a b : ByteArray} {dn : Bool} (h : nameOk a = true) (h' : nameOk b = true) : dmay [a, b] dn = if dn then 23 else 0 := by unfold dmay; simp [h, h']
theorem dmay_same (a : ByteArray) (dn : Bool) : dmay [a, a] dn = dmay [a] dn := by unfold dmay; simp
set_option maxRecDepth 100000 in
set_option maxHeartbeats 4000000 in
theorem rChange (a b : ByteArray) (g : Nat) (F : Value) (fl dn : Bool) (left : Int) (w : World) (hd : Blk w g 68 (refV F fl dn left)) (hlo : -1 ≤ left) (hhi : left ≤ 9223372036854775807) (hla : a.size ≤ 140737488355328) (hlb : b.size ≤ 140737488355328) :
    Calls Tryd.prog 53 #[.pointer (some ⟨g, 0, none⟩), .string a, .string b] w fun e w' => e = .returned (.int .i64 (dmay [a, b] dn)) ∧ Blk w' g 68 (refV F fl (chgD [a, b] dn left) (chgL [a, b] dn left)) ∧ But [g] w w' := by
  cases ha : nameOk a with
  | false =>
    have h0 := dmay_bad1 (b := b) (dn := dn) ha
    have e1 := chgL_no (names := [a, b]) (dn := dn) (left := left) (by rw [h0]; decide)
    have e2 := chgD_no (names := [a, b]) (dn := dn) (left := left) (by rw [h0]; decide)
    have H0 := Lib.hid h0; have E1 := Lib.hid e1; have E2 := Lib.hid e2
    clear h0 e1 e2
    go_enter Tryd.func53, Tryd.ntmps53
    go_wp2_with fail
    refine (rName a w hla).mono ?_
    rintro e w1 ⟨rfl, hb1⟩
    rw [ha]
    have hd1 := hd.below hb1 hd.lt
    clear hd
    go_wp2
    go_ret
    rw [H0.out, E1.out, E2.out]
    exact ⟨rfl, hd1, But.of_below hb1⟩
  | true =>
    cases hb : nameOk b with
    | false =>
      have h0 := dmay_bad2 (a := a) (dn := dn) hb
      have e1 := chgL_no (names := [a, b]) (dn := dn) (left := left) (by rw [h0]; decide)
      have e2 := chgD_no (names := [a, b]) (dn := dn) (left := left) (by rw [h0]; decide)
      have H0 := Lib.hid h0; have E1 := Lib.hid e1; have E2 := Lib.hid e2
      clear h0 e1 e2
      go_enter Tryd.func53, Tryd.ntmps53
      go_wp2_with fail
      refine (rName a w hla).mono ?_
      rintro e w1 ⟨rfl, hb1⟩
      rw [ha]
      have hd1 := hd.below hb1 hd.lt
      clear hd
      go_wp2_with fail
      refine (rName b w1 hlb).mono ?_
      rintro e w2 ⟨rfl, hb2⟩
      rw [hb]
      have hd2 := hd1.below hb2 hd1.lt
      have hb02 := hb1.trans (hb2.mono hb1.size)
      clear hd1 hb1 hb2
      go_wp2
      go_ret
      rw [H0.out, E1.out, E2.out]
      exact ⟨rfl, hd2, But.of_below hb02⟩
    | true =>
      have h0 := dmay_ok (dn := dn) ha hb
      have H0 := Lib.hid h0
      go_enter Tryd.func53, Tryd.ntmps53
      clear h0
      go_wp2_with fail
      refine (rName a w hla).mono ?_
      rintro e w1 ⟨rfl, hb1⟩
      rw [ha]
      have hd1 := hd.below hb1 hd.lt
      clear hd
      go_wp2_with fail
      refine (rName b w1 hlb).mono ?_
      rintro e w2 ⟨rfl, hb2⟩
      rw [hb]
      have hd2 := hd1.below hb2 hd1.lt
      have hb02 := hb1.trans (hb2.mono hb1.size)
      clear hd1 hb1 hb2
      have c2 : w2.cell? ⟨g, 2, none⟩ = some (.bool dn) := hd2.cell 2
      have c3 : w2.cell? ⟨g, 3, none⟩ = some (.int .i64 left) := hd2.cell 3
      have k2 := hd2.frozen 2; have k3 := hd2.frozen 3
      cases dn with
      | true =>
        have e1 := chgL_no (names := [a, b]) (dn := true) (left := left) (by rw [H0.out]; decide)
        have e2 := chgD_no (names := [a, b]) (dn := true) (left := left) (by rw [H0.out]; decide)
        have E1 := Lib.hid e1; have E2 := Lib.hid e2
        clear e1 e2
        go_wp2
        go_ret
        rw [H0.out, E1.out, E2.out]
        exact ⟨rfl, hd2, But.of_below hb02⟩
      | false =>
        by_cases hp : 0 < left
        · have e1 := chgL_yes (names := [a, b]) H0.out hp
          have e2 := chgD_yes (names := [a, b]) H0.out hp
          have E1 := Lib.hid e1; have E2 := Lib.hid e2
          clear e1 e2
          have hgt := decide_eq_true (show left > 0 from hp)
          by_cases h1 : left = 1
          · subst h1
            go_wp2
            go_ret
            rw [H0.out, E1.out, E2.out]
            have hbut : But [g] w2 ((w2.setCell ⟨g, 3, none⟩ (.int .i64 0)).setCell ⟨g, 2, none⟩ (.bool true)) := ((But.refl _ _).setCell (by simp) _).setCell (by simp) _
            exact ⟨rfl, (hd2.set_ 3 (.int .i64 0)).set_ 2 (.bool true), (But.of_below hb02).trans hbut⟩
          · have hne : (left - 1 == 0) = false := by rw [beq_eq_false_iff_ne]; omega
            go_wp2
            go_ret
            rw [H0.out, E1.out, E2.out, decide_eq_false h1]
            have hbut : But [g] w2 (w2.setCell ⟨g, 3, none⟩ (.int .i64 (left - 1))) := (But.refl _ _).setCell (by simp) _
            exact ⟨rfl, hd2.set_ 3 (.int .i64 (left - 1)), (But.of_below hb02).trans hbut⟩
        · have e1 := chgL_idle (names := [a, b]) (dn := false) (left := left) (by omega)
          have e2 := chgD_idle (names := [a, b]) (dn := false) (left := left) (by omega)
          have E1 := Lib.hid e1; have E2 := Lib.hid e2
          clear e1 e2
          have hgt := decide_eq_false (show ¬ left > 0 from hp)
          go_wp2
          go_ret
          rw [H0.out, E1.out, E2.out]
          exact ⟨rfl, hd2, But.of_below hb02⟩
end Go.Proofs.YtmddgimadlmacaaDoor
