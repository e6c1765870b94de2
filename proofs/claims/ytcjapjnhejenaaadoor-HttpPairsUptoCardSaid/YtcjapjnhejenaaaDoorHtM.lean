import Derived.Test.YtcjapjnhejenaaaDoorHtL
/-! http: read -/
namespace Garner
open Go
theorem firstP_none {s : Bs} (h : (splitC 32 s).length ≠ 3) : firstP s = none := by
  unfold firstP
  split
  · rename_i e; rw [e] at h; simp at h
  · rfl
theorem firstP_three {s a b c : Bs} (h : splitC 32 s = [a, b, c]) : firstP s = if c = http11 ∧ methodP a = true then some (a, b) else none := by
  unfold firstP
  rw [h]
theorem lines_end (f : Nat) {st : LineP} {rest : Bs} (h : ¬ (st.ok = true ∧ rest ≠ [])) : linesP (f + 1) st rest = st := by
  rw [linesP, if_neg h]
theorem lines_step (f : Nat) {st : LineP} {rest : Bs} (h : st.ok = true ∧ rest ≠ []) : linesP (f + 1) st rest = linesP f (lineP st (Lib.cut rest crlf).1) (Lib.cut rest crlf).2.1 := by
  rw [linesP, if_pos h]
theorem cut_short (s sep : Bs) (h1 : 1 ≤ sep.length) (hs : s ≠ []) : (Lib.cut s sep).2.1.length < s.length := by
  have := List.length_pos_iff.2 hs
  unfold Lib.cut
  split
  · rename_i h
    have hr := Lib.index_room s sep h
    simp only [List.length_drop]
    omega
  · simpa using this
theorem trimS_len (l cs : Bs) : (Lib.trimS l cs).length ≤ l.length := by
  have h1 : ∀ (p : UInt8 → Bool) (x : Bs), (x.dropWhile p).length ≤ x.length := fun p x => (List.dropWhile_suffix p).length_le
  unfold Lib.trimS Lib.trimLeftS Lib.trimRightS
  refine Nat.le_trans (h1 _ _) ?_
  rw [List.length_reverse]
  refine Nat.le_trans (h1 _ _) ?_
  rw [List.length_reverse]
  exact Nat.le_refl _
theorem lineP_eq (st : LineP) (ln : Bs) : lineP st ln =
    if lowP (Lib.cut ln [58]).1 = hostS then { st with ok := ((Lib.cut ln [58]).2.2 && tokenP (Lib.cut ln [58]).1 && cleanP (Lib.trimS (Lib.cut ln [58]).2.1 [32, 9])), hosts := st.hosts + 1 }
    else if lowP (Lib.cut ln [58]).1 = lengthS then { st with ok := (digitsP (Lib.trimS (Lib.cut ln [58]).2.1 [32, 9]) ((Lib.cut ln [58]).2.2 && tokenP (Lib.cut ln [58]).1 && cleanP (Lib.trimS (Lib.cut ln [58]).2.1 [32, 9]))).2, lengths := st.lengths + 1, length := digN (Lib.trimS (Lib.cut ln [58]).2.1 [32, 9]) 0 }
    else if lowP (Lib.cut ln [58]).1 = teS then { st with ok := ((Lib.cut ln [58]).2.2 && tokenP (Lib.cut ln [58]).1 && cleanP (Lib.trimS (Lib.cut ln [58]).2.1 [32, 9])) && lowP (Lib.trimS (Lib.cut ln [58]).2.1 [32, 9]) == chunkedS, lengths := st.lengths + 1, chunked := true }
    else { st with ok := ((Lib.cut ln [58]).2.2 && tokenP (Lib.cut ln [58]).1 && cleanP (Lib.trimS (Lib.cut ln [58]).2.1 [32, 9])) } := rfl
theorem readP_none {s : Bs} (h : firstP (Lib.cut s crlf).1 = none) : (readP s).ok = false := by
  unfold readP
  rw [h]; rfl
end Garner
namespace Go.Proofs.YtcjapjnhejenaaaDoor
open Go.RowKit Go.Shelf Garner

def headC (m p : Bs) (q b : Value) (len : Nat) (chk : Bool) : List Value := [str m, str p, q, b, .int .i64 len, .bool chk]
def headV (m p : Bs) (q b : Value) (len : Nat) (chk : Bool) : Value := .agg #[str m, str p, q, b, .int .i64 len, .bool chk]
theorem res_read {w : World} {g : Nat} {m p q b n c : Value} (h : Blk w g 46 [m, p, q, b, n, c]) (tmps : Array Value) {ok : Value} (h2 : tmps.getD 2 undef = .pointer (some ⟨g, 0, none⟩)) (h3 : tmps.getD 3 undef = ok) :
    (results Tryd.f16 tmps).run Tryd.prog w = .ok (.tuple #[.agg #[m, p, q, b, n, c], ok]) w := by
  have c0 := h.cell 0; have c1 := h.cell 1; have c2 := h.cell 2; have c3 := h.cell 3; have c4 := h.cell 4; have c5 := h.cell 5
  rw [results_cell_tmp rfl, h2, h3]
  simp [go_sem, *]
/-- what stands between two of read's lines -/
structure RdI (w : World) (H : Nat) (a tp : Bs) (tq : List (Bs × Bs)) (A : Option Addr) (cq : Nat) (len : Nat) (chk : Bool) (wr : World) : Prop where
  blk : Blk wr H 46 (headC a tp (.slice A tq.length cq) (.slice none 0 0) len chk)
  own : OwnP wr w.heap.size (.slice A tq.length cq) tq
  res : Blk wr w.heap.size 46 [.string { data := #[] }, .string { data := #[] }, .slice none 0 0, .slice none 0 0, .int .i64 0, .bool false]
  bel : Below w.heap.size w wr
theorem RdI.below {w : World} {H : Nat} {a tp : Bs} {tq : List (Bs × Bs)} {A : Option Addr} {cq len : Nat} {chk : Bool} {wr wx : World} (h : RdI w H a tp tq A cq len chk wr) (hb : Below wr.heap.size wr wx) : RdI w H a tp tq A cq len chk wx :=
  ⟨h.blk.below hb h.blk.lt, own_below h.own hb, h.res.below hb h.res.lt, h.bel.trans (hb.mono h.bel.size)⟩
theorem RdI.set_ {w : World} {H : Nat} {a tp : Bs} {tq : List (Bs × Bs)} {A : Option Addr} {cq len : Nat} {chk : Bool} {wr : World} (h : RdI w H a tp tq A cq len chk wr) (hH : w.heap.size < H) (i len' : Nat) (chk' : Bool) (u : Value)
    (he : (headC a tp (.slice A tq.length cq) (.slice none 0 0) len chk).set i u = headC a tp (.slice A tq.length cq) (.slice none 0 0) len' chk') : RdI w H a tp tq A cq len' chk' (wr.setCell ⟨H, i, none⟩ u) := by
  refine ⟨?_, ?_, h.res.far (p := ⟨H, i, none⟩) (by show w.heap.size ≠ H; omega) _, h.bel.setCell (p := ⟨H, i, none⟩) (by show w.heap.size ≤ H; omega) _⟩
  · rw [← he]; exact h.blk.set_ i u
  · exact own_grown h.own (grown_set _ _ _ _) (.inr fun e => own_blk h.own h.blk (by decide) (by rw [e]; simp))
def strLen : Value → Nat
  | .string s => s.size
  | _ => 0
/-- what read answers -/
def ReadIs (w : World) (B : Nat) (hv : Value) (h : HeadP) : Prop := ∃ m p A n c len chk, hv = headV m p (.slice A n c) (.slice none 0 0) len chk ∧
  (h.ok = true → m = h.method ∧ p = h.path ∧ n = h.query.length ∧ len = h.length ∧ chk = h.chunked ∧ OwnP w B (.slice A h.query.length c) h.query ∧ h.length ≤ 1099511627776)
theorem readIs_no {w : World} {B : Nat} {m p : Bs} {A : Option Addr} {n c len : Nat} {chk : Bool} {h : HeadP} (hno : h.ok = false) : ReadIs w B (headV m p (.slice A n c) (.slice none 0 0) len chk) h := ⟨m, p, A, n, c, len, chk, rfl, fun h2 => by rw [hno] at h2; cases h2⟩
set_option maxRecDepth 100000 in
set_option maxHeartbeats 8000000 in
theorem vRead (s : Bs) (w : World) (hL : Lt w) (hs : s.length ≤ 5000) :
    Calls Tryd.prog 16 #[str s] w fun e w' => ∃ hv, e = .returned (.tuple #[hv, .bool (readP s).ok]) ∧ ReadIs w' w.heap.size hv (readP s) ∧ Below w.heap.size w w' := by
  obtain ⟨w1, hw1⟩ : ∃ W, W = w.alloc (.cells #[.string { data := #[] }, .string { data := #[] }, .slice none 0 0, .slice none 0 0, .int .i64 0, .bool false] 46) := ⟨_, rfl⟩
  have hb1 : Below w.heap.size w w1 := by rw [hw1]; exact (Below.refl _ _).alloc (Nat.le_refl _) _
  have bR : Blk w1 w.heap.size 46 [.string { data := #[] }, .string { data := #[] }, .slice none 0 0, .slice none 0 0, .int .i64 0, .bool false] := by rw [hw1]; exact Blk.new w _ _
  have hcut := cCut s crlf w1 (hL.below hb1) (by omega)
  have hcl := cut_len s crlf
  obtain ⟨HD, hHD⟩ : ∃ HD, HD = readP s := ⟨_, rfl⟩
  rw [← hHD]
  have hnone : firstP (Lib.cut s crlf).1 = none → HD.ok = false := fun h => by rw [hHD]; exact readP_none h
  have hsome : ∀ a b, firstP (Lib.cut s crlf).1 = some (a, b) → HD = (let t := targetP b; let r := linesP ((Lib.cut s crlf).2.1.length + 1) ⟨t.2.2, 0, 0, 0, false⟩ (Lib.cut s crlf).2.1; ⟨a, t.1, t.2.1, r.length, r.chunked, r.ok && decide (r.hosts = 1) && decide (r.lengths ≤ 1)⟩) := fun a b h => by
    rw [hHD]; unfold readP; rw [h]
  obtain ⟨fi, hfi⟩ : ∃ fi, (Lib.cut s crlf).1 = fi := ⟨_, rfl⟩
  obtain ⟨re, hre⟩ : ∃ re, (Lib.cut s crlf).2.1 = re := ⟨_, rfl⟩
  rw [hfi, hre] at hcut hcl
  rw [hfi] at hnone
  rw [hfi, hre] at hsome
  have Hnone := Lib.hid hnone; clear hnone
  have Hsome := Lib.hid hsome; clear hsome
  have Hcl := Lib.hid hcl; clear hcl
  clear hfi hre hHD
  have hs1 := hb1.size
  go_enter Tryd.func16, Tryd.ntmps16
  go_wp2_with fail
  rw [← hw1]
  clear hw1
  refine (show Calls Tryd.prog 25 #[str s, .string { data := #[13, 10] }] w1 _ from hcut).mono ?_
  rintro e w2 ⟨rfl, hb2⟩
  have hb2' := hb1.trans (hb2.mono hs1)
  have bR2 := bR.below hb2 bR.lt
  have hs2 := hb2'.size
  go_wp2_with fail
  refine (cSplit fi 32 w2 (hL.below hb2') (by have := Hcl.out; omega)).mono ?_
  rintro e w3 ⟨rfl, hw3⟩
  obtain ⟨ps, hps⟩ : ∃ ps, splitC 32 fi = ps := ⟨_, rfl⟩
  rw [hps] at hw3 ⊢
  have hrow : Row w3 (w2.heap.size + 1) 1 (some ⟨w2.heap.size, 0, none⟩) ps.length (ps.map str) := by
    have := row_new w2 9 (ps.map str)
    rw [List.length_map] at this
    rw [hw3]; exact this
  have hb3 : Below w.heap.size w w3 := by rw [hw3]; exact hb2'.alloc hs2 _
  have bR3 := bR2.alloc (.cells (ps.map str).toArray 9)
  rw [← hw3] at bR3
  have hplen := splitC_len 32 fi
  rw [hps] at hplen
  have hsz3 : w3.heap.size = w2.heap.size + 1 := by rw [hw3]; simp
  clear hw3 bR bR2
  have r0 : w3.cell? ⟨w.heap.size, 0, none⟩ = some (.string { data := #[] }) := bR3.cell 0
  have r1 : w3.cell? ⟨w.heap.size, 1, none⟩ = some (.string { data := #[] }) := bR3.cell 1
  have r2 : w3.cell? ⟨w.heap.size, 2, none⟩ = some (.slice none 0 0) := bR3.cell 2
  have r3 : w3.cell? ⟨w.heap.size, 3, none⟩ = some (.slice none 0 0) := bR3.cell 3
  have r4 : w3.cell? ⟨w.heap.size, 4, none⟩ = some (.int .i64 0) := bR3.cell 4
  have r5 : w3.cell? ⟨w.heap.size, 5, none⟩ = some (.bool false) := bR3.cell 5
  have rf := fun i => bR3.frozen i
  by_cases hl3 : ps.length = 3
  · obtain ⟨a, b, c, rfl⟩ : ∃ a b c, ps = [a, b, c] := by
      match ps, hl3 with
      | [a, b, c], _ => exact ⟨a, b, c, rfl⟩
    obtain ⟨cv, hcv⟩ : ∃ cv : ByteArray, cv = ⟨c.toArray⟩ := ⟨_, rfl⟩
    have p0 : w3.cell? ⟨w2.heap.size, 0, none⟩ = some (str a) := by
      obtain ⟨b', off, e, -, hc⟩ := hrow.2 (by simp)
      cases e
      exact hc 0 _ rfl
    have p1 : w3.cell? ⟨w2.heap.size, 1, none⟩ = some (str b) := by
      obtain ⟨b', off, e, -, hc⟩ := hrow.2 (by simp)
      cases e
      exact hc 1 _ rfl
    have p2 : w3.cell? ⟨w2.heap.size, 2, none⟩ = some (.string cv) := by
      obtain ⟨b', off, e, -, hc⟩ := hrow.2 (by simp)
      cases e
      rw [hcv]
      exact hc 2 _ rfl
    have hthree := firstP_three hps
    have hcl' : cv.toList = c := by rw [Lib.toList_data, hcv]
    by_cases hc11 : c = http11
    · have hcv2 : cv.toList = [72, 84, 84, 80, 47, 49, 46, 49] := by rw [hcl', hc11]; rfl
      clear hcv hcl'
      have hmet := vMethod ⟨a.toArray⟩ w3 (by rw [str_size]; have := hplen.2 a (by simp); have := Hcl.out; omega)
      rw [str_list] at hmet
      by_cases hm : methodP a = true
      · rw [hm] at hmet
        have hso := Hsome.out a b (by rw [hthree, if_pos ⟨hc11, hm⟩])
        go_wp2_with fail
        refine hmet.mono ?_
        rintro e w4 ⟨rfl, hb4'⟩
        have hb4 := hb3.trans (hb4'.mono hb3.size)
        have hs4 := hb4.size
        have bR4 := bR3.below hb4' bR3.lt
        obtain ⟨X5, hX5⟩ : ∃ X, X = w4.alloc (.cells #[.string { data := #[] }, .string { data := #[] }, .slice none 0 0, .slice none 0 0, .int .i64 0, .bool false] 46) := ⟨_, rfl⟩
        have bH5 : Blk X5 w4.heap.size 46 [.string { data := #[] }, .string { data := #[] }, .slice none 0 0, .slice none 0 0, .int .i64 0, .bool false] := by rw [hX5]; exact Blk.new w4 _ _
        have bR5 := bR4.alloc (.cells #[.string { data := #[] }, .string { data := #[] }, .slice none 0 0, .slice none 0 0, .int .i64 0, .bool false] 46)
        rw [← hX5] at bR5
        have hb5 : Below w.heap.size w X5 := by rw [hX5]; exact hb4.alloc hs4 _
        have hs5 := hb5.size
        have k4 : Below w3.heap.size w3 X5 := by rw [hX5]; exact hb4'.alloc hb4'.size _
        have p1' : (w4.alloc (.cells #[.string { data := #[] }, .string { data := #[] }, .slice none 0 0, .slice none 0 0, .int .i64 0, .bool false] 46)).cell? ⟨w2.heap.size, 1, none⟩ = some (str b) := by
          rw [← hX5, k4.cell (p := ⟨w2.heap.size, 1, none⟩) (by show w2.heap.size < _; omega)]; exact p1
        go_wp2_with fail
        rw [← hX5]
        clear p1'
        obtain ⟨tg, htg⟩ : ∃ tg, tg = targetP b := ⟨_, rfl⟩
        have htar := vTarget b X5 (hL.below hb5) (by have := hplen.2 b (by simp); have := Hcl.out; omega)
        rw [← htg] at htar hso
        obtain ⟨tp, tq, tok⟩ := tg
        simp only at htar hso
        have Htg := Lib.hid htg; clear htg
        refine htar.mono ?_
        rintro e w6 ⟨A, cq, rfl, own6, hb6⟩
        have bH6 := bH5.below hb6 bH5.lt
        have bR6 := bR5.below hb6 bR5.lt
        have hb6' := hb5.trans (hb6.mono hs5)
        have hs6 := hb6'.size
        obtain ⟨H, hH⟩ : ∃ H, H = w4.heap.size := ⟨_, rfl⟩
        rw [← hH] at bH6
        have q0 : w6.cell? ⟨w2.heap.size, 0, none⟩ = some (str a) := by
          rw [hb6.cell (p := ⟨w2.heap.size, 0, none⟩) (by show w2.heap.size < _; have := k4.size; omega), k4.cell (p := ⟨w2.heap.size, 0, none⟩) (by show w2.heap.size < _; omega)]; exact p0
        have hHw : w.heap.size < H := by have := bR4.lt; omega
        have hHX : H < X5.heap.size := by rw [hX5, hH]; simp
        have hH2 : H ≠ w2.heap.size := by have := hb4'.size; omega
        simp only [← hH]
        have HH := Lib.hid hH; clear hH hX5
        have hso2 := hso
        have Hso := Lib.hid hso2; clear hso hso2 htar k4
        have ff := fun i => bH6.frozen i
        have e0 : w6.cell? ⟨H, 0, none⟩ = some (.string { data := #[] }) := bH6.cell 0
        have e1 : w6.cell? ⟨H, 1, none⟩ = some (.string { data := #[] }) := bH6.cell 1
        have e2 : w6.cell? ⟨H, 2, none⟩ = some (.slice none 0 0) := bH6.cell 2
        have e3 : w6.cell? ⟨H, 3, none⟩ = some (.slice none 0 0) := bH6.cell 3
        go_wp2
        obtain ⟨X7, hX7⟩ : ∃ X, X = ((((w6.setCell ⟨H, 0, none⟩ (.string { data := #[] })).setCell ⟨H, 1, none⟩ (str tp)).setCell ⟨H, 2, none⟩ (.slice A tq.length cq)).setCell ⟨H, 3, none⟩ (.slice none 0 0)).setCell ⟨H, 0, none⟩ (str a) := ⟨_, rfl⟩
        have own6' : OwnP w6 w.heap.size (.slice A tq.length cq) tq := own_mono own6 hs5
        have hI7 : RdI w H a tp tq A cq 0 false X7 := by
          have bu : But [H] w6 X7 := by
            rw [hX7]
            exact (((((But.refl _ w6).setCell (p := ⟨H, 0, none⟩) (by simp) _).setCell (p := ⟨H, 1, none⟩) (by simp) _).setCell (p := ⟨H, 2, none⟩) (by simp) _).setCell (p := ⟨H, 3, none⟩) (by simp) _).setCell (p := ⟨H, 0, none⟩) (by simp) _
          refine ⟨?_, own_but own6' bu (fun g hg hm => ?_), bR6.but bu (by simp; omega), hb6'.trans (bu.below hs6 (by simp; omega))⟩
          · rw [hX7]; exact ((((bH6.set_ 0 _).set_ 1 _).set_ 2 _).set_ 3 _).set_ 0 _
          · simp only [List.mem_singleton] at hm
            subst hm
            exact own_blk own6' bH6 (by decide) (by rw [hg]; simp)
        rw [show (Value.string { data := a.toArray }) = str a from rfl, show (Value.string { data := tp.toArray }) = str tp from rfl, ← hX7]
        clear hX7
        obtain ⟨ANS, hANS⟩ : ∃ ANS, linesP (re.length + 1) ⟨tok, 0, 0, 0, false⟩ re = ANS := ⟨_, rfl⟩
        have hso3 := Hso.out
        rw [hANS] at hso3
        have HS3 := Lib.hid hso3; clear hso3 Hso
        have HAN := Lib.hid hANS; clear hANS
        go_loopw [5, 9, 10, 11] (fun rv ov hv lv wr => ∃ (f : Nat) (st : LineP) (rest : Bs), rv = str rest ∧ ov = .bool st.ok ∧ hv = .int .i64 st.hosts ∧ lv = .int .i64 st.lengths ∧ Hid (linesP f st rest = ANS) ∧ rest.length < f ∧ st.hosts + rest.length ≤ 5000 ∧ st.lengths + rest.length ≤ 5000 ∧ st.length ≤ 1099511627776 ∧ RdI w H a tp tq A cq st.length st.chunked wr) (fun rv _ _ _ _ => strLen rv)
        case atStart => exact ⟨re.length + 1, ⟨tok, 0, 0, 0, false⟩, re, rfl, rfl, rfl, rfl, HAN, by omega, by have := Hcl.out; simp; omega, by have := Hcl.out; simp; omega, by simp, hI7⟩
        case round =>
          obtain ⟨f, st, rest, rfl, rfl, rfl, rfl, hans, hf, hh1, hh2, hlen, hI⟩ := hrel
          obtain ⟨wo, rfl⟩ : ∃ wo : World, wo = wr := ⟨_, rfl⟩
          obtain ⟨f, rfl⟩ : ∃ f', f = f' + 1 := ⟨f - 1, by omega⟩
          clear r0 r1 r2 r3 r4 r5 rf p0 p1 p2
          by_cases hok0 : st.ok = true
          · by_cases hre0 : rest = []
            · have hstop : ¬ (st.ok = true ∧ rest ≠ []) := fun h => h.2 hre0
              have h0 : wo.cell? ⟨H, 0, none⟩ = some (str a) := hI.blk.cell 0
              have h1 : wo.cell? ⟨H, 1, none⟩ = some (str tp) := hI.blk.cell 1
              have h2 : wo.cell? ⟨H, 2, none⟩ = some (.slice A tq.length cq) := hI.blk.cell 2
              have h3 : wo.cell? ⟨H, 3, none⟩ = some (.slice none 0 0) := hI.blk.cell 3
              have h4 : wo.cell? ⟨H, 4, none⟩ = some (.int .i64 st.length) := hI.blk.cell 4
              have h5 : wo.cell? ⟨H, 5, none⟩ = some (.bool st.chunked) := hI.blk.cell 5
              have r0 : wo.cell? ⟨w.heap.size, 0, none⟩ = some (.string { data := #[] }) := hI.res.cell 0
              have r1 : wo.cell? ⟨w.heap.size, 1, none⟩ = some (.string { data := #[] }) := hI.res.cell 1
              have r2 : wo.cell? ⟨w.heap.size, 2, none⟩ = some (.slice none 0 0) := hI.res.cell 2
              have r3 : wo.cell? ⟨w.heap.size, 3, none⟩ = some (.slice none 0 0) := hI.res.cell 3
              have r4 : wo.cell? ⟨w.heap.size, 4, none⟩ = some (.int .i64 0) := hI.res.cell 4
              have r5 : wo.cell? ⟨w.heap.size, 5, none⟩ = some (.bool false) := hI.res.cell 5
              have rf := fun i => hI.res.frozen i
              have hHD := Lib.hid ((HS3.out.trans (by rw [← hans.out, lines_end f hstop])) : HD = ⟨a, tp, tq, st.length, st.chunked, st.ok && decide (st.hosts = 1) && decide (st.lengths ≤ 1)⟩)
              have hsr : str rest = .string { data := #[] } := by rw [hre0]
              rw [hsr, hok0]
              clear hre0 hsr
              by_cases k1 : st.hosts = 1
              · have k1z : ((st.hosts : Nat) : Int) = 1 := by omega
                by_cases k2 : st.lengths ≤ 1
                · have k2z : ((st.lengths : Nat) : Int) ≤ 1 := by omega
                  have hok : HD.ok = true := by rw [hHD.out]; simp [hok0, k1, k2]
                  have K1 := Lib.hid k1; clear k1
                  go_wp2
                  obtain ⟨W9, hW9⟩ : ∃ W9, W9 = (((((wo.setCell ⟨w.heap.size, 0, none⟩ (str a)).setCell ⟨w.heap.size, 1, none⟩ (str tp)).setCell ⟨w.heap.size, 2, none⟩ (.slice A tq.length cq)).setCell ⟨w.heap.size, 3, none⟩ (.slice none 0 0)).setCell ⟨w.heap.size, 4, none⟩ (.int .i64 st.length)).setCell ⟨w.heap.size, 5, none⟩ (.bool st.chunked) := ⟨_, rfl⟩
                  rw [show (Value.string { data := a.toArray }) = str a from rfl, show (Value.string { data := tp.toArray }) = str tp from rfl, ← hW9]
                  have bR9 : Blk W9 w.heap.size 46 [str a, str tp, .slice A tq.length cq, .slice none 0 0, .int .i64 st.length, .bool st.chunked] := by rw [hW9]; exact (((((hI.res.set_ 0 _).set_ 1 _).set_ 2 _).set_ 3 _).set_ 4 _).set_ 5 _
                  have bu9 : But [w.heap.size] wo W9 := by rw [hW9]; exact ((((((But.refl _ wo).setCell (p := ⟨w.heap.size, 0, none⟩) (by simp) _).setCell (p := ⟨w.heap.size, 1, none⟩) (by simp) _).setCell (p := ⟨w.heap.size, 2, none⟩) (by simp) _).setCell (p := ⟨w.heap.size, 3, none⟩) (by simp) _).setCell (p := ⟨w.heap.size, 4, none⟩) (by simp) _).setCell (p := ⟨w.heap.size, 5, none⟩) (by simp) _
                  have own9 := own_but hI.own bu9 (fun g hg hm => by simp only [List.mem_singleton] at hm; subst hm; exact own_blk hI.own hI.res (by decide) (by rw [hg]; simp))
                  have hb9 := hI.bel.trans (bu9.below hI.bel.size (by simp))
                  clear hW9
                  refine bodyPost_ret (res_read (ok := .bool true) bR9 _ rfl rfl) rfl ⟨headV a tp (.slice A tq.length cq) (.slice none 0 0) st.length st.chunked, by first | rfl | (rw [hok]; rfl), ⟨a, tp, A, tq.length, cq, st.length, st.chunked, rfl, fun _ => by rw [hHD.out]; exact ⟨rfl, rfl, rfl, rfl, rfl, own9, hlen⟩⟩, hb9⟩
                · have k2z : ¬ ((st.lengths : Nat) : Int) ≤ 1 := by omega
                  have hok : HD.ok = false := by rw [hHD.out]; simp [k2]
                  have K1 := Lib.hid k1; clear k1
                  go_wp2
                  obtain ⟨W9, hW9⟩ : ∃ W9, W9 = (((((wo.setCell ⟨w.heap.size, 0, none⟩ (str a)).setCell ⟨w.heap.size, 1, none⟩ (str tp)).setCell ⟨w.heap.size, 2, none⟩ (.slice A tq.length cq)).setCell ⟨w.heap.size, 3, none⟩ (.slice none 0 0)).setCell ⟨w.heap.size, 4, none⟩ (.int .i64 st.length)).setCell ⟨w.heap.size, 5, none⟩ (.bool st.chunked) := ⟨_, rfl⟩
                  rw [show (Value.string { data := a.toArray }) = str a from rfl, show (Value.string { data := tp.toArray }) = str tp from rfl, ← hW9]
                  have bR9 : Blk W9 w.heap.size 46 [str a, str tp, .slice A tq.length cq, .slice none 0 0, .int .i64 st.length, .bool st.chunked] := by rw [hW9]; exact (((((hI.res.set_ 0 _).set_ 1 _).set_ 2 _).set_ 3 _).set_ 4 _).set_ 5 _
                  have bu9 : But [w.heap.size] wo W9 := by rw [hW9]; exact ((((((But.refl _ wo).setCell (p := ⟨w.heap.size, 0, none⟩) (by simp) _).setCell (p := ⟨w.heap.size, 1, none⟩) (by simp) _).setCell (p := ⟨w.heap.size, 2, none⟩) (by simp) _).setCell (p := ⟨w.heap.size, 3, none⟩) (by simp) _).setCell (p := ⟨w.heap.size, 4, none⟩) (by simp) _).setCell (p := ⟨w.heap.size, 5, none⟩) (by simp) _
                  have own9 := own_but hI.own bu9 (fun g hg hm => by simp only [List.mem_singleton] at hm; subst hm; exact own_blk hI.own hI.res (by decide) (by rw [hg]; simp))
                  have hb9 := hI.bel.trans (bu9.below hI.bel.size (by simp))
                  clear hW9
                  refine bodyPost_ret (res_read (ok := .bool false) bR9 _ rfl rfl) rfl ⟨headV a tp (.slice A tq.length cq) (.slice none 0 0) st.length st.chunked, by first | rfl | (rw [hok]; rfl), readIs_no hok, hb9⟩
              · have k1z : ¬ ((st.hosts : Nat) : Int) = 1 := by omega
                have hok : HD.ok = false := by rw [hHD.out]; simp [k1]
                go_wp2
                obtain ⟨W9, hW9⟩ : ∃ W9, W9 = (((((wo.setCell ⟨w.heap.size, 0, none⟩ (str a)).setCell ⟨w.heap.size, 1, none⟩ (str tp)).setCell ⟨w.heap.size, 2, none⟩ (.slice A tq.length cq)).setCell ⟨w.heap.size, 3, none⟩ (.slice none 0 0)).setCell ⟨w.heap.size, 4, none⟩ (.int .i64 st.length)).setCell ⟨w.heap.size, 5, none⟩ (.bool st.chunked) := ⟨_, rfl⟩
                rw [show (Value.string { data := a.toArray }) = str a from rfl, show (Value.string { data := tp.toArray }) = str tp from rfl, ← hW9]
                have bR9 : Blk W9 w.heap.size 46 [str a, str tp, .slice A tq.length cq, .slice none 0 0, .int .i64 st.length, .bool st.chunked] := by rw [hW9]; exact (((((hI.res.set_ 0 _).set_ 1 _).set_ 2 _).set_ 3 _).set_ 4 _).set_ 5 _
                have bu9 : But [w.heap.size] wo W9 := by rw [hW9]; exact ((((((But.refl _ wo).setCell (p := ⟨w.heap.size, 0, none⟩) (by simp) _).setCell (p := ⟨w.heap.size, 1, none⟩) (by simp) _).setCell (p := ⟨w.heap.size, 2, none⟩) (by simp) _).setCell (p := ⟨w.heap.size, 3, none⟩) (by simp) _).setCell (p := ⟨w.heap.size, 4, none⟩) (by simp) _).setCell (p := ⟨w.heap.size, 5, none⟩) (by simp) _
                have own9 := own_but hI.own bu9 (fun g hg hm => by simp only [List.mem_singleton] at hm; subst hm; exact own_blk hI.own hI.res (by decide) (by rw [hg]; simp))
                have hb9 := hI.bel.trans (bu9.below hI.bel.size (by simp))
                clear hW9
                refine bodyPost_ret (res_read (ok := .bool false) bR9 _ rfl rfl) rfl ⟨headV a tp (.slice A tq.length cq) (.slice none 0 0) st.length st.chunked, by first | rfl | (rw [hok]; rfl), readIs_no hok, hb9⟩
            · obtain ⟨sv, hsv⟩ : ∃ sv : ByteArray, sv = ⟨rest.toArray⟩ := ⟨_, rfl⟩
              have hne : sv.toList.isEmpty = false := by
                rw [Lib.toList_data, hsv]
                cases rest with
                | nil => exact absurd rfl hre0
                | cons _ _ => rfl
              have hsz : strLen (.string sv) = rest.length := by rw [hsv]; exact str_size rest
              have hc1 := cCut rest crlf wo (hL.below hI.bel) (by omega)
              have hsr : str rest = .string sv := by rw [hsv]
              have hshort := cut_short rest crlf (by simp [crlf]) hre0
              have hcl1 := cut_len rest crlf
              have hstep := lines_step f ⟨hok0, hre0⟩
              rw [hans.out] at hstep
              obtain ⟨ln, hln⟩ : ∃ ln, (Lib.cut rest crlf).1 = ln := ⟨_, rfl⟩
              obtain ⟨rs, hrs⟩ : ∃ rs, (Lib.cut rest crlf).2.1 = rs := ⟨_, rfl⟩
              rw [hln, hrs] at hstep
              rw [hln, hrs, hsr] at hc1
              rw [hrs] at hshort
              rw [hln] at hcl1
              have hlnl := hcl1.1
              have hlp := lineP_eq st ln
              have hcl3 := cut_len ln [58]
              obtain ⟨na, hna⟩ : ∃ na, (Lib.cut ln [58]).1 = na := ⟨_, rfl⟩
              obtain ⟨va, hva⟩ : ∃ va, (Lib.cut ln [58]).2.1 = va := ⟨_, rfl⟩
              obtain ⟨fd, hfd⟩ : ∃ fd, (Lib.cut ln [58]).2.2 = fd := ⟨_, rfl⟩
              have hc2 := fun W (h : Lt W) => cCut ln [58] W h (by omega)
              rw [hna, hva, hfd] at hlp
              rw [hna, hva] at hcl3
              rw [hna, hva, hfd] at hc2
              obtain ⟨tv, htv⟩ : ∃ tv, Lib.trimS va [32, 9] = tv := ⟨_, rfl⟩
              have htl := trimS_len va [32, 9]
              have hc3 := fun W => cTrim va W (by omega)
              rw [htv] at hlp htl
              rw [htv] at hc3
              obtain ⟨ok1, hok1⟩ : ∃ ok1, ok1 = (fd && tokenP na && cleanP tv) := ⟨_, rfl⟩
              rw [← hok1] at hlp
              have Hok1 := Lib.hid hok1; clear hok1
              have Hlp := Lib.hid hlp; clear hlp
              have Hstep := Lib.hid hstep; clear hstep
              have Hc2 := Lib.hid hc2; clear hc2
              have Hc3 := Lib.hid hc3; clear hc3
              have Hsz := Lib.hid hsz; clear hsz
              rw [hsr, hok0]
              clear hna hva hfd htv hln hrs hsv hsr hre0 hok0 hcl1
              go_wp2_with fail
              refine (show Calls Tryd.prog 25 #[.string sv, .string { data := #[13, 10] }] wo _ from hc1).mono ?_
              rintro e W1 ⟨rfl, hb1'⟩
              have hI1 := hI.below hb1'
              clear hc1
              go_wp2_with fail
              refine (Hc2.out W1 (hL.below hI1.bel)).mono ?_
              rintro e W2 ⟨rfl, hb2'⟩
              have hI2 := hI1.below hb2'
              go_wp2_with fail
              refine (Hc3.out W2).mono ?_
              rintro e W3 ⟨rfl, hb3'⟩
              have hI3 := hI2.below hb3'
              clear hI hI1 hI2 hb1' hb2' hb3'
              go_upto_region 15 with fail
              go_cut [9] (fun s9 wx => s9 = .bool ok1 ∧ RdI w H a tp tq A cq st.length st.chunked wx)
              case first =>
                have htok := vToken na W3 (hL.below hI3.bel) (by omega)
                cases fd with
                | false =>
                  have ho : ok1 = false := Hok1.out
                  go_wp2_with fail
                  go_meet
                  exact ⟨by rw [ho], hI3⟩
                | true =>
                  obtain ⟨tk, htk⟩ : ∃ tk, tokenP na = tk := ⟨_, rfl⟩
                  rw [htk] at htok
                  have Htk := Lib.hid htk; clear htk
                  go_wp2_with fail
                  refine htok.mono ?_
                  rintro e W4 ⟨rfl, hb4'⟩
                  have hI4 := hI3.below hb4'
                  cases tk with
                  | false =>
                    have ho : ok1 = false := by rw [Hok1.out, Htk.out]; rfl
                    go_wp2_with fail
                    go_meet
                    exact ⟨by rw [ho], hI4⟩
                  | true =>
                    have ho : ok1 = cleanP tv := by rw [Hok1.out, Htk.out]; rfl
                    have Ho := Lib.hid ho; clear ho
                    go_wp2_with fail
                    refine (vClean ⟨tv.toArray⟩ W4 (by rw [str_size]; omega)).mono ?_
                    rintro e W5 ⟨rfl, hb5'⟩
                    rw [str_list]
                    have hI5 := hI4.below hb5'
                    go_wp2_with fail
                    go_meet
                    exact ⟨by rw [Ho.out], hI5⟩
              case rest =>
                obtain ⟨rfl, hI4⟩ := hcut
                have hlow := cLower na wc (hL.below hI4.bel) (by omega)
                obtain ⟨lo, hlo⟩ : ∃ lo, lowP na = lo := ⟨_, rfl⟩
                have hlp := Hlp.out
                rw [hlo] at hlow hlp
                obtain ⟨lv, hlv⟩ : ∃ lv : ByteArray, lv = ⟨lo.toArray⟩ := ⟨_, rfl⟩
                have hlt : lv.toList = lo := by rw [Lib.toList_data, hlv]
                have hls : str lo = .string lv := by rw [hlv]
                rw [hls] at hlow
                have wh : IntKind.i64.wrap ((st.hosts : Int) + 1) = ((st.hosts + 1 : Nat) : Int) := by rw [IntKind.wrap_i64]; omega
                have wl : IntKind.i64.wrap ((st.lengths : Int) + 1) = ((st.lengths + 1 : Nat) : Int) := by rw [IntKind.wrap_i64]; omega
                have fin : ∀ st' : LineP, lineP st ln = st' → Hid (linesP f st' rs = ANS) := fun st' h => Lib.hid (by rw [← h]; exact Hstep.out.symm)
                have meas : strLen (str rs) < strLen (.string sv) := by rw [Hsz.out]; show (⟨rs.toArray⟩ : ByteArray).size < _; rw [str_size]; exact hshort
                have Meas := Lib.hid meas; clear meas
                have Fin := Lib.hid fin; clear fin
                clear hlv hls Hlp Hsz Hstep hlo hne
                go_wp2_with fail
                refine hlow.mono ?_
                rintro e W6 ⟨rfl, hb6'⟩
                have hI6 := hI4.below hb6'
                clear hlow hI4
                by_cases c1 : lo = hostS
                · have l1 : lv.toList = [104, 111, 115, 116] := by rw [hlt, c1]; rfl
                  rw [if_pos c1] at hlp
                  have hl2 := Lib.hid hlp; clear hlp c1 hlt
                  go_wp2
                  exact ⟨⟨f, { st with ok := ok1, hosts := st.hosts + 1 }, rs, by first | rfl | simp, by first | rfl | simp, by first | rfl | simp, by first | rfl | simp, Fin.out _ hl2.out, by omega, by simp; omega, by simp; omega, by first | exact hlen | (simp; exact hlen) | exact hdl, hI6⟩, Meas.out⟩
                · have l1 : ¬ lv.toList = [104, 111, 115, 116] := fun e => c1 (by rw [← hlt, e]; rfl)
                  have l1b : (lv.toList == [104, 111, 115, 116]) = false := beq_eq_false_iff_ne.2 l1
                  rw [if_neg c1] at hlp
                  by_cases c2 : lo = lengthS
                  · have l2 : lv.toList = [99, 111, 110, 116, 101, 110, 116, 45, 108, 101, 110, 103, 116, 104] := by rw [hlt, c2]; rfl
                    rw [if_pos c2] at hlp
                    have hl2 := Lib.hid hlp; clear hlp c1 c2 hlt
                    have hdig := vDigits ⟨tv.toArray⟩ ok1 W6 (by rw [str_size]; omega)
                    rw [str_list] at hdig
                    have hdl := digN_le tv 0 (by omega)
                    obtain ⟨dn, hdn⟩ : ∃ dn, digN tv 0 = dn := ⟨_, rfl⟩
                    obtain ⟨dk, hdk⟩ : ∃ dk, (digitsP tv ok1).2 = dk := ⟨_, rfl⟩
                    rw [hdn, hdk] at hdig
                    rw [hdn] at hdl
                    have hl3 := hl2.out
                    rw [hdn, hdk] at hl3
                    have hl2 := Lib.hid hl3; clear hl3 hdn hdk
                    go_wp2_with fail
                    refine hdig.mono ?_
                    rintro e W7 ⟨rfl, hb7'⟩
                    have hI7' := hI6.below hb7'
                    have h4 : W7.cell? ⟨H, 4, none⟩ = some (.int .i64 st.length) := hI7'.blk.cell 4
                    have f4 := hI7'.blk.frozen 4
                    clear hdig
                    go_wp2
                    exact ⟨⟨f, { st with ok := dk, lengths := st.lengths + 1, length := dn }, rs, by first | rfl | simp, by first | rfl | simp, by first | rfl | simp, by first | rfl | simp, Fin.out _ hl2.out, by omega, by simp; omega, by simp; omega, by first | exact hlen | (simp; exact hlen) | exact hdl, hI7'.set_ hHw 4 dn st.chunked _ rfl⟩, Meas.out⟩
                  · have l2 : ¬ lv.toList = [99, 111, 110, 116, 101, 110, 116, 45, 108, 101, 110, 103, 116, 104] := fun e => c2 (by rw [← hlt, e]; rfl)
                    have l2b : (lv.toList == [99, 111, 110, 116, 101, 110, 116, 45, 108, 101, 110, 103, 116, 104]) = false := beq_eq_false_iff_ne.2 l2
                    rw [if_neg c2] at hlp
                    by_cases c3 : lo = teS
                    · have l3 : lv.toList = [116, 114, 97, 110, 115, 102, 101, 114, 45, 101, 110, 99, 111, 100, 105, 110, 103] := by rw [hlt, c3]; rfl
                      rw [if_pos c3] at hlp
                      have h5 : W6.cell? ⟨H, 5, none⟩ = some (.bool st.chunked) := hI6.blk.cell 5
                      have f5 := hI6.blk.frozen 5
                      have hI7' := hI6.set_ hHw 5 st.length true (.bool true) rfl
                      cases ok1 with
                      | false =>
                        have hl2 := Lib.hid hlp; clear hlp c1 c2 c3 hlt
                        go_wp2
                        exact ⟨⟨f, { st with ok := false, lengths := st.lengths + 1, chunked := true }, rs, by first | rfl | simp, by first | rfl | simp, by first | rfl | simp, by first | rfl | simp, Fin.out _ hl2.out, by omega, by simp; omega, by simp; omega, by first | exact hlen | (simp; exact hlen) | exact hdl, hI7'⟩, Meas.out⟩
                      | true =>
                        obtain ⟨X8, hX8⟩ : ∃ X, X = W6.setCell ⟨H, 5, none⟩ (.bool true) := ⟨_, rfl⟩
                        have hlow2 := cLower tv X8 (by rw [hX8]; exact hL.below hI7'.bel) (by omega)
                        rw [← hX8] at hI7'
                        obtain ⟨lo2, hlo2⟩ : ∃ lo2, lowP tv = lo2 := ⟨_, rfl⟩
                        rw [hlo2] at hlow2 hlp
                        obtain ⟨lv2, hlv2⟩ : ∃ lv2 : ByteArray, lv2 = ⟨lo2.toArray⟩ := ⟨_, rfl⟩
                        have hlt2 : lv2.toList = lo2 := by rw [Lib.toList_data, hlv2]
                        have hls2 : str lo2 = .string lv2 := by rw [hlv2]
                        rw [hls2, hX8] at hlow2
                        clear hlv2 hls2
                        go_wp2_with fail
                        refine hlow2.mono ?_
                        rw [← hX8]
                        clear hX8
                        rintro e W9 ⟨rfl, hb9'⟩
                        have hI9 := hI7'.below hb9'
                        by_cases c4 : lo2 = chunkedS
                        · have l4 : lv2.toList = [99, 104, 117, 110, 107, 101, 100] := by rw [hlt2, c4]; rfl
                          have hl2 := Lib.hid hlp; clear hlp
                          have hl3 : lineP st ln = { st with ok := true, lengths := st.lengths + 1, chunked := true } := by rw [hl2.out, c4]; rfl
                          have hl2 := Lib.hid hl3; clear hl3 c1 c2 c3 c4 hlt hlt2
                          go_wp2
                          exact ⟨⟨f, { st with ok := true, lengths := st.lengths + 1, chunked := true }, rs, by first | rfl | simp, by first | rfl | simp, by first | rfl | simp, by first | rfl | simp, Fin.out _ hl2.out, by omega, by simp; omega, by simp; omega, by first | exact hlen | (simp; exact hlen) | exact hdl, hI9⟩, Meas.out⟩
                        · have l4 : ¬ lv2.toList = [99, 104, 117, 110, 107, 101, 100] := fun e => c4 (by rw [← hlt2, e]; rfl)
                          have l4b : (lv2.toList == [99, 104, 117, 110, 107, 101, 100]) = false := beq_eq_false_iff_ne.2 l4
                          have hl3 : lineP st ln = { st with ok := false, lengths := st.lengths + 1, chunked := true } := by rw [hlp, beq_eq_false_iff_ne.2 c4]; rfl
                          have hl2 := Lib.hid hl3; clear hl3 hlp c1 c2 c3 c4 hlt hlt2
                          go_wp2
                          exact ⟨⟨f, { st with ok := false, lengths := st.lengths + 1, chunked := true }, rs, by first | rfl | simp, by first | rfl | simp, by first | rfl | simp, by first | rfl | simp, Fin.out _ hl2.out, by omega, by simp; omega, by simp; omega, by first | exact hlen | (simp; exact hlen) | exact hdl, hI9⟩, Meas.out⟩
                    · have l3 : ¬ lv.toList = [116, 114, 97, 110, 115, 102, 101, 114, 45, 101, 110, 99, 111, 100, 105, 110, 103] := fun e => c3 (by rw [← hlt, e]; rfl)
                      have l3b : (lv.toList == [116, 114, 97, 110, 115, 102, 101, 114, 45, 101, 110, 99, 111, 100, 105, 110, 103]) = false := beq_eq_false_iff_ne.2 l3
                      rw [if_neg c3] at hlp
                      have hl2 := Lib.hid hlp; clear hlp c1 c2 c3 hlt
                      go_wp2
                      exact ⟨⟨f, { st with ok := ok1 }, rs, by first | rfl | simp, by first | rfl | simp, by first | rfl | simp, by first | rfl | simp, Fin.out _ hl2.out, by omega, by simp; omega, by simp; omega, by first | exact hlen | (simp; exact hlen) | exact hdl, hI6⟩, Meas.out⟩
          · have hstop : ¬ (st.ok = true ∧ rest ≠ []) := fun h => hok0 h.1
            have h0 : wo.cell? ⟨H, 0, none⟩ = some (str a) := hI.blk.cell 0
            have h1 : wo.cell? ⟨H, 1, none⟩ = some (str tp) := hI.blk.cell 1
            have h2 : wo.cell? ⟨H, 2, none⟩ = some (.slice A tq.length cq) := hI.blk.cell 2
            have h3 : wo.cell? ⟨H, 3, none⟩ = some (.slice none 0 0) := hI.blk.cell 3
            have h4 : wo.cell? ⟨H, 4, none⟩ = some (.int .i64 st.length) := hI.blk.cell 4
            have h5 : wo.cell? ⟨H, 5, none⟩ = some (.bool st.chunked) := hI.blk.cell 5
            have r0 : wo.cell? ⟨w.heap.size, 0, none⟩ = some (.string { data := #[] }) := hI.res.cell 0
            have r1 : wo.cell? ⟨w.heap.size, 1, none⟩ = some (.string { data := #[] }) := hI.res.cell 1
            have r2 : wo.cell? ⟨w.heap.size, 2, none⟩ = some (.slice none 0 0) := hI.res.cell 2
            have r3 : wo.cell? ⟨w.heap.size, 3, none⟩ = some (.slice none 0 0) := hI.res.cell 3
            have r4 : wo.cell? ⟨w.heap.size, 4, none⟩ = some (.int .i64 0) := hI.res.cell 4
            have r5 : wo.cell? ⟨w.heap.size, 5, none⟩ = some (.bool false) := hI.res.cell 5
            have rf := fun i => hI.res.frozen i
            have hHD := Lib.hid ((HS3.out.trans (by rw [← hans.out, lines_end f hstop])) : HD = ⟨a, tp, tq, st.length, st.chunked, st.ok && decide (st.hosts = 1) && decide (st.lengths ≤ 1)⟩)
            have hokf : st.ok = false := by simpa using hok0
            have hok : HD.ok = false := by rw [hHD.out]; simp [hokf]
            rw [hokf]
            have Hokf := Lib.hid hokf; clear hokf hok0
            go_wp2
            obtain ⟨W9, hW9⟩ : ∃ W9, W9 = (((((wo.setCell ⟨w.heap.size, 0, none⟩ (str a)).setCell ⟨w.heap.size, 1, none⟩ (str tp)).setCell ⟨w.heap.size, 2, none⟩ (.slice A tq.length cq)).setCell ⟨w.heap.size, 3, none⟩ (.slice none 0 0)).setCell ⟨w.heap.size, 4, none⟩ (.int .i64 st.length)).setCell ⟨w.heap.size, 5, none⟩ (.bool st.chunked) := ⟨_, rfl⟩
            rw [show (Value.string { data := a.toArray }) = str a from rfl, show (Value.string { data := tp.toArray }) = str tp from rfl, ← hW9]
            have bR9 : Blk W9 w.heap.size 46 [str a, str tp, .slice A tq.length cq, .slice none 0 0, .int .i64 st.length, .bool st.chunked] := by rw [hW9]; exact (((((hI.res.set_ 0 _).set_ 1 _).set_ 2 _).set_ 3 _).set_ 4 _).set_ 5 _
            have bu9 : But [w.heap.size] wo W9 := by rw [hW9]; exact ((((((But.refl _ wo).setCell (p := ⟨w.heap.size, 0, none⟩) (by simp) _).setCell (p := ⟨w.heap.size, 1, none⟩) (by simp) _).setCell (p := ⟨w.heap.size, 2, none⟩) (by simp) _).setCell (p := ⟨w.heap.size, 3, none⟩) (by simp) _).setCell (p := ⟨w.heap.size, 4, none⟩) (by simp) _).setCell (p := ⟨w.heap.size, 5, none⟩) (by simp) _
            have own9 := own_but hI.own bu9 (fun g hg hm => by simp only [List.mem_singleton] at hm; subst hm; exact own_blk hI.own hI.res (by decide) (by rw [hg]; simp))
            have hb9 := hI.bel.trans (bu9.below hI.bel.size (by simp))
            clear hW9
            refine bodyPost_ret (res_read (ok := .bool false) bR9 _ rfl rfl) rfl ⟨headV a tp (.slice A tq.length cq) (.slice none 0 0) st.length st.chunked, by first | rfl | (rw [hok]; rfl), readIs_no hok, hb9⟩
      · have hmf : methodP a = false := by simpa using hm
        rw [hmf] at hmet
        have hno := Hnone.out (by rw [hthree, if_neg (fun h => hm h.2)])
        go_wp2_with fail
        refine hmet.mono ?_
        rintro e w4 ⟨rfl, hb4'⟩
        have hb4 := hb3.trans (hb4'.mono hb3.size)
        have bR4 := bR3.below hb4' bR3.lt
        have r0 : w4.cell? ⟨w.heap.size, 0, none⟩ = some (.string { data := #[] }) := bR4.cell 0
        have r1 : w4.cell? ⟨w.heap.size, 1, none⟩ = some (.string { data := #[] }) := bR4.cell 1
        have r2 : w4.cell? ⟨w.heap.size, 2, none⟩ = some (.slice none 0 0) := bR4.cell 2
        have r3 : w4.cell? ⟨w.heap.size, 3, none⟩ = some (.slice none 0 0) := bR4.cell 3
        have r4 : w4.cell? ⟨w.heap.size, 4, none⟩ = some (.int .i64 0) := bR4.cell 4
        have r5 : w4.cell? ⟨w.heap.size, 5, none⟩ = some (.bool false) := bR4.cell 5
        have rf4 := fun i => bR4.frozen i
        go_wp2
        obtain ⟨W4, hW4⟩ : ∃ W4, W4 = (((((w4.setCell ⟨w.heap.size, 0, none⟩ (.string { data := #[] })).setCell ⟨w.heap.size, 1, none⟩ (.string { data := #[] })).setCell ⟨w.heap.size, 2, none⟩ (.slice none 0 0)).setCell ⟨w.heap.size, 3, none⟩ (.slice none 0 0)).setCell ⟨w.heap.size, 4, none⟩ (.int .i64 0)).setCell ⟨w.heap.size, 5, none⟩ (.bool false) := ⟨_, rfl⟩
        rw [← hW4]
        have bR5 : Blk W4 w.heap.size 46 [.string { data := #[] }, .string { data := #[] }, .slice none 0 0, .slice none 0 0, .int .i64 0, .bool false] := by rw [hW4]; exact (((((bR4.set_ 0 _).set_ 1 _).set_ 2 _).set_ 3 _).set_ 4 _).set_ 5 _
        have hb5 : Below w.heap.size w W4 := by rw [hW4]; exact (((((hb4.setCell (p := ⟨w.heap.size, 0, none⟩) (Nat.le_refl _) _).setCell (p := ⟨w.heap.size, 1, none⟩) (Nat.le_refl _) _).setCell (p := ⟨w.heap.size, 2, none⟩) (Nat.le_refl _) _).setCell (p := ⟨w.heap.size, 3, none⟩) (Nat.le_refl _) _).setCell (p := ⟨w.heap.size, 4, none⟩) (Nat.le_refl _) _).setCell (p := ⟨w.heap.size, 5, none⟩) (Nat.le_refl _) _
        clear hW4
        refine bodyPost_ret (res_read (ok := .bool false) bR5 _ rfl rfl) rfl ⟨headV [] [] (.slice none 0 0) (.slice none 0 0) 0 false, by rw [hno]; rfl, readIs_no hno, hb5⟩
    · have hcv2 : ¬ cv.toList = [72, 84, 84, 80, 47, 49, 46, 49] := fun e => hc11 (by rw [← hcl', e]; rfl)
      have hno := Hnone.out (by rw [hthree, if_neg (fun h => hc11 h.1)])
      clear hcv hcl'
      go_wp2
      obtain ⟨W4, hW4⟩ : ∃ W4, W4 = (((((w3.setCell ⟨w.heap.size, 0, none⟩ (.string { data := #[] })).setCell ⟨w.heap.size, 1, none⟩ (.string { data := #[] })).setCell ⟨w.heap.size, 2, none⟩ (.slice none 0 0)).setCell ⟨w.heap.size, 3, none⟩ (.slice none 0 0)).setCell ⟨w.heap.size, 4, none⟩ (.int .i64 0)).setCell ⟨w.heap.size, 5, none⟩ (.bool false) := ⟨_, rfl⟩
      rw [← hW4]
      have bR4 : Blk W4 w.heap.size 46 [.string { data := #[] }, .string { data := #[] }, .slice none 0 0, .slice none 0 0, .int .i64 0, .bool false] := by rw [hW4]; exact (((((bR3.set_ 0 _).set_ 1 _).set_ 2 _).set_ 3 _).set_ 4 _).set_ 5 _
      have hb4 : Below w.heap.size w W4 := by rw [hW4]; exact (((((hb3.setCell (p := ⟨w.heap.size, 0, none⟩) (Nat.le_refl _) _).setCell (p := ⟨w.heap.size, 1, none⟩) (Nat.le_refl _) _).setCell (p := ⟨w.heap.size, 2, none⟩) (Nat.le_refl _) _).setCell (p := ⟨w.heap.size, 3, none⟩) (Nat.le_refl _) _).setCell (p := ⟨w.heap.size, 4, none⟩) (Nat.le_refl _) _).setCell (p := ⟨w.heap.size, 5, none⟩) (Nat.le_refl _) _
      clear hW4
      refine bodyPost_ret (res_read (ok := .bool false) bR4 _ rfl rfl) rfl ⟨headV [] [] (.slice none 0 0) (.slice none 0 0) 0 false, by rw [hno]; rfl, readIs_no hno, hb4⟩
  · have hz : ¬ (ps.length : Int) = 3 := by omega
    have hno := Hnone.out (firstP_none (by rw [hps]; exact hl3))
    go_wp2
    obtain ⟨W4, hW4⟩ : ∃ W4, W4 = (((((w3.setCell ⟨w.heap.size, 0, none⟩ (.string { data := #[] })).setCell ⟨w.heap.size, 1, none⟩ (.string { data := #[] })).setCell ⟨w.heap.size, 2, none⟩ (.slice none 0 0)).setCell ⟨w.heap.size, 3, none⟩ (.slice none 0 0)).setCell ⟨w.heap.size, 4, none⟩ (.int .i64 0)).setCell ⟨w.heap.size, 5, none⟩ (.bool false) := ⟨_, rfl⟩
    rw [← hW4]
    have bR4 : Blk W4 w.heap.size 46 [.string { data := #[] }, .string { data := #[] }, .slice none 0 0, .slice none 0 0, .int .i64 0, .bool false] := by rw [hW4]; exact (((((bR3.set_ 0 _).set_ 1 _).set_ 2 _).set_ 3 _).set_ 4 _).set_ 5 _
    have hb4 : Below w.heap.size w W4 := by rw [hW4]; exact (((((hb3.setCell (p := ⟨w.heap.size, 0, none⟩) (Nat.le_refl _) _).setCell (p := ⟨w.heap.size, 1, none⟩) (Nat.le_refl _) _).setCell (p := ⟨w.heap.size, 2, none⟩) (Nat.le_refl _) _).setCell (p := ⟨w.heap.size, 3, none⟩) (Nat.le_refl _) _).setCell (p := ⟨w.heap.size, 4, none⟩) (Nat.le_refl _) _).setCell (p := ⟨w.heap.size, 5, none⟩) (Nat.le_refl _) _
    clear hW4
    refine bodyPost_ret (res_read (ok := .bool false) bR4 _ rfl rfl) rfl ⟨headV [] [] (.slice none 0 0) (.slice none 0 0) 0 false, by rw [hno]; rfl, readIs_no hno, hb4⟩
end Go.Proofs.YtcjapjnhejenaaaDoor
