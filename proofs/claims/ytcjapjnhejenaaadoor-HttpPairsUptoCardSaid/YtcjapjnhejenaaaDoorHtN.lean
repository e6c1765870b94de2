import Derived.Test.YtcjapjnhejenaaaDoorHtM
import Derived.Lib.SlBytesConst
/-! http: Parse -/
namespace Go.Proofs.YtcjapjnhejenaaaDoor
open Go.RowKit Go.Shelf Garner

def zeroReq : Value := .agg #[.string { data := #[] }, .string { data := #[] }, .slice none 0 0, .slice none 0 0]
def reqV (q : ReqP) (A : Option Addr) (c : Nat) (v : Value) : Value := .agg #[str q.method, str q.path, .slice A q.query.length c, v]
/-- what Parse answers -/
def ParseIs (w : World) (B : Nat) (rv : Value) (tz x : Nat) : Except Nat (ReqP × Nat) → Prop
  | .error e => e = x ∧ x ≠ 0 ∧ tz = 0 ∧ rv = zeroReq
  | .ok (q, n) => x = 0 ∧ tz = n ∧ ∃ A c v, rv = reqV q A c v ∧ OwnP w B (.slice A q.query.length c) q.query ∧ OwnB w B v q.body
theorem res_parse {w : World} {g : Nat} {m p q b : Value} (h : Blk w g 26 [m, p, q, b]) (tmps : Array Value) {n e : Value} (h2 : tmps.getD 2 undef = .pointer (some ⟨g, 0, none⟩)) (h3 : tmps.getD 3 undef = n) (h4 : tmps.getD 4 undef = e) :
    (results Tryd.f9 tmps).run Tryd.prog w = .ok (.tuple #[.agg #[m, p, q, b], n, e]) w := by
  have c0 := h.cell 0; have c1 := h.cell 1; have c2 := h.cell 2; have c3 := h.cell 3
  have hr : (Tryd.f9).results = #[.cell 2 26, .tmp 3, .tmp 4] := rfl
  have key : (results Tryd.f9 tmps).run Tryd.prog w = ((asAddr (tmps.getD 2 undef)).run Tryd.prog w).andThen fun a w₁ => ((loadVar 26 a).run Tryd.prog w₁).andThen fun v w₂ => .ok (.tuple #[v, tmps.getD 3 undef, tmps.getD 4 undef]) w₂ := by
    simp only [results, hr]
    simp [Sem.run_bind, Result.andThen]
  rw [key, h2, h3, h4]
  simp [go_sem, *]
theorem parseIs_err {w : World} {B x : Nat} {r : Except Nat (ReqP × Nat)} (h : r = .error x) (hx : x ≠ 0) : ParseIs w B zeroReq 0 x r := by
  rw [h]; exact ⟨rfl, hx, rfl, rfl⟩

theorem parseIs_ok {w : World} {B : Nat} {r : Except Nat (ReqP × Nat)} {m p body : Bs} {q : List (Bs × Bs)} {A Av : Option Addr} {c cv to_ : Nat} (h : r = .ok (⟨m, p, q, body⟩, to_)) (h1 : OwnP w B (.slice A q.length c) q) (h2 : OwnB w B (.slice Av body.length cv) body) :
    ParseIs w B (.agg #[str m, str p, .slice A q.length c, .slice Av body.length cv]) to_ 0 r := by
  rw [h]; exact ⟨rfl, rfl, A, c, _, rfl, h1, h2⟩
set_option maxRecDepth 100000 in
set_option maxHeartbeats 8000000 in
theorem vParse (b : Bs) (A : Option Addr) (c B : Nat) (w : World) (hL : Lt w) (hr : Bytes w B A b.length b) (hB : B ≤ w.heap.size) (hc : b.length ≤ c) (hA : A = none → c = 0) (hl : b.length < 4294967281) :
    Calls Tryd.prog 9 #[.slice A b.length c] w fun e w' => ∃ rv tz x, e = .returned (.tuple #[rv, .int .i64 (tz : Nat), .int .i64 (x : Nat)]) ∧ ParseIs w' w.heap.size rv tz x (parseP b) ∧ Below w.heap.size w w' := by
  have kc := fun (u : World) (C : Array Value) (n c : Nat) => Lib.run_convert_bytes_const (P := Tryd.prog) u 22 5 C n c Tryd.underlying22 Tryd.underlying5
  have kc1 := kc (w.alloc (.cells #[.string { data := #[] }, .string { data := #[] }, .slice none 0 0, .slice none 0 0] 26)) #[.int .u8 13, .int .u8 10, .int .u8 13, .int .u8 10] 4 4
  rw [World.size_alloc] at kc1
  clear kc
  obtain ⟨P, hP⟩ : ∃ P, parseP b = P := ⟨_, rfl⟩
  rw [hP]
  have HP := Lib.hid hP; clear hP
  go_enter Tryd.func9, Tryd.ntmps9
  obtain ⟨X1, hX1⟩ : ∃ X, X = (w.alloc (.cells #[.string { data := #[] }, .string { data := #[] }, .slice none 0 0, .slice none 0 0] 26)).alloc (.cells #[.int .u8 13, .int .u8 10, .int .u8 13, .int .u8 10] 5 (4, 5)) := ⟨_, rfl⟩
  have bR1 : Blk X1 w.heap.size 26 [.string { data := #[] }, .string { data := #[] }, .slice none 0 0, .slice none 0 0] := by rw [hX1]; exact (Blk.new w _ _).alloc _
  have hb1 : Below w.heap.size w X1 := by rw [hX1]; exact ((Below.refl _ _).alloc (Nat.le_refl _) _).alloc (by simp) _
  have hsub : Bytes X1 (w.heap.size + 2) (some ⟨w.heap.size + 1, 0, none⟩) crlf2.length crlf2 := by
    refine ⟨rfl, fun _ => ⟨w.heap.size + 1, 0, rfl, by omega, fun j u hu => ?_⟩⟩
    have h1 : X1.heap[w.heap.size + 1]? = some (.cells #[.int .u8 13, .int .u8 10, .int .u8 13, .int .u8 10] 5 (4, 5)) := by
      rw [hX1]
      have := heap_alloc_new (w.alloc (.cells #[.string { data := #[] }, .string { data := #[] }, .slice none 0 0, .slice none 0 0] 26)) (.cells #[.int .u8 13, .int .u8 10, .int .u8 13, .int .u8 10] 5 (4, 5))
      rw [World.size_alloc] at this
      exact this
    have hu' : ([.int .u8 13, .int .u8 10, .int .u8 13, .int .u8 10] : List Value)[j]? = some u := hu
    simp only [World.cell?, h1]
    simpa using hu'
  have hrX := hr.below (hb1.mono hB)
  have hidx := cIndexB b crlf2 A ⟨w.heap.size + 1, 0, none⟩ c 4 B (w.heap.size + 2) X1 (hL.below hb1) hrX hc hA hsub (by decide) (by decide) hl
  have hs1 := hb1.size
  go_wp2_with fail
  rw [← hX1]
  refine (show Calls Tryd.prog 15 #[.slice A b.length c, .slice (some ⟨w.heap.size + 1, 0, none⟩) 4 4] X1 _ from hidx).mono ?_
  rintro e X2 ⟨rfl, hb2'⟩
  have bR2 := bR1.below hb2' bR1.lt
  have hb2 := hb1.trans (hb2'.mono hs1)
  have hs2 := hb2.size
  clear hX1 kc1 hidx hsub hb1 bR1 hb2' hrX hs1
  obtain ⟨ix, hix⟩ : ∃ ix, Lib.index b crlf2 = ix := ⟨_, rfl⟩
  rw [hix]
  have r0 : X2.cell? ⟨w.heap.size, 0, none⟩ = some (.string { data := #[] }) := bR2.cell 0
  have r1 : X2.cell? ⟨w.heap.size, 1, none⟩ = some (.string { data := #[] }) := bR2.cell 1
  have r2 : X2.cell? ⟨w.heap.size, 2, none⟩ = some (.slice none 0 0) := bR2.cell 2
  have r3 : X2.cell? ⟨w.heap.size, 3, none⟩ = some (.slice none 0 0) := bR2.cell 3
  have rf := fun i => bR2.frozen i
  by_cases hneg : ix < 0
  · have hpe : P = .error (if b.length < 2048 then 5 else 61) := by rw [← HP.out]; unfold parseP; rw [hix, if_pos hneg]
    by_cases h2k : b.length < 2048
    · have z1 : (b.length : Int) < 2048 := by omega
      rw [if_pos h2k] at hpe
      have Hpe := Lib.hid hpe; clear hpe hix
      go_wp2
      obtain ⟨Z, hZ⟩ : ∃ Z, Z = (((X2.setCell ⟨w.heap.size, 0, none⟩ (.string { data := #[] })).setCell ⟨w.heap.size, 1, none⟩ (.string { data := #[] })).setCell ⟨w.heap.size, 2, none⟩ (.slice none 0 0)).setCell ⟨w.heap.size, 3, none⟩ (.slice none 0 0) := ⟨_, rfl⟩
      rw [← hZ]
      have bZ : Blk Z w.heap.size 26 [.string { data := #[] }, .string { data := #[] }, .slice none 0 0, .slice none 0 0] := by rw [hZ]; exact (((bR2.set_ 0 _).set_ 1 _).set_ 2 _).set_ 3 _
      have hbZ : Below w.heap.size w Z := by rw [hZ]; exact (((hb2.setCell (p := ⟨w.heap.size, 0, none⟩) (Nat.le_refl _) _).setCell (p := ⟨w.heap.size, 1, none⟩) (Nat.le_refl _) _).setCell (p := ⟨w.heap.size, 2, none⟩) (Nat.le_refl _) _).setCell (p := ⟨w.heap.size, 3, none⟩) (Nat.le_refl _) _
      clear hZ
      exact bodyPost_ret (res_parse (n := .int .i64 (0 : Nat)) (e := .int .i64 (5 : Nat)) bZ _ rfl rfl rfl) rfl ⟨_, _, _, rfl, parseIs_err Hpe.out (by decide), hbZ⟩
    · have z1 : ¬ (b.length : Int) < 2048 := by omega
      rw [if_neg h2k] at hpe
      have Hpe := Lib.hid hpe; clear hpe hix
      go_wp2
      obtain ⟨Z, hZ⟩ : ∃ Z, Z = (((X2.setCell ⟨w.heap.size, 0, none⟩ (.string { data := #[] })).setCell ⟨w.heap.size, 1, none⟩ (.string { data := #[] })).setCell ⟨w.heap.size, 2, none⟩ (.slice none 0 0)).setCell ⟨w.heap.size, 3, none⟩ (.slice none 0 0) := ⟨_, rfl⟩
      rw [← hZ]
      have bZ : Blk Z w.heap.size 26 [.string { data := #[] }, .string { data := #[] }, .slice none 0 0, .slice none 0 0] := by rw [hZ]; exact (((bR2.set_ 0 _).set_ 1 _).set_ 2 _).set_ 3 _
      have hbZ : Below w.heap.size w Z := by rw [hZ]; exact (((hb2.setCell (p := ⟨w.heap.size, 0, none⟩) (Nat.le_refl _) _).setCell (p := ⟨w.heap.size, 1, none⟩) (Nat.le_refl _) _).setCell (p := ⟨w.heap.size, 2, none⟩) (Nat.le_refl _) _).setCell (p := ⟨w.heap.size, 3, none⟩) (Nat.le_refl _) _
      clear hZ
      exact bodyPost_ret (res_parse (n := .int .i64 (0 : Nat)) (e := .int .i64 (61 : Nat)) bZ _ rfl rfl rfl) rfl ⟨_, _, _, rfl, parseIs_err Hpe.out (by decide), hbZ⟩
  · obtain ⟨n, hn⟩ : ∃ n : Nat, ix = n := ⟨ix.toNat, by omega⟩
    subst hn
    obtain ⟨hroom, hpar⟩ := parseP_head hix
    rw [HP.out] at hpar
    have w4 : IntKind.i64.wrap ((n : Int) + 4) = ((n + 4 : Nat) : Int) := by rw [IntKind.wrap_i64]; omega
    have w2' : IntKind.i64.wrap ((n : Int) + 2) = ((n + 2 : Nat) : Int) := by rw [IntKind.wrap_i64]; omega
    have Hix := Lib.hid hix; clear hix
    by_cases h2k : 2048 < n + 4
    · have z1 : (2048 : Int) < (n : Int) + 4 := by omega
      have z2 : (2048 : Int) < ((n + 4 : Nat) : Int) := by omega
      rw [if_pos h2k] at hpar
      have Hpe := Lib.hid hpar; clear hpar
      go_wp2
      obtain ⟨Z, hZ⟩ : ∃ Z, Z = (((X2.setCell ⟨w.heap.size, 0, none⟩ (.string { data := #[] })).setCell ⟨w.heap.size, 1, none⟩ (.string { data := #[] })).setCell ⟨w.heap.size, 2, none⟩ (.slice none 0 0)).setCell ⟨w.heap.size, 3, none⟩ (.slice none 0 0) := ⟨_, rfl⟩
      rw [← hZ]
      have bZ : Blk Z w.heap.size 26 [.string { data := #[] }, .string { data := #[] }, .slice none 0 0, .slice none 0 0] := by rw [hZ]; exact (((bR2.set_ 0 _).set_ 1 _).set_ 2 _).set_ 3 _
      have hbZ : Below w.heap.size w Z := by rw [hZ]; exact (((hb2.setCell (p := ⟨w.heap.size, 0, none⟩) (Nat.le_refl _) _).setCell (p := ⟨w.heap.size, 1, none⟩) (Nat.le_refl _) _).setCell (p := ⟨w.heap.size, 2, none⟩) (Nat.le_refl _) _).setCell (p := ⟨w.heap.size, 3, none⟩) (Nat.le_refl _) _
      clear hZ
      exact bodyPost_ret (res_parse (n := .int .i64 (0 : Nat)) (e := .int .i64 (61 : Nat)) bZ _ rfl rfl rfl) rfl ⟨_, _, _, rfl, parseIs_err Hpe.out (by decide), hbZ⟩
    · have z1 : ¬ (2048 : Int) < (n : Int) + 4 := by omega
      have z2 : ¬ (2048 : Int) < ((n + 4 : Nat) : Int) := by omega
      rw [if_neg h2k] at hpar
      obtain ⟨bk, off, rfl, hbk, hcc⟩ := hr.2 (by omega : 0 < b.length)
      obtain ⟨hd, hhd⟩ : ∃ hd, hd = b.take (n + 2) := ⟨_, rfl⟩
      have hdl : hd.length = n + 2 := by rw [hhd, List.length_take]; omega
      rw [← hhd] at hpar
      have hrow : Bytes X2 B (some ⟨bk, off, none⟩) (n + 2) hd := by
        have := (hr.below (hb2.mono hB)).cut (lo := 0) (hi := n + 2) (by omega) (by omega) rfl
        rw [List.drop_zero, ← List.map_take] at this
        rw [hhd]; exact this
      have hstr := run_str (c := c) hrow
      have hread := vRead hd X2 (hL.below hb2) (by omega)
      obtain ⟨HD, hHD⟩ : ∃ HD, HD = readP hd := ⟨_, rfl⟩
      rw [← hHD] at hpar hread
      have y1 : (0 : Int) ≤ ((n + 2 : Nat) : Int) := by omega
      have y2 : ((n + 2 : Nat) : Int) ≤ (c : Int) := by omega
      have Hpar := Lib.hid hpar; clear hpar hHD hrow
      have Hhd := Lib.hid hhd; clear hhd r0 r1 r2 r3 rf
      go_wp2_with fail
      refine hread.mono ?_
      rintro e X3 ⟨hv, rfl, ⟨hm, hp, hA3, hn3, hc3, len, chk, rfl, hri⟩, hb3'⟩
      unfold headV
      have bR3 := bR2.below hb3' bR2.lt
      have hb3 := hb2.trans (hb3'.mono hs2)
      have hs3 := hb3.size
      clear hstr hread bR2
      obtain ⟨X4, hX4⟩ : ∃ X, X = X3.alloc (.cells #[str hm, str hp, .slice hA3 hn3 hc3, .slice none 0 0, .int .i64 len, .bool chk] 46) := ⟨_, rfl⟩
      have bH4 : Blk X4 X3.heap.size 46 [str hm, str hp, .slice hA3 hn3 hc3, .slice none 0 0, .int .i64 len, .bool chk] := by rw [hX4]; exact Blk.new X3 _ _
      have bR4 := bR3.alloc (.cells #[str hm, str hp, .slice hA3 hn3 hc3, .slice none 0 0, .int .i64 len, .bool chk] 46)
      rw [← hX4] at bR4
      have hb4 : Below w.heap.size w X4 := by rw [hX4]; exact hb3.alloc hs3 _
      have hb34 : Below X3.heap.size X3 X4 := by rw [hX4]; exact (Below.refl _ _).alloc (Nat.le_refl _) _
      obtain ⟨H, hH⟩ : ∃ H, H = X3.heap.size := ⟨_, rfl⟩
      have hHw : w.heap.size < H := by have := bR3.lt; omega
      have hH4 : H < X4.heap.size := by rw [hX4, hH]; simp
      rw [← hH] at bH4
      by_cases hok : HD.ok = true
      · obtain ⟨rfl, rfl, rfl, rfl, rfl, ownQ, hlen⟩ := hri hok
        rw [hok]
        have hpar := Hpar.out
        rw [if_neg (by rw [hok]; decide)] at hpar
        have ownQ2 := own_mono ownQ hs2
        have ownQ4 := own_below ownQ2 hb34
        obtain ⟨br, hbr⟩ : ∃ br, bodyP HD (b.drop (n + 4)) (n + 4) = br := ⟨_, rfl⟩
        rw [hbr] at hpar
        have hbr2 := hbr
        unfold bodyP at hbr2
        have hr4 := hr.below (hb4.mono hB)
        have hs4 := hb4.size
        have q5 : X4.cell? ⟨H, 5, none⟩ = some (.bool HD.chunked) := bH4.cell 5
        have q4 : X4.cell? ⟨H, 4, none⟩ = some (.int .i64 HD.length) := bH4.cell 4
        by_cases hch : HD.chunked = true
        · rw [if_pos hch] at hbr2
          have hcall := vChunks b (some ⟨bk, off, none⟩) c B (n + 4) X4 hr4 (Nat.le_trans hB hs4) (by omega) hc (by omega)
          rw [hbr2] at hcall
          rw [hch] at q5 hX4 bH4
          have Hpar2 := Lib.hid hpar; clear hpar Hpar hbr hbr2 hri
          have Hcall := Lib.hid hcall; clear hcall
          have Q5 := Lib.hid q5; clear q5
          have Q4 := Lib.hid q4; clear q4
          go_upto_region 11 with fail
          simp only [← hH]
          rw [show (Value.string { data := HD.method.toArray }) = str HD.method from rfl, show (Value.string { data := HD.path.toArray }) = str HD.path from rfl, ← hX4]
          have q5 := Q5.out; have q4 := Q4.out
          have HH := Lib.hid hH
          clear hX4 hH
          go_wp2_with fail
          refine Hcall.out.mono ?_
          rintro e X5 ⟨v, tz, x, rfl, hbi, hb5⟩
          have bH5 := bH4.below hb5 bH4.lt
          have bR5 := bR4.below hb5 bR4.lt
          have ownQ5 := own_below ownQ4 hb5
          have hbb5 := hb4.trans (hb5.mono hs4)
          have g3 : X5.cell? ⟨H, 3, none⟩ = some (.slice none 0 0) := bH5.cell 3
          have gf := bH5.frozen 3
          clear Hcall q4 q5 Q4 Q5
          have bR6 := fun u => bR5.far (p := ⟨H, 3, none⟩) (by show w.heap.size ≠ H; omega) u
          have hb6 := fun u => hbb5.setCell (p := ⟨H, 3, none⟩) (by show w.heap.size ≤ H; omega) u
          cases br with
          | error e0 =>
            obtain ⟨rfl, hx0, rfl, rfl⟩ := hbi
            obtain ⟨W6, hW6⟩ : ∃ W6, W6 = X5.setCell ⟨H, 3, none⟩ (.slice none 0 0) := ⟨_, rfl⟩
            have bR7 := bR6 (.slice none 0 0)
            have hb7 := hb6 (.slice none 0 0)
            rw [← hW6] at bR7 hb7
            clear bR6 hb6
            have z9 : ¬ (e0 : Int) = 0 := by omega
            have hbe : P = .error e0 := Hpar2.out
            have Hbe := Lib.hid hbe; clear hbe Hpar2
            go_upto_region 15 with fail
            rw [← hW6]
            clear hW6
            have r0 : W6.cell? ⟨w.heap.size, 0, none⟩ = some (.string { data := #[] }) := bR7.cell 0
            have r1 : W6.cell? ⟨w.heap.size, 1, none⟩ = some (.string { data := #[] }) := bR7.cell 1
            have r2 : W6.cell? ⟨w.heap.size, 2, none⟩ = some (.slice none 0 0) := bR7.cell 2
            have r3 : W6.cell? ⟨w.heap.size, 3, none⟩ = some (.slice none 0 0) := bR7.cell 3
            have rf := fun i => bR7.frozen i
            go_wp2
            obtain ⟨Z, hZ⟩ : ∃ Z, Z = (((W6.setCell ⟨w.heap.size, 0, none⟩ (.string { data := #[] })).setCell ⟨w.heap.size, 1, none⟩ (.string { data := #[] })).setCell ⟨w.heap.size, 2, none⟩ (.slice none 0 0)).setCell ⟨w.heap.size, 3, none⟩ (.slice none 0 0) := ⟨_, rfl⟩
            rw [← hZ]
            have bZ : Blk Z w.heap.size 26 [.string { data := #[] }, .string { data := #[] }, .slice none 0 0, .slice none 0 0] := by rw [hZ]; exact (((bR7.set_ 0 _).set_ 1 _).set_ 2 _).set_ 3 _
            have hbZ : Below w.heap.size w Z := by rw [hZ]; exact (((hb7.setCell (p := ⟨w.heap.size, 0, none⟩) (Nat.le_refl _) _).setCell (p := ⟨w.heap.size, 1, none⟩) (Nat.le_refl _) _).setCell (p := ⟨w.heap.size, 2, none⟩) (Nat.le_refl _) _).setCell (p := ⟨w.heap.size, 3, none⟩) (Nat.le_refl _) _
            clear hZ
            exact bodyPost_ret (res_parse (n := .int .i64 (0 : Nat)) (e := .int .i64 (e0 : Nat)) bZ _ rfl rfl rfl) rfl ⟨_, _, _, rfl, parseIs_err Hbe.out hx0, hbZ⟩
          | ok bt =>
            obtain ⟨body, to_⟩ := bt
            obtain ⟨rfl, rfl, ownV⟩ := hbi
            obtain ⟨Av, cv, rfl, -⟩ := own_form ownV
            obtain ⟨W6, hW6⟩ : ∃ W6, W6 = X5.setCell ⟨H, 3, none⟩ (.slice Av body.length cv) := ⟨_, rfl⟩
            have bR7 := bR6 (.slice Av body.length cv)
            have hb7 := hb6 (.slice Av body.length cv)
            have bu7 : But [H] X5 W6 := by rw [hW6]; exact (But.refl _ _).setCell (by simp) _
            have bH7 := bH5.set_ 3 (.slice Av body.length cv)
            rw [← hW6] at bR7 hb7 bH7
            have ownQ7 := own_but ownQ5 bu7 (fun g hg hm => by simp only [List.mem_singleton] at hm; subst hm; exact own_blk ownQ5 bH5 (by decide) (by rw [hg]; simp))
            have ownV7 := own_but ownV bu7 (fun g hg hm => by simp only [List.mem_singleton] at hm; subst hm; exact own_blk ownV bH5 (by decide) (by rw [hg]; simp))
            have hbe := Hpar2.out
            have Hbe := Lib.hid hbe; clear hbe Hpar2 bR6 hb6
            go_upto_region 16 with fail
            rw [← hW6]
            clear hW6
            have r0 : W6.cell? ⟨w.heap.size, 0, none⟩ = some (.string { data := #[] }) := bR7.cell 0
            have r1 : W6.cell? ⟨w.heap.size, 1, none⟩ = some (.string { data := #[] }) := bR7.cell 1
            have r2 : W6.cell? ⟨w.heap.size, 2, none⟩ = some (.slice none 0 0) := bR7.cell 2
            have r3 : W6.cell? ⟨w.heap.size, 3, none⟩ = some (.slice none 0 0) := bR7.cell 3
            have rf := fun i => bR7.frozen i
            have g0 : W6.cell? ⟨H, 0, none⟩ = some (str HD.method) := bH7.cell 0
            have g1 : W6.cell? ⟨H, 1, none⟩ = some (str HD.path) := bH7.cell 1
            have g2 : W6.cell? ⟨H, 2, none⟩ = some (.slice hA3 HD.query.length hc3) := bH7.cell 2
            have g3' : W6.cell? ⟨H, 3, none⟩ = some (.slice Av body.length cv) := bH7.cell 3
            go_wp2
            obtain ⟨Z, hZ⟩ : ∃ Z, Z = (((W6.setCell ⟨w.heap.size, 0, none⟩ (str HD.method)).setCell ⟨w.heap.size, 1, none⟩ (str HD.path)).setCell ⟨w.heap.size, 2, none⟩ (.slice hA3 HD.query.length hc3)).setCell ⟨w.heap.size, 3, none⟩ (.slice Av body.length cv) := ⟨_, rfl⟩
            rw [show (Value.string { data := HD.method.toArray }) = str HD.method from rfl, show (Value.string { data := HD.path.toArray }) = str HD.path from rfl, ← hZ]
            have bZ : Blk Z w.heap.size 26 [str HD.method, str HD.path, .slice hA3 HD.query.length hc3, .slice Av body.length cv] := by rw [hZ]; exact (((bR7.set_ 0 _).set_ 1 _).set_ 2 _).set_ 3 _
            have buZ : But [w.heap.size] W6 Z := by rw [hZ]; exact ((((But.refl _ W6).setCell (p := ⟨w.heap.size, 0, none⟩) (by simp) _).setCell (p := ⟨w.heap.size, 1, none⟩) (by simp) _).setCell (p := ⟨w.heap.size, 2, none⟩) (by simp) _).setCell (p := ⟨w.heap.size, 3, none⟩) (by simp) _
            have ownQZ := own_but ownQ7 buZ (fun g hg hm => by simp only [List.mem_singleton] at hm; subst hm; exact own_blk ownQ7 bR7 (by decide) (by rw [hg]; simp))
            have ownVZ := own_but ownV7 buZ (fun g hg hm => by simp only [List.mem_singleton] at hm; subst hm; exact own_blk ownV7 bR7 (by decide) (by rw [hg]; simp))
            have hbZ := hb7.trans (buZ.below hb7.size (by simp))
            clear hZ
            exact bodyPost_ret (res_parse (n := .int .i64 (to_ : Nat)) (e := .int .i64 (0 : Nat)) bZ _ rfl rfl rfl) rfl ⟨_, _, _, rfl, parseIs_ok Hbe.out ownQZ (own_mono ownVZ hs4), hbZ⟩
        · rw [if_neg hch] at hbr2
          have hcf : HD.chunked = false := by simpa using hch
          have hcall := vPlain b (some ⟨bk, off, none⟩) c B (n + 4) HD.length X4 hr4 (Nat.le_trans hB hs4) (by omega) hc (by omega) hlen
          rw [hbr2] at hcall
          rw [hcf] at q5 hX4 bH4
          have Hpar2 := Lib.hid hpar; clear hpar Hpar hbr hbr2 hri
          have Hcall := Lib.hid hcall; clear hcall
          have Q5 := Lib.hid q5; clear q5
          have Q4 := Lib.hid q4; clear q4
          go_upto_region 11 with fail
          simp only [← hH]
          rw [show (Value.string { data := HD.method.toArray }) = str HD.method from rfl, show (Value.string { data := HD.path.toArray }) = str HD.path from rfl, ← hX4]
          have q5 := Q5.out; have q4 := Q4.out
          have HH := Lib.hid hH
          clear hX4 hH
          go_wp2_with fail
          refine Hcall.out.mono ?_
          rintro e X5 ⟨v, tz, x, rfl, hbi, hb5⟩
          have bH5 := bH4.below hb5 bH4.lt
          have bR5 := bR4.below hb5 bR4.lt
          have ownQ5 := own_below ownQ4 hb5
          have hbb5 := hb4.trans (hb5.mono hs4)
          have g3 : X5.cell? ⟨H, 3, none⟩ = some (.slice none 0 0) := bH5.cell 3
          have gf := bH5.frozen 3
          clear Hcall q4 q5 Q4 Q5
          have bR6 := fun u => bR5.far (p := ⟨H, 3, none⟩) (by show w.heap.size ≠ H; omega) u
          have hb6 := fun u => hbb5.setCell (p := ⟨H, 3, none⟩) (by show w.heap.size ≤ H; omega) u
          cases br with
          | error e0 =>
            obtain ⟨rfl, hx0, rfl, rfl⟩ := hbi
            obtain ⟨W6, hW6⟩ : ∃ W6, W6 = X5.setCell ⟨H, 3, none⟩ (.slice none 0 0) := ⟨_, rfl⟩
            have bR7 := bR6 (.slice none 0 0)
            have hb7 := hb6 (.slice none 0 0)
            rw [← hW6] at bR7 hb7
            clear bR6 hb6
            have z9 : ¬ (e0 : Int) = 0 := by omega
            have hbe : P = .error e0 := Hpar2.out
            have Hbe := Lib.hid hbe; clear hbe Hpar2
            go_upto_region 15 with fail
            rw [← hW6]
            clear hW6
            have r0 : W6.cell? ⟨w.heap.size, 0, none⟩ = some (.string { data := #[] }) := bR7.cell 0
            have r1 : W6.cell? ⟨w.heap.size, 1, none⟩ = some (.string { data := #[] }) := bR7.cell 1
            have r2 : W6.cell? ⟨w.heap.size, 2, none⟩ = some (.slice none 0 0) := bR7.cell 2
            have r3 : W6.cell? ⟨w.heap.size, 3, none⟩ = some (.slice none 0 0) := bR7.cell 3
            have rf := fun i => bR7.frozen i
            go_wp2
            obtain ⟨Z, hZ⟩ : ∃ Z, Z = (((W6.setCell ⟨w.heap.size, 0, none⟩ (.string { data := #[] })).setCell ⟨w.heap.size, 1, none⟩ (.string { data := #[] })).setCell ⟨w.heap.size, 2, none⟩ (.slice none 0 0)).setCell ⟨w.heap.size, 3, none⟩ (.slice none 0 0) := ⟨_, rfl⟩
            rw [← hZ]
            have bZ : Blk Z w.heap.size 26 [.string { data := #[] }, .string { data := #[] }, .slice none 0 0, .slice none 0 0] := by rw [hZ]; exact (((bR7.set_ 0 _).set_ 1 _).set_ 2 _).set_ 3 _
            have hbZ : Below w.heap.size w Z := by rw [hZ]; exact (((hb7.setCell (p := ⟨w.heap.size, 0, none⟩) (Nat.le_refl _) _).setCell (p := ⟨w.heap.size, 1, none⟩) (Nat.le_refl _) _).setCell (p := ⟨w.heap.size, 2, none⟩) (Nat.le_refl _) _).setCell (p := ⟨w.heap.size, 3, none⟩) (Nat.le_refl _) _
            clear hZ
            exact bodyPost_ret (res_parse (n := .int .i64 (0 : Nat)) (e := .int .i64 (e0 : Nat)) bZ _ rfl rfl rfl) rfl ⟨_, _, _, rfl, parseIs_err Hbe.out hx0, hbZ⟩
          | ok bt =>
            obtain ⟨body, to_⟩ := bt
            obtain ⟨rfl, rfl, ownV⟩ := hbi
            obtain ⟨Av, cv, rfl, -⟩ := own_form ownV
            obtain ⟨W6, hW6⟩ : ∃ W6, W6 = X5.setCell ⟨H, 3, none⟩ (.slice Av body.length cv) := ⟨_, rfl⟩
            have bR7 := bR6 (.slice Av body.length cv)
            have hb7 := hb6 (.slice Av body.length cv)
            have bu7 : But [H] X5 W6 := by rw [hW6]; exact (But.refl _ _).setCell (by simp) _
            have bH7 := bH5.set_ 3 (.slice Av body.length cv)
            rw [← hW6] at bR7 hb7 bH7
            have ownQ7 := own_but ownQ5 bu7 (fun g hg hm => by simp only [List.mem_singleton] at hm; subst hm; exact own_blk ownQ5 bH5 (by decide) (by rw [hg]; simp))
            have ownV7 := own_but ownV bu7 (fun g hg hm => by simp only [List.mem_singleton] at hm; subst hm; exact own_blk ownV bH5 (by decide) (by rw [hg]; simp))
            have hbe := Hpar2.out
            have Hbe := Lib.hid hbe; clear hbe Hpar2 bR6 hb6
            go_upto_region 16 with fail
            rw [← hW6]
            clear hW6
            have r0 : W6.cell? ⟨w.heap.size, 0, none⟩ = some (.string { data := #[] }) := bR7.cell 0
            have r1 : W6.cell? ⟨w.heap.size, 1, none⟩ = some (.string { data := #[] }) := bR7.cell 1
            have r2 : W6.cell? ⟨w.heap.size, 2, none⟩ = some (.slice none 0 0) := bR7.cell 2
            have r3 : W6.cell? ⟨w.heap.size, 3, none⟩ = some (.slice none 0 0) := bR7.cell 3
            have rf := fun i => bR7.frozen i
            have g0 : W6.cell? ⟨H, 0, none⟩ = some (str HD.method) := bH7.cell 0
            have g1 : W6.cell? ⟨H, 1, none⟩ = some (str HD.path) := bH7.cell 1
            have g2 : W6.cell? ⟨H, 2, none⟩ = some (.slice hA3 HD.query.length hc3) := bH7.cell 2
            have g3' : W6.cell? ⟨H, 3, none⟩ = some (.slice Av body.length cv) := bH7.cell 3
            go_wp2
            obtain ⟨Z, hZ⟩ : ∃ Z, Z = (((W6.setCell ⟨w.heap.size, 0, none⟩ (str HD.method)).setCell ⟨w.heap.size, 1, none⟩ (str HD.path)).setCell ⟨w.heap.size, 2, none⟩ (.slice hA3 HD.query.length hc3)).setCell ⟨w.heap.size, 3, none⟩ (.slice Av body.length cv) := ⟨_, rfl⟩
            rw [show (Value.string { data := HD.method.toArray }) = str HD.method from rfl, show (Value.string { data := HD.path.toArray }) = str HD.path from rfl, ← hZ]
            have bZ : Blk Z w.heap.size 26 [str HD.method, str HD.path, .slice hA3 HD.query.length hc3, .slice Av body.length cv] := by rw [hZ]; exact (((bR7.set_ 0 _).set_ 1 _).set_ 2 _).set_ 3 _
            have buZ : But [w.heap.size] W6 Z := by rw [hZ]; exact ((((But.refl _ W6).setCell (p := ⟨w.heap.size, 0, none⟩) (by simp) _).setCell (p := ⟨w.heap.size, 1, none⟩) (by simp) _).setCell (p := ⟨w.heap.size, 2, none⟩) (by simp) _).setCell (p := ⟨w.heap.size, 3, none⟩) (by simp) _
            have ownQZ := own_but ownQ7 buZ (fun g hg hm => by simp only [List.mem_singleton] at hm; subst hm; exact own_blk ownQ7 bR7 (by decide) (by rw [hg]; simp))
            have ownVZ := own_but ownV7 buZ (fun g hg hm => by simp only [List.mem_singleton] at hm; subst hm; exact own_blk ownV7 bR7 (by decide) (by rw [hg]; simp))
            have hbZ := hb7.trans (buZ.below hb7.size (by simp))
            clear hZ
            exact bodyPost_ret (res_parse (n := .int .i64 (to_ : Nat)) (e := .int .i64 (0 : Nat)) bZ _ rfl rfl rfl) rfl ⟨_, _, _, rfl, parseIs_ok Hbe.out ownQZ (own_mono ownVZ hs4), hbZ⟩
      · have hokf : HD.ok = false := by simpa using hok
        have hpar := Hpar.out
        rw [if_pos hokf] at hpar
        rw [hokf]
        have hHD9 := Lib.hid hokf; clear hokf hok hri Hpar
        have Hpe := Lib.hid hpar; clear hpar
        go_upto_region 9 with fail
        simp only [← hH]
        rw [show (Value.string { data := hm.toArray }) = str hm from rfl, show (Value.string { data := hp.toArray }) = str hp from rfl, ← hX4]
        have HH := Lib.hid hH
        clear hX4 hH
        have r0 : X4.cell? ⟨w.heap.size, 0, none⟩ = some (.string { data := #[] }) := bR4.cell 0
        have r1 : X4.cell? ⟨w.heap.size, 1, none⟩ = some (.string { data := #[] }) := bR4.cell 1
        have r2 : X4.cell? ⟨w.heap.size, 2, none⟩ = some (.slice none 0 0) := bR4.cell 2
        have r3 : X4.cell? ⟨w.heap.size, 3, none⟩ = some (.slice none 0 0) := bR4.cell 3
        have rf := fun i => bR4.frozen i
        go_wp2
        obtain ⟨Z, hZ⟩ : ∃ Z, Z = (((X4.setCell ⟨w.heap.size, 0, none⟩ (.string { data := #[] })).setCell ⟨w.heap.size, 1, none⟩ (.string { data := #[] })).setCell ⟨w.heap.size, 2, none⟩ (.slice none 0 0)).setCell ⟨w.heap.size, 3, none⟩ (.slice none 0 0) := ⟨_, rfl⟩
        rw [← hZ]
        have bZ : Blk Z w.heap.size 26 [.string { data := #[] }, .string { data := #[] }, .slice none 0 0, .slice none 0 0] := by rw [hZ]; exact (((bR4.set_ 0 _).set_ 1 _).set_ 2 _).set_ 3 _
        have hbZ : Below w.heap.size w Z := by rw [hZ]; exact (((hb4.setCell (p := ⟨w.heap.size, 0, none⟩) (Nat.le_refl _) _).setCell (p := ⟨w.heap.size, 1, none⟩) (Nat.le_refl _) _).setCell (p := ⟨w.heap.size, 2, none⟩) (Nat.le_refl _) _).setCell (p := ⟨w.heap.size, 3, none⟩) (Nat.le_refl _) _
        clear hZ
        exact bodyPost_ret (res_parse (n := .int .i64 (0 : Nat)) (e := .int .i64 (60 : Nat)) bZ _ rfl rfl rfl) rfl ⟨_, _, _, rfl, parseIs_err Hpe.out (by decide), hbZ⟩
end Go.Proofs.YtcjapjnhejenaaaDoor
