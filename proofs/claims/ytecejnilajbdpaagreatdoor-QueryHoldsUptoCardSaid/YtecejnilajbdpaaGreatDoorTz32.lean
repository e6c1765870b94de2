import Derived.Test.YtecejnilajbdpaaGreatDoorTz30
set_option maxRecDepth 100000
set_option maxHeartbeats 16000000
namespace Go.Proofs.YtecejnilajbdpaaGreatDoor
open Go.RowKit Garner
theorem uIs_y {F : Nat → Prop} (ch : Nat) (U W : World) (g N : Nat) (r : List Nat) (ns : List NodeP) (deep most : Nat) (h : QU F U W g N (ch :: r) ns deep most) :
  Calls Tryz.prog 111 #[.pointer (some ⟨g, 0, none⟩), .int .i32 (ch : Nat)] W fun e W' => e = .returned (.bool true) ∧ But [g] W W' ∧ ∃ U', U'.heap.size = U.heap.size ∧ QU F U' W' g N r ns deep most ∧ QP g U U' := by
 have hv := uIs ch U W g N _ ns deep most h
 rw [show (ch :: r).head? = some ch from rfl, if_pos rfl, decide_eq_true rfl] at hv
 exact hv
theorem uIs_n {F : Nat → Prop} (ch : Nat) (U W : World) (g N : Nat) (rs : List Nat) (ns : List NodeP) (deep most : Nat) (h : QU F U W g N rs ns deep most) (hc : rs.head? ≠ some ch) :
  Calls Tryz.prog 111 #[.pointer (some ⟨g, 0, none⟩), .int .i32 (ch : Nat)] W fun e W' => e = .returned (.bool false) ∧ But [g] W W' ∧ ∃ U', U'.heap.size = U.heap.size ∧ QU F U' W' g N rs ns deep most ∧ QP g U U' := by
 have hv := uIs ch U W g N _ ns deep most h
 rw [if_neg hc, decide_eq_false hc] at hv
 exact hv
theorem qItem (L : Nat) (hT : QAtomC L) : QItemC L := by
 intro F g N w rs ns deep most hL h hns hdp
 have hgw := h.lt
 have HF := Lh h.hF
 have ha := hT F g N w rs ns deep most hL h hns hdp
 have heq := itemF_eq rs
 have hlb := h.len
 have hlb2 := h.lb
 obtain ⟨OUT, hOUT⟩ : ∃ OUT, itemF rs = OUT := ⟨_, rfl⟩
 rw [hOUT] at heq ⊢
 have HE := Lh heq; have HA := Lh ha
 clear heq hOUT ha
 obtain ⟨KK, hKK⟩ : ∃ KK, 4 * rs.length + 2 = KK := ⟨_, rfl⟩
 have hK1 : 4 * rs.length + 2 ≤ KK := by omega
 rw [hKK]
 clear hKK
 go_enter Tryz.func140, Tryz.ntmps140
 go_wp2_with fail
 refine HA.out.mono ?_
 rintro e w2 ⟨k2, o2⟩
 have s2 := k2.keep.size
 cases ho : atomF rs with
 | none =>
  rw [ho] at o2
  obtain ⟨x, n, rfl, hx2, hxn⟩ := o2
  have hE : OUT = none := by rw [HE.out, ho]
  have HE2 := Lh hE; have HX := Lh hx2
  clear hE hx2 ho HE HA
  go_upto_region 3 with fail
  have hbn : Below w2.heap.size w2 ((w2.alloc (.cells #[.int .i64 x] 3)).alloc (.cells #[.int .i64 5, .slice (some ⟨w2.heap.size, 0, none⟩) 1 1, .int .i64 0, .int .i64 (-1), .slice none 0 0] 182)) := ((Below.refl _ _).alloc (Nat.le_refl _) _).alloc (by simp) _
  obtain ⟨W, hW⟩ : ∃ W, W = ((w2.alloc (.cells #[.int .i64 x] 3)).alloc (.cells #[.int .i64 5, .slice (some ⟨w2.heap.size, 0, none⟩) 1 1, .int .i64 0, .int .i64 (-1), .slice none 0 0] 182)) := ⟨_, rfl⟩
  rw [← hW] at hbn ⊢
  have HW := Lh (HX.out.below hbn); have K2 := Lh (k2.trans (.of_below hbn (Nat.le_of_lt HX.out.lt)))
  clear hW hbn k2
  go_wp2_with fail
  refine (xIs 43 g n W HW.out).mono ?_
  rintro e w3 ⟨rfl, hb3⟩
  go_wp2_with fail
  refine (xIs 63 g n w3 (HW.out.below hb3)).mono ?_
  rintro e w4 ⟨rfl, hb4⟩
  have hb4' := hb3.trans (hb4.mono hb3.size)
  go_wp2_with fail
  refine (xIs 123 g n w4 (HW.out.below hb4')).mono ?_
  rintro e w5 ⟨rfl, hb5⟩
  have hb5' := hb4'.trans (hb5.mono hb4'.size)
  go_wp2_with fail
  refine (xIs 42 g n w5 (HW.out.below hb5')).mono ?_
  rintro e w6 ⟨rfl, hb6⟩
  have hb6' := hb5'.trans (hb6.mono hb5'.size)
  go_wp2
  go_ret
  refine ⟨K2.out.trans (.of_below hb6' (Nat.le_of_lt HW.out.lt)), ?_⟩
  rw [HE2.out]
  exact ⟨x, n, rfl, HW.out.below hb6', by omega⟩
 | some q =>
  obtain ⟨t, s1, d⟩ := q
  rw [ho] at o2
  obtain ⟨rfl, h2⟩ := o2
  have hcnt := (atomF_cnt ho).1
  have he := HE.out
  rw [ho] at he
  dsimp only at he
  have HE2 := Lh he
  obtain ⟨kv, hkv⟩ : ∃ kv, ns.length + t.cnt - 1 = kv := ⟨_, rfl⟩
  rw [hkv]
  obtain ⟨mo, hmo⟩ : ∃ mo, max most (deep + d) = mo := ⟨_, rfl⟩
  rw [hmo] at h2
  obtain ⟨W, hW⟩ : ∃ W, W = ((w2.alloc (.cells #[.int .i64 (kv : Nat)] 3)).alloc (.cells #[.int .i64 5, .slice (some ⟨w2.heap.size, 0, none⟩) 1 1, .int .i64 0, .int .i64 (-1), .slice none 0 0] 182)) := ⟨_, rfl⟩
  have hbn : Below w2.heap.size w2 W := by rw [hW]; exact ((Below.refl _ _).alloc (Nat.le_refl _) _).alloc (by simp) _
  have hQ : QU (Ext F w w2) w2 W g N s1 (ns ++ t.flat ns.length) deep mo := ⟨h2, hbn⟩
  have hI : ItI w w2 W g w2.heap.size (w2.heap.size + 1) kv 0 (-1) := ⟨k2, h2.lt, Nat.le_refl _, Nat.lt_succ_self _, by rw [hW]; simp, by rw [hW]; exact (Blk.new w2 _ _).below ((Below.refl _ _).alloc (Nat.le_refl _) _) (by simp), by
   rw [hW]
   have := Blk.new (w2.alloc (.cells #[.int .i64 (kv : Nat)] 3)) 182 [.int .i64 5, .slice (some ⟨w2.heap.size, 0, none⟩) 1 1, .int .i64 0, .int .i64 (-1), .slice none 0 0]
   simpa using this⟩
  have HW := Lh hW; have HQ := Lh hQ
  clear hW hbn hQ HA HE he ho
  go_upto_region 3 with fail
  rw [← HW.out]
  obtain ⟨kb, hkb⟩ : ∃ kb, w2.heap.size = kb := ⟨_, rfl⟩
  rw [hkb] at hI ⊢
  obtain ⟨nb, hnb⟩ : ∃ nb, kb + 1 = nb := ⟨_, rfl⟩
  rw [hnb] at hI ⊢
  have hrep : ∀ (U W : World) (r : List Nat) (mn : Nat) (mx : Option Nat) (mnv mxv : Int), mnv = (mn : Int) → mxv = mxI mx → U.heap.size = w2.heap.size → ItI w U W g kb nb kv mnv mxv → QU (Ext F w w2) U W g N r (ns ++ t.flat ns.length) deep mo → OUT = some (.rep t mn mx, r, d) →
    Calls Tryz.prog 113 #[.pointer (some ⟨g, 0, none⟩), .agg #[.int .i64 5, .slice (some ⟨kb, 0, none⟩) 1 1, .int .i64 mnv, .int .i64 mxv, .slice none 0 0]] W fun e w' => ∃ x : Int, e = .returned (.int .i64 x) ∧ QP g w w' ∧ OutC KK F OUT w g N ns deep most (.returned (.int .i64 x)) w' :=
   fun U W r mn mx mnv mxv e1 e2 hs hI hQ ho => (uRep (F := F) t mn mx kv mnv mxv g N w U W r ns deep mo hkv e1 e2 hI hQ (fun k hk => hk.imp id fun h => ⟨h.1, by rw [hs]; exact h.2⟩) HF.out (by omega)).mono fun _ _ ⟨a1, a2, a3⟩ => ⟨_, a2, a1, by rw [ho]; exact ⟨rfl, by rw [hmo]; exact a3⟩⟩
  have hrepX : ∀ (U W : World) (mnv mxv : Int), ItI w U W g kb nb kv mnv mxv → QUX U W g (ns ++ t.flat ns.length).length → OUT = none →
    Calls Tryz.prog 113 #[.pointer (some ⟨g, 0, none⟩), .agg #[.int .i64 5, .slice (some ⟨kb, 0, none⟩) 1 1, .int .i64 mnv, .int .i64 mxv, .slice none 0 0]] W fun e w' => ∃ x : Int, e = .returned (.int .i64 x) ∧ QP g w w' ∧ OutC KK F OUT w g N ns deep most (.returned (.int .i64 x)) w' :=
   fun U W mnv mxv hI hX ho => by rw [ho]; exact uRepX KK ns deep most _ hI hX (by rw [List.length_append, flat_len]; omega) (by rw [List.length_append, flat_len]; omega)
  have HR := Lh hrep; have HRX := Lh hrepX; have HI := Lh hI; have Hmo := Lh hmo; have Hkv := Lh hkv
  clear hrep hrepX hI hmo hkv hkb hnb h2 k2 HW
  by_cases c1 : s1.head? = some 43
  ·obtain ⟨r, rfl⟩ : ∃ r, s1 = 43 :: r := by
    cases s1 with
    | nil => cases c1
    | cons x r => injection c1 with c1; exact ⟨r, by rw [c1]⟩
   have hv := uIs_y 43 w2 W g N _ _ _ _ HQ.out
   have HV := Lh hv
   clear hv
   go_wp2_with fail
   refine HV.out.mono ?_
   rintro e W3 ⟨rfl, hb3, U3, hs3, hQ3, hq3⟩
   have hI3 := HI.out.next hb3 hs3 hq3
   obtain ⟨hIZ, hbz, fz⟩ := hI3.min 1
   obtain ⟨Z, hZ⟩ : ∃ Z, Z = W3.setCell ⟨nb, 2, none⟩ (.int .i64 1) := ⟨_, rfl⟩
   rw [← hZ] at hIZ hbz
   have hv := HR.out U3 Z r 1 none 1 (-1) rfl rfl hs3 hIZ (hQ3.below hbz) (by rw [HE2.out]; rfl)
   have HZ := Lh hZ
   obtain ⟨y0, y1, y2, y3, y4⟩ := hI3.cells
   clear hZ hbz hQ3 hI3
   go_upto_region 16 with fail
   rw [← HZ.out]
   clear HZ y0 y1 y2 y3 y4
   have HV := Lh hv
   clear hv
   obtain ⟨z0, z1, z2, z3, z4⟩ := hIZ.cells
   have HIZ := Lh hIZ
   clear hIZ
   go_wp2_with fail
   refine HV.out.mono ?_
   rintro e w9 ⟨x9, rfl, k9, o9⟩
   have O9 := Lh o9
   clear o9
   go_wp2
   go_ret
   exact ⟨k9, O9.out⟩
  by_cases c2 : s1.head? = some 63
  ·obtain ⟨r, rfl⟩ : ∃ r, s1 = 63 :: r := by
    cases s1 with
    | nil => cases c2
    | cons x r => injection c2 with c2; exact ⟨r, by rw [c2]⟩
   have hv := uIs_n 43 w2 W g N _ _ _ _ HQ.out (by first | assumption | simp)
   have HV := Lh hv
   clear hv
   go_wp2_with fail
   refine HV.out.mono ?_
   rintro e W3 ⟨rfl, hb3, U3, hs3, hQ3, hq3⟩
   have hI3 := HI.out.next hb3 hs3 hq3
   have hv := uIs_y 63 U3 W3 g N _ _ _ _ hQ3
   have HV := Lh hv
   clear hv
   go_wp2_with fail
   refine HV.out.mono ?_
   rintro e W4 ⟨rfl, hb4, U4, hs4, hQ4, hq4⟩
   have hI4 := hI3.next hb4 hs4 hq4
   obtain ⟨hIZ, hbz, fz⟩ := hI4.max 1
   obtain ⟨Z, hZ⟩ : ∃ Z, Z = W4.setCell ⟨nb, 3, none⟩ (.int .i64 1) := ⟨_, rfl⟩
   rw [← hZ] at hIZ hbz
   have hv := HR.out U4 Z r 0 (some 1) 0 1 rfl rfl (hs4.trans hs3) hIZ (hQ4.below hbz) (by rw [HE2.out]; rfl)
   have HZ := Lh hZ
   obtain ⟨y0, y1, y2, y3, y4⟩ := hI4.cells
   clear hZ hbz hQ4 hI4
   go_upto_region 16 with fail
   rw [← HZ.out]
   clear HZ y0 y1 y2 y3 y4
   have HV := Lh hv
   clear hv
   obtain ⟨z0, z1, z2, z3, z4⟩ := hIZ.cells
   have HIZ := Lh hIZ
   clear hIZ
   go_wp2_with fail
   refine HV.out.mono ?_
   rintro e w9 ⟨x9, rfl, k9, o9⟩
   have O9 := Lh o9
   clear o9
   go_wp2
   go_ret
   exact ⟨k9, O9.out⟩
  by_cases c3 : s1.head? = some 42
  ·obtain ⟨r, rfl⟩ : ∃ r, s1 = 42 :: r := by
    cases s1 with
    | nil => cases c3
    | cons x r => injection c3 with c3; exact ⟨r, by rw [c3]⟩
   have c4 : (42 :: r).head? ≠ some 123 := by simp
   have hv := uIs_n 43 w2 W g N _ _ _ _ HQ.out (by first | assumption | simp)
   have HV := Lh hv
   clear hv
   go_wp2_with fail
   refine HV.out.mono ?_
   rintro e W3 ⟨rfl, hb3, U3, hs3, hQ3, hq3⟩
   have hI3 := HI.out.next hb3 hs3 hq3
   have hv := uIs_n 63 U3 W3 g N _ _ _ _ hQ3 (by first | assumption | simp)
   have HV := Lh hv
   clear hv
   go_wp2_with fail
   refine HV.out.mono ?_
   rintro e W4 ⟨rfl, hb4, U4, hs4, hQ4, hq4⟩
   have hI4 := hI3.next hb4 hs4 hq4
   have hv := uIs_n 123 U4 W4 g N _ _ _ _ hQ4 (by first | assumption | simp)
   have HV := Lh hv
   clear hv
   go_wp2_with fail
   refine HV.out.mono ?_
   rintro e W5 ⟨rfl, hb5, U5, hs5, hQ5, hq5⟩
   have hI5 := hI4.next hb5 hs5 hq5
   have hv := uIs_y 42 U5 W5 g N _ _ _ _ hQ5
   have HV := Lh hv
   clear hv
   go_wp2_with fail
   refine HV.out.mono ?_
   rintro e W6 ⟨rfl, hb6, U6, hs6, hQ6, hq6⟩
   have hI6 := hI5.next hb6 hs6 hq6
   have hIZ := hI6
   have hv := HR.out U6 W6 r 0 none 0 (-1) rfl rfl (hs6.trans (hs5.trans (hs4.trans hs3))) hIZ hQ6 (by rw [HE2.out]; rfl)
   clear hQ6 hI6
   have HV := Lh hv
   clear hv
   obtain ⟨z0, z1, z2, z3, z4⟩ := hIZ.cells
   have HIZ := Lh hIZ
   clear hIZ
   go_wp2_with fail
   refine HV.out.mono ?_
   rintro e w9 ⟨x9, rfl, k9, o9⟩
   have O9 := Lh o9
   clear o9
   go_wp2
   go_ret
   exact ⟨k9, O9.out⟩
  by_cases c4 : s1.head? = some 123
  ·obtain ⟨r, rfl⟩ : ∃ r, s1 = 123 :: r := by
    cases s1 with
    | nil => cases c4
    | cons x r => injection c4 with c4; exact ⟨r, by rw [c4]⟩
   have hv := uIs_n 43 w2 W g N _ _ _ _ HQ.out (by first | assumption | simp)
   have HV := Lh hv
   clear hv
   go_wp2_with fail
   refine HV.out.mono ?_
   rintro e W3 ⟨rfl, hb3, U3, hs3, hQ3, hq3⟩
   have hI3 := HI.out.next hb3 hs3 hq3
   have hv := uIs_n 63 U3 W3 g N _ _ _ _ hQ3 (by first | assumption | simp)
   have HV := Lh hv
   clear hv
   go_wp2_with fail
   refine HV.out.mono ?_
   rintro e W4 ⟨rfl, hb4, U4, hs4, hQ4, hq4⟩
   have hI4 := hI3.next hb4 hs4 hq4
   have hv := uIs_y 123 U4 W4 g N _ _ _ _ hQ4
   have HV := Lh hv
   clear hv
   go_wp2_with fail
   refine HV.out.mono ?_
   rintro e W5 ⟨rfl, hb5, U5, hs5, hQ5, hq5⟩
   have hI5 := hI4.next hb5 hs5 hq5
   have us5 := hs5.trans (hs4.trans hs3)
   have hq : OUT = (quantR t (123 :: r)).map fun p => (p.1, p.2, d) := HE2.out
   have HQ0 := Lh hq
   clear hq c1 c2 c3 HE2
   have hv := uDigit U5 W5 g N _ _ _ _ hQ5
   have HV := Lh hv
   clear hv
   go_wp2_with fail
   refine HV.out.mono ?_
   rintro e W6 ⟨hb6, U6, hs6, hq6, h6⟩
   have hI6 := hI5.next hb6 hs6 hq6
   obtain ⟨y0, y1, y2, y3, y4⟩ := hI6.cells
   rcases h6 with ⟨lo, s2, hd1, hlo, rfl, hQ6⟩ | ⟨hd1, rfl, hX6⟩
   ·have hq2 : OUT = (if s2.head? = some 44 then match digR s2.tail with | none => none | some (hi, s3) => if lo ≤ hi ∧ s3.head? = some 125 then some (Re.rep t lo (some hi), s3.tail) else none else if s2.head? = some 125 then some (Re.rep t lo (some lo), s2.tail) else none).map fun p => (p.1, p.2, d) := by
     rw [HQ0.out, quantR, if_neg (by decide), if_neg (by decide), if_neg (by decide), if_pos rfl, hd1]
     dsimp only
     by_cases hc : s2.head? = some 44
     ·rw [if_pos hc, if_pos hc]; cases digR s2.tail <;> rfl
     rw [if_neg hc, if_neg hc]
    have HQ2 := Lh hq2
    obtain ⟨hI7, hb7, f7⟩ := hI6.min lo
    obtain ⟨hI8, hb8, f8⟩ := hI7.max lo
    obtain ⟨W8, hW8⟩ : ∃ W8, W8 = (W6.setCell ⟨nb, 2, none⟩ (.int .i64 (lo : Nat))).setCell ⟨nb, 3, none⟩ (.int .i64 (lo : Nat)) := ⟨_, rfl⟩
    obtain ⟨x0, x1, x2, x3, x4⟩ := hI7.cells
    rw [← hW8] at hI8 hb8
    have hQ8 := (hQ6.below hb7).below hb8
    have HW8 := Lh hW8
    clear hq2 hW8 hd1 HQ0 hb7 hb8 hI7 hQ6
    have us6 := hs6.trans us5
    go_upto_region 10 with fail
    rw [← HW8.out]
    clear HW8 x0 x1 x2 x3 x4 y0 y1 y2 y3 y4 f7 f8
    by_cases hc : s2.head? = some 44
    ·obtain ⟨r2, rfl⟩ : ∃ r2, s2 = 44 :: r2 := by
      cases s2 with
      | nil => cases hc
      | cons x r => injection hc with hc; exact ⟨r, by rw [hc]⟩
     have hq3 := HQ2.out
     rw [List.head?_cons, if_pos rfl, List.tail_cons] at hq3
     have HQ3 := Lh hq3
     clear hq3 HQ2 hc
     have hv := uIs_y 44 U6 W8 g N _ _ _ _ hQ8
     have HV := Lh hv
     clear hv
     go_wp2_with fail
     refine HV.out.mono ?_
     rintro e W10 ⟨rfl, hb10, U10, hs10, hQ10, hq10⟩
     have hI10 := hI8.next hb10 hs10 hq10
     have us10 := hs10.trans us6
     have hv := uDigit U10 W10 g N _ _ _ _ hQ10
     have HV := Lh hv
     clear hv
     go_wp2_with fail
     refine HV.out.mono ?_
     rintro e W12 ⟨hb12, U12, hs12, hq12, h12⟩
     have hI12 := hI10.next hb12 hs12 hq12
     have us12 := hs12.trans us10
     obtain ⟨y0, y1, y2, y3, y4⟩ := hI12.cells
     rcases h12 with ⟨hi, s3, hd2, hhi, rfl, hQ12⟩ | ⟨hd2, rfl, hX12⟩
     ·have hq4 := HQ3.out
      rw [hd2] at hq4
      dsimp only at hq4
      have HQ4 := Lh hq4
      obtain ⟨hI13, hb13, f13⟩ := hI12.max hi
      obtain ⟨W13, hW13⟩ : ∃ W13, W13 = W12.setCell ⟨nb, 3, none⟩ (.int .i64 (hi : Nat)) := ⟨_, rfl⟩
      rw [← hW13] at hI13 hb13
      have hQ13 := hQ12.below hb13
      have HW13 := Lh hW13
      clear hq4 hW13 hd2 HQ3 hb13 hQ12
      go_upto_region 12 with fail
      rw [← HW13.out]
      clear HW13 y0 y1 y2 y3 y4
      by_cases h125 : s3.head? = some 125
      ·obtain ⟨r3, rfl⟩ : ∃ r3, s3 = 125 :: r3 := by
        cases s3 with
        | nil => cases h125
        | cons x r => injection h125 with h125; exact ⟨r, by rw [h125]⟩
       have hv := uIs_y 125 U12 W13 g N _ _ _ _ hQ13
       have HV := Lh hv
       clear hv
       go_wp2_with fail
       refine HV.out.mono ?_
       rintro e W14 ⟨rfl, hb14, U14, hs14, hQ14, hq14⟩
       have hI14 := hI13.next hb14 hs14 hq14
       obtain ⟨v0, v1, v2, v3, v4⟩ := hI14.cells
       by_cases hle : lo ≤ hi
       ·have hz : ¬ (hi : Int) < (lo : Int) := by omega
        have hd3 : decide ((hi : Int) < (lo : Int)) = false := decide_eq_false hz
        have hok : OUT = some (.rep t lo (some hi), r3, d) := by rw [HQ4.out, if_pos ⟨hle, rfl⟩]; rfl
        have hIZ := hI14
        have hv := HR.out U14 W14 r3 lo (some hi) lo hi rfl rfl (hs14.trans us12) hIZ hQ14 hok
        clear hok v0 v1 v4 hQ14 hI14
        have HV := Lh hv
        clear hv
        obtain ⟨z0, z1, -, -, z4⟩ := hIZ.cells
        have HIZ := Lh hIZ
        clear hIZ
        go_wp2_with fail
        refine HV.out.mono ?_
        rintro e w9 ⟨x9, rfl, k9, o9⟩
        have O9 := Lh o9
        clear o9
        go_wp2
        go_ret
        exact ⟨k9, O9.out⟩
       have hz : (hi : Int) < (lo : Int) := by omega
       have hd3 : decide ((hi : Int) < (lo : Int)) = true := decide_eq_true hz
       have hno : OUT = none := by rw [HQ4.out, if_neg (fun h => hle h.1)]; rfl
       have HNO := Lh hno
       clear hno v0 v1 v4
       obtain ⟨c5, f5⟩ := hQ14.at_.cell5
       obtain ⟨U9, us9, hX9, uq9⟩ := hQ14.bad
       have hIZ := hI14.next ((But.refl [g] W14).setCell (p := ⟨g, 5, none⟩) (by simp) (.bool true)) us9 uq9
       obtain ⟨Z, hZ⟩ : ∃ Z, Z = W14.setCell ⟨g, 5, none⟩ (.bool true) := ⟨_, rfl⟩
       rw [← hZ] at hIZ hX9
       have hv := HRX.out U9 Z _ _ hIZ hX9 HNO.out
       have HZ := Lh hZ
       clear hZ
       go_upto_region 16 with fail
       rw [← HZ.out]
       clear HZ
       have HV := Lh hv
       clear hv
       obtain ⟨z0, z1, z2, z3, z4⟩ := hIZ.cells
       have HIZ := Lh hIZ
       clear hIZ
       go_wp2_with fail
       refine HV.out.mono ?_
       rintro e w9 ⟨x9, rfl, k9, o9⟩
       have O9 := Lh o9
       clear o9
       go_wp2
       go_ret
       exact ⟨k9, O9.out⟩
      have hno : OUT = none := by rw [HQ4.out, if_neg (fun h => h125 h.2)]; rfl
      have HNO := Lh hno
      clear hno
      have hv := uIs_n 125 U12 W13 g N _ _ _ _ hQ13 (by first | assumption | simp)
      have HV := Lh hv
      clear hv
      go_wp2_with fail
      refine HV.out.mono ?_
      rintro e W14 ⟨rfl, hb14, U14, hs14, hQ14, hq14⟩
      have hI14 := hI13.next hb14 hs14 hq14
      obtain ⟨c5, f5⟩ := hQ14.at_.cell5
      obtain ⟨U9, us9, hX9, uq9⟩ := hQ14.bad
      have hIZ := hI14.next ((But.refl [g] W14).setCell (p := ⟨g, 5, none⟩) (by simp) (.bool true)) us9 uq9
      obtain ⟨Z, hZ⟩ : ∃ Z, Z = W14.setCell ⟨g, 5, none⟩ (.bool true) := ⟨_, rfl⟩
      rw [← hZ] at hIZ hX9
      have hv := HRX.out U9 Z _ _ hIZ hX9 HNO.out
      have HZ := Lh hZ
      clear hZ
      go_upto_region 16 with fail
      rw [← HZ.out]
      clear HZ
      have HV := Lh hv
      clear hv
      obtain ⟨z0, z1, z2, z3, z4⟩ := hIZ.cells
      have HIZ := Lh hIZ
      clear hIZ
      go_wp2_with fail
      refine HV.out.mono ?_
      rintro e w9 ⟨x9, rfl, k9, o9⟩
      have O9 := Lh o9
      clear o9
      go_wp2
      go_ret
      exact ⟨k9, O9.out⟩
     have hno : OUT = none := by rw [HQ3.out, hd2]; rfl
     have HNO := Lh hno
     obtain ⟨hI13, hb13, f13⟩ := hI12.max 0
     obtain ⟨W13, hW13⟩ : ∃ W13, W13 = W12.setCell ⟨nb, 3, none⟩ (.int .i64 0) := ⟨_, rfl⟩
     rw [← hW13] at hI13 hb13
     have hX13 := hX12.below hb13
     have HW13 := Lh hW13
     clear hno hW13 hd2 HQ3 hb13 hX12
     go_upto_region 12 with fail
     rw [← HW13.out]
     clear HW13 y0 y1 y2 y3 y4
     go_wp2_with fail
     refine (uxIs 125 U12 W13 g _ hX13).mono ?_
     rintro e W14 ⟨rfl, hb14, hX14⟩
     have hI14 := hI13.next hb14 rfl (.refl _ _)
     obtain ⟨c5, f5⟩ := hX14.at_.cell5
     obtain ⟨U9, us9, hX9, uq9⟩ := hX14.bad
     have hIZ := hI14.next ((But.refl [g] W14).setCell (p := ⟨g, 5, none⟩) (by simp) (.bool true)) us9 uq9
     obtain ⟨Z, hZ⟩ : ∃ Z, Z = W14.setCell ⟨g, 5, none⟩ (.bool true) := ⟨_, rfl⟩
     rw [← hZ] at hIZ hX9
     have hv := HRX.out U9 Z _ _ hIZ hX9 HNO.out
     have HZ := Lh hZ
     clear hZ
     go_upto_region 16 with fail
     rw [← HZ.out]
     clear HZ
     have HV := Lh hv
     clear hv
     obtain ⟨z0, z1, z2, z3, z4⟩ := hIZ.cells
     have HIZ := Lh hIZ
     clear hIZ
     go_wp2_with fail
     refine HV.out.mono ?_
     rintro e w9 ⟨x9, rfl, k9, o9⟩
     have O9 := Lh o9
     clear o9
     go_wp2
     go_ret
     exact ⟨k9, O9.out⟩
    have hq3 := HQ2.out
    rw [if_neg hc] at hq3
    have HQ3 := Lh hq3
    clear hq3 HQ2
    by_cases h125 : s2.head? = some 125
    ·obtain ⟨r3, rfl⟩ : ∃ r3, s2 = 125 :: r3 := by
      cases s2 with
      | nil => cases h125
      | cons x r => injection h125 with h125; exact ⟨r, by rw [h125]⟩
     have hv := uIs_n 44 U6 W8 g N _ _ _ _ hQ8 (by first | assumption | simp)
     have HV := Lh hv
     clear hv
     go_wp2_with fail
     refine HV.out.mono ?_
     rintro e W10 ⟨rfl, hb10, U10, hs10, hQ10, hq10⟩
     have hI10 := hI8.next hb10 hs10 hq10
     have hv := uIs_y 125 U10 W10 g N _ _ _ _ hQ10
     have HV := Lh hv
     clear hv
     go_wp2_with fail
     refine HV.out.mono ?_
     rintro e W14 ⟨rfl, hb14, U14, hs14, hQ14, hq14⟩
     have hI14 := hI10.next hb14 hs14 hq14
     have hz : ¬ (lo : Int) < (lo : Int) := by omega
     have hok : OUT = some (.rep t lo (some lo), r3, d) := by rw [HQ3.out, List.head?_cons, if_pos rfl]; rfl
     have hIZ := hI14
     have hv := HR.out U14 W14 r3 lo (some lo) lo lo rfl rfl (hs14.trans (hs10.trans us6)) hIZ hQ14 hok
     clear hok hQ14 hI14
     have HV := Lh hv
     clear hv
     obtain ⟨z0, z1, z2, z3, z4⟩ := hIZ.cells
     have HIZ := Lh hIZ
     clear hIZ
     go_wp2_with fail
     refine HV.out.mono ?_
     rintro e w9 ⟨x9, rfl, k9, o9⟩
     have O9 := Lh o9
     clear o9
     go_wp2
     go_ret
     exact ⟨k9, O9.out⟩
    have hno : OUT = none := by rw [HQ3.out, if_neg h125]; rfl
    have HNO := Lh hno
    clear hno
    have hv := uIs_n 44 U6 W8 g N _ _ _ _ hQ8 (by first | assumption | simp)
    have HV := Lh hv
    clear hv
    go_wp2_with fail
    refine HV.out.mono ?_
    rintro e W10 ⟨rfl, hb10, U10, hs10, hQ10, hq10⟩
    have hI10 := hI8.next hb10 hs10 hq10
    have hv := uIs_n 125 U10 W10 g N _ _ _ _ hQ10 (by first | assumption | simp)
    have HV := Lh hv
    clear hv
    go_wp2_with fail
    refine HV.out.mono ?_
    rintro e W14 ⟨rfl, hb14, U14, hs14, hQ14, hq14⟩
    have hI14 := hI10.next hb14 hs14 hq14
    obtain ⟨c5, f5⟩ := hQ14.at_.cell5
    obtain ⟨U9, us9, hX9, uq9⟩ := hQ14.bad
    have hIZ := hI14.next ((But.refl [g] W14).setCell (p := ⟨g, 5, none⟩) (by simp) (.bool true)) us9 uq9
    obtain ⟨Z, hZ⟩ : ∃ Z, Z = W14.setCell ⟨g, 5, none⟩ (.bool true) := ⟨_, rfl⟩
    rw [← hZ] at hIZ hX9
    have hv := HRX.out U9 Z _ _ hIZ hX9 HNO.out
    have HZ := Lh hZ
    clear hZ
    go_upto_region 16 with fail
    rw [← HZ.out]
    clear HZ
    have HV := Lh hv
    clear hv
    obtain ⟨z0, z1, z2, z3, z4⟩ := hIZ.cells
    have HIZ := Lh hIZ
    clear hIZ
    go_wp2_with fail
    refine HV.out.mono ?_
    rintro e w9 ⟨x9, rfl, k9, o9⟩
    have O9 := Lh o9
    clear o9
    go_wp2
    go_ret
    exact ⟨k9, O9.out⟩
   have hno : OUT = none := by rw [HQ0.out, quantR, if_neg (by decide), if_neg (by decide), if_neg (by decide), if_pos rfl, hd1]; rfl
   have HNO := Lh hno
   obtain ⟨hI7, hb7, f7⟩ := hI6.min 0
   obtain ⟨hI8, hb8, f8⟩ := hI7.max 0
   obtain ⟨W8, hW8⟩ : ∃ W8, W8 = (W6.setCell ⟨nb, 2, none⟩ (.int .i64 0)).setCell ⟨nb, 3, none⟩ (.int .i64 0) := ⟨_, rfl⟩
   obtain ⟨x0, x1, x2, x3, x4⟩ := hI7.cells
   rw [← hW8] at hI8 hb8
   have hX8 := (hX6.below hb7).below hb8
   have HW8 := Lh hW8
   clear hno hW8 hd1 HQ0 hb7 hb8 hI7 hX6
   go_upto_region 10 with fail
   rw [← HW8.out]
   clear HW8 x0 x1 x2 x3 x4 y0 y1 y2 y3 y4 f7 f8
   go_wp2_with fail
   refine (uxIs 44 U6 W8 g _ hX8).mono ?_
   rintro e W10 ⟨rfl, hb10, hX10⟩
   have hI10 := hI8.next hb10 rfl (.refl _ _)
   go_wp2_with fail
   refine (uxIs 125 U6 W10 g _ hX10).mono ?_
   rintro e W11 ⟨rfl, hb11, hX11⟩
   have hI11 := hI10.next hb11 rfl (.refl _ _)
   obtain ⟨c5, f5⟩ := hX11.at_.cell5
   obtain ⟨U9, us9, hX9, uq9⟩ := hX11.bad
   have hIZ := hI11.next ((But.refl [g] W11).setCell (p := ⟨g, 5, none⟩) (by simp) (.bool true)) us9 uq9
   obtain ⟨Z, hZ⟩ : ∃ Z, Z = W11.setCell ⟨g, 5, none⟩ (.bool true) := ⟨_, rfl⟩
   rw [← hZ] at hIZ hX9
   have hv := HRX.out U9 Z _ _ hIZ hX9 HNO.out
   have HZ := Lh hZ
   clear hZ
   go_upto_region 16 with fail
   rw [← HZ.out]
   clear HZ
   have HV := Lh hv
   clear hv
   obtain ⟨z0, z1, z2, z3, z4⟩ := hIZ.cells
   have HIZ := Lh hIZ
   clear hIZ
   go_wp2_with fail
   refine HV.out.mono ?_
   rintro e w9 ⟨x9, rfl, k9, o9⟩
   have O9 := Lh o9
   clear o9
   go_wp2
   go_ret
   exact ⟨k9, O9.out⟩
  have hq : OUT = some (t, s1, d) := by
   rw [HE2.out]
   cases s1 with
   | nil => rfl
   | cons x r =>
    have e1 : x ≠ 42 := fun e => c3 (by rw [e]; rfl)
    have e2 : x ≠ 43 := fun e => c1 (by rw [e]; rfl)
    have e3 : x ≠ 63 := fun e => c2 (by rw [e]; rfl)
    have e4 : x ≠ 123 := fun e => c4 (by rw [e]; rfl)
    rw [quantR, if_neg e1, if_neg e2, if_neg e3, if_neg e4]
    rfl
  have HOK := Lh hq
  clear hq
  have hv := uIs_n 43 w2 W g N _ _ _ _ HQ.out (by first | assumption | simp)
  have HV := Lh hv
  clear hv
  go_wp2_with fail
  refine HV.out.mono ?_
  rintro e W3 ⟨rfl, hb3, U3, hs3, hQ3, hq3⟩
  have hI3 := HI.out.next hb3 hs3 hq3
  have hv := uIs_n 63 U3 W3 g N _ _ _ _ hQ3 (by first | assumption | simp)
  have HV := Lh hv
  clear hv
  go_wp2_with fail
  refine HV.out.mono ?_
  rintro e W4 ⟨rfl, hb4, U4, hs4, hQ4, hq4⟩
  have hI4 := hI3.next hb4 hs4 hq4
  have hv := uIs_n 123 U4 W4 g N _ _ _ _ hQ4 (by first | assumption | simp)
  have HV := Lh hv
  clear hv
  go_wp2_with fail
  refine HV.out.mono ?_
  rintro e W5 ⟨rfl, hb5, U5, hs5, hQ5, hq5⟩
  have hI5 := hI4.next hb5 hs5 hq5
  have hv := uIs_n 42 U5 W5 g N _ _ _ _ hQ5 (by first | assumption | simp)
  have HV := Lh hv
  clear hv
  go_wp2_with fail
  refine HV.out.mono ?_
  rintro e W6 ⟨rfl, hb6, U6, hs6, hQ6, hq6⟩
  have hI6 := hI5.next hb6 hs6 hq6
  have us6 := hs6.trans (hs5.trans (hs4.trans hs3))
  have HQ6 := Lh hQ6; have HI6 := Lh hI6; have HUS := Lh us6
  clear hQ6 hI6 us6 hs6 hs5 hs4 hs3
  go_wp2
  go_ret
  have s6 := HQ6.out.low.size
  have s7 := HI6.out.qp.keep.size
  refine ⟨HI6.out.qp.trans (.of_below HQ6.out.low (Nat.le_of_lt HI6.out.gl)), ?_⟩
  rw [HOK.out]
  refine ⟨congrArg (fun x : Nat => Ending.returned (.int .i64 (x : Int))) Hkv.out.symm, ?_⟩
  rw [Hmo.out]
  refine HQ6.out.at_.mono (fun k hk => ?_) (Ext.lt HF.out (by omega))
  rcases hk with hk | hk
  ·exact .inl hk
  exact .inr ⟨hk.1, by have := HUS.out; omega⟩
end Go.Proofs.YtecejnilajbdpaaGreatDoor
