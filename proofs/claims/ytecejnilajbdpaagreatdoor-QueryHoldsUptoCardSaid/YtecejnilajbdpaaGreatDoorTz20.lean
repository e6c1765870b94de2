import Derived.Test.YtecejnilajbdpaaGreatDoorTz19
import Derived.Test.YtecejnilajbdpaaGreatDoorTz18
set_option maxRecDepth 100000
set_option maxHeartbeats 16000000
namespace Go.Proofs.YtecejnilajbdpaaGreatDoor
open Go.RowKit Garner
theorem mkRow {t e : TypeId} {z : Value} {bytes : Nat} (E : Elem Tryz.prog t e z 1 bytes) (hz1 : z.cells = #[z]) (n : Nat) (u : World) (hn : n ≤ 100000) (hb : bytes ≤ 1000) : ∃ w', (Instr.makeSlice t (.int .i64 n) (.int .i64 n)).run Tryz.prog u = .ok (.slice (some ⟨u.heap.size, 0, none⟩) n n) w' ∧
  w'.ownsRow u.heap.size e 1 (.slice (some ⟨u.heap.size, 0, none⟩) n n) n (List.replicate n z) ∧ Below u.heap.size u w' := by
 obtain ⟨i, hi, hz, hsz, hby⟩ : ∃ i, Tryz.prog.info? e = some i ∧ i.zero = some z ∧ i.size = 1 ∧ i.bytes = bytes := by
  have h := E.info
  cases hi : Tryz.prog.info? e with
  | none => rw [hi] at h; cases h
  | some i => rw [hi] at h; simp at h; exact ⟨i, rfl, h.1, h.2.1, h.2.2⟩
 have hnb : n * bytes ≤ 100000 * 1000 := Nat.mul_le_mul hn hb
 obtain ⟨w', h1, h2, h3⟩ := run_make_full (P := Tryz.prog) u u.heap.size t e i _ 1 E.slice hi hz hsz .i64 .i64 n (by rw [hby]; first | omega | (rw [Nat.mul_comm]; omega)) (by unfold maxLen; omega) (Nat.le_refl _)
 refine ⟨w', h1, ?_, (But.grown (S := []) h3 (by simp)).below (Nat.le_refl _) (by simp)⟩
 have e : (madeCells z.cells (n * 1)).toList = List.replicate n z := by
  rw [Nat.mul_one, hz1]
  apply List.ext_getElem
  ·simp [madeCells]
  intro k h1 h2
  simp [madeCells, Nat.mod_one]
 rw [← e]; exact h2
theorem cells_at : ∀ {ds : List NodeD} {k : Nat} {d : NodeD}, ds[k]? = some d → ∀ j, j < 5 → (ds.flatMap NodeD.cells)[k * 5 + j]? = d.cells[j]?
 | [], k, d, h, j, hj => by simp at h
 | x :: ds, 0, d, h, j, hj => by
  simp at h; subst h
  rw [List.flatMap_cons, List.getElem?_append_left (by show 0 * 5 + j < 5; omega), Nat.zero_mul, Nat.zero_add]
 | x :: ds, k + 1, d, h, j, hj => by
  have ih := cells_at (ds := ds) (k := k) (d := d) (by simpa using h) j hj
  have hl : x.cells.length = 5 := rfl
  rw [List.flatMap_cons, List.getElem?_append_right (by omega), hl, show (k + 1) * 5 + j - 5 = k * 5 + j by omega]
  exact ih
def NodeLim (n : NodeP) : Prop := n.kind ≤ 7 ∧ n.mn ≤ 8 ∧ -1 ≤ n.mx ∧ n.mx ≤ 8 ∧ n.kids.length ≤ 10000
theorem kids_le (c : Nat) (S : List Nat) : ∀ (ks : List Nat) (a : Nat), a ≤ 2000 → ks.foldl (fun a k => min 2000 (a + c * S.getD k 0)) a ≤ 2000
 | [], a, h => h
 | k :: ks, a, _ => kids_le c S ks _ (by show min 2000 _ ≤ 2000; omega)
theorem kids_take (c : Nat) (S : List Nat) {ks : List Nat} {j k : Nat} (h : ks[j]? = some k) : kidsSize c S (ks.take (j + 1)) = min 2000 (kidsSize c S (ks.take j) + c * S.getD k 0) := by
 obtain ⟨hj, e⟩ := List.getElem?_eq_some_iff.1 h
 unfold kidsSize
 rw [List.take_succ_eq_append_getElem hj, List.foldl_append, e]
 rfl
theorem sizes_take {ns : List NodeP} {k : Nat} {n : NodeP} (h : ns[k]? = some n) : sizesGo [] (ns.take (k + 1)) = sizesGo [] (ns.take k) ++ [nodeSize (sizesGo [] (ns.take k)) n] := by
 obtain ⟨hj, e⟩ := List.getElem?_eq_some_iff.1 h
 rw [List.take_succ_eq_append_getElem hj, sizesGo_app, e]
 rfl
theorem sizes_le : ∀ (ns : List NodeP) (S : List Nat), (∀ x ∈ S, x ≤ 2000) → ∀ x ∈ sizesGo S ns, x ≤ 2000
 | [], S, h => h
 | n :: ns, S, h => sizes_le ns (S ++ [nodeSize S n]) fun x hx => by
  rcases List.mem_append.1 hx with hx | hx
  ·exact h x hx
  rw [List.mem_singleton.1 hx]; exact kids_le _ _ _ _ (by omega)
theorem vSize {F : Nat → Prop} (B : Nat) (A : Option Addr) (c : Nat) (ns : List NodeP) (w : World) (h : NodesIs F w B (.slice A ns.length c) ns) (hne : ns ≠ []) (hlen : ns.length ≤ 10000) (hwf : WfN ns) (hlim : ∀ n ∈ ns, NodeLim n) :
  Calls Tryz.prog 91 #[.slice A ns.length c] w fun e w' => e = .returned (.int .i64 (((sizesGo [] ns).getLastD 0 : Nat) : Int)) ∧ Below w.heap.size w w' := by
 obtain ⟨ds, hds, hown, hok⟩ := h
 have hpos := List.length_pos_iff.2 hne
 obtain ⟨gN, rfl, -, hgN, -, -, hcell⟩ := own_at hown hpos
 obtain ⟨x, hx⟩ : ∃ x, (sizesGo [] ns).getLastD 0 = x := ⟨_, rfl⟩
 rw [hx]
 have Hx := Lh hx
 clear hx
 obtain ⟨N, hN⟩ : ∃ N, ns.length = N := ⟨_, rfl⟩
 rw [hN] at hcell hpos hlen ⊢
 obtain ⟨w1, hmk, own1, b1⟩ := mkRow intE rfl N w (by omega) (by omega)
 have HN := Lh hN; have Hds := Lh hds; have Hok := Lh hok; have Hcell := Lh hcell; have Hwf := Lh hwf; have Hlim := Lh hlim
 have s1 := b1.size
 clear hN hds hok hcell hwf hlim hown
 go_enter Tryz.func91, Tryz.ntmps91
 go_wp2
 go_loopw [14] (fun i wr => ∃ k : Nat, k ≤ N ∧ i = .int .i64 k ∧ wr.ownsRow w.heap.size 3 1 (.slice (some ⟨w.heap.size, 0, none⟩) N N) N ((sizesGo [] (ns.take k) ++ List.replicate (N - k) 0).map iv) ∧ Below w.heap.size w wr) (fun i _ => N - (intOf i).toNat)
 case atStart => exact ⟨0, Nat.zero_le _, rfl, by simpa [sizesGo, iv] using own1, b1⟩
 obtain ⟨k, hk, rfl, hown, hbel⟩ := hrel
 obtain ⟨wo, rfl⟩ : ∃ wo : World, wo = wr := ⟨_, rfl⟩
 have hs0 := hbel.size
 have hsw := (hown.lt w.heap.size rfl).2
 have wk1 := wS k (by omega)
 by_cases hlt : k < N
 ·obtain ⟨d, hd⟩ : ∃ d, ds[k]? = some d := ⟨_, List.getElem?_eq_getElem (by have e1 := HN.out; have e2 := congrArg List.length Hds.out; rw [List.length_map] at e2; omega)⟩
  have hnk : ns[k]? = some d.n := by rw [← Hds.out, List.getElem?_map, hd]; rfl
  have hlm := Hlim.out d.n (List.mem_of_getElem? hnk)
  have hdo := Hok.out d (List.mem_of_getElem? hd)
  have cc : ∀ j, j < 5 → wo.cell? ⟨gN, k * 5 + j, none⟩ = d.cells[j]? := fun j hj => by
   rw [hbel.cell (p := ⟨gN, k * 5 + j, none⟩) hgN, Hcell.out (k * 5 + j) (by omega), cells_at hd j hj]
  have c0 : wo.cell? ⟨gN, k * 5, none⟩ = some (.int .i64 (d.n.kind : Nat)) := cc 0 (by omega)
  have c1 : wo.cell? ⟨gN, k * 5 + 1, none⟩ = some (.slice d.kA d.n.kids.length d.kc) := cc 1 (by omega)
  have c2 : wo.cell? ⟨gN, k * 5 + 2, none⟩ = some (.int .i64 (d.n.mn : Nat)) := cc 2 (by omega)
  have c3 : wo.cell? ⟨gN, k * 5 + 3, none⟩ = some (.int .i64 d.n.mx) := cc 3 (by omega)
  have c4 : wo.cell? ⟨gN, k * 5 + 4, none⟩ = some (.slice d.sA d.n.set.length d.sc) := cc 4 (by omega)
  obtain ⟨l1, l2, l3, l4, l5⟩ := hlm
  have z1 : (k : Int) < (N : Int) := by omega
  clear cc
  obtain ⟨kd, hkd⟩ : ∃ kd, d.n.kind = kd := ⟨_, rfl⟩
  obtain ⟨mn, hmn⟩ : ∃ mn, d.n.mn = mn := ⟨_, rfl⟩
  obtain ⟨mx, hmx⟩ : ∃ mx, d.n.mx = mx := ⟨_, rfl⟩
  obtain ⟨kl, hkl⟩ : ∃ kl, d.n.kids.length = kl := ⟨_, rfl⟩
  obtain ⟨sl, hsl⟩ : ∃ sl, d.n.set.length = sl := ⟨_, rfl⟩
  rw [hkd] at c0 l1; rw [hmn] at c2 l2; rw [hmx] at c3 l3 l4; rw [hkl] at c1 l5; rw [hsl] at c4
  obtain ⟨KA, hKA⟩ : ∃ KA, d.kA = KA := ⟨_, rfl⟩
  have hdk := hdo.kids
  rw [hKA] at c1 hdk
  obtain ⟨T, hT⟩ : ∃ T, nodeTimes d.n = T := ⟨_, rfl⟩
  have hT9 : T ≤ 9 := by
   rw [← hT]; unfold nodeTimes
   rw [hmn, hmx]
   split
   ·split <;> omega
   omega
  have ht := hT
  unfold nodeTimes at ht
  rw [hkd, hmn, hmx] at ht
  have Hht := Lh ht; have HT := Lh hT; have Hdk := Lh hdk; have Hnk := Lh hnk; have Hkl := Lh hkl; have Hw := Lh (Hwf.out k d.n hnk)
  clear ht hT hdo hdk hKA hnk hkl hkd hmn hmx hsl hd
  have hSl : (sizesGo [] (ns.take k)).length = k := by rw [sizesGo_len, List.length_take]; have := HN.out; simp; omega
  have hSb := sizes_le (ns.take k) [] (by simp)
  obtain ⟨S, hS⟩ : ∃ S, sizesGo [] (ns.take k) = S := ⟨_, rfl⟩
  rw [hS] at hown hSl hSb
  have HS := Lh hS; have HSl := Lh hSl; have HSb := Lh hSb
  clear hS hSl hSb
  have bX : Below w.heap.size w (wo.alloc (.cells #[.int .i64 (kd : Nat), .slice KA kl d.kc, .int .i64 (mn : Nat), .int .i64 mx, .slice d.sA sl d.sc] 182)) := hbel.alloc hs0 _
  have oX := hown.alloc (.cells #[.int .i64 (kd : Nat), .slice KA kl d.kc, .int .i64 (mn : Nat), .int .i64 mx, .slice d.sA sl d.sc] 182)
  have xX := Blk.new wo 182 [.int .i64 (kd : Nat), .slice KA kl d.kc, .int .i64 (mn : Nat), .int .i64 mx, .slice d.sA sl d.sc]
  go_upto_if 21 with fail
  obtain ⟨X, hX⟩ : ∃ X, X = wo.alloc (.cells #[.int .i64 (kd : Nat), .slice KA kl d.kc, .int .i64 (mn : Nat), .int .i64 mx, .slice d.sA sl d.sc] 182) := ⟨_, rfl⟩
  rw [← hX]
  have xX' : Blk X wo.heap.size 182 [.int .i64 (kd : Nat), .slice KA kl d.kc, .int .i64 (mn : Nat), .int .i64 mx, .slice d.sA sl d.sc] := by rw [hX]; exact xX
  rw [← hX] at bX oX
  have x1 : X.cell? ⟨wo.heap.size, 1, none⟩ = some (.slice KA kl d.kc) := xX'.cell 1
  have x2 : X.cell? ⟨wo.heap.size, 2, none⟩ = some (.int .i64 (mn : Nat)) := xX'.cell 2
  have x3 : X.cell? ⟨wo.heap.size, 3, none⟩ = some (.int .i64 mx) := xX'.cell 3
  clear hX xX xX' c0 c1 c2 c3 c4 hown
  go_cut [6] (fun s6 wx => s6 = .int .i64 (T : Nat) ∧ wx = X)
  case first =>
   by_cases h5 : kd = 5
   ·subst h5
    by_cases hm : mx < 0
    ·have e : T = mn + 1 := by rw [← Hht.out, if_pos rfl, if_pos hm]
     have E := Lh e; clear e
     go_wp2_with fail
     go_meet
     exact ⟨congrArg (Value.int .i64) (by rw [E.out]; rfl), rfl⟩
    have e : T = max mx.toNat 1 := by rw [← Hht.out, if_pos rfl, if_neg hm]
    have E := Lh e; clear e
    go_wp2_with fail
    go_meet
    exact ⟨congrArg (Value.int .i64) (by rw [E.out]; omega), rfl⟩
   have e : T = 1 := by rw [← Hht.out, if_neg h5]
   have E := Lh e; clear e
   have z5 : ¬ (kd : Int) = 5 := by omega
   have z5' : ((kd : Int) == 5) = false := by simp; omega
   go_wp2_with fail
   go_meet
   exact ⟨congrArg (Value.int .i64) (by rw [E.out]; rfl), rfl⟩
  obtain ⟨rfl, hw⟩ := hcut
  obtain rfl : X = wc := hw.symm
  have hne : w.heap.size ≠ wo.heap.size := by omega
  have ck : X.cell? ⟨w.heap.size, k, none⟩ = some (.int .i64 0) := by
   rw [oX.cellAt k (by omega), List.getElem?_map, List.getElem?_append_right (by rw [HSl.out]; exact Nat.le_refl _), HSl.out, Nat.sub_self, List.getElem?_replicate, if_pos (by omega)]
   rfl
  have fk := oX.frozenAt k
  obtain ⟨oY, -⟩ := oX.stored k (.int .i64 1)
  have bY := bX.setCell (p := ⟨w.heap.size, k, none⟩) (Nat.le_refl _) (.int .i64 1)
  have y1 : (X.setCell ⟨w.heap.size, k, none⟩ (.int .i64 1)).cell? ⟨wo.heap.size, 1, none⟩ = some (.slice KA kl d.kc) := by
   rw [World.cell?_setCell_other _ _ _ _ (fun e => hne (congrArg Addr.block e))]; exact x1
  clear x1 x2 x3 oX bX
  go_wp2
  obtain ⟨Y, hY⟩ : ∃ Y, Y = X.setCell ⟨w.heap.size, k, none⟩ (.int .i64 1) := ⟨_, rfl⟩
  rw [← hY] at oY bY y1 ⊢
  clear hY ck fk
  have eY : ((S ++ List.replicate (N - k) 0).map iv).set k (.int .i64 1) = (S ++ 1 :: List.replicate (N - k - 1) 0).map iv := by
   have h1 := HSl.out
   have h2 : List.replicate (N - k) 0 = 0 :: List.replicate (N - k - 1) 0 := by
    rw [show N - k = (N - k - 1) + 1 by omega, List.replicate_succ]; rfl
   rw [h2, List.map_append, List.set_append, if_neg (by rw [List.length_map]; omega), List.length_map, h1, Nat.sub_self, List.map_append]
   rfl
  rw [eY] at oY
  clear eY
  have sY := bY.size
  go_loopw [37] (fun i wr => ∃ j a : Nat, j ≤ kl ∧ i = .int .i64 j ∧ a ≤ 2000 ∧ Hid (a = kidsSize T S (d.n.kids.take j)) ∧ wr.ownsRow w.heap.size 3 1 (.slice (some ⟨w.heap.size, 0, none⟩) N N) N ((S ++ a :: List.replicate (N - k - 1) 0).map iv) ∧ Below w.heap.size w wr) (fun i _ => kl - (intOf i).toNat)
  case atStart => exact ⟨0, 1, Nat.zero_le _, rfl, by omega, Lh rfl, oY, bY⟩
  obtain ⟨j, a, hj, rfl, ha2, haa, hown2, hbel2⟩ := hrel
  obtain ⟨wp, rfl⟩ : ∃ wp : World, wp = wr := ⟨_, rfl⟩
  have wj1 := wS j (by omega)
  by_cases hjl : j < kl
  ·obtain ⟨kid, hkid⟩ : ∃ kid, d.n.kids[j]? = some kid := ⟨_, List.getElem?_eq_getElem (by rw [Hkl.out]; exact hjl)⟩
   have hkk := Hw.out kid (List.mem_of_getElem? hkid)
   obtain ⟨y, hy⟩ : ∃ y, S[kid]? = some y := ⟨_, List.getElem?_eq_getElem (by rw [HSl.out]; exact hkk)⟩
   have hy2 := HSb.out y (List.mem_of_getElem? hy)
   have hrow := Hdk.out.below hbel2
   obtain ⟨bk, ok, rfl, ck0⟩ := hrow.at_ (k := j) (u := iv kid) (by rw [List.getElem?_map, hkid]; rfl)
   have ckid : wp.cell? ⟨bk, ok + j, none⟩ = some (.int .i64 (kid : Nat)) := ck0
   clear ck0
   have cS : wp.cell? ⟨w.heap.size, kid, none⟩ = some (.int .i64 (y : Nat)) := by
    rw [hown2.cellAt kid (by omega), List.getElem?_map, List.getElem?_append_left (by rw [HSl.out]; exact hkk), hy]; rfl
   have ck : wp.cell? ⟨w.heap.size, k, none⟩ = some (.int .i64 (a : Nat)) := by
    rw [hown2.cellAt k (by omega), List.getElem?_map, List.getElem?_append_right (by rw [HSl.out]; exact Nat.le_refl _), HSl.out, Nat.sub_self]; rfl
   have fk := hown2.frozenAt k
   have z2 : (j : Int) < (kl : Int) := by omega
   have hTy : T * y ≤ 18000 := by
    have := Nat.mul_le_mul hT9 hy2
    omega
   obtain ⟨Q, hQ⟩ : ∃ Q, T * y = Q := ⟨_, rfl⟩
   have wm0 : (T : Int) * (y : Int) = (Q : Int) := by rw [← hQ, Int.natCast_mul]
   have wm : IntKind.i64.wrap ((T : Int) * (y : Int)) = (Q : Int) := by
    rw [wm0, IntKind.wrap_i64]; omega
   have wa : IntKind.i64.wrap ((a : Int) + (Q : Int)) = ((a + Q : Nat) : Int) := by rw [IntKind.wrap_i64]; omega
   have hstep := kids_take T S hkid
   rw [← haa.out] at hstep
   have hSd : S.getD kid 0 = y := by rw [List.getD_eq_getElem?_getD, hy]; rfl
   rw [hSd, hQ] at hstep
   rw [hQ] at hTy
   have Hst := Lh hstep
   have z3 : (kid : Int) < (N : Int) := by omega
   have Wm0 := Lh wm0
   clear hstep hSd hy hkid hrow haa wm0 hQ
   go_upto_region 14 with fail
   have sS : (wp.drew.cell? ⟨w.heap.size, k, none⟩ = some (.int .i64 (a : Nat)) ∧ wp.drew.frozen? ⟨w.heap.size, k, none⟩ = false) ∧ wp.drew.cell? ⟨w.heap.size, kid, none⟩ = some (.int .i64 (y : Nat)) := ⟨⟨ck, fk⟩, cS⟩
   refine rgQ (fun w' => (w'.cell? ⟨w.heap.size, k, none⟩ = some (.int .i64 (a : Nat)) ∧ w'.frozen? ⟨w.heap.size, k, none⟩ = false) ∧ w'.cell? ⟨w.heap.size, kid, none⟩ = some (.int .i64 (y : Nat))) 15 (by kernel_rfl) (fun _ _ d _ _ h => by cases d <;> exact h) fun qP => ?_
   apply tkq 0 (by kernel_rfl) rfl qP sS
   ·intro w' hS'; go_simp; exact ⟨rfl, rfl⟩
   apply tkq 1 (by kernel_rfl) rfl qP sS
   ·intro w' hS'; go_simp; exact ⟨rfl, rfl⟩
   apply tkq 2 (by kernel_rfl) rfl qP sS
   ·intro w' hS'; go_simp; exact ⟨rfl, rfl⟩
   apply tkq 3 (by kernel_rfl) rfl qP sS
   ·intro w' hS'; go_simp; exact ⟨rfl, rfl⟩
   apply tkq 4 (v := (.pointer (some ⟨w.heap.size, k, none⟩))) (by kernel_rfl) rfl qP sS
   ·intro w' hS'
    (go_simp; exact ⟨rfl, rfl⟩)
   apply tkq 5 (v := (.int .i64 (a : Nat))) (by kernel_rfl) rfl qP sS
   ·intro w' hS'; have k1 := hS'.1.1; go_simp; exact ⟨rfl, rfl⟩
   apply tkq 6 (by kernel_rfl) rfl qP sS
   ·intro w' hS'; go_simp; exact ⟨rfl, rfl⟩
   apply tkq 7 (by kernel_rfl) rfl qP sS
   ·intro w' hS'; go_simp; exact ⟨rfl, rfl⟩
   apply tkq 8 (by kernel_rfl) rfl qP sS
   ·intro w' hS'; go_simp; exact ⟨rfl, rfl⟩
   apply tkq 9 (v := (.pointer (some ⟨w.heap.size, kid, none⟩))) (by kernel_rfl) rfl qP sS
   ·intro w' hS'
    (go_simp; exact ⟨rfl, rfl⟩)
   apply tkq 10 (v := (.int .i64 (y : Nat))) (by kernel_rfl) rfl qP sS
   ·intro w' hS'; have k1 := hS'.2; go_simp; exact ⟨rfl, rfl⟩
   apply tkq 11 (v := (.int .i64 (Q : Nat))) (by kernel_rfl) rfl qP sS
   ·intro w' hS'
    (go_simp; first | exact ⟨rfl, rfl⟩ | exact ⟨congrArg (Value.int .i64) Wm0.out, rfl⟩)
   apply tkq 12 (v := (.int .i64 ((a + Q : Nat) : Int))) (by kernel_rfl) rfl qP sS
   ·intro w' hS'
    (go_simp; first | exact ⟨rfl, rfl⟩ | exact ⟨congrArg (Value.int .i64) (by omega), rfl⟩)
   apply tkq 13 (v := (.int .i64 ((min 2000 (a + Q) : Nat) : Int))) (by kernel_rfl) rfl qP sS
   ·intro w' hS'
    (go_simp; first | exact ⟨rfl, rfl⟩ | exact ⟨congrArg (Value.int .i64) (by omega), rfl⟩)
   apply tkq 14 (v := (.pointer (some ⟨w.heap.size, k, none⟩))) (by kernel_rfl) rfl qP sS
   ·intro w' hS'
    (go_simp; exact ⟨rfl, rfl⟩)
   (try simp only [Act.put]); (try simp only [List.setIfInBounds_toArray]); (try simp only [List.set])
   have cs := sS.1.1
   have fs := sS.1.2
   refine rnL 15 (by kernel_rfl) rfl (by kernel_rfl) (fun K hK => ?_)
   go_simp
   refine hK _ _ (fun h => absurd rfl h) ?_
   clear hK K cs fs sS
   (try simp only [Act.put])
   refine dnL (by kernel_rfl) ?_ _
   obtain ⟨own3, -⟩ := hown2.stored k (.int .i64 ((min 2000 (a + Q) : Nat) : Int))
   have e3 : ((S ++ a :: List.replicate (N - k - 1) 0).map iv).set k (.int .i64 ((min 2000 (a + Q) : Nat) : Int)) = (S ++ min 2000 (a + Q) :: List.replicate (N - k - 1) 0).map iv := by
    rw [List.map_append, List.set_append, if_neg (by rw [List.length_map, HSl.out]; omega), List.length_map, HSl.out, Nat.sub_self, List.map_append]
    rfl
   rw [e3] at own3
   have b3 := (hbel2.setCell (p := ⟨w.heap.size, k, none⟩) (Nat.le_refl _) (.int .i64 ((min 2000 (a + Q) : Nat) : Int))).drew
   have O3 := Lh own3; have B3 := Lh b3
   clear own3 b3 e3 hown2 ck fk cS
   go_wp2
   go_roundw
   case rel => exact ⟨j + 1, min 2000 (a + Q), by omega, rfl, by omega, Lh Hst.out.symm, O3.out, B3.out⟩
   case measure => simp [intOf]; omega
  have z2 : ¬ (j : Int) < (kl : Int) := by omega
  have haf := haa.out
  rw [List.take_of_length_le (by rw [Hkl.out]; omega)] at haf
  have hst := sizes_take Hnk.out
  rw [HS.out] at hst
  have hns : nodeSize S d.n = a := by rw [haf]; unfold nodeSize; rw [HT.out]
  rw [hns] at hst
  have hfin : wp.ownsRow w.heap.size 3 1 (.slice (some ⟨w.heap.size, 0, none⟩) N N) N ((sizesGo [] (ns.take (k + 1)) ++ List.replicate (N - (k + 1)) 0).map iv) := by
   rw [hst, List.append_assoc]
   exact hown2
  have HF := Lh hfin
  clear haf hst hns hfin haa hown2
  go_wp2
  go_roundw
  case rel => exact ⟨k + 1, by omega, rfl, HF.out, hbel2⟩
  case measure => simp [intOf]; omega
 have z1 : ¬ (k : Int) < (N : Int) := by omega
 obtain rfl : k = N := by omega
 rw [List.take_of_length_le (by rw [HN.out]; exact Nat.le_refl _), Nat.sub_self] at hown
 have hl : (sizesGo [] ns).length = k := by rw [sizesGo_len, HN.out]; simp
 have wl : IntKind.i64.wrap ((k : Int) - 1) = ((k - 1 : Nat) : Int) := by rw [IntKind.wrap_i64]; omega
 have z2 : ((k - 1 : Nat) : Int) < (k : Int) := by omega
 have cl : wo.cell? ⟨w.heap.size, k - 1, none⟩ = some (.int .i64 (x : Nat)) := by
  rw [← Hx.out, hown.cellAt (k - 1) (by omega), List.replicate_zero, List.append_nil, List.getElem?_map, List.getLastD_eq_getLast?, List.getLast?_eq_getElem?, hl, List.getElem?_eq_getElem (by omega)]
  rfl
 clear hl hown
 go_wp2
 go_ret
 exact ⟨rfl, hbel⟩
end Go.Proofs.YtecejnilajbdpaaGreatDoor
