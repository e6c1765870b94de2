import Derived.Test.YtmddgimadlmacaaDoorWs36
import Derived.Test.YtmddgimadlmacaaDoorWs20
import Derived.Deep.CutBlock
/-! the document's disk: Restart -/
namespace Go.Proofs.YtmddgimadlmacaaDoor
open Go.RowKit Garner

theorem rfCells_set12 (u v : Value) : ∀ (rs : Files) (i : Nat) (hi : i < rs.length) (e' : FileE), rfV (rs[i].1, e') = ((rfV rs[i]).set 1 u).set 2 v → ((rfCells rs).set (i * 3 + 1) u).set (i * 3 + 2) v = rfCells (rs.set i (rs[i].1, e'))
  | s :: l, 0, _, e', h => by
    have h1 : rfCells (s :: l) = rfV s ++ rfCells l := rfl
    have h2 : rfCells ((s :: l).set 0 ((s :: l)[0].1, e')) = rfV (s.1, e') ++ rfCells l := rfl
    have h3 : rfV (s.1, e') = ((rfV s).set 1 u).set 2 v := h
    rw [h1, h2, h3, List.set_append_left _ _ (by simp [rfV]), List.set_append_left _ _ (by simp [rfV])]
  | s :: l, i + 1, hi, e', h => by
    have h1 : rfCells (s :: l) = rfV s ++ rfCells l := rfl
    have ih := rfCells_set12 u v l i (by simpa using hi) e' h
    have h2 : rfCells ((s :: l).set (i + 1) ((s :: l)[i + 1].1, e')) = rfV s ++ rfCells (l.set i ((l[i]'(by simpa using hi)).1, e')) := rfl
    have e1 : (i + 1) * 3 + 1 - (rfV s).length = i * 3 + 1 := by simp [rfV]; omega
    have e2 : (i + 1) * 3 + 2 - (rfV s).length = i * 3 + 2 := by simp [rfV]; omega
    rw [h1, h2, ← ih, List.set_append_right _ _ (by simp [rfV]; omega), List.set_append_right _ _ (by simp [rfV]; omega), e1, e2]
theorem RefIs.setBoth {w : World} {g fb : Nat} {rs : Files} {fl dn : Bool} {left : Int} (h : RefT w g fb rs fl dn left) {i : Nat} (hi : i < rs.length) (e : FileE) (he : FileOk (fun _ => True) w e) :
    RefT ((w.setCell ⟨fb, i * 3 + 1, none⟩ (.slice e.A e.data.length e.c)).setCell ⟨fb, i * 3 + 2, none⟩ (.int .i64 e.synced)) g fb (rs.set i (rs[i].1, e)) fl dn left := by
  obtain ⟨A, c', h1, h2, h3⟩ := h.own
  obtain ⟨c, d0, _⟩ := h.at_ hi
  have e0 := h1.cell 0
  rw [d0] at e0
  simp only [List.getElem?_cons_zero, Option.some.injEq, Value.slice.injEq, true_and] at e0
  obtain ⟨rfl, rfl⟩ := e0
  have hb : But [fb] w ((w.setCell ⟨fb, i * 3 + 1, none⟩ (.slice e.A e.data.length e.c)).setCell ⟨fb, i * 3 + 2, none⟩ (.int .i64 e.synced)) := ((But.refl _ _).setCell (by simp) _).setCell (by simp) _
  have hown := own_set (j := i * 3 + 2) (u := .int .i64 e.synced) (own_set (j := i * 3 + 1) (u := .slice e.A e.data.length e.c) h2)
  rw [rfCells_set12 _ _ rs i hi e rfl] at hown
  have hnb : ∀ k ∈ [fb], NB w k ∨ w.heap.size ≤ k := fun k hk => by simp only [List.mem_cons, List.not_mem_nil, or_false] at hk; subst hk; exact Or.inl h.nb
  refine h.rows (by omega) d0 hb hown (by rw [List.length_set]) (keys_set hi _) (fun p hp => ?_)
  rcases List.mem_or_eq_of_mem_set hp with hp | rfl
  · exact (h.files p hp).butT hb hnb
  · exact he.butT hb hnb
/-- the files cut by their place, the first i of them -/
def rstI (keep : List Int) (i : Nat) (fs : List (Bs × FileD)) : List (Bs × FileD) := fs.mapIdx fun j p => if j < i then (p.1, cutD keep j p.2) else p
theorem rstI_zero (keep : List Int) (fs : List (Bs × FileD)) : rstI keep 0 fs = fs := by
  unfold rstI; apply List.ext_getElem (by simp); intro j h1 h2; simp
theorem rstI_step (keep : List Int) {fs : List (Bs × FileD)} {i : Nat} (hi : i < fs.length) : (rstI keep i fs).set i (fs[i].1, cutD keep i fs[i].2) = rstI keep (i + 1) fs := by
  unfold rstI
  apply List.ext_getElem (by simp)
  intro j h1 h2
  rw [List.getElem_set, List.getElem_mapIdx]
  have hj : j < fs.length := by simpa using h2
  by_cases e : i = j
  · subst e; simp
  · rw [if_neg e, List.getElem_mapIdx]
    by_cases hlt : j < i
    · rw [if_pos hlt, if_pos (by omega)]
    · rw [if_neg hlt, if_neg (by omega)]
theorem rstI_get (keep : List Int) {fs : List (Bs × FileD)} {i j : Nat} (hj : j < fs.length) (h : i ≤ j) : (rstI keep i fs)[j]? = fs[j]? := by
  unfold rstI
  rw [List.getElem?_mapIdx, List.getElem?_eq_getElem hj]
  simp; omega
theorem rst_set {keep : List Int} {rs rs' : Files} {i N : Nat} {nm : Bs} {e : FileE} (habs : rs'.abs = rstI keep i rs.abs) (hlt : i < rs'.length) (hlen : rs'.length = rs.length) (hpe : rs'[i] = (nm, e)) (hN : N = keptN keep i (e.data, e.synced)) (A : Option Addr) (c : Nat) :
    Files.abs (rs'.set i (rs'[i].1, ⟨A, c, e.data.take N, N⟩)) = rstI keep (i + 1) rs.abs := by
  subst hN
  have hl : i < rs.abs.length := by rw [abs_len]; omega
  have hg : rs.abs[i] = (nm, (e.data, e.synced)) := by
    have h1 := rstI_get keep hl (Nat.le_refl i)
    rw [← habs] at h1
    have h2 : rs'.abs[i]? = some (nm, (e.data, e.synced)) := by
      unfold Files.abs
      rw [List.getElem?_map, List.getElem?_eq_getElem hlt, hpe]; rfl
    rw [h2, List.getElem?_eq_getElem hl] at h1
    exact (Option.some.inj h1).symm
  rw [← rstI_step keep hl, hg, ← habs]
  unfold Files.abs
  rw [List.map_set, hpe]
  rfl
set_option maxRecDepth 100000 in
set_option maxHeartbeats 4000000 in
theorem rfRestart (keep : List Int) (A : Option Addr) (c g fb : Nat) (rs : Files) (fl dn : Bool) (left : Int) (w : World) (hr : Row w w.heap.size 1 A keep.length (keep.map (Value.int .i64)))
    (hA : 0 < keep.length → ∀ b off, A = some ⟨b, off, none⟩ → b ≠ g ∧ b ≠ fb) (hkl : keep.length ≤ 140737488355328) (hkr : ∀ k ∈ keep, in64 k) (h : RefT w g fb rs fl dn left) (hl : rs.length ≤ 140737488355328) :
    Calls Tryd.prog 33 #[.pointer (some ⟨g, 0, none⟩), .slice A keep.length c] w fun e w' => e = .returned (.tuple #[]) ∧ ∃ rs', RefT w' g fb rs' false false (-1) ∧ rs'.abs = rstI keep rs.length rs.abs ∧ But [g, fb] w w' := by
  obtain ⟨A0, c0, hd, _, _, _⟩ := h.ex
  have q1 : w.cell? ⟨g, 1, none⟩ = some (.bool fl) := hd.cell 1
  have q2 : w.cell? ⟨g, 2, none⟩ = some (.bool dn) := hd.cell 2
  have q3 : w.cell? ⟨g, 3, none⟩ = some (.int .i64 left) := hd.cell 3
  have f1 := hd.frozen 1; have f2 := hd.frozen 2; have f3 := hd.frozen 3
  go_enter Tryd.func33, Tryd.ntmps33
  go_upto_region 5 with fail
  obtain ⟨w1, hw1⟩ : ∃ w1, w1 = ((w.setCell ⟨g, 1, none⟩ (.bool false)).setCell ⟨g, 2, none⟩ (.bool false)).setCell ⟨g, 3, none⟩ (.int .i64 (-1)) := ⟨_, rfl⟩
  rw [← hw1]
  have hb1 : But [g] w w1 := by rw [hw1]; exact (((But.refl _ _).setCell (by simp) _).setCell (by simp) _).setCell (by simp) _
  have h1 : RefT w1 g fb rs false false (-1) := h.box hb1 (fun F hF => by
    rw [hd.cell 0] at hF
    have : F = _ := (Option.some.inj hF).symm
    rw [this, hw1]
    exact ((hd.set_ 1 (.bool false)).set_ 2 (.bool false)).set_ 3 (.int .i64 (-1))) (by omega) (by omega)
  have hb01 : But [g, fb] w w1 := hb1.mono (by simp)
  have hwf : fb < w.heap.size := h.lt
  clear q1 q2 q3 f1 f2 f3 hd hw1 hb1 h
  go_loopw [4] (fun v wr => ∃ (i : Nat) (rs' : Files), i ≤ rs.length ∧ v = .int .i64 i ∧ RefT wr g fb rs' false false (-1) ∧ rs'.length = rs.length ∧ Hid (rs'.abs = rstI keep i rs.abs) ∧ But [g, fb] w wr) (fun v _ => rs.length - (intOf v).toNat)
  case atStart => exact ⟨0, rs, by omega, rfl, h1, rfl, (rstI_zero _ _).symm, hb01⟩
  case round =>
    obtain ⟨i, rs', hi, rfl, hri, hlen, habs, hbut⟩ := hrel
    obtain ⟨wo, rfl⟩ : ∃ wo : World, wo = wr := ⟨_, rfl⟩
    by_cases hlt : (i : Int) < rs'.length
    · have hlt' : i < rs'.length := by omega
      have hltn : i < rs.length := by omega
      obtain ⟨c', d0, hcc, _, d1, d2, _⟩ := hri.at_ hlt'
      have hfo := hri.files _ (List.getElem_mem hlt')
      obtain ⟨pe, hpe⟩ : ∃ pe, pe = rs'[i] := ⟨_, rfl⟩
      rw [← hpe] at d1 d2 hfo
      have Hpe := Lib.hid hpe
      clear hpe
      obtain ⟨nm, e⟩ := pe
      have hsyn := hfo.syn; have hle := hfo.len
      simp only at d1 d2 hsyn hle
      obtain ⟨N, hN⟩ : ∃ N, N = keptN keep i (e.data, e.synced) := ⟨_, rfl⟩
      have HN := Lib.hid hN
      clear hN
      go_upto_block 2 with fail
      go_cut [5] (fun v wx => v = .int .i64 (N : Nat) ∧ wx = wo)
      case first =>
        by_cases hik : (i : Int) < keep.length
        · have hik' : i < keep.length := by omega
          obtain ⟨b, off, hAe, hbw, hc⟩ := hr.2 (by omega)
          obtain ⟨hbg, hbf⟩ := hA (by omega) b off hAe
          subst hAe
          have kc : wo.cell? ⟨b, off + i, none⟩ = some (.int .i64 keep[i]) := by
            rw [hbut.cell (p := ⟨b, off + i, none⟩) hbw (by simp only [List.mem_cons, List.not_mem_nil, or_false, not_or]; exact ⟨hbg, hbf⟩)]
            exact hc i _ (by rw [List.getElem?_map, List.getElem?_eq_getElem hik']; rfl)
          have hK64 := hkr keep[i] (List.getElem_mem hik')
          have hkept : keptN keep i (e.data, e.synced) = e.synced + (min (max keep[i] 0) ((e.data.length : Int) - (e.synced : Int))).toNat := by
            unfold keptN; rw [List.getElem?_eq_getElem hik']
          obtain ⟨K, hK⟩ : ∃ K, K = keep[i] := ⟨_, rfl⟩
          rw [← hK] at kc hK64 hkept
          rw [← HN.out] at hkept
          unfold in64 at hK64
          clear hK hc
          go_wp2_with fail
          go_loopw [5, 6] (fun v5 v6 wr => ∃ k : Nat, v6 = .int .i64 k ∧ v5 = .int .i64 ((e.synced : Int) + (k : Int)) ∧ wr = wo ∧ (k : Int) ≤ max K 0 ∧ e.synced + k ≤ e.data.length) (fun v5 _ _ => e.data.length - (intOf v5).toNat)
          case atStart => exact ⟨0, rfl, by simp, rfl, by omega, hsyn⟩
          case round =>
            obtain ⟨k, rfl, rfl, rfl, hk1, hk2⟩ := hrel
            by_cases t1 : (k : Int) < K
            · by_cases t2 : (e.synced : Int) + (k : Int) < e.data.length
              · go_wp2
                go_roundw
                case rel => exact ⟨k + 1, by go_num, by rw [show (e.synced : Int) + ((k + 1 : Nat) : Int) = (e.synced : Int) + k + 1 by omega], trivial, by omega, by omega⟩
                case measure => simp [intOf]; omega
              · go_wp2
                go_meet
                exact ⟨by congr 1; omega, rfl⟩
            · go_wp2
              go_meet
              exact ⟨by congr 1; omega, rfl⟩
        · have hkept : keptN keep i (e.data, e.synced) = e.synced := by
            unfold keptN; rw [List.getElem?_eq_none (by omega)]
          rw [← HN.out] at hkept
          go_wp2_with fail
          go_loopw [5] (fun v5 wr => v5 = .int .i64 e.synced ∧ wr = wo) (fun _ _ => 0)
          case atStart => exact ⟨rfl, rfl⟩
          case round =>
            obtain ⟨rfl, rfl⟩ := hrel
            go_wp2
            go_meet
            exact ⟨by rw [hkept], rfl⟩
      case rest =>
        obtain ⟨rfl, hwc⟩ := hcut
        subst hwc
        have hNs : N ≤ e.data.length := by
          rw [HN.out]; exact kept_le hsyn
        have hcap : e.data.length ≤ e.c := hfo.cap
        go_upto_region 13 with fail
        have hglt := hri.glt.1; have hflt := hri.lt
        have z0 : ∀ w', Below wc.heap.size wc w' → w'.cell? ⟨g, 0, none⟩ = some (.slice (some ⟨fb, 0, none⟩) rs'.length c') := fun w' h => (h.cell (p := ⟨g, 0, none⟩) hglt).trans d0
        have z1 : ∀ w', Below wc.heap.size wc w' → w'.cell? ⟨fb, i * 3 + 1, none⟩ = some (.slice e.A e.data.length e.c) := fun w' h => (h.cell (p := ⟨fb, i * 3 + 1, none⟩) hflt).trans d1
        have hS0 : Below wc.heap.size wc wc.drew := (Below.refl _ _).drew
        have hiw : (0 : Int) ≤ (i : Int) := by omega
        have hN0 : (0 : Int) ≤ (N : Int) := by omega
        have hNc : (N : Int) ≤ (e.c : Int) := by omega
        refine wp_region_N (fun w' => Below wc.heap.size wc w') 19 (by kernel_rfl) ?_
        apply wpAnyN_takeL 0 (by kernel_rfl) rfl (fun _ _ _ h => h) (by kernel_rfl) hS0
        · intro w' hS'
          go_simp; exact ⟨rfl, rfl⟩
        (try simp only [Act.put]); (try simp only [List.setIfInBounds_toArray]); (try simp only [List.set])
        apply wpAnyN_takeL 1 (by kernel_rfl) rfl (fun _ _ _ h => h) (by kernel_rfl) hS0
        · intro w' hS'
          go_simp; exact ⟨rfl, rfl⟩
        (try simp only [Act.put]); (try simp only [List.setIfInBounds_toArray]); (try simp only [List.set])
        apply wpAnyN_takeL 2 (by kernel_rfl) rfl (fun _ _ _ h => h) (by kernel_rfl) hS0
        · intro w' hS'
          go_simp; exact ⟨rfl, rfl⟩
        (try simp only [Act.put]); (try simp only [List.setIfInBounds_toArray]); (try simp only [List.set])
        apply wpAnyN_takeL 3 (by kernel_rfl) rfl (fun _ _ _ h => h) (by kernel_rfl) hS0
        · intro w' hS'
          go_simp; exact ⟨rfl, rfl⟩
        (try simp only [Act.put]); (try simp only [List.setIfInBounds_toArray]); (try simp only [List.set])
        apply wpAnyN_takeL 4 (by kernel_rfl) rfl (fun _ _ _ h => h) (by kernel_rfl) hS0
        · intro w' hS'
          go_simp; exact ⟨rfl, rfl⟩
        (try simp only [Act.put]); (try simp only [List.setIfInBounds_toArray]); (try simp only [List.set])
        apply wpAnyN_takeL 5 (by kernel_rfl) rfl (fun _ _ _ h => h) (by kernel_rfl) hS0
        · intro w' hS'
          go_simp; exact ⟨rfl, rfl⟩
        (try simp only [Act.put]); (try simp only [List.setIfInBounds_toArray]); (try simp only [List.set])
        apply wpAnyN_takeL 6 (by kernel_rfl) rfl (fun _ _ _ h => h) (by kernel_rfl) hS0
        · intro w' hS'
          go_simp; exact ⟨rfl, rfl⟩
        (try simp only [Act.put]); (try simp only [List.setIfInBounds_toArray]); (try simp only [List.set])
        apply wpAnyN_takeL 7 (by kernel_rfl) rfl (fun _ _ _ h => h) (by kernel_rfl) hS0
        · intro w' hS'
          go_simp; exact ⟨rfl, rfl⟩
        (try simp only [Act.put]); (try simp only [List.setIfInBounds_toArray]); (try simp only [List.set])
        apply wpAnyN_takeL 8 (by kernel_rfl) rfl (fun _ _ _ h => h) (by kernel_rfl) hS0
        · intro w' hS'
          go_simp; exact ⟨rfl, rfl⟩
        (try simp only [Act.put]); (try simp only [List.setIfInBounds_toArray]); (try simp only [List.set])
        apply wpAnyN_takeL 9 (by kernel_rfl) rfl (fun _ _ _ h => h) (by kernel_rfl) hS0
        · intro w' hS'
          go_simp; exact ⟨rfl, rfl⟩
        (try simp only [Act.put]); (try simp only [List.setIfInBounds_toArray]); (try simp only [List.set])
        apply wpAnyN_takeL 10 (by kernel_rfl) rfl (fun _ _ _ h => h) (by kernel_rfl) hS0
        · intro w' hS'
          go_simp; exact ⟨rfl, rfl⟩
        (try simp only [Act.put]); (try simp only [List.setIfInBounds_toArray]); (try simp only [List.set])
        apply wpAnyN_takeL 11 (by kernel_rfl) rfl (fun _ _ _ h => h) (by kernel_rfl) hS0
        · intro w' hS'
          go_simp; exact ⟨rfl, rfl⟩
        (try simp only [Act.put]); (try simp only [List.setIfInBounds_toArray]); (try simp only [List.set])
        apply wpAnyN_takeL 12 (by kernel_rfl) rfl (fun _ _ _ h => h) (by kernel_rfl) hS0
        · intro w' hS'
          go_simp; exact ⟨rfl, rfl⟩
        (try simp only [Act.put]); (try simp only [List.setIfInBounds_toArray]); (try simp only [List.set])
        apply wpAnyN_takeL 13 (by kernel_rfl) rfl (fun _ _ _ h => h) (by kernel_rfl) hS0
        · intro w' hS'
          go_simp; exact ⟨rfl, rfl⟩
        (try simp only [Act.put]); (try simp only [List.setIfInBounds_toArray]); (try simp only [List.set])
        apply wpAnyN_takeL 14 (by kernel_rfl) rfl (fun _ _ _ h => h) (by kernel_rfl) hS0
        · intro w' hS'
          go_simp; exact ⟨rfl, rfl⟩
        (try simp only [Act.put]); (try simp only [List.setIfInBounds_toArray]); (try simp only [List.set])
        apply wpAnyN_takeL 15 (by kernel_rfl) rfl (fun _ _ _ h => h) (by kernel_rfl) hS0
        · intro w' hS'
          go_simp; exact ⟨rfl, rfl⟩
        (try simp only [Act.put]); (try simp only [List.setIfInBounds_toArray]); (try simp only [List.set])
        have hrow : Bytes wc wc.heap.size e.A N (e.data.take N) := row_take hfo.row hNs rfl
        obtain ⟨nd, hnd⟩ : ∃ nd, nd = e.data.take N := ⟨_, rfl⟩
        have hndl : nd.length = N := by rw [hnd, List.length_take]; omega
        rw [← hnd] at hrow
        refine wpAnyN_runL 16 (by kernel_rfl) rfl (by kernel_rfl) (fun K hK => ?_)
        refine wp_app wc.drew bytesE rfl rfl (World.ownsRow_nil _ wc.heap.size _ _) rfl hrow.drew (bv_one _) (by omega) (Nat.le_refl _) ?_
        intro v4 w4 hown4 hg4 hb4 hx4
        simp only [Nat.zero_add, List.nil_append] at hown4
        have hS4 : Below wc.heap.size wc w4 := hS0.trans hb4
        obtain ⟨A4, c4, rfl, _⟩ := own_form hown4
        have h4 := hri.below hS4
        have hown4' := hown4
        rw [← hndl] at hown4'
        have hf4 : FileOk (fun _ => True) w4 ⟨A4, c4, nd, N⟩ := (FileOk.of_own hown4' (by omega) (by omega)).mono (fun _ _ => trivial)
        obtain ⟨c4', p0, _, _, p1, p2, pf⟩ := h4.at_ hlt'
        rw [Hpe.out.symm] at p1 p2
        simp only at p1 p2
        have pf1 := pf (i * 3 + 1); have pf2 := pf (i * 3 + 2)
        have hfg := hri.fbne (by omega)
        refine hK _ _ (fun _ => hS4) ?_
        clear hK K
        (try simp only [Act.put]); (try simp only [List.setIfInBounds_toArray]); (try simp only [List.set])
        refine wpAnyN_runL 17 (by kernel_rfl) rfl (by kernel_rfl) (fun K hK => ?_)
        go_simp
        refine hK _ _ (fun _ => hS4) ?_
        clear hK K
        (try simp only [Act.put]); (try simp only [List.setIfInBounds_toArray]); (try simp only [List.set])
        refine wpAnyN_runL 18 (by kernel_rfl) rfl (by kernel_rfl) (fun K hK => ?_)
        go_simp
        refine hK _ _ (fun _ => hS4) ?_
        clear hK K
        (try simp only [Act.put]); (try simp only [List.setIfInBounds_toArray]); (try simp only [List.set])
        refine wpAnyN_runL 19 (by kernel_rfl) rfl (by kernel_rfl) (fun K hK => ?_)
        go_simp
        refine hK _ _ (fun h => absurd rfl h) ?_
        clear hK K
        (try simp only [Act.put])
        refine wpAnyN_done (by kernel_rfl) ?_ _
        go_upto_region 14 with fail
        obtain ⟨w5, hw5⟩ : ∃ W, W = w4.setCell ⟨fb, i * 3 + 1, none⟩ (.slice A4 N c4) := ⟨_, rfl⟩
        rw [← hw5]
        have u0 : w5.cell? ⟨g, 0, none⟩ = some (.slice (some ⟨fb, 0, none⟩) rs'.length c4') := by
          rw [hw5, ((But.refl [fb] w4).setCell (p := ⟨fb, i * 3 + 1, none⟩) (by simp) _).cell (p := ⟨g, 0, none⟩) h4.glt.1 (by simp only [List.mem_cons, List.not_mem_nil, or_false]; exact fun e => hfg e.symm)]
          exact p0
        have u2 : w5.cell? ⟨fb, i * 3 + 2, none⟩ = some (.int .i64 e.synced) := by
          rw [hw5]
          exact (World.cell?_setCell_other _ _ _ _ (by intro e; simp at e)).trans p2
        have uf : w5.frozen? ⟨fb, i * 3 + 2, none⟩ = false := by
          rw [hw5, World.frozen?_setCell]
          exact pf2
        have hfin := h4.setBoth hlt' ⟨A4, c4, nd, N⟩ hf4
        simp only at hfin
        rw [hndl, ← hw5] at hfin
        have hbut5 : But [g, fb] w w5 := by
          rw [hw5]
          exact (hbut.trans (But.of_below hS4)).setCell (by simp) _
        have habs' : Hid (Files.abs (rs'.set i (rs'[i].1, ⟨A4, c4, nd, N⟩)) = rstI keep (i + 1) rs.abs) := by
          show _ = _
          rw [hnd]
          exact rst_set habs.out hlt' hlen Hpe.out.symm HN.out A4 c4
        clear hw5 hnd hndl hown4' hown4 hf4 h4 hrow
        clear p0 p1 p2 pf pf1 pf2 d0 d1 d2 z0 z1
        go_wp2
        go_roundw
        case rel => exact ⟨i + 1, _, by omega, by go_num, hfin, by rw [List.length_set]; exact hlen, habs', hbut5.setCell (by simp) _⟩
        case measure => simp [intOf]; omega
    · have hltn : ¬ i < rs.length := by omega
      have hl0 : rs.length = i := by omega
      have Hl0 := Lib.hid hl0
      clear hl0
      obtain ⟨A3, c3, hd3, _, _, _⟩ := hri.ex
      have d0 := hd3.cell 0
      clear hd3
      go_wp2
      go_end0
      exact ⟨rfl, rs', hri, by rw [Hl0.out]; exact habs, hbut⟩
end Go.Proofs.YtmddgimadlmacaaDoor
