import Derived.Test.YtmddgimadlmacaaDoorWs19
import Derived.Test.YtmddgimadlmacaaDoorWs03
import Derived.Deep.DeepCutAuto
import Derived.Outline
namespace Go.Proofs.YtmddgimadlmacaaDoor
open Go.RowKit Garner

def Files.abs (es : Files) : List (Bs × FileD) := es.map fun p => (p.1, (p.2.data, p.2.synced))
theorem abs_keys (es : Files) : es.abs.map (·.1) = es.map (·.1) := by unfold Files.abs; rw [List.map_map]; rfl
theorem abs_len (es : Files) : es.abs.length = es.length := List.length_map ..
theorem abs_aput (nm : Bs) (e : FileE) : ∀ es : Files, Files.abs (aput nm e es) = aput nm (e.data, e.synced) es.abs
  | [] => rfl
  | (k, x) :: r => by
    have ih := abs_aput nm e r
    unfold Files.abs at *
    simp only [List.map_cons, aput]
    split
    · rfl
    · simp only [List.map_cons, ih]
theorem abs_adel (nm : Bs) : ∀ es : Files, Files.abs (adel nm es) = adel nm es.abs
  | [] => rfl
  | (k, x) :: r => by
    have ih := abs_adel nm r
    unfold Files.abs at *
    simp only [List.map_cons, adel]
    split
    · rfl
    · simp only [List.map_cons, ih]
theorem aget_abs (nm : Bs) (es : Files) : aget nm es.abs = (aget nm es).map fun e => (e.data, e.synced) := aget_map' (f := fun _ (e : FileE) => (e.data, e.synced)) nm es
def rst (keep : List Int) (fs : List (Bs × FileD)) : List (Bs × FileD) := rstUp keep (sortN (fs.map (·.1))) fs.length fs
structure SR (gf : Nat) (fs : List Value) (p : Addr) (u : Value) (w' : World) : Prop where
  b : Blk w' gf 79 fs
  k : w'.cell? p = some u
theorem sortN_nodup {l : List Bs} (h : l.Nodup) : (sortN l).Nodup := (List.mergeSort_perm l _).nodup_iff.2 h
theorem mem_sortN {l : List Bs} {a : Bs} : a ∈ sortN l ↔ a ∈ l := (List.mergeSort_perm l _).mem_iff
theorem kept_le {keep : List Int} {j : Nat} {f : FileD} (h : f.2 ≤ f.1.length) : keptN keep j f ≤ f.1.length := by
  unfold keptN
  split
  · omega
  · exact h
theorem rst_get {keep : List Int} {names : List Bs} {es es' : Files} {i : Nat} (habs : es'.abs = rstUp keep names i es.abs) (hnd : names.Nodup) (hi : i < names.length) (hm : names[i] ∈ es.map (·.1)) :
    aget names[i] es.abs = some ((es'.get names[i]).data, (es'.get names[i]).synced) := by
  obtain ⟨f, hf⟩ := aget_some (l := es.abs) (by rw [abs_keys]; exact hm)
  have h1 := aget_map' (f := fun k (d : FileD) => if names.idxOf k < i then cutD keep (names.idxOf k) d else d) names[i] es.abs
  have h2 : aget names[i] es'.abs = some f := by
    rw [habs]
    unfold rstUp
    rw [h1, hf, idx_at hnd hi]
    simp
  rw [aget_abs] at h2
  cases he : aget names[i] es' with
  | none => rw [he] at h2; cases h2
  | some e =>
    rw [he] at h2
    rw [get_some he, hf]
    exact h2.symm
theorem row_take {w : World} {B n k : Nat} {A : Option Addr} {l : Bs} (h : Bytes w B A n l) (hk : k ≤ n) (hl : l.length = n) : Bytes w B A k (l.take k) := by
  refine ⟨by simp; omega, fun h0 => ?_⟩
  obtain ⟨b, off, e, hb, hc⟩ := h.2 (by omega)
  refine ⟨b, off, e, hb, fun j u hu => hc j u ?_⟩
  rw [List.map_take, List.getElem?_take] at hu
  split at hu
  · exact hu
  · cases hu
set_option maxRecDepth 100000 in
set_option maxHeartbeats 4000000 in
theorem vRestart (keep : List Int) (A : Option Addr) (c g mp : Nat) (es : Files) (fl dn : Bool) (left : Int) (O : Nat → Prop) (w : World) (hr : Row w w.heap.size 1 A keep.length (keep.map (Value.int .i64)))
    (hA : 0 < keep.length → ∀ b off, A = some ⟨b, off, none⟩ → b ≠ g ∧ b ≠ mp) (hkl : keep.length ≤ 140737488355328) (hkr : ∀ k ∈ keep, in64 k) (hd : DiskIs O w g mp es fl dn left) (hn : es.length * 16 ≤ 140737488351232) :
    Calls Tryd.prog 32 #[.pointer (some ⟨g, 0, none⟩), .slice A keep.length c] w fun e w' => e = .returned (.tuple #[]) ∧
      ∃ es', DiskIs (fun b => O b ∨ w.heap.size ≤ b) w' g mp es' false false (-1) ∧ es'.abs = rst keep es.abs ∧ But [g, mp] w w' := by
  have c1 : w.cell? ⟨g, 1, none⟩ = some (.bool fl) := hd.blk.cell 1
  have c2 : w.cell? ⟨g, 2, none⟩ = some (.bool dn) := hd.blk.cell 2
  have c3 : w.cell? ⟨g, 3, none⟩ = some (.int .i64 left) := hd.blk.cell 3
  have f1 := hd.blk.frozen 1; have f2 := hd.blk.frozen 2; have f3 := hd.blk.frozen 3
  go_enter Tryd.func32, Tryd.ntmps32
  go_wp2_with fail
  obtain ⟨w1, hw1⟩ : ∃ w1, w1 = ((w.setCell ⟨g, 1, none⟩ (.bool false)).setCell ⟨g, 2, none⟩ (.bool false)).setCell ⟨g, 3, none⟩ (.int .i64 (-1)) := ⟨_, rfl⟩
  rw [← hw1]
  have hb1 : But [g] w w1 := by rw [hw1]; exact (((But.refl _ _).setCell (by simp) _).setCell (by simp) _).setCell (by simp) _
  have hk1 : Blk w1 g 76 (diskV mp false false (-1)) := by rw [hw1]; exact ((hd.blk.set_ 1 (.bool false)).set_ 2 (.bool false)).set_ 3 (.int .i64 (-1))
  have hd1 := hd.box hb1 hk1 (by omega) (by omega)
  clear hw1 c1 c2 c3 f1 f2 f3 hd
  have hl : es.al.length = es.length := List.length_map ..
  have hk : es.al.map (·.1) = es.map (·.1) := by unfold Files.al; rw [List.map_map]; rfl
  have hnames := vNames g mp es.al false false (-1) w1 hd1.blk hd1.map (by omega)
  rw [hk, hl] at hnames
  refine hnames.mono ?_
  rintro e w2 ⟨v, rfl, hown, hb2⟩
  clear hnames hl hk
  obtain ⟨An, cn, rfl, hcn⟩ := own_form hown
  have hd2 := hd1.below hb2
  have hb02 : But [g, mp] w w2 := (But.two1 hb1).trans (But.two0 hb2)
  obtain ⟨names, hnm⟩ : ∃ names, names = sortN (es.map (·.1)) := ⟨_, rfl⟩
  have hnl : names.length = es.length := by rw [hnm, sortN_len, List.length_map]
  rw [← hnm] at hown
  have hnd : names.Nodup := by rw [hnm]; exact sortN_nodup hd1.nodup
  have hmem : ∀ a, a ∈ names → a ∈ es.map (·.1) := fun a ha => by rw [hnm] at ha; exact mem_sortN.1 ha
  have hes := hd1.nodup
  have Hnl := Lib.hid hnl; have Hnm := Lib.hid hnm; have Hnd := Lib.hid hnd; have Hmem := Lib.hid hmem; have Hes := Lib.hid hes
  have hlo := own_ge hown
  have hgm : g < w1.heap.size ∧ mp < w1.heap.size := ⟨hd1.blk.lt, MapIs.lt hd1.map⟩
  have hsz : w.heap.size ≤ w1.heap.size := hb1.size
  clear hnl hnm hnd hmem hes hd1 hk1 hb1 hb2
  go_wp2_with fail
  go_loopw [22] (fun v wr => ∃ (i : Nat) (es' : Files), i ≤ es.length ∧ v = .int .i64 i ∧ DiskIs (fun b => O b ∨ w.heap.size ≤ b) wr g mp es' false false (-1) ∧ Hid (es'.abs = rstUp keep names i es.abs) ∧ But [g, mp] w2 wr) (fun v _ => es.length - (intOf v).toNat)
  case atStart => exact ⟨0, es, by omega, rfl, hd2.mono fun b hb => Or.inl hb, (rstUp_zero _ _ _).symm, But.refl _ _⟩
  case round =>
    obtain ⟨i, es', hi, rfl, hdi, habs, hbut⟩ := hrel
    obtain ⟨wo, rfl⟩ : ∃ wo : World, wo = wr := ⟨_, rfl⟩
    by_cases hlt : (i : Int) < es.length
    · obtain ⟨gn, rfl, hgn1, hgn2, _, _, hcell⟩ := own_at hown (by omega)
      have hil : i < names.length := by rw [Hnl.out]; omega
      have hcn : wo.cell? ⟨gn, i, none⟩ = some (strV names[i]) := by
        rw [hbut.cell (p := ⟨gn, i, none⟩) (by show gn < _; omega) (by simp only [List.mem_cons, List.not_mem_nil, or_false]; omega), hcell i (by omega)]
        simp
      obtain ⟨s, hs⟩ : ∃ s, s = names[i] := ⟨_, rfl⟩
      rw [← hs] at hcn
      have Hs := Lib.hid hs; clear hs hcell
      have hlook := hdi.look s
      have hok := hdi.get s
      obtain ⟨f0, hf0⟩ : ∃ f0, f0 = es'.get s := ⟨_, rfl⟩
      rw [← hf0] at hlook hok
      have Hf0 := Lib.hid hf0; clear hf0
      have c0 : wo.cell? ⟨g, 0, none⟩ = some (.map (some mp)) := hdi.blk.cell 0
      have hsyn := hok.syn; have hlen := hok.len
      go_upto_if 38 with fail
      obtain ⟨X, hX⟩ : ∃ X, X = wo.alloc (.cells #[.slice f0.A f0.data.length f0.c, .int .i64 f0.synced] 79) := ⟨_, rfl⟩
      rw [← hX]
      have hbX : Below wo.heap.size wo X := by rw [hX]; exact (Below.refl _ _).alloc (Nat.le_refl _) _
      have kf : Blk X wo.heap.size 79 [.slice f0.A f0.data.length f0.c, .int .i64 f0.synced] := by rw [hX]; exact Blk.new wo _ [.slice f0.A f0.data.length f0.c, .int .i64 f0.synced]
      have sX : X.heap.size = wo.heap.size + 1 := by rw [hX]; simp
      clear hX hlook
      obtain ⟨n, hn⟩ : ∃ n, n = keptN keep i (f0.data, f0.synced) := ⟨_, rfl⟩
      have Hn := Lib.hid hn; clear hn
      go_cut [7] (fun s7 wx => s7 = .int .i64 n ∧ Below X.heap.size X wx)
      case first =>
        by_cases hk : i < keep.length
        · have hk' : decide (i < keep.length) = true := decide_eq_true hk
          obtain ⟨bk, offk, rfl, hbk, hkc⟩ := hr.at_ (k := i) hk
          have hne := hA (by omega) bk offk rfl
          have ck : X.cell? ⟨bk, offk + i, none⟩ = some (.int .i64 keep[i]) := by
            have h1 := hkc i (by simpa using hk)
            simp only [List.getElem_map] at h1
            rw [hbX.cell (p := ⟨bk, offk + i, none⟩) (by show bk < _; have := hb02.size; have := hbut.size; omega), (hb02.trans hbut).cell (p := ⟨bk, offk + i, none⟩) hbk (by simp only [List.mem_cons, List.not_mem_nil, or_false]; omega)]
            exact h1
          obtain ⟨kv, hkv⟩ : ∃ kv, kv = keep[i] := ⟨_, rfl⟩
          have hkin := hkr _ (List.getElem_mem hk)
          rw [← hkv] at ck hkin
          have hkn : Hid (((n : Nat) : Int) = (f0.synced : Int) + min (max kv 0) ((f0.data.length : Int) - (f0.synced : Int))) := by
            show _ = _
            rw [Hn.out]
            unfold keptN
            rw [List.getElem?_eq_getElem hk, ← hkv]
            simp only
            omega
          have Hkv := Lib.hid hkv
          obtain ⟨kl, kh⟩ := hkin
          clear hkc hkv
          go_wp2_with fail
          have hS0 : SR wo.heap.size [.slice f0.A f0.data.length f0.c, .int .i64 f0.synced] ⟨bk, offk + i, none⟩ (.int .i64 kv) X.drew := ⟨kf, ck⟩
          have y0 : ∀ w' : World, SR wo.heap.size [.slice f0.A f0.data.length f0.c, .int .i64 f0.synced] ⟨bk, offk + i, none⟩ (.int .i64 kv) w' → w'.cell? ⟨wo.heap.size, 0, none⟩ = some (.slice f0.A f0.data.length f0.c) := fun w' h => h.b.cell 0
          have z0 : ∀ w' : World, SR wo.heap.size [.slice f0.A f0.data.length f0.c, .int .i64 f0.synced] ⟨bk, offk + i, none⟩ (.int .i64 kv) w' → w'.cell? ⟨bk, offk + i, none⟩ = some (.int .i64 kv) := fun w' h => h.k
          have hk2 : (i : Int) < keep.length := by omega
          refine wp_region_N (SR wo.heap.size [.slice f0.A f0.data.length f0.c, .int .i64 f0.synced] ⟨bk, offk + i, none⟩ (.int .i64 kv)) 100 (by kernel_rfl) ?_
          apply wpAnyN_takeL 0 (by kernel_rfl) rfl (fun _ _ _ h => h) (by kernel_rfl) hS0
          · intro w' hS'
            go_simp; exact ⟨rfl, rfl⟩
          (try simp only [Act.put]); (try simp only [List.setIfInBounds_toArray]); (try simp only [List.set])
          apply wpAnyN_takeL 1 (by kernel_rfl) rfl (fun _ _ _ h => h) (by kernel_rfl) hS0
          · intro w' hS'
            go_simp; exact ⟨rfl, rfl⟩
          (try simp only [Act.put]); (try simp only [List.setIfInBounds_toArray]); (try simp only [List.set])
          apply wpAnyN_takeL 2 (by kernel_rfl) rfl (fun _ _ _ h => h) (by kernel_rfl) hS0
          · intro w' hS'
            go_simp; exact ⟨rfl, rfl⟩
          (try simp only [Act.put]); (try simp only [List.setIfInBounds_toArray]); (try simp only [List.set])
          apply wpAnyN_takeL 3 (by kernel_rfl) rfl (fun _ _ _ h => h) (by kernel_rfl) hS0
          · intro w' hS'
            go_simp; exact ⟨rfl, rfl⟩
          (try simp only [Act.put]); (try simp only [List.setIfInBounds_toArray]); (try simp only [List.set])
          apply wpAnyN_takeL 4 (by kernel_rfl) rfl (fun _ _ _ h => h) (by kernel_rfl) hS0
          · intro w' hS'
            go_simp; exact ⟨rfl, rfl⟩
          (try simp only [Act.put]); (try simp only [List.setIfInBounds_toArray]); (try simp only [List.set])
          apply wpAnyN_takeL 5 (by kernel_rfl) rfl (fun _ _ _ h => h) (by kernel_rfl) hS0
          · intro w' hS'
            go_simp; exact ⟨rfl, rfl⟩
          (try simp only [Act.put]); (try simp only [List.setIfInBounds_toArray]); (try simp only [List.set])
          apply wpAnyN_takeL 6 (by kernel_rfl) rfl (fun _ _ _ h => h) (by kernel_rfl) hS0
          · intro w' hS'
            go_simp; exact ⟨rfl, rfl⟩
          (try simp only [Act.put]); (try simp only [List.setIfInBounds_toArray]); (try simp only [List.set])
          apply wpAnyN_takeL 7 (by kernel_rfl) rfl (fun _ _ _ h => h) (by kernel_rfl) hS0
          · intro w' hS'
            go_simp; exact ⟨rfl, rfl⟩
          (try simp only [Act.put]); (try simp only [List.setIfInBounds_toArray]); (try simp only [List.set])
          apply wpAnyN_takeL 8 (by kernel_rfl) rfl (fun _ _ _ h => h) (by kernel_rfl) hS0
          · intro w' hS'
            go_simp; exact ⟨rfl, rfl⟩
          (try simp only [Act.put]); (try simp only [List.setIfInBounds_toArray]); (try simp only [List.set])
          apply wpAnyN_takeL 9 (by kernel_rfl) rfl (fun _ _ _ h => h) (by kernel_rfl) hS0
          · intro w' hS'
            go_simp; exact ⟨rfl, rfl⟩
          (try simp only [Act.put]); (try simp only [List.setIfInBounds_toArray]); (try simp only [List.set])
          apply wpAnyN_takeL 10 (by kernel_rfl) rfl (fun _ _ _ h => h) (by kernel_rfl) hS0
          · intro w' hS'
            go_simp; exact ⟨rfl, rfl⟩
          (try simp only [Act.put]); (try simp only [List.setIfInBounds_toArray]); (try simp only [List.set])
          apply wpAnyN_takeL 11 (by kernel_rfl) rfl (fun _ _ _ h => h) (by kernel_rfl) hS0
          · intro w' hS'
            go_simp; exact ⟨rfl, rfl⟩
          (try simp only [Act.put]); (try simp only [List.setIfInBounds_toArray]); (try simp only [List.set])
          apply wpAnyN_takeL 12 (by kernel_rfl) rfl (fun _ _ _ h => h) (by kernel_rfl) hS0
          · intro w' hS'
            go_simp; exact ⟨rfl, rfl⟩
          (try simp only [Act.put]); (try simp only [List.setIfInBounds_toArray]); (try simp only [List.set])
          apply wpAnyN_takeL 13 (by kernel_rfl) rfl (fun _ _ _ h => h) (by kernel_rfl) hS0
          · intro w' hS'
            go_simp; exact ⟨rfl, rfl⟩
          (try simp only [Act.put]); (try simp only [List.setIfInBounds_toArray]); (try simp only [List.set])
          refine wpAnyN_done (by kernel_rfl) ?_ _
          go_wp2_with fail
          go_meet
          case rel =>
            have w1 : IntKind.i64.wrap ((f0.data.length : Int) - (f0.synced : Int)) = (f0.data.length : Int) - (f0.synced : Int) := IntWalk.i64_in _ ⟨by omega, by omega⟩
            have w2 : IntKind.i64.wrap ((f0.synced : Int) + min (max kv 0) ((f0.data.length : Int) - (f0.synced : Int))) = (f0.synced : Int) + min (max kv 0) ((f0.data.length : Int) - (f0.synced : Int)) := IntWalk.i64_in _ ⟨by omega, by omega⟩
            rw [w1, w2, hkn.out]
            exact ⟨rfl, (Below.refl _ _).drew⟩
        · have hk' : decide (i < keep.length) = false := decide_eq_false hk
          go_wp2_with fail
          go_meet
          case rel =>
            refine ⟨?_, Below.refl _ _⟩
            rw [Hn.out]; unfold keptN; rw [List.getElem?_eq_none (by omega)]
      case rest =>
        obtain ⟨rfl, hbx⟩ := hcut
        have kf2 := kf.below hbx kf.lt
        have hd2 := (hdi.below hbX).below hbx
        have hok2 := (hok.but (S := []) (But.of_below hbX) (by simp)).but (S := []) (But.of_below hbx) (by simp)
        have hbc : But [g, mp] w2 wc := (hbut.trans (But.two0 hbX)).trans (But.two0 hbx)
        have sc := hbx.size
        have hnle : n ≤ f0.data.length := by rw [Hn.out]; exact kept_le hsyn
        have hnc : n ≤ f0.c := Nat.le_trans hnle hok.cap
        have htl : (f0.data.take n).length = n := by rw [List.length_take]; omega
        have hcl := fun w' h => vClone (f0.data.take n) f0.A f0.c wc.heap.size w' h
        rw [htl] at hcl
        have Hcl := Lib.hid hcl; have Htl := Lib.hid htl
        clear hcl htl kf hdi hok hbX hbx c0 hcn
        have hS0 : SG g mp wo.heap.size false false (-1) [.slice f0.A f0.data.length f0.c, .int .i64 f0.synced] wc.drew := ⟨hd2.blk, kf2⟩
        have z0 : ∀ w' : World, SG g mp wo.heap.size false false (-1) [.slice f0.A f0.data.length f0.c, .int .i64 f0.synced] w' → w'.cell? ⟨g, 0, none⟩ = some (.map (some mp)) := fun w' h => h.a.cell 0
        have y0 : ∀ w' : World, SG g mp wo.heap.size false false (-1) [.slice f0.A f0.data.length f0.c, .int .i64 f0.synced] w' → w'.cell? ⟨wo.heap.size, 0, none⟩ = some (.slice f0.A f0.data.length f0.c) := fun w' h => h.b.cell 0
        go_wp2_with fail
        refine wp_region_N (SG g mp wo.heap.size false false (-1) [.slice f0.A f0.data.length f0.c, .int .i64 f0.synced]) 100 (by kernel_rfl) ?_
        apply wpAnyN_takeL 0 (by kernel_rfl) rfl (fun _ _ _ h => h) (by kernel_rfl) hS0
        · intro w' hS'
          go_simp; exact ⟨rfl, rfl⟩
        (try simp only [Act.put]); (try simp only [List.setIfInBounds_toArray]); (try simp only [List.set])
        apply wpAnyN_takeL 1 (by kernel_rfl) rfl (fun _ _ _ h => h) (by kernel_rfl) hS0
        · intro w' hS'
          go_simp; exact ⟨rfl, rfl⟩
        (try simp only [Act.put]); (try simp only [List.setIfInBounds_toArray]); (try simp only [List.set])
        apply wpAnyN_takeL 2 (by kernel_rfl) rfl (fun _ _ _ h => h) (by kernel_rfl) hS0
        · intro w' hS'
          go_simp; exact ⟨rfl, rfl⟩
        (try simp only [Act.put]); (try simp only [List.setIfInBounds_toArray]); (try simp only [List.set])
        apply wpAnyN_takeL 3 (by kernel_rfl) rfl (fun _ _ _ h => h) (by kernel_rfl) hS0
        · intro w' hS'
          go_simp; exact ⟨rfl, rfl⟩
        (try simp only [Act.put]); (try simp only [List.setIfInBounds_toArray]); (try simp only [List.set])
        apply wpAnyN_takeL 4 (by kernel_rfl) rfl (fun _ _ _ h => h) (by kernel_rfl) hS0
        · intro w' hS'
          go_simp; exact ⟨rfl, rfl⟩
        (try simp only [Act.put]); (try simp only [List.setIfInBounds_toArray]); (try simp only [List.set])
        apply wpAnyN_takeL 5 (by kernel_rfl) rfl (fun _ _ _ h => h) (by kernel_rfl) hS0
        · intro w' hS'
          go_simp; exact ⟨rfl, rfl⟩
        (try simp only [Act.put]); (try simp only [List.setIfInBounds_toArray]); (try simp only [List.set])
        apply wpAnyN_takeL 6 (by kernel_rfl) rfl (fun _ _ _ h => h) (by kernel_rfl) hS0
        · intro w' hS'
          go_simp; exact ⟨rfl, rfl⟩
        (try simp only [Act.put]); (try simp only [List.setIfInBounds_toArray]); (try simp only [List.set])
        apply wpAnyN_takeL 7 (by kernel_rfl) rfl (fun _ _ _ h => h) (by kernel_rfl) hS0
        · intro w' hS'
          go_simp; exact ⟨rfl, rfl⟩
        (try simp only [Act.put]); (try simp only [List.setIfInBounds_toArray]); (try simp only [List.set])
        apply wpAnyN_takeL 8 (by kernel_rfl) rfl (fun _ _ _ h => h) (by kernel_rfl) hS0
        · intro w' hS'
          go_simp; exact ⟨rfl, rfl⟩
        (try simp only [Act.put]); (try simp only [List.setIfInBounds_toArray]); (try simp only [List.set])
        apply wpAnyN_takeL 10 (by kernel_rfl) rfl (fun _ _ _ h => h) (by kernel_rfl) hS0
        · intro w' hS'
          go_simp; exact ⟨rfl, rfl⟩
        (try simp only [Act.put]); (try simp only [List.setIfInBounds_toArray]); (try simp only [List.set])
        refine wpAnyN_runL 9 (by kernel_rfl) rfl (by kernel_rfl) (fun K hK => ?_)
        go_simp
        refine (Hcl.out _ (row_take hok2.row hnle rfl).drew (Nat.le_refl _) (by omega)).mono ?_
        rintro e w5 ⟨v5, rfl, own5, hb5⟩
        simp only [World.size_drew] at own5 hb5
        have hb5' : Below wc.heap.size wc w5 := (Below.refl _ _).drew.trans hb5
        obtain ⟨A5, c5, rfl, _⟩ := own_form own5
        have hnew : FileOk (fun b => O b ∨ w.heap.size ≤ b) w5 ⟨A5, c5, f0.data.take n, n⟩ := (FileOk.of_own own5 (by rw [Htl.out]; exact Nat.le_refl _) (by rw [Htl.out]; omega)).mono fun b hb => Or.inr (by have := hb02.size; have := hbc.size; omega)
        rw [Htl.out]
        have hd5 := hd2.below hb5'
        have kf5 := kf2.below hb5' kf2.lt
        have hS5 : SG g mp wo.heap.size false false (-1) [.slice f0.A f0.data.length f0.c, .int .i64 f0.synced] w5 := ⟨hd5.blk, kf5⟩
        have hb25 : But [g, mp] w2 w5 := hbc.trans (But.two0 hb5')
        refine hK _ _ (fun _ => hS5) ?_
        clear hK K
        (try simp only [Act.put]); (try simp only [List.setIfInBounds_toArray]); (try simp only [List.set])
        apply wpAnyN_takeL 11 (by kernel_rfl) rfl (fun _ _ _ h => h) (by kernel_rfl) hS5
        · intro w' hS'
          go_simp; exact ⟨rfl, rfl⟩
        (try simp only [Act.put]); (try simp only [List.setIfInBounds_toArray]); (try simp only [List.set])
        obtain ⟨w6, hrun, hd6, hb6⟩ := DiskIs.put hd5 s ⟨A5, c5, f0.data.take n, n⟩ hnew
        simp only [FileE.v, Htl.out] at hrun
        have hS6 : SG g mp wo.heap.size false false (-1) [.slice f0.A f0.data.length f0.c, .int .i64 f0.synced] w6 := ⟨hd6.blk, kf5.but hb6 (by simp only [List.mem_singleton]; have := hgm.2; have := hbut.size; omega)⟩
        have hb26 : But [g, mp] w2 w6 := hb25.trans (But.two2 hb6)
        have hab : Hid (Files.abs (aput s ⟨A5, c5, f0.data.take n, n⟩ es') = rstUp keep names (i + 1) es.abs) := by
          show _ = _
          have hg := rst_get habs.out Hnd.out hil (Hmem.out _ (List.getElem_mem hil))
          rw [← Hs.out, ← Hf0.out] at hg
          have hst := rstUp_step keep Hnd.out (fs := es.abs) (by rw [abs_keys]; exact Hes.out) hil (by rw [abs_keys]; exact Hmem.out _ (List.getElem_mem hil)) (by rw [← Hs.out]; exact hg)
          rw [abs_aput, habs.out, ← hst, ← Hs.out]
          simp only [cutD, ← Hn.out]
        clear hnew hd5 kf5 hb25 hd2 kf2 hb5 hb5' own5 hok2 hbc hS0 hS5
        refine wpAnyN_runL 12 (by kernel_rfl) rfl (by kernel_rfl) (fun K hK => ?_)
        go_simp
        refine hK _ _ (fun _ => hS6) ?_
        clear hK K
        (try simp only [Act.put]); (try simp only [List.setIfInBounds_toArray]); (try simp only [List.set])
        refine wpAnyN_done (by kernel_rfl) ?_ _
        clear hrun
        go_wp2
        go_roundw
        case rel => exact ⟨i + 1, _, by omega, by go_num, hd6, hab, hb26⟩
        case measure => simp [intOf]; omega
    · obtain rfl : i = es.length := by omega
      have hfin : Hid (es'.abs = rst keep es.abs) := by
        show _ = _
        rw [habs.out]; unfold rst; rw [abs_keys, ← Hnm.out, abs_len]
      go_wp2
      go_end0
      exact ⟨rfl, es', hdi, hfin.out, hb02.trans hbut⟩
end Go.Proofs.YtmddgimadlmacaaDoor
