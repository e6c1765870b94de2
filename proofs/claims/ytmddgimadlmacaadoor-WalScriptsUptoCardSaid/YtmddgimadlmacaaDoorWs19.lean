import Derived.Test.YtmddgimadlmacaaDoorWs18
namespace Go.Proofs.YtmddgimadlmacaaDoor
open Go.RowKit Garner

section
variable (nm : Bs) (g mp : Nat) (es : Files) (fl dn : Bool) (left : Int) (O : Nat → Prop) (w : World)
set_option maxRecDepth 100000 in
set_option maxHeartbeats 4000000 in
theorem vDread_no (hd : DiskIs O w g mp es fl dn left) (h0 : dmay [nmS nm] dn ≠ 0) :
    Calls Tryd.prog 42 #[.pointer (some ⟨g, 0, none⟩), .string (nmS nm)] w fun e w' => e = .returned (.tuple #[.slice none 0 0, .int .i64 (dmay [nmS nm] dn)]) ∧ Below w.heap.size w w' := by
  have hne := ne_nat _ h0
  clear h0
  go_enter Tryd.func42, Tryd.ntmps42
  go_wp2_with fail
  have hb0 : Below w.heap.size w (w.alloc (.cells #[.string (nmS nm)] 9)) := (Below.refl _ _).alloc (Nat.le_refl _) _
  refine (vDmay [nmS nm] (some ⟨w.heap.size, 0, none⟩) 1 (w.heap.size + 1) g mp fl dn left _ (row_new w 9 [.string (nmS nm)]) (by simp) (hd.below hb0).blk (by simp)).mono ?_
  rintro e w1 ⟨rfl, hb1⟩
  simp only [World.size_alloc] at hb1
  go_wp2
  go_ret2
  exact ⟨rfl, hb0.trans (hb1.mono (by omega))⟩
set_option maxRecDepth 100000 in
set_option maxHeartbeats 4000000 in
theorem vDread_none (hd : DiskIs O w g mp es fl dn left) (h0 : dmay [nmS nm] dn = 0) (hn : aget nm es = none) :
    Calls Tryd.prog 42 #[.pointer (some ⟨g, 0, none⟩), .string (nmS nm)] w fun e w' => e = .returned (.tuple #[.slice none 0 0, .int .i64 21]) ∧ Below w.heap.size w w' := by
  have hne : ((dmay [nmS nm] dn : Nat) : Int) = 0 := by omega
  have Hne := Lib.hid hne
  clear hne h0
  go_enter Tryd.func42, Tryd.ntmps42
  go_wp2_with fail
  have hb0 : Below w.heap.size w (w.alloc (.cells #[.string (nmS nm)] 9)) := (Below.refl _ _).alloc (Nat.le_refl _) _
  refine (vDmay [nmS nm] (some ⟨w.heap.size, 0, none⟩) 1 (w.heap.size + 1) g mp fl dn left _ (row_new w 9 [.string (nmS nm)]) (by simp) (hd.below hb0).blk (by simp)).mono ?_
  rintro e w1 ⟨rfl, hb1⟩
  rw [Hne.out]
  have hd1 := (hd.below hb0).below hb1
  simp only [World.size_alloc] at hb1
  have hbw : Below w.heap.size w w1 := hb0.trans (hb1.mono (by omega))
  have c0 : w1.cell? ⟨g, 0, none⟩ = some (.map (some mp)) := hd1.blk.cell 0
  have gl : g < w1.heap.size := hd1.blk.lt
  have hlook := hd1.look2 nm
  rw [hn] at hlook
  simp only [Option.isSome_none] at hlook
  clear hn hb0 hb1 hd
  go_wp2
  go_ret2
  exact ⟨rfl, hbw.alloc hbw.size _⟩
set_option maxRecDepth 100000 in
set_option maxHeartbeats 4000000 in
theorem vDread_ok (old : FileE) (hd : DiskIs O w g mp es fl dn left) (h0 : dmay [nmS nm] dn = 0) (hn : aget nm es = some old) :
    Calls Tryd.prog 42 #[.pointer (some ⟨g, 0, none⟩), .string (nmS nm)] w fun e w' => ∃ v, e = .returned (.tuple #[v, .int .i64 0]) ∧ OwnB w' w.heap.size v old.data ∧ Below w.heap.size w w' := by
  have hne : ((dmay [nmS nm] dn : Nat) : Int) = 0 := by omega
  have Hne := Lib.hid hne
  clear hne h0
  go_enter Tryd.func42, Tryd.ntmps42
  go_wp2_with fail
  have hb0 : Below w.heap.size w (w.alloc (.cells #[.string (nmS nm)] 9)) := (Below.refl _ _).alloc (Nat.le_refl _) _
  refine (vDmay [nmS nm] (some ⟨w.heap.size, 0, none⟩) 1 (w.heap.size + 1) g mp fl dn left _ (row_new w 9 [.string (nmS nm)]) (by simp) (hd.below hb0).blk (by simp)).mono ?_
  rintro e w1 ⟨rfl, hb1⟩
  rw [Hne.out]
  have hd1 := (hd.below hb0).below hb1
  simp only [World.size_alloc] at hb1
  have hbw : Below w.heap.size w w1 := hb0.trans (hb1.mono (by omega))
  have c0 : w1.cell? ⟨g, 0, none⟩ = some (.map (some mp)) := hd1.blk.cell 0
  have gl : g < w1.heap.size := hd1.blk.lt
  have hlook := hd1.look2 nm
  have hok := hd1.get nm
  rw [get_some hn] at hok
  rw [hn, get_some hn] at hlook
  simp only [Option.isSome_some] at hlook
  clear hn hb0 hb1 hd
  go_wp2_with fail
  refine (vClone old.data old.A old.c w1.heap.size _ (hok.row.alloc (Nat.le_refl _) _) (by simp) hok.len).mono ?_
  rintro e w2 ⟨v, rfl, hown, hb2⟩
  simp only [World.size_alloc] at hown hb2
  have hw1 := hbw.size
  have hb02 : Below w.heap.size w w2 := (hbw.alloc hw1 _).trans (hb2.mono (by omega))
  go_wp2
  go_ret2
  exact ⟨v, rfl, own_mono hown (by omega), hb02⟩
set_option maxRecDepth 100000 in
set_option maxHeartbeats 4000000 in
theorem vList_no (hd : DiskIs O w g mp es fl true left) :
    Calls Tryd.prog 18 #[.pointer (some ⟨g, 0, none⟩)] w fun e w' => e = .returned (.tuple #[.slice none 0 0, .int .i64 23]) ∧ Below w.heap.size w w' := by
  go_enter Tryd.func18, Tryd.ntmps18
  go_wp2_with fail
  refine (vDmay [] none 0 0 g mp fl true left _ Row.none_ (by simp) hd.blk (by simp)).mono ?_
  rintro e w1 ⟨rfl, hb1⟩
  have hm : dmay [] true = 23 := rfl
  rw [hm]
  go_wp2
  go_ret2
  exact ⟨rfl, hb1⟩
set_option maxRecDepth 100000 in
set_option maxHeartbeats 4000000 in
theorem vList_ok (hd : DiskIs O w g mp es fl false left) (hn : es.length * 16 ≤ 140737488351232) :
    Calls Tryd.prog 18 #[.pointer (some ⟨g, 0, none⟩)] w fun e w' => ∃ v, e = .returned (.tuple #[v, .int .i64 0]) ∧ w'.ownsRow w.heap.size 9 1 v es.length ((sortN (es.map (·.1))).map strV) ∧ Below w.heap.size w w' := by
  go_enter Tryd.func18, Tryd.ntmps18
  go_wp2_with fail
  refine (vDmay [] none 0 0 g mp fl false left _ Row.none_ (by simp) hd.blk (by simp)).mono ?_
  rintro e w1 ⟨rfl, hb1⟩
  have hm : dmay [] false = 0 := rfl
  rw [hm]
  have hd1 := hd.below hb1
  have hl : es.al.length = es.length := List.length_map ..
  have hk : es.al.map (·.1) = es.map (·.1) := by unfold Files.al; rw [List.map_map]; rfl
  have hnames := vNames g mp es.al fl false left w1 hd1.blk hd1.map (by omega)
  rw [hk, hl] at hnames
  have Hnames := Lib.hid hnames
  clear hnames hl hk
  go_wp2_with fail
  refine Hnames.out.mono ?_
  rintro e w2 ⟨v, rfl, hown, hb2⟩
  have hs := hb1.size
  go_wp2
  go_ret2
  exact ⟨v, rfl, own_mono hown (by omega), hb1.trans (hb2.mono (by omega))⟩
set_option maxRecDepth 100000 in
set_option maxHeartbeats 4000000 in
theorem vFill (b : Bool) (hd : DiskIs O w g mp es fl dn left) :
    Calls Tryd.prog 28 #[.pointer (some ⟨g, 0, none⟩), .bool b] w fun e w' => e = .returned (.tuple #[]) ∧ DiskIs O w' g mp es b dn left ∧ But [g, mp] w w' := by
  have c1 : w.cell? ⟨g, 1, none⟩ = some (.bool fl) := hd.blk.cell 1
  have f1 := hd.blk.frozen 1
  go_enter Tryd.func28, Tryd.ntmps28
  go_wp2
  go_end0
  have hb : But [g] w (w.setCell ⟨g, 1, none⟩ (.bool b)) := (But.refl _ _).setCell (by simp) _
  exact ⟨rfl, hd.box hb (hd.blk.set_ 1 (.bool b)) hd.lo hd.hi, But.two1 hb⟩
set_option maxRecDepth 100000 in
set_option maxHeartbeats 4000000 in
theorem vDown (hd : DiskIs O w g mp es fl dn left) :
    Calls Tryd.prog 37 #[.pointer (some ⟨g, 0, none⟩)] w fun e w' => e = .returned (.bool dn) ∧ Below w.heap.size w w' := by
  have c2 : w.cell? ⟨g, 2, none⟩ = some (.bool dn) := hd.blk.cell 2
  go_enter Tryd.func37, Tryd.ntmps37
  go_wp2
  go_ret
  exact ⟨rfl, Below.refl _ _⟩
set_option maxRecDepth 100000 in
set_option maxHeartbeats 4000000 in
theorem vArm_no (n : Int) (hd : DiskIs O w g mp es fl true left) :
    Calls Tryd.prog 30 #[.pointer (some ⟨g, 0, none⟩), .int .i64 n] w fun e w' => e = .returned (.tuple #[]) ∧ Below w.heap.size w w' := by
  have c2 : w.cell? ⟨g, 2, none⟩ = some (.bool true) := hd.blk.cell 2
  go_enter Tryd.func30, Tryd.ntmps30
  go_wp2
  refine bodyPost_ret (results_none rfl _ _ _) rfl ?_
  exact ⟨rfl, Below.refl _ _⟩
set_option maxRecDepth 100000 in
set_option maxHeartbeats 4000000 in
theorem vArm_ok (n : Int) (hn1 : -9223372036854775808 ≤ n) (hn2 : n ≤ 9223372036854775807) (hd : DiskIs O w g mp es fl false left) :
    Calls Tryd.prog 30 #[.pointer (some ⟨g, 0, none⟩), .int .i64 n] w fun e w' => e = .returned (.tuple #[]) ∧ DiskIs O w' g mp es fl (decide (n = 0)) (max n (-1)) ∧ But [g, mp] w w' := by
  have c2 : w.cell? ⟨g, 2, none⟩ = some (.bool false) := hd.blk.cell 2
  have c3 : w.cell? ⟨g, 3, none⟩ = some (.int .i64 left) := hd.blk.cell 3
  have f2 := hd.blk.frozen 2; have f3 := hd.blk.frozen 3
  go_enter Tryd.func30, Tryd.ntmps30
  go_wp2
  go_end0
  have e1 : (n == 0) = decide (n = 0) := rfl
  have hb : But [g] w ((w.setCell ⟨g, 3, none⟩ (.int .i64 (max n (-1)))).setCell ⟨g, 2, none⟩ (.bool (n == 0))) := ((But.refl _ _).setCell (by simp) _).setCell (by simp) _
  exact ⟨rfl, hd.box hb ((hd.blk.set_ 3 (.int .i64 (max n (-1)))).set_ 2 (.bool (n == 0))) (by omega) (by omega), But.two1 hb⟩
end
end Go.Proofs.YtmddgimadlmacaaDoor
/-! what a restart leaves, in plain lists -/
namespace Garner
/-- what is known of a file's bytes -/
abbrev FileD := Bs × Nat
def keptN (keep : List Int) (j : Nat) (f : FileD) : Nat :=
  match keep[j]? with
  | some k => f.2 + (min (max k 0) ((f.1.length : Int) - (f.2 : Int))).toNat
  | none => f.2
def cutD (keep : List Int) (j : Nat) (f : FileD) : FileD := (f.1.take (keptN keep j f), keptN keep j f)
def rstUp (keep : List Int) (names : List Bs) (i : Nat) (fs : List (Bs × FileD)) : List (Bs × FileD) :=
  fs.map fun p => (p.1, if names.idxOf p.1 < i then cutD keep (names.idxOf p.1) p.2 else p.2)
theorem rstUp_zero (keep : List Int) (names : List Bs) (fs : List (Bs × FileD)) : rstUp keep names 0 fs = fs := by
  unfold rstUp
  conv => rhs; rw [← List.map_id fs]
  exact List.map_congr_left fun p _ => by simp
theorem rstUp_keys (keep : List Int) (names : List Bs) (i : Nat) (fs : List (Bs × FileD)) : (rstUp keep names i fs).map (·.1) = fs.map (·.1) := by
  unfold rstUp; rw [List.map_map]; rfl
section
variable {κ ν : Type} [DecidableEq κ]
theorem aput_map {a : κ} {v : ν} : ∀ {l : List (κ × ν)}, a ∈ l.map (·.1) → (l.map (·.1)).Nodup → aput a v l = l.map fun p => if p.1 = a then (a, v) else p
  | (b, u) :: r, hm, hn => by
    obtain ⟨h1, h2⟩ := List.nodup_cons.1 hn
    unfold aput
    by_cases e : a = b
    · subst e
      rw [if_pos rfl, List.map_cons, if_pos rfl]
      congr 1
      conv => lhs; rw [← List.map_id r]
      refine List.map_congr_left fun p hp => ?_
      rw [if_neg]
      · rfl
      · intro h; exact h1 (h ▸ List.mem_map.2 ⟨p, hp, rfl⟩)
    · rw [if_neg e, List.map_cons, if_neg (fun h => e h.symm)]
      rw [aput_map (List.mem_of_ne_of_mem e (by simpa using hm)) h2]
theorem aget_map' {ν' : Type} {f : κ → ν → ν'} (a : κ) : ∀ (l : List (κ × ν)), aget a (l.map fun p => (p.1, f p.1 p.2)) = (aget a l).map (f a)
  | [] => rfl
  | (b, u) :: r => by
    simp only [List.map_cons, aget]
    split
    · rename_i e; subst e; rfl
    · exact aget_map' a r
theorem aget_some {a : κ} : ∀ {l : List (κ × ν)}, a ∈ l.map (·.1) → ∃ v, aget a l = some v
  | (b, u) :: r, h => by
    unfold aget
    split
    · exact ⟨u, rfl⟩
    · rename_i e
      exact aget_some (List.mem_of_ne_of_mem e (by simpa using h))
theorem aget_of_mem {a : κ} {v : ν} : ∀ {l : List (κ × ν)}, (l.map (·.1)).Nodup → (a, v) ∈ l → aget a l = some v
  | (b, u) :: r, hn, h => by
    obtain ⟨h1, h2⟩ := List.nodup_cons.1 hn
    unfold aget
    rcases List.mem_cons.1 h with h' | h'
    · injection h' with e1 e2; subst e1; subst e2; rw [if_pos rfl]
    · rw [if_neg (fun e => h1 (by rw [← e]; exact List.mem_map.2 ⟨_, h', rfl⟩))]
      exact aget_of_mem h2 h'
theorem aget_none {a : κ} : ∀ {l : List (κ × ν)}, a ∉ l.map (·.1) → aget a l = none
  | [], _ => rfl
  | (b, u) :: r, h => by
    unfold aget
    rw [if_neg (fun e => h (by simp [e]))]
    exact aget_none (fun hm => h (List.mem_cons_of_mem _ hm))
end
theorem idx_at {names : List Bs} (hn : names.Nodup) {i : Nat} (hi : i < names.length) : names.idxOf names[i] = i := hn.idxOf_getElem i hi
theorem idx_inj {names : List Bs} {a b : Bs} (ha : a ∈ names) (h : names.idxOf a = names.idxOf b) : a = b := by
  have h1 := List.idxOf_lt_length_of_mem ha
  have h2 : names[names.idxOf a]? = some a := by rw [List.getElem?_eq_getElem h1, List.getElem_idxOf]
  rw [h] at h2 h1
  have h3 : names[names.idxOf b]? = some b := by rw [List.getElem?_eq_getElem h1, List.getElem_idxOf]
  rw [h3] at h2
  exact (Option.some.inj h2).symm
/-- the next name's file is cut -/
theorem rstUp_step (keep : List Int) {names : List Bs} (hn : names.Nodup) {fs : List (Bs × FileD)} (hk : (fs.map (·.1)).Nodup) {i : Nat} (hi : i < names.length) (hm : names[i] ∈ fs.map (·.1)) {f : FileD} (hf : aget names[i] fs = some f) :
    aput names[i] (cutD keep i f) (rstUp keep names i fs) = rstUp keep names (i + 1) fs := by
  rw [aput_map (by rw [rstUp_keys]; exact hm) (by rw [rstUp_keys]; exact hk)]
  unfold rstUp
  rw [List.map_map]
  refine List.map_congr_left fun p hp => ?_
  simp only [Function.comp_apply]
  by_cases e : p.1 = names[i]
  · rw [if_pos e, e, idx_at hn hi, if_pos (by omega)]
    have : aget names[i] fs = some p.2 := by
      obtain ⟨a, b⟩ := p
      simp only at e
      subst e
      exact aget_of_mem hk hp
    rw [this] at hf
    injection hf with hf
    rw [hf]
  · rw [if_neg e]
    have hne : names.idxOf p.1 ≠ i := fun h => e (by
      have hmem : p.1 ∈ names := List.idxOf_lt_length_iff.1 (by omega)
      exact (idx_inj hmem (h.trans (idx_at hn hi).symm)))
    by_cases h1 : names.idxOf p.1 < i
    · rw [if_pos h1, if_pos (by omega)]
    · rw [if_neg h1, if_neg (by omega)]
end Garner
