import Derived.Test.YtmddgimadlmacaaAwake5
namespace Go.Proofs.Ytmddgimadlmacaa
open Go.RowKit Garner

abbrev nM : Bs := [109]
abbrev nMn : Bs := [109, 46, 110, 101, 119]
theorem drM : dmay [nmS nM] false = 0 := by kernel_rfl
theorem drMd : dmay [nmS nM] true = 23 := by kernel_rfl
theorem drN : dmay [nmS nMn] false = 0 := by kernel_rfl
theorem drNd : dmay [nmS nMn] true = 23 := by kernel_rfl
theorem drB : dmay [nmS nMn, nmS nM] false = 0 := by kernel_rfl
theorem drBd : dmay [nmS nMn, nmS nM] true = 23 := by kernel_rfl
theorem dr1 (old : Bs) : aAppend nM old AD.new = (0, ⟨[(nM, (old, 0))], false, false, -1⟩) := by
  have e : fget nM AD.new.fs = ([], 0) := rfl
  unfold aAppend
  rw [if_neg (by rw [show AD.new.dn = false from rfl, drM]; decide), e]
  rfl
theorem dr2 (old : Bs) : aSync nM ⟨[(nM, (old, 0))], false, false, -1⟩ = (0, ⟨[(nM, (old, old.length))], false, false, -1⟩) := by
  unfold aSync
  rw [if_neg (by rw [drM]; decide)]
  rfl
theorem rst_two (n : Int) (fs : List (Bs × FileD)) (h : fs.length ≤ 2) : rst [n, n] fs = fs.map fun p => (p.1, cutD [n] 0 p.2) := by
  unfold rst rstUp
  refine List.map_congr_left fun p hp => ?_
  have hm : p.1 ∈ sortN (fs.map (·.1)) := mem_sortN.2 (List.mem_map.2 ⟨p, hp, rfl⟩)
  have hlt := List.idxOf_lt_length_of_mem hm
  rw [sortN_len, List.length_map] at hlt
  rw [if_pos hlt]
  congr 1
  generalize List.idxOf p.1 (sortN (fs.map (·.1))) = j at *
  unfold cutD keptN
  have : j = 0 ∨ j = 1 := by omega
  rcases this with rfl | rfl <;> rfl
/-- what is written over it, with the disk going down at change k -/
structure DR (old fresh : Bs) (k : Nat) (n : Int) : Prop where
  get : (fget nMn (aArm k ⟨[(nM, (old, old.length))], false, false, -1⟩).fs).1 = []
  down : (aRename nMn nM (aSync nMn (aAppend nMn fresh (aArm k ⟨[(nM, (old, old.length))], false, false, -1⟩)).2).2).2.dn = decide (k ≤ 3)
  res : (aRename nMn nM (aSync nMn (aAppend nMn fresh (aArm k ⟨[(nM, (old, old.length))], false, false, -1⟩)).2).2).1 = if 3 ≤ k then 0 else 23
  len : (aRename nMn nM (aSync nMn (aAppend nMn fresh (aArm k ⟨[(nM, (old, old.length))], false, false, -1⟩)).2).2).2.fs.length ≤ 2
  read : aRead nM (aRestart [n, n] (aRename nMn nM (aSync nMn (aAppend nMn fresh (aArm k ⟨[(nM, (old, old.length))], false, false, -1⟩)).2).2).2) = (if 3 ≤ k then fresh else old, 0)
  len7 : (aRestart [n, n] (aRename nMn nM (aSync nMn (aAppend nMn fresh (aArm k ⟨[(nM, (old, old.length))], false, false, -1⟩)).2).2).2).fs.length ≤ 2
  list : 3 ≤ k → aList (aRestart [n, n] (aRename nMn nM (aSync nMn (aAppend nMn fresh (aArm k ⟨[(nM, (old, old.length))], false, false, -1⟩)).2).2).2) = ([nM], 0)
theorem ap_dn (nm data : Bs) (fs : List (Bs × FileD)) (L : Int) (h : dmay [nmS nm] true = 23) : aAppend nm data ⟨fs, false, true, L⟩ = (23, ⟨fs, false, true, L⟩) := by unfold aAppend; rw [if_pos (by rw [h]; decide), h]
theorem sy_dn (nm : Bs) (fs : List (Bs × FileD)) (L : Int) (h : dmay [nmS nm] true = 23) : aSync nm ⟨fs, false, true, L⟩ = (23, ⟨fs, false, true, L⟩) := by unfold aSync; rw [if_pos (by rw [h]; decide), h]
theorem rn_dn (nm nm2 : Bs) (fs : List (Bs × FileD)) (L : Int) (h : dmay [nmS nm, nmS nm2] true = 23) : aRename nm nm2 ⟨fs, false, true, L⟩ = (23, ⟨fs, false, true, L⟩) := by unfold aRename; rw [if_pos (by rw [h]; decide), h]
theorem ap_up (nm data : Bs) (fs : List (Bs × FileD)) (L : Int) (h : dmay [nmS nm] false = 0) : aAppend nm data ⟨fs, false, false, L⟩ = (0, ⟨aput nm ((fget nm fs).1 ++ data, (fget nm fs).2) fs, false, armedD L false, armed L⟩) := by unfold aAppend; rw [if_neg (by rw [h]; decide)]; rfl
theorem sy_up (nm : Bs) (fs : List (Bs × FileD)) (L : Int) (f : FileD) (h : dmay [nmS nm] false = 0) (hf : aget nm fs = some f) : aSync nm ⟨fs, false, false, L⟩ = (0, ⟨aput nm (f.1, f.1.length) fs, false, armedD L false, armed L⟩) := by unfold aSync; rw [if_neg (by rw [h]; decide)]; simp only [hf]; rfl
theorem rn_up (nm nm2 : Bs) (fs : List (Bs × FileD)) (L : Int) (f : FileD) (h : dmay [nmS nm, nmS nm2] false = 0) (hf : aget nm fs = some f) : aRename nm nm2 ⟨fs, false, false, L⟩ = (0, ⟨aput nm2 f (adel nm fs), false, armedD L false, armed L⟩) := by unfold aRename; rw [if_neg (by rw [h]; decide)]; simp only [hf]; rfl
theorem cut_full (n : Int) (l : Bs) : cutD [n] 0 (l, l.length) = (l, l.length) := by
  have h : keptN [n] 0 (l, l.length) = l.length := by simp only [keptN, List.getElem?_cons_zero]; omega
  unfold cutD; rw [h]; simp
theorem dr_all (old fresh : Bs) (k : Nat) (hk : k < 6) (n : Int) : DR old fresh k n := by
  have g1 : fget nMn [(nM, (old, old.length))] = ([], 0) := rfl
  have p1 : aput nMn ([] ++ fresh, 0) [(nM, (old, old.length))] = [(nM, (old, old.length)), (nMn, (fresh, 0))] := rfl
  have q1 : aget nMn [(nM, (old, old.length)), (nMn, (fresh, 0))] = some (fresh, 0) := rfl
  have p2 : aput nMn (fresh, fresh.length) [(nM, (old, old.length)), (nMn, (fresh, 0))] = [(nM, (old, old.length)), (nMn, (fresh, fresh.length))] := rfl
  have q2 : aget nMn [(nM, (old, old.length)), (nMn, (fresh, fresh.length))] = some (fresh, fresh.length) := rfl
  have p3 : aput nM (fresh, fresh.length) (adel nMn [(nM, (old, old.length)), (nMn, (fresh, fresh.length))]) = [(nM, (fresh, fresh.length))] := rfl
  have l1 : ∀ f : FileD, aList ⟨[(nM, f)], false, false, -1⟩ = ([nM], 0) := fun f => by simp [aList, sortN]
  have r1 : ∀ (f : FileD) (r : List (Bs × FileD)), aRead nM ⟨(nM, f) :: r, false, false, -1⟩ = (f.1, 0) := fun f r => by
    unfold aRead; rw [if_neg (by rw [drM]; decide)]; rfl
  have hk' : k = 0 ∨ k = 1 ∨ k = 2 ∨ k = 3 ∨ k = 4 ∨ k = 5 := by omega
  rcases hk' with rfl | rfl | rfl | rfl | rfl | rfl
  · have a : aArm ((0 : Nat) : Int) ⟨[(nM, (old, old.length))], false, false, -1⟩ = ⟨[(nM, (old, old.length))], false, true, 0⟩ := rfl
    constructor <;> simp only [a, g1, ap_dn _ _ _ _ drNd, sy_dn _ _ _ drNd, rn_dn _ _ _ _ drBd, aRestart, rst_two n _ (by simp : [(nM, (old, old.length))].length ≤ 2), List.map_cons, List.map_nil, cut_full, r1] <;> simp
  · have a : aArm ((1 : Nat) : Int) ⟨[(nM, (old, old.length))], false, false, -1⟩ = ⟨[(nM, (old, old.length))], false, false, 1⟩ := rfl
    have b : armedD 1 false = true := rfl
    have c : armed 1 = 0 := rfl
    constructor <;> simp only [a, g1, ap_up _ _ _ _ drN, p1, b, c, sy_dn _ _ _ drNd, rn_dn _ _ _ _ drBd, aRestart, rst_two n _ (by simp : [(nM, (old, old.length)), (nMn, (fresh, 0))].length ≤ 2), List.map_cons, List.map_nil, cut_full, r1] <;> simp
  · have a : aArm ((2 : Nat) : Int) ⟨[(nM, (old, old.length))], false, false, -1⟩ = ⟨[(nM, (old, old.length))], false, false, 2⟩ := rfl
    have b : armedD 1 false = true := rfl
    have c : armed 1 = 0 := rfl
    have b2 : armedD 2 false = false := rfl
    have c2 : armed 2 = 1 := rfl
    constructor <;> simp only [a, g1, ap_up _ _ _ _ drN, p1, b, c, b2, c2, sy_up _ _ _ _ drN q1, p2, rn_dn _ _ _ _ drBd, aRestart, rst_two n _ (by simp : [(nM, (old, old.length)), (nMn, (fresh, fresh.length))].length ≤ 2), List.map_cons, List.map_nil, cut_full, r1] <;> simp
  · have a : aArm ((3 : Nat) : Int) ⟨[(nM, (old, old.length))], false, false, -1⟩ = ⟨[(nM, (old, old.length))], false, false, 3⟩ := rfl
    have b : armedD 3 false = false := rfl
    have c : armed 3 = 2 := rfl
    have b2 : armedD 2 false = false := rfl
    have c2 : armed 2 = 1 := rfl
    have b3 : armedD 1 false = true := rfl
    have c3 : armed 1 = 0 := rfl
    constructor <;> simp only [a, g1, ap_up _ _ _ _ drN, p1, b, c, b2, c2, b3, c3, sy_up _ _ _ _ drN q1, p2, rn_up _ _ _ _ _ drB q2, p3, aRestart, rst_two n _ (by simp : [(nM, (fresh, fresh.length))].length ≤ 2), List.map_cons, List.map_nil, cut_full, r1, l1] <;> simp
  · have a : aArm ((4 : Nat) : Int) ⟨[(nM, (old, old.length))], false, false, -1⟩ = ⟨[(nM, (old, old.length))], false, false, 4⟩ := rfl
    have b : armedD 4 false = false := rfl
    have c : armed 4 = 3 := rfl
    have b2 : armedD 3 false = false := rfl
    have c2 : armed 3 = 2 := rfl
    have b3 : armedD 2 false = false := rfl
    have c3 : armed 2 = 1 := rfl
    constructor <;> simp only [a, g1, ap_up _ _ _ _ drN, p1, b, c, b2, c2, b3, c3, sy_up _ _ _ _ drN q1, p2, rn_up _ _ _ _ _ drB q2, p3, aRestart, rst_two n _ (by simp : [(nM, (fresh, fresh.length))].length ≤ 2), List.map_cons, List.map_nil, cut_full, r1, l1] <;> simp
  · have a : aArm ((5 : Nat) : Int) ⟨[(nM, (old, old.length))], false, false, -1⟩ = ⟨[(nM, (old, old.length))], false, false, 5⟩ := rfl
    have b : armedD 5 false = false := rfl
    have c : armed 5 = 4 := rfl
    have b2 : armedD 4 false = false := rfl
    have c2 : armed 4 = 3 := rfl
    have b3 : armedD 3 false = false := rfl
    have c3 : armed 3 = 2 := rfl
    constructor <;> simp only [a, g1, ap_up _ _ _ _ drN, p1, b, c, b2, c2, b3, c3, sy_up _ _ _ _ drN q1, p2, rn_up _ _ _ _ _ drB q2, p3, aRestart, rst_two n _ (by simp : [(nM, (fresh, fresh.length))].length ≤ 2), List.map_cons, List.map_nil, cut_full, r1, l1] <;> simp
theorem u64_lo (n : Int) : 0 ≤ IntKind.u64.wrap n ∧ IntKind.u64.wrap n < 18446744073709551616 := by
  simp only [IntKind.wrap, IntKind.bits, IntKind.signed]
  simp
  omega
/-- a number without a sign, modulo a small one, as an int -/
theorem u64_mod (n : Int) (m : Nat) (hm : 0 < m) (hm2 : m ≤ 1000000) : ∃ k : Nat, k < m ∧ wrap64 ((IntKind.u64.wrap n).tmod m) = k := by
  obtain ⟨h1, h2⟩ := u64_lo n
  rw [Int.tmod_eq_emod_of_nonneg h1]
  have h3 := Int.emod_nonneg (IntKind.u64.wrap n) (show (m : Int) ≠ 0 by omega)
  have h4 := Int.emod_lt_of_pos (IntKind.u64.wrap n) (show (0 : Int) < m by omega)
  refine ⟨((IntKind.u64.wrap n) % m).toNat, by omega, ?_⟩
  rw [IntWalk.wrap64_in _ ⟨by omega, by omega⟩]; omega
set_option maxRecDepth 100000 in
set_option maxHeartbeats 4000000 in
theorem lawDR (old fresh : Bs) (A0 A1 : Option Addr) (c0 c1 B : Nat) (n : Int) (w : World) (h0 : Bytes w B A0 old.length old) (h1 : Bytes w B A1 fresh.length fresh) (hB : B ≤ w.heap.size) (hl0 : old.length ≤ 140737488355328) (hl1 : fresh.length ≤ 140737488355328) (hn : in64 n) :
    Calls Try.prog 6 #[.slice A0 old.length c0, .slice A1 fresh.length c1, .int .i64 n] w fun e w' => e = .returned (.bool true) ∧ Below w.heap.size w w' := by
  obtain ⟨nl, nh⟩ := hn
  go_enter Try.func6, Try.ntmps6
  go_wp2_with fail
  refine (vAwake5 w).mono ?_
  rintro e w0 ⟨rfl, hb0⟩
  go_wp2_with fail
  refine (aNew_calls w.heap.size w0 hb0.size).mono ?_
  rintro e w1 ⟨g, mp, rfl, hd1, hb1, _, _⟩
  have hb01 := hb0.trans (hb1.mono hb0.size)
  clear hb0 hb1
  go_wp2_with fail
  refine (aAppend_calls nM old A0 c0 B w.heap.size g mp AD.new _ hd1 (h0.below (hb01.mono hB)) (Nat.le_trans hB hb01.size) (by show 0 + old.length ≤ _; omega)).mono ?_
  rintro e w2 ⟨rfl, hd2, hb2⟩
  have hb02 := hb01.trans (hd1.down hb2)
  rw [dr1] at hd2 ⊢
  clear hd1 hb01 hb2
  go_wp2_with fail
  refine (aSync_calls nM w.heap.size g mp _ _ hd2).mono ?_
  rintro e w3 ⟨rfl, hd3, hb3⟩
  have hb03 := hb02.trans (hd2.down hb3)
  rw [dr2] at hd3 ⊢
  clear hd2 hb02 hb3
  go_wp2_with fail
  obtain ⟨k, hk6, hk⟩ := u64_mod n 6 (by omega) (by omega)
  rw [show ((6 : Nat) : Int) = 6 from rfl] at hk
  rw [hk]
  have HD := dr_all old fresh k hk6 n
  refine (aArm_calls w.heap.size g mp _ _ (k : Int) (by omega) (by omega) hd3).mono ?_
  rintro e w4 ⟨rfl, hd4, hb4⟩
  have hb04 := hb03.trans (hd3.down hb4)
  have hget := HD.get
  have hdown := HD.down; have hres := HD.res; have hlen := HD.len; have hread := HD.read; have hlen7 := HD.len7; have hlist := HD.list
  clear hd3 hb03 hb4 HD hk
  generalize aArm (k : Int) ⟨[(nM, (old, old.length))], false, false, -1⟩ = d4 at *
  have Hdown := Lib.hid hdown; have Hres := Lib.hid hres; have Hlen := Lib.hid hlen; have Hread := Lib.hid hread; have Hlen7 := Lib.hid hlen7; have Hlist := Lib.hid hlist
  clear hdown hres hlen hread hlen7 hlist
  go_wp2_with fail
  refine (aAppend_calls nMn fresh A1 c1 B w.heap.size g mp d4 w4 hd4 (h1.below (hb04.mono hB)) (Nat.le_trans hB hb04.size) (by rw [hget]; show 0 + fresh.length ≤ _; omega)).mono ?_
  rintro e w5 ⟨rfl, hd5, hb5⟩
  have hb05 := hb04.trans (hd4.down hb5)
  clear hd4 hb04 hb5 hget
  generalize (aAppend nMn fresh d4).1 = r5 at *
  go_wp2_with fail
  refine (aSync_calls nMn w.heap.size g mp _ _ hd5).mono ?_
  rintro e w6 ⟨rfl, hd6, hb6⟩
  have hb06 := hb05.trans (hd5.down hb6)
  clear hd5 hb05 hb6
  go_wp2_with fail
  refine (aRename_calls nMn nM w.heap.size g mp _ _ hd6).mono ?_
  rintro e w7 ⟨rfl, hd7, hb7⟩
  have hb07 := hb06.trans (hd6.down hb7)
  clear hd6 hb06 hb7
  by_cases h3 : 3 ≤ k
  · skip
    have hres := Hres.out
    have hread := Hread.out
    rw [if_pos h3] at hres hread
    rw [hres]
    have h3' : (3 : Int) ≤ k := by omega
    obtain ⟨d8, hd8e⟩ : ∃ d, d = (aRename nMn nM (aSync nMn (aAppend nMn fresh d4).2).2).2 := ⟨_, rfl⟩
    have hlen := Hlen.out; have hlen7 := Hlen7.out; have hdown := Hdown.out
    rw [← hd8e] at hlen hread hlen7 hd7 hdown
    have hlist := Hlist.out h3
    rw [← hd8e] at hlist
    have Hread := Lib.hid hread; have Hlen7 := Lib.hid hlen7; have Hdn := Lib.hid hdown
    have Hlist := Lib.hid hlist
    clear Hlen Hdown Hres hread hlen7 hd8e hdown hres hlist
    go_wp2_with fail
    refine (aDown_calls w.heap.size g mp _ _ hd7).mono ?_
    rintro e w8 ⟨rfl, hb8⟩
    rw [Hdn.out]
    have hd8 := hd7.below hb8
    have hb08 := hb07.trans (hb8.mono hb07.size)
    clear hd7 hb07 hb8
    have hbX : ∀ o : Obj, Below w8.heap.size w8 (w8.alloc o) := fun o => (Below.refl _ _).alloc (Nat.le_refl _) _
    have hlt8 := hd8.lt
    go_wp2_with fail
    refine (aRestart_calls (some ⟨w8.heap.size, 0, none⟩) 2 w.heap.size g mp d8 _ [n, n] (hd8.below (hbX _)) ((row_new w8 3 [.int .i64 n, .int .i64 n]).more (by simp)) (fun _ b off e => by simp only [Option.some.injEq, Addr.mk.injEq, and_true] at e; omega) (by simp) (by simp only [List.mem_cons, List.not_mem_nil, or_false]; rintro q (rfl | rfl) <;> exact ⟨nl, nh⟩) (by omega)).mono ?_
    rintro e w9 ⟨rfl, hd9, hb9⟩
    have hb09 := (hb08.trans ((hbX _).mono hb08.size)).trans ((hd8.below (hbX _)).down hb9)
    clear hd8 hb08 hbX hb9
    obtain ⟨d9, hd9e⟩ : ∃ d, d = aRestart [n, n] d8 := ⟨_, rfl⟩
    have hread := Hread.out; have hlen7 := Hlen7.out
    rw [← hd9e] at hd9 hread hlen7
    have hlist := Hlist.out
    rw [← hd9e] at hlist
    have Hread := Lib.hid hread
    have Hlist := Lib.hid hlist
    clear Hlen7 hread hd9e hlist
    go_wp2_with fail
    refine (aRead_calls nM w.heap.size g mp d9 _ hd9).mono ?_
    rintro e w10 ⟨A10, c10, rfl, own10, hb10⟩
    rw [Hread.out] at own10 ⊢
    have hd10 := hd9.below hb10
    have hb010 := hb09.trans (hb10.mono hb09.size)
    clear hd9 hb09 hb10
    go_wp2_with fail
    refine (aList_calls w.heap.size g mp d9 _ hd10 (by omega)).mono ?_
    rintro e w11 ⟨A11, c11, rfl, own11, hb11⟩
    rw [Hlist.out] at own11 ⊢
    have hb011 := hb010.trans (hb11.mono hb010.size)
    have own10' := own_below own10 hb11
    have hcv : ∀ c' : Nat, (convert 26 9 (.slice A10 fresh.length c')).run Try.prog w11 = .ok (.string ⟨fresh.toArray⟩) w11 := fun c' => run_str (Row.of_own own10')
    have hcv1 : ∀ c' : Nat, (convert 26 9 (.slice A1 fresh.length c')).run Try.prog w11 = .ok (.string ⟨fresh.toArray⟩) w11 := fun c' => run_str (h1.below (hb011.mono hB))
    obtain ⟨gl, rfl, _, _, _, _, hcl⟩ := own_at own11 (by simp)
    have cl0 : w11.cell? ⟨gl, 0, none⟩ = some (.string ⟨#[109]⟩) := hcl 0 (by simp)
    clear hcl own10 own10' hb11 hd10
    go_wp2
    go_ret
    exact ⟨rfl, hb011⟩
  · skip
    have hres := Hres.out
    have hread := Hread.out
    rw [if_neg (by omega)] at hres hread
    rw [hres]
    have h3' : (k : Int) < 3 := by omega
    obtain ⟨d8, hd8e⟩ : ∃ d, d = (aRename nMn nM (aSync nMn (aAppend nMn fresh d4).2).2).2 := ⟨_, rfl⟩
    have hlen := Hlen.out; have hlen7 := Hlen7.out; have hdown := Hdown.out
    rw [← hd8e] at hlen hread hlen7 hd7 hdown
    have Hread := Lib.hid hread; have Hlen7 := Lib.hid hlen7; have Hdn := Lib.hid hdown
    clear Hlen Hdown Hres hread hlen7 hd8e hdown hres 
    go_wp2_with fail
    refine (aDown_calls w.heap.size g mp _ _ hd7).mono ?_
    rintro e w8 ⟨rfl, hb8⟩
    rw [Hdn.out]
    have hd8 := hd7.below hb8
    have hb08 := hb07.trans (hb8.mono hb07.size)
    clear hd7 hb07 hb8
    have hbX : ∀ o : Obj, Below w8.heap.size w8 (w8.alloc o) := fun o => (Below.refl _ _).alloc (Nat.le_refl _) _
    have hlt8 := hd8.lt
    go_wp2_with fail
    refine (aRestart_calls (some ⟨w8.heap.size, 0, none⟩) 2 w.heap.size g mp d8 _ [n, n] (hd8.below (hbX _)) ((row_new w8 3 [.int .i64 n, .int .i64 n]).more (by simp)) (fun _ b off e => by simp only [Option.some.injEq, Addr.mk.injEq, and_true] at e; omega) (by simp) (by simp only [List.mem_cons, List.not_mem_nil, or_false]; rintro q (rfl | rfl) <;> exact ⟨nl, nh⟩) (by omega)).mono ?_
    rintro e w9 ⟨rfl, hd9, hb9⟩
    have hb09 := (hb08.trans ((hbX _).mono hb08.size)).trans ((hd8.below (hbX _)).down hb9)
    clear hd8 hb08 hbX hb9
    obtain ⟨d9, hd9e⟩ : ∃ d, d = aRestart [n, n] d8 := ⟨_, rfl⟩
    have hread := Hread.out; have hlen7 := Hlen7.out
    rw [← hd9e] at hd9 hread hlen7
    have Hread := Lib.hid hread
    clear Hlen7 hread hd9e 
    go_wp2_with fail
    refine (aRead_calls nM w.heap.size g mp d9 _ hd9).mono ?_
    rintro e w10 ⟨A10, c10, rfl, own10, hb10⟩
    rw [Hread.out] at own10 ⊢
    have hd10 := hd9.below hb10
    have hb010 := hb09.trans (hb10.mono hb09.size)
    clear hd9 hb09 hb10
    have hcv : ∀ c' : Nat, (convert 26 9 (.slice A10 old.length c')).run Try.prog w10 = .ok (.string ⟨old.toArray⟩) w10 := fun c' => run_str (Row.of_own own10)
    have hcv0 : ∀ c' : Nat, (convert 26 9 (.slice A0 old.length c')).run Try.prog w10 = .ok (.string ⟨old.toArray⟩) w10 := fun c' => run_str (h0.below (hb010.mono hB))
    go_wp2
    go_ret
    exact ⟨rfl, hb010⟩
end Go.Proofs.Ytmddgimadlmacaa
