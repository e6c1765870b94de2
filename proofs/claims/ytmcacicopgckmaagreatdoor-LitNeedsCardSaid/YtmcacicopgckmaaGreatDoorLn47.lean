import Derived.Test.YtmcacicopgckmaaGreatDoorLn45
import Derived.Test.YtmcacicopgckmaaGreatDoorLn21
/-! text: Inner -/
namespace Garner
open Go
def innerQ (N : Nat) (L : List RunP) : List Bs := (L.filter fun u => decide (0 < u.fr) && decide (u.to < N)).map fun u => encT u.word
theorem innerT_eq (l : Bs) : innerT l = innerQ l.length (runsT l) := rfl
theorem innerQ_snoc (N : Nat) (L : List RunP) (u : RunP) : innerQ N (L ++ [u]) = innerQ N L ++ if 0 < u.fr ∧ u.to < N then [encT u.word] else [] := by
  unfold innerQ
  rw [List.filter_append, List.map_append]
  congr 1
  by_cases h : 0 < u.fr ∧ u.to < N
  · rw [if_pos h]; simp [h.1, h.2]
  · rw [if_neg h]
    have : (decide (0 < u.fr) && decide (u.to < N)) = false := by
      rw [Bool.and_eq_false_iff, decide_eq_false_iff_not, decide_eq_false_iff_not]
      omega
    simp [this]
theorem innerQ_len (N : Nat) (L : List RunP) : (innerQ N L).length ≤ L.length := by
  unfold innerQ
  rw [List.length_map]
  exact List.length_filter_le _ _
end Garner
namespace Go.Proofs.YtmcacicopgckmaaGreatDoor
open Go.RowKit Garner
theorem RunsD.nth {B : Nat} {w : World} {v : Value} {ds : List RunD} (h : RunsD B w v ds) {j : Nat} {d : RunD} (hd : ds[j]? = some d) : ∃ gL cap, v = .slice (some ⟨gL, 0, none⟩) ds.length cap ∧ w.cell? ⟨gL, j * 3, none⟩ = some (.slice d.A d.p.word.length d.c) ∧ w.cell? ⟨gL, j * 3 + 1, none⟩ = some (.int .i64 d.p.fr) ∧ w.cell? ⟨gL, j * 3 + 2, none⟩ = some (.int .i64 d.p.to) := by
  have hj := (List.getElem?_eq_some_iff.1 hd).1
  obtain ⟨A, c, rfl, hc⟩ := own_form h.own
  obtain ⟨gL, rfl, hB, hg, -, -, hcell⟩ := own_at h.own (by omega)
  exact ⟨gL, c, rfl, by rw [hcell _ (by omega)]; exact run_at hd 0 (by omega), by rw [hcell _ (by omega)]; exact run_at hd 1 (by omega), by rw [hcell _ (by omega)]; exact run_at hd 2 (by omega)⟩
theorem RunsD.kept {B : Nat} {w w' : World} {v : Value} {ds : List RunD} (h : RunsD B w v ds) {Bs n : Nat} {vs : Value} {xs : List Value} (ho : w.ownsRow Bs 9 1 vs n xs) (hg : w.grownBy w' vs.ownBlock) : RunsD B w' v ds := by
  have key : ∀ {e : TypeId} {sz n : Nat} {v : Value} {xs : List Value}, w.ownsRow B e sz v n xs → e ≠ 9 → w'.ownsRow B e sz v n xs := fun hx hne => own_grown hx hg (by
    rename_i v _
    rcases hb : v.ownBlock with _ | k
    · exact .inl rfl
    · refine .inr fun e => ?_
      have := own_own ho hx (fun e => hne e.symm) k hb
      rw [← e] at this
      simp at this)
  exact ⟨key h.own (by decide), fun d hd => key (h.word d hd) (by decide), h.apart⟩
set_option maxRecDepth 100000 in
set_option maxHeartbeats 32000000 in
theorem vInner (S : ByteArray) (l : Bs) (hS : S = ⟨l.toArray⟩) (w : World) (hl : l.length ≤ 1000000000000) :
    Calls Tryz.prog 37 #[.string S] w fun e w' => ∃ v, e = .returned v ∧ w'.ownsRow w.heap.size 9 1 v (innerP l).length ((innerP l).map strV) ∧ Below w.heap.size w w' := by
  have hr := vRuns S l hS w hl
  have zS : S.size = l.length := by rw [hS]; exact str_size l
  obtain ⟨N, hN⟩ : ∃ N, l.length = N := ⟨_, rfl⟩
  rw [hN] at zS hl hr
  have HR := Lib.hid hr; have HN := Lib.hid hN
  clear hr hN hS
  go_enter Tryz.func37, Tryz.ntmps37
  go_wp2_with fail
  refine HR.out.mono ?_
  rintro e w1 ⟨v1, ds, rfl, hds, hrun, hb1, hlen⟩
  obtain ⟨A1, c1, rfl, -⟩ := own_form hrun.own
  obtain ⟨M, hM⟩ : ∃ M, ds.length = M := ⟨_, rfl⟩
  rw [hM] at hrun hlen ⊢
  have HM := Lib.hid hM; have Hds := Lib.hid hds; have Hrun := Lib.hid hrun; have HB1 := Lib.hid hb1
  clear hM hds hrun hb1 HR
  go_wp2
  go_loopw [3, 9] (fun v i wr => ∃ (j : Nat) (out : List Bs), j ≤ M ∧ i = .int .i64 j ∧ Hid (out = innerQ N ((ds.take j).map (·.p))) ∧ Hid (wr.ownsRow w.heap.size 9 1 v out.length (out.map strV)) ∧ Hid (RunsD w.heap.size wr (.slice A1 M c1) ds) ∧ Hid (Below w.heap.size w wr) ∧ out.length ≤ j) (fun _ i _ => M - (intOf i).toNat)
  case atStart => exact ⟨0, [], Nat.zero_le _, rfl, Lib.hid rfl, Lib.hid (World.ownsRow_nil _ _ _ _), Hrun, HB1, Nat.le_refl _⟩
  case round =>
    obtain ⟨j, out, hj, rfl, hout, hown, hrun, hbw, hoj⟩ := hrel
    obtain ⟨wo, rfl⟩ : ∃ wo : World, wo = wr := ⟨_, rfl⟩
    obtain ⟨A3, c3, rfl, -⟩ := own_form hown.out
    obtain ⟨n3, hn3⟩ : ∃ n3, out.length = n3 := ⟨_, rfl⟩
    rw [hn3] at hown hoj ⊢
    have Hn3 := Lib.hid hn3
    clear hn3
    have hso := hbw.out.size
    have wj1 : IntKind.i64.wrap ((j : Int) + 1) = ((j + 1 : Nat) : Int) := by rw [IntKind.wrap_i64]; omega
    by_cases hlt : j < M
    · have z1 : (j : Int) < (M : Int) := by omega
      obtain ⟨d, hd⟩ : ∃ d, ds[j]? = some d := ⟨_, List.getElem?_eq_getElem (by rw [HM.out]; exact hlt)⟩
      obtain ⟨gL, cap, ev, k0, k1, k2⟩ := hrun.out.nth hd
      rw [HM.out] at ev
      cases ev
      have htk : (ds.take (j + 1)).map (·.p) = (ds.take j).map (·.p) ++ [d.p] := by rw [List.take_add_one, hd, Option.toList_some, List.map_append]; rfl
      have hq := innerQ_snoc N ((ds.take j).map (·.p)) d.p
      rw [← htk, ← hout.out] at hq
      have hdw := hrun.out.word d (List.mem_of_getElem? hd)
      obtain ⟨n, hn⟩ : ∃ n, d.p.word.length = n := ⟨_, rfl⟩
      obtain ⟨fr, hfr⟩ : ∃ fr, d.p.fr = fr := ⟨_, rfl⟩
      obtain ⟨te, hto⟩ : ∃ te, d.p.to = te := ⟨_, rfl⟩
      rw [hn] at k0
      rw [hfr] at k1 hq
      rw [hto] at k2 hq
      have hdv : d.v = .slice d.A n d.c := by unfold RunD.v; rw [hn]
      rw [hdv, hn] at hdw
      obtain ⟨X, hX⟩ : ∃ X, X = wo.alloc (.cells #[.slice d.A n d.c, .int .i64 fr, .int .i64 te] 102) := ⟨_, rfl⟩
      have hbX : Below wo.heap.size wo X := by rw [hX]; exact (Below.refl _ _).alloc (Nat.le_refl _) _
      have bX : Blk X wo.heap.size 102 [.slice d.A n d.c, .int .i64 fr, .int .i64 te] := by rw [hX]; exact Blk.new wo _ _
      have x0 : X.cell? ⟨wo.heap.size, 0, none⟩ = some (.slice d.A n d.c) := bX.cell 0
      have x1 : X.cell? ⟨wo.heap.size, 1, none⟩ = some (.int .i64 fr) := bX.cell 1
      have x2 : X.cell? ⟨wo.heap.size, 2, none⟩ = some (.int .i64 te) := bX.cell 2
      have hcv := run_word (own_below hdw hbX)
      have hwX : Below w.heap.size w X := hbw.out.trans (hbX.mono hso)
      have hsX := hwX.size
      have OX := Lib.hid (own_below hown.out hbX); have RX := Lib.hid (hrun.out.below hbX); have HwX := Lib.hid hwX; have Hq := Lib.hid hq
      clear hdw hdv hbX bX hwX htk hd hn hfr hto hrun hown hbw hout hq
      go_upto_region 5 with fail
      rw [← hX]
      clear hX k0 k1 k2
      by_cases hyes : 0 < fr ∧ te < N
      · obtain ⟨y1, y2⟩ := hyes
        have z2 : (0 : Int) < (fr : Int) := by omega
        have z3 : (te : Int) < (N : Int) := by omega
        have hq2 : innerQ N ((ds.take (j + 1)).map (·.p)) = out ++ [encT d.p.word] := by rw [Hq.out, if_pos ⟨y1, y2⟩]
        have Hq2 := Lib.hid hq2
        clear hq2 y1 y2 Hq
        go_wp2_with (at_builtin; refine wpList_app _ rfl strE rfl rfl (OX.out.alloc _) rfl (row_new X _ [_]) (by simp [Value.oneCell']) (by first | omega | (simp; done) | (simp; omega)) (by simp; omega) ?_; intro v8 w8 own8 hg8 hb8 hx8)
        have hk8 := (RX.out.below ((Below.refl _ _).alloc (Nat.le_refl _) _)).kept (OX.out.alloc _) hg8
        have hw8 : Below w.heap.size w w8 := (HwX.out.alloc hsX _).trans hb8
        have K8 := Lib.hid hk8; have W8 := Lib.hid hw8; have O8 := Lib.hid own8
        clear hk8 hw8 own8 hg8 hb8 hx8 hcv x0 x1 x2
        go_wp2
        go_roundw
        case rel => exact ⟨j + 1, out ++ [encT d.p.word], by omega, by first | rfl | go_num, Lib.hid Hq2.out.symm, Lib.hid (by rw [List.length_append, Hn3.out, List.map_append]; exact O8.out), K8, W8, by rw [List.length_append, Hn3.out]; show n3 + 1 ≤ _; omega⟩
        case measure => simp [intOf]; omega
      · have hq2 : innerQ N ((ds.take (j + 1)).map (·.p)) = out := by rw [Hq.out, if_neg hyes, List.append_nil]
        have hno : ¬ (0 : Int) < (fr : Int) ∨ ((0 : Int) < (fr : Int) ∧ ¬ (te : Int) < (N : Int)) := by omega
        have Hq2 := Lib.hid hq2
        clear hq2 hyes Hq hcv
        rcases hno with z2 | ⟨z2, z3⟩
        all_goals
          go_wp2_with fail
          go_roundw
          case rel => exact ⟨j + 1, out, by omega, by first | rfl | go_num, Lib.hid Hq2.out.symm, Lib.hid (by rw [Hn3.out]; exact OX.out), RX, HwX, by rw [Hn3.out]; omega⟩
          case measure => simp [intOf]; omega
    · obtain rfl : j = M := by omega
      have z1 : ¬ (j : Int) < (j : Int) := by omega
      have hfin : out = innerT l := by rw [hout.out, List.take_of_length_le (by rw [HM.out]; exact Nat.le_refl _), Hds.out, innerT_eq, HN.out]
      have hsort := vSortS _ out w.heap.size wo (by rw [Hn3.out]; exact hown.out) (by rw [Hn3.out]; omega)
      have HSo := Lib.hid hsort; have HF := Lib.hid hfin
      clear hsort hfin hout hrun
      go_wp2_with fail
      refine HSo.out.mono ?_
      rintro e w2 ⟨rfl, own2, hg2⟩
      have hb2 : Below w.heap.size w w2 := hbw.out.trans ((Below.refl _ _).grown hg2 hso fun k hk => (hown.out.lt k (by exact hk)).1)
      have hsl : (sortB out).length = n3 := by rw [(sortB_perm out).length_eq, Hn3.out]
      have own2' : w2.ownsRow w.heap.size 9 1 (.slice A3 n3 c3) (sortB out).length ((sortB out).map strV) := by rw [hsl]; rw [Hn3.out] at own2; exact own2
      have hcomp := vCompactS _ (sortB out) w.heap.size w2 own2' (by rw [hsl]; omega)
      have HCo := Lib.hid hcomp; have HB2 := Lib.hid hb2; have O2 := Lib.hid own2'; have HSl := Lib.hid hsl
      have hs2 := hb2.size
      clear hcomp hb2 own2 own2' hg2 hsl
      go_wp2_with fail
      refine HCo.out.mono ?_
      rintro e w3 ⟨v3, rfl, own3, hg3⟩
      have hb3 : Below w.heap.size w w3 := HB2.out.trans ((Below.refl _ _).grown hg3 hs2 fun k hk => (O2.out.lt k (by exact hk)).1)
      have ei : Lib.compact (sortB out) = innerP l := by rw [HF.out]; rfl
      rw [ei] at own3
      have O3 := Lib.hid own3; have HB3 := Lib.hid hb3
      clear own3 hb3 hg3 ei
      go_wp2
      go_ret
      exact ⟨_, rfl, O3.out, HB3.out⟩
end Go.Proofs.YtmcacicopgckmaaGreatDoor

/-! garnerref07, plain: the words of a row of runes -/
namespace Garner
open Go
/-- the words of a row of runes, of inner runs alone or of all; st: is it not the beginning? -/
def allGo : Nat → Bool → Bool → List Nat → List Bs
  | 0, _, _, _ => []
  | _ + 1, _, _, [] => []
  | n + 1, inner, st, r :: rs =>
    if wordR r = true then
      (if inner = false ∨ (st = true ∧ rs.dropWhile wordR ≠ []) then [encT (((r :: rs.takeWhile wordR).take 32).map smallR)] else []) ++ allGo n inner true (rs.dropWhile wordR)
    else allGo n inner true rs
def allW (inner st : Bool) (rs : List Nat) : List Bs := allGo rs.length inner st rs
theorem dropWhile_len {α : Type} (p : α → Bool) : ∀ l : List α, (l.dropWhile p).length ≤ l.length
  | [] => Nat.le_refl _
  | x :: l => by
    have := dropWhile_len p l
    rw [List.dropWhile_cons]
    split
    · rw [List.length_cons]; omega
    · exact Nat.le_refl _
theorem allGo_fuel : ∀ (n m : Nat) (inner st : Bool) (rs : List Nat), rs.length ≤ n → rs.length ≤ m → allGo n inner st rs = allGo m inner st rs
  | 0, m, inner, st, rs, h, _ => by
    rw [List.eq_nil_of_length_eq_zero (by omega : rs.length = 0)]
    cases m <;> rfl
  | n + 1, 0, inner, st, rs, _, h => by
    rw [List.eq_nil_of_length_eq_zero (by omega : rs.length = 0)]
    rfl
  | n + 1, m + 1, inner, st, [], _, _ => rfl
  | n + 1, m + 1, inner, st, r :: rs, h1, h2 => by
    rw [List.length_cons] at h1 h2
    have hd := dropWhile_len wordR rs
    rw [allGo, allGo, allGo_fuel n m inner true (rs.dropWhile wordR) (by omega) (by omega), allGo_fuel n m inner true rs (by omega) (by omega)]
theorem allW_nil (inner st : Bool) : allW inner st [] = [] := rfl
theorem allW_off (inner st : Bool) {r : Nat} (rs : List Nat) (h : wordR r = false) : allW inner st (r :: rs) = allW inner true rs := by
  unfold allW
  rw [List.length_cons, allGo, if_neg (by rw [h]; decide)]
theorem allW_on (inner st : Bool) {r : Nat} (rs : List Nat) (h : wordR r = true) : allW inner st (r :: rs) = (if inner = false ∨ (st = true ∧ rs.dropWhile wordR ≠ []) then [encT (((r :: rs.takeWhile wordR).take 32).map smallR)] else []) ++ allW inner true (rs.dropWhile wordR) := by
  unfold allW
  have hd := dropWhile_len wordR rs
  rw [List.length_cons, allGo, if_pos h, allGo_fuel rs.length (rs.dropWhile wordR).length inner true _ hd (Nat.le_refl _)]
/-- runs, told from the front -/
def runsW : Nat → List (Nat × Nat) → List RunP
  | 0, _ => []
  | _ + 1, [] => []
  | n + 1, x :: its => if wordR x.2 = true then (x :: its.takeWhile fun y => wordR y.2).foldl (fun u y => bumpT y u) ⟨[], x.1, 0⟩ :: runsW n (its.dropWhile fun y => wordR y.2) else runsW n its
theorem runStep_on (st : List RunP × Bool) {x : Nat × Nat} (hx : wordR x.2 = true) : runStep st x = (lastT (bumpT x) (if st.2 = true then st.1 else st.1 ++ [⟨[], x.1, 0⟩]), true) := by unfold runStep; rw [if_pos hx]
theorem runStep_off (st : List RunP × Bool) {x : Nat × Nat} (hx : ¬ wordR x.2 = true) : runStep st x = (st.1, false) := by unfold runStep; rw [if_neg hx]
theorem fold_runs : ∀ (n : Nat) (its : List (Nat × Nat)), its.length ≤ n →
    (∀ L, (its.foldl runStep (L, false)).1 = L ++ runsW n its) ∧
    (∀ m, its.length ≤ m → ∀ L u, (its.foldl runStep (L ++ [u], true)).1 = L ++ (its.takeWhile fun y => wordR y.2).foldl (fun u y => bumpT y u) u :: runsW m (its.dropWhile fun y => wordR y.2))
  | 0, its, h => by
    rw [List.eq_nil_of_length_eq_zero (by omega : its.length = 0)]
    refine ⟨fun L => by simp [runsW], fun m _ L u => ?_⟩
    cases m <;> simp [runsW]
  | n + 1, [], h => by
    refine ⟨fun L => by simp [runsW], fun m _ L u => ?_⟩
    cases m <;> simp [runsW]
  | n + 1, x :: its, h => by
    rw [List.length_cons] at h
    have ih := fold_runs n its (by omega)
    refine ⟨fun L => ?_, fun m hm L u => ?_⟩
    · rw [List.foldl_cons]
      by_cases hx : wordR x.2 = true
      · rw [runStep_on _ hx, runsW, if_pos hx, if_neg (by simp), lastT_snoc, List.foldl_cons]
        exact ih.2 n (by omega) L _
      · rw [runStep_off _ hx, runsW, if_neg hx]
        exact ih.1 L
    · rw [List.length_cons] at hm
      obtain ⟨k, rfl⟩ : ∃ k, m = k + 1 := ⟨m - 1, by omega⟩
      rw [List.foldl_cons]
      by_cases hx : wordR x.2 = true
      · rw [runStep_on _ hx, if_pos rfl, lastT_snoc, List.takeWhile_cons, List.dropWhile_cons, if_pos hx, if_pos hx, List.foldl_cons]
        exact ih.2 (k + 1) (by omega) L _
      · rw [runStep_off _ hx, List.takeWhile_cons, List.dropWhile_cons, if_neg hx, if_neg hx, List.foldl_nil, runsW, if_neg hx]
        show (its.foldl runStep (L ++ [u], false)).1 = _
        rw [ih.1 (L ++ [u]), fold_fuel n k its (by omega) (by omega)]
        simp
where
  fold_fuel : ∀ (n m : Nat) (its : List (Nat × Nat)), its.length ≤ n → its.length ≤ m → runsW n its = runsW m its
    | 0, m, its, h, _ => by
      rw [List.eq_nil_of_length_eq_zero (by omega : its.length = 0)]
      cases m <;> rfl
    | n + 1, 0, its, _, h => by
      rw [List.eq_nil_of_length_eq_zero (by omega : its.length = 0)]
      rfl
    | n + 1, m + 1, [], _, _ => rfl
    | n + 1, m + 1, x :: its, h1, h2 => by
      rw [List.length_cons] at h1 h2
      have hd := dropWhile_len (fun y : Nat × Nat => wordR y.2) its
      rw [runsW, runsW, fold_fuel n m (its.dropWhile fun y => wordR y.2) (by omega) (by omega), fold_fuel n m its (by omega) (by omega)]
/-- a run of items -/
theorem bump_run (p : Nat) : ∀ (n : Nat) (seg : List (Nat × Nat)), seg.length ≤ n → ((seg.foldl (fun u y => bumpT y u) (⟨[], p, 0⟩ : RunP)).word = wordOf seg ∧ (seg.foldl (fun u y => bumpT y u) (⟨[], p, 0⟩ : RunP)).fr = p ∧ ∀ r x, seg = r ++ [x] → (seg.foldl (fun u y => bumpT y u) (⟨[], p, 0⟩ : RunP)).to = x.1 + (encR x.2).length)
  | 0, seg, h => by
    rw [List.eq_nil_of_length_eq_zero (by omega : seg.length = 0)]
    exact ⟨rfl, rfl, fun r x e => by simp at e⟩
  | n + 1, seg, h => by
    rcases List.eq_nil_or_concat seg with h0 | ⟨r, x, h0⟩
    · subst h0
      exact ⟨rfl, rfl, fun r x e => by simp at e⟩
    · rw [List.concat_eq_append] at h0
      subst h0
      obtain ⟨h1, h2, -⟩ := bump_run p n r (by simp at h; omega)
      rw [List.foldl_append, List.foldl_cons, List.foldl_nil]
      refine ⟨?_, h2, fun r' y e => ?_⟩
      · rw [wordOf_snoc, ← h1]; rfl
      · have e2 := List.append_inj' e rfl
        injection e2.2 with e3
        rw [← e3]; rfl
/-- where items stand -/
def PosOk (N : Nat) : List (Nat × Nat) → Prop
  | [] => True
  | [x] => x.1 < N ∧ (wordR x.2 = true → x.1 + (encR x.2).length = N)
  | x :: y :: r => x.1 < y.1 ∧ (wordR x.2 = true → x.1 + (encR x.2).length = y.1) ∧ PosOk N (y :: r)
theorem PosOk.tail {N : Nat} {x : Nat × Nat} {r : List (Nat × Nat)} (h : PosOk N (x :: r)) : PosOk N r := by
  cases r with
  | nil => trivial
  | cons y r => exact h.2.2
theorem PosOk.lt {N : Nat} {x : Nat × Nat} : ∀ {r : List (Nat × Nat)}, PosOk N (x :: r) → x.1 < N ∧ ∀ y ∈ r, x.1 < y.1
  | [], h => ⟨h.1, fun y hy => by cases hy⟩
  | y :: r, h => by
    obtain ⟨h1, h2⟩ := PosOk.lt h.2.2
    have h0 := h.1
    refine ⟨by omega, fun z hz => ?_⟩
    rcases List.mem_cons.1 hz with rfl | hz
    · exact h0
    · have := h2 z hz; omega
theorem PosOk.to_ {N : Nat} : ∀ {r : List (Nat × Nat)} {x : Nat × Nat} {q : List (Nat × Nat)}, PosOk N (r ++ x :: q) → wordR x.2 = true → (x.1 + (encR x.2).length < N ↔ q ≠ [])
  | [], x, [], h, hx => by
    have h : PosOk N [x] := h
    rw [h.2 hx]; simp
  | [], x, y :: q, h, hx => by
    have h : PosOk N (x :: y :: q) := h
    rw [h.2.1 hx]
    exact ⟨fun _ => by simp, fun _ => (PosOk.lt h.2.2).1⟩
  | z :: _, _, _, h, hx => PosOk.to_ (PosOk.tail (x := z) h) hx
theorem PosOk.drop {N : Nat} : ∀ {r q : List (Nat × Nat)}, PosOk N (r ++ q) → PosOk N q
  | [], _, h => h
  | z :: _, _, h => PosOk.drop (PosOk.tail (x := z) h)
theorem takeWhile_map {α β : Type} (f : α → β) (p : β → Bool) : ∀ l : List α, (l.map f).takeWhile p = (l.takeWhile fun x => p (f x)).map f ∧ (l.map f).dropWhile p = (l.dropWhile fun x => p (f x)).map f
  | [] => ⟨rfl, rfl⟩
  | x :: l => by
    obtain ⟨h1, h2⟩ := takeWhile_map f p l
    rw [List.map_cons, List.takeWhile_cons, List.takeWhile_cons, List.dropWhile_cons, List.dropWhile_cons]
    split
    · exact ⟨by rw [h1]; rfl, h2⟩
    · exact ⟨rfl, rfl⟩
theorem all_takeWhile {α : Type} (p : α → Bool) : ∀ l : List α, ∀ x ∈ l.takeWhile p, p x = true
  | [], x, h => by cases h
  | y :: l, x, h => by
    rw [List.takeWhile_cons] at h
    split at h
    · rename_i hy
      rcases List.mem_cons.1 h with rfl | h
      · exact hy
      · exact all_takeWhile p l x h
    · cases h
theorem take_drop_while {α : Type} (p : α → Bool) : ∀ l : List α, l.takeWhile p ++ l.dropWhile p = l
  | [] => rfl
  | x :: l => by
    rw [List.takeWhile_cons, List.dropWhile_cons]
    split
    · rw [List.cons_append, take_drop_while p l]
    · rfl
/-- inner words -/
theorem words_inner {N : Nat} : ∀ (n : Nat) (its : List (Nat × Nat)), its.length ≤ n → PosOk N its → ∀ st : Bool, (∀ x r, its = x :: r → (st = true ↔ 0 < x.1)) → innerQ N (runsW n its) = allW true st (its.map (·.2))
  | 0, its, h, _, st, _ => by
    rw [List.eq_nil_of_length_eq_zero (by omega : its.length = 0)]; rfl
  | n + 1, [], h, _, st, _ => rfl
  | n + 1, x :: its, h, hp, st, hst => by
    rw [List.length_cons] at h
    have hst' : ∀ (r : List (Nat × Nat)), (∃ a, its = a ++ r) → ∀ y q, r = y :: q → (true = true ↔ 0 < y.1) := fun r ⟨a, ha⟩ y q hr => by
      have := hp.lt.2 y (by rw [ha, hr]; simp)
      exact ⟨fun _ => by omega, fun _ => rfl⟩
    rw [List.map_cons, runsW]
    by_cases hx : wordR x.2 = true
    · have hd := dropWhile_len (fun y : Nat × Nat => wordR y.2) its
      have htd := take_drop_while (fun y : Nat × Nat => wordR y.2) its
      obtain ⟨t1, t2⟩ := takeWhile_map (fun y : Nat × Nat => y.2) wordR its
      obtain ⟨b1, b2, b3⟩ := bump_run x.1 _ (x :: its.takeWhile fun y => wordR y.2) (Nat.le_refl _)
      have hto : ((x :: its.takeWhile fun y => wordR y.2).foldl (fun u y => bumpT y u) (⟨[], x.1, 0⟩ : RunP)).to < N ↔ (its.dropWhile fun y => wordR y.2) ≠ [] := by
        rcases List.eq_nil_or_concat (x :: its.takeWhile fun y => wordR y.2) with h0 | ⟨r, z, h0⟩
        · cases h0
        · rw [List.concat_eq_append] at h0
          rw [b3 r z h0]
          have hz : wordR z.2 = true := by
            have hm : z ∈ x :: its.takeWhile fun y => wordR y.2 := by rw [h0]; simp
            rcases List.mem_cons.1 hm with rfl | hm
            · exact hx
            · exact all_takeWhile _ _ z hm
          refine PosOk.to_ (r := r) ?_ hz
          have e : r ++ z :: (its.dropWhile fun y => wordR y.2) = x :: its := by
            conv => rhs; rw [← htd, ← List.cons_append, h0]
            simp
          rw [e]; exact hp
      have ih := words_inner n (its.dropWhile fun y => wordR y.2) (by omega) (PosOk.drop (r := x :: its.takeWhile fun y => wordR y.2) (by rw [List.cons_append, htd]; exact hp)) true (hst' _ ⟨_, htd.symm⟩)
      rw [if_pos hx, allW_on true st _ hx, t1, t2, ← ih]
      unfold innerQ
      rw [List.filter_cons, b2]
      have hw : encT (((x :: its.takeWhile fun y => wordR y.2).foldl (fun u y => bumpT y u) (⟨[], x.1, 0⟩ : RunP)).word) = encT (((x.2 :: (its.takeWhile fun y => wordR y.2).map (fun y => y.2)).take 32).map smallR) := by
        rw [b1]
        unfold wordOf
        rw [← List.map_cons (f := fun y : Nat × Nat => y.2), ← List.map_take, List.map_map]
        rfl
      have hs := hst x its rfl
      by_cases hc : st = true ∧ (its.dropWhile fun y => wordR y.2) ≠ []
      · rw [if_pos (by rw [Bool.and_eq_true, decide_eq_true_iff, decide_eq_true_iff]; exact ⟨hs.1 hc.1, hto.2 hc.2⟩), if_pos (.inr ⟨hc.1, by simpa using hc.2⟩), List.map_cons, hw]
        rfl
      · rw [if_neg (by rw [Bool.and_eq_true, decide_eq_true_iff, decide_eq_true_iff]; exact fun h => hc ⟨hs.2 h.1, hto.1 h.2⟩), if_neg (by
          rintro (h | h)
          · cases h
          · exact hc ⟨h.1, by simpa using h.2⟩)]
        rfl
    · rw [if_neg hx, allW_off true st _ (by simpa using hx), words_inner n its (by omega) hp.tail true (hst' its ⟨[], rfl⟩)]
end Garner

