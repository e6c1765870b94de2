import Derived.Test.YtmalkgakdmghiaaPa41
/-! layer 11: post.Write -/
namespace Garner
open Go Go.RowKit
theorem own_keptC {W W' : World} {B : Nat} {e : TypeId} {sz n : Nat} {v : Value} {xs : List Value} {row : Option Nat} (h : W.ownsRow B e sz v n xs) (hg : W.grownBy W' row) (hr : ∀ r, row = some r → ∃ o : Obj, W.heap[r]? = some o ∧ o.isCells = false) : W'.ownsRow B e sz v n xs := by
  refine h.kept hg ?_
  rcases h.2 with ⟨rfl, _⟩ | ⟨g, cap, cur, rfl, _, hh, _⟩
  · exact .inl rfl
  · refine .inr fun e => ?_
    obtain ⟨o, ho, hc⟩ := hr g e.symm
    rw [hh] at ho
    cases ho
    cases hc
/-- one loop variable, laid into one slot -/
theorem wpIn_range1 {α : Type} {n : Nat} {P : Program} {g : Operand} {p j : Tmp} {assign body : Code} {Q : Exit → Act → World → Prop} {a : Act} {w : World}
    (h1 : 1 ≤ n) {gf : Nat} {lb : Array Value} (hg : a.eval g = .func (.func gf) #[] lb) (eg : ∀ args w, (callFunc gf args).run P w = .ok (.enter gf args) w)
    {e : α → Value} {Kp : World → World → Prop} {S Sp : List α → Prop} {N : Nat} (hseq : SeqStopsK Fence.wide (n - 1) P gf lb (fun x => #[e x]) Kp S Sp N w)
    (hKt : ∀ {A B C : World}, Kp A B → Kp B C → Kp A C) (hKb : ∀ (W : World) (l : Nat) (o o' : Obj), w.heap.size ≤ l → W.heap[l]? = some o → o.isCells = false → o.isWalk = false → Kp W (W.putObj l o'))
    (I : List α → World → Prop) (hI : OwnFrom w.heap.size I) (h0 : I [] w)
    (hassign : ∀ (l : Nat) (x : α) (W : World) (K : Act → World → Prop), K { tmps := (a.tmps.setIfInBounds p (e x)).setIfInBounds j (e x), defers := [] } W →
      assign.wpIn (Fence.wide.inRound l) (n - 1 - 1) P (Exit.then K (fun _ _ _ => False)) { tmps := a.tmps.setIfInBounds p (e x), defers := [] } W)
    (hbody : ∀ (l : Nat) (pre : List α) (x : α) (W : World), I pre W → pre.length < N → body.wpIn (Fence.wide.inRound l) (n - 1 - 1) P (ownPostG w.heap.size Kp I (fun _ _ _ => False) (pre ++ [x]) W) { tmps := (a.tmps.setIfInBounds p (e x)).setIfInBounds j (e x), defers := [] } W)
    (hdone : ∀ (D : Nat) (xs : List α) (W : World), w.heap.size ≤ D → S xs → I xs W → W.heap[D]? = some (.deferred (some [])) → Q .normal { a with defers := { target := .collected D, args := #[] } :: a.defers } W) :
    (Code.rangeFunc g #[p] assign body).wpIn Fence.wide n P Q a w := by
  refine wpIn_rangeFunc_ownG rfl h1 hg trivial eg hseq hKt hKb (Below.refl _ _) (fun _ => rfl) I (fun _ _ _ => False) hI (fun _ _ _ _ _ h _ _ => h) h0 (fun x => { tmps := (a.tmps.setIfInBounds p (e x)).setIfInBounds j (e x), defers := [] }) ?_ hbody hdone (fun _ _ _ _ _ _ h => h.elim)
  intro l x W K hK
  have e0 : ((#[p] : Array Tmp).zip #[e x]).foldl (fun t (p, v) => t.setIfInBounds p v) a.tmps = a.tmps.setIfInBounds p (e x) := by
    rw [show (#[p] : Array Tmp).zip #[e x] = #[(p, e x)] by simp [Array.zip]]
    simp
  rw [e0]
  exact hassign l x W K hK

/-- what a step of a round leaves as it is -/
structure RoundK (n₀ Bs Bn : Nat) (W W' : World) : Prop where
  oth : KeepsOthers W W'
  bel : Below n₀ W W'
  box : ∀ k o, (k = Bs ∨ k = Bn) → W.heap[k]? = some o → W'.heap[k]? = some o
theorem RoundK.trans {n₀ Bs Bn : Nat} {X Y Z : World} (h : RoundK n₀ Bs Bn X Y) (k : RoundK n₀ Bs Bn Y Z) : RoundK n₀ Bs Bn X Z := ⟨h.oth.trans k.oth, h.bel.trans k.bel, fun i o hi ho => k.box i o hi (h.box i o hi ho)⟩
theorem RoundK.of_below {n₀ Bs Bn : Nat} {W W' : World} (h : Below W.heap.size W W') (hn : n₀ ≤ W.heap.size) : RoundK n₀ Bs Bn W W' := by
  have key : ∀ (k : Nat) (o : Obj), W.heap[k]? = some o → W'.heap[k]? = some o := fun k o ho => (h.block k (Array.getElem?_eq_some_iff.1 ho).1).trans ho
  exact ⟨⟨h.size, fun k o ho _ => key k o ho⟩, h.mono hn, fun k o _ ho => key k o ho⟩
theorem RoundK.drew {n₀ Bs Bn : Nat} {W : World} (hn : n₀ ≤ W.heap.size) : RoundK n₀ Bs Bn W W.drew := .of_below (Below.refl _ _).drew hn
theorem RoundK.alloc {n₀ Bs Bn : Nat} {W : World} (hn : n₀ ≤ W.heap.size) (o : Obj) : RoundK n₀ Bs Bn W (W.alloc o) := .of_below ((Below.refl _ _).alloc (Nat.le_refl _) o) hn
theorem RoundK.grown {n₀ Bs Bn : Nat} {W W' : World} {e : TypeId} {sz n : Nat} {v : Value} {xs : List Value} (h : W.ownsRow n₀ e sz v n xs) (hg : W.grownBy W' v.ownBlock) (hn : n₀ ≤ W.heap.size) {c1 c2 : List Value} {t1 t2 : TypeId} (hs : W.heap[Bs]? = some (.cells c1.toArray t1 (0, 0))) (hb : W.heap[Bn]? = some (.cells c2.toArray t2 (0, 0))) (n1 : e ≠ t1) (n2 : e ≠ t2) : RoundK n₀ Bs Bn W W' := by
  have key : ∀ g, v.ownBlock = some g → n₀ ≤ g ∧ ∃ cs, W.heap[g]? = some (.cells cs e (0, 0)) := by
    intro g hgv
    rcases h.2 with ⟨rfl, _⟩ | ⟨g', cap, cur, rfl, _, hh, _⟩
    · simp [Value.ownBlock] at hgv
    · simp [Value.ownBlock] at hgv
      subst hgv
      exact ⟨h.lt g' (by simp [Value.ownBlock]) |>.1, _, hh⟩
  refine ⟨KeepsOthers.of_grownBy hg (fun j o hj ho => ?_), (Below.refl _ _).grown hg hn (fun k hk => (key k hk).1), fun k o hk ho => (hg.block k (Array.getElem?_eq_some_iff.1 ho).1 (fun e2 => ?_)).trans ho⟩
  · obtain ⟨_, cs, hc⟩ := key j hj
    rw [hc] at ho; cases ho; rfl
  · obtain ⟨_, cs, hc⟩ := key k e2.symm
    rcases hk with rfl | rfl
    · rw [hs] at hc; cases hc; exact n1 rfl
    · rw [hb] at hc; cases hc; exact n2 rfl
theorem RoundK.set_ {n₀ Bs Bn g i : Nat} {W : World} {u : Value} (hg : n₀ ≤ g) (h1 : g ≠ Bs) (h2 : g ≠ Bn) : RoundK n₀ Bs Bn W (W.setCell ⟨g, i, none⟩ u) := by
  refine ⟨KeepsOthers.setCell _ _ _, (Below.refl _ _).setCell hg u, fun k o hk ho => ?_⟩
  rw [← ho]
  exact Below.heap_setCell _ _ _ _ (by rcases hk with rfl | rfl <;> exact fun e => by simp at e; omega)
end Garner
namespace Go.Proofs.Ytmalkgakdmghiaa
open Go.RowKit Go.Shelf Garner

attribute [local go_sem] Oper.semAt_some

theorem wpListIn_app {F : Fence} {nf : Nat} {P : Program} (w : World) {ops : Array Oper} {rest : List Oper} {o : Oper} {a : Act} {Q : Exit → Act → World → Prop} (hgd : o.guard = none) {s x : Operand} {t e : TypeId} {z : Value} {size bytes : Nat} (E : Elem P t e z size bytes)
    (ho : o.op = .call { callee := .builtin .append, args := #[s, x], argTypes := #[t, t] }) {base : Nat}
    {v : Value} {n : Nat} {xs : List Value} (hs : a.eval s = v) (hown : w.ownsRow base e size v n xs)
    {B : Nat} {A : Option Addr} {m m' c : Nat} {news : List Value} (hx : a.eval x = .slice A m c) (hr : Row w B size A m' news) (h1 : ∀ u ∈ news, u.oneCell' = true)
    (hbytes : (n + m') * bytes ≤ 140737488355328) (hbase : base ≤ w.heap.size)
    (h : ∀ v' w', w'.ownsRow base e size v' (n + m') (xs ++ news) → w.grownBy w' v.ownBlock → Below base w w' → (v'.ownBlock = v.ownBlock ∨ v'.ownBlock = some w.heap.size) → wpListIn F nf P ops Q rest (a.put o.dst v') w') (hm : m' = m := by first | rfl | omega) : wpListIn F nf P ops Q (o :: rest) a w := by
  subst hm
  refine wpListIn_plain hgd fun K hK' => ?_
  obtain ⟨v', w', hrun, h2, h3, h4, h5⟩ := run_app (P := P) w E o.type hown hr h1 hbytes hbase (c := c)
  unfold Oper.wpIn
  refine ⟨?_, ?_⟩
  · simp [Oper.about, ho, resolve, Target.leads, Sem.run_pure]
  · rw [Oper.semAt_plain F _ _ (by rw [ho]; intro c hc'; cases hc')]
    simp only [execOp, ho, resolve, invoke, builtin, Sem.run_bind, Sem.run_pure, Result.andThen_ok, List.map_toArray, List.map_cons, List.map_nil, hs, hx, hrun]
    exact hK' _ _ (h v' w' h2 h3 h4 h5)
def partN (l : List Nat) (k : Nat) : List Nat := (l.drop (32 * k)).take 32
theorem parts_all (l : List Nat) : (List.finRange (nBlk l)).map (fun k => partN l k.val) = blocks (nBlk l) l := by
  apply List.ext_getElem
  · simp [blocks_len]
  · intro i h1 h2
    rw [blocks_at _ _ _ h2]
    simp [partN]
theorem partN_ok {l : List Nat} (hn : ∀ n ∈ l, n < 18446744073709551616) (k : Nat) : lastN (partN l k) < 18446744073709551616 ∧ (packB (partN l k)).length ≤ 1000 := by
  have h1 : ∀ n ∈ partN l k, n < 18446744073709551616 := fun n h => hn n (List.mem_of_mem_drop (List.mem_of_mem_take h))
  have h2 : (partN l k).length ≤ 32 := by unfold partN; rw [List.length_take]; omega
  refine ⟨?_, by have := packB_len h1 (by omega); omega⟩
  unfold lastN
  cases h : (partN l k)[(partN l k).length - 1]? with
  | none => show 0 < _; omega
  | some x => exact h1 x (List.mem_of_getElem? h)
theorem headB_len : ∀ (bs : List (List Nat)), (∀ p ∈ bs, lastN p < 18446744073709551616 ∧ (packB p).length ≤ 1000) → (headB bs).length ≤ 20 * bs.length ∧ (bodyB bs).length ≤ 1000 * bs.length
  | [], _ => by simp [headB, bodyB]
  | p :: bs, h => by
    obtain ⟨h1, h2⟩ := h p (by simp)
    obtain ⟨i1, i2⟩ := headB_len bs fun q hq => h q (by simp [hq])
    have l1 := put1_len h1
    have l2 := put1_len (n := (packB p).length) (by omega)
    unfold headB at i1 ⊢; unfold bodyB at i2 ⊢
    simp only [List.flatMap_cons, List.length_append, List.length_cons]
    constructor <;> omega
def WrI (w0 : World) (Bo Bb Bc Bn : Nat) (sv : Value) (o bd : Bs) (W : World) : Prop :=
  ∃ vo vb, Blk W Bo 24 [vo] ∧ OwnB W w0.heap.size vo o ∧ Blk W Bb 24 [vb] ∧ OwnB W w0.heap.size vb bd ∧ (∀ g, vo.ownBlock = some g → vb.ownBlock ≠ some g) ∧
    Blk W Bc 22 [sv] ∧ Blk W Bn 3 [.int .i64 32] ∧ Below w0.heap.size w0 W
theorem WrI.own {β : Type} {w0 : World} {Bo Bb Bc Bn B : Nat} {sv : Value} {o bd : β → Bs} (hB : w0.heap.size ≤ B) : OwnFrom B (fun s W => WrI w0 Bo Bb Bc Bn sv (o s) (bd s) W) := by
  intro s W W' row h hg hr
  obtain ⟨vo, vb, h1, h2, h3, h4, h5, h6, h7, h8⟩ := h
  have hr2 : ∀ r, row = some r → ∃ o : Obj, W.heap[r]? = some o ∧ o.isCells = false := fun r e => (hr r e).2
  exact ⟨vo, vb, (grownBy_keeps_cells hg hr2 h1 rfl).trans h1, own_keptC h2 hg hr2, (grownBy_keeps_cells hg hr2 h3 rfl).trans h3, own_keptC h4 hg hr2, h5, (grownBy_keeps_cells hg hr2 h6 rfl).trans h6, (grownBy_keeps_cells hg hr2 h7 rfl).trans h7,
    h8.grown hg h8.size (fun k e => Nat.le_trans hB (hr k e).1)⟩

theorem Blk.newAt (w : World) (t : TypeId) (cs : List Value) {g : Nat} (h : g = w.heap.size) : Blk (w.alloc (.cells cs.toArray t)) g t cs := by subst h; exact Blk.new w t cs
theorem u64_small {n : Nat} (h : n ≤ 2048) : IntKind.u64.wrap (n : Int) = (n : Int) := by rw [IntKind.wrap_u64]; omega
def WritePost (l : List Nat) (B : Nat) (e : Ending) (w w' : World) : Prop :=
  match postP l with
  | .error k => e = .returned (.tuple #[.slice none 0 0, .int .i64 k]) ∧ Below w.heap.size w w'
  | .ok out => (∃ v, e = .returned (.tuple #[v, .int .i64 0]) ∧ OwnB w' B v out) ∧ Below w.heap.size w w'
theorem postP_err {l : List Nat} {k : Nat} (h : packP l = .error k) : postP l = .error k := by
  unfold packP at h; unfold postP
  split at h
  · rw [if_pos (by assumption)]; exact h
  · split at h
    · cases h
    · rw [if_neg (by assumption), if_neg (by assumption)]; exact h
set_option maxRecDepth 100000 in
set_option maxHeartbeats 4000000 in
/-- refused lists -/
theorem vWrite_no (l : List Nat) (A : Option Addr) (c B k : Nat) (w : World) (hr : Row w B 1 A l.length (l.map u64v)) (hB : B ≤ w.heap.size) (hn : ∀ n ∈ l, n < 18446744073709551616) (hl : l.length ≤ 140737488355328) (hp : packP l = .error k) (hk : 0 < k) :
    Calls Try.prog 7 #[.slice A l.length c] w fun e w' => e = .returned (.tuple #[.slice none 0 0, .int .i64 k]) ∧ Below w.heap.size w w' := by
  have Hp := Lib.hid hp; clear hp
  have hk' : ¬ (k : Int) = 0 := by omega
  go_enter Try.func7, Try.ntmps7
  go_wp2_with fail
  refine (vPack l A c B w hr hB hn hl).mono ?_
  intro e w1 hpp
  unfold PackPost at hpp
  rw [Hp.out] at hpp
  obtain ⟨rfl, hb1⟩ := hpp
  go_wp2
  go_ret2
  exact ⟨rfl, hb1⟩

set_option maxRecDepth 100000 in
set_option maxHeartbeats 4000000 in
theorem vWrite_ok (l : List Nat) (A : Option Addr) (c B : Nat) (w : World) (hr : Row w B 1 A l.length (l.map u64v)) (hB : B ≤ w.heap.size) (hn : ∀ n ∈ l, n < 18446744073709551616) (hl : l.length ≤ 65536) (hris : risingB l = true) (hc : l.length ≤ c) :
    Calls Try.prog 7 #[.slice A l.length c] w fun e w' => ∃ v, e = .returned (.tuple #[v, .int .i64 0]) ∧ OwnB w' w.heap.size v (postB l) ∧ Below w.heap.size w w' := by
  have hpk : packP l = .ok (packB l) := by unfold packP; rw [if_neg (by omega), if_pos hris]
  have Hpk := Lib.hid hpk; clear hpk
  have Hris := Lib.hid hris; clear hris
  have Hn := Lib.hid hn; clear hn
  obtain ⟨nB, hnB⟩ : ∃ nB, nB = nBlk l := ⟨_, rfl⟩
  obtain ⟨q, hq⟩ : ∃ q : Nat, q = l.length + 31 := ⟨_, rfl⟩
  have hnq : nB = q / 32 := by rw [hnB, hq]; rfl
  have hnBs : nB ≤ 2048 := by omega
  have w1 : IntKind.i64.wrap ((l.length : Int) + 32) = ((q + 1 : Nat) : Int) := by rw [IntKind.wrap_i64]; omega
  have hq2 : q ≤ 100000 := by omega
  have hq2 : q ≤ 100000 := by omega
  have w3 : (q : Int) / 32 = (nB : Int) := by omega
  have w4 : IntKind.u64.wrap (nB : Int) = (nB : Int) := u64_small hnBs
  have HnB := Lib.hid hnB; clear hnB
  have Hq := Lib.hid hq; clear hq
  have Hnq := Lib.hid hnq; clear hnq
  refine (callsIn_wide (n := 5)).1 ?_
  refine callsIn_of_wp_marks Try.func7 rfl trivial ?_ rfl
  simp only [Try.ntmps7, List.size_toArray, List.length_cons, List.length_nil, Nat.reduceAdd, Nat.reduceSub, Array.replicate_succ, Array.replicate_zero, List.push_toArray, List.append_toArray, List.nil_append, List.cons_append]
  gi_wp2_with fail
  refine ⟨trivial, callsIn_wide.2 ((vPack l A c B w hr hB Hn.out (by omega)).mono ?_)⟩
  intro e x1 hpp
  unfold PackPost at hpp
  rw [Hpk.out] at hpp
  obtain ⟨⟨vp, rfl, -⟩, hb1⟩ := hpp
  have s1 := hb1.size
  gi_wp2_with fail
  refine ⟨trivial, callsIn_wide.2 ((vPut [nB] _ 1 (x1.heap.size + 1) _ (by simpa [u64v] using row_new x1 _ [_]) (by simp) (by simp; omega) (by simp)).mono ?_)⟩
  rintro e x2 ⟨v2, rfl, own2, hb2⟩
  rw [vput_one] at own2
  have own2' : OwnB x2 w.heap.size v2 (put1 nB) := own_mono (B' := w.heap.size) own2 (by simp; omega)
  have b2 : Below w.heap.size w x2 := (hb1.alloc s1 _).trans (hb2.mono (by simp; omega))
  have s2 := b2.size
  clear own2 hb2 hb1
  obtain ⟨A2, k2, rfl, row2⟩ := own2'.shape
  gi_wp2_with fail
  refine ⟨trivial, (chunk_in _ A l.length c _).mono ?_⟩
  rintro e x3 ⟨rfl, hx3⟩
  have s3 : x3.heap.size = x2.heap.size + 4 := by rw [hx3]; simp
  obtain ⟨Bo, hBo⟩ : ∃ Bo, Bo = x2.heap.size := ⟨_, rfl⟩
  have bo : Blk x3 Bo 24 [.slice A2 (put1 nB).length k2] := by rw [hx3]; exact (((Blk.newAt x2 _ _ hBo).alloc _).alloc _).alloc _
  have bb : Blk x3 (Bo + 1) 24 [.slice none 0 0] := by rw [hx3]; exact ((Blk.newAt (x2.alloc _) _ _ (by simp; omega)).alloc _).alloc _
  have bc : Blk x3 (Bo + 2) 22 [.slice A l.length c] := by rw [hx3]; exact (Blk.newAt ((x2.alloc _).alloc _) _ _ (by simp; omega)).alloc _
  have bn : Blk x3 (Bo + 3) 3 [.int .i64 32] := by rw [hx3]; exact Blk.newAt (((x2.alloc _).alloc _).alloc _) _ _ (by simp; omega)
  have b3 : Below w.heap.size w x3 := by rw [hx3]; exact (((b2.alloc s2 _).alloc (by simp; omega) _).alloc (by simp; omega) _).alloc (by simp; omega) _
  have own3 : OwnB x3 w.heap.size (.slice A2 (put1 nB).length k2) (put1 nB) := by rw [hx3]; exact (((own2'.alloc _).alloc _).alloc _).alloc _
  obtain ⟨b, off, hA⟩ : ∃ b off, 0 < nB → A = some ⟨b, off, none⟩ ∧ b < B ∧ ∀ j, j < l.length → w.cell? ⟨b, off + j, none⟩ = some (.int .u64 ((l[j]?.getD 0 : Nat) : Int)) := by
    by_cases h0 : 0 < l.length
    · obtain ⟨b, off, e, hb, hcl⟩ := hr.at_ (k := 0) h0
      refine ⟨b, off, fun _ => ⟨e, hb, fun j hj => ?_⟩⟩
      rw [hcl j (by simp; omega), List.getElem?_eq_getElem hj]; simp [u64v]
    · exact ⟨0, 0, fun h => absurd h (by have := Hnq.out; have := Hq.out; omega)⟩
  simp only [World.size_alloc, ← hBo]
  have HBo := Lib.hid hBo; clear hBo
  gi_wp2_with fail
  refine wpIn_range1 (gf := 32) (lb := #[.pointer (some ⟨Bo + 2, 0, none⟩), .pointer (some ⟨Bo + 3, 0, none⟩)]) (j := 8) (by omega) rfl (enters_of Try.func32 (by kernel_rfl) rfl)
    (chunk_stops 4 (by omega) (Bo + 2) (Bo + 3) w.heap.size b off l.length c nB A (fun h => (hA h).1) hc hl (by rw [HnB.out]; rfl) x3 bc bn) KpC.trans (KpC.obj b3.size bc.lt bn.lt)
    (fun pre W => WrI w Bo (Bo + 1) (Bo + 2) (Bo + 3) (.slice A l.length c) (put1 nB ++ headB (pre.map fun k => partN l k.val)) (bodyB (pre.map fun k => partN l k.val)) W) (WrI.own b3.size) ?start ?assign ?body ?done
  case start =>
    exact ⟨_, _, bo, by simpa [headB] using own3, bb, World.ownsRow_nil _ _ _ _, fun _ _ h => by simp [Value.ownBlock] at h, bc, bn, b3⟩
  case assign =>
    intro l x W K hK
    simp only [List.setIfInBounds_toArray, List.set] at hK ⊢
    gi_wp2
    exact hK
  case body =>
    intro lr pre x X hI hpl
    simp only [List.setIfInBounds_toArray, List.set]
    obtain ⟨vo, vb, h1, h2, h3, h4, h5, h6, h7, h8⟩ := hI
    obtain ⟨rfl, hbB, hcl⟩ := hA (by omega)
    obtain ⟨i, hi⟩ : ∃ i, i = x.val := ⟨_, rfl⟩
    obtain ⟨p, hp⟩ : ∃ p, p = partN l i := ⟨_, rfl⟩
    have hxl := x.isLt
    have hil : 32 * i < l.length := by have := Hnq.out; have := Hq.out; omega
    have hpl2 : p.length = min 32 (l.length - 32 * i) := by rw [hp]; simp [partN]
    have hp0 : 0 < p.length := by omega
    have hp32 : p.length ≤ 32 := by omega
    have hpat : ∀ j, j < p.length → p[j]?.getD 0 = l[32 * i + j]?.getD 0 := fun j hj => by
      rw [hp]; unfold partN; rw [List.getElem?_take, if_pos (by omega), List.getElem?_drop]
    have hprow : Row X B 1 (some ⟨b, off + 32 * i, none⟩) p.length (p.map u64v) := by
      refine ⟨by simp, fun _ => ⟨b, off + 32 * i, rfl, hbB, fun j u hu => ?_⟩⟩
      rw [List.getElem?_map] at hu
      have hj : j < p.length := by
        rcases Nat.lt_or_ge j p.length with h | h
        · exact h
        · rw [List.getElem?_eq_none h] at hu; cases hu
      rw [(h8.mono hB).cell (p := ⟨b, off + 32 * i + j, none⟩) hbB, Nat.add_assoc, hcl (32 * i + j) (by omega), ← hpat j hj]
      rw [List.getElem?_eq_getElem hj] at hu ⊢
      cases hu; rfl
    have hpn : ∀ n ∈ p, n < 18446744073709551616 := fun n hn => Hn.out n (by rw [hp] at hn; exact List.mem_of_mem_drop (List.mem_of_mem_take hn))
    have hpr : risingB p = true := by
      rw [hp]; exact pw_rising (((rising_pw Hris.out).drop).take)
    have hcv : chunkV b off l.length x.val = .slice (some ⟨b, off + 32 * i, none⟩) p.length p.length := by unfold chunkV; rw [hpl2, hi]
    have hppk : packP p = .ok (packB p) := by unfold packP; rw [if_neg (by omega), if_pos hpr]
    rw [hcv]
    have Hpl2 := Lib.hid hpl2; clear hpl2
    have Hp := Lib.hid hp; clear hp
    have Hi := Lib.hid hi; clear hi
    have Hpn := Lib.hid hpn; clear hpn
    have Hppk := Lib.hid hppk; clear hppk
    clear hcv hcl hpat
    have sX := h8.size
    gi_wp2_with fail
    refine ⟨trivial, CallsIn.inRound lr (callsIn_wide.2 ((vPack p _ p.length B X hprow (by omega) Hpn.out (by omega)).mono ?_))⟩
    intro e X1 hpp
    unfold PackPost at hpp
    rw [Hppk.out] at hpp
    obtain ⟨⟨vp1, rfl, ownp⟩, hb1⟩ := hpp
    obtain ⟨O, hO⟩ : ∃ O, O = put1 nB ++ headB (pre.map fun k => partN l k.val) := ⟨_, rfl⟩
    obtain ⟨D, hD⟩ : ∃ D, D = bodyB (pre.map fun k => partN l k.val) := ⟨_, rfl⟩
    obtain ⟨z, hz⟩ : ∃ z, z = lastN p := ⟨_, rfl⟩
    have hbl := headB_len (pre.map fun k => partN l k.val) (by intro q hq; obtain ⟨k, -, rfl⟩ := List.mem_map.1 hq; exact partN_ok Hn.out k.val)
    have hzl := partN_ok Hn.out i
    rw [← Hp.out, ← hz] at hzl
    have hO1 : O.length ≤ 50000 := by
      have := put1_len (n := nB) (by omega)
      rw [hO, List.length_append]; rw [List.length_map] at hbl; omega
    have hD1 : D.length ≤ 5000000 := by rw [hD]; rw [List.length_map] at hbl; omega
    rw [← hO] at h2; rw [← hD] at h4
    have HO := Lib.hid hO; clear hO
    have HD := Lib.hid hD; clear hD
    have Hz := Lib.hid hz; clear hz
    have Hbl := Lib.hid hbl; clear hbl
    have Hzl := Lib.hid hzl; clear hzl
    have lastc : X1.cell? ⟨b, off + 32 * i + (p.length - 1), none⟩ = some (.int .u64 (z : Int)) := by
      rw [(hb1.mono (Nat.le_trans hB sX)).cell (p := ⟨b, off + 32 * i + (p.length - 1), none⟩) hbB]
      obtain ⟨b', off', e, -, hcl⟩ := hprow.at_ (k := p.length - 1) (by omega)
      cases e
      rw [hcl (p.length - 1) (by simp; omega), Hz.out]
      unfold lastN
      rw [List.getElem_map, List.getElem?_eq_getElem (by omega)]; rfl
    have g1 : Blk X1 Bo 24 [vo] := h1.below hb1 h1.lt
    have g2 := own_below h2 hb1
    have g3 : Blk X1 (Bo + 1) 24 [vb] := h3.below hb1 h3.lt
    have g4 := own_below h4 hb1
    have g6 : Blk X1 (Bo + 2) 22 [.slice (some ⟨b, off, none⟩) l.length c] := h6.below hb1 h6.lt
    have g7 : Blk X1 (Bo + 3) 3 [.int .i64 32] := h7.below hb1 h7.lt
    have K1 : RoundK w.heap.size (Bo + 2) (Bo + 3) X X1 := .of_below hb1 sX
    have sX1 := hb1.size
    have hv5 : ∀ g, vo.ownBlock = some g → vb.ownBlock ≠ some g := h5
    have hvolt : ∀ g, vo.ownBlock = some g → g < X.heap.size := fun g h => (own_ge h2 g (by rw [h]; simp)).2
    clear h1 h2 h3 h4 h6 h7
    obtain ⟨Ao, ko, rfl, hko⟩ := own_form g2
    have hp1 : IntKind.i64.wrap ((p.length : Int) - 1) = ((p.length - 1 : Nat) : Int) := by rw [IntKind.wrap_i64]; omega
    have hplt : ((p.length - 1 : Nat) : Int) < (p.length : Int) := by omega
    obtain ⟨pn, hpn⟩ : ∃ pn, pn = p.length - 1 := ⟨_, rfl⟩
    obtain ⟨nb, hnb⟩ : ∃ nb, nb = (packB p).length := ⟨_, rfl⟩
    have hnb1 : nb ≤ 1000 := by rw [hnb]; exact Hzl.out.2
    have wnb : IntKind.u64.wrap (nb : Int) = (nb : Int) := u64_small (by omega)
    rw [← hpn] at lastc hp1 hplt
    have ownp' : X1.ownsRow X.heap.size 5 1 vp1 nb ((packB p).map bv) := by rw [hnb]; exact ownp
    clear ownp
    obtain ⟨Ap, kp, rfl, -⟩ := own_form ownp'
    have Hpn' := Lib.hid hpn; clear hpn
    have Hnb := Lib.hid hnb; clear hnb
    clear Hppk hpl
    gi_wp2_with fail
    refine wpIn_region_round (fun w' => Blk w' Bo 24 [.slice Ao O.length ko] ∧ w'.cell? ⟨b, off + 32 * i + pn, none⟩ = some (.int .u64 (z : Int))) 13 (by kernel_rfl) (by kernel_rfl) (fun ⟨_, _, h⟩ => h) ?_
    have hS0 : Blk X1.drew Bo 24 [.slice Ao O.length ko] ∧ X1.drew.cell? ⟨b, off + 32 * i + pn, none⟩ = some (.int .u64 (z : Int)) := ⟨g1, lastc⟩
    have y0 : ∀ w' : World, (Blk w' Bo 24 [.slice Ao O.length ko] ∧ w'.cell? ⟨b, off + 32 * i + pn, none⟩ = some (.int .u64 (z : Int))) → w'.cell? ⟨Bo, 0, none⟩ = some (.slice Ao O.length ko) := fun w' h => h.1.cell 0
    have y1 : ∀ w' : World, (Blk w' Bo 24 [.slice Ao O.length ko] ∧ w'.cell? ⟨b, off + 32 * i + pn, none⟩ = some (.int .u64 (z : Int))) → w'.cell? ⟨b, off + 32 * i + pn, none⟩ = some (.int .u64 (z : Int)) := fun w' h => h.2
    apply wpAnyN_takeL 0 (by kernel_rfl) rfl (fun _ _ _ h => h) (by kernel_rfl) hS0
    · intro w' hS'
      go_simp; exact ⟨rfl, rfl⟩
    (try simp only [Act.put]); (try simp only [List.setIfInBounds_toArray]); (try simp only [List.set])
    apply wpAnyN_takeL 1 (by kernel_rfl) rfl (fun _ _ _ h => h) (by kernel_rfl) hS0
    · intro w' hS'
      go_simp; exact ⟨rfl, rfl⟩
    (try simp only [Act.put]); (try simp only [List.setIfInBounds_toArray]); (try simp only [List.set])
    apply wpAnyN_takeL 2 (by kernel_rfl) rfl (fun _ _ _ h => h) (by kernel_rfl) hS0
    · intro w' hS'
      go_simp; exact ⟨rfl, rfl⟩
    (try simp only [Act.put]); (try simp only [List.setIfInBounds_toArray]); (try simp only [List.set])
    apply wpAnyN_takeL 3 (by kernel_rfl) rfl (fun _ _ _ h => h) (by kernel_rfl) hS0
    · intro w' hS'
      go_simp; exact ⟨rfl, rfl⟩
    (try simp only [Act.put]); (try simp only [List.setIfInBounds_toArray]); (try simp only [List.set])
    apply wpAnyN_takeL 4 (by kernel_rfl) rfl (fun _ _ _ h => h) (by kernel_rfl) hS0
    · intro w' hS'
      go_simp; exact ⟨rfl, rfl⟩
    (try simp only [Act.put]); (try simp only [List.setIfInBounds_toArray]); (try simp only [List.set])
    apply wpAnyN_takeL 5 (by kernel_rfl) rfl (fun _ _ _ h => h) (by kernel_rfl) hS0
    · intro w' hS'
      go_simp; exact ⟨rfl, rfl⟩
    (try simp only [Act.put]); (try simp only [List.setIfInBounds_toArray]); (try simp only [List.set])
    apply wpAnyN_takeL 6 (by kernel_rfl) rfl (fun _ _ _ h => h) (by kernel_rfl) hS0
    · intro w' hS'
      go_simp; exact ⟨rfl, rfl⟩
    (try simp only [Act.put]); (try simp only [List.setIfInBounds_toArray]); (try simp only [List.set])
    apply wpAnyN_takeL 7 (by kernel_rfl) rfl (fun _ _ _ h => h) (by kernel_rfl) hS0
    · intro w' hS'
      go_simp; exact ⟨rfl, rfl⟩
    (try simp only [Act.put]); (try simp only [List.setIfInBounds_toArray]); (try simp only [List.set])
    apply wpAnyN_takeL 8 (by kernel_rfl) rfl (fun _ _ _ h => h) (by kernel_rfl) hS0
    · intro w' hS'
      go_simp; exact ⟨rfl, rfl⟩
    (try simp only [Act.put]); (try simp only [List.setIfInBounds_toArray]); (try simp only [List.set])
    apply wpAnyN_takeL 9 (by kernel_rfl) rfl (fun _ _ _ h => h) (by kernel_rfl) hS0
    · intro w' hS'
      go_simp; exact ⟨rfl, rfl⟩
    (try simp only [Act.put]); (try simp only [List.setIfInBounds_toArray]); (try simp only [List.set])
    refine wpAnyN_runL 10 (by kernel_rfl) rfl (by kernel_rfl) (fun K hK => ?_)
    go_simp
    have hS1 : Blk (X1.drew.alloc (.cells #[.int .u64 (z : Int), .int .u64 (nb : Int)] 31)) Bo 24 [.slice Ao O.length ko] ∧ (X1.drew.alloc (.cells #[.int .u64 (z : Int), .int .u64 (nb : Int)] 31)).cell? ⟨b, off + 32 * i + pn, none⟩ = some (.int .u64 (z : Int)) := ⟨g1.drew.alloc _, (World.cell?_alloc_lt X1.drew _ ⟨b, off + 32 * i + pn, none⟩ (by simp; omega)).trans lastc⟩
    refine hK _ _ (fun _ => hS1) ?_
    clear hK K
    (try simp only [Act.put]); (try simp only [List.setIfInBounds_toArray]); (try simp only [List.set])
    refine wpAnyN_runL 11 (by kernel_rfl) rfl (by kernel_rfl) (fun K hK => ?_)
    go_simp
    refine (vPut [z, nb] _ 2 (X1.heap.size + 1) _ (row_new X1.drew 31 ([z, nb].map u64v)) (by simp) (by have := Hzl.out; simp; omega) (by simp)).mono ?_
    rintro e X2 ⟨v2h, rfl, ownh, hbh⟩
    have hb2 : Below X1.heap.size X1 X2 := ((Below.refl _ _).drew.alloc (Nat.le_refl _) _).trans (hbh.mono (by simp))
    have sX2 := hb2.size
    have ownh' : OwnB X2 X1.heap.size v2h (vput [z, nb]) := own_mono ownh (by simp)
    clear ownh hbh
    have g1' : Blk X2 Bo 24 [.slice Ao O.length ko] := g1.below hb2 g1.lt
    have g2' := own_below g2 hb2
    have lastc' : X2.cell? ⟨b, off + 32 * i + pn, none⟩ = some (.int .u64 (z : Int)) := (hb2.cell (p := ⟨b, off + 32 * i + pn, none⟩) (by show b < _; omega)).trans lastc
    refine hK _ _ (fun _ => ⟨g1', lastc'⟩) ?_
    clear hK K
    (try simp only [Act.put]); (try simp only [List.setIfInBounds_toArray]); (try simp only [List.set])
    refine wpAnyN_runL 12 (by kernel_rfl) rfl (by kernel_rfl) (fun K hK => ?_)
    obtain ⟨Ah, kh, rfl, hrowh⟩ := ownh'.shape
    have hvl : (vput [z, nb]).length ≤ 20 := by
      have := vput_len [z, nb] (by have := Hzl.out; simp; omega)
      simpa using this
    refine wp_app X2 bytesE rfl rfl g2' rfl hrowh (bv_one _) (by omega) (by omega) ?_
    intro vo3 X3 own3' hg3 hb3 hv3
    have g3' : Blk X2 (Bo + 1) 24 [vb] := g3.below hb2 g3.lt
    have g4' := own_below g4 hb2
    have g6' : Blk X2 (Bo + 2) 22 [.slice (some ⟨b, off, none⟩) l.length c] := g6.below hb2 g6.lt
    have g7' : Blk X2 (Bo + 3) 3 [.int .i64 32] := g7.below hb2 g7.lt
    have K3 : RoundK w.heap.size (Bo + 2) (Bo + 3) X2 X3 := .grown g2' hg3 (by omega) g6' g7' (by decide) (by decide)
    have nBo : ∀ {g : Nat} {t : TypeId} {cs : List Value}, 5 ≠ t → Blk X2 g t cs → some g ≠ (Value.slice Ao O.length ko).ownBlock := fun hne hb e => own_blk g2' hb hne (by rw [← e]; simp)
    have g1x : Blk X3 Bo 24 [.slice Ao O.length ko] := g1'.grown hg3 (nBo (by decide) g1')
    have g3x : Blk X3 (Bo + 1) 24 [vb] := g3'.grown hg3 (nBo (by decide) g3')
    have g6x : Blk X3 (Bo + 2) 22 [.slice (some ⟨b, off, none⟩) l.length c] := g6'.grown hg3 (nBo (by decide) g6')
    have g7x : Blk X3 (Bo + 3) 3 [.int .i64 32] := g7'.grown hg3 (nBo (by decide) g7')
    have g4x : X3.ownsRow w.heap.size 5 1 vb D.length (D.map bv) := own_grown g4' hg3 (by
      rcases Option.eq_none_or_eq_some vb.ownBlock with h | ⟨g, h⟩
      · exact .inl h
      · exact .inr fun e => hv5 g (e.symm.trans h) h)
    have hv5x : ∀ g, vo3.ownBlock = some g → vb.ownBlock ≠ some g := by
      intro g h e
      rcases hv3 with h3 | h3
      · exact hv5 g (h3.symm.trans h) e
      · have h := h3.symm.trans h
        cases h
        have := (own_ge g4' X2.heap.size (by rw [e]; simp)).2
        omega
    have lastx : X3.cell? ⟨b, off + 32 * i + pn, none⟩ = some (.int .u64 (z : Int)) := (hb3.cell (p := ⟨b, off + 32 * i + pn, none⟩) (by show b < _; omega)).trans lastc'
    refine hK _ _ (fun _ => ⟨g1x, lastx⟩) ?_
    clear hK K
    (try simp only [Act.put]); (try simp only [List.setIfInBounds_toArray]); (try simp only [List.set])
    have sX3 := hb3.size
    have ownp3 : X3.ownsRow X.heap.size 5 1 (.slice Ap nb kp) nb ((packB p).map bv) := own_grown (own_below ownp' hb2) hg3 (by
      rcases Option.eq_none_or_eq_some (Value.slice Ap nb kp).ownBlock with h | ⟨g, h⟩
      · exact .inl h
      · exact .inr fun e => by have h1 := hvolt g (e.symm.trans h); have h2 := (own_ge ownp' g (by rw [h]; simp)).1; omega)
    obtain ⟨m3, hm3⟩ : ∃ m3, m3 = O.length + (vput [z, nb]).length := ⟨_, rfl⟩
    have own3'' : X3.ownsRow w.heap.size 5 1 vo3 m3 (O.map bv ++ (vput [z, nb]).map bv) := by rw [hm3]; exact own3'
    have Hm3 := Lib.hid hm3; clear hm3
    clear own3'
    obtain ⟨A3, k3, rfl, -⟩ := own_form own3''
    have cb : X3.cell? ⟨Bo, 0, none⟩ = some (.slice Ao O.length ko) := g1x.cell 0
    have fb := g1x.frozen 0
    refine wpAnyN_runL 13 (by kernel_rfl) rfl (by kernel_rfl) (fun K hK => ?_)
    go_simp
    refine hK _ _ (fun h => absurd rfl h) ?_
    clear hK K
    (try simp only [Act.put])
    obtain ⟨X4, hX4⟩ : ∃ X4, X4 = X3.setCell ⟨Bo, 0, none⟩ (.slice A3 m3 k3) := ⟨_, rfl⟩
    have own4 : X4.ownsRow w.heap.size 5 1 (.slice A3 m3 k3) m3 (O.map bv ++ (vput [z, nb]).map bv) := by
      rw [hX4]; exact own_grown own3'' (grownBy_setCell' _ _ _) (.inr fun e => own_blk own3'' g1x (by decide) (by rw [e]; simp))
    have g1y : Blk X4 Bo 24 [.slice A3 m3 k3] := by rw [hX4]; exact g1x.set_ 0 _
    have g3y : Blk X4 (Bo + 1) 24 [vb] := by rw [hX4]; exact (Below.heap_setCell _ _ _ _ (by simp)).trans g3x
    have g6y : Blk X4 (Bo + 2) 22 [.slice (some ⟨b, off, none⟩) l.length c] := by rw [hX4]; exact (Below.heap_setCell _ _ _ _ (by simp)).trans g6x
    have g7y : Blk X4 (Bo + 3) 3 [.int .i64 32] := by rw [hX4]; exact (Below.heap_setCell _ _ _ _ (by simp)).trans g7x
    have g4y : X4.ownsRow w.heap.size 5 1 vb D.length (D.map bv) := by
      rw [hX4]; exact own_grown g4x (grownBy_setCell' _ _ _) (.inr fun e => own_blk g4x g1x (by decide) (by rw [e]; simp))
    have ownp4 : X4.ownsRow X.heap.size 5 1 (.slice Ap nb kp) nb ((packB p).map bv) := by
      rw [hX4]; exact own_grown ownp3 (grownBy_setCell' _ _ _) (.inr fun e => own_blk ownp3 g1x (by decide) (by rw [e]; simp))
    have K4 : RoundK w.heap.size (Bo + 2) (Bo + 3) X X4 := by
      rw [hX4]; exact ((K1.trans (.of_below hb2 (by omega))).trans K3).trans (.set_ (by rw [HBo.out]; omega) (by omega) (by omega))
    have sX4 : X3.heap.size = X4.heap.size := by rw [hX4]; simp
    rw [← hX4]
    refine wpAnyN_done (by kernel_rfl) ?_ _
    clear hX4
    clear g1 g2 g3 g4 g6 g7 g1' g2' g3' g4' g6' g7' g1x g3x g4x g6x g7x K1 K3 hv5 y0 y1 lastc lastc' lastx hS0 hS1 cb fb ownp' ownp3 own3'' hrowh ownh'
    obtain ⟨Ab, kb, rfl, -⟩ := own_form g4y
    have cb : X4.cell? ⟨Bo + 1, 0, none⟩ = some (.slice Ab D.length kb) := g3y.cell 0
    have fb := g3y.frozen 0
    have g5s : Blk X4 (Bo + 1) 24 [.slice Ab D.length kb] := g3y
    have nBb : ∀ {g : Nat} {t : TypeId} {cs : List Value}, 5 ≠ t → Blk X4 g t cs → some g ≠ (Value.slice Ab D.length kb).ownBlock := fun hne hb e => own_blk g4y hb hne (by rw [← e]; simp)
    obtain ⟨m5, hm5⟩ : ∃ m5, m5 = D.length + nb := ⟨_, rfl⟩
    have Hm5 := Lib.hid hm5; clear hm5
    gi_wp2_with (gi_at_builtin; refine wpListIn_app _ rfl bytesE rfl rfl g4y rfl (Row.of_own ownp4) (bv_one _) (by omega) (by omega) ?_; intro vb5 X5 own5 hg5 hb5 hv5; rw [← Hm5.out] at own5; obtain ⟨A5, k5, rfl, -⟩ := own_form own5; have b5 : Blk X5 (Bo + 1) 24 [.slice Ab D.length kb] := g3y.grown hg5 (nBb (by decide) g3y); have cb5 : X5.cell? ⟨Bo + 1, 0, none⟩ = some (.slice Ab D.length kb) := b5.cell 0; have fb5 := b5.frozen 0)
    have sX5 := hb5.size
    have K5 : RoundK w.heap.size (Bo + 2) (Bo + 3) X4 X5 := .grown g4y hg5 (by omega) g6y g7y (by decide) (by decide)
    have g1z : Blk X5 Bo 24 [.slice A3 m3 k3] := g1y.grown hg5 (nBb (by decide) g1y)
    have g6z : Blk X5 (Bo + 2) 22 [.slice (some ⟨b, off, none⟩) l.length c] := g6y.grown hg5 (nBb (by decide) g6y)
    have g7z : Blk X5 (Bo + 3) 3 [.int .i64 32] := g7y.grown hg5 (nBb (by decide) g7y)
    have ownA : X5.ownsRow w.heap.size 5 1 (.slice A3 m3 k3) m3 (O.map bv ++ (vput [z, nb]).map bv) := own_grown own4 hg5 (by
      rcases Option.eq_none_or_eq_some (Value.slice A3 m3 k3).ownBlock with h | ⟨g, h⟩
      · exact .inl h
      · exact .inr fun e => hv5x g h (e.symm.trans h))
    have hv6 : ∀ g, (Value.slice A3 m3 k3).ownBlock = some g → (Value.slice A5 m5 k5).ownBlock ≠ some g := by
      intro g h e
      rcases hv5 with h3 | h3
      · exact hv5x g h (h3.symm.trans e)
      · have h4 := h3.symm.trans e
        cases h4
        have := (own_ge own4 X4.heap.size (by rw [h]; simp)).2
        omega
    have K6 : RoundK w.heap.size (Bo + 2) (Bo + 3) X (X5.setCell ⟨Bo + 1, 0, none⟩ (.slice A5 m5 k5)) := (K4.trans K5).trans (.set_ (by have := HBo.out; omega) (by omega) (by omega))
    refine ⟨K6.oth.from _, ⟨K6.bel, K6.box⟩, ?_⟩
    have ownA6 : (X5.setCell ⟨Bo + 1, 0, none⟩ (.slice A5 m5 k5)).ownsRow w.heap.size 5 1 (.slice A3 m3 k3) m3 (O.map bv ++ (vput [z, nb]).map bv) := own_grown ownA (grownBy_setCell' _ _ _) (.inr fun e => own_blk ownA b5 (by decide) (by rw [e]; simp))
    have ownD6 : (X5.setCell ⟨Bo + 1, 0, none⟩ (.slice A5 m5 k5)).ownsRow w.heap.size 5 1 (.slice A5 m5 k5) m5 (D.map bv ++ (packB p).map bv) := own_grown own5 (grownBy_setCell' _ _ _) (.inr fun e => own_blk own5 b5 (by decide) (by rw [e]; simp))
    refine ⟨.slice A3 m3 k3, .slice A5 m5 k5, (Below.heap_setCell _ _ _ _ (by simp)).trans g1z, ?_, b5.set_ 0 _, ?_, hv6, (Below.heap_setCell _ _ _ _ (by simp)).trans g6z, (Below.heap_setCell _ _ _ _ (by simp)).trans g7z, h8.trans K6.bel⟩
    · have e1 : put1 nB ++ headB (List.map (fun k => partN l k.val) (pre ++ [x])) = O ++ vput [z, nb] := by
        rw [HO.out, List.map_append, List.map_cons, List.map_nil, headB_snoc, ← Hi.out, ← Hp.out, ← Hz.out, ← Hnb.out, vput_cons, vput_one, List.append_assoc]
      rw [e1]
      unfold OwnB
      rw [List.length_append, List.map_append, ← Hm3.out]
      exact ownA6
    · have e1 : bodyB (List.map (fun k => partN l k.val) (pre ++ [x])) = D ++ packB p := by
        rw [HD.out, List.map_append, List.map_cons, List.map_nil, bodyB_snoc, ← Hi.out, ← Hp.out]
      rw [e1]
      unfold OwnB
      rw [List.length_append, List.map_append, ← Hnb.out, ← Hm5.out]
      exact ownD6
  case done =>
    rintro D ys W hD rfl ⟨vo, vb, h1, h2, h3, h4, h5, h6, h7, h8⟩ hK
    rw [show (List.finRange nB).map (fun k => partN l k.val) = blocks (nBlk l) l by rw [← parts_all, HnB.out]] at h2 h4
    obtain ⟨H, hH⟩ : ∃ H, H = put1 nB ++ headB (blocks (nBlk l) l) := ⟨_, rfl⟩
    obtain ⟨E, hE⟩ : ∃ E, E = bodyB (blocks (nBlk l) l) := ⟨_, rfl⟩
    rw [← hH] at h2; rw [← hE] at h4
    have hbl := headB_len (blocks (nBlk l) l) (by rw [← parts_all]; intro q hq; obtain ⟨k, -, rfl⟩ := List.mem_map.1 hq; exact partN_ok Hn.out k.val)
    rw [blocks_len] at hbl
    have Hnb1 := Lib.hid HnB.out
    have hH1 : H.length ≤ 50000 := by
      have := put1_len (n := nB) (by omega)
      rw [hH, List.length_append]; have := HnB.out; omega
    have hE1 : E.length ≤ 5000000 := by rw [hE]; have := HnB.out; omega
    have HH := Lib.hid hH; clear hH
    clear hbl
    have HE := Lib.hid hE; clear hE
    obtain ⟨Ao, ko, rfl, -⟩ := own_form h2
    obtain ⟨Ab, kb, rfl, -⟩ := own_form h4
    have c1 : W.cell? ⟨Bo, 0, none⟩ = some (.slice Ao H.length ko) := h1.cell 0
    have c2 : W.cell? ⟨Bo + 1, 0, none⟩ = some (.slice Ab E.length kb) := h3.cell 0
    have s8 := h8.size
    gi_wp2_with (gi_at_builtin; refine wpListIn_app _ rfl bytesE rfl rfl h2 rfl (Row.of_own h4) (bv_one _) (by omega) (by omega) ?_; intro v5 X5 own5 hg5 hb5 _)
    have K5 : RoundK w.heap.size (Bo + 2) (Bo + 3) W X5 := .grown h2 hg5 (by omega) h6 h7 (by decide) (by decide)
    have hK5 := K5.oth.same D _ hK rfl
    refine ⟨by simp, .inl ⟨_, _, rfl, run_takeDeferred hK5, ?_⟩⟩
    have HP : postB l = H ++ E := by rw [HH.out, HE.out, Hnb1.out]; simp [postB]
    have kb : Below w.heap.size X5 (X5.putObj D (.deferred none)) := belowK_b (w := w) (Nat.le_refl _) X5 D _ _ (by omega) hK5 rfl rfl
    refine ⟨_, results_tmp2 rfl _ _ _, v5, rfl, ?_, (h8.trans hb5).trans kb⟩
    rw [HP]
    unfold OwnB
    rw [List.length_append, List.map_append]
    exact own_keptC own5 (grownBy_putObj' X5 D _) (fun r e => by cases e; exact ⟨_, hK5, rfl⟩)
end Go.Proofs.Ytmalkgakdmghiaa
