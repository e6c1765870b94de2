import Derived.Test.YtmcacicopgckmaaGreatDoorDt50
/-! dfa: where the loop over a text's runes stands -/
namespace Go.Proofs.YtmcacicopgckmaaGreatDoor
open Go.RowKit Garner
/-- the types of what a call of a cache's writes, its state's box too -/
abbrev TD : List TypeId := [80, 129, 70]
section
variable {B0 : Nat} {w w' : World} {c : Nat} {t : Re} {lim : Nat} {d : CacheD}
theorem KeepM.more {T U : List TypeId} (h : KeepM T w w') (hs : ∀ x ∈ T, x ∈ U) : KeepM U w w' := ⟨h.os, h.tape, h.output, h.size, fun k cs t z hk hn => h.block k cs t z hk fun hm => hn (hs t hm)⟩
theorem CacheIs.otherD {S : List Nat} (h : CacheIs B0 w c t lim d) (hb : But S w w') (hk : KeepM TD w w') (hS : ∀ k ∈ d.S c, k ∉ S) : CacheIs B0 w' c t lim d := by
  have m1 : c ∈ d.S c := by simp [CacheD.S]
  have m2 : d.mN ∈ d.S c := by simp [CacheD.S]
  have m3 : d.mE ∈ d.S c := by simp [CacheD.S]
  obtain ⟨B, L, hp⟩ := h.prog
  exact ⟨h.blk.but hb (hS _ m1), ⟨B, L, hp.selfM hk (by decide) (by decide) (by decide)⟩, h.good, own_but h.own hb fun g hg => hS _ (CacheD.S_own hg), fun x hx => ⟨(h.rows x hx).1.keepM hk (by decide), (h.rows x hx).2⟩,
    h.mapN.of_block (hb.block _ h.mapN.lt (hS _ m2)), h.mapE.of_block (hb.block _ h.mapE.lt (hS _ m3)), h.ne, h.gc, h.few, h.low.1, h.low.2.1, h.low.2.2.1, Nat.le_trans h.low.2.2.2 hb.size⟩
/-- a cache's blocks are its box, its maps and a row of states -/
theorem CacheIs.kind (h : CacheIs B0 w c t lim d) : ∀ k ∈ d.S c, (∃ es ck, w.heap[k]? = some (.map es ck)) ∨ ∃ cs t z, w.heap[k]? = some (.cells cs t z) ∧ t ∈ TC := fun k hk => by
  unfold CacheD.S at hk
  rcases List.mem_cons.1 hk with rfl | hk
  · exact .inr ⟨_, _, _, h.blk, by decide⟩
  rcases List.mem_cons.1 hk with rfl | hk
  · obtain ⟨es, ck, hm, -⟩ := h.mapN; exact .inl ⟨es, ck, hm⟩
  rcases List.mem_cons.1 hk with rfl | hk
  · obtain ⟨es, ck, hm, -⟩ := h.mapE; exact .inl ⟨es, ck, hm⟩
  cases hA : d.A with
  | none => rw [hA] at hk; cases hk
  | some a =>
    rw [hA] at hk
    rw [List.mem_singleton] at hk
    subst hk
    obtain ⟨cs, t', z, h1, rfl⟩ := own_typed h.own a.block (by rw [hA]; simp [Value.ownBlock])
    exact .inr ⟨cs, _, z, h1, by decide⟩
theorem CacheIs.not_iter (h : CacheIs B0 w c t lim d) {K : Nat} {s : ByteArray} {p : Nat} (hK : w.heap[K]? = some (.stringIter s p)) : K ∉ d.S c := fun hm => by
  rcases h.kind K hm with ⟨es, ck, h1⟩ | ⟨cs, t', z, h1, -⟩ <;> (rw [hK] at h1; cases h1)
theorem CacheIs.not_box (h : CacheIs B0 w c t lim d) {q : Nat} {t' : TypeId} {cs : List Value} (hq : Blk w q t' cs) (ht : t' ∉ TC) : q ∉ d.S c := fun hm => by
  unfold Blk at hq
  rcases h.kind q hm with ⟨es, ck, h1⟩ | ⟨cs', t2, z, h1, h2⟩
  · rw [hq] at h1; cases h1
  · rw [hq] at h1; cases h1; exact ht h2
theorem but_iter {K : Nat} {s : ByteArray} {p : Nat} : But [K] w (w.iterAt K s p) := ⟨rfl, rfl, rfl, by rw [Lib.iterAt_size]; exact Nat.le_refl _, fun i _ hi => Lib.iterAt_other _ _ _ _ _ (by simpa using hi)⟩
theorem keep_iter {T : List TypeId} {K : Nat} {s : ByteArray} {p p' : Nat} (hK : w.heap[K]? = some (.stringIter s p)) : KeepM T w (w.iterAt K s p') := ⟨rfl, rfl, rfl, by rw [Lib.iterAt_size]; exact Nat.le_refl _, fun i cs t z hi _ => Lib.iterAt_other _ _ _ _ _ (by rintro rfl; rw [hK] at hi; cases hi)⟩
end
/-- what is written is new -/
theorem CStep.far {c : Nat} {w w1 w2 : World} {d0 d : CacheD} {T : List Nat} {U : List TypeId} (h : CStep c w d0 w1 d) (hb : But T w1 w2) (hT : ∀ x ∈ T, w.heap.size ≤ x) (hk : KeepM U w1 w2) : CStep c w d0 w2 d :=
  ⟨h.but.old hb fun x hx => .inr (hT x hx), ⟨hk.os.trans h.keep.os, hk.tape.trans h.keep.tape, hk.output.trans h.keep.output, Nat.le_trans h.keep.size hk.size, fun k cs t z hc hn => by
    have hlt := (Array.getElem?_eq_some_iff.1 hc).1
    rw [hb.block k (Nat.lt_of_lt_of_le hlt h.keep.size) fun hm => by have := hT k hm; omega]
    exact h.keep.block k cs t z hc hn⟩, h.sub, h.more⟩
theorem end_whole {t : Re} (ht : t.ok) (rs : List Nat) : matB (progR t) (runR (progR t) false rs rs.length) (decide (rs.length = 0)) true = wholeB t rs := by
  rw [Bool.eq_iff_iff, matB_iff, if_pos rfl, whole_iff, ← whole_R ht rs]
  rfl
theorem end_part {t : Re} (ht : t.ok) (rs : List Nat) (hno : ∀ m, m < rs.length → ¬ MatR (progR t) (runR (progR t) true rs m)) : matB (progR t) (runR (progR t) true rs rs.length) (decide (rs.length = 0)) true = partB t rs := by
  rw [Bool.eq_iff_iff, matB_iff, if_pos rfl, part_iff, ← part_R ht rs]
  constructor
  · exact .inr
  · rintro (⟨m, hm, hx⟩ | hx)
    · exact absurd hx (hno m hm)
    · exact hx
theorem found_part {t : Re} (ht : t.ok) {rs : List Nat} {k r : Nat} {fb : Bool} (hr : rs[k]? = some r) (hm : matB (progR t) (runR (progR t) true rs k) fb false = true) : partB t rs = true := by
  rw [matB_iff, if_neg (by simp)] at hm
  rw [part_iff, ← part_R ht rs]
  exact .inl ⟨k, (List.getElem?_eq_some_iff.1 hr).1, hm⟩
/-- what run answers -/
noncomputable def ansD (part : Bool) (t : Re) (rs : List Nat) : Bool := if part = true then partB t rs else wholeB t rs
/-- where the loop stands -/
structure LoopD (B0 : Nat) (w0 : World) (d0 : CacheD) (wr : World) (q K c : Nat) (t : Re) (lim : Nat) (d : CacheD) (l : Bs) (rs : List Nat) (part : Bool) (pos k : Nat) (A : Option Addr) (n ca : Nat) (fb : Bool) (st : List Nat) (i : Int) : Prop where
  it : wr.heap[K]? = some (.stringIter ⟨l.toArray⟩ pos)
  blk : Blk wr q 70 [.slice A n ca, .bool fb]
  row : RowT wr 3 A n (st.map iv)
  pl : PlainA A ca
  eq : st = runR (progR t) part rs k
  len : st.length = n
  feq : fb = decide (k = 0)
  at_ : RunAt l rs pos k
  ci : CacheIs B0 wr c t lim d
  cs : CStep c w0 d0 wr d
  ke : KeptAt d i fb st
  pos : 0 < lim → 0 < d.ds.length
  no : part = true → ∀ m, m < k → ¬ MatR (progR t) (runR (progR t) true rs m)
  qB : w0.heap.size ≤ q
  kB : w0.heap.size ≤ K
section
variable {B0 : Nat} {w0 : World} {d0 : CacheD} {wr : World} {q K c : Nat} {t : Re} {lim : Nat} {d : CacheD} {l : Bs} {rs : List Nat} {part : Bool} {pos k : Nat} {A : Option Addr} {n ca : Nat} {fb : Bool} {st : List Nat} {i : Int}
theorem LoopD.nle (h : LoopD B0 w0 d0 wr q K c t lim d l rs part pos k A n ca fb st i) : n ≤ 100000 := by
  rw [← h.len, h.eq]; exact Nat.le_trans (run_len k) h.ci.good.prog.small
theorem LoopD.lt (h : LoopD B0 w0 d0 wr q K c t lim d l rs part pos k A n ca fb st i) : ∀ x ∈ st, x < (progR t).length := by
  rw [h.eq]; exact run_lt k
/-- of the runes one is taken: the iterator has gone on -/
structure MidD (B0 : Nat) (w0 : World) (d0 : CacheD) (Y : World) (q K c : Nat) (t : Re) (lim : Nat) (d : CacheD) (l : Bs) (rs : List Nat) (part : Bool) (pos' k r : Nat) (A : Option Addr) (n ca : Nat) (fb : Bool) (st : List Nat) (i : Int) : Prop where
  it : Y.heap[K]? = some (.stringIter ⟨l.toArray⟩ pos')
  blk : Blk Y q 70 [.slice A n ca, .bool fb]
  row : RowT Y 3 A n (st.map iv)
  pl : PlainA A ca
  eq : st = runR (progR t) part rs k
  len : st.length = n
  feq : fb = decide (k = 0)
  rk : rs[k]? = some r
  at_ : RunAt l rs pos' (k + 1)
  ci : CacheIs B0 Y c t lim d
  cs : CStep c w0 d0 Y d
  ke : KeptAt d i fb st
  pos : 0 < lim → 0 < d.ds.length
  no : part = true → ∀ m, m < k → ¬ MatR (progR t) (runR (progR t) true rs m)
  qB : w0.heap.size ≤ q
  kB : w0.heap.size ≤ K
theorem LoopD.take (h : LoopD B0 w0 d0 wr q K c t lim d l rs part pos k A n ca fb st i) {r q' : Nat} (hr : runesP (l.drop pos) = r :: runesP (l.drop (pos + q'))) : MidD B0 w0 d0 (wr.iterAt K ⟨l.toArray⟩ (pos + q')) q K c t lim d l rs part (pos + q') k r A n ca fb st i := by
  obtain ⟨hk, hat⟩ := h.at_.next hr
  have hb : But [K] wr (wr.iterAt K ⟨l.toArray⟩ (pos + q')) := but_iter
  have hkp : ∀ {T : List TypeId}, KeepM T wr (wr.iterAt K ⟨l.toArray⟩ (pos + q')) := keep_iter h.it
  exact ⟨Lib.iterAt_heap _ _ _ _ _ h.it, h.blk.iterAt h.it, h.row.keepM (T := []) hkp (by simp), h.pl, h.eq, h.len, h.feq, hk, hat, h.ci.otherD hb hkp fun x hx hm => by
    rw [List.mem_singleton] at hm
    subst hm
    exact h.ci.not_iter h.it hx, h.cs.far (U := []) hb (by simpa using h.kB) hkp, h.ke, h.pos, h.no, h.qB, h.kB⟩
end
section
variable {B0 : Nat} {w0 : World} {d0 : CacheD} {Y Z : World} {q K c : Nat} {t : Re} {lim : Nat} {d : CacheD} {l : Bs} {rs : List Nat} {part : Bool} {pos' k r : Nat} {A : Option Addr} {n ca : Nat} {fb : Bool} {st : List Nat} {i : Int}
theorem MidD.nle (h : MidD B0 w0 d0 Y q K c t lim d l rs part pos' k r A n ca fb st i) : n ≤ 100000 := by
  rw [← h.len, h.eq]; exact Nat.le_trans (run_len k) h.ci.good.prog.small
theorem MidD.lt (h : MidD B0 w0 d0 Y q K c t lim d l rs part pos' k r A n ca fb st i) : ∀ x ∈ st, x < (progR t).length := by
  rw [h.eq]; exact run_lt k
theorem MidD.below (h : MidD B0 w0 d0 Y q K c t lim d l rs part pos' k r A n ca fb st i) (hb : Below Y.heap.size Y Z) : MidD B0 w0 d0 Z q K c t lim d l rs part pos' k r A n ca fb st i :=
  ⟨(hb.block _ (Array.getElem?_eq_some_iff.1 h.it).1).trans h.it, h.blk.below hb h.blk.lt, h.row.below hb, h.pl, h.eq, h.len, h.feq, h.rk, h.at_, h.ci.below hb, h.cs.trans (.of_below hb), h.ke, h.pos, h.no, h.qB, h.kB⟩
theorem MidD.not (h : MidD B0 w0 d0 Y q K c t lim d l rs part pos' k r A n ca fb st i) (hm : part = true → matB (progR t) st fb false = false) : part = true → ∀ m, m < k + 1 → ¬ MatR (progR t) (runR (progR t) true rs m) := fun hp m hk => by
  rcases Nat.lt_or_ge m k with h1 | h1
  · exact h.no hp m h1
  · obtain rfl : m = k := by omega
    intro hx
    have e := h.eq
    subst hp
    have : matB (progR t) st fb false = true := by rw [matB_iff, if_neg (by simp), e]; exact hx
    rw [hm rfl] at this
    cases this
/-- the state behind the rune is laid in the box; what is kept is told anew -/
theorem MidD.step (h : MidD B0 w0 d0 Y q K c t lim d l rs part pos' k r A n ca fb st i) {A' : Option Addr} {n' ca' : Nat} {i' : Int} {W : World} (hno : part = true → ∀ m, m < k + 1 → ¬ MatR (progR t) (runR (progR t) true rs m))
    (hb : But [q] Y W) (hk : KeepM TD Y W) (hblk : Blk W q 70 [.slice A' n' ca', .bool false]) (hrow : RowT W 3 A' n' ((stepR (progR t) part st r).map iv)) (hpl : PlainA A' ca') (hn : (stepR (progR t) part st r).length = n') (hke : KeptAt d i' false (stepR (progR t) part st r)) :
    LoopD B0 w0 d0 W q K c t lim d l rs part pos' (k + 1) A' n' ca' false (stepR (progR t) part st r) i' := by
  have hit : W.heap[K]? = some (.stringIter ⟨l.toArray⟩ pos') := by
    rw [hb.block K (Array.getElem?_eq_some_iff.1 h.it).1 (by
      simp only [List.mem_singleton]
      rintro rfl
      have := h.blk
      unfold Blk at this
      rw [h.it] at this
      cases this)]
    exact h.it
  exact ⟨hit, hblk, hrow, hpl, by rw [h.eq]; simp only [runR, h.rk], hn, rfl, h.at_, h.ci.otherD hb hk fun x hx hm => by
    rw [List.mem_singleton] at hm
    subst hm
    exact h.ci.not_box h.blk (by decide) hx, h.cs.far hb (by simpa using h.qB) hk, hke, h.pos, hno, h.qB, h.kB⟩
/-- a call of the cache's own has gone by -/
theorem LoopD.call {fb : Bool} {i' : Int} {d' : CacheD} {k : Nat} (h : LoopD B0 w0 d0 Y q K c t lim d l rs part pos' k A n ca fb st i) (hc : CacheIs B0 Z c t lim d') (hs : CStep c Y d Z d') (hke : KeptAt d' i' fb st) (hp : 0 < lim → 0 < d'.ds.length) : LoopD B0 w0 d0 Z q K c t lim d' l rs part pos' k A n ca fb st i' :=
  ⟨by rw [hs.but.block K (Array.getElem?_eq_some_iff.1 h.it).1 (h.ci.not_iter h.it)]; exact h.it, hs.keep.blk h.blk (by decide), h.row.keepM hs.keep (by decide), h.pl, h.eq, h.len, h.feq, h.at_, hc, h.cs.trans hs, hke, hp, h.no, h.qB, h.kB⟩
end
/-- an edge's key -/
def edgeAt (i : Int) (r : Nat) (part : Bool) : EdgeP := ⟨⟨(i + 1).toNat % 40, Nat.mod_lt _ (by decide)⟩, ⟨r % 1114112, Nat.mod_lt _ (by decide)⟩, part⟩
theorem edgeAt_key {i : Int} {r : Nat} {part : Bool} (h1 : -1 ≤ i) (h2 : i < 39) (hr : r ≤ 1114111) : edgeK (edgeAt i r part) = .agg #[.int .i64 i, .int .i32 (r : Nat), .bool part] ∧ ((edgeAt i r part).from_ : Nat) = (i + 1).toNat ∧ ((edgeAt i r part).r : Nat) = r := by
  have e1 : ((edgeAt i r part).from_ : Nat) = (i + 1).toNat := by show (i + 1).toNat % 40 = _; exact Nat.mod_eq_of_lt (by omega)
  have e2 : ((edgeAt i r part).r : Nat) = r := by show r % 1114112 = _; exact Nat.mod_eq_of_lt (by omega)
  refine ⟨?_, e1, e2⟩
  unfold edgeK
  rw [e1, e2, show (((i + 1).toNat : Int) - 1) = i by omega]
  rfl
theorem KeptAt.range {B0 : Nat} {w : World} {c : Nat} {t : Re} {lim : Nat} {d : CacheD} {i : Int} {f : Bool} {st : List Nat} (h : KeptAt d i f st) (hc : CacheIs B0 w c t lim d) : -1 ≤ i ∧ i < 39 := by
  have h1 := hc.gc.len
  have h2 := hc.gc.lb
  rw [List.length_map] at h1
  rcases h with rfl | ⟨j, x, rfl, hx, -⟩
  · omega
  · have := (List.getElem?_eq_some_iff.1 hx).1
    omega
/-- an edge is kept -/
theorem CacheIs.put {B0 : Nat} {w w' : World} {c : Nat} {t : Re} {lim : Nat} {d : CacheD} {n' : Nat} {f' : EdgeP → Option Value} (h : CacheIs B0 w c t lim d) (hm : MapF edgeK w' d.mE n' f') (hg : w.grownBy w' (some d.mE)) (hn : n' ≤ 4096) (hgc : GoodC (progR t) lim (d.ds.map (·.p)) d.nm f') :
    CacheIs B0 w' c t lim { d with nE := n', ed := f' } ∧ CStep c w d w' { d with nE := n', ed := f' } := by
  obtain ⟨es, ck, hE, -⟩ := id h.mapE
  have hkp : KeepM TC w w' := .grown hg fun k hk cs t' z hc => by
    injection hk with hk
    rw [← hk, hE] at hc
    cases hc
  have hcn : some c ≠ some d.mE := fun e => by
    injection e with e
    have hb := h.blk
    unfold Blk at hb
    rw [e, hE] at hb
    cases hb
  obtain ⟨B, L, hp⟩ := h.prog
  refine ⟨⟨h.blk.grown hg hcn, ⟨B, L, hp.selfM hkp (by decide) (by decide) (by decide)⟩, h.good, own_grown h.own hg ?_, fun x hx => ⟨(h.rows x hx).1.keepM hkp (by decide), (h.rows x hx).2⟩, h.mapN.of_block (hg.block _ h.mapN.lt fun e => h.ne (Option.some.inj e)), hm, h.ne, hgc, hn, h.low.1, h.low.2.1, h.low.2.2.1, Nat.le_trans h.low.2.2.2 hg.size⟩,
    ⟨.grown hg fun k hk => by injection hk with hk; rw [← hk]; simp [CacheD.S], hkp, fun k hk => .inl hk, fun _ _ hx => hx⟩⟩
  rcases hb : (Value.slice d.A d.ds.length d.cs).ownBlock with _ | k
  · exact .inl rfl
  · refine .inr fun e => ?_
    obtain ⟨cs', t2, z', h3, -⟩ := own_typed h.own k hb
    injection e with e
    rw [e, hE] at h3
    cases h3
theorem ans_end {t : Re} (ht : t.ok) (part : Bool) (rs : List Nat) (hno : part = true → ∀ m, m < rs.length → ¬ MatR (progR t) (runR (progR t) true rs m)) : matB (progR t) (runR (progR t) part rs rs.length) (decide (rs.length = 0)) true = ansD part t rs := by
  unfold ansD
  cases part with
  | true => rw [if_pos rfl]; exact end_part ht rs (hno rfl)
  | false => rw [if_neg (by simp)]; exact end_whole ht rs
end Go.Proofs.YtmcacicopgckmaaGreatDoor
