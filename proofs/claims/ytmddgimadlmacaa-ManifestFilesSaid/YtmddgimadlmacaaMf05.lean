import Derived.Test.YtmddgimadlmacaaMf03
import Derived.Test.YtmddgimadlmacaaMf04
import Derived.Test.YtmddgimadlmacaaMf02
import Derived.OrdersHeld
import Derived.Deep.RegionHeld3
namespace Go.Proofs.Ytmddgimadlmacaa
open Go.RowKit Garner

theorem zeroFile (w : World) : (zeroValue 100).run Try.prog w = .ok (.agg #[.slice none 0 0, .int .i64 0]) w := by kernel_rfl
abbrev strKey : List UInt8 → Value := fun s => Value.string ⟨s.toArray⟩
/-- a disk's box -/
def diskV (mp : Nat) (down taken : Bool) (left : Int) : List Value := [.map (some mp), .bool down, .bool taken, .int .i64 left]
set_option maxRecDepth 100000 in
set_option maxHeartbeats 2000000 in
theorem vNew (w : World) : Calls Try.prog 18 #[] w fun e w' => e = .returned (.pointer (some ⟨w.heap.size + 1, 0, none⟩)) ∧ MapIs (fun s : List UInt8 => Value.string ⟨s.toArray⟩) w' w.heap.size [] ∧ Blk w' (w.heap.size + 1) 97 (diskV w.heap.size false false (-1)) ∧ Below w.heap.size w w' := by
  have hmm := @run_makeMap Try.prog
  go_enter Try.func18, Try.ntmps18
  go_wp2
  go_ret
  refine ⟨rfl, (MapIs.made w).alloc _, ?_, ((Below.refl _ _).alloc (Nat.le_refl _) _).alloc (by simp) _⟩
  have h := Blk.new (w.alloc (.map #[] 0)) 97 (diskV w.heap.size false false (-1))
  rw [World.size_alloc] at h
  exact h
end Go.Proofs.Ytmddgimadlmacaa
namespace Go.Proofs.Ytmddgimadlmacaa
open Go.RowKit Garner

/-- what may says of names -/
def dmay (names : List ByteArray) (down : Bool) : Nat := if names.all nameOk then (if down then 23 else 0) else 1
set_option maxRecDepth 100000 in
set_option maxHeartbeats 4000000 in
theorem vDmay (names : List ByteArray) (A : Option Addr) (c B g mp : Nat) (a b : Bool) (left : Int) (w : World) (hr : Row w B 1 A names.length (names.map Value.string)) (hB : B ≤ w.heap.size) (hd : Blk w g 97 (diskV mp a b left)) (hl : names.length ≤ 1000) :
    Calls Try.prog 66 #[.pointer (some ⟨g, 0, none⟩), .slice A names.length c] w fun e w' => e = .returned (.int .i64 (dmay names b)) ∧ Below w.heap.size w w' := by
  have hgw : g < w.heap.size := hd.lt
  go_enter Try.func66, Try.ntmps66
  go_wp2_with fail
  go_loopw [11] (fun i wr => ∃ k : Nat, k ≤ names.length ∧ i = .int .i64 k ∧ Hid ((names.take k).all nameOk = true) ∧ Below w.heap.size w wr) (fun i _ => names.length - (intOf i).toNat)
  case atStart => exact ⟨0, by omega, rfl, rfl, Below.refl _ _⟩
  case round =>
    obtain ⟨k, hk, rfl, hall, hbel⟩ := hrel
    obtain ⟨wo, rfl⟩ : ∃ wo : World, wo = wr := ⟨_, rfl⟩
    by_cases hlt : (k : Int) < names.length
    · have hlt' : k < names.length := by omega
      obtain ⟨bb, off, rfl, hb, hcell⟩ := (hr.below (hbel.mono hB)).at_ (k := k) hlt'
      have c0 : wo.cell? ⟨bb, off + k, none⟩ = some (.string names[k]) := by have := hcell k (by simpa using hlt'); simpa using this
      clear hcell
      have hnx : (names.take (k + 1)).all nameOk = nameOk names[k] := by
        rw [List.take_succ_eq_append_getElem hlt', List.all_append, hall.out]; simp
      obtain ⟨s, hs⟩ : ∃ s, s = names[k] := ⟨_, rfl⟩
      rw [← hs] at c0 hnx
      have Hs := Lib.hid hs; clear hs
      have Hnx := Lib.hid hnx; clear hnx
      go_wp2_with fail
      refine (vName s wo).mono ?_
      rintro e w2 ⟨rfl, hb2⟩
      have hb02 : Below w.heap.size w w2 := hbel.trans (hb2.mono hbel.size)
      cases hn : nameOk s with
      | true =>
        have hn2 : Hid ((names.take (k + 1)).all nameOk = true) := Hnx.out.trans hn
        clear hn
        go_wp2
        go_roundw
        case rel =>
          first
            | exact ⟨k + 1, by omega, by go_num, hn2, hb02⟩
            | ((repeat apply Exists.intro); exact ⟨⟨k + 1, by omega, by go_num, hn2, hb02⟩, rfl⟩)
        case measure => simp [intOf]; omega
      | false =>
        have hn2 : Hid (dmay names b = 1) := by
          show dmay names b = 1
          unfold dmay; rw [if_neg]
          intro h
          rw [List.all_eq_true] at h
          have := h s (by rw [Hs.out]; exact List.getElem_mem hlt')
          rw [hn] at this; cases this
        clear hn
        go_wp2
        go_ret
        rw [hn2.out]
        exact ⟨rfl, hb02⟩
    · obtain rfl : k = names.length := by omega
      rw [List.take_length] at hall
      have hd2 : Hid (dmay names b = if b then 23 else 0) := by show dmay names b = _; unfold dmay; rw [if_pos hall.out]
      have x2 : wo.cell? ⟨g, 2, none⟩ = some (.bool b) := (hbel.cell (p := ⟨g, 2, none⟩) hgw).trans (hd.cell 2)
      cases b
      all_goals
        go_wp2
        go_ret
        rw [hd2.out]
        exact ⟨rfl, hbel⟩
end Go.Proofs.Ytmddgimadlmacaa
/-
  A region that leaves its order open, of which each operation but a few only reads (or calls what only reads), in every world that meets S; S holds behind each operation but the last one, which waits for all others.
-/
namespace Garner
open Go

/-- the run leaves v and nothing else -/
def stillRun (P : Program) (v : Value) (w : World) : Result Next → Prop
  | .ok (.value u) w' => u = v ∧ w' = w
  | .ok (.enter f args) w' => w' = w ∧ Calls P f args w fun e w'' => e = .returned v ∧ w'' = w
  | _ => False

section
variable {P : Program} {ops : Array Oper} {Q : Exit → Act → World → Prop} {md : Region.Mode} {S : World → Prop}

def YieldsS (P : Program) (S : World → Prop) (o : Oper) (v : Value) (a : Act) : Prop := ∀ w, S w → stillRun P v w ((execOp a.eval o).run P w)

theorem YieldsS.wpOp {i : Nat} {o : Oper} {v : Value} {a : Act} (hi : ops[i]? = some o) (hg : o.guard = none) (hy : YieldsS P S o v a)
    {K : Act → World → Prop} {w : World} (hS : S w) (h : K (a.put o.dst v) w) : wpOp P ops Q i K a w := by
  unfold Go.wpOp
  simp only [hi]
  rw [if_pos (by simp [Region.wanted, hg])]
  refine .inl ?_
  have hy := hy w hS
  unfold Oper.wp
  generalize (execOp a.eval o).run P w = r at hy
  cases r with
  | halt x w' => exact hy.elim
  | ok n w' =>
    cases n with
    | value u =>
      obtain ⟨h1, h2⟩ := hy
      subst h1; subst h2
      exact h
    | enter f args =>
      obtain ⟨h1, h2⟩ := hy
      subst h1
      refine Calls.mono h2 fun e w'' he => ?_
      obtain ⟨he1, he2⟩ := he
      subst he1; subst he2
      exact h
    | _ => exact hy.elim

theorem YieldsS.of_same {o : Oper} {v : Value} {a a' : Act} (hy : YieldsS P S o v a) (he : execOp a'.eval o = execOp a.eval o) : YieldsS P S o v a' := by
  unfold YieldsS at *; rw [he]; exact hy

theorem wpOp_putS {j : Nat} {oi oj : Oper} {v : Value} (hj : ops[j]? = some oj) (hap : oi.apart ops oj = true)
    (hsi : ∀ cs b, oi.op ≠ .select cs b) (hsj : ∀ cs b, oj.op ≠ .select cs b)
    (hQ : ∀ c a w, Q (.panic c) (a.put oi.dst v) w → Q (.panic c) a w) {K : Act → World → Prop} {a : Act} {w : World}
    (hy : YieldsS P S oi v a) (h : wpOp P ops Q j K (a.put oi.dst v) w) :
    wpOp P ops Q j (fun a' w' => YieldsS P S oi v a' ∧ K (a'.put oi.dst v) w') a w := by
  obtain ⟨h1, h2, h3⟩ := Oper.apart_spec hap
  have keep : ∀ (a : Act), YieldsS P S oi v a → ∀ u, YieldsS P S oi v (a.put oj.dst u) := fun a hy u => hy.of_same (execOp_put oi hsi a oj.dst u h3)
  have keepD : ∀ d, YieldsS P S oi v { a with defers := d :: a.defers } := fun d => hy.of_same rfl
  unfold wpOp at *
  simp only [hj] at *
  rw [wanted_put oj a oi.dst v h1] at h
  split
  · rename_i hw
    simp only [hw, if_true] at h
    rcases h with h | ⟨hasks, hlets⟩
    case inr => exact .inr ⟨by unfold Oper.asks at *; rw [execOp_put oj hsj a oi.dst v h1] at hasks; exact hasks, hlets⟩
    refine .inl ?_
    unfold Oper.wp at *
    rw [execOp_put oj hsj a oi.dst v h1] at h
    generalize (execOp a.eval oj).run P w = r at *
    cases r with
    | ok n w' =>
      cases n <;> simp only [Oper.upon] at h ⊢
      case value u => exact ⟨keep a hy u, by rw [← Act.put_comm a v u h2]; exact h⟩
      case skip => exact ⟨keep a hy _, by rw [← Act.put_comm a v undef h2]; exact h⟩
      case defer d =>
        refine ⟨keep _ (keepD d) _, ?_⟩
        rw [← Act.put_comm _ v undef h2, ← Act.put_defers]
        exact h
      case enter f args =>
        refine Calls.mono h fun e w'' he => ?_
        cases e with
        | returned u => exact ⟨keep a hy u, by rw [← Act.put_comm a v u h2]; exact he⟩
        | panicked c => exact hQ _ _ _ he
        | outgrown => exact he
      case row row args => exact Rows.mono h fun u w'' he => ⟨keep a hy u, by rw [← Act.put_comm a v u h2]; exact he⟩
    | halt x w' =>
      cases x <;> simp only [Oper.upon] at h ⊢
      case panic u => exact hQ _ _ _ h
  · rename_i hw
    simp only [hw] at h
    exact ⟨keep a hy _, by rw [← Act.put_comm a v undef h2]; exact h⟩

/-- Whatever order is picked from here on, and S holds behind every operation but number n. -/
def wpAnyN (P : Program) (md : Region.Mode) (ops : Array Oper) (Q : Exit → Act → World → Prop) (S : World → Prop) (n : Nat) : Nat → Array Bool → Act → World → Prop
  | 0, listed, a, w => Region.ready md ops listed = [] ∧ Q .normal a w
  | fuel + 1, listed, a, w =>
    (Region.ready md ops listed = [] → Q .normal a w) ∧
    ∀ i ∈ Region.ready md ops listed, wpOp P ops Q i (fun a' w' => (i ≠ n → S w') ∧ wpAnyN P md ops Q S n fuel (listed.setIfInBounds i true) a' w') a w

theorem wpAny_of_N {n : Nat} : ∀ (fuel : Nat) (listed : Array Bool) (a : Act) (w : World), wpAnyN P md ops Q S n fuel listed a w → wpAny P md ops Q fuel listed a w
  | 0, _, _, _, h => h
  | fuel + 1, _, _, _, h => ⟨h.1, fun i hi => wpOp_mono (fun a' w' h' => wpAny_of_N fuel _ a' w' h'.2) (h.2 i hi)⟩

theorem wpAnyN_first {n i : Nat} {oi : Oper} {v : Value} (hi : ops[i]? = some oi) (hg : oi.guard = none) (hsel : ∀ (j : Nat) (o : Oper) cs b, ops[j]? = some o → o.op ≠ .select cs b)
    (hQ : ∀ c a w, Q (.panic c) (a.put oi.dst v) w → Q (.panic c) a w) (hn : ∀ o, ops[n]? = some o → ∃ e ∈ o.after, Region.binds md e = true ∧ e.on = i) :
    ∀ (fuel : Nat) (listed : Array Bool) (a : Act) (w : World),
      (∀ j oj, ops[j]? = some oj → j ≠ i → listed.getD j true = false → (∀ e ∈ oj.after, Region.binds md e = true → e.on ≠ i) → oi.apart ops oj = true) →
      i ∈ Region.ready md ops listed → YieldsS P S oi v a → S w →
      wpAnyN P md ops Q S n fuel (listed.setIfInBounds i true) (a.put oi.dst v) w → wpAnyN P md ops Q S n (fuel + 1) listed a w := by
  intro fuel
  induction fuel with
  | zero =>
    intro listed a w _ hr hy hS H
    refine ⟨fun h => (by rw [h] at hr; cases hr), fun j hj => ?_⟩
    by_cases hji : j = i
    · subst hji; exact hy.wpOp hi hg hS ⟨fun _ => hS, H⟩
    · have := ready_mono hj hji
      rw [H.1] at this
      cases this
  | succ fuel ih =>
    intro listed a w hfree hr hy hS H
    refine ⟨fun h => (by rw [h] at hr; cases hr), fun j hj => ?_⟩
    by_cases hji : j = i
    · subst hji; exact hy.wpOp hi hg hS ⟨fun _ => hS, H⟩
    · have h1 := H.2 j (ready_mono hj hji)
      obtain ⟨hjun, oj, hoj, hall⟩ := mem_ready.1 hj
      have hnot : ∀ e ∈ oj.after, Region.binds md e = true → e.on ≠ i := fun e he hb heq => by
        have h1 := hall e he hb
        have h0 := (mem_ready.1 hr).1
        rw [heq] at h1
        rcases Nat.lt_or_ge i listed.size with h' | h'
        · simp [h'] at h0 h1; rw [h0] at h1; cases h1
        · simp [Array.getElem?_eq_none h'] at h1
      have hjn : j ≠ n := fun e => by
        subst e
        obtain ⟨e, he, hb, heq⟩ := hn oj hoj
        exact hnot e he hb heq
      have h2 := wpOp_putS hoj (hfree j oj hoj hji hjun hnot) (fun cs b => hsel i oi cs b hi) (fun cs b => hsel j oj cs b hoj) hQ hy h1
      have hfree' : ∀ k ok, ops[k]? = some ok → k ≠ i → (listed.setIfInBounds j true).getD k true = false →
          (∀ e ∈ ok.after, Region.binds md e = true → e.on ≠ i) → oi.apart ops ok = true := fun k ok hk hki hun hno => by
        refine hfree k ok hk hki ?_ hno
        by_cases hjk : j = k
        · subst hjk; exact hjun
        · rw [getD_set_ne true hjk] at hun; exact hun
      refine wpOp_mono (fun a' w' h3 => ⟨h3.2.1, ih (listed.setIfInBounds j true) a' w' hfree' (ready_mono hr (Ne.symm hji)) h3.1 (h3.2.1 hjn) ?_⟩) h2
      rw [Array.setIfInBounds_comm _ _ hji]
      exact h3.2.2

/-- what is asked of the text for taking number i first -/
def mayTake (md : Region.Mode) (ops : Array Oper) (n : Nat) (listed : Array Bool) (i : Nat) : Bool :=
  Region.noSelect ops && Region.free md ops listed i && (Region.ready md ops listed).contains i &&
  (match ops[n]? with | some o => o.after.any fun e => Region.binds md e && e.on == i | none => true) && (match ops[i]? with | some o => o.guard.isNone | none => false)

theorem wpAnyN_take (i : Nat) {n : Nat} {oi : Oper} {v : Value} {fuel : Nat} {listed : Array Bool} {a : Act} {w : World} (hm : mayTake md ops n listed i = true) (hi : ops[i]? = some oi)
    (hQ : ∀ c a w, Q (.panic c) (a.put oi.dst v) w → Q (.panic c) a w) (hS : S w) (hy : ∀ w, S w → stillRun P v w ((execOp a.eval oi).run P w))
    (h : wpAnyN P md ops Q S n fuel (listed.setIfInBounds i true) (a.put oi.dst v) w) : wpAnyN P md ops Q S n (fuel + 1) listed a w := by
  simp only [mayTake, Bool.and_eq_true, hi] at hm
  obtain ⟨⟨⟨⟨h1, h2⟩, h3⟩, h4⟩, h5⟩ := hm
  refine wpAnyN_first hi (by simpa using h5) (Region.noSelect_spec h1) hQ (fun o ho => ?_) fuel listed a w (Region.free_spec hi h2) (by simpa using h3) hy hS h
  rw [ho] at h4
  obtain ⟨e, he, hb⟩ := Array.any_eq_true'.1 h4
  simp only [Bool.and_eq_true, beq_iff_eq] at hb
  exact ⟨e, he, hb⟩

/-- the only one that may come up -/
theorem wpAnyN_one (i : Nat) {n : Nat} {o : Oper} {fuel : Nat} {listed : Array Bool} {a : Act} {w : World} (hr : Region.ready md ops listed = [i]) (hi : ops[i]? = some o) (hg : o.guard = none)
    (h : o.wp P a w (fun a' w' => (i ≠ n → S w') ∧ wpAnyN P md ops Q S n fuel (listed.setIfInBounds i true) a' w') Q) : wpAnyN P md ops Q S n (fuel + 1) listed a w := by
  refine ⟨fun h0 => (by rw [hr] at h0; cases h0), fun j hj => ?_⟩
  rw [hr] at hj
  obtain rfl : j = i := by simpa using hj
  unfold Go.wpOp
  simp only [hi]
  rw [if_pos (by simp [Region.wanted, hg])]
  exact .inl h

/-- the same, for a walk -/
theorem wpAnyN_run (i : Nat) {n : Nat} {o : Oper} {fuel : Nat} {listed : Array Bool} {a : Act} {w : World} (hr : Region.ready md ops listed = [i]) (hi : ops[i]? = some o) (hg : o.guard = none)
    (h : ∀ K : Act → World → Prop, (∀ a' w', (i ≠ n → S w') → wpAnyN P md ops Q S n fuel (listed.setIfInBounds i true) a' w' → K a' w') → o.wp P a w K Q) : wpAnyN P md ops Q S n (fuel + 1) listed a w :=
  wpAnyN_one i hr hi hg (h _ fun _ _ h1 h2 => ⟨h1, h2⟩)

theorem wpAnyN_done {n : Nat} {listed : Array Bool} {a : Act} {w : World} (hr : Region.ready md ops listed = []) (h : Q .normal a w) : ∀ fuel, wpAnyN P md ops Q S n fuel listed a w
  | 0 => ⟨hr, h⟩
  | _ + 1 => ⟨fun _ => h, by rw [hr]; simp⟩

theorem wp_region_N (S : World → Prop) (n : Nat) {id : Nat} {a : Act} {w : World} (hm : P.follows .mixedOrders = true)
    (h : wpAnyN P .any ops Q S n ops.size (Array.replicate ops.size false) a w.drew) : (Code.region id ops true).wp P Q a w :=
  wp_region_any hm (wpAny_of_N _ _ _ _ h)
end
end Garner
/-
  The walks of layer 1 (varint), the program's and the reference's.
-/
namespace Go.Proofs.Ytmddgimadlmacaa
open Go.RowKit Garner

theorem or128_all : ∀ b : Fin 256, b.val ||| 128 = b.val % 128 + 128 := by decide +kernel
theorem or128 (n : Nat) : bits .or .u8 ((n : Int) % 256) 128 = ((UInt8.ofNat (n % 128 + 128)).toNat : Int) := by
  have h := or128_all ⟨n % 256, by omega⟩
  simp only at h
  rw [ofNat_toNat (by omega), show ((n : Int) % 256) = ((n % 256 : Nat) : Int) by omega, show (128 : Int) = ((128 : Nat) : Int) by rfl, u8_or_nat _ _ (by omega) (by omega), h]
  omega

theorem vput_snoc (l : List Nat) (k : Nat) (h : k < l.length) : vput (l.take (k + 1)) = vput (l.take k) ++ put1 l[k] := by
  rw [List.take_succ_eq_append_getElem h, vput_append]; simp [vput_cons, vput_nil]

theorem ownB_snoc {w : World} {B : Nat} {v : Value} {l : List UInt8} {x : Int} {c : UInt8} (h : w.ownsRow B 5 1 v (l.length + 1) (l.map bv ++ [.int .u8 x])) (hx : x = (c.toNat : Int)) : OwnB w B v (l ++ [c]) := by
  subst hx; simpa [OwnB, bv] using h

set_option maxHeartbeats 1000000 in
theorem vPut (ns : List Nat) (A : Option Addr) (c B : Nat) (w : World) (hr : Row w B 1 A ns.length (ns.map u64v)) (hB : B ≤ w.heap.size) (hn : ∀ n ∈ ns, n < 18446744073709551616) (hl : ns.length ≤ 100000) :
    Calls Try.prog 48 #[.slice A ns.length c] w fun e w' => ∃ v, e = .returned v ∧ OwnB w' w.heap.size v (vput ns) ∧ Below w.heap.size w w' := by
  have hlen : ∀ k, k < ns.length → (vput (ns.take k)).length + (put1 (ns[k]?.getD 0)).length ≤ 10 * ns.length := by
    intro k hk
    have h1 := vput_len (ns.take (k + 1)) fun n hm => hn n (List.mem_of_mem_take hm)
    rw [vput_snoc ns k hk, List.length_append, List.length_take] at h1
    rw [List.getElem?_eq_getElem hk]
    simp only [Option.getD_some]; omega
  have Hlen := Lib.hid hlen; clear hlen
  have Hn := Lib.hid hn; clear hn
  go_enter Try.func48, Try.ntmps48
  go_wp2
  go_loopw [3, 8] (fun v i wr => ∃ k : Nat, k ≤ ns.length ∧ i = .int .i64 k ∧ OwnB wr w.heap.size v (vput (ns.take k)) ∧ Below w.heap.size w wr) (fun _ i _ => ns.length - (intOf i).toNat)
  case atStart => exact ⟨0, Nat.zero_le _, rfl, World.ownsRow_nil _ _ _ _, Below.refl _ _⟩
  case round =>
    obtain ⟨k, hk, rfl, hown, hbel⟩ := hrel
    obtain ⟨wo, rfl⟩ : ∃ wo : World, wo = wr := ⟨_, rfl⟩
    by_cases hlt : k < ns.length
    · obtain ⟨b, off, rfl, hb, hc⟩ := hr.at_ (k := k) hlt
      have hc1 : wo.cell? ⟨b, off + k, none⟩ = some (.int .u64 (ns[k] : Nat)) := by
        rw [(hbel.cell (p := ⟨b, off + k, none⟩) (by show b < _; omega)), hc k (by simpa using hlt)]; simp [u64v]
      have hnk : (ns[k] : Int) < 18446744073709551616 := by have := Hn.out _ (List.getElem_mem hlt); omega
      go_wp2
      go_loopw [3, 5] (fun v n wr' => ∃ (m : Nat) (pre : List UInt8), n = .int .u64 m ∧ (m : Int) < 18446744073709551616 ∧ OwnB wr' w.heap.size v pre ∧ pre ++ put1 m = vput (ns.take k) ++ put1 ns[k] ∧ Below w.heap.size w wr') (fun _ n _ => (intOf n).toNat)
      case atStart => exact ⟨_, _, rfl, hnk, hown, rfl, hbel⟩
      case round =>
        obtain ⟨m, pre, rfl, hm, hown', hpre, hbel'⟩ := hrel
        have hpl : pre.length + 1 ≤ 1000000 := by
          have h1 := congrArg List.length hpre
          have h2 := Hlen.out k hlt
          have h3 := put1_pos m
          rw [List.getElem?_eq_getElem hlt] at h2
          simp only [Option.getD_some, List.length_append] at h1 h2
          omega
        have Hpre := Lib.hid hpre; clear hpre
        have hB0 : w.heap.size ≤ wr.heap.size := hbel'.size
        by_cases h128 : (128 : Int) ≤ m
        · go_wp2_with (at_builtin; refine wpList_app _ rfl bytesE rfl rfl (hown'.alloc _) rfl (row_new wr _ [_]) (by simp [Value.oneCell']) ?_ (by simp; omega) ?_)
          · first | omega | (simp; omega)
          · intro v1 w1 hown1 _ hbel1 _
            go_wp2
            go_roundw
            case rel =>
              refine ⟨m / 128, pre ++ [UInt8.ofNat (m % 128 + 128)], by go_num, by omega, ownB_snoc hown1 (or128 m), ?_, (hbel'.alloc hB0 _).trans hbel1⟩
              rw [← Hpre.out, put1_big (n := m) (by omega)]; simp
            case measure => simp [intOf]; omega
        · go_wp2_with (at_builtin; refine wpList_app _ rfl bytesE rfl rfl (hown'.alloc _) rfl (row_new wr _ [_]) (by simp [Value.oneCell']) ?_ (by simp; omega) ?_)
          · first | omega | (simp; omega)
          · intro v1 w1 hown1 _ hbel1 _
            go_wp2
            go_roundw
            case rel =>
              refine ⟨k + 1, by omega, by go_num, ?_, (hbel'.alloc hB0 _).trans hbel1⟩
              rw [vput_snoc ns k hlt, ← Hpre.out, put1_small (n := m) (by omega)]
              exact ownB_snoc hown1 (by rw [ofNat_toNat (by omega)])
            case measure => simp [intOf]; omega
    · go_wp2
      go_ret
      obtain rfl : k = ns.length := by omega
      exact ⟨_, rfl, by simpa using hown, hbel⟩
end Go.Proofs.Ytmddgimadlmacaa
namespace Go.Proofs.Ytmddgimadlmacaa
open Go.RowKit Garner

def vgetV : Except Nat (Nat × Nat) → Value
  | .ok (n, k) => .tuple #[.int .u64 n, .int .i64 k, .int .i64 0]
  | .error e => .tuple #[.int .u64 0, .int .i64 0, .int .i64 e]

theorem or_step (acc k x : Nat) (hx : x < 256) (hacc : acc < 128 ^ k) (hfit : acc + x % 128 * 128 ^ k < 18446744073709551616) :
    bits .or .u64 (acc : Int) (IntKind.u64.wrap (IntKind.u64.wrap (bits .and .u8 (x : Int) 127) * 2 ^ (7 * k))) = ((acc + x % 128 * 128 ^ k : Nat) : Int) := by
  have e1 : bits .and .u8 (x : Int) 127 = ((x % 128 : Nat) : Int) := by
    rw [show (127 : Int) = ((127 : Nat) : Int) by rfl, u8_and_nat _ _ hx (by omega), show (127 : Nat) = 2 ^ 7 - 1 by rfl, Nat.and_two_pow_sub_one_eq_mod]
  have hp : (2 : Nat) ^ (7 * k) = 128 ^ k := by rw [Nat.pow_mul]
  have hp' : ((2 : Int) ^ (7 * k)) = ((128 ^ k : Nat) : Int) := by rw [← hp]; simp
  have hm : x % 128 * 128 ^ k % 2 ^ (7 * k) = 0 := by rw [hp]; exact Nat.mul_mod_left _ _
  rw [e1, IntWalk.u64_in ((x % 128 : Nat) : Int) ⟨by omega, by omega⟩, hp', ← Int.natCast_mul, IntWalk.u64_in _ ⟨by omega, by omega⟩, u64_or_nat _ _ (by omega) (by omega), Nat.or_comm, nat_join (7 * k) _ _ hm (by rw [hp]; exact hacc)]
  omega

theorem vgetAux_more {c : UInt8} {r : Bs} {i acc x : Nat} (hx : c.toNat = x) (h1 : ¬ (i = 9 ∧ 1 < x)) (h2 : ¬ x < 128) : vgetAux (c :: r) i acc = vgetAux r (i + 1) (acc + (x - 128) * 128 ^ i) := by
  subst hx; rw [vgetAux, if_neg h1, if_neg h2]
theorem vgetAux_done {c : UInt8} {r : Bs} {i acc x : Nat} (hx : c.toNat = x) (h1 : ¬ (i = 9 ∧ 1 < x)) (h2 : x < 128) (h3 : ¬ (x = 0 ∧ 0 < i)) : vgetAux (c :: r) i acc = .ok (acc + x * 128 ^ i, i + 1) := by
  subst hx; rw [vgetAux, if_neg h1, if_pos h2, if_neg h3]
theorem vgetAux_zero {c : UInt8} {r : Bs} {i acc x : Nat} (hx : c.toNat = x) (h2 : x = 0) (h3 : 0 < i) : vgetAux (c :: r) i acc = .error 6 := by
  subst hx; rw [vgetAux, if_neg (by omega), if_pos (by omega), if_pos ⟨h2, h3⟩]
theorem vgetAux_high {c : UInt8} {r : Bs} {i acc x : Nat} (hx : c.toNat = x) (h1 : i = 9 ∧ 1 < x) : vgetAux (c :: r) i acc = .error 6 := by
  subst hx; rw [vgetAux, if_pos h1]
theorem vget_of {l : Bs} {i0 k acc : Nat} {c : UInt8} {e : Except Nat (Nat × Nat)} (h : vgetAux (l.drop i0) 0 0 = vgetAux (l.drop (i0 + k)) k acc) (hk : i0 + k < l.length) (hc : l[i0 + k] = c)
    (h2 : vgetAux (c :: l.drop (i0 + k + 1)) k acc = e) : vgetAux (l.drop i0) 0 0 = e := by
  rw [h, List.drop_eq_getElem_cons hk, hc, h2]

set_option maxHeartbeats 1000000 in
set_option maxRecDepth 100000 in
theorem vGet (l : List UInt8) (A : Option Addr) (c B : Nat) (w : World) (i0 : Nat) (hr : Bytes w B A l.length l) (hc : l.length ≤ c) (hi0 : i0 ≤ l.length) (hl : l.length ≤ 140737488355328) :
    Calls Try.prog 56 #[.slice A l.length c, .int .i64 i0] w fun e w' => e = .returned (vgetV (vget l i0)) ∧ w = w' := by
  rcases Nat.lt_or_ge i0 l.length with hlt | hge
  · obtain ⟨b, off, rfl, hb, hcell⟩ := hr.at_ hlt
    go_enter Try.func56, Try.ntmps56
    go_wp2
    go_loop [7, 22] (fun v i => ∃ k acc : Nat, i = .int .i64 k ∧ v = .int .u64 acc ∧ k ≤ 9 ∧ i0 + k ≤ l.length ∧ acc < 128 ^ k ∧ vgetAux (l.drop i0) 0 0 = vgetAux (l.drop (i0 + k)) k acc) (fun _ i => l.length - i0 - (intOf i).toNat)
    case atStart => exact ⟨0, 0, rfl, rfl, by omega, by omega, by simp, rfl⟩
    case round =>
      obtain ⟨k, acc, rfl, rfl, hk9, hkl, hacc, hinv⟩ := hrel
      have Hinv := Lib.hid hinv; clear hinv
      have Hacc := Lib.hid hacc; clear hacc
      by_cases hk : i0 + k < l.length
      · have hc1 : w.cell? ⟨b, off + (i0 + k), none⟩ = some (.int .u8 (l[i0 + k].toNat : Nat)) := by
          have := hcell (i0 + k) (by simpa using hk); simpa [bv] using this
        have hc2 : w.cell? ⟨b, off + i0 + k, none⟩ = some (.int .u8 (l[i0 + k].toNat : Nat)) := by rw [Nat.add_assoc]; exact hc1
        have hlc := l[i0 + k].toNat_lt
        generalize hx : l[i0 + k].toNat = x at hc1 hc2 hlc
        have Hx := Lib.hid hx; clear hx hcell
        have hk2 : k < l.length - i0 := by omega
        have hp : 128 ^ k ≤ 9223372036854775808 := by
          have : (128 : Nat) ^ k ≤ 128 ^ 9 := Nat.pow_le_pow_right (by omega) hk9
          omega
        have Hp := Lib.hid hp; clear hp
        by_cases hhigh : (k : Int) = 9 ∧ 1 < (x : Int)
        · obtain ⟨h9, h1x⟩ := hhigh
          have e9 : ((k : Int) == 9) = true := beq_iff_eq.2 h9
          have H9 := Lib.hid h9; clear h9
          go_wp2
          go_ret3
          refine ⟨?_, rfl⟩
          unfold vget
          rw [vget_of Hinv.out hk rfl (vgetAux_high Hx.out ⟨by have := H9.out; omega, by omega⟩)]
          rfl
        · have hnh : ¬ (k = 9 ∧ 1 < x) := by omega
          have hfit : acc + x % 128 * 128 ^ k < 18446744073709551616 := by
            have h0 := Hacc.out
            have h1 : x % 128 * 128 ^ k ≤ 127 * 128 ^ k := Nat.mul_le_mul_right _ (by omega)
            rcases Nat.lt_or_ge k 9 with h | h
            · have : (128 : Nat) ^ k ≤ 128 ^ 8 := Nat.pow_le_pow_right (by omega) (by omega)
              omega
            · have h2 : x % 128 * 128 ^ k ≤ 1 * 128 ^ k := Nat.mul_le_mul_right _ (by omega)
              have := Hp.out
              omega
          have Hor := Lib.hid (or_step acc k x hlc Hacc.out hfit)
          have Hfit := Lib.hid hfit; clear hfit
          by_cases h128 : (x : Int) < 128
          · by_cases hz : (x : Int) = 0 ∧ 0 < (k : Int)
            · obtain ⟨hz1, hz2⟩ := hz
              have ez : ((x : Int) == 0) = true := beq_iff_eq.2 hz1
              have Hz1 := Lib.hid hz1; clear hz1
              have Hnh := Lib.hid hnh; clear hnh hhigh
              have h1x : ¬ 1 < (x : Int) := by have := Hz1.out; omega
              obtain ⟨b9, e9⟩ : ∃ q, ((k : Int) == 9) = q := ⟨_, rfl⟩
              cases b9
              all_goals
                go_wp2
                go_ret3
                refine ⟨?_, rfl⟩
                unfold vget
                rw [vget_of Hinv.out hk rfl (vgetAux_zero Hx.out (by have := Hz1.out; omega) (by omega))]
                rfl
            · have Hnz := Lib.hid hz; clear hz
              have Hnh := Lib.hid hnh; clear hnh
              have Hnhi := Lib.hid hhigh; clear hhigh
              obtain ⟨b9, e9⟩ : ∃ q, ((k : Int) == 9) = q := ⟨_, rfl⟩
              obtain ⟨b0, e0⟩ : ∃ q, ((x : Int) == 0) = q := ⟨_, rfl⟩
              have hfin : Ending.returned (Value.tuple #[Value.int .u64 (bits BinOp.or IntKind.u64 (acc : Int) (IntKind.u64.wrap (IntKind.u64.wrap (bits BinOp.and IntKind.u8 (x : Int) 127) * 2 ^ (7 * k)))), Value.int .i64 ((i0 : Int) + k + 1), Value.int .i64 0]) = Ending.returned (vgetV (vget l i0)) := by
                unfold vget
                rw [vget_of Hinv.out hk rfl (vgetAux_done Hx.out Hnh.out (by omega) (by have := Hnz.out; omega)), Hor.out, Nat.mod_eq_of_lt (show x < 128 by omega)]
                exact congrArg (fun z : Int => Ending.returned (Value.tuple #[.int .u64 ((acc + x * 128 ^ k : Nat) : Int), Value.int .i64 z, .int .i64 0])) (show (i0 : Int) + k + 1 = ((i0 + (k + 1) : Nat) : Int) by omega)
              have Hfin := Lib.hid hfin; clear hfin
              have Hle : Hid (b9 = true → ¬ 1 < (x : Int)) := fun h => by subst h; have := beq_iff_eq.1 e9; have := Hnhi.out; omega
              have Hkz : Hid (b0 = true → ¬ 0 < (k : Int)) := fun h => by subst h; have := beq_iff_eq.1 e0; have := Hnz.out; omega
              cases b9 <;> cases b0
              · go_wp2
                go_ret3
                exact ⟨Hfin.out, rfl⟩
              · have hkz := Hkz.out rfl
                go_wp2
                go_ret3
                exact ⟨Hfin.out, rfl⟩
              · have hle := Hle.out rfl
                go_wp2
                go_ret3
                exact ⟨Hfin.out, rfl⟩
              · exact absurd (beq_iff_eq.1 e9) (by have := Hkz.out rfl; omega)
          · have h1x : 1 < (x : Int) := by omega
            have h9 : ¬ ((k : Int) = 9) := by omega
            have e9 : ((k : Int) == 9) = false := beq_eq_false_iff_ne.2 h9
            have Hnh := Lib.hid hnh; clear hnh hhigh
            go_wp2
            go_round
            case rel =>
              refine ⟨k + 1, acc + x % 128 * 128 ^ k, by go_num, by rw [Hor.out], by omega, by omega, ?_, ?_⟩
              · have h0 := Hacc.out
                have h1 : x % 128 * 128 ^ k ≤ 127 * 128 ^ k := Nat.mul_le_mul_right _ (by omega)
                rw [Nat.pow_succ]; omega
              · rw [vget_of Hinv.out hk rfl (vgetAux_more Hx.out Hnh.out (by omega)), show x - 128 = x % 128 by omega, Nat.add_assoc]
            case measure => simp [intOf]; omega
      · have hk2 : ¬ (k < l.length - i0) := by omega
        clear hcell
        go_wp2
        go_ret3
        refine ⟨?_, rfl⟩
        unfold vget
        rw [Hinv.out, List.drop_eq_nil_of_le (by omega)]
        rfl
  · obtain rfl : i0 = l.length := by omega
    go_enter Try.func56, Try.ntmps56
    go_wp2
    all_goals
      refine wp_loop_rounds 1 ?_
      rw [rounds_succ]
      go_wp2
      go_ret3
      refine ⟨?_, rfl⟩
      unfold vget
      rw [List.drop_eq_nil_of_le (by omega)]
      rfl
end Go.Proofs.Ytmddgimadlmacaa
