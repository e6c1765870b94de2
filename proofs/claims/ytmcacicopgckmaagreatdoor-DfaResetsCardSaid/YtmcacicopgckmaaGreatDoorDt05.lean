import Derived.Test.YtmcacicopgckmaaGreatDoorDt02
import Derived.DeepKeys3
import Derived.WideKeyMaps
/-
  Maps as association lists, in the order in which the keys came: whatever the elements are.
-/
namespace Garner
open Go

section
variable {κ : Type} [DecidableEq κ] {ν : Type}
def aget (a : κ) : List (κ × ν) → Option ν
  | [] => none
  | (b, v) :: r => if a = b then some v else aget a r
def aput (a : κ) (v : ν) : List (κ × ν) → List (κ × ν)
  | [] => [(a, v)]
  | (b, u) :: r => if a = b then (b, v) :: r else (b, u) :: aput a v r
def adel (a : κ) : List (κ × ν) → List (κ × ν)
  | [] => []
  | (b, u) :: r => if a = b then r else (b, u) :: adel a r
/-- the place of a key, and what it has -/
def aidx (a : κ) : List (κ × ν) → Option (Nat × ν)
  | [] => none
  | (b, v) :: r => if a = b then some (0, v) else (aidx a r).map fun p => (p.1 + 1, p.2)
theorem aidx_get (a : κ) : ∀ l : List (κ × ν), (aidx a l).map (·.2) = aget a l
  | [] => rfl
  | (b, v) :: r => by
    unfold aidx aget
    split
    · rfl
    · rw [← aidx_get a r]; cases aidx a r <;> rfl
theorem aidx_none {a : κ} : ∀ {l : List (κ × ν)}, aidx a l = none → ∀ v, aput a v l = l ++ [(a, v)] ∧ adel a l = l
  | [], _, v => ⟨rfl, rfl⟩
  | (b, u) :: r, h, v => by
    unfold aidx at h
    split at h
    · cases h
    · rename_i hne
      have h' : aidx a r = none := by cases hh : aidx a r with
        | none => rfl
        | some p => rw [hh] at h; cases h
      obtain ⟨h1, h2⟩ := aidx_none h' v
      unfold aput adel
      rw [if_neg hne, if_neg hne, h1, h2]
      exact ⟨rfl, rfl⟩
theorem aidx_some {a : κ} : ∀ {l : List (κ × ν)} {j : Nat} {u : ν}, aidx a l = some (j, u) → l[j]? = some (a, u) ∧ (∀ v, aput a v l = l.set j (a, v)) ∧ adel a l = l.eraseIdx j
  | [], _, _, h => by cases h
  | (b, w) :: r, j, u, h => by
    unfold aidx at h
    split at h
    · rename_i he
      subst he
      injection h with h
      injection h with h1 h2
      subst h1; subst h2
      refine ⟨rfl, fun v => ?_, ?_⟩
      · unfold aput; rw [if_pos rfl]; rfl
      · unfold adel; rw [if_pos rfl]; rfl
    · rename_i hne
      cases hh : aidx a r with
      | none => rw [hh] at h; cases h
      | some p =>
        rw [hh] at h
        simp only [Option.map_some, Option.some.injEq, Prod.mk.injEq] at h
        obtain ⟨h1, h2⟩ := h
        subst h1; subst h2
        obtain ⟨g1, g2, g3⟩ := aidx_some (j := p.1) (u := p.2) hh
        refine ⟨by simpa using g1, fun v => ?_, ?_⟩
        · unfold aput; rw [if_neg hne, g2]; rfl
        · unfold adel; rw [if_neg hne, g3]; rfl
end

/-- Keys of a plain kind. -/
structure KeyKind (P : Program) (k : TypeId) {κ : Type} [DecidableEq κ] (key : κ → Value) : Prop where
  same : ∃ d, P.underlying k = some d ∧ ∀ a b, Instr.sameNow d (key a) (key b) = some (decide (a = b))
  check : ∀ e w a, (Instr.checkKey e 10000 k (key a)).run P w = .ok () w
  bits : ∀ a, Instr.sameBits 10000 (key a) (key a) = true

theorem eraseIdx_map' {α β : Type} (f : α → β) : ∀ (l : List α) (j : Nat), (l.map f).eraseIdx j = (l.eraseIdx j).map f
  | [], _ => rfl
  | _ :: _, 0 => rfl
  | x :: l, j + 1 => by simp only [List.map_cons, List.eraseIdx_cons_succ, eraseIdx_map' f l j]

def pairOf (e : MapEntry) : Value × Value := (e.key, e.val)

section
variable {κ : Type} {key : κ → Value}
/-- block b is a map that holds al -/
def MapIs (key : κ → Value) (w : World) (b : Nat) (al : List (κ × Value)) : Prop :=
  ∃ es clock, w.heap[b]? = some (.map es clock) ∧ es.toList.map pairOf = al.map (fun p => (key p.1, p.2)) ∧
    (es.toList.map (·.born)).Pairwise (· < ·) ∧ ∀ e ∈ es.toList, e.born < clock

theorem MapIs.lt {w : World} {b : Nat} {al : List (κ × Value)} (h : MapIs key w b al) : b < w.heap.size := by
  obtain ⟨es, clock, hb, _⟩ := h
  exact (Array.getElem?_eq_some_iff.1 hb).1
theorem MapIs.of_block {w w' : World} {b : Nat} {al : List (κ × Value)} (h : MapIs key w b al) (hb : w'.heap[b]? = w.heap[b]?) : MapIs key w' b al := by
  obtain ⟨es, clock, h1, h2⟩ := h
  exact ⟨es, clock, hb.trans h1, h2⟩
theorem MapIs.made (w : World) : MapIs key (w.alloc (.map #[] 0)) w.heap.size [] :=
  ⟨#[], 0, (MapKept.heap_alloc w _).1, rfl, by simp, by simp⟩
theorem MapIs.below {w w' : World} {B b : Nat} {al : List (κ × Value)} (h : MapIs key w b al) (hb : RowKit.Below B w w') (hlt : b < B) : MapIs key w' b al := h.of_block (hb.block b hlt)
theorem MapIs.alloc {w : World} {b : Nat} {al : List (κ × Value)} (h : MapIs key w b al) (o : Obj) : MapIs key (w.alloc o) b al := h.of_block (RowKit.Below.heap_alloc w o b h.lt)

end

section
variable {P : Program} {k : TypeId} {κ : Type} [DecidableEq κ] {key : κ → Value}

theorem findNow_of {d : TypeDesc} (hs : ∀ a b, Instr.sameNow d (key a) (key b) = some (decide (a = b))) (a : κ) :
    ∀ (L : List MapEntry) (al : List (κ × Value)) (i : Nat), L.map pairOf = al.map (fun p => (key p.1, p.2)) →
      Instr.findNow d (key a) L i = some ((aidx a al).map fun p => (i + p.1, p.2)) := by
  intro L
  induction L with
  | nil => intro al i h; cases al with
    | nil => rfl
    | cons p r => cases h
  | cons e L ih =>
    intro al i h
    cases al with
    | nil => cases h
    | cons p r =>
      obtain ⟨b, v⟩ := p
      simp only [List.map_cons, List.cons.injEq] at h
      obtain ⟨h1, h2⟩ := h
      have hk : e.key = key b := congrArg Prod.fst h1
      have hv : e.val = v := congrArg Prod.snd h1
      unfold Instr.findNow aidx
      rw [hk, hs]
      by_cases hab : a = b
      · simp [hab, hv]
      · simp only [hab, decide_false, if_false]
        rw [ih r (i + 1) h2]
        cases aidx a r with
        | none => rfl
        | some q => simp; omega

theorem run_look {t e : TypeId} (K : KeyKind P k key) (ht : P.underlying t = some (.map k e)) {w : World} {b : Nat} {al : List (κ × Value)} (h : MapIs key w b al)
    {z : Value} (hz : (zeroValue e).run P w = .ok z w) (a : κ) (ok : Bool) :
    (Instr.lookup t (.map (some b)) (key a) ok).run P w = .ok (if ok then .tuple #[(aget a al).getD z, .bool (aget a al).isSome] else (aget a al).getD z) w := by
  obtain ⟨es, clock, hb, hp, _⟩ := h
  obtain ⟨d, hd, hs⟩ := K.same
  have hf := findNow_of hs a es.toList al 0 hp
  have hg := aidx_get a al
  cases hi : aidx a al with
  | none =>
    rw [hi] at hf hg
    rw [← hg]
    simp [Instr.lookup, Instr.findKey, run_underlying ht, run_underlying hd, MapKept.run_getObj_map hb, K.check, hf, hz, Result.andThen]
  | some p =>
    rw [hi] at hf hg
    rw [← hg]
    simp [Instr.lookup, Instr.findKey, run_underlying ht, run_underlying hd, MapKept.run_getObj_map hb, K.check, hf, Result.andThen]

theorem run_put {t e : TypeId} (K : KeyKind P k key) (ht : P.underlying t = some (.map k e)) {w : World} {b : Nat} {al : List (κ × Value)} (h : MapIs key w b al) (a : κ) (v : Value) :
    ∃ w', (Instr.mapUpdate t (.map (some b)) (key a) v).run P w = .ok () w' ∧ MapIs key w' b (aput a v al) ∧ w.grownBy w' (some b) ∧ w'.heap.size = w.heap.size := by
  obtain ⟨es, clock, hb, hp, hinc, hlt⟩ := h
  obtain ⟨d, hd, hs⟩ := K.same
  have hf := findNow_of hs a es.toList al 0 hp
  have hbs : b < w.heap.size := (Array.getElem?_eq_some_iff.1 hb).1
  have fin : ∀ o : Obj, w.grownBy { w with heap := w.heap.setIfInBounds b o } (some b) := fun o =>
    ⟨rfl, rfl, rfl, by simp, fun i _ hi => by rw [Array.getElem?_setIfInBounds, if_neg (fun e => hi (by rw [e]))]⟩
  cases hi : aidx a al with
  | none =>
    rw [hi] at hf
    refine ⟨{ w with heap := w.heap.setIfInBounds b (.map (es.push { key := key a, val := v, born := clock }) (clock + 1)) }, ?_, ?_, fin _, by simp⟩
    · simp [Instr.mapUpdate, Instr.findKey, run_underlying ht, run_underlying hd, MapKept.run_getObj_map hb, K.check, hf, MapKept.run_setObj_map _ hb, Result.andThen]
    · refine ⟨es.push { key := key a, val := v, born := clock }, clock + 1, by simp [hbs], ?_, ?_, ?_⟩
      · rw [(aidx_none hi v).1]; simp [hp, pairOf]
      · simp only [Array.toList_push, List.map_append, List.map_cons, List.map_nil]
        rw [List.pairwise_append]
        refine ⟨hinc, by simp, ?_⟩
        intro x hx y hy
        obtain ⟨e0, he0, rfl⟩ := List.mem_map.1 hx
        simp at hy
        subst hy
        exact hlt e0 he0
      · intro e0 he0
        simp at he0
        rcases he0 with he0 | rfl
        · have := hlt e0 (by simpa using he0); omega
        · simp
  | some p =>
    obtain ⟨j, u⟩ := p
    rw [hi] at hf
    obtain ⟨g1, g2, _⟩ := aidx_some hi
    have hj : es.toList[j]?.map pairOf = some (key a, u) := by rw [← List.getElem?_map, hp, List.getElem?_map, g1]; rfl
    obtain ⟨e0, he0, he1⟩ : ∃ e0, es.toList[j]? = some e0 ∧ pairOf e0 = (key a, u) := by
      cases h0 : es.toList[j]? with
      | none => rw [h0] at hj; cases hj
      | some e0 => rw [h0] at hj; exact ⟨e0, rfl, by simpa using hj⟩
    have hk0 : e0.key = key a := congrArg Prod.fst he1
    have he0' : es[j]? = some e0 := by simpa using he0
    refine ⟨{ w with heap := w.heap.setIfInBounds b (.map (es.modify j fun e => { e with key := key a, val := v }) clock) }, ?_, ?_, fin _, by simp⟩
    · simp [Instr.mapUpdate, Instr.findKey, run_underlying ht, run_underlying hd, MapKept.run_getObj_map hb, K.check, hf, he0', hk0, Instr.keyThatStays, K.bits, MapKept.run_setObj_map _ hb, Result.andThen]
    · have hmod : (es.modify j fun e => { e with key := key a, val := v }).toList = es.toList.modify j fun e => { e with key := key a, val := v } := by simp
      refine ⟨es.modify j fun e => { e with key := key a, val := v }, clock, by simp [hbs], ?_, ?_, ?_⟩
      · rw [hmod, g2 v]
        apply List.ext_getElem?
        intro i
        have hpi := congrArg (fun l => l[i]?) hp
        simp only [List.getElem?_map] at hpi
        simp only [List.getElem?_map, List.getElem?_modify, List.getElem?_set]
        by_cases hij : j = i
        · subst hij
          have hjl : j < al.length := by
            rcases Nat.lt_or_ge j al.length with hl | hl
            · exact hl
            · rw [List.getElem?_eq_none hl] at g1; cases g1
          rw [he0, if_pos rfl, if_pos hjl]
          simp [pairOf]
        · rw [if_neg hij, ← hpi]
          cases es.toList[i]? <;> simp [hij]
      · rw [hmod]
        have : (es.toList.modify j fun e => { e with key := key a, val := v }).map (·.born) = es.toList.map (·.born) := by
          apply List.ext_getElem?
          intro i
          simp only [List.getElem?_map, List.getElem?_modify]
          by_cases hij : j = i
          · subst hij; rw [he0]; simp
          · cases es.toList[i]? <;> simp [hij]
        rw [this]; exact hinc
      · rw [hmod]
        intro e1 he1'
        obtain ⟨i, hi1⟩ := List.mem_iff_getElem?.1 he1'
        rw [List.getElem?_modify] at hi1
        by_cases hij : j = i
        · subst hij; rw [he0] at hi1; simp at hi1; subst hi1; exact hlt e0 (List.mem_of_getElem? he0)
        · cases hc : es.toList[i]? with
          | none => rw [hc] at hi1; cases hi1
          | some e2 => rw [hc] at hi1; simp [hij] at hi1; subst hi1; exact hlt e2 (List.mem_of_getElem? hc)

theorem run_del {t e : TypeId} (K : KeyKind P k key) (ht : P.underlying t = some (.map k e)) {w : World} {b : Nat} {al : List (κ × Value)} (h : MapIs key w b al) (a : κ) (ts : Array TypeId) (ty : TypeId) (hts : ts[0]? = some t) :
    ∃ w', (Builtin.delete_ ts ty #[.map (some b), key a]).run P w = .ok (.tuple #[]) w' ∧ MapIs key w' b (adel a al) ∧ w.grownBy w' (some b) ∧ w'.heap.size = w.heap.size := by
  obtain ⟨es, clock, hb, hp, hinc, hlt⟩ := h
  obtain ⟨d, hd, hs⟩ := K.same
  have hf := findNow_of hs a es.toList al 0 hp
  have hbs : b < w.heap.size := (Array.getElem?_eq_some_iff.1 hb).1
  have fin : ∀ o : Obj, w.grownBy { w with heap := w.heap.setIfInBounds b o } (some b) := fun o =>
    ⟨rfl, rfl, rfl, by simp, fun i _ hi => by rw [Array.getElem?_setIfInBounds, if_neg (fun e => hi (by rw [e]))]⟩
  cases hi : aidx a al with
  | none =>
    rw [hi] at hf
    refine ⟨{ w with heap := w.heap.setIfInBounds b (.map es clock) }, ?_, ?_, fin _, by simp⟩
    · simp [Builtin.delete_, hts, Instr.findKey, run_underlying ht, run_underlying hd, MapKept.run_getObj_map hb, K.check, hf, MapKept.run_setObj_map _ hb, Result.andThen]
    · refine ⟨es, clock, by simp [hbs], ?_, hinc, hlt⟩
      rw [(aidx_none hi (.bool true)).2]; exact hp
  | some p =>
    obtain ⟨j, u⟩ := p
    rw [hi] at hf
    obtain ⟨g1, _, g3⟩ := aidx_some hi
    refine ⟨{ w with heap := w.heap.setIfInBounds b (.map (es.eraseIdxIfInBounds j) clock) }, ?_, ?_, fin _, by simp⟩
    · simp [Builtin.delete_, hts, Instr.findKey, run_underlying ht, run_underlying hd, MapKept.run_getObj_map hb, K.check, hf, MapKept.run_setObj_map _ hb, Result.andThen]
    · have her : (es.eraseIdxIfInBounds j).toList = es.toList.eraseIdx j := by
        unfold Array.eraseIdxIfInBounds
        split
        · simp
        · rename_i hge
          rw [List.eraseIdx_of_length_le (by simpa using hge)]
      refine ⟨es.eraseIdxIfInBounds j, clock, by simp [hbs], ?_, ?_, ?_⟩
      · rw [her, g3, ← eraseIdx_map', ← eraseIdx_map', hp]
      · rw [her, ← eraseIdx_map']
        exact hinc.sublist (List.eraseIdx_sublist _ _)
      · rw [her]
        intro e0 he0
        exact hlt e0 (List.mem_of_mem_eraseIdx he0)
end

/-- int and string keys -/
theorem str_beq (a b : List UInt8) : ((⟨a.toArray⟩ : ByteArray) == ⟨b.toArray⟩) = decide (a = b) := by
  show (a.toArray == b.toArray) = _
  rw [Bool.eq_iff_iff]; simp
theorem check_int {P : Program} {k : TypeId} (hk : P.underlying k = some (.int .i64)) (n : Nat) (e : Bool) (w : World) (a : Int) : (Instr.checkKey e (n + 1) k (.int .i64 a)).run P w = .ok () w := by
  simp only [Instr.checkKey, Sem.run_bind, run_underlying hk, Result.andThen_ok]; rfl
theorem check_str {P : Program} {k : TypeId} (hk : P.underlying k = some .string) (n : Nat) (e : Bool) (w : World) (s : ByteArray) : (Instr.checkKey e (n + 1) k (.string s)).run P w = .ok () w := by
  simp only [Instr.checkKey, Sem.run_bind, run_underlying hk, Result.andThen_ok]; rfl
theorem bits_int (n : Nat) (a : Int) : Instr.sameBits n (.int .i64 a) (.int .i64 a) = true := by cases n <;> simp [Instr.sameBits]
theorem bits_str (n : Nat) (a : List UInt8) : Instr.sameBits n (.string ⟨a.toArray⟩) (.string ⟨a.toArray⟩) = true := by
  cases n <;> (simp only [Instr.sameBits, str_beq]; simp)
theorem intKeys {P : Program} {k : TypeId} (hk : P.underlying k = some (.int .i64)) : KeyKind P k (fun n : Int => Value.int .i64 n) :=
  ⟨⟨_, hk, fun a b => by simp [Instr.sameNow, Bool.beq_eq_decide_eq]⟩, fun e w a => check_int hk 9999 e w a, fun a => bits_int _ a⟩
theorem strKeys {P : Program} {k : TypeId} (hk : P.underlying k = some .string) : KeyKind P k (fun s : List UInt8 => Value.string ⟨s.toArray⟩) :=
  ⟨⟨_, hk, fun a b => by simp only [Instr.sameNow, str_beq]⟩, fun e w a => check_str hk 9999 e w _, fun a => bits_str _ a⟩
end Garner
/-
  Maps told by what they hold: whatever the keys are.
-/
namespace Garner
open Go
/-- Keys of which the model tells when two are the same. -/
structure FindLaw (P : Program) (k : TypeId) {κ : Type} (key : κ → Value) : Prop where
  inj : ∀ a b, key a = key b → a = b
  check : ∀ e w a, (Instr.checkKey e 10000 k (key a)).run P w = .ok () w
  find : ∀ (w : World) (a : κ) (es : List MapEntry), (∀ e ∈ es, ∃ b, e.key = key b) →
    ((Instr.findKey k (key a) es).run P w = .ok none w ∧ ∀ e ∈ es, e.key ≠ key a) ∨ ∃ j e, (Instr.findKey k (key a) es).run P w = .ok (some (j, e.val)) w ∧ es[j]? = some e ∧ e.key = key a
  stays : ∀ (w : World) a, (Instr.keyThatStays (key a) (key a)).run P w = .ok (key a) w
theorem FindLaw.of_law {P : Program} {k : TypeId} {κ : Type} {key : κ → Value} (h : WideMaps.KeyLaw P k) (hi : ∀ a b, key a = key b → a = b) (hk : ∀ a, ∃ l, keyOf P k (key a) = some l) : FindLaw P k key where
  inj := hi
  check := fun e w a => (hk a).elim fun _ hl => h.check w e hl
  find := fun w a es hes => (hk a).elim fun _ hl => h.find w hl es fun e he => by
    obtain ⟨b, hb⟩ := hes e he
    rw [hb]; exact hk b
  stays := fun w a => (hk a).elim fun _ hl => h.stays w hl
theorem FindLaw.of_kind {P : Program} {k : TypeId} {κ : Type} [DecidableEq κ] {key : κ → Value} (K : KeyKind P k key) (hi : ∀ a b, key a = key b → a = b) : FindLaw P k key where
  inj := hi
  check := K.check
  find := fun w a es => by
    obtain ⟨d, hd, hs⟩ := K.same
    intro hes
    have hf : ∀ (L : List MapEntry) (i : Nat), (∀ e ∈ L, ∃ b, e.key = key b) → (Instr.findNow d (key a) L i = some none ∧ ∀ e ∈ L, e.key ≠ key a) ∨ ∃ j e, Instr.findNow d (key a) L i = some (some (i + j, e.val)) ∧ L[j]? = some e ∧ e.key = key a := by
      intro L
      induction L with
      | nil => intro i _; exact .inl ⟨rfl, by simp⟩
      | cons e L ih =>
        intro i hL
        obtain ⟨b, hb⟩ := hL e (by simp)
        unfold Instr.findNow
        rw [hb, hs]
        by_cases hab : a = b
        · right
          exact ⟨0, e, by simp [hab], rfl, by rw [hb, hab]⟩
        · rcases ih (i + 1) (fun x hx => hL x (by simp [hx])) with ⟨h1, h2⟩ | ⟨j, e', h1, h2, h3⟩
          · left
            refine ⟨by simp only [hab, decide_false]; exact h1, fun x hx => ?_⟩
            rcases List.mem_cons.1 hx with rfl | hx
            · rw [hb]; exact fun e => hab (hi _ _ e).symm
            · exact h2 x hx
          · right
            refine ⟨j + 1, e', by simp only [hab, decide_false]; rw [h1, show i + 1 + j = i + (j + 1) by omega], by simpa using h2, h3⟩
    rcases hf es 0 hes with ⟨h1, h2⟩ | ⟨j, e, h1, h2, h3⟩
    · exact .inl ⟨by simp [Instr.findKey, run_underlying hd, h1, Result.andThen], h2⟩
    · exact .inr ⟨j, e, by simp [Instr.findKey, run_underlying hd, h1, Result.andThen], h2, h3⟩
  stays := fun w a => by simp [Instr.keyThatStays, K.bits]
/-- block b is a map of n entries that holds f -/
def MapF {κ : Type} (key : κ → Value) (w : World) (b : Nat) (n : Nat) (f : κ → Option Value) : Prop :=
  ∃ es clock, w.heap[b]? = some (.map es clock) ∧ es.size = n ∧ (∀ e ∈ es.toList, ∃ a, e.key = key a) ∧ (es.toList.map (·.key)).Nodup ∧ ∀ a v, f a = some v ↔ ∃ e ∈ es.toList, e.key = key a ∧ e.val = v
section
variable {κ : Type} {key : κ → Value} {w w' : World} {b n : Nat} {f : κ → Option Value}
theorem MapF.lt (h : MapF key w b n f) : b < w.heap.size := by
  obtain ⟨es, clock, hb, _⟩ := h
  exact (Array.getElem?_eq_some_iff.1 hb).1
theorem MapF.of_block (h : MapF key w b n f) (hb : w'.heap[b]? = w.heap[b]?) : MapF key w' b n f := by
  obtain ⟨es, clock, h1, h2⟩ := h
  exact ⟨es, clock, hb.trans h1, h2⟩
theorem MapF.made (w : World) : MapF key (w.alloc (.map #[] 0)) w.heap.size 0 (fun _ => none) :=
  ⟨#[], 0, (MapKept.heap_alloc w _).1, rfl, by simp, by simp, by simp⟩
theorem MapF.below (h : MapF key w b n f) (hb : RowKit.Below w.heap.size w w') : MapF key w' b n f := h.of_block (hb.block b h.lt)
theorem nodup_key {L : List MapEntry} (hn : (L.map (·.key)).Nodup) {e e' : MapEntry} (h : e ∈ L) (h' : e' ∈ L) (hk : e.key = e'.key) : e = e' := by
  induction L with
  | nil => cases h
  | cons x L ih =>
    rw [List.map_cons, List.nodup_cons] at hn
    rcases List.mem_cons.1 h with rfl | h
    · rcases List.mem_cons.1 h' with rfl | h'
      · rfl
      · exact absurd (List.mem_map.2 ⟨e', h', hk.symm⟩) hn.1
    · rcases List.mem_cons.1 h' with e1 | h'
      · rw [e1] at hk
        exact absurd (List.mem_map.2 ⟨e, h, hk⟩) hn.1
      · exact ih hn.2 h h'
variable {P : Program} {k : TypeId}
theorem run_lookF {t e : TypeId} (K : FindLaw P k key) (ht : P.underlying t = some (.map k e)) (h : MapF key w b n f)
    {z : Value} (hz : (zeroValue e).run P w = .ok z w) (a : κ) (ok : Bool) :
    (Instr.lookup t (.map (some b)) (key a) ok).run P w = .ok (if ok then .tuple #[(f a).getD z, .bool (f a).isSome] else (f a).getD z) w := by
  obtain ⟨es, clock, hb, hn, hall, hnd, hf⟩ := h
  rcases K.find w a es.toList hall with ⟨h1, h2⟩ | ⟨j, e, h1, h2, h3⟩
  · have hfa : f a = none := by
      cases hfa : f a with
      | none => rfl
      | some v =>
        obtain ⟨e, he, hk, -⟩ := (hf a v).1 hfa
        exact absurd hk (h2 e he)
    rw [hfa]
    simp [Instr.lookup, run_underlying ht, MapKept.run_getObj_map hb, K.check, h1, hz, Result.andThen]
  · have hfa : f a = some e.val := (hf a _).2 ⟨e, List.mem_of_getElem? h2, h3, rfl⟩
    rw [hfa]
    simp [Instr.lookup, run_underlying ht, MapKept.run_getObj_map hb, K.check, h1, Result.andThen]
theorem run_putF [DecidableEq κ] {t e : TypeId} (K : FindLaw P k key) (ht : P.underlying t = some (.map k e)) (h : MapF key w b n f) (a : κ) (v : Value) :
    ∃ w' n', (Instr.mapUpdate t (.map (some b)) (key a) v).run P w = .ok () w' ∧ MapF key w' b n' (fun x => if x = a then some v else f x) ∧ n' ≤ n + 1 ∧ w.grownBy w' (some b) ∧ w'.heap.size = w.heap.size := by
  obtain ⟨es, clock, hb, hn, hall, hnd, hf⟩ := h
  have hbs : b < w.heap.size := (Array.getElem?_eq_some_iff.1 hb).1
  have fin : ∀ o : Obj, w.grownBy { w with heap := w.heap.setIfInBounds b o } (some b) := fun o =>
    ⟨rfl, rfl, rfl, by simp, fun i _ hi => by rw [Array.getElem?_setIfInBounds, if_neg (fun e => hi (by rw [e]))]⟩
  rcases K.find w a es.toList hall with ⟨h1, h2⟩ | ⟨j, e0, h1, h2, h3⟩
  · refine ⟨{ w with heap := w.heap.setIfInBounds b (.map (es.push { key := key a, val := v, born := clock }) (clock + 1)) }, n + 1, ?_, ?_, Nat.le_refl _, fin _, by simp⟩
    · simp [Instr.mapUpdate, run_underlying ht, MapKept.run_getObj_map hb, K.check, h1, MapKept.run_setObj_map _ hb, Result.andThen]
    · refine ⟨es.push { key := key a, val := v, born := clock }, clock + 1, by simp [hbs], by simp [hn], ?_, ?_, ?_⟩
      · intro e he
        simp at he
        rcases he with he | rfl
        · exact hall e (by simpa using he)
        · exact ⟨a, rfl⟩
      · simp only [Array.toList_push, List.map_append, List.map_cons, List.map_nil]
        rw [List.nodup_append]
        refine ⟨hnd, by simp, fun x hx y hy => ?_⟩
        simp at hy
        subst hy
        obtain ⟨e, he, rfl⟩ := List.mem_map.1 hx
        exact h2 e he
      · intro x u
        simp only [Array.toList_push, List.mem_append, List.mem_singleton]
        by_cases hx : x = a
        · subst hx
          rw [if_pos rfl]
          constructor
          · rintro h; injection h with h; exact ⟨_, .inr rfl, rfl, h⟩
          · rintro ⟨e, he | rfl, hk, hv⟩
            · exact absurd hk (h2 e he)
            · rw [← hv]
        · rw [if_neg hx, hf]
          constructor
          · rintro ⟨e, he, hk⟩; exact ⟨e, .inl he, hk⟩
          · rintro ⟨e, he | rfl, hk, hv⟩
            · exact ⟨e, he, hk, hv⟩
            · exact absurd (K.inj _ _ hk).symm hx
  · have hk0 : e0.key = key a := h3
    have h2' : es[j]? = some e0 := by simpa using h2
    have hjl : j < es.size := (Array.getElem?_eq_some_iff.1 h2').1
    refine ⟨{ w with heap := w.heap.setIfInBounds b (.map (es.modify j fun e => { e with key := key a, val := v }) clock) }, n, ?_, ?_, Nat.le_succ _, fin _, by simp⟩
    · simp [Instr.mapUpdate, run_underlying ht, MapKept.run_getObj_map hb, K.check, h1, h2', hk0, K.stays, MapKept.run_setObj_map _ hb, Result.andThen]
    · have hmod : (es.modify j fun e => { e with key := key a, val := v }).toList = es.toList.modify j fun e => { e with key := key a, val := v } := by simp
      have hkeys : (es.toList.modify j fun e => { e with key := key a, val := v }).map (·.key) = es.toList.map (·.key) := by
        apply List.ext_getElem?
        intro i
        simp only [List.getElem?_map, List.getElem?_modify]
        by_cases hij : j = i
        · subst hij; rw [h2]; simp [hk0]
        · cases es.toList[i]? <;> simp [hij]
      have hmem : ∀ e, e ∈ es.toList.modify j (fun e => { e with key := key a, val := v }) ↔ (e = { e0 with key := key a, val := v } ∨ (e ∈ es.toList ∧ e.key ≠ key a)) := by
        intro e
        constructor
        · intro he
          obtain ⟨i, hi⟩ := List.mem_iff_getElem?.1 he
          rw [List.getElem?_modify] at hi
          by_cases hij : j = i
          · subst hij; rw [h2] at hi; simp at hi; exact .inl hi.symm
          · cases hc : es.toList[i]? with
            | none => rw [hc] at hi; cases hi
            | some e2 =>
              rw [hc] at hi
              simp [hij] at hi
              subst hi
              refine .inr ⟨List.mem_of_getElem? hc, fun hke => hij ?_⟩
              have hi2 := (List.getElem?_eq_some_iff.1 hc)
              have hj2 := (List.getElem?_eq_some_iff.1 h2)
              have h5 := (List.nodup_iff_pairwise_ne.1 hnd)
              by_cases hlt : j < i
              · exact absurd (by rw [List.getElem_map, List.getElem_map, hi2.2, hj2.2, hke, hk0]) (List.pairwise_iff_getElem.1 h5 j i (by simpa using hj2.1) (by simpa using hi2.1) hlt)
              · exact absurd (by rw [List.getElem_map, List.getElem_map, hi2.2, hj2.2, hke, hk0]) (List.pairwise_iff_getElem.1 h5 i j (by simpa using hi2.1) (by simpa using hj2.1) (by omega))
        · rintro (rfl | ⟨he, hke⟩)
          · exact List.mem_iff_getElem?.2 ⟨j, by rw [List.getElem?_modify, h2]; simp⟩
          · obtain ⟨i, hi⟩ := List.mem_iff_getElem?.1 he
            have hij : j ≠ i := by rintro rfl; rw [h2] at hi; injection hi with hi; subst hi; exact hke hk0
            exact List.mem_iff_getElem?.2 ⟨i, by rw [List.getElem?_modify, hi]; simp [hij]⟩
      refine ⟨es.modify j fun e => { e with key := key a, val := v }, clock, by simp [hbs], by simp [hn], ?_, by rw [hmod, hkeys]; exact hnd, ?_⟩
      · intro e he
        rw [hmod] at he
        rcases (hmem e).1 he with rfl | ⟨he, -⟩
        · exact ⟨a, rfl⟩
        · exact hall e he
      · intro x u
        rw [hmod]
        dsimp only
        by_cases hx : x = a
        · subst hx
          rw [if_pos rfl]
          constructor
          · rintro h; injection h with h; exact ⟨_, (hmem _).2 (.inl rfl), rfl, h⟩
          · rintro ⟨e, he, hk, hv⟩
            rcases (hmem e).1 he with rfl | ⟨-, hne⟩
            · rw [← hv]
            · exact absurd hk hne
        · rw [if_neg hx, hf]
          constructor
          · rintro ⟨e, he, hk, hv⟩
            exact ⟨e, (hmem e).2 (.inr ⟨he, fun h => hx (K.inj _ _ (hk.symm.trans h))⟩), hk, hv⟩
          · rintro ⟨e, he, hk, hv⟩
            rcases (hmem e).1 he with rfl | ⟨he, -⟩
            · exact absurd (K.inj _ _ hk).symm hx
            · exact ⟨e, he, hk, hv⟩
end
end Garner
