import Derived.Test.YtmddgimadlmacaaMf26
import Derived.Test.YtmddgimadlmacaaMf23
namespace Go.Proofs.Ytmddgimadlmacaa
open Go.RowKit Garner

theorem rfE : Elem Try.prog 75 107 (.agg #[.string .empty, .slice none 0 0, .int .i64 0]) 3 48 := ⟨Try.underlying75, by kernel_rfl, rfl, by omega, by omega⟩
theorem rf_one (l : Files) : ∀ u ∈ rfCells l, u.oneCell' = true := by
  intro u hu
  obtain ⟨p, _, hp⟩ := List.mem_flatMap.1 hu
  simp only [rfV, List.mem_cons, List.not_mem_nil, or_false] at hp
  rcases hp with rfl | rfl | rfl <;> rfl
theorem rfCells_app (a b : Files) : rfCells (a ++ b) = rfCells a ++ rfCells b := by unfold rfCells; rw [List.flatMap_append]
theorem rfCells_far (l : Files) : ∀ (i : Nat) (b : UInt8), (rfCells l)[i]? ≠ some (bv b) := by
  intro i b h
  obtain ⟨p, _, hp⟩ := List.mem_flatMap.1 (List.mem_of_getElem? h)
  simp [rfV, bv] at hp
/-- a part of a row of files -/
theorem rf_cut {w : World} {B b off : Nat} {l : Files} {A : Option Addr} (h : Row w B 3 A l.length (rfCells l)) (e : A = some ⟨b, off, none⟩) (lo hi : Nat) (h1 : lo ≤ hi) (h2 : hi ≤ l.length) : Row w B 3 (some ⟨b, off + lo * 3, none⟩) (hi - lo) (rfCells ((l.drop lo).take (hi - lo))) := by
  have hlen : ((l.drop lo).take (hi - lo)).length = hi - lo := by rw [List.length_take, List.length_drop]; omega
  refine ⟨by rw [rfCells_len, hlen], fun hn => ?_⟩
  obtain ⟨b', off', e', hb, hc⟩ := h.2 (by omega)
  rw [e] at e'
  simp only [Option.some.injEq, Addr.mk.injEq, and_true] at e'
  obtain ⟨rfl, rfl⟩ := e'
  refine ⟨b, off + lo * 3, rfl, hb, fun j u hu => ?_⟩
  rw [Nat.add_assoc]
  refine hc _ u ?_
  have hj : j < (rfCells ((l.drop lo).take (hi - lo))).length := by
    rcases Nat.lt_or_ge j (rfCells ((l.drop lo).take (hi - lo))).length with h | h
    · exact h
    · rw [List.getElem?_eq_none h] at hu; cases hu
  have hsplit : l = l.take lo ++ ((l.drop lo).take (hi - lo) ++ (l.drop lo).drop (hi - lo)) := by rw [List.take_append_drop, List.take_append_drop]
  have hl : (rfCells (l.take lo)).length = lo * 3 := by rw [rfCells_len, List.length_take]; omega
  rw [hsplit, rfCells_app, List.getElem?_append_right (by omega), hl, show lo * 3 + j - lo * 3 = j by omega, rfCells_app, List.getElem?_append_left hj]
  exact hu
/-- the document's disk lies at g, its files' row at fb -/
structure RefIs (O : Nat → Prop) (w : World) (g fb : Nat) (rs : Files) (fl dn : Bool) (left : Int) : Prop where
  own : ∃ A c, Blk w g 77 (refV (.slice A rs.length c) fl dn left) ∧ w.ownsRow 0 107 3 (.slice A rs.length c) rs.length (rfCells rs) ∧ (∀ q, (Value.slice A rs.length c).ownBlock = some q → q = fb)
  files : ∀ p ∈ rs, FileOk O w p.2
  asc : Asc rs
  lo : -1 ≤ left
  hi : left ≤ 9223372036854775807
  nb : NB w fb
  lt : fb < w.heap.size
theorem RefIs.ex {O : Nat → Prop} {w : World} {g fb : Nat} {rs : Files} {fl dn : Bool} {left : Int} (h : RefIs O w g fb rs fl dn left) :
    ∃ A c, Blk w g 77 (refV (.slice A rs.length c) fl dn left) ∧ Row w w.heap.size 3 A rs.length (rfCells rs) ∧ rs.length ≤ c ∧ ((A = none ∧ rs.length = 0 ∧ c = 0) ∨ A = some ⟨fb, 0, none⟩) := by
  obtain ⟨A, c, h1, h2, h3⟩ := h.own
  refine ⟨A, c, h1, Row.of_own h2, ?_, ?_⟩
  · rcases h2.2 with ⟨e, h0⟩ | ⟨q, cap, cur, e, _, _, hc, _⟩
    · rw [h0]; exact Nat.zero_le _
    · injection e with _ _ e; omega
  · rcases h2.2 with ⟨e, h0⟩ | ⟨q, cap, cur, e, _, _, hc, _⟩
    · injection e with e1 _ e3
      exact Or.inl ⟨e1, h0, e3⟩
    · injection e with e1 _ _
      subst e1
      rw [h3 q rfl]
      exact Or.inr rfl
end Go.Proofs.Ytmddgimadlmacaa
namespace Go.Proofs.Ytmddgimadlmacaa
open Go.RowKit Garner

theorem rfCells_take (l : Files) (i : Nat) : rfCells ((l.drop 0).take (i - 0)) = rfCells (l.take i) := by simp
theorem ref_ne {O : Nat → Prop} {w : World} {e : FileE} (h : FileOk O w e) {q : Nat} {t : TypeId} {cs : List Value} (hk : Blk w q t cs) (hne : ∀ (i : Nat) (c : UInt8), cs[i]? ≠ some (bv c)) : FileOk (fun b => O b ∧ b ≠ q) w e := h.far hk hne
theorem refV_far (F : Value) (hF : ∀ c, F ≠ bv c) (fl dn : Bool) (left : Int) : ∀ (i : Nat) (b : UInt8), (refV F fl dn left)[i]? ≠ some (bv b) := by
  intro i b h
  rcases i with _ | _ | _ | _ | i
  · exact hF b (by simpa using h)
  all_goals simp [bv] at h
/-- what a write into the disk's own box leaves -/
theorem files_but {O : Nat → Prop} {w w' : World} {g : Nat} {rs : Files} {A : Option Addr} {n c : Nat} {fl dn : Bool} {left : Int} (h : ∀ p ∈ rs, FileOk O w p.2) (hk : Blk w g 77 (refV (.slice A n c) fl dn left)) (hb : But [g] w w') : ∀ p ∈ rs, FileOk O w' p.2 :=
  fun p hp => (((h p hp).far hk (refV_far _ (by simp [bv]) _ _ _)).but hb (fun b hb' _ => by simp only [List.mem_cons, List.not_mem_nil, or_false]; exact hb'.2)).mono (fun b hb' => hb'.1)
/-- what a slice expression leaves of a row of files -/
def upFrom (A : Option Addr) (n c k : Nat) : Value := if c = k then .slice A (n - k) (c - k) else match A with
  | some ⟨b, off, i⟩ => .slice (some ⟨b, off + k * 3, i⟩) (n - k) (c - k)
  | none => .slice none (n - k) (c - k)
/-- the box written: the files' row is another one -/
theorem RefIs.newRow {O : Nat → Prop} {w w' : World} {g : Nat} {rs' : Files} {F : Value} {fl dn : Bool} {left : Int} {B : Nat} {v : Value}
    (hfiles : ∀ p ∈ rs', FileOk O w p.2) (hk : Blk w g 77 (refV F fl dn left)) (hown : w.ownsRow B 107 3 v rs'.length (rfCells rs')) (hF : ∀ c, F ≠ bv c) (hasc : Asc rs') (h1 : -1 ≤ left) (h2 : left ≤ 9223372036854775807)
    (hw : w' = w.setCell ⟨g, 0, none⟩ v) : ∃ fb, RefIs O w' g fb rs' fl dn left ∧ (fb = g ∨ B ≤ fb) := by
  subst hw
  obtain ⟨A, c, rfl, _⟩ := own_form hown
  have hb : But [g] w (w.setCell ⟨g, 0, none⟩ (.slice A rs'.length c)) := (But.refl _ _).setCell (by simp) _
  have hne : g ∉ (Value.slice A rs'.length c).ownBlock.toList := own_blk hown hk (by decide)
  have hown' := own_but hown hb (fun q hq hm => by simp only [List.mem_cons, List.not_mem_nil, or_false] at hm; subst hm; exact hne (by rw [hq]; simp))
  have hk' : Blk (w.setCell ⟨g, 0, none⟩ (.slice A rs'.length c)) g 77 (refV (.slice A rs'.length c) fl dn left) := hk.set_ 0 _
  have hfiles' : ∀ p ∈ rs', FileOk O (w.setCell ⟨g, 0, none⟩ (.slice A rs'.length c)) p.2 := fun p hp =>
    (((hfiles p hp).far hk (refV_far _ hF _ _ _)).but hb (fun b hb' _ => by simp only [List.mem_cons, List.not_mem_nil, or_false]; exact hb'.2)).mono (fun b hb' => hb'.1)
  rcases hown.2 with ⟨e, h0⟩ | ⟨q, cap, cur, e, hB, hq, _⟩
  · injection e with e1 e2 e3
    subst e1
    exact ⟨g, ⟨⟨none, c, hk', own_mono hown' (Nat.zero_le _), fun q hq => by simp [Value.ownBlock] at hq⟩, hfiles', hasc, h1, h2, NB.blk hk' (by decide), hk'.lt⟩, Or.inl rfl⟩
  · injection e with e1 e2 e3
    subst e1
    exact ⟨q, ⟨⟨_, c, hk', own_mono hown' (Nat.zero_le _), fun q' hq' => by simpa [Value.ownBlock] using hq'.symm⟩, hfiles', hasc, h1, h2, NB.own hown' (by decide) q (by simp [Value.ownBlock]), (hown'.lt q (by simp [Value.ownBlock])).2⟩, Or.inr hB⟩
theorem FileOk.below {O : Nat → Prop} {w w' : World} {e : FileE} (h : FileOk O w e) (hb : Below w.heap.size w w') : FileOk O w' e := h.but (S := []) (But.of_below hb) (by simp)
theorem asc_take_drop {ν : Type} {l : List (Bs × ν)} (h : Asc l) (i : Nat) : Asc (l.take i ++ l.drop (i + 1)) := by
  refine h.sublist ?_
  conv => rhs; rw [← List.take_append_drop i l]
  refine (List.Sublist.refl _).append ?_
  rw [← List.drop_drop]
  exact List.drop_sublist _ _
/-- what an append onto a row of files leaves of the files -/
theorem FileOk.grownR {O : Nat → Prop} {w w' : World} {e : FileE} (h : FileOk O w e) {v : Value} (hg : w.grownBy w' v.ownBlock) (hv : ∀ b, O b → b < w.heap.size → b ∉ v.ownBlock.toList) : FileOk O w' e :=
  h.but (But.grown (S := v.ownBlock.toList) hg (fun q hq => by rw [hq]; simp)) hv
set_option maxRecDepth 100000 in
set_option maxHeartbeats 4000000 in
theorem rTake (i g fb : Nat) (rs : Files) (fl dn : Bool) (left : Int) (O : Nat → Prop) (w : World) (h : RefIs O w g fb rs fl dn left) (hi : i < rs.length) (hl : rs.length * 48 ≤ 140737488355328) :
    Calls Try.prog 85 #[.pointer (some ⟨g, 0, none⟩), .int .i64 i] w fun e w' => e = .returned (.tuple #[]) ∧ ∃ fb', RefIs O w' g fb' (rs.take i ++ rs.drop (i + 1)) fl dn left ∧ (fb' = g ∨ w.heap.size ≤ fb') ∧ But [g] w w' := by
  obtain ⟨A, c, hd, hr, hc, hA⟩ := h.ex
  obtain rfl : A = some ⟨fb, 0, none⟩ := by
    rcases hA with ⟨_, h0, _⟩ | h
    · omega
    · exact h
  have c0 : w.cell? ⟨g, 0, none⟩ = some (.slice (some ⟨fb, 0, none⟩) rs.length c) := hd.cell 0
  have hcut1 := rf_cut hr rfl 0 i (by omega) (by omega)
  rw [rfCells_take] at hcut1
  have hcut2 := rf_cut hr rfl (i + 1) rs.length (by omega) (Nat.le_refl _)
  rw [List.take_of_length_le (by rw [List.length_drop]; exact Nat.le_refl _)] at hcut2
  simp only [Nat.zero_add, Nat.zero_mul, Nat.sub_zero] at hcut1 hcut2
  have hgl := hd.lt
  have hlo := h.lo; have hhi := h.hi
  have hf0 : ∀ p ∈ rs, FileOk (fun b => O b ∧ b < w.heap.size) w p.2 := fun p hp => (h.files p hp).lt
  have hasc := Lib.hid (asc_take_drop h.asc i)
  have hil : (rs.take i).length = i := by rw [List.length_take]; omega
  have hjl : (rs.drop (i + 1)).length = rs.length - (i + 1) := by rw [List.length_drop]
  have Hil := Lib.hid hil; have Hjl := Lib.hid hjl
  clear hd hr hA hil hjl
  have hd := h.ex
  obtain ⟨A', c', hd, _, _, hA'⟩ := hd
  obtain rfl : A' = some ⟨fb, 0, none⟩ := by
    rcases hA' with ⟨_, h0, _⟩ | h
    · omega
    · exact h
  have hdc : c' = c := by
    have := hd.cell 0
    rw [c0] at this
    simpa using this.symm
  subst hdc
  clear hA' h
  go_enter Try.func85, Try.ntmps85
  go_upto_region 2 with (at_builtin; refine wpList_app _ rfl rfE rfl rfl (World.ownsRow_nil w w.heap.size _ _) rfl hcut1 (rf_one _) (by omega) (Nat.le_refl _) ?_; intro v1 w1 hown1 hg1 hb1 hx1)
  have hd1 := hd.below hb1 hgl
  have c1 : w1.cell? ⟨g, 0, none⟩ = some (.slice (some ⟨fb, 0, none⟩) rs.length c') := hd1.cell 0
  have k1 := hd1.frozen 0
  have hs1 := hb1.size
  have hcut2' := hcut2.below hb1
  have hf1 : ∀ p ∈ rs, FileOk (fun b => O b ∧ b < w.heap.size) w1 p.2 := fun p hp => (hf0 p hp).below hb1
  simp only [Nat.zero_add, List.nil_append] at hown1
  have hge1 := own_ge hown1
  obtain ⟨A1, cc1, rfl, hcc1⟩ := own_form hown1
  have hsl0 : (0 : Int) ≤ (i : Int) + 1 := by omega
  have hsl1 : (i : Int) + 1 ≤ (rs.length : Int) := by omega
  have hsl2 : (i : Int) + 1 ≤ (c' : Int) := by omega
  have hnil : c' = i + 1 → Row w1 w.heap.size 3 (some ⟨fb, 0, none⟩) (rs.length - (i + 1)) (rfCells (rs.drop (i + 1))) := fun e => by
    have e1 : rs.length = i + 1 := by omega
    rw [List.drop_of_length_le (by omega), e1, Nat.sub_self]
    exact ⟨rfl, fun h => absurd h (by omega)⟩
  have Hnil := Lib.hid hnil
  clear hd c0 hcut1 hcut2 hg1 hx1 hf0 hnil
  have hfin : ∀ (v2 : Value) (w2 : World), w2.ownsRow w.heap.size 107 3 v2 (i + (rs.length - (i + 1))) (rfCells (rs.take i) ++ rfCells (rs.drop (i + 1))) → w1.grownBy w2 (Value.slice A1 i cc1).ownBlock → Below w.heap.size w1 w2 →
      Blk w2 g 77 (refV (.slice (some ⟨fb, 0, none⟩) rs.length c') fl dn left) ∧ ∀ w3, w3 = w2.setCell ⟨g, 0, none⟩ v2 → ∃ fb', RefIs O w3 g fb' (rs.take i ++ rs.drop (i + 1)) fl dn left ∧ (fb' = g ∨ w.heap.size ≤ fb') ∧ But [g] w w3 := fun v2 w2 hown2 hg2 hb2 => by
    have hd2 : Blk w2 g 77 (refV (.slice (some ⟨fb, 0, none⟩) rs.length c') fl dn left) := hd1.below hb2 hgl
    refine ⟨hd2, fun w3 hw3 => ?_⟩
    have hlen : (rs.take i ++ rs.drop (i + 1)).length = i + (rs.length - (i + 1)) := by rw [List.length_append, Hil.out, Hjl.out]
    rw [← rfCells_app, ← hlen] at hown2
    have hf2 : ∀ p ∈ rs.take i ++ rs.drop (i + 1), FileOk O w2 p.2 := fun p hp => by
      have hp' : p ∈ rs := by
        rcases List.mem_append.1 hp with hp | hp
        · exact List.mem_of_mem_take hp
        · exact List.mem_of_mem_drop hp
      exact ((hf1 p hp').grownR hg2 (fun b hb' _ hm => by have := (hge1 b hm).1; omega)).mono (fun b hb' => hb'.1)
    obtain ⟨fb', h1, h2⟩ := RefIs.newRow hf2 hd2 hown2 (by simp [bv]) hasc.out hlo hhi hw3
    refine ⟨fb', h1, h2, ?_⟩
    rw [hw3]
    exact (But.of_below (hb1.trans hb2)).trans ((But.refl _ _).setCell (by simp) _)
  have Hfin := Lib.hid hfin
  clear hfin hf1 hge1 hd1
  rcases A1 with _ | a1
  all_goals
    by_cases hcap : c' = i + 1
    · have hcut3 := Hnil.out hcap
      clear Hnil hcut2'
      have hsl3 : (c' : Int) = (i : Int) + 1 := by omega
      subst hcap
      go_wp2_with (at_builtin; refine wpList_app _ rfl rfE rfl rfl hown1 rfl hcut3 (rf_one _) (by omega) hs1 ?_; intro v2 w2 hown2 hg2 hb2 hx2; obtain ⟨A2, cc2, rfl, _⟩ := own_form hown2; obtain ⟨hd2, hz⟩ := Hfin.out _ w2 hown2 hg2 hb2; have Hz := Lib.hid hz; have c2 := hd2.cell 0; have k2 := hd2.frozen 0; clear hz hown2 hg2 hb2 hx2 hd2)
      refine bodyPost_end (results_none rfl _ _ _) rfl ?_
      exact ⟨rfl, Hz.out _ (by first | rfl | rw [show i + (rs.length - (i + 1)) = i by omega])⟩
    · have hsl3 : ¬ (c' : Int) = (i : Int) + 1 := by omega
      go_wp2_with (at_builtin; refine wpList_app _ rfl rfE rfl rfl hown1 rfl hcut2' (rf_one _) (by omega) hs1 ?_; intro v2 w2 hown2 hg2 hb2 hx2; obtain ⟨A2, cc2, rfl, _⟩ := own_form hown2; obtain ⟨hd2, hz⟩ := Hfin.out _ w2 hown2 hg2 hb2; have Hz := Lib.hid hz; have c2 := hd2.cell 0; have k2 := hd2.frozen 0; clear hz hown2 hg2 hb2 hx2 hd2)
      refine bodyPost_end (results_none rfl _ _ _) rfl ?_
      exact ⟨rfl, Hz.out _ (by first | rfl | rw [show i + (rs.length - (i + 1)) = i by omega])⟩
/-- a file by value -/
abbrev rfAgg (nm : Bs) (e : FileE) : Value := .agg #[.string (nmS nm), .slice e.A e.data.length e.c, .int .i64 e.synced]
theorem rfCells_one (nm : Bs) (e : FileE) : rfCells [(nm, e)] = [.string (nmS nm), .slice e.A e.data.length e.c, .int .i64 e.synced] := rfl
theorem mem_take_drop {α : Type} {l : List α} {i j : Nat} {a p : α} (h : p ∈ l.take i ++ a :: l.drop j) : p = a ∨ p ∈ l := by
  rcases List.mem_append.1 h with h | h
  · exact Or.inr (List.mem_of_mem_take h)
  · rcases List.mem_cons.1 h with h | h
    · exact Or.inl h
    · exact Or.inr (List.mem_of_mem_drop h)
end Go.Proofs.Ytmddgimadlmacaa
namespace Go.Proofs.Ytmddgimadlmacaa
open Go.RowKit Garner

theorem rfind_lt {ν : Type} {nm : Bs} {l : List (Bs × ν)} (h : (rfind nm l).2 = true) : (rfind nm l).1 < l.length := by
  obtain ⟨v, _, h2⟩ := rfind_get nm l h
  rcases Nat.lt_or_ge (rfind nm l).1 l.length with h3 | h3
  · exact h3
  · rw [List.getElem?_eq_none h3] at h2; cases h2
/-- the three pieces that a put lays together -/
structure Put3 (O : Nat → Prop) (w2 : World) (g : Nat) (nm : Bs) (e : FileE) (rs : Files) (i j : Nat) (B : Nat) : Prop where
  lt : ∀ p ∈ (rs.take i ++ (nm, e) :: rs.drop j), FileOk (fun b => O b ∧ b < B) w2 p.2
set_option maxRecDepth 100000 in
set_option maxHeartbeats 4000000 in
theorem rfPut (nm : Bs) (e : FileE) (g fb : Nat) (rs : Files) (fl dn : Bool) (left : Int) (O : Nat → Prop) (w : World) (h : RefIs O w g fb rs fl dn left) (he : FileOk O w e) (hl : (rs.length + 1) * 48 ≤ 140737488355328) :
    Calls Try.prog 84 #[.pointer (some ⟨g, 0, none⟩), rfAgg nm e] w fun e' w' => e' = .returned (.tuple #[]) ∧ ∃ fb', RefIs O w' g fb' (sput nm e rs) fl dn left ∧ (fb' = g ∨ w.heap.size ≤ fb') ∧ But [g] w w' := by
  obtain ⟨A, c, hd, hr, hc, hA⟩ := h.ex
  have hlo := h.lo; have hhi := h.hi
  have hasc := Lib.hid (asc_sput (nm := nm) (v := e) h.asc)
  have hf0 : ∀ p ∈ rs, FileOk (fun b => O b ∧ b < w.heap.size) w p.2 := fun p hp => (h.files p hp).lt
  have he0 := he.lt
  have hgl := hd.lt
  obtain ⟨q, hq⟩ : ∃ q, q = rfind nm rs := ⟨_, rfl⟩
  have hile := rfind_le nm rs
  have hilt : (rfind nm rs).2 = true → (rfind nm rs).1 < rs.length := rfind_lt
  have hsp : sput nm e rs = rs.take q.1 ++ (nm, e) :: rs.drop (q.1 + if q.2 then 1 else 0) := by rw [hq]; rfl
  rw [← hq] at hile hilt
  obtain ⟨i, ok⟩ := q
  simp only at hile hilt hsp
  have Hsp := Lib.hid hsp; have Hq := Lib.hid hq
  clear hsp hq h he
  go_enter Try.func84, Try.ntmps84
  go_wp2_with fail
  obtain ⟨X, hX⟩ : ∃ X, X = w.alloc (.cells #[.string (nmS nm), .slice e.A e.data.length e.c, .int .i64 e.synced] 107) := ⟨_, rfl⟩
  change Calls _ _ _ (w.alloc (.cells #[.string (nmS nm), .slice e.A e.data.length e.c, .int .i64 e.synced] 107)) _
  rw [← hX]
  have hbX : Below w.heap.size w X := by rw [hX]; exact (Below.refl _ _).alloc (Nat.le_refl _) _
  have kX : Blk X w.heap.size 107 [.string (nmS nm), .slice e.A e.data.length e.c, .int .i64 e.synced] := by rw [hX]; exact Blk.new w _ _
  clear hX
  have hdX := hd.below hbX hgl
  have hrX := (hr.below hbX).more hbX.size
  refine (rFind nm g rs A c fl dn left X hdX hrX (by omega)).mono ?_
  rintro e' w1 ⟨rfl, rfl⟩
  rw [← Hq.out]
  have c0 : w1.cell? ⟨g, 0, none⟩ = some (.slice A rs.length c) := hdX.cell 0
  have x0 : w1.cell? ⟨w.heap.size, 0, none⟩ = some (.string (nmS nm)) := kX.cell 0
  have hs1 := hbX.size
  have hil : (rs.take i).length = i := by rw [List.length_take]; omega
  have hcut1 : Row w1 w.heap.size 3 A i (rfCells (rs.take i)) := by
    rcases hA with ⟨rfl, h0, _⟩ | rfl
    · have : i = 0 := by omega
      subst this
      simp only [List.take_zero]; exact Row.none_
    · have h1 := rf_cut (hr.below hbX) rfl 0 i (by omega) hile
      rw [rfCells_take] at h1
      simpa using h1
  have Hil := Lib.hid hil
  have hic : (i : Int) ≤ (c : Int) := by omega
  have hi0 : (0 : Int) ≤ (i : Int) := by omega
  have hrw := hr
  have hrw := hr
  clear hd hr hil
  have hr0 := hrX
  have hw0 : w.heap.size < w1.heap.size := kX.lt
  go_upto_region 4 with (at_builtin; refine wpList_app _ rfl rfE rfl rfl (World.ownsRow_nil w1 w1.heap.size _ _) rfl hcut1 (rf_one _) (by omega) (Nat.le_refl _) ?_; intro v2 w2 hown2 hg2 hb2 hx2)
  simp only [Nat.zero_add, List.nil_append] at hown2
  have kX2 := kX.below hb2 kX.lt
  have x0' : w2.cell? ⟨w.heap.size, 0, none⟩ = some (.string (nmS nm)) := kX2.cell 0
  have x1' : w2.cell? ⟨w.heap.size, 1, none⟩ = some (.slice e.A e.data.length e.c) := kX2.cell 1
  have x2' : w2.cell? ⟨w.heap.size, 2, none⟩ = some (.int .i64 e.synced) := kX2.cell 2
  have hd2 := hdX.below hb2 hdX.lt
  have hs2 := hb2.size
  have hge2 := own_ge hown2
  have hf2 : ∀ p, p = (nm, e) ∨ p ∈ rs → FileOk (fun b => O b ∧ b < w.heap.size) w2 p.2 := fun p hp => by
    rcases hp with rfl | hp
    · exact (he0.below hbX).below hb2
    · exact ((hf0 p hp).below hbX).below hb2
  have hb02 := hbX.trans (hb2.mono (Nat.le_of_lt hw0))
  have hbY : Below w2.heap.size w2 (w2.alloc (.cells #[.string (nmS nm), .slice e.A e.data.length e.c, .int .i64 e.synced] 107)) := (Below.refl _ _).alloc (Nat.le_refl _) _
  clear c0 x0 hcut1 hg2 hb2 hx2 hf0 he0 kX kX2 hdX
  go_upto_if 26 with (at_builtin; refine wpList_app _ rfl rfE rfl rfl (hown2.alloc _) rfl (row_newN w2 _ 3 1 [.string (nmS nm), .slice e.A e.data.length e.c, .int .i64 e.synced] rfl) (by simp [Value.oneCell']) (by omega) (by simp; omega) ?_; intro v3 w3 hown3 hg3 hb3 hx3)
  clear x0' x1' x2'
  have hown3 : w3.ownsRow w1.heap.size 107 3 v3 (i + 1) (rfCells (rs.take i) ++ rfCells [(nm, e)]) := hown3
  have hd3 : Blk w3 g 77 (refV (.slice A rs.length c) fl dn left) := (hd2.below hbY hd2.lt).below hb3 (by omega)
  have hg3' : (w2.alloc (.cells #[.string (nmS nm), .slice e.A e.data.length e.c, .int .i64 e.synced] 107)).grownBy w3 v2.ownBlock := hg3
  have hf3 : ∀ p, p = (nm, e) ∨ p ∈ rs → FileOk (fun b => O b ∧ b < w.heap.size) w3 p.2 := fun p hp => ((hf2 p hp).below hbY).grownR hg3' (fun b hb' _ hm => by have := hge2 b hm; have := hb'.2; omega)
  have hge3 := own_ge hown3
  have hs3 : w1.heap.size ≤ w3.heap.size := by have := hb3.size; simp at this; omega
  have hb03 : Below w.heap.size w w3 := (hb02.trans (hbY.mono (by omega))).trans (hb3.mono (Nat.le_of_lt hw0))
  have c3 : w3.cell? ⟨g, 0, none⟩ = some (.slice A rs.length c) := hd3.cell 0
  clear hg3 hg3' hb3 hx3 hf2 hd2 hbY hb02 hge2 hown2 hbX hs2
  have hr0' : Row w w.heap.size 3 A rs.length (rfCells rs) := hrw
  clear hr0
  have hr0 := hr0'
  clear hr0'
  cases ok with
  | true =>
    have hilt' := hilt rfl
    simp only [if_true] at Hsp
    have hjl : i + 1 ≤ rs.length := by omega
    have hdl : (rs.drop (i + 1)).length = rs.length - (i + 1) := by rw [List.length_drop]
    have hcut3 : c ≠ i + 1 → A = some ⟨fb, 0, none⟩ ∧ Row w3 w.heap.size 3 (some ⟨fb, (i + 1) * 3, none⟩) (rs.length - (i + 1)) (rfCells (rs.drop (i + 1))) := fun hne => by
      rcases hA with ⟨_, h0, hc0⟩ | rfl
      · omega
      · refine ⟨rfl, ?_⟩
        have h1 := rf_cut (hr0.below hb03) rfl (i + 1) rs.length hjl (Nat.le_refl _)
        rw [List.take_of_length_le (by rw [List.length_drop]; exact Nat.le_refl _)] at h1
        simpa using h1
    have hnil : c = i + 1 → Row w3 w.heap.size 3 A (rs.length - (i + 1)) (rfCells (rs.drop (i + 1))) := fun e => by
      have e1 : rs.length = i + 1 := by omega
      rw [List.drop_of_length_le (by omega), e1, Nat.sub_self]
      exact ⟨rfl, fun h => absurd h (by omega)⟩
    have hfin : ∀ (v4 : Value) (w4 : World), w4.ownsRow w1.heap.size 107 3 v4 (i + 1 + (rs.length - (i + 1))) (rfCells (rs.take i) ++ rfCells [(nm, e)] ++ rfCells (rs.drop (i + 1))) → w3.grownBy w4 v3.ownBlock → Below w1.heap.size w3 w4 →
        Blk w4 g 77 (refV (.slice A rs.length c) fl dn left) ∧ ∀ w5, w5 = w4.setCell ⟨g, 0, none⟩ v4 → ∃ fb', RefIs O w5 g fb' (sput nm e rs) fl dn left ∧ (fb' = g ∨ w.heap.size ≤ fb') ∧ But [g] w w5 := fun v4 w4 hown4 hg4 hb4 => by
      have hd4 : Blk w4 g 77 (refV (.slice A rs.length c) fl dn left) := hd3.below hb4 (by omega)
      refine ⟨hd4, fun w5 hw5 => ?_⟩
      have hsp2 : sput nm e rs = rs.take i ++ [(nm, e)] ++ rs.drop (i + 1) := by rw [Hsp.out]; simp
      have hlen : (sput nm e rs).length = i + 1 + (rs.length - (i + 1)) := by rw [hsp2, List.length_append, List.length_append, Hil.out, hdl]; rfl
      rw [← rfCells_app, ← rfCells_app, ← hlen, ← hsp2] at hown4
      have hf4 : ∀ p ∈ sput nm e rs, FileOk O w4 p.2 := fun p hp => by
        have hp' : p = (nm, e) ∨ p ∈ rs := mem_sput hp
        exact ((hf3 p hp').grownR hg4 (fun b hb' _ hm => by have := hge3 b hm; have := hb'.2; omega)).mono (fun b hb' => hb'.1)
      obtain ⟨fb', h1, h2⟩ := RefIs.newRow hf4 hd4 hown4 (by simp [bv]) hasc.out hlo hhi hw5
      refine ⟨fb', h1, ?_, ?_⟩
      · exact h2.imp id (fun h => by omega)
      · rw [hw5]
        exact (But.of_below (hb03.trans (hb4.mono hs1))).trans ((But.refl _ _).setCell (by simp) _)
    have Hfin := Lib.hid hfin; have Hcut3 := Lib.hid hcut3; have Hnil := Lib.hid hnil
    have hsl0 : (0 : Int) ≤ ((i : Int) + 1) := by omega
    have hsl1 : ((i : Int) + 1) ≤ (rs.length : Int) := by omega
    have hsl2 : ((i : Int) + 1) ≤ (c : Int) := by omega
    have hbse : w1.heap.size ≤ w3.heap.size := hs3
    clear hfin hcut3 hnil hdl hf3 hge3 hd3 hA hr0 hjl
    obtain ⟨A3, cc3, rfl, hcc3⟩ := own_form hown3
    rcases A3 with _ | a3
    all_goals
      by_cases hcap : c = i + 1
      · have hcut4 := Hnil.out hcap
        have hri : rs.length = i + 1 := by omega
        have hsl3 : (c : Int) = ((i : Int) + 1) := by omega
        clear Hnil Hcut3
        subst hcap
        go_wp2_with (at_builtin; refine wpList_app _ rfl rfE rfl rfl hown3 rfl hcut4 (rf_one _) (by omega) hbse ?_; intro v4 w4 hown4 hg4 hb4 hx4; obtain ⟨A4, cc4, rfl, _⟩ := own_form hown4; obtain ⟨hd4, hz⟩ := Hfin.out _ w4 hown4 hg4 hb4; have Hz := Lib.hid hz; have c4 := hd4.cell 0; have k4 := hd4.frozen 0; clear hz hown4 hg4 hb4 hx4 hd4)
        refine bodyPost_end (results_none rfl _ _ _) rfl ?_
        exact ⟨rfl, Hz.out _ (by first | rfl | rw [show i + 1 + (rs.length - (i + 1)) = i + 1 by omega] | rw [show c + 1 + (rs.length - c) = c + 1 by omega])⟩
      · obtain ⟨rfl, hcut4⟩ := Hcut3.out hcap
        have hsl3 : ¬ (c : Int) = ((i : Int) + 1) := by omega
        clear Hnil Hcut3
        go_wp2_with (at_builtin; refine wpList_app _ rfl rfE rfl rfl hown3 rfl hcut4 (rf_one _) (by omega) hbse ?_; intro v4 w4 hown4 hg4 hb4 hx4; obtain ⟨A4, cc4, rfl, _⟩ := own_form hown4; obtain ⟨hd4, hz⟩ := Hfin.out _ w4 hown4 hg4 hb4; have Hz := Lib.hid hz; have c4 := hd4.cell 0; have k4 := hd4.frozen 0; clear hz hown4 hg4 hb4 hx4 hd4)
        refine bodyPost_end (results_none rfl _ _ _) rfl ?_
        exact ⟨rfl, Hz.out _ (by first | rfl | rw [show i + 1 + (rs.length - (i + 1)) = i + 1 by omega] | rw [show c + 1 + (rs.length - c) = c + 1 by omega])⟩
  | false =>
    simp only [Bool.false_eq_true, if_false, Nat.add_zero] at Hsp
    have hjl : i ≤ rs.length := by omega
    have hdl : (rs.drop (i)).length = rs.length - (i) := by rw [List.length_drop]
    have hcut3 : c ≠ i → A = some ⟨fb, 0, none⟩ ∧ Row w3 w.heap.size 3 (some ⟨fb, (i) * 3, none⟩) (rs.length - (i)) (rfCells (rs.drop (i))) := fun hne => by
      rcases hA with ⟨_, h0, hc0⟩ | rfl
      · omega
      · refine ⟨rfl, ?_⟩
        have h1 := rf_cut (hr0.below hb03) rfl (i) rs.length hjl (Nat.le_refl _)
        rw [List.take_of_length_le (by rw [List.length_drop]; exact Nat.le_refl _)] at h1
        simpa using h1
    have hnil : c = i → Row w3 w.heap.size 3 A (rs.length - (i)) (rfCells (rs.drop (i))) := fun e => by
      have e1 : rs.length = i := by omega
      rw [List.drop_of_length_le (by omega), e1, Nat.sub_self]
      exact ⟨rfl, fun h => absurd h (by omega)⟩
    have hfin : ∀ (v4 : Value) (w4 : World), w4.ownsRow w1.heap.size 107 3 v4 (i + 1 + (rs.length - (i))) (rfCells (rs.take i) ++ rfCells [(nm, e)] ++ rfCells (rs.drop (i))) → w3.grownBy w4 v3.ownBlock → Below w1.heap.size w3 w4 →
        Blk w4 g 77 (refV (.slice A rs.length c) fl dn left) ∧ ∀ w5, w5 = w4.setCell ⟨g, 0, none⟩ v4 → ∃ fb', RefIs O w5 g fb' (sput nm e rs) fl dn left ∧ (fb' = g ∨ w.heap.size ≤ fb') ∧ But [g] w w5 := fun v4 w4 hown4 hg4 hb4 => by
      have hd4 : Blk w4 g 77 (refV (.slice A rs.length c) fl dn left) := hd3.below hb4 (by omega)
      refine ⟨hd4, fun w5 hw5 => ?_⟩
      have hsp2 : sput nm e rs = rs.take i ++ [(nm, e)] ++ rs.drop (i) := by rw [Hsp.out]; simp
      have hlen : (sput nm e rs).length = i + 1 + (rs.length - (i)) := by rw [hsp2, List.length_append, List.length_append, Hil.out, hdl]; rfl
      rw [← rfCells_app, ← rfCells_app, ← hlen, ← hsp2] at hown4
      have hf4 : ∀ p ∈ sput nm e rs, FileOk O w4 p.2 := fun p hp => by
        have hp' : p = (nm, e) ∨ p ∈ rs := mem_sput hp
        exact ((hf3 p hp').grownR hg4 (fun b hb' _ hm => by have := hge3 b hm; have := hb'.2; omega)).mono (fun b hb' => hb'.1)
      obtain ⟨fb', h1, h2⟩ := RefIs.newRow hf4 hd4 hown4 (by simp [bv]) hasc.out hlo hhi hw5
      refine ⟨fb', h1, ?_, ?_⟩
      · exact h2.imp id (fun h => by omega)
      · rw [hw5]
        exact (But.of_below (hb03.trans (hb4.mono hs1))).trans ((But.refl _ _).setCell (by simp) _)
    have Hfin := Lib.hid hfin; have Hcut3 := Lib.hid hcut3; have Hnil := Lib.hid hnil
    have hsl0 : (0 : Int) ≤ (i : Int) := by omega
    have hsl1 : (i : Int) ≤ (rs.length : Int) := by omega
    have hsl2 : (i : Int) ≤ (c : Int) := by omega
    have hbse : w1.heap.size ≤ w3.heap.size := hs3
    clear hfin hcut3 hnil hdl hf3 hge3 hd3 hA hr0 hjl
    obtain ⟨A3, cc3, rfl, hcc3⟩ := own_form hown3
    rcases A3 with _ | a3
    all_goals
      by_cases hcap : c = i
      · have hcut4 := Hnil.out hcap
        have hri : rs.length = i := by omega
        have hsl3 : (c : Int) = (i : Int) := by omega
        clear Hnil Hcut3
        subst hcap
        go_wp2_with (at_builtin; refine wpList_app _ rfl rfE rfl rfl hown3 rfl hcut4 (rf_one _) (by omega) hbse ?_; intro v4 w4 hown4 hg4 hb4 hx4; obtain ⟨A4, cc4, rfl, _⟩ := own_form hown4; obtain ⟨hd4, hz⟩ := Hfin.out _ w4 hown4 hg4 hb4; have Hz := Lib.hid hz; have c4 := hd4.cell 0; have k4 := hd4.frozen 0; clear hz hown4 hg4 hb4 hx4 hd4)
        refine bodyPost_end (results_none rfl _ _ _) rfl ?_
        exact ⟨rfl, Hz.out _ (by first | rfl | rw [show i + 1 + (rs.length - (i)) = i + 1 by omega] | rw [show c + 1 + (rs.length - c) = c + 1 by omega])⟩
      · obtain ⟨rfl, hcut4⟩ := Hcut3.out hcap
        have hsl3 : ¬ (c : Int) = (i : Int) := by omega
        clear Hnil Hcut3
        go_wp2_with (at_builtin; refine wpList_app _ rfl rfE rfl rfl hown3 rfl hcut4 (rf_one _) (by omega) hbse ?_; intro v4 w4 hown4 hg4 hb4 hx4; obtain ⟨A4, cc4, rfl, _⟩ := own_form hown4; obtain ⟨hd4, hz⟩ := Hfin.out _ w4 hown4 hg4 hb4; have Hz := Lib.hid hz; have c4 := hd4.cell 0; have k4 := hd4.frozen 0; clear hz hown4 hg4 hb4 hx4 hd4)
        refine bodyPost_end (results_none rfl _ _ _) rfl ?_
        exact ⟨rfl, Hz.out _ (by first | rfl | rw [show i + 1 + (rs.length - (i)) = i + 1 by omega] | rw [show c + 1 + (rs.length - c) = c + 1 by omega])⟩
end Go.Proofs.Ytmddgimadlmacaa
