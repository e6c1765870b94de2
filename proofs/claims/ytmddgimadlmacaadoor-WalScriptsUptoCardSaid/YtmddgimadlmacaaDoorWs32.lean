import Derived.Test.YtmddgimadlmacaaDoorWs31
import Derived.Test.YtmddgimadlmacaaDoorWs23
namespace Go.Proofs.YtmddgimadlmacaaDoor
open Go.RowKit Garner

theorem rfE : Elem Tryd.prog 66 88 (.agg #[.string .empty, .slice none 0 0, .int .i64 0]) 3 48 := ⟨Tryd.underlying66, by kernel_rfl, rfl, by omega, by omega⟩
theorem rf_one (l : Files) : ∀ u ∈ rfCells l, u.oneCell' = true := by
  intro u hu
  obtain ⟨p, _, hp⟩ := List.mem_flatMap.1 hu
  simp only [rfV, List.mem_cons, List.not_mem_nil, or_false] at hp
  rcases hp with rfl | rfl | rfl <;> rfl
theorem rfCells_app (a b : Files) : rfCells (a ++ b) = rfCells a ++ rfCells b := by unfold rfCells; rw [List.flatMap_append]
theorem rfCells_far (l : Files) : ∀ (i : Nat) (b : UInt8), (rfCells l)[i]? ≠ some (bv b) := by
  intro i b h
  obtain ⟨p, _, hp⟩ := List.mem_flatMap.1 (List.mem_of_getElem? h)
  simp [rfV, bv] at hp
/-- a part of a row of files -/
theorem rf_cut {w : World} {B b off : Nat} {l : Files} {A : Option Addr} (h : Row w B 3 A l.length (rfCells l)) (e : A = some ⟨b, off, none⟩) (lo hi : Nat) (h1 : lo ≤ hi) (h2 : hi ≤ l.length) : Row w B 3 (some ⟨b, off + lo * 3, none⟩) (hi - lo) (rfCells ((l.drop lo).take (hi - lo))) := by
  have hlen : ((l.drop lo).take (hi - lo)).length = hi - lo := by rw [List.length_take, List.length_drop]; omega
  refine ⟨by rw [rfCells_len, hlen], fun hn => ?_⟩
  obtain ⟨b', off', e', hb, hc⟩ := h.2 (by omega)
  rw [e] at e'
  simp only [Option.some.injEq, Addr.mk.injEq, and_true] at e'
  obtain ⟨rfl, rfl⟩ := e'
  refine ⟨b, off + lo * 3, rfl, hb, fun j u hu => ?_⟩
  rw [Nat.add_assoc]
  refine hc _ u ?_
  have hj : j < (rfCells ((l.drop lo).take (hi - lo))).length := by
    rcases Nat.lt_or_ge j (rfCells ((l.drop lo).take (hi - lo))).length with h | h
    · exact h
    · rw [List.getElem?_eq_none h] at hu; cases hu
  have hsplit : l = l.take lo ++ ((l.drop lo).take (hi - lo) ++ (l.drop lo).drop (hi - lo)) := by rw [List.take_append_drop, List.take_append_drop]
  have hl : (rfCells (l.take lo)).length = lo * 3 := by rw [rfCells_len, List.length_take]; omega
  rw [hsplit, rfCells_app, List.getElem?_append_right (by omega), hl, show lo * 3 + j - lo * 3 = j by omega, rfCells_app, List.getElem?_append_left hj]
  exact hu
/-- the document's disk lies at g, its files' row at fb -/
structure RefIs (O : Nat → Prop) (w : World) (g fb : Nat) (rs : Files) (fl dn : Bool) (left : Int) : Prop where
  own : ∃ A c, Blk w g 68 (refV (.slice A rs.length c) fl dn left) ∧ w.ownsRow 0 88 3 (.slice A rs.length c) rs.length (rfCells rs) ∧ (∀ q, (Value.slice A rs.length c).ownBlock = some q → q = fb)
  files : ∀ p ∈ rs, FileOk O w p.2
  asc : Asc rs
  lo : -1 ≤ left
  hi : left ≤ 9223372036854775807
  nb : NB w fb
  lt : fb < w.heap.size
theorem RefIs.ex {O : Nat → Prop} {w : World} {g fb : Nat} {rs : Files} {fl dn : Bool} {left : Int} (h : RefIs O w g fb rs fl dn left) :
    ∃ A c, Blk w g 68 (refV (.slice A rs.length c) fl dn left) ∧ Row w w.heap.size 3 A rs.length (rfCells rs) ∧ rs.length ≤ c ∧ ((A = none ∧ rs.length = 0 ∧ c = 0) ∨ A = some ⟨fb, 0, none⟩) := by
  obtain ⟨A, c, h1, h2, h3⟩ := h.own
  refine ⟨A, c, h1, Row.of_own h2, ?_, ?_⟩
  · rcases h2.2 with ⟨e, h0⟩ | ⟨q, cap, cur, e, _, _, hc, _⟩
    · rw [h0]; exact Nat.zero_le _
    · injection e with _ _ e; omega
  · rcases h2.2 with ⟨e, h0⟩ | ⟨q, cap, cur, e, _, _, hc, _⟩
    · injection e with e1 _ e3
      exact Or.inl ⟨e1, h0, e3⟩
    · injection e with e1 _ _
      subst e1
      rw [h3 q rfl]
      exact Or.inr rfl
end Go.Proofs.YtmddgimadlmacaaDoor
namespace Go.Proofs.YtmddgimadlmacaaDoor
open Go.RowKit Garner

theorem rfCells_take (l : Files) (i : Nat) : rfCells ((l.drop 0).take (i - 0)) = rfCells (l.take i) := by simp
theorem ref_ne {O : Nat → Prop} {w : World} {e : FileE} (h : FileOk O w e) {q : Nat} {t : TypeId} {cs : List Value} (hk : Blk w q t cs) (hne : ∀ (i : Nat) (c : UInt8), cs[i]? ≠ some (bv c)) : FileOk (fun b => O b ∧ b ≠ q) w e := h.far hk hne
theorem refV_far (F : Value) (hF : ∀ c, F ≠ bv c) (fl dn : Bool) (left : Int) : ∀ (i : Nat) (b : UInt8), (refV F fl dn left)[i]? ≠ some (bv b) := by
  intro i b h
  rcases i with _ | _ | _ | _ | i
  · exact hF b (by simpa using h)
  all_goals simp [bv] at h
/-- what a write into the disk's own box leaves -/
theorem files_but {O : Nat → Prop} {w w' : World} {g : Nat} {rs : Files} {A : Option Addr} {n c : Nat} {fl dn : Bool} {left : Int} (h : ∀ p ∈ rs, FileOk O w p.2) (hk : Blk w g 68 (refV (.slice A n c) fl dn left)) (hb : But [g] w w') : ∀ p ∈ rs, FileOk O w' p.2 :=
  fun p hp => (((h p hp).far hk (refV_far _ (by simp [bv]) _ _ _)).but hb (fun b hb' _ => by simp only [List.mem_cons, List.not_mem_nil, or_false]; exact hb'.2)).mono (fun b hb' => hb'.1)
/-- what a slice expression leaves of a row of files -/
def upFrom (A : Option Addr) (n c k : Nat) : Value := if c = k then .slice A (n - k) (c - k) else match A with
  | some ⟨b, off, i⟩ => .slice (some ⟨b, off + k * 3, i⟩) (n - k) (c - k)
  | none => .slice none (n - k) (c - k)
/-- the box written: the files' row is another one -/
theorem RefIs.newRow {O : Nat → Prop} {w w' : World} {g : Nat} {rs' : Files} {F : Value} {fl dn : Bool} {left : Int} {B : Nat} {v : Value}
    (hfiles : ∀ p ∈ rs', FileOk O w p.2) (hk : Blk w g 68 (refV F fl dn left)) (hown : w.ownsRow B 88 3 v rs'.length (rfCells rs')) (hF : ∀ c, F ≠ bv c) (hasc : Asc rs') (h1 : -1 ≤ left) (h2 : left ≤ 9223372036854775807)
    (hw : w' = w.setCell ⟨g, 0, none⟩ v) : ∃ fb, RefIs O w' g fb rs' fl dn left ∧ (fb = g ∨ B ≤ fb) := by
  subst hw
  obtain ⟨A, c, rfl, _⟩ := own_form hown
  have hb : But [g] w (w.setCell ⟨g, 0, none⟩ (.slice A rs'.length c)) := (But.refl _ _).setCell (by simp) _
  have hne : g ∉ (Value.slice A rs'.length c).ownBlock.toList := own_blk hown hk (by decide)
  have hown' := own_but hown hb (fun q hq hm => by simp only [List.mem_cons, List.not_mem_nil, or_false] at hm; subst hm; exact hne (by rw [hq]; simp))
  have hk' : Blk (w.setCell ⟨g, 0, none⟩ (.slice A rs'.length c)) g 68 (refV (.slice A rs'.length c) fl dn left) := hk.set_ 0 _
  have hfiles' : ∀ p ∈ rs', FileOk O (w.setCell ⟨g, 0, none⟩ (.slice A rs'.length c)) p.2 := fun p hp =>
    (((hfiles p hp).far hk (refV_far _ hF _ _ _)).but hb (fun b hb' _ => by simp only [List.mem_cons, List.not_mem_nil, or_false]; exact hb'.2)).mono (fun b hb' => hb'.1)
  rcases hown.2 with ⟨e, h0⟩ | ⟨q, cap, cur, e, hB, hq, _⟩
  · injection e with e1 e2 e3
    subst e1
    exact ⟨g, ⟨⟨none, c, hk', own_mono hown' (Nat.zero_le _), fun q hq => by simp [Value.ownBlock] at hq⟩, hfiles', hasc, h1, h2, NB.blk hk' (by decide), hk'.lt⟩, Or.inl rfl⟩
  · injection e with e1 e2 e3
    subst e1
    exact ⟨q, ⟨⟨_, c, hk', own_mono hown' (Nat.zero_le _), fun q' hq' => by simpa [Value.ownBlock] using hq'.symm⟩, hfiles', hasc, h1, h2, NB.own hown' (by decide) q (by simp [Value.ownBlock]), (hown'.lt q (by simp [Value.ownBlock])).2⟩, Or.inr hB⟩
theorem FileOk.below {O : Nat → Prop} {w w' : World} {e : FileE} (h : FileOk O w e) (hb : Below w.heap.size w w') : FileOk O w' e := h.but (S := []) (But.of_below hb) (by simp)
theorem asc_take_drop {ν : Type} {l : List (Bs × ν)} (h : Asc l) (i : Nat) : Asc (l.take i ++ l.drop (i + 1)) := by
  refine h.sublist ?_
  conv => rhs; rw [← List.take_append_drop i l]
  refine (List.Sublist.refl _).append ?_
  rw [← List.drop_drop]
  exact List.drop_sublist _ _
/-- what an append onto a row of files leaves of the files -/
theorem FileOk.grownR {O : Nat → Prop} {w w' : World} {e : FileE} (h : FileOk O w e) {v : Value} (hg : w.grownBy w' v.ownBlock) (hv : ∀ b, O b → b < w.heap.size → b ∉ v.ownBlock.toList) : FileOk O w' e :=
  h.but (But.grown (S := v.ownBlock.toList) hg (fun q hq => by rw [hq]; simp)) hv
set_option maxRecDepth 100000 in
set_option maxHeartbeats 4000000 in
theorem rTake (i g fb : Nat) (rs : Files) (fl dn : Bool) (left : Int) (O : Nat → Prop) (w : World) (h : RefIs O w g fb rs fl dn left) (hi : i < rs.length) (hl : rs.length * 48 ≤ 140737488355328) :
    Calls Tryd.prog 56 #[.pointer (some ⟨g, 0, none⟩), .int .i64 i] w fun e w' => e = .returned (.tuple #[]) ∧ ∃ fb', RefIs O w' g fb' (rs.take i ++ rs.drop (i + 1)) fl dn left ∧ (fb' = g ∨ w.heap.size ≤ fb') ∧ But [g] w w' := by
  obtain ⟨A, c, hd, hr, hc, hA⟩ := h.ex
  obtain rfl : A = some ⟨fb, 0, none⟩ := by
    rcases hA with ⟨_, h0, _⟩ | h
    · omega
    · exact h
  have c0 : w.cell? ⟨g, 0, none⟩ = some (.slice (some ⟨fb, 0, none⟩) rs.length c) := hd.cell 0
  have hcut1 := rf_cut hr rfl 0 i (by omega) (by omega)
  rw [rfCells_take] at hcut1
  have hcut2 := rf_cut hr rfl (i + 1) rs.length (by omega) (Nat.le_refl _)
  rw [List.take_of_length_le (by rw [List.length_drop]; exact Nat.le_refl _)] at hcut2
  simp only [Nat.zero_add, Nat.zero_mul, Nat.sub_zero] at hcut1 hcut2
  have hgl := hd.lt
  have hlo := h.lo; have hhi := h.hi
  have hf0 : ∀ p ∈ rs, FileOk (fun b => O b ∧ b < w.heap.size) w p.2 := fun p hp => (h.files p hp).lt
  have hasc := Lib.hid (asc_take_drop h.asc i)
  have hil : (rs.take i).length = i := by rw [List.length_take]; omega
  have hjl : (rs.drop (i + 1)).length = rs.length - (i + 1) := by rw [List.length_drop]
  have Hil := Lib.hid hil; have Hjl := Lib.hid hjl
  clear hd hr hA hil hjl
  have hd := h.ex
  obtain ⟨A', c', hd, _, _, hA'⟩ := hd
  obtain rfl : A' = some ⟨fb, 0, none⟩ := by
    rcases hA' with ⟨_, h0, _⟩ | h
    · omega
    · exact h
  have hdc : c' = c := by
    have := hd.cell 0
    rw [c0] at this
    simpa using this.symm
  subst hdc
  clear hA' h
  go_enter Tryd.func56, Tryd.ntmps56
  go_upto_region 2 with (at_builtin; refine wpList_app _ rfl rfE rfl rfl (World.ownsRow_nil w w.heap.size _ _) rfl hcut1 (rf_one _) (by omega) (Nat.le_refl _) ?_; intro v1 w1 hown1 hg1 hb1 hx1)
  have hd1 := hd.below hb1 hgl
  have c1 : w1.cell? ⟨g, 0, none⟩ = some (.slice (some ⟨fb, 0, none⟩) rs.length c') := hd1.cell 0
  have k1 := hd1.frozen 0
  have hs1 := hb1.size
  have hcut2' := hcut2.below hb1
  have hf1 : ∀ p ∈ rs, FileOk (fun b => O b ∧ b < w.heap.size) w1 p.2 := fun p hp => (hf0 p hp).below hb1
  simp only [Nat.zero_add, List.nil_append] at hown1
  have hge1 := own_ge hown1
  obtain ⟨A1, cc1, rfl, hcc1⟩ := own_form hown1
  have hsl0 : (0 : Int) ≤ (i : Int) + 1 := by omega
  have hsl1 : (i : Int) + 1 ≤ (rs.length : Int) := by omega
  have hsl2 : (i : Int) + 1 ≤ (c' : Int) := by omega
  have hnil : c' = i + 1 → Row w1 w.heap.size 3 (some ⟨fb, 0, none⟩) (rs.length - (i + 1)) (rfCells (rs.drop (i + 1))) := fun e => by
    have e1 : rs.length = i + 1 := by omega
    rw [List.drop_of_length_le (by omega), e1, Nat.sub_self]
    exact ⟨rfl, fun h => absurd h (by omega)⟩
  have Hnil := Lib.hid hnil
  clear hd c0 hcut1 hcut2 hg1 hx1 hf0 hnil
  have hfin : ∀ (v2 : Value) (w2 : World), w2.ownsRow w.heap.size 88 3 v2 (i + (rs.length - (i + 1))) (rfCells (rs.take i) ++ rfCells (rs.drop (i + 1))) → w1.grownBy w2 (Value.slice A1 i cc1).ownBlock → Below w.heap.size w1 w2 →
      Blk w2 g 68 (refV (.slice (some ⟨fb, 0, none⟩) rs.length c') fl dn left) ∧ ∀ w3, w3 = w2.setCell ⟨g, 0, none⟩ v2 → ∃ fb', RefIs O w3 g fb' (rs.take i ++ rs.drop (i + 1)) fl dn left ∧ (fb' = g ∨ w.heap.size ≤ fb') ∧ But [g] w w3 := fun v2 w2 hown2 hg2 hb2 => by
    have hd2 : Blk w2 g 68 (refV (.slice (some ⟨fb, 0, none⟩) rs.length c') fl dn left) := hd1.below hb2 hgl
    refine ⟨hd2, fun w3 hw3 => ?_⟩
    have hlen : (rs.take i ++ rs.drop (i + 1)).length = i + (rs.length - (i + 1)) := by rw [List.length_append, Hil.out, Hjl.out]
    rw [← rfCells_app, ← hlen] at hown2
    have hf2 : ∀ p ∈ rs.take i ++ rs.drop (i + 1), FileOk O w2 p.2 := fun p hp => by
      have hp' : p ∈ rs := by
        rcases List.mem_append.1 hp with hp | hp
        · exact List.mem_of_mem_take hp
        · exact List.mem_of_mem_drop hp
      exact ((hf1 p hp').grownR hg2 (fun b hb' _ hm => by have := (hge1 b hm).1; omega)).mono (fun b hb' => hb'.1)
    obtain ⟨fb', h1, h2⟩ := RefIs.newRow hf2 hd2 hown2 (by simp [bv]) hasc.out hlo hhi hw3
    refine ⟨fb', h1, h2, ?_⟩
    rw [hw3]
    exact (But.of_below (hb1.trans hb2)).trans ((But.refl _ _).setCell (by simp) _)
  have Hfin := Lib.hid hfin
  clear hfin hf1 hge1 hd1
  rcases A1 with _ | a1
  all_goals
    by_cases hcap : c' = i + 1
    · have hcut3 := Hnil.out hcap
      clear Hnil hcut2'
      have hsl3 : (c' : Int) = (i : Int) + 1 := by omega
      subst hcap
      go_wp2_with (at_builtin; refine wpList_app _ rfl rfE rfl rfl hown1 rfl hcut3 (rf_one _) (by omega) hs1 ?_; intro v2 w2 hown2 hg2 hb2 hx2; obtain ⟨A2, cc2, rfl, _⟩ := own_form hown2; obtain ⟨hd2, hz⟩ := Hfin.out _ w2 hown2 hg2 hb2; have Hz := Lib.hid hz; have c2 := hd2.cell 0; have k2 := hd2.frozen 0; clear hz hown2 hg2 hb2 hx2 hd2)
      refine bodyPost_end (results_none rfl _ _ _) rfl ?_
      exact ⟨rfl, Hz.out _ (by first | rfl | rw [show i + (rs.length - (i + 1)) = i by omega])⟩
    · have hsl3 : ¬ (c' : Int) = (i : Int) + 1 := by omega
      go_wp2_with (at_builtin; refine wpList_app _ rfl rfE rfl rfl hown1 rfl hcut2' (rf_one _) (by omega) hs1 ?_; intro v2 w2 hown2 hg2 hb2 hx2; obtain ⟨A2, cc2, rfl, _⟩ := own_form hown2; obtain ⟨hd2, hz⟩ := Hfin.out _ w2 hown2 hg2 hb2; have Hz := Lib.hid hz; have c2 := hd2.cell 0; have k2 := hd2.frozen 0; clear hz hown2 hg2 hb2 hx2 hd2)
      refine bodyPost_end (results_none rfl _ _ _) rfl ?_
      exact ⟨rfl, Hz.out _ (by first | rfl | rw [show i + (rs.length - (i + 1)) = i by omega])⟩
/-- a file by value -/
abbrev rfAgg (nm : Bs) (e : FileE) : Value := .agg #[.string (nmS nm), .slice e.A e.data.length e.c, .int .i64 e.synced]
theorem rfCells_one (nm : Bs) (e : FileE) : rfCells [(nm, e)] = [.string (nmS nm), .slice e.A e.data.length e.c, .int .i64 e.synced] := rfl
theorem mem_take_drop {α : Type} {l : List α} {i j : Nat} {a p : α} (h : p ∈ l.take i ++ a :: l.drop j) : p = a ∨ p ∈ l := by
  rcases List.mem_append.1 h with h | h
  · exact Or.inr (List.mem_of_mem_take h)
  · rcases List.mem_cons.1 h with h | h
    · exact Or.inl h
    · exact Or.inr (List.mem_of_mem_drop h)
end Go.Proofs.YtmddgimadlmacaaDoor
