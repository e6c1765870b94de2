import Derived.Test.YtmddgimadlmacaaDoorWs23
import Derived.Test.YtmddgimadlmacaaDoorWs21
import Derived.Sort.Walk0
namespace Go.Proofs.YtmddgimadlmacaaDoor
open Go.RowKit Garner

/-- a file of the document's disk -/
def rfV (p : Bs × FileE) : List Value := [.string (nmS p.1), .slice p.2.A p.2.data.length p.2.c, .int .i64 p.2.synced]
def rfCells (l : Files) : List Value := l.flatMap rfV
theorem rfCells_len (l : Files) : (rfCells l).length = l.length * 3 := by
  induction l with
  | nil => rfl
  | cons s l ih => unfold rfCells at *; rw [List.flatMap_cons, List.length_append, ih, List.length_cons]; simp [rfV]; omega
theorem rfCells_at : ∀ (l : Files) (k j : Nat) (hk : k < l.length), j < 3 → (rfCells l)[k * 3 + j]? = (rfV l[k])[j]?
  | s :: l, 0, j, _, hj => by
    have : (rfCells (s :: l)) = rfV s ++ rfCells l := rfl
    rw [this, List.getElem?_append_left (by simp [rfV]; omega)]; simp
  | s :: l, k + 1, j, hk, hj => by
    have : (rfCells (s :: l)) = rfV s ++ rfCells l := rfl
    rw [this, List.getElem?_append_right (by simp [rfV]; omega)]
    have h4 : (rfV s).length = 3 := rfl
    rw [h4, show (k + 1) * 3 + j - 3 = k * 3 + j by omega, rfCells_at l k j (by simpa using hk) hj]
    rfl
theorem rf_at {w : World} {B : Nat} {A : Option Addr} {l : Files} (h : Row w B 3 A l.length (rfCells l)) {k : Nat} (hk : k < l.length) :
    ∃ b off, A = some ⟨b, off, none⟩ ∧ b < B ∧ w.cell? ⟨b, off + k * 3, none⟩ = some (.string (nmS l[k].1)) ∧ w.cell? ⟨b, off + k * 3 + 1, none⟩ = some (.slice l[k].2.A l[k].2.data.length l[k].2.c) ∧
      w.cell? ⟨b, off + k * 3 + 2, none⟩ = some (.int .i64 l[k].2.synced) := by
  obtain ⟨b, off, e, hb, hc⟩ := h.2 (by omega)
  refine ⟨b, off, e, hb, ?_, ?_, ?_⟩
  · have := hc (k * 3 + 0) _ (by rw [rfCells_at l k 0 hk (by omega)]; rfl); simpa [Nat.add_assoc] using this
  · have := hc (k * 3 + 1) _ (by rw [rfCells_at l k 1 hk (by omega)]; rfl); simpa [Nat.add_assoc] using this
  · have := hc (k * 3 + 2) _ (by rw [rfCells_at l k 2 hk (by omega)]; rfl); simpa [Nat.add_assoc] using this
/-- the place of a name: of the first that isn't ahead of it -/
def rfind {ν : Type} (nm : Bs) : List (Bs × ν) → Nat × Bool
  | [] => (0, false)
  | p :: r => if p.1 = nm then (0, true) else if nm < p.1 then (0, false) else ((rfind nm r).1 + 1, (rfind nm r).2)
theorem rfind_le {ν : Type} (nm : Bs) : ∀ l : List (Bs × ν), (rfind nm l).1 ≤ l.length
  | [] => Nat.le_refl _
  | p :: r => by
    unfold rfind
    split
    · exact Nat.zero_le _
    · split
      · exact Nat.zero_le _
      · have := rfind_le nm r; simp only [List.length_cons]; omega
theorem rfind_at {ν : Type} (nm : Bs) : ∀ (l : List (Bs × ν)) (k : Nat) (hk : k < l.length), (rfind nm (l.drop k)) = if l[k].1 = nm then (0, true) else if nm < l[k].1 then (0, false) else ((rfind nm (l.drop (k + 1))).1 + 1, (rfind nm (l.drop (k + 1))).2) := by
  intro l k hk
  rw [List.drop_eq_getElem_cons hk]
  rfl
theorem str_less {a b : Bs} (h : a ≠ b) : Op.bytesLess a b = !decide (b < a) := by
  rw [Proofs.bytesLess_eq]
  by_cases h1 : b < a
  · have h2 : ¬ a < b := fun h2 => List.lt_irrefl a (List.lt_trans h2 h1)
    simp [h1, h2]
  · have h3 : a < b := by
      by_cases h4 : a < b
      · exact h4
      · exact absurd (List.le_antisymm (List.not_lt.1 h1) (List.not_lt.1 h4)) h
    simp [h1, h3]
set_option maxRecDepth 100000 in
set_option maxHeartbeats 4000000 in
theorem rFind (nm : Bs) (g : Nat) (rs : Files) (A : Option Addr) (c : Nat) (fl dn : Bool) (left : Int) (w : World) (hd : Blk w g 68 (refV (.slice A rs.length c) fl dn left)) (hr : Row w w.heap.size 3 A rs.length (rfCells rs)) (hl : rs.length ≤ 140737488355328) :
    Calls Tryd.prog 54 #[.pointer (some ⟨g, 0, none⟩), .string (nmS nm)] w fun e w' => e = .returned (.tuple #[.int .i64 (rfind nm rs).1, .bool (rfind nm rs).2]) ∧ w' = w := by
  have c0 : w.cell? ⟨g, 0, none⟩ = some (.slice A rs.length c) := hd.cell 0
  go_enter Tryd.func54, Tryd.ntmps54
  go_wp2_with fail
  go_loopw [6] (fun v6 wr => ∃ k : Nat, k ≤ rs.length ∧ v6 = .int .i64 k ∧ wr = w ∧ Hid (rfind nm rs = ((rfind nm (rs.drop k)).1 + k, (rfind nm (rs.drop k)).2))) (fun v6 _ => rs.length - (intOf v6).toNat)
  case atStart => exact ⟨0, Nat.zero_le _, rfl, rfl, rfl⟩
  case round =>
    obtain ⟨k, hk, rfl, rfl, H⟩ := hrel
    by_cases hlt : (k : Int) < rs.length
    · obtain ⟨b, off, rfl, hb, d0, _, _⟩ := rf_at hr (k := k) (by omega)
      have hat := rfind_at nm rs k (by omega)
      obtain ⟨nk, hnk⟩ : ∃ nk, nk = rs[k].1 := ⟨_, rfl⟩
      rw [← hnk] at d0 hat
      clear hnk
      by_cases h1 : nk = nm
      · have hgo : Hid (rfind nm rs = (k, true)) := by
          show _ = _
          rw [H.out, hat, if_pos h1]; simp
        have hq1 : (nk == nm) = true := beq_iff_eq.2 h1
        clear H hat h1
        go_wp2
        refine bodyPost_ret (v := .tuple #[.int .i64 k, .bool true]) (by simp [results, Tryd.results54, go_sem, *]) rfl ?_
        rw [hgo.out]
        exact ⟨rfl, rfl⟩
      · have hq1 : (nk == nm) = false := beq_eq_false_iff_ne.2 h1
        have hq2 := str_less h1
        by_cases h2 : nm < nk
        · have hgo : Hid (rfind nm rs = (k, false)) := by
            show _ = _
            rw [H.out, hat, if_neg h1, if_pos h2]; simp
          rw [decide_eq_true h2] at hq2
          simp only [Bool.not_true] at hq2
          clear H hat h1 h2
          go_wp2
          refine bodyPost_ret (v := .tuple #[.int .i64 k, .bool false]) (by simp [results, Tryd.results54, go_sem, *]) rfl ?_
          rw [hgo.out]
          exact ⟨rfl, rfl⟩
        · have hgo : Hid (rfind nm rs = ((rfind nm (rs.drop (k + 1))).1 + (k + 1), (rfind nm (rs.drop (k + 1))).2)) := by
            show _ = _
            rw [H.out, hat, if_neg h1, if_neg h2]
            simp only
            rw [Nat.add_assoc, Nat.add_comm 1 k]
          rw [decide_eq_false h2] at hq2
          simp only [Bool.not_false] at hq2
          clear H hat h1 h2
          go_wp2
          go_roundw
          case rel => exact ⟨k + 1, by omega, by go_num, trivial, hgo⟩
          case measure => simp [intOf]; omega
    · obtain rfl : k = rs.length := by omega
      have hgo : Hid (rfind nm rs = (rs.length, false)) := by
        show _ = _
        rw [H.out, List.drop_length]; simp [rfind]
      clear H
      go_wp2
      refine bodyPost_ret (v := .tuple #[.int .i64 rs.length, .bool false]) (by simp [results, Tryd.results54, go_sem, *]) rfl ?_
      rw [hgo.out]
      exact ⟨rfl, rfl⟩
end Go.Proofs.YtmddgimadlmacaaDoor
/-! lists of files in the order of names, as plain lists -/
namespace Go.Proofs.YtmddgimadlmacaaDoor
open Go.RowKit Garner

section
variable {ν : Type}
abbrev Asc (l : List (Bs × ν)) : Prop := l.Pairwise fun p q => p.1 < q.1
def sput (nm : Bs) (v : ν) (l : List (Bs × ν)) : List (Bs × ν) := l.take (rfind nm l).1 ++ (nm, v) :: l.drop ((rfind nm l).1 + if (rfind nm l).2 then 1 else 0)
theorem sput_nil (nm : Bs) (v : ν) : sput nm v [] = [(nm, v)] := rfl
theorem sput_cons (nm : Bs) (v : ν) (p : Bs × ν) (r : List (Bs × ν)) : sput nm v (p :: r) = if p.1 = nm then (nm, v) :: r else if nm < p.1 then (nm, v) :: p :: r else p :: sput nm v r := by
  unfold sput
  by_cases h1 : p.1 = nm
  · rw [if_pos h1]; simp only [rfind, if_pos h1]; rfl
  · rw [if_neg h1]
    by_cases h2 : nm < p.1
    · rw [if_pos h2]; simp only [rfind, if_neg h1, if_pos h2]; rfl
    · rw [if_neg h2]; simp only [rfind, if_neg h1, if_neg h2]
      rw [List.take_succ_cons, List.cons_append, Nat.add_right_comm, List.drop_succ_cons]
theorem aget_sput (nm nm' : Bs) (v : ν) : ∀ l : List (Bs × ν), aget nm' (sput nm v l) = if nm' = nm then some v else aget nm' l
  | [] => by rw [sput_nil]; simp only [aget]
  | p :: r => by
    rw [sput_cons]
    by_cases h1 : p.1 = nm
    · rw [if_pos h1]
      obtain ⟨a, u⟩ := p
      simp only at h1
      subst h1
      simp only [aget]
      split <;> rfl
    · rw [if_neg h1]
      by_cases h2 : nm < p.1
      · rw [if_pos h2]; simp only [aget]
      · rw [if_neg h2]
        obtain ⟨a, u⟩ := p
        simp only [aget]
        rw [aget_sput nm nm' v r]
        by_cases h3 : nm' = a
        · rw [if_pos h3]
          by_cases h4 : nm' = nm
          · exact absurd (h3.symm.trans h4) h1
          · rw [if_neg h4, if_pos h3]
        · rw [if_neg h3, if_neg h3]
theorem mem_sput {nm : Bs} {v : ν} : ∀ {l : List (Bs × ν)} {q : Bs × ν}, q ∈ sput nm v l → q = (nm, v) ∨ q ∈ l
  | [], q, h => by rw [sput_nil] at h; exact Or.inl (by simpa using h)
  | p :: r, q, h => by
    rw [sput_cons] at h
    split at h
    · rcases List.mem_cons.1 h with h | h
      · exact Or.inl h
      · exact Or.inr (List.mem_cons_of_mem _ h)
    · split at h
      · rcases List.mem_cons.1 h with h | h
        · exact Or.inl h
        · exact Or.inr h
      · rcases List.mem_cons.1 h with h | h
        · exact Or.inr (h ▸ List.mem_cons_self)
        · rcases mem_sput h with h | h
          · exact Or.inl h
          · exact Or.inr (List.mem_cons_of_mem _ h)
theorem asc_sput {nm : Bs} {v : ν} : ∀ {l : List (Bs × ν)}, Asc l → Asc (sput nm v l)
  | [], _ => by rw [sput_nil]; exact List.pairwise_singleton _ _
  | p :: r, h => by
    obtain ⟨h1, h2⟩ := List.pairwise_cons.1 h
    rw [sput_cons]
    split
    · rename_i e
      exact List.pairwise_cons.2 ⟨fun q hq => by have := h1 q hq; rw [e] at this; exact this, h2⟩
    · rename_i hne
      split
      · rename_i hlt
        refine List.pairwise_cons.2 ⟨fun q hq => ?_, h⟩
        rcases List.mem_cons.1 hq with rfl | hq
        · exact hlt
        · exact List.lt_trans hlt (h1 q hq)
      · rename_i hge
        refine List.pairwise_cons.2 ⟨fun q hq => ?_, asc_sput h2⟩
        rcases mem_sput hq with rfl | hq
        · by_cases h4 : p.1 < nm
          · exact h4
          · exact absurd (List.le_antisymm (List.not_lt.1 hge) (List.not_lt.1 h4)) hne
        · exact h1 q hq
theorem rfind_del (nm : Bs) : ∀ l : List (Bs × ν), (rfind nm l).2 = true → l.take (rfind nm l).1 ++ l.drop ((rfind nm l).1 + 1) = adel nm l
  | [], h => by cases h
  | p :: r, h => by
    obtain ⟨a, u⟩ := p
    by_cases h1 : a = nm
    · subst h1; simp [rfind, adel]
    · by_cases h2 : nm < a
      · simp only [rfind, if_neg h1, if_pos h2] at h; cases h
      · simp only [rfind, if_neg h1, if_neg h2] at h ⊢
        rw [List.take_succ_cons, List.drop_succ_cons, List.cons_append, rfind_del nm r h]
        simp only [adel]
        rw [if_neg (fun e => h1 e.symm)]
theorem rfind_get (nm : Bs) : ∀ l : List (Bs × ν), (rfind nm l).2 = true → ∃ v, aget nm l = some v ∧ l[(rfind nm l).1]? = some (nm, v)
  | [], h => by cases h
  | p :: r, h => by
    obtain ⟨a, u⟩ := p
    by_cases h1 : a = nm
    · subst h1; exact ⟨u, by simp [aget], by simp [rfind]⟩
    · by_cases h2 : nm < a
      · simp only [rfind, if_neg h1, if_pos h2] at h; cases h
      · simp only [rfind, if_neg h1, if_neg h2] at h ⊢
        obtain ⟨v, h3, h4⟩ := rfind_get nm r h
        exact ⟨v, by simp only [aget]; rw [if_neg (fun e => h1 e.symm)]; exact h3, by simpa using h4⟩
theorem rfind_none (nm : Bs) : ∀ l : List (Bs × ν), Asc l → (rfind nm l).2 = false → aget nm l = none
  | [], _, _ => rfl
  | p :: r, h, hf => by
    obtain ⟨ha, hr⟩ := List.pairwise_cons.1 h
    obtain ⟨a, u⟩ := p
    by_cases h1 : a = nm
    · subst h1; simp [rfind] at hf
    · by_cases h2 : nm < a
      · refine aget_none fun hm => ?_
        obtain ⟨q, hq, e⟩ := List.mem_map.1 hm
        rcases List.mem_cons.1 hq with rfl | hq
        · exact h1 e
        · have := ha q hq
          rw [e] at this
          exact List.lt_irrefl _ (List.lt_trans h2 this)
      · simp only [rfind, if_neg h1, if_neg h2] at hf
        simp only [aget]
        rw [if_neg (fun e => h1 e.symm)]
        exact rfind_none nm r hr hf
end
end Go.Proofs.YtmddgimadlmacaaDoor
/-
  The same, where it is said whose memory the disk's is.
-/
namespace Go.Proofs.YtmddgimadlmacaaDoor
open Go.RowKit Garner

/-- the disk d lies at g, mp; its files' bytes lie where O says -/
def DiskO (O : Nat → Prop) (w : World) (g mp : Nat) (d : AD) : Prop := ∃ es, DiskIs O w g mp es d.fl d.dn d.left ∧ es.abs = d.fs
section
variable {O O' : Nat → Prop} {g mp : Nat} {d : AD} {w w' : World}
theorem DiskO.below (h : DiskO O w g mp d) (hb : Below w.heap.size w w') : DiskO O w' g mp d := by
  obtain ⟨es, h1, h2⟩ := h
  exact ⟨es, h1.below hb, h2⟩
theorem DiskO.mono (h : DiskO O w g mp d) (hO : ∀ b, O b → O' b) : DiskO O' w g mp d := by
  obtain ⟨es, h1, h2⟩ := h
  exact ⟨es, h1.mono hO, h2⟩
theorem DiskO.lt (h : DiskO O w g mp d) : DiskO (fun b => O b ∧ b < w.heap.size) w g mp d := by
  obtain ⟨es, h1, h2⟩ := h
  exact ⟨es, h1.lt, h2⟩
theorem DiskO.but {S : List Nat} (h : DiskO O w g mp d) (hb : But S w w') (hg : g ∉ S) (hm : mp ∉ S) (hO : ∀ b, O b → b < w.heap.size → b ∉ S) : DiskO O w' g mp d := by
  obtain ⟨es, h1, h2⟩ := h
  exact ⟨es, h1.but hb hg hm hO, h2⟩
theorem DiskO.a {base : Nat} (h : DiskO O w g mp d) (hO : ∀ b, O b → base ≤ b) (hg : base ≤ g) (hm : base ≤ mp) (hb : base ≤ w.heap.size) : DiskA base w g mp d := by
  obtain ⟨es, h1, h2⟩ := h
  exact ⟨⟨es, h1.mono hO, h2⟩, hg, hm, hb⟩
theorem DiskA.o {base : Nat} (h : DiskA base w g mp d) : DiskO (fun b => base ≤ b) w g mp d := h.ex
theorem DiskO.ltg (h : DiskO O w g mp d) : g < w.heap.size ∧ mp < w.heap.size := by
  obtain ⟨es, h1, _⟩ := h
  exact ⟨h1.blk.lt, MapIs.lt h1.map⟩
/-- a row of bytes of the call's own is neither the disk's box nor its map -/
theorem DiskO.ne_own (h : DiskO O w g mp d) {B n sz : Nat} {e : TypeId} {v : Value} {xs : List Value} (ho : w.ownsRow B e sz v n xs) (hne : e ≠ 76) : g ∉ v.ownBlock.toList ∧ mp ∉ v.ownBlock.toList := by
  obtain ⟨es, h1, _⟩ := h
  refine ⟨own_blk ho h1.blk hne, fun hm => ?_⟩
  rcases ho.2 with ⟨rfl, _⟩ | ⟨g', cap, cur, rfl, _, hh, _⟩
  · simp [Value.ownBlock] at hm
  · have e1 : mp = g' := by simpa [Value.ownBlock] using hm
    subst e1
    obtain ⟨_, _, hm1, _⟩ := h1.map
    rw [hm1] at hh; cases hh
end
section
variable (nm nm2 data : Bs) (A : Option Addr) (c B g mp : Nat) (d : AD) (O : Nat → Prop) (w : World)
theorem oAppend_calls (h : DiskO O w g mp d) (hr : Bytes w B A data.length data) (hB : B ≤ w.heap.size) (hl : (fget nm d.fs).1.length + data.length ≤ 140737488355328) :
    Calls Tryd.prog 10 #[.pointer (some ⟨g, 0, none⟩), .string (nmS nm), .slice A data.length c] w fun e w' => e = .returned (.int .i64 (aAppend nm data d).1) ∧ DiskO (fun b => O b ∨ w.heap.size ≤ b) w' g mp (aAppend nm data d).2 ∧ But [g, mp] w w' := by
  obtain ⟨es, h1, h2⟩ := h
  obtain ⟨fs, fl, dn, left⟩ := d
  simp only at h1 h2
  subst h2
  simp only [aAppend]
  by_cases h0 : dmay [nmS nm] dn = 0
  · rw [if_neg (by simpa using h0)]
    obtain ⟨e1, e2⟩ := chg_eq (left := left) h0
    cases fl with
    | true =>
      refine (vAppend_full nm g mp es dn left _ w _ h1 h0).mono ?_
      rintro e w' ⟨rfl, hd, hb⟩
      rw [e1, e2] at hd
      exact ⟨rfl, ⟨es, hd.mono fun _ h => Or.inl h, rfl⟩, hb⟩
    | false =>
      simp only [fget_abs] at hl
      refine (vAppend_ok nm data A c B g mp es dn left _ w h1 h0 hr hB hl).mono ?_
      rintro e w' ⟨rfl, A', c', hd, hb⟩
      rw [e1, e2] at hd
      exact ⟨rfl, ⟨_, hd.mono (fun _ h => h), by rw [abs_aput]; simp only [fget_abs]; rfl⟩, hb⟩
  · rw [if_pos h0]
    refine (vAppend_no nm g mp es fl dn left _ w _ h1 h0).mono ?_
    rintro e w' ⟨rfl, hd, hb⟩
    exact ⟨rfl, ⟨es, hd.mono fun _ h => Or.inl h, rfl⟩, hb⟩
theorem oSync_calls (h : DiskO O w g mp d) :
    Calls Tryd.prog 50 #[.pointer (some ⟨g, 0, none⟩), .string (nmS nm)] w fun e w' => e = .returned (.int .i64 (aSync nm d).1) ∧ DiskO (fun b => O b ∨ w.heap.size ≤ b) w' g mp (aSync nm d).2 ∧ But [g, mp] w w' := by
  obtain ⟨es, h1, h2⟩ := h
  obtain ⟨fs, fl, dn, left⟩ := d
  simp only at h1 h2
  subst h2
  simp only [aSync]
  by_cases h0 : dmay [nmS nm] dn = 0
  · rw [if_neg (by simpa using h0)]
    obtain ⟨e1, e2⟩ := chg_eq (left := left) h0
    cases hn : aget nm es.abs with
    | none =>
      refine (vSync_none nm g mp es fl dn left _ w h1 h0 (aget_abs_none hn)).mono ?_
      rintro e w' ⟨rfl, hd, hb⟩
      rw [e1, e2] at hd
      exact ⟨rfl, ⟨es, hd.mono fun _ h => Or.inl h, rfl⟩, hb⟩
    | some f =>
      obtain ⟨old, ho, rfl⟩ := aget_abs_some hn
      refine (vSync_ok nm g mp es fl dn left _ w old h1 h0 ho).mono ?_
      rintro e w' ⟨rfl, hd, hb⟩
      rw [e1, e2] at hd
      exact ⟨rfl, ⟨_, hd.mono fun _ h => Or.inl h, by rw [abs_aput]⟩, hb⟩
  · rw [if_pos h0]
    refine (vSync_no nm g mp es fl dn left _ w h1 h0).mono ?_
    rintro e w' ⟨rfl, hd, hb⟩
    exact ⟨rfl, ⟨es, hd.mono fun _ h => Or.inl h, rfl⟩, hb⟩
theorem oDelete_calls (h : DiskO O w g mp d) :
    Calls Tryd.prog 35 #[.pointer (some ⟨g, 0, none⟩), .string (nmS nm)] w fun e w' => e = .returned (.int .i64 (aDelete nm d).1) ∧ DiskO (fun b => O b ∨ w.heap.size ≤ b) w' g mp (aDelete nm d).2 ∧ But [g, mp] w w' := by
  obtain ⟨es, h1, h2⟩ := h
  obtain ⟨fs, fl, dn, left⟩ := d
  simp only at h1 h2
  subst h2
  simp only [aDelete]
  by_cases h0 : dmay [nmS nm] dn = 0
  · rw [if_neg (by simpa using h0)]
    obtain ⟨e1, e2⟩ := chg_eq (left := left) h0
    cases hn : aget nm es.abs with
    | none =>
      refine (vDelete_none nm g mp es fl dn left _ w h1 h0 (aget_abs_none hn)).mono ?_
      rintro e w' ⟨rfl, hd, hb⟩
      rw [e1, e2] at hd
      exact ⟨rfl, ⟨es, hd.mono fun _ h => Or.inl h, rfl⟩, hb⟩
    | some f =>
      obtain ⟨old, ho, rfl⟩ := aget_abs_some hn
      refine (vDelete_ok nm g mp es fl dn left _ w old h1 h0 ho).mono ?_
      rintro e w' ⟨rfl, hd, hb⟩
      rw [e1, e2] at hd
      exact ⟨rfl, ⟨_, hd.mono fun _ h => Or.inl h, by rw [abs_adel]⟩, hb⟩
  · rw [if_pos h0]
    refine (vDelete_no nm g mp es fl dn left _ w h1 h0).mono ?_
    rintro e w' ⟨rfl, hd, hb⟩
    exact ⟨rfl, ⟨es, hd.mono fun _ h => Or.inl h, rfl⟩, hb⟩
theorem oRestart_calls (keep : List Int) (h : DiskO O w g mp d) (hr : Row w w.heap.size 1 A keep.length (keep.map (Value.int .i64)))
    (hA : 0 < keep.length → ∀ b off, A = some ⟨b, off, none⟩ → b ≠ g ∧ b ≠ mp) (hkl : keep.length ≤ 140737488355328) (hkr : ∀ k ∈ keep, in64 k) (hn : d.fs.length * 16 ≤ 140737488351232) :
    Calls Tryd.prog 32 #[.pointer (some ⟨g, 0, none⟩), .slice A keep.length c] w fun e w' => e = .returned (.tuple #[]) ∧ DiskO (fun b => O b ∨ w.heap.size ≤ b) w' g mp (aRestart keep d) ∧ But [g, mp] w w' := by
  obtain ⟨es, h1, h2⟩ := h
  refine (vRestart keep A c g mp es d.fl d.dn d.left _ w hr hA hkl hkr h1 (by rw [← abs_len, h2]; exact hn)).mono ?_
  rintro e w' ⟨rfl, es', hd, ha, hb⟩
  exact ⟨rfl, ⟨es', hd.mono (fun _ h => h), by rw [ha, h2]; rfl⟩, hb⟩
end
end Go.Proofs.YtmddgimadlmacaaDoor
