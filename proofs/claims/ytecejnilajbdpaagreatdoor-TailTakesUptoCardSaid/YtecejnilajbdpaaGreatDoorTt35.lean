import Derived.Test.YtecejnilajbdpaaGreatDoorTt34
import Derived.Test.YtecejnilajbdpaaGreatDoorTt28
import Derived.Test.YtecejnilajbdpaaGreatDoorTt22
import Derived.Sort.OwnSortedInts
/-! rows of ints of the call's own: cut, sorted, cloned; an instruction looked at -/
namespace Go.Proofs.YtecejnilajbdpaaGreatDoor
open Go.RowKit Go.Shelf Garner
/-- where a slice of ints lies that is handed to the library -/
def PlainA (A : Option Addr) (c : Nat) : Prop := (A = none ∧ c = 0) ∨ ∃ b off, A = some ⟨b, off, none⟩
theorem PlainA.of_own {w : World} {B : Nat} {e : TypeId} {sz n c : Nat} {A : Option Addr} {xs : List Value} (h : w.ownsRow B e sz (.slice A n c) n xs) : PlainA A c := by
  rcases h.2 with ⟨e1, -⟩ | ⟨g, cap, cur, e1, -⟩
  · cases e1; exact .inl ⟨rfl, rfl⟩
  · cases e1; exact .inr ⟨_, _, rfl⟩
theorem vSortI (v : Value) (l : List Nat) (B : Nat) (w : World) (hown : w.ownsRow B 3 1 v l.length (l.map iv)) (hl : l.length < 4611686018427387904) :
    Calls Tryz.prog 131 #[v] w fun e w' => e = .returned (.tuple #[]) ∧ ∃ l' : List Nat, l'.Perm l ∧ l'.Pairwise (· ≤ ·) ∧ w'.ownsRow B 3 1 v l.length (l'.map iv) ∧ w.grownBy w' v.ownBlock := by
  rcases hown.2 with ⟨rfl, h0⟩ | ⟨g, cap, cur, rfl, hbase, hb, h1, h2, h3, h4⟩
  · have hnil := List.eq_nil_of_length_eq_zero h0
    subst hnil
    refine (Tryz.slices_Sort_int_none none 0 w).mono ?_
    rintro e w' ⟨rfl, rfl⟩
    exact ⟨rfl, [], .refl _, .nil, hown, World.grownBy.refl _ _⟩
  · obtain ⟨zs, hzs⟩ : ∃ zs : List Int, zs = l.map fun n : Nat => (n : Int) := ⟨_, rfl⟩
    have hzl : zs.length = l.length := by rw [hzs, List.length_map]
    have hzm : zs.map (Value.int .i64) = l.map iv := by rw [hzs, List.map_map]; rfl
    have hH := Go.holds_of_blockI (ss := zs) hb (by rw [hzl, hzm]; simpa using h4)
    have hs := Tryz.slices_Sort_int g 0 cap zs w hH (Array.getElem?_eq_some_iff.1 hb).1 (by omega)
    rw [hzl] at hs
    refine hs.mono ?_
    rintro e w' ⟨rfl, n, os, rfl⟩
    have hp := List.mergeSort_perm zs fun x y => decide (x ≤ y)
    have hpw : (zs.mergeSort fun x y => decide (x ≤ y)).Pairwise fun x y => decide (x ≤ y) = true := List.pairwise_mergeSort (fun a b c h1 h2 => by simp only [decide_eq_true_eq] at *; omega) (fun a b => by simp only [Bool.or_eq_true, decide_eq_true_eq]; omega) zs
    obtain ⟨ts, hts⟩ : ∃ ts, (zs.mergeSort fun x y => decide (x ≤ y)) = ts := ⟨_, rfl⟩
    rw [hts] at hp hpw ⊢
    have htl : ts.length = zs.length := hp.length_eq
    have hmem : ∀ z ∈ ts, ((z.toNat : Nat) : Int) = z := fun z hz => by
      have := hp.mem_iff.1 hz
      rw [hzs] at this
      obtain ⟨m, -, rfl⟩ := List.mem_map.1 this
      omega
    refine ⟨rfl, ts.map Int.toNat, ?_, ?_, ?_, Go.grownBy_sortedI _⟩
    · have h := hp.map Int.toNat
      have e2 : zs.map Int.toNat = l := by
        rw [hzs, List.map_map]
        conv => rhs; rw [← List.map_id l]
        exact List.map_congr_left fun a _ => by simp
      rw [e2] at h
      exact h
    · refine List.pairwise_map.2 (hpw.imp fun {a b} h => ?_)
      simp only [decide_eq_true_eq] at h
      omega
    · have e3 : (ts.map Int.toNat).map iv = ts.map (Value.int .i64) := by
        rw [List.map_map]
        exact List.map_congr_left fun z hz => by
          show Value.int .i64 ((z.toNat : Nat) : Int) = _
          rw [hmem z hz]
      rw [e3, ← hzl]
      exact Go.ownsRow_sortedI htl hbase hb (by omega) h2 h3
theorem vCloneI (l : List Nat) (A : Option Addr) (n c : Nat) (w : World) (hn : l.length = n) (hA : PlainA A c) (hr : RowT w 3 A n (l.map iv)) (hl : n ≤ 1000000000) :
    Calls Tryz.prog 130 #[.slice A n c] w fun e w' => ∃ v, e = .returned v ∧ w'.ownsRow w.heap.size 3 1 v n (l.map iv) ∧ Below w.heap.size w w' := by
  rcases hA with ⟨rfl, rfl⟩ | ⟨b, off, rfl⟩
  · have h0 : n = 0 := by
      rcases Nat.eq_zero_or_pos n with h | h
      · exact h
      · obtain ⟨b, off, cs, z, e, -⟩ := hr.2 h; cases e
    subst h0
    obtain rfl := List.eq_nil_of_length_eq_zero hn
    refine (Tryz.slices_Clone_int_nil 0 0 w).mono ?_
    rintro e w' ⟨rfl, rfl⟩
    exact ⟨_, rfl, World.ownsRow_nil _ _ _ _, Below.refl _ _⟩
  · obtain ⟨zs, hzs⟩ : ∃ zs : List Int, zs = l.map fun n : Nat => (n : Int) := ⟨_, rfl⟩
    have hzl : zs.length = n := by rw [hzs, List.length_map, hn]
    have hzm : zs.map (Value.int .i64) = l.map iv := by rw [hzs, List.map_map]; rfl
    refine (Tryz.slices_Clone_int b off n c zs w (by omega) (by omega) (fun j hj => ?_)).mono ?_
    · have hj' : j < l.length := by omega
      obtain ⟨b', off', e, hc⟩ := hr.at_ (k := j) (u := iv l[j]) (by rw [List.getElem?_map, List.getElem?_eq_getElem hj']; rfl)
      cases e
      rw [hc, hzs]
      simp [List.getD, hj', iv]
    · rintro e w' ⟨v, rfl, ho, -, hb⟩
      rw [show zs.take n = zs from List.take_of_length_le (by omega), hzm] at ho
      exact ⟨v, rfl, ho, hb⟩
theorem ProgIs.look {W0 : World} {B : Nat} {L : Value} {w : World} {g : Nat} {ins : List InstP} (h : ProgIs W0 B L w g ins) {f : Nat} {p : InstP} (hf : ins[f]? = some p) :
    ∃ gI m sA sc, w.cell? ⟨g, 1, none⟩ = some (.slice (some ⟨gI, 0, none⟩) ins.length m) ∧ w.cell? ⟨gI, f * 4, none⟩ = some (.int .i64 p.kind) ∧ w.cell? ⟨gI, f * 4 + 1, none⟩ = some (.int .i64 p.x) ∧ w.cell? ⟨gI, f * 4 + 2, none⟩ = some (.int .i64 p.y) ∧ w.cell? ⟨gI, f * 4 + 3, none⟩ = some (.slice sA p.runes.length sc) ∧ RowT W0 21 sA p.runes.length (p.runes.map rv) := by
  obtain ⟨O, m, hb, ds, hds, hown, hall⟩ := h.ex
  obtain ⟨hlt, -⟩ := List.getElem?_eq_some_iff.1 hf
  obtain ⟨gI, rfl, hBI, hgI, -, -, hc⟩ := own_at hown (by omega)
  rw [← hds, List.getElem?_map] at hf
  cases hd : ds[f]? with
  | none => rw [hd] at hf; cases hf
  | some d =>
  rw [hd] at hf
  injection hf with ep
  have hdm := hall d (List.mem_of_getElem? hd)
  subst ep
  exact ⟨gI, m, d.sA, d.sc, hb.cell 1, by rw [hc _ (by omega)]; exact inst_at hd 0 (by omega), by rw [hc _ (by omega)]; exact inst_at hd 1 (by omega), by rw [hc _ (by omega)]; exact inst_at hd 2 (by omega), by rw [hc _ (by omega)]; exact inst_at hd 3 (by omega), hdm⟩
theorem ProgIs.lens {W0 : World} {B : Nat} {L : Value} {w : World} {g : Nat} {ins : List InstP} (h : ProgIs W0 B L w g ins) : ∃ O m, w.cell? ⟨g, 1, none⟩ = some (.slice O ins.length m) := by
  obtain ⟨O, m, hb, -⟩ := h.ex
  exact ⟨O, m, hb.cell 1⟩
end Go.Proofs.YtecejnilajbdpaaGreatDoor

