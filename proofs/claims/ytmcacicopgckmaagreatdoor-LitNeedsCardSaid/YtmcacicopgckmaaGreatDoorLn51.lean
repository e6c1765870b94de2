import Derived.Test.YtmcacicopgckmaaGreatDoorLn49
import Derived.Test.YtmcacicopgckmaaGreatDoorLn50
import Derived.Test.YtmcacicopgckmaaGreatDoorLn48
import Derived.Test.YtmcacicopgckmaaGreatDoorLn38

/-! garnerref21: Needs, Words -/
namespace Garner
open Go
def errN (o : Except Nat (List Bs)) : Nat := match o with
  | .error k => k
  | .ok _ => 0
def lstN (o : Except Nat (List Bs)) : List Bs := match o with
  | .error _ => []
  | .ok l => l
def allOf (x : Bs) : List Bs := allW true false (runesP x)
theorem allOf_len (x : Bs) : (allOf x).length ≤ x.length := Nat.le_trans (allW_len _ _ _) (runes_len _ x (Nat.le_refl _))
theorem flat_len2 {α β : Type} : ∀ (l : List α) (f : α → List β) (m : Nat), (∀ x ∈ l, (f x).length ≤ m) → (l.flatMap f).length ≤ l.length * m
  | [], f, m, _ => by simp
  | a :: l, f, m, h => by
    have h1 := flat_len2 l f m fun x hx => h x (by simp [hx])
    have h2 := h a (by simp)
    rw [List.flatMap_cons, List.length_append, List.length_cons, Nat.add_mul]
    omega
end Garner
namespace Go.Proofs.YtmcacicopgckmaaGreatDoor
open Go.RowKit Garner
/-- what is answered: texts, and a number -/
def StrsQ (o : Except Nat (List Bs)) (B : Nat) (e : Ending) (w' : World) : Prop := ∃ v, e = .returned (.tuple #[v, .int .i64 (errN o : Nat)]) ∧ w'.ownsRow B 9 1 v (lstN o).length ((lstN o).map strV)
theorem StrsP.q {o : Except Nat (List Bs)} {B : Nat} {e : Ending} {w' : World} (h : StrsP o B e w') : StrsQ o B e w' := by
  cases o with
  | error k => exact ⟨_, h, World.ownsRow_nil _ _ _ _⟩
  | ok l => exact h
set_option maxRecDepth 100000 in
set_option maxHeartbeats 16000000 in
theorem gNeeds (l : Bs) (w : World) (hl : l.length ≤ 9223372036854775807) :
    Calls Tryz.prog 10 #[str l] w fun e w' => Below w.heap.size w w' ∧ StrsQ (needsE l) w.heap.size e w' := by
  have hp := qParse l w hl
  have hu := fun t => @rexp_uni l t
  have hg := fun t => @rexp_good l t
  have he := fun k => @err_pos l k
  obtain ⟨OUT, hO⟩ : ∃ OUT, needsE l = OUT := ⟨_, rfl⟩
  rw [hO]
  have HOut := Lib.hid hO
  clear hO
  obtain ⟨S, hS⟩ : ∃ S : ByteArray, S = ⟨l.toArray⟩ := ⟨_, rfl⟩
  rw [show str l = .string S by rw [hS]] at hp ⊢
  have HP := Lib.hid hp; have HU := Lib.hid hu; have HG := Lib.hid hg; have HE := Lib.hid he
  clear hp hu hg he hS
  go_enter Tryz.func10, Tryz.ntmps10
  go_wp2_with fail
  refine HP.out.mono ?_
  rintro e w1 ⟨b1, ho⟩
  cases hx : rexpP l with
  | error k =>
    rw [hx] at ho
    obtain rfl := ho
    have hk0 := HE.out k hx
    have hout : OUT = .error k := by rw [← HOut.out]; unfold needsE; rw [hx]
    have HOut2 := Lib.hid hout
    have z1 : ¬ (k : Int) = 0 := by omega
    have z1b : ((k : Int) != 0) = true := by simp; omega
    have HB1 := Lib.hid b1
    clear hx b1 HP HU HG HE hk0 hout
    go_wp2
    go_ret2
    refine ⟨HB1.out, ?_⟩
    rw [HOut2.out]
    exact ⟨_, rfl, World.ownsRow_nil _ _ _ _⟩
  | ok t =>
    rw [hx] at ho
    obtain ⟨v, rfl, hN⟩ := ho
    obtain ⟨NA, nc, rfl⟩ : ∃ NA nc, v = .slice NA (t.flat 0).length nc := by
      obtain ⟨ds, -, h1, -⟩ := hN
      obtain ⟨NA, nc, h, -⟩ := own_form h1
      exact ⟨NA, nc, h⟩
    have hcp := cnt_pos t
    have hcn := (HG.out t hx).cnt
    have hout : OUT = .ok (needsP t) := by rw [← HOut.out]; unfold needsE; rw [hx]
    have HOut2 := Lib.hid hout
    clear hout
    have ho := ofAll hN t.cnt t (Nat.le_refl _) (by omega) (HU.out t hx) 0 w1 (fun k nd h => by rw [Nat.zero_add]; exact h) (Below.refl _ _)
    have hll := litRow_len [t] []
    have hlt : (litT t).length ≤ 20002 := by simp [cnts] at hll; unfold litT; omega
    obtain ⟨N, hNl⟩ : ∃ N, (t.flat 0).length = N := ⟨_, rfl⟩
    have hNc : N = t.cnt := by rw [← hNl, flat_len]
    rw [hNl, Nat.zero_add, ← hNc] at ho
    rw [hNl]
    have wN : IntKind.i64.wrap ((N : Int) - 1) = ((N - 1 : Nat) : Int) := by rw [IntKind.wrap_i64]; omega
    have HO := Lib.hid ho; have HB1 := Lib.hid b1; have HLt := Lib.hid hlt
    clear hx b1 ho hN HP HU HG HE hNl hNc hcp hcn hll hlt
    go_wp2_with fail
    refine HO.out.mono ?_
    rintro e w2 ⟨v2, rfl, o2, b2⟩
    obtain ⟨A2, c2, rfl, -⟩ := own_form o2
    have hs2 := b2.size
    have hone := vOnce7 (litT t) A2 _ c2 w2.heap.size w2 rfl (Row.of_own o2) (Nat.le_refl _) (by have := HLt.out; omega)
    obtain ⟨n2, hn2⟩ : ∃ n2, (litT t).length = n2 := ⟨_, rfl⟩
    rw [hn2] at hone ⊢
    have HOne := Lib.hid hone; have HB2 := Lib.hid (HB1.out.trans (b2.mono HB1.out.size))
    clear hone o2 b2 hn2 HO
    go_wp2_with fail
    refine HOne.out.mono ?_
    rintro e w3 ⟨v3, rfl, o3, b3⟩
    have O3 := Lib.hid (own_mono o3 HB2.out.size); have HB3 := Lib.hid (HB2.out.trans (b3.mono HB2.out.size))
    clear o3 b3 HOne
    go_wp2
    go_ret2
    refine ⟨HB3.out, ?_⟩
    rw [HOut2.out]
    exact ⟨_, rfl, O3.out⟩
set_option maxRecDepth 100000 in
set_option maxHeartbeats 16000000 in
theorem gWords (l : Bs) (w : World) (hl : l.length ≤ 9223372036854775807) :
    Calls Tryz.prog 12 #[str l] w fun e w' => Below w.heap.size w w' ∧ StrsQ (wordsE l) w.heap.size e w' := by
  have hp := gNeeds l w hl
  have hall : lstN (wordsE l) = onceB ((lstN (needsE l)).flatMap allOf) ∧ errN (wordsE l) = errN (needsE l) ∧ (lstN (needsE l)).length ≤ 20001 ∧ ∀ x ∈ lstN (needsE l), x.length ≤ 40000 := by
    unfold wordsE
    have hn := fun ns => @needs_ok l ns
    unfold needsE at hn ⊢
    cases h : rexpP l with
    | error k => exact ⟨(List.eq_nil_of_length_eq_zero (by have := once_len ([] : List Bs); simpa using this) : onceB [] = []).symm, rfl, Nat.zero_le _, fun x hx => by cases hx⟩
    | ok t =>
      rw [h] at hn
      obtain ⟨h1, h2⟩ := hn _ rfl
      exact ⟨wordsE_all h, rfl, h1, h2⟩
  obtain ⟨h1, h2, h3, h4⟩ := hall
  unfold StrsQ
  rw [h1, h2]
  obtain ⟨NL, hNL⟩ : ∃ NL, lstN (needsE l) = NL := ⟨_, rfl⟩
  obtain ⟨k, hk⟩ : ∃ k, errN (needsE l) = k := ⟨_, rfl⟩
  unfold StrsQ at hp
  rw [hNL, hk] at hp
  rw [hNL] at h3 h4 ⊢
  rw [hk]
  obtain ⟨nN, hnN⟩ : ∃ nN, NL.length = nN := ⟨_, rfl⟩
  rw [hnN] at hp h3
  obtain ⟨S, hS⟩ : ∃ S : ByteArray, S = ⟨l.toArray⟩ := ⟨_, rfl⟩
  rw [show str l = .string S by rw [hS]] at hp ⊢
  have hfl : ∀ j, ((NL.take j).flatMap allOf).length ≤ 900000000 := fun j => by
    have h5 := flat_len2 (NL.take j) allOf 40000 fun x hx => Nat.le_trans (allOf_len x) (h4 x (List.mem_of_mem_take hx))
    have h6 : (NL.take j).length ≤ 20001 := by rw [List.length_take]; omega
    have h7 := Nat.mul_le_mul_right 40000 h6
    omega
  have HP := Lib.hid hp; have HnN := Lib.hid hnN; have H4 := Lib.hid h4; have HFl := Lib.hid hfl
  clear hp h1 h2 h4 hNL hk hnN hS hfl
  go_enter Tryz.func12, Tryz.ntmps12
  go_wp2_with fail
  refine HP.out.mono ?_
  rintro e w1 ⟨b1, v1, rfl, o1⟩
  obtain ⟨A1, c1, rfl, -⟩ := own_form o1
  have HR := Lib.hid (Row.of_own o1); have HB1 := Lib.hid b1
  clear o1 b1 HP
  go_wp2
  go_loopw [6, 7] (fun v i wr => ∃ (j : Nat) (out : List Bs), j ≤ nN ∧ i = .int .i64 j ∧ Hid (out = (NL.take j).flatMap allOf) ∧ Hid (wr.ownsRow w1.heap.size 9 1 v out.length (out.map strV)) ∧ Hid (Below w1.heap.size w1 wr)) (fun _ i _ => nN - (intOf i).toNat)
  case atStart => exact ⟨0, [], Nat.zero_le _, rfl, Lib.hid rfl, Lib.hid (World.ownsRow_nil _ _ _ _), Lib.hid (Below.refl _ _)⟩
  case round =>
    obtain ⟨j, out, hj, rfl, hout, hO, hbw⟩ := hrel
    obtain ⟨wo, rfl⟩ : ∃ wo : World, wo = wr := ⟨_, rfl⟩
    obtain ⟨OA, oc, rfl, -⟩ := own_form hO.out
    obtain ⟨on, hon⟩ : ∃ on, out.length = on := ⟨_, rfl⟩
    have hon9 : on ≤ 900000000 := by rw [← hon, hout.out]; exact HFl.out j
    rw [hon] at hO ⊢
    have Hon := Lib.hid hon
    clear hon
    have wj1 : IntKind.i64.wrap ((j : Int) + 1) = ((j + 1 : Nat) : Int) := by rw [IntKind.wrap_i64]; omega
    by_cases hlt : j < nN
    · have z1 : (j : Int) < (nN : Int) := by omega
      obtain ⟨x, hx⟩ : ∃ x, NL[j]? = some x := ⟨_, List.getElem?_eq_getElem (by rw [HnN.out]; exact hlt)⟩
      obtain ⟨bN, oN, rfl, hbN, cN0⟩ := str_at HR.out hx
      have cN : wo.cell? ⟨bN, oN + j, none⟩ = some (.string ⟨x.toArray⟩) := by
        rw [hbw.out.cell (p := ⟨bN, oN + j, none⟩) (by show bN < _; omega)]; exact cN0
      obtain ⟨X, hX⟩ : ∃ X : ByteArray, X = ⟨x.toArray⟩ := ⟨_, rfl⟩
      rw [← hX] at cN
      have hxl := H4.out x (List.mem_of_getElem? hx)
      have ha := gAll X x hX true wo (by omega)
      have hnx : (NL.take (j + 1)).flatMap allOf = out ++ allOf x := by
        rw [List.take_add_one, hx, Option.toList_some, List.flatMap_append, ← hout.out]; simp
      have hln := HFl.out (j + 1)
      rw [hnx, List.length_append, Hon.out] at hln
      have HA := Lib.hid ha; have HNx := Lib.hid hnx
      obtain ⟨L, hL⟩ : ∃ L, allW true false (runesP x) = L := ⟨_, rfl⟩
      have hL' : allOf x = L := hL
      rw [hL'] at hln
      obtain ⟨nL, hnL⟩ : ∃ nL, L.length = nL := ⟨_, rfl⟩
      rw [hnL] at hln
      have hHA : Hid (Calls Tryz.prog 38 #[.string X, .bool true] wo fun e w' => ∃ v, e = .returned v ∧ w'.ownsRow wo.heap.size 9 1 v nL (L.map strV) ∧ Below wo.heap.size wo w') := Lib.hid (by
        have := HA.out
        rwa [hL, hnL] at this)
      have HL2 := Lib.hid hL'; have HnL := Lib.hid hnL
      clear ha hnx hX hx cN0 hxl HA hL hL' hnL
      go_wp2_with fail
      refine hHA.out.mono ?_
      rintro e w2 ⟨v2, rfl, o2, b2⟩
      obtain ⟨A2, c2, rfl, -⟩ := own_form o2
      have hB2 := hbw.out.trans (b2.mono hbw.out.size)
      have HO2 := Lib.hid (own_below hO.out b2); have HR2 := Lib.hid (Row.of_own o2); have HB2 := Lib.hid hB2
      have hs2 := hB2.size
      clear o2 b2 hB2 hO hHA cN
      go_wp2_with (at_builtin; refine wpList_app _ rfl strE rfl rfl HO2.out rfl HR2.out (strV_one _) (by omega) hs2 ?_; intro v8 w8 own8 hg8 hb8 hx8)
      have hO8 : Hid (w8.ownsRow w1.heap.size 9 1 v8 ((NL.take (j + 1)).flatMap allOf).length (((NL.take (j + 1)).flatMap allOf).map strV)) := Lib.hid (by
        rw [HNx.out, List.length_append, Hon.out, HL2.out, HnL.out, List.map_append]
        exact own8)
      have HB8 := Lib.hid (HB2.out.trans hb8)
      clear own8 hg8 hb8 hx8
      go_wp2
      go_roundw
      case rel => exact ⟨j + 1, _, by omega, by first | rfl | go_num, Lib.hid rfl, hO8, HB8⟩
      case measure => simp [intOf]; omega
    · obtain rfl : j = nN := by omega
      have z1 : ¬ (j : Int) < (j : Int) := by omega
      have hall : NL.flatMap allOf = out := by rw [hout.out, List.take_of_length_le (by rw [HnN.out]; exact Nat.le_refl _)]
      have hone := vOnce7 out OA _ oc wo.heap.size wo rfl (by rw [Hon.out]; exact Row.of_own hO.out) (Nat.le_refl _) (by rw [Hon.out]; omega)
      rw [Hon.out] at hone
      have HOne := Lib.hid hone; have HAll := Lib.hid hall; have HBo := Lib.hid (HB1.out.trans (hbw.out.mono HB1.out.size))
      clear hone hall hout
      go_wp2_with fail
      refine HOne.out.mono ?_
      rintro e w3 ⟨v3, rfl, o3, b3⟩
      have O3 := Lib.hid (own_mono o3 HBo.out.size); have HB3 := Lib.hid (HBo.out.trans (b3.mono HBo.out.size))
      clear o3 b3 HOne
      go_wp2
      go_ret2
      exact ⟨HB3.out, _, rfl, by rw [HAll.out]; exact O3.out⟩
end Go.Proofs.YtmcacicopgckmaaGreatDoor

