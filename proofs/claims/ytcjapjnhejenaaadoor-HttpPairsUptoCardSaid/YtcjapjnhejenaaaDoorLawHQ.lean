import Derived.Test.YtcjapjnhejenaaaDoorHtY
/-! HttpPairs: the walk -/
namespace Garner
open Go
def sumQ (ps : List (Bs × Bs)) : Nat := (ps.map fun p => p.1.length + p.2.length + 2).sum
theorem sumQ_snoc (ps : List (Bs × Bs)) (p : Bs × Bs) : sumQ (ps ++ [p]) = sumQ ps + (p.1.length + p.2.length + 2) := by simp [sumQ]
theorem sumQ_take (ps : List (Bs × Bs)) : ∀ k, sumQ (ps.take k) ≤ sumQ ps := by
  induction ps with
  | nil => intro k; simp
  | cons p ps ih =>
    intro k
    cases k with
    | zero => simp [sumQ]
    | succ k =>
      have := ih k
      simp only [sumQ, List.take_succ_cons, List.map_cons, List.sum_cons] at this ⊢
      omega
theorem sumQ_at {ps : List (Bs × Bs)} {k : Nat} {p : Bs × Bs} (h : ps[k]? = some p) : sumQ (ps.take k) + (p.1.length + p.2.length + 2) ≤ sumQ ps := by
  have h1 := sumQ_take ps (k + 1)
  rw [List.take_add_one, h, Option.toList_some, sumQ_snoc] at h1
  exact h1
theorem segP_len (p : Bs × Bs) : (segP p).length + 1 ≤ 3 * (p.1.length + p.2.length + 2) := by
  simp [segP, escP_len]; omega
theorem qryP_len (ps : List (Bs × Bs)) : (qryP ps).length ≤ 3 * sumQ ps := by
  have ht : ∀ ps : List (Bs × Bs), (tailQ ps).length ≤ 3 * sumQ ps := by
    intro ps
    induction ps with
    | nil => simp [tailQ]
    | cons p ps ih =>
      have h := segP_len p
      have e : tailQ (p :: ps) = 38 :: (segP p ++ tailQ ps) := by simp [tailQ]
      rw [e]
      simp only [sumQ, List.map_cons, List.sum_cons, List.length_cons, List.length_append] at ih ⊢
      omega
  cases ps with
  | nil => simp [qryP]
  | cons p ps =>
    have h := segP_len p
    have := ht ps
    simp only [qryP, sumQ, List.map_cons, List.sum_cons, List.length_cons, List.length_append] at this ⊢
    omega
theorem len_sumQ : ∀ ps : List (Bs × Bs), ps.length ≤ sumQ ps
  | [] => Nat.le_refl _
  | p :: ps => by
    have := len_sumQ ps
    simp only [sumQ, List.map_cons, List.sum_cons, List.length_cons] at this ⊢
    omega
theorem pair_take {ps : List (Bs × Bs)} {k : Nat} {p : Bs × Bs} (h : ps[k]? = some p) : ps.take (k + 1) = ps.take k ++ [p] := by rw [List.take_add_one, h, Option.toList_some]
theorem allOk_snoc (path : Bs) (ps : List (Bs × Bs)) (p : Bs × Bs) : allOk path (ps ++ [p]) = (allOk path ps && validP p.1 && validP p.2) := by simp [allOk, okP, Bool.and_assoc]
def getSl : Bs := [71, 69, 84, 32, 47]
/-- what stands so far -/
def soFar (path : Bs) (ps : List (Bs × Bs)) : Bs := getSl ++ escP path ++ qryP ps
theorem soFar_len (path : Bs) (ps : List (Bs × Bs)) : (soFar path ps).length ≤ 5 + 3 * path.length + 3 * sumQ ps := by
  have := qryP_len ps
  simp [soFar, getSl, escP_len]; omega
def hostEnd : Bs := [32, 72, 84, 84, 80, 47, 49, 46, 49, 13, 10, 72, 111, 115, 116, 58, 32, 120, 13, 10, 13, 10]
theorem soFar_end (path : Bs) (ps : List (Bs × Bs)) : soFar path ps ++ hostEnd = pairS path ps := by
  simp [soFar, getSl, hostEnd, pairS, hdP, fstL, getS, tgtP, http11, hostL, crlf]
end Garner
namespace Go.Proofs.YtcjapjnhejenaaaDoor
open Go.RowKit Go.Shelf Garner

/-- Parse of a string turned to bytes -/
theorem gParse (s : ByteArray) (N : Nat) (u : World) (hL : Lt u) (hs : s.size = N) (hN : N ≤ 4000000000) (ls : Bs) (hd : s.data.toList = ls) :
    ∃ c u1, (convert 9 22 (.string s)).run Tryd.prog u = .ok (.slice (some ⟨u.heap.size, 0, none⟩) N c) u1 ∧ Below u.heap.size u u1 ∧
      Calls Tryd.prog 9 #[.slice (some ⟨u.heap.size, 0, none⟩) N c] u1 fun e w' => ∃ (x0 x1 : ByteArray) (A2 : Option Addr) (n2 c2 : Nat) (A3 : Option Addr) (n3 c3 : Nat), e = .returned (.tuple #[.agg #[.string x0, .string x1, .slice A2 n2 c2, .slice A3 n3 c3], .int .i64 (nOf (parseP ls)), .int .i64 (eOf (parseP ls))]) ∧ ReqR w' (.agg #[.string x0, .string x1, .slice A2 n2 c2, .slice A3 n3 c3]) (reqOf (parseP ls)) ∧ Below u.heap.size u w' := by
  obtain ⟨c, u1, h1, h2, h3, h4, h5⟩ := conv_bytes s u
  have hlen : ls.length = N := by rw [← hd, ← hs, Lib.size_eq]
  rw [hs] at h1 h4 h5
  rw [hd] at h5
  refine ⟨c, u1, h1, h2, ?_⟩
  have hp := oParse ls (some ⟨u.heap.size, 0, none⟩) c (u.heap.size + 1) u1 (hL.below h2) (by rw [hlen]; exact h5) (by omega) (by omega) (fun e => by cases e) (by omega)
  rw [hlen] at hp
  refine hp.mono ?_
  rintro e w' ⟨x0, x1, A2, n2, c2, A3, n3, c3, he, hr, hb⟩
  exact ⟨x0, x1, A2, n2, c2, A3, n3, c3, he, hr.toR, h2.trans (hb.mono h2.size)⟩
set_option maxRecDepth 100000 in
set_option maxHeartbeats 8000000 in
theorem lawHQ (pv : ByteArray) (path : Bs) (hpv : pv = ⟨path.toArray⟩) (ps : List (Bs × Bs)) (A0 : Option Addr) (c0 B : Nat) (w : World) (hL : Lt w) (h0 : Row w B 2 A0 ps.length (pairCells ps)) (hB : B ≤ w.heap.size) (hsum : path.length + sumQ ps ≤ 1048576) :
    Calls Tryd.prog 7 #[.slice A0 ps.length c0, .string pv] w fun e w' => e = .returned (.bool true) ∧ Below w.heap.size w w' := by
  have hps : pv.size = path.length := by rw [hpv, str_size]
  have hpl : pv.data.toList = path := by rw [hpv]
  obtain ⟨ev, hev⟩ : ∃ ev : ByteArray, ev = ⟨(escP path).toArray⟩ := ⟨_, rfl⟩
  have hes : ev.size = 3 * path.length := by rw [hev, str_size, escP_len]
  obtain ⟨qv, hqv⟩ : ∃ qv : ByteArray, qv = ⟨(47 :: path).toArray⟩ := ⟨_, rfl⟩
  have cesc := fun u : World => vEsc pv u (by omega)
  rw [hpl, show str (escP path) = .string ev by rw [hev]] at cesc
  have cval := fun (u : World) (hu : Lt u) => cValid path u hu (by omega)
  rw [show str path = .string pv by rw [hpv]] at cval
  have eq1 : (⟨#[47]⟩ ++ pv : ByteArray) = qv := by rw [hqv, hpv]; apply ByteArray.ext; simp
  obtain ⟨s0, es0, ds0, zs0⟩ := cat_str ⟨getSl.toArray⟩ getSl (escP path) rfl (5 + 3 * path.length) (by rw [escP_len]; rfl)
  rw [← hev] at es0
  have es0 : (⟨#[71, 69, 84, 32, 47]⟩ ++ ev : ByteArray) = s0 := es0
  have g1 : ¬ 9223372036854775807 < 5 + ev.size := by omega
  have g2 : ¬ 9223372036854775807 < 1 + pv.size := by omega
  have hs0 : s0 = ⟨(soFar path []).toArray⟩ := by
    have e : soFar path [] = s0.data.toList := by rw [ds0]; simp [soFar, qryP]
    rw [e]
  obtain ⟨np, hnp⟩ : ∃ np, ps.length = np := ⟨_, rfl⟩
  have Hhev := Lib.hid hev; have Hqv := Lib.hid hqv; have Hpv := Lib.hid hpv; have Hs0 := Lib.hid hs0
  clear hev hqv hpv hs0 ds0 hpl
  go_enter Tryd.func7, Tryd.ntmps7
  go_wp2_with fail
  refine (awake26 w hL).mono ?_
  rintro e w1 ⟨rfl, hb1⟩
  have s1 := hb1.size
  go_wp2_with fail
  refine (cesc w1).mono ?_
  rintro e w2 ⟨rfl, hb2⟩
  have hb2' := hb1.trans (hb2.mono s1)
  have s2 := hb2'.size
  go_wp2_with fail
  refine (cval w2 (hL.below hb2')).mono ?_
  rintro e w3 ⟨rfl, hb3⟩
  have hb3' := hb2'.trans (hb3.mono s2)
  have s3 := hb3'.size
  go_upto_region 6 with fail
  obtain ⟨X, hX⟩ : ∃ X, X = w3.alloc (.cells #[.string ⟨#[71, 69, 84]⟩, .string qv, .slice none 0 0, .slice none 0 0] 26) := ⟨_, rfl⟩
  have hbX : Below w.heap.size w X := by rw [hX]; exact hb3'.alloc s3 _
  have bX : Blk X w3.heap.size 26 [.string ⟨#[71, 69, 84]⟩, .string qv, .slice none 0 0, .slice none 0 0] := by rw [hX]; exact Blk.new w3 _ _
  obtain ⟨G, hG⟩ : ∃ G, w3.heap.size = G := ⟨_, rfl⟩
  rw [← hX]
  rw [hG] at bX
  rw [show (Value.pointer (some { block := w3.heap.size, off := 0 })) = Value.pointer (some { block := G, off := 0 }) by rw [hG]]
  have hGw : w.heap.size ≤ G := by omega
  have HG := Lib.hid hG
  clear hX hG es0 eq1 g1 g2 cesc cval
  go_wp2
  go_loopw [5, 6, 8] (fun s5 s6 s8 wr => ∃ (k : Nat) (A : Option Addr) (c : Nat), k ≤ np ∧ s5 = str (soFar path (ps.take k)) ∧ s6 = .bool (allOk path (ps.take k)) ∧ s8 = .int .i64 k ∧
    Blk wr G 26 [.string ⟨#[71, 69, 84]⟩, .string qv, .slice A k c, .slice none 0 0] ∧ wr.ownsRow w.heap.size 42 2 (.slice A k c) k (pairCells (ps.take k)) ∧ Below w.heap.size w wr) (fun _ _ s8 _ => np - (intOf s8).toNat)
  case atStart => exact ⟨0, none, 0, Nat.zero_le _, by rw [Hs0.out]; rfl, by simp [allOk], rfl, bX, World.ownsRow_nil _ _ _ _, hbX⟩
  case round =>
    obtain ⟨k, A, c, hk, rfl, rfl, rfl, bG, oQ, hbr⟩ := hrel
    obtain ⟨wo, rfl⟩ : ∃ wo : World, wo = wr := ⟨_, rfl⟩
    by_cases hlt : k < np
    · have z1 : (k : Int) < (np : Int) := by omega
      obtain ⟨p, hp⟩ : ∃ p, ps[k]? = some p := ⟨_, List.getElem?_eq_getElem (by omega)⟩
      obtain ⟨sv, hsv⟩ : ∃ sv : ByteArray, sv = ⟨(soFar path (ps.take k)).toArray⟩ := ⟨_, rfl⟩
      rw [show str (soFar path (ps.take k)) = .string sv by rw [hsv]]
      have hsz : sv.size ≤ 5 + 3 * path.length + 3 * sumQ (ps.take k) := by rw [hsv, str_size]; exact soFar_len _ _
      have hsq := sumQ_at hp
      obtain ⟨mk, hmk⟩ : ∃ mk : UInt8, mk = if ps.take k = [] then 63 else 38 := ⟨_, rfl⟩
      obtain ⟨sm, esm, dsm, zsm⟩ := cat_str sv (soFar path (ps.take k)) [mk] hsv _ rfl
      have zsm2 : sm.size = sv.size + 1 := by rw [zsm, ← str_size, ← hsv]; rfl
      have esm : (sv ++ ⟨#[mk]⟩ : ByteArray) = sm := esm
      have m0 : ¬ 9223372036854775807 < sv.size + 1 := by omega
      have Hsv := Lib.hid hsv; have Hzsm := Lib.hid zsm2
      clear hsv zsm zsm2
      go_upto_if 29 with fail
      go_cut [5] (fun s5 wx => s5 = .string sm ∧ wx = wo)
      case first =>
        rcases Nat.eq_zero_or_pos k with hk0 | hk0
        · subst hk0
          rw [if_pos (by simp)] at hmk
          subst hmk
          go_wp2_with fail
          go_meet
          exact ⟨rfl, rfl⟩
        · have z0 : ¬ (k : Int) = 0 := by omega
          rw [if_neg (by
            intro e
            have := congrArg List.length e
            rw [List.length_take, List.length_nil] at this
            omega)] at hmk
          subst hmk
          go_wp2_with fail
          go_meet
          exact ⟨rfl, rfl⟩
      case rest =>
      obtain ⟨rfl, hwc⟩ := hcut
      obtain rfl : wo = wc := hwc.symm
      obtain ⟨nv, hnv⟩ : ∃ nv : ByteArray, nv = ⟨p.1.toArray⟩ := ⟨_, rfl⟩
      obtain ⟨vv, hvv⟩ : ∃ vv : ByteArray, vv = ⟨p.2.toArray⟩ := ⟨_, rfl⟩
      obtain ⟨en, hen⟩ : ∃ en : ByteArray, en = ⟨(escP p.1).toArray⟩ := ⟨_, rfl⟩
      obtain ⟨ew, hew⟩ : ∃ ew : ByteArray, ew = ⟨(escP p.2).toArray⟩ := ⟨_, rfl⟩
      have hnl : nv.size = p.1.length := by rw [hnv, str_size]
      have hvl : vv.size = p.2.length := by rw [hvv, str_size]
      have hel : en.size = 3 * p.1.length := by rw [hen, str_size, escP_len]
      have hfl : ew.size = 3 * p.2.length := by rw [hew, str_size, escP_len]
      have cn := fun u : World => vEsc nv u (by omega)
      rw [show nv.data.toList = p.1 by rw [hnv], show str (escP p.1) = .string en by rw [hen]] at cn
      have cw := fun u : World => vEsc vv u (by omega)
      rw [show vv.data.toList = p.2 by rw [hvv], show str (escP p.2) = .string ew by rw [hew]] at cw
      have vn := fun (u : World) (hu : Lt u) => cValid p.1 u hu (by omega)
      rw [show str p.1 = .string nv by rw [hnv]] at vn
      have vw := fun (u : World) (hu : Lt u) => cValid p.2 u hu (by omega)
      rw [show str p.2 = .string vv by rw [hvv]] at vw
      have hsmz := Hzsm.out
      obtain ⟨b1, eb1, db1, sb1⟩ := cat_str sm (soFar path (ps.take k) ++ [mk]) (escP p.1) (by rw [← dsm]) (sm.size + en.size) (by rw [hel, escP_len, ← dsm, ← Lib.size_eq])
      rw [← hen] at eb1
      obtain ⟨b2, eb2, db2, sb2⟩ := cat_str b1 (soFar path (ps.take k) ++ [mk] ++ escP p.1) [61] (by rw [← db1]) (sm.size + en.size + 1) (by rw [← db1, ← Lib.size_eq, sb1]; rfl)
      have eb2 : (b1 ++ ⟨#[61]⟩ : ByteArray) = b2 := eb2
      obtain ⟨b3, eb3, db3, sb3⟩ := cat_str b2 (soFar path (ps.take k) ++ [mk] ++ escP p.1 ++ [61]) (escP p.2) (by rw [← db2]) (sm.size + en.size + 1 + ew.size) (by rw [← db2, ← Lib.size_eq, sb2, hfl, escP_len])
      rw [← hew] at eb3
      have hb3 : b3 = ⟨(soFar path (ps.take (k + 1))).toArray⟩ := by
        have e : soFar path (ps.take (k + 1)) = b3.data.toList := by
          rw [db3, pair_take hp]
          unfold soFar
          rw [qryP_snoc, ← hmk]
          simp [segP]
        rw [e]
      have m1 : ¬ 9223372036854775807 < sm.size + en.size := by omega
      have m2 : ¬ 9223372036854775807 < b1.size + 1 := by omega
      have m3 : ¬ 9223372036854775807 < b2.size + ew.size := by omega
      have Hb3 := Lib.hid hb3
      have Hsum := Lib.hid hsum; have Hsq := Lib.hid hsq; have Hnv := Lib.hid hnv; have Hvv := Lib.hid hvv
      clear hb3 sb1 sb2 sb3 db1 db2 db3 hsmz dsm hmk hen hew hnl hvl hel hfl hsz hsq hsum hes hps zs0 esm m0
      have h0o := h0.below (hbr.mono hB)
      obtain ⟨bk, off, rfl, hbk, hcell⟩ := h0o.2 (by omega)
      obtain ⟨q1, q2⟩ := pairCells_at hp
      rw [show str p.1 = .string nv by rw [Hnv.out]] at q1
      clear hnv hvv
      rw [show str p.2 = .string vv by rw [Hvv.out]] at q2
      rw [Nat.mul_comm 2 k] at q1 q2
      have hso := hbr.size
      have l1 : ∀ u, Below w.heap.size w u → u.cell? ⟨bk, off + k * 2, none⟩ = some (.string nv) := fun u hu => by
        obtain ⟨bk', off', e, -, hc⟩ := (h0.below (hu.mono hB)).2 (by omega)
        cases e
        exact hc _ _ q1
      have l2 : ∀ u, Below w.heap.size w u → u.cell? ⟨bk, off + k * 2 + 1, none⟩ = some (.string vv) := fun u hu => by
        obtain ⟨bk', off', e, -, hc⟩ := (h0.below (hu.mono hB)).2 (by omega)
        cases e
        have := hc _ _ q2
        rwa [← Nat.add_assoc] at this
      clear hcell q1 q2 h0o
      have rS0 : Below w.heap.size w wo.drew := hbr.drew
      have hwd : Below wo.heap.size wo wo.drew := (Below.refl _ _).drew
      go_upto_region 12 with fail
      refine wp_region_N (fun w' => Below w.heap.size w w') 100 (by kernel_rfl) ?_
      apply wpAnyN_takeL 0 (by kernel_rfl) rfl (fun _ _ _ h => h) (by kernel_rfl) rS0
      · intro w' hS'
        go_simp; exact ⟨rfl, rfl⟩
      (try simp only [Act.put]); (try simp only [List.setIfInBounds_toArray]); (try simp only [List.set])
      apply wpAnyN_takeL 1 (by kernel_rfl) rfl (fun _ _ _ h => h) (by kernel_rfl) rS0
      · intro w' hS'
        go_simp; exact ⟨rfl, rfl⟩
      (try simp only [Act.put]); (try simp only [List.setIfInBounds_toArray]); (try simp only [List.set])
      apply wpAnyN_takeL 2 (by kernel_rfl) rfl (fun _ _ _ h => h) (by kernel_rfl) rS0
      · intro w' hS'
        go_simp; exact ⟨rfl, rfl⟩
      (try simp only [Act.put]); (try simp only [List.setIfInBounds_toArray]); (try simp only [List.set])
      apply wpAnyN_takeL 3 (by kernel_rfl) rfl (fun _ _ _ h => h) (by kernel_rfl) rS0
      · intro w' hS'
        go_simp; exact ⟨rfl, rfl⟩
      (try simp only [Act.put]); (try simp only [List.setIfInBounds_toArray]); (try simp only [List.set])
      apply wpAnyN_takeL 4 (by kernel_rfl) rfl (fun _ _ _ h => h) (by kernel_rfl) rS0
      · intro w' hS'
        go_simp; exact ⟨rfl, rfl⟩
      (try simp only [Act.put]); (try simp only [List.setIfInBounds_toArray]); (try simp only [List.set])
      apply wpAnyN_takeL 9 (by kernel_rfl) rfl (fun _ _ _ h => h) (by kernel_rfl) rS0
      · intro w' hS'
        go_simp; exact ⟨rfl, rfl⟩
      (try simp only [Act.put]); (try simp only [List.setIfInBounds_toArray]); (try simp only [List.set])
      apply wpAnyN_takeL 10 (by kernel_rfl) rfl (fun _ _ _ h => h) (by kernel_rfl) rS0
      · intro w' hS'
        go_simp; exact ⟨rfl, rfl⟩
      (try simp only [Act.put]); (try simp only [List.setIfInBounds_toArray]); (try simp only [List.set])
      apply wpAnyN_takeL 11 (by kernel_rfl) rfl (fun _ _ _ h => h) (by kernel_rfl) rS0
      · intro w' hS'
        go_simp; exact ⟨rfl, rfl⟩
      (try simp only [Act.put]); (try simp only [List.setIfInBounds_toArray]); (try simp only [List.set])
      apply wpAnyN_takeL 12 (by kernel_rfl) rfl (fun _ _ _ h => h) (by kernel_rfl) rS0
      · intro w' hS'
        go_simp; exact ⟨rfl, rfl⟩
      (try simp only [Act.put]); (try simp only [List.setIfInBounds_toArray]); (try simp only [List.set])
      apply wpAnyN_takeL 5 (v := (.string nv)) (by kernel_rfl) rfl (fun _ _ _ h => h) (by kernel_rfl) rS0
      · intro w' hS'
        (have := l1 _ hS'; go_simp; exact ⟨rfl, rfl⟩)
      (try simp only [Act.put]); (try simp only [List.setIfInBounds_toArray]); (try simp only [List.set])
      apply wpAnyN_takeL 13 (v := (.string vv)) (by kernel_rfl) rfl (fun _ _ _ h => h) (by kernel_rfl) rS0
      · intro w' hS'
        (have := l2 _ hS'; go_simp; exact ⟨rfl, rfl⟩)
      (try simp only [Act.put]); (try simp only [List.setIfInBounds_toArray]); (try simp only [List.set])
      refine wpAnyN_runL 6 (by kernel_rfl) rfl (by kernel_rfl) (fun K hK => ?_)
      go_simp
      refine (cn wo.drew).mono ?_
      rintro e U1 ⟨rfl, hbu1⟩
      have rS1 : Below w.heap.size w U1 := rS0.trans (hbu1.mono rS0.size)
      refine hK _ _ (fun _ => rS1) ?_
      clear hK K
      (try simp only [Act.put]); (try simp only [List.setIfInBounds_toArray]); (try simp only [List.set])
      apply wpAnyN_takeL 7 (by kernel_rfl) rfl (fun _ _ _ h => h) (by kernel_rfl) rS1
      · intro w' hS'
        go_simp; exact ⟨rfl, rfl⟩
      (try simp only [Act.put]); (try simp only [List.setIfInBounds_toArray]); (try simp only [List.set])
      apply wpAnyN_takeL 8 (by kernel_rfl) rfl (fun _ _ _ h => h) (by kernel_rfl) rS1
      · intro w' hS'
        go_simp; exact ⟨rfl, rfl⟩
      (try simp only [Act.put]); (try simp only [List.setIfInBounds_toArray]); (try simp only [List.set])
      refine wpAnyN_runL 14 (by kernel_rfl) rfl (by kernel_rfl) (fun K hK => ?_)
      go_simp
      refine (cw U1).mono ?_
      rintro e U2 ⟨rfl, hbu2⟩
      have rS2 : Below w.heap.size w U2 := rS1.trans (hbu2.mono rS1.size)
      refine hK _ _ (fun _ => rS2) ?_
      clear hK K
      (try simp only [Act.put]); (try simp only [List.setIfInBounds_toArray]); (try simp only [List.set])
      apply wpAnyN_takeL 15 (by kernel_rfl) rfl (fun _ _ _ h => h) (by kernel_rfl) rS2
      · intro w' hS'
        go_simp; exact ⟨rfl, rfl⟩
      (try simp only [Act.put]); (try simp only [List.setIfInBounds_toArray]); (try simp only [List.set])
      apply wpAnyN_takeL 16 (by kernel_rfl) rfl (fun _ _ _ h => h) (by kernel_rfl) rS2
      · intro w' hS'
        go_simp; exact ⟨rfl, rfl⟩
      (try simp only [Act.put]); (try simp only [List.setIfInBounds_toArray]); (try simp only [List.set])
      refine wpAnyN_done (by kernel_rfl) ?_ _
      have hwU : Below wo.heap.size wo U2 := (hwd.trans (hbu1.mono hwd.size)).trans (hbu2.mono (hwd.trans (hbu1.mono hwd.size)).size)
      have bG2 := bG.below hwU bG.lt
      have oQ2 := own_below oQ hwU
      clear bG oQ hbu1 hbu2 rS0 rS1 cn cw eb1 eb2 eb3 m1 m2 m3 hwd
      obtain ⟨okk, hokk⟩ : ∃ okk, allOk path (ps.take k) = okk := ⟨_, rfl⟩
      obtain ⟨ok2, hok2⟩ : ∃ ok2, allOk path (ps.take (k + 1)) = ok2 := ⟨_, rfl⟩
      have hst : ok2 = (okk && validP p.1 && validP p.2) := by rw [← hok2, ← hokk, pair_take hp, allOk_snoc]
      rw [hokk]
      have Hok2 := Lib.hid hok2; have Hokk := Lib.hid hokk; have Hst := Lib.hid hst
      clear hok2 hokk hst
      go_upto_region 13 with fail
      go_cut [6] (fun s6 wx => s6 = .bool ok2 ∧ Below U2.heap.size U2 wx)
      case first =>
        have k1 := l1 U2 rS2
        cases okk with
        | false =>
          have hst := Hst.out
          simp only [Bool.false_and] at hst
          subst hst
          go_wp2_with fail
          go_meet
          exact ⟨rfl, Below.refl _ _⟩
        | true =>
          go_wp2_with fail
          refine (vn U2 (hL.below rS2)).mono ?_
          rintro e U3 ⟨rfl, hb3⟩
          have k2 := l2 U3 (rS2.trans (hb3.mono rS2.size))
          cases hv1 : validP p.1 with
          | false =>
            have hst := Hst.out
            rw [hv1] at hst
            simp only [Bool.and_false, Bool.false_and] at hst
            subst hst
            go_wp2_with fail
            go_meet
            exact ⟨rfl, hb3⟩
          | true =>
            go_wp2_with fail
            refine (vw U3 (hL.below (rS2.trans (hb3.mono rS2.size)))).mono ?_
            rintro e U4 ⟨rfl, hb4⟩
            have hst := Hst.out
            rw [hv1] at hst
            simp only [Bool.true_and] at hst
            go_wp2_with fail
            go_meet
            exact ⟨by rw [hst], hb3.trans (hb4.mono hb3.size)⟩
      case rest =>
      obtain ⟨rfl, hbc⟩ := hcut
      obtain ⟨U5, hU5⟩ : ∃ U5 : World, U5 = wc := ⟨_, rfl⟩
      subst hU5
      have rS5 : Below w.heap.size w U5 := rS2.trans (hbc.mono rS2.size)
      have bG5 := bG2.below hbc bG2.lt
      have oQ5 := own_below oQ2 hbc
      clear bG2 oQ2 hbc rS2 Hst vn vw
      go_upto_region 14 with fail
      have hnp2 : np ≤ 1048576 := by have := Hsum.out; have := len_sumQ ps; omega
      have sS : Blk U5.drew G 26 [.string ⟨#[71, 69, 84]⟩, .string qv, .slice A k c, .slice none 0 0] ∧ Below w.heap.size w U5.drew := ⟨bG5, rS5.drew⟩
      refine wp_region_N (fun w' => Blk w' G 26 [.string ⟨#[71, 69, 84]⟩, .string qv, .slice A k c, .slice none 0 0] ∧ Below w.heap.size w w') 9 (by kernel_rfl) ?_
      apply wpAnyN_takeL 0 (by kernel_rfl) rfl (fun _ _ _ h => h) (by kernel_rfl) sS
      · intro w' hS'
        go_simp; exact ⟨rfl, rfl⟩
      (try simp only [Act.put]); (try simp only [List.setIfInBounds_toArray]); (try simp only [List.set])
      apply wpAnyN_takeL 1 (v := (.slice A k c)) (by kernel_rfl) rfl (fun _ _ _ h => h) (by kernel_rfl) sS
      · intro w' hS'
        (have hk : w'.cell? ⟨G, 2, none⟩ = some (.slice A k c) := hS'.1.cell 2; go_simp; exact ⟨rfl, rfl⟩)
      (try simp only [Act.put]); (try simp only [List.setIfInBounds_toArray]); (try simp only [List.set])
      apply wpAnyN_takeL 2 (by kernel_rfl) rfl (fun _ _ _ h => h) (by kernel_rfl) sS
      · intro w' hS'
        go_simp; exact ⟨rfl, rfl⟩
      (try simp only [Act.put]); (try simp only [List.setIfInBounds_toArray]); (try simp only [List.set])
      apply wpAnyN_takeL 3 (by kernel_rfl) rfl (fun _ _ _ h => h) (by kernel_rfl) sS
      · intro w' hS'
        go_simp; exact ⟨rfl, rfl⟩
      (try simp only [Act.put]); (try simp only [List.setIfInBounds_toArray]); (try simp only [List.set])
      apply wpAnyN_takeL 4 (by kernel_rfl) rfl (fun _ _ _ h => h) (by kernel_rfl) sS
      · intro w' hS'
        go_simp; exact ⟨rfl, rfl⟩
      (try simp only [Act.put]); (try simp only [List.setIfInBounds_toArray]); (try simp only [List.set])
      apply wpAnyN_takeL 5 (v := (.agg #[.string nv, .string vv])) (by kernel_rfl) rfl (fun _ _ _ h => h) (by kernel_rfl) sS
      · intro w' hS'
        (have hk1 := l1 _ hS'.2; have hk2 := l2 _ hS'.2; go_simp; exact ⟨rfl, rfl⟩)
      (try simp only [Act.put]); (try simp only [List.setIfInBounds_toArray]); (try simp only [List.set])
      refine wpAnyN_runL 6 (by kernel_rfl) rfl (by kernel_rfl) (fun K hK => ?_)
      go_simp
      obtain ⟨W5, hW5⟩ : ∃ W5, W5 = (U5.alloc (.cells #[.string nv, .string vv] 42)).drew := ⟨_, rfl⟩
      rw [← hW5]
      have x2 : Blk W5 G 26 [.string ⟨#[71, 69, 84]⟩, .string qv, .slice A k c, .slice none 0 0] := by rw [hW5]; exact (bG5.alloc _).drew
      have x3 : W5.ownsRow w.heap.size 42 2 (.slice A k c) k (pairCells (ps.take k)) := by rw [hW5]; exact own_below oQ5 ((Below.refl _ _).alloc (Nat.le_refl _) _).drew
      have x7 : Below w.heap.size w W5 := by rw [hW5]; exact (rS5.alloc rS5.size _).drew
      have xrow : Row W5 (U5.heap.size + 1) 2 (some ⟨U5.heap.size, 0, none⟩) 1 (pairCells [p]) := by
        rw [hW5, show pairCells [p] = [.string nv, .string vv] by rw [Hnv.out, Hvv.out]; rfl]
        exact (row_newN U5 42 2 1 [.string nv, .string vv] rfl).drew
      clear hW5 bG5 oQ5
      have sT : Blk W5 G 26 [.string ⟨#[71, 69, 84]⟩, .string qv, .slice A k c, .slice none 0 0] ∧ Below w.heap.size w W5 := ⟨x2, x7⟩
      refine hK _ _ (fun _ => sT) ?_
      clear hK K
      (try simp only [Act.put]); (try simp only [List.setIfInBounds_toArray]); (try simp only [List.set])
      refine wpAnyN_runL 7 (by kernel_rfl) rfl (by kernel_rfl) (fun K hK => ?_)
      refine wp_app W5 pairE rfl rfl x3 rfl xrow (pairCells_one _) (by omega) x7.size ?_
      intro vq W6 q6 hg6 hb6 hv6
      have nB : some G ≠ (Value.slice A k c).ownBlock := fun e => own_blk x3 x2 (by decide) (by rw [← e]; simp)
      have y2 := x2.grown hg6 nB
      have y7 : Below w.heap.size w W6 := x7.trans hb6
      have q6' : W6.ownsRow w.heap.size 42 2 vq (k + 1) (pairCells (ps.take (k + 1))) := by
        rw [pair_take hp, pairCells_app]; exact q6
      clear x2 x3 x7 xrow sT q6 hg6 hb6 hv6 nB
      obtain ⟨A6, c6, rfl, -⟩ := own_form q6'
      have cb : W6.cell? ⟨G, 2, none⟩ = some (.slice A k c) := y2.cell 2
      have fb := y2.frozen 2
      have sU : Blk W6 G 26 [.string ⟨#[71, 69, 84]⟩, .string qv, .slice A k c, .slice none 0 0] ∧ Below w.heap.size w W6 := ⟨y2, y7⟩
      refine hK _ _ (fun _ => sU) ?_
      clear hK K
      (try simp only [Act.put]); (try simp only [List.setIfInBounds_toArray]); (try simp only [List.set])
      apply wpAnyN_takeL 8 (by kernel_rfl) rfl (fun _ _ _ h => h) (by kernel_rfl) sU
      · intro w' hS'
        go_simp; exact ⟨rfl, rfl⟩
      (try simp only [Act.put]); (try simp only [List.setIfInBounds_toArray]); (try simp only [List.set])
      refine wpAnyN_runL 9 (by kernel_rfl) rfl (by kernel_rfl) (fun K hK => ?_)
      go_simp
      refine hK _ _ (fun h => absurd rfl h) ?_
      clear hK K
      (try simp only [Act.put])
      refine wpAnyN_done (by kernel_rfl) ?_ _
      have z3 : IntKind.i64.wrap ((k : Int) + 1) = (k : Int) + 1 := by rw [IntKind.wrap_i64]; omega
      have y3 := y2.set_ 2 (.slice A6 (k + 1) c6)
      have y4 := own_but q6' ((But.refl [G] W6).setCell (p := ⟨G, 2, none⟩) (by simp) (.slice A6 (k + 1) c6)) (fun g hg hm => by
        simp only [List.mem_singleton] at hm
        subst hm
        exact own_blk q6' y2 (by decide) (by rw [hg]; simp))
      have y5 := y7.setCell (p := ⟨G, 2, none⟩) hGw (.slice A6 (k + 1) c6)
      clear y2 y7 q6' cb fb sU sS
      go_wp2_with fail
      exact ⟨⟨k + 1, A6, c6, by omega, by rw [Hb3.out], by rw [Hok2.out], by simp, y3, y4, y5⟩, by simp [intOf]; omega⟩
    · obtain rfl : k = np := by omega
      have z1 : ¬ (k : Int) < (k : Int) := by omega
      have htk : ps.take k = ps := List.take_of_length_le (by omega)
      rw [htk] at oQ ⊢
      clear htk
      obtain ⟨sv, hsv⟩ : ∃ sv : ByteArray, sv = ⟨(soFar path ps).toArray⟩ := ⟨_, rfl⟩
      rw [show str (soFar path ps) = .string sv by rw [hsv]]
      have hsz : sv.size ≤ 5 + 3 * path.length + 3 * sumQ ps := by rw [hsv, str_size]; exact soFar_len _ _
      obtain ⟨sz, esz, dsz, zsz⟩ := cat_str sv (soFar path ps) hostEnd hsv (sv.size + 22) (by rw [hsv, str_size]; rfl)
      have esz : (sv ++ ⟨#[32, 72, 84, 84, 80, 47, 49, 46, 49, 13, 10, 72, 111, 115, 116, 58, 32, 120, 13, 10, 13, 10]⟩ : ByteArray) = sz := esz
      have m0 : ¬ 9223372036854775807 < sv.size + 22 := by omega
      rw [soFar_end] at dsz
      obtain ⟨T, hT⟩ : ∃ T, sz.size = T := ⟨_, rfl⟩
      have hTl : (pairS path ps).length = T := by rw [← dsz, ← Lib.size_eq, hT]
      have hT4 : T ≤ 4000000000 := by omega
      have hpp := parse_pair path ps
      rw [hTl] at hpp
      have hso := hbr.size
      obtain ⟨d1, V1, k1, hk1, hp1⟩ := gParse sz T wo (hL.below hbr) hT hT4 _ dsz
      obtain ⟨P, hP⟩ : ∃ P, parseP (pairS path ps) = P := ⟨_, rfl⟩
      rw [hP] at hpp hp1
      obtain ⟨okk, hokk⟩ : ∃ okk, allOk path ps = okk := ⟨_, rfl⟩
      rw [hokk] at hpp ⊢
      have Hpp := Lib.hid hpp
      have hnp2 : k ≤ 1048576 := by have := len_sumQ ps; omega
      have HnP := Lib.hid hnp
      clear hpp hP hokk hTl zsz dsz hsz hsv hps hes zs0 hsum hnp
      go_wp2_with fail
      refine hp1.mono ?_
      rintro e U1 ⟨x0, x1, A2, n2, c2, A3, n3, c3, rfl, hr1, hb⟩
      obtain ⟨W2, hW⟩ : ∃ W, W = U1.alloc (.cells #[.string x0, .string x1, .slice A2 n2 c2, .slice A3 n3 c3] 26) := ⟨_, rfl⟩
      have hbU1 := hbr.trans (hb.mono hso)
      have hbW2 : Below w.heap.size w W2 := by rw [hW]; exact hbU1.alloc hbU1.size _
      have hrA : ReqR W2 (.agg #[.string x0, .string x1, .slice A2 n2 c2, .slice A3 n3 c3]) (reqOf P) := hr1.below (w' := W2) (by rw [hW]; exact (Below.refl _ _).alloc (Nat.le_refl _) _)
      have bA : Blk W2 U1.heap.size 26 [.string x0, .string x1, .slice A2 n2 c2, .slice A3 n3 c3] := by rw [hW]; exact Blk.new U1 _ _
      have h02 : Below wo.heap.size wo W2 := by rw [hW]; exact hb.alloc hb.size _
      have bG2 := bG.below h02 bG.lt
      have oQ2 := own_below oQ h02
      go_upto_region 17 with fail
      rw [← hW]
      clear hW hp1 k1 hk1 hb hr1 esz m0 h02 bG oQ h0
      by_cases hT2 : 2048 < T
      · have zt : (2048 : Int) < (T : Int) := by omega
        have hpp := Hpp.out
        rw [if_pos hT2] at hpp
        subst hpp
        simp only [nOf_err, eOf_err]
        go_wp2
        go_ret
        exact ⟨rfl, hbW2⟩
      · have zt : ¬ (2048 : Int) < (T : Int) := by omega
        have hpp := Hpp.out
        rw [if_neg hT2] at hpp
        cases okk with
        | false =>
          rw [if_pos rfl] at hpp
          subst hpp
          simp only [nOf_err, eOf_err]
          go_wp2
          go_ret
          exact ⟨rfl, hbW2⟩
        | true =>
          rw [if_neg (by decide)] at hpp
          subst hpp
          simp only [nOf_ok, eOf_ok]
          have hrB : ReqR W2 (.agg #[.string ⟨#[71, 69, 84]⟩, .string qv, .slice A k c, .slice none 0 0]) ⟨getS, 47 :: path, ps, []⟩ := by
            refine ⟨A, c, none, 0, ?_, ?_, ⟨rfl, fun h => absurd h (Nat.lt_irrefl 0)⟩, ?_⟩
            · rw [Hqv.out, ← HnP.out]; rfl
            · show Row W2 W2.heap.size 2 A ps.length (pairCells ps)
              rw [HnP.out]; exact Row.of_own oQ2
            · show ps.length ≤ _
              rw [HnP.out]; omega
          have csame := vSameR _ _ _ W2 hrA hrB
          have c0' : W2.cell? ⟨U1.heap.size, 0, none⟩ = some (.string x0) := bA.cell 0
          have c1' : W2.cell? ⟨U1.heap.size, 1, none⟩ = some (.string x1) := bA.cell 1
          have c2' : W2.cell? ⟨U1.heap.size, 2, none⟩ = some (.slice A2 n2 c2) := bA.cell 2
          have c3' : W2.cell? ⟨U1.heap.size, 3, none⟩ = some (.slice A3 n3 c3) := bA.cell 3
          have e0' : W2.cell? ⟨G, 0, none⟩ = some (.string ⟨#[71, 69, 84]⟩) := bG2.cell 0
          have e1' : W2.cell? ⟨G, 1, none⟩ = some (.string qv) := bG2.cell 1
          have e2' : W2.cell? ⟨G, 2, none⟩ = some (.slice A k c) := bG2.cell 2
          have e3' : W2.cell? ⟨G, 3, none⟩ = some (.slice none 0 0) := bG2.cell 3
          clear hrA hrB bA bG2 oQ2
          go_wp2_with fail
          refine csame.mono ?_
          rintro e W4 ⟨rfl, hb4⟩
          go_wp2
          go_ret
          exact ⟨rfl, hbW2.trans (hb4.mono hbW2.size)⟩
end Go.Proofs.YtcjapjnhejenaaaDoor
