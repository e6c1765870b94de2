import Derived.Test.YtcjapjnhejenaaaDoorLawHL
import Derived.Test.YtcjapjnhejenaaaDoorHtW
/-! HttpBodies: the walk (under way) -/
namespace Garner
theorem len_flat : ∀ (ps : List Bs), (∀ p ∈ ps, 1 ≤ p.length) → ps.length ≤ ps.flatten.length
  | [], _ => Nat.le_refl _
  | p :: ps, h => by
    have := len_flat ps fun x hx => h x (by simp [hx])
    have := h p (by simp)
    rw [List.flatten_cons, List.length_append, List.length_cons]; omega
theorem encP_le (up : Bool) (ps : List Bs) (h : ps.flatten.length ≤ 8192) (hp : ∀ p ∈ ps, 1 ≤ p.length) : (encP up ps).length ≤ 80000 := by
  have key : ∀ ps : List Bs, ps.flatten.length ≤ 8192 → (∀ p ∈ ps, 1 ≤ p.length) → (encP up ps).length ≤ 9 * ps.flatten.length := by
    intro ps
    induction ps with
    | nil => intros; simp [encP]
    | cons p ps ih =>
      intro h hp
      have e := congrArg List.length (encP_cons up p ps [])
      simp [crlf] at e
      rw [List.flatten_cons, List.length_append] at h ⊢
      have h1 := hp p (by simp)
      have h2 := hexT_len up 3 p.length (by omega)
      have := ih (by omega) fun x hx => hp x (by simp [hx])
      omega
  have := key ps h hp
  omega
end Garner
namespace Go.Proofs.YtcjapjnhejenaaaDoor
open Go.RowKit Go.Shelf Garner

theorem ReqR.bodyIs {w : World} {x0 x1 : ByteArray} {A2 A3 : Option Addr} {n2 c2 n3 c3 : Nat} {q : ReqP} (h : ReqR w (.agg #[.string x0, .string x1, .slice A2 n2 c2, .slice A3 n3 c3]) q) : Bytes w w.heap.size A3 n3 q.body := by
  obtain ⟨A, c, Av, cv, e, -, h2, -⟩ := h
  cases e
  exact h2
/-- Parse of a string turned to bytes, that is fine -/
theorem okParse (s : ByteArray) (N : Nat) (u : World) (hL : Lt u) (hs : s.size = N) (hN : N ≤ 100000) (ls : Bs) (hd : s.data.toList = ls) (q : ReqP) (n : Nat) (hq : parseP ls = .ok (q, n)) :
    ∃ c u1, (convert 9 22 (.string s)).run Tryd.prog u = .ok (.slice (some ⟨u.heap.size, 0, none⟩) N c) u1 ∧ Below u.heap.size u u1 ∧
      ∀ u2, Below u1.heap.size u1 u2 → Calls Tryd.prog 9 #[.slice (some ⟨u.heap.size, 0, none⟩) N c] u2 fun e w' => ∃ (x0 x1 : ByteArray) (A2 : Option Addr) (n2 c2 : Nat) (A3 : Option Addr) (n3 c3 : Nat), e = .returned (.tuple #[.agg #[.string x0, .string x1, .slice A2 n2 c2, .slice A3 n3 c3], .int .i64 n, .int .i64 0]) ∧ ReqO w' u2.heap.size (.agg #[.string x0, .string x1, .slice A2 n2 c2, .slice A3 n3 c3]) q ∧ Below u2.heap.size u2 w' := by
  obtain ⟨c, u1, h1, h2, h3, h4, h5⟩ := conv_bytes s u
  have hlen : ls.length = N := by rw [← hd, ← hs, Lib.size_eq]
  rw [hs] at h1 h4 h5
  rw [hd] at h5
  refine ⟨c, u1, h1, h2, fun u2 hu2 => ?_⟩
  have s2 := hu2.size
  have hp := oParse ls (some ⟨u.heap.size, 0, none⟩) c (u.heap.size + 1) u2 ((hL.below h2).below hu2) (by rw [hlen]; exact h5.below (hu2.mono (by omega))) (by omega) (by omega) (fun e => by cases e) (by omega)
  rw [hlen, hq] at hp
  refine hp.mono ?_
  rintro e w' ⟨x0, x1, A2, n2, c2, A3, n3, c3, he, hr, hb⟩
  exact ⟨x0, x1, A2, n2, c2, A3, n3, c3, he, hr, hb⟩
/-- four cells of a box -/
theorem store4 {B g : Nat} {w u : World} {t : TypeId} {z0 z1 z2 z3 : Value} (h : Blk u g t [z0, z1, z2, z3]) (hb : Below B w u) (hg : B ≤ g) (a b c d : Value) :
    Blk ((((u.setCell ⟨g, 0, none⟩ a).setCell ⟨g, 1, none⟩ b).setCell ⟨g, 2, none⟩ c).setCell ⟨g, 3, none⟩ d) g t [a, b, c, d] ∧ But [g] u ((((u.setCell ⟨g, 0, none⟩ a).setCell ⟨g, 1, none⟩ b).setCell ⟨g, 2, none⟩ c).setCell ⟨g, 3, none⟩ d) ∧
      Below B w ((((u.setCell ⟨g, 0, none⟩ a).setCell ⟨g, 1, none⟩ b).setCell ⟨g, 2, none⟩ c).setCell ⟨g, 3, none⟩ d) := by
  refine ⟨(((h.set_ 0 a).set_ 1 b).set_ 2 c).set_ 3 d, ((((But.refl _ _).setCell (by simp) _).setCell (by simp) _).setCell (by simp) _).setCell (by simp) _, ?_⟩
  exact (((hb.setCell (p := ⟨g, 0, none⟩) hg _).setCell (p := ⟨g, 1, none⟩) hg _).setCell (p := ⟨g, 2, none⟩) hg _).setCell (p := ⟨g, 3, none⟩) hg _
end Go.Proofs.YtcjapjnhejenaaaDoor
namespace Garner
def pushHd : Bs := [80, 79, 83, 84, 32, 47, 112, 117, 115, 104, 32, 72, 84, 84, 80, 47, 49, 46, 49, 13, 10, 72, 111, 115, 116, 58, 32, 120, 13, 10]
def chEnd : Bs := [58, 32, 99, 104, 117, 110, 107, 101, 100, 13, 10, 13, 10]
def clBeg : Bs := [67, 111, 110, 116, 101, 110, 116, 45, 76, 101, 110, 103, 116, 104, 58]
theorem te_cat (up : Bool) (v : Bs) : pushHd ++ teName up ++ chEnd ++ v ++ lastP = hdP [pushL, hostL, teL up] ++ (crlf ++ (v ++ lastP)) := by
  simp [pushHd, chEnd, hdP, pushL, hostL, teL, chunkedS, crlf]
theorem cl_cat (d : Nat) (b : Bs) : pushHd ++ clBeg ++ decP d ++ crlf2 ++ b = hdP [pushL, hostL, clL d] ++ (crlf ++ b) := by
  simp [pushHd, clBeg, hdP, pushL, hostL, clL, lenName, crlf, crlf2]
theorem te_len (up : Bool) : (hdP [pushL, hostL, teL up]).length + 2 = 30 + (teName up).length + 13 := by cases up <;> decide
theorem cl_len (d : Nat) : (hdP [pushL, hostL, clL d]).length + 2 = 30 + 15 + (decP d).length + 4 := by
  simp [hdP, pushL, hostL, clL, lenName, crlf]; omega
theorem teName_len (up : Bool) : (teName up).length = 17 := by cases up <;> rfl
end Garner
namespace Go.Proofs.YtcjapjnhejenaaaDoor
open Go.RowKit Go.Shelf Garner

set_option maxRecDepth 100000 in
set_option maxHeartbeats 8000000 in
theorem lawHB (b : Bs) (cuts : Bs) (up : Bool) (A0 A1 : Option Addr) (c0 c1 B : Nat) (w : World) (hL : Lt w) (h0 : Bytes w B A0 b.length b) (h1 : Bytes w B A1 cuts.length cuts) (hB : B ≤ w.heap.size) (hc : b.length ≤ c0) (hA : A0 = none → c0 = 0) :
    Calls Tryd.prog 4 #[.slice A0 b.length c0, .slice A1 cuts.length c1, .bool up] w fun e w' => e = .returned (.bool true) ∧ Below w.heap.size w w' := by
  go_enter Tryd.func4, Tryd.ntmps4
  go_wp2_with fail
  refine (awake26 w hL).mono ?_
  rintro e w1 ⟨rfl, hb1⟩
  have s1 := hb1.size
  by_cases h8 : 8192 < b.length
  · have z1 : (8192 : Int) < (b.length : Int) := by omega
    go_wp2
    go_ret
    exact ⟨rfl, hb1⟩
  have z1 : ¬ (8192 : Int) < (b.length : Int) := by omega
  obtain ⟨nm, hnm⟩ : ∃ nm : ByteArray, nm = ⟨(teName up).toArray⟩ := ⟨_, rfl⟩
  obtain ⟨dg, hdg⟩ : ∃ dg : ByteArray, dg = ⟨(digsP up).toArray⟩ := ⟨_, rfl⟩
  go_upto_if 25 with fail
  go_cut [7, 8] (fun s7 s8 wx => s7 = .string dg ∧ s8 = .string nm ∧ wx = w1)
  case first =>
    cases up with
    | true =>
      go_wp2_with fail
      go_meet
      exact ⟨by rw [hdg]; rfl, by rw [hnm]; rfl, rfl⟩
    | false =>
      go_wp2_with fail
      go_meet
      exact ⟨by rw [hdg]; rfl, by rw [hnm]; rfl, rfl⟩
  case rest =>
  obtain ⟨rfl, rfl, hwc⟩ := hcut
  obtain rfl : w1 = wc := hwc.symm
  have hvh : ∀ (n : Nat) (u : World), n < 4294967296 → Calls Tryd.prog 11 #[.int .i64 n, .string dg] u fun e w' => e = .returned (str (hexT up n)) ∧ w' = u := fun n u h => by
    rw [hdg]; exact vHexT up n u h
  have Hvh := Lib.hid hvh; clear hvh
  have Hdg := Lib.hid hdg; clear hdg
  have Hnm := Lib.hid hnm; clear hnm
  go_wp2
  go_loopw [9, 10, 11] (fun s9 s10 s11 wr => ∃ (ps : List Bs) (f : Nat), s9 = str (encP up ps) ∧ s10 = .int .i64 f ∧ ps.flatten = b.take f ∧ f ≤ b.length ∧ (∀ p ∈ ps, 1 ≤ p.length) ∧ s11 = .int .i64 (ps.length : Nat) ∧ Below w.heap.size w wr) (fun _ s10 _ _ => b.length - (intOf s10).toNat)
  case atStart => exact ⟨[], 0, rfl, rfl, by simp, by omega, by simp, rfl, hb1⟩
  case round =>
    obtain ⟨ps, f, rfl, rfl, hf, hfb, hps, rfl, hbr⟩ := hrel
    obtain ⟨wo, rfl⟩ : ∃ wo : World, wo = wr := ⟨_, rfl⟩
    obtain ⟨i, hi⟩ : ∃ i, ps.length = i := ⟨_, rfl⟩
    rw [hi]
    have Hi := Lib.hid hi; clear hi
    have Hf := Lib.hid hf; clear hf
    by_cases hlt : f < b.length
    · have lt1 : (f : Int) < (b.length : Int) := by omega
      have z2 : IntKind.i64.wrap ((b.length : Int) - (f : Int)) = ((b.length - f : Nat) : Int) := by rw [IntKind.wrap_i64]; omega
      obtain ⟨d, hd⟩ : ∃ d, b.length - f = d := ⟨_, rfl⟩
      rw [hd] at z2
      have hd1 : 1 ≤ d := by omega
      have hfd : f + d ≤ b.length := by omega
      clear hd
      go_upto_if 39 with fail
      go_cut [12] (fun s12 wx => ∃ n : Nat, s12 = .int .i64 n ∧ 1 ≤ n ∧ f + n ≤ b.length ∧ wx = wo)
      case first =>
        by_cases hic : i < cuts.length
        · obtain ⟨bk, off, rfl, hbk, hcell⟩ := (h1.below (hbr.mono hB)).at_ hic
          obtain ⟨x, hx⟩ : ∃ x, cuts[i].toNat = x := ⟨_, rfl⟩
          have hx256 : x < 256 := by rw [← hx]; exact UInt8.toNat_lt _
          have ck : wo.cell? ⟨bk, off + i, none⟩ = some (.int .u8 (x : Int)) := by
            rw [hcell i (by simpa using hic), List.getElem_map, ← hx]; rfl
          clear hcell hx
          have z3 : IntKind.i64.wrap (x : Int) = (x : Int) := by rw [IntKind.wrap_i64]; omega
          have z4 : IntKind.i64.wrap ((x : Int) + 1) = (x : Int) + 1 := by rw [IntKind.wrap_i64]; omega
          rcases Nat.lt_trichotomy (x + 1) d with hm | hm | hm
          · have z5 : (x : Int) + 1 < (d : Int) := by omega
            have z6 : ¬ (d : Int) < (x : Int) + 1 := by omega
            have z7 : ¬ (d : Int) ≤ (x : Int) + 1 := by omega
            go_wp2_with fail
            go_meet
            exact ⟨x + 1, by simp; omega, by omega, by omega, rfl⟩
          · have z5 : ¬ (x : Int) + 1 < (d : Int) := by omega
            have z6 : ¬ (d : Int) < (x : Int) + 1 := by omega
            go_wp2_with fail
            go_meet
            exact ⟨d, by first | rfl | (congr 1; omega), by omega, by omega, rfl⟩
          · have z5 : ¬ (x : Int) + 1 < (d : Int) := by omega
            have z6 : (d : Int) < (x : Int) + 1 := by omega
            go_wp2_with fail
            go_meet
            exact ⟨d, by first | rfl | (simp; omega), by omega, by omega, rfl⟩
        · go_wp2_with fail
          go_meet
          exact ⟨d, rfl, by omega, by omega, rfl⟩
      case rest =>
      obtain ⟨n, rfl, hn1, hnb, hwc⟩ := hcut
      obtain rfl : wo = wc := hwc.symm
      obtain ⟨pc, hpc⟩ : ∃ pc, pc = (b.drop f).take n := ⟨_, rfl⟩
      have hpl : pc.length = n := by rw [hpc, List.length_take, List.length_drop]; omega
      obtain ⟨ev, hev⟩ : ∃ ev : ByteArray, ev = ⟨(encP up ps).toArray⟩ := ⟨_, rfl⟩
      obtain ⟨hv, hhv⟩ : ∃ hv : ByteArray, hv = ⟨(hexT up n).toArray⟩ := ⟨_, rfl⟩
      obtain ⟨pv, hpv⟩ : ∃ pv : ByteArray, pv = ⟨pc.toArray⟩ := ⟨_, rfl⟩
      have hcall := fun u => Hvh.out n u (by omega)
      rw [show str (hexT up n) = .string hv by rw [hhv]] at hcall
      rw [show str (encP up ps) = .string ev by rw [hev]]
      have hes : ev.size ≤ 80000 := by rw [hev, str_size]; exact encP_le up ps (by rw [Hf.out, List.length_take]; omega) hps
      have hhs : hv.size ≤ 8 := by rw [hhv, str_size]; exact hexT_len up 7 n (by omega)
      have hqs : pv.size = n := by rw [hpv, str_size, hpl]
      obtain ⟨a1, ea1, da1, sa1⟩ := cat_str ev (encP up ps) (hexT up n) hev _ rfl
      rw [← hhv] at ea1
      obtain ⟨a2, ea2, da2, sa2⟩ := cat_str a1 (encP up ps ++ hexT up n) crlf (by rw [← ea1, hev, hhv]; apply ByteArray.ext; simp) _ rfl
      obtain ⟨a3, ea3, da3, sa3⟩ := cat_str a2 (encP up ps ++ hexT up n ++ crlf) pc (by rw [← da2]) _ rfl
      rw [← hpv] at ea3
      obtain ⟨a4, ea4, da4, sa4⟩ := cat_str a3 (encP up ps ++ hexT up n ++ crlf ++ pc) crlf (by rw [← da3]) _ rfl
      have ea2 : (a1 ++ ⟨#[13, 10]⟩ : ByteArray) = a2 := ea2
      have ea4 : (a3 ++ ⟨#[13, 10]⟩ : ByteArray) = a4 := ea4
      have m1 : ¬ 9223372036854775807 < ev.size + hv.size := by omega
      have m2 : ¬ 9223372036854775807 < a1.size + 2 := by rw [sa1, ← str_size, ← str_size, ← hev, ← hhv]; omega
      have m3 : ¬ 9223372036854775807 < a2.size + n := by
        have e1 : (encP up ps).length = ev.size := by rw [hev, str_size]
        have e2 : (hexT up n).length = hv.size := by rw [hhv, str_size]
        rw [sa2, List.length_append, e1, e2]; simp [crlf]; omega
      have m4 : ¬ 9223372036854775807 < a3.size + 2 := by
        have e1 : (encP up ps).length = ev.size := by rw [hev, str_size]
        have e2 : (hexT up n).length = hv.size := by rw [hhv, str_size]
        rw [sa3, List.length_append, List.length_append, e1, e2, hpl]; simp [crlf]; omega
      obtain ⟨t, ht⟩ : ∃ t, f + n = t := ⟨_, rfl⟩
      have ef : (f : Int) + (n : Int) = (t : Int) := by omega
      have ef2 : IntKind.i64.wrap (t : Int) = (t : Int) := by rw [IntKind.wrap_i64]; omega
      obtain ⟨bk, off, rfl, -⟩ := h0.2 (by omega : 0 < b.length)
      have k1 : (0 : Int) ≤ (f : Int) := by omega
      have k2 : (f : Int) ≤ (t : Int) := by omega
      have k3 : (t : Int) ≤ (c0 : Int) := by omega
      have k6 : t - f = n := by omega
      have k4 : ¬ c0 = f := by omega
      have k5 : f + n - f = n := by omega
      have hrow : ∀ u, Below w.heap.size w u → (convert 22 9 (.slice (some ⟨bk, off + f, none⟩) n (c0 - f))).run Tryd.prog u = .ok (.string pv) u := fun u hu => by
        have h := (h0.below (hu.mono hB)).cut (lo := f) (hi := f + n) (by omega) hnb rfl
        rw [k5, ← List.map_drop, ← List.map_take, ← hpc] at h
        rw [hpv]
        exact run_str h
      have Ha4 : Hid (a4 = ⟨(encP up (ps ++ [pc])).toArray⟩) := Lib.hid (by
        have e : encP up (ps ++ [pc]) = a4.data.toList := by rw [da4, encP_snoc, hpl]; simp
        rw [e])
      have Hfl : Hid ((ps ++ [pc]).flatten = b.take (f + n)) := Lib.hid (by
        rw [List.flatten_append, Hf.out, hpc]; simp [List.take_add])
      have Ht := Lib.hid ht; clear ht
      clear hpc sa1 sa2 sa3 sa4 da1 da2 da3 da4 hev hhv hpv
      go_upto_region 18 with fail
      refine wp_region_N (fun w' => Below w.heap.size w w') 100 (by kernel_rfl) ?_
      have rS0 : Below w.heap.size w wo.drew := hbr.drew
      apply wpAnyN_takeL 0 (by kernel_rfl) rfl (fun _ _ _ h => h) (by kernel_rfl) rS0
      · intro w' hS'
        go_simp; exact ⟨rfl, rfl⟩
      (try simp only [Act.put]); (try simp only [List.setIfInBounds_toArray]); (try simp only [List.set])
      apply wpAnyN_takeL 1 (by kernel_rfl) rfl (fun _ _ _ h => h) (by kernel_rfl) rS0
      · intro w' hS'
        go_simp; exact ⟨rfl, rfl⟩
      (try simp only [Act.put]); (try simp only [List.setIfInBounds_toArray]); (try simp only [List.set])
      apply wpAnyN_takeL 2 (by kernel_rfl) rfl (fun _ _ _ h => h) (by kernel_rfl) rS0
      · intro w' hS'
        go_simp; exact ⟨rfl, rfl⟩
      (try simp only [Act.put]); (try simp only [List.setIfInBounds_toArray]); (try simp only [List.set])
      apply wpAnyN_takeL 3 (v := (.string hv)) (by kernel_rfl) rfl (fun _ _ _ h => h) (by kernel_rfl) rS0
      · intro w' hS'
        (go_simp; exact ⟨rfl, hcall _⟩)
      (try simp only [Act.put]); (try simp only [List.setIfInBounds_toArray]); (try simp only [List.set])
      apply wpAnyN_takeL 6 (by kernel_rfl) rfl (fun _ _ _ h => h) (by kernel_rfl) rS0
      · intro w' hS'
        go_simp; exact ⟨rfl, rfl⟩
      (try simp only [Act.put]); (try simp only [List.setIfInBounds_toArray]); (try simp only [List.set])
      apply wpAnyN_takeL 7 (by kernel_rfl) rfl (fun _ _ _ h => h) (by kernel_rfl) rS0
      · intro w' hS'
        go_simp; exact ⟨rfl, rfl⟩
      (try simp only [Act.put]); (try simp only [List.setIfInBounds_toArray]); (try simp only [List.set])
      apply wpAnyN_takeL 8 (by kernel_rfl) rfl (fun _ _ _ h => h) (by kernel_rfl) rS0
      · intro w' hS'
        go_simp; exact ⟨rfl, rfl⟩
      (try simp only [Act.put]); (try simp only [List.setIfInBounds_toArray]); (try simp only [List.set])
      apply wpAnyN_takeL 9 (by kernel_rfl) rfl (fun _ _ _ h => h) (by kernel_rfl) rS0
      · intro w' hS'
        go_simp; exact ⟨rfl, rfl⟩
      (try simp only [Act.put]); (try simp only [List.setIfInBounds_toArray]); (try simp only [List.set])
      apply wpAnyN_takeL 4 (by kernel_rfl) rfl (fun _ _ _ h => h) (by kernel_rfl) rS0
      · intro w' hS'
        go_simp; exact ⟨rfl, rfl⟩
      (try simp only [Act.put]); (try simp only [List.setIfInBounds_toArray]); (try simp only [List.set])
      apply wpAnyN_takeL 5 (by kernel_rfl) rfl (fun _ _ _ h => h) (by kernel_rfl) rS0
      · intro w' hS'
        go_simp; exact ⟨rfl, rfl⟩
      (try simp only [Act.put]); (try simp only [List.setIfInBounds_toArray]); (try simp only [List.set])
      apply wpAnyN_takeL 10 (by kernel_rfl) rfl (fun _ _ _ h => h) (by kernel_rfl) rS0
      · intro w' hS'
        go_simp; exact ⟨rfl, rfl⟩
      (try simp only [Act.put]); (try simp only [List.setIfInBounds_toArray]); (try simp only [List.set])
      apply wpAnyN_takeL 11 (by kernel_rfl) rfl (fun _ _ _ h => h) (by kernel_rfl) rS0
      · intro w' hS'
        go_simp; exact ⟨rfl, rfl⟩
      (try simp only [Act.put]); (try simp only [List.setIfInBounds_toArray]); (try simp only [List.set])
      apply wpAnyN_takeL 12 (v := (.string pv)) (by kernel_rfl) rfl (fun _ _ _ h => h) (by kernel_rfl) rS0
      · intro w' hS'
        (have hst := hrow _ hS'; go_simp; exact ⟨rfl, rfl⟩)
      (try simp only [Act.put]); (try simp only [List.setIfInBounds_toArray]); (try simp only [List.set])
      apply wpAnyN_takeL 13 (by kernel_rfl) rfl (fun _ _ _ h => h) (by kernel_rfl) rS0
      · intro w' hS'
        go_simp; exact ⟨rfl, rfl⟩
      (try simp only [Act.put]); (try simp only [List.setIfInBounds_toArray]); (try simp only [List.set])
      apply wpAnyN_takeL 14 (by kernel_rfl) rfl (fun _ _ _ h => h) (by kernel_rfl) rS0
      · intro w' hS'
        go_simp; exact ⟨rfl, rfl⟩
      (try simp only [Act.put]); (try simp only [List.setIfInBounds_toArray]); (try simp only [List.set])
      apply wpAnyN_takeL 15 (by kernel_rfl) rfl (fun _ _ _ h => h) (by kernel_rfl) rS0
      · intro w' hS'
        go_simp; exact ⟨rfl, rfl⟩
      (try simp only [Act.put]); (try simp only [List.setIfInBounds_toArray]); (try simp only [List.set])
      refine wpAnyN_done (by kernel_rfl) ?_ _
      have hil : i ≤ f := by
        have h1 := len_flat ps hps
        rw [Hi.out, Hf.out, List.length_take] at h1
        omega
      have e11 : IntKind.i64.wrap ((i : Int) + 1) = (i : Int) + 1 := by rw [IntKind.wrap_i64]; omega
      go_wp2_with fail
      refine ⟨⟨ps ++ [pc], t, by rw [Ha4.out], rfl, by rw [Hfl.out, Ht.out], by omega, ?_, by simp [Hi.out], rS0⟩, by have := Ht.out; simp [intOf]; omega⟩
      intro p hp
      rcases List.mem_append.1 hp with h | h
      · exact hps p h
      · rw [List.mem_singleton.1 h, hpl]; exact hn1
    · obtain rfl : f = b.length := by omega
      have lt1 : ¬ (b.length : Int) < (b.length : Int) := by omega
      have hfl : ps.flatten = b := by rw [Hf.out]; exact List.take_length
      have h8' : b.length ≤ 8192 := by omega
      have hps' := hps
      obtain ⟨ev, hev⟩ : ∃ ev : ByteArray, ev = ⟨(encP up ps).toArray⟩ := ⟨_, rfl⟩
      rw [show str (encP up ps) = .string ev by rw [hev]]
      have hes : ev.size = (encP up ps).length := by rw [hev, str_size]
      have hel : (encP up ps).length ≤ 80000 := encP_le up ps (by rw [hfl]; exact h8') hps
      have hns : nm.size = 17 := by rw [Hnm.out, str_size, teName_len]
      obtain ⟨a1, ea1, da1, sa1⟩ := cat_str ⟨pushHd.toArray⟩ pushHd (teName up) rfl 47 (by rw [teName_len]; rfl)
      rw [← Hnm.out] at ea1
      obtain ⟨a2, ea2, da2, sa2⟩ := cat_str a1 (pushHd ++ teName up) chEnd (by rw [← da1]) 60 (by rw [List.length_append, teName_len]; rfl)
      obtain ⟨a3, ea3, da3, sa3⟩ := cat_str a2 (pushHd ++ teName up ++ chEnd) (encP up ps) (by rw [← da2]) (60 + ev.size) (by rw [List.length_append, List.length_append, teName_len, hes]; rfl)
      rw [← hev] at ea3
      obtain ⟨a4, ea4, da4, sa4⟩ := cat_str a3 (pushHd ++ teName up ++ chEnd ++ encP up ps) lastP (by rw [← da3]) (65 + ev.size) (by simp only [List.length_append, teName_len, ← hes, pushHd, chEnd, lastP, List.length_cons, List.length_nil]; omega)
      have ea1 : (⟨#[80, 79, 83, 84, 32, 47, 112, 117, 115, 104, 32, 72, 84, 84, 80, 47, 49, 46, 49, 13, 10, 72, 111, 115, 116, 58, 32, 120, 13, 10]⟩ ++ nm : ByteArray) = a1 := ea1
      have ea2 : (a1 ++ ⟨#[58, 32, 99, 104, 117, 110, 107, 101, 100, 13, 10, 13, 10]⟩ : ByteArray) = a2 := ea2
      have ea4 : (a3 ++ ⟨#[48, 13, 10, 13, 10]⟩ : ByteArray) = a4 := ea4
      rw [te_cat] at da4
      have hq := parse_te up ps hps (by rw [hfl]; exact h8')
      rw [hfl, te_len, teName_len, ← hes] at hq
      obtain ⟨n1, hn1⟩ : ∃ n1, 30 + 17 + 13 + ev.size + 5 = n1 := ⟨_, rfl⟩
      rw [hn1] at hq
      have m1 : ¬ 9223372036854775807 < 30 + nm.size := by omega
      have m2 : ¬ 9223372036854775807 < a1.size + 13 := by omega
      have m3 : ¬ 9223372036854775807 < a2.size + ev.size := by omega
      have m4 : ¬ 9223372036854775807 < a3.size + 5 := by omega
      obtain ⟨N, hN⟩ : ∃ N, 65 + ev.size = N := ⟨_, rfl⟩
      rw [hN] at sa4
      obtain ⟨d1, V1, k1, hk1, hp1'⟩ := okParse a4 N wo (hL.below hbr) sa4 (by omega) _ da4 _ _ hq
      have hp1 := hp1' V1 (Below.refl _ _)
      clear hp1'
      have Hes := Lib.hid hes; have Hns := Lib.hid hns; have Hn1 := Lib.hid hn1; have HN := Lib.hid hN
      have Hfl := Lib.hid hfl
      clear hes hns hn1 hN hfl sa1 sa2 sa3 sa4 da1 da2 da3 da4 hq hev hps hps'
      go_upto_region 21 with fail
      go_wp2_with fail
      refine hp1.mono ?_
      rintro e U1 ⟨x0, x1, A2, n2, c2, A3, n3, c3, rfl, hr1', hb'⟩
      have hr1 := hr1'.toR
      have hb : Below wo.heap.size wo U1 := hk1.trans (hb'.mono hk1.size)
      obtain ⟨W2, hW⟩ : ∃ W, W = U1.alloc (.cells #[.string x0, .string x1, .slice A2 n2 c2, .slice A3 n3 c3] 26) := ⟨_, rfl⟩
      have sr := hbr.size
      have hbU1 := hbr.trans (hb.mono sr)
      have hbW2 : Below w.heap.size w W2 := by rw [hW]; exact hbU1.alloc hbU1.size _
      have hrA : ReqR W2 (.agg #[.string x0, .string x1, .slice A2 n2 c2, .slice A3 n3 c3]) (pushQ b) := hr1.below (w' := W2) (by rw [hW]; exact (Below.refl _ _).alloc (Nat.le_refl _) _)
      have bA : Blk W2 U1.heap.size 26 [.string x0, .string x1, .slice A2 n2 c2, .slice A3 n3 c3] := by rw [hW]; exact Blk.new U1 _ _
      have sW2 := hbW2.size
      go_upto_region 22 with fail
      rw [← hW]
      clear hW hp1 k1 hb hr1 ea1 ea2 ea3 ea4 m1 m2 m3 m4
      obtain ⟨dv, hdv⟩ : ∃ dv : ByteArray, dv = ⟨(decP b.length).toArray⟩ := ⟨_, rfl⟩
      have hds : dv.size = (decP b.length).length := by rw [hdv, str_size]
      have hdl := decP_len 5 b.length (by omega)
      obtain ⟨bs, hbs⟩ : ∃ bs : ByteArray, bs = ⟨b.toArray⟩ := ⟨_, rfl⟩
      have y4 : bs.size = b.length := by rw [hbs, str_size]
      obtain ⟨b1, eb1, db1, sb1⟩ := cat_str ⟨pushHd.toArray⟩ pushHd clBeg rfl 45 rfl
      obtain ⟨b2, eb2, db2, sb2⟩ := cat_str b1 (pushHd ++ clBeg) (decP b.length) (by rw [← db1]) (45 + dv.size) (by rw [hds]; rfl)
      rw [← hdv] at eb2
      obtain ⟨b3, eb3, db3, sb3⟩ := cat_str b2 (pushHd ++ clBeg ++ decP b.length) crlf2 (by rw [← db2]) (49 + dv.size) (by rw [List.length_append, ← hds]; simp only [pushHd, clBeg, crlf2, List.length_append, List.length_cons, List.length_nil]; omega)
      obtain ⟨b4, eb4, db4, sb4⟩ := cat_str b3 (pushHd ++ clBeg ++ decP b.length ++ crlf2) b (by rw [← db3]) (49 + dv.size + b.length) (by rw [List.length_append, List.length_append, ← hds]; simp only [pushHd, clBeg, crlf2, List.length_append, List.length_cons, List.length_nil]; omega)
      rw [← hbs] at eb4
      have eb1 : (⟨#[80, 79, 83, 84, 32, 47, 112, 117, 115, 104, 32, 72, 84, 84, 80, 47, 49, 46, 49, 13, 10, 72, 111, 115, 116, 58, 32, 120, 13, 10]⟩ ++ ⟨#[67, 111, 110, 116, 101, 110, 116, 45, 76, 101, 110, 103, 116, 104, 58]⟩ : ByteArray) = b1 := eb1
      have eb3 : (b2 ++ ⟨#[13, 10, 13, 10]⟩ : ByteArray) = b3 := eb3
      rw [cl_cat] at db4
      have hq2 := parse_cl b h8'
      rw [cl_len, ← hds] at hq2
      obtain ⟨n5, hn5⟩ : ∃ n5, 30 + 15 + dv.size + 4 + b.length = n5 := ⟨_, rfl⟩
      rw [hn5] at hq2
      have m2 : ¬ 9223372036854775807 < b1.size + dv.size := by omega
      have m3 : ¬ 9223372036854775807 < b2.size + 4 := by omega
      have m4 : ¬ 9223372036854775807 < b3.size + b.length := by omega
      obtain ⟨N2, hN2⟩ : ∃ N2, 49 + dv.size + b.length = N2 := ⟨_, rfl⟩
      rw [hN2] at sb4
      have rS0 : Below W2.heap.size W2 W2.drew := (Below.refl _ _).drew
      have cp := fun (u : World) (hu : Below W2.heap.size W2 u) => okParse b4 N2 u (hL.below (hbW2.trans (hu.mono sW2))) sb4 (by omega) _ db4 _ _ hq2
      have cdec : ∀ u, Calls Tryd.prog 12 #[.int .i64 (b.length : Nat)] u fun e w' => e = .returned (.string dv) ∧ w' = u := fun u => by
        rw [hdv]; exact vDecimal b.length u (by omega)
      have hbz : ∀ u, Below W2.heap.size W2 u → (convert 22 9 (.slice A0 b.length c0)).run Tryd.prog u = .ok (.string bs) u := fun u hu => by
        rw [hbs]; exact run_str ((h0.below (hbW2.mono hB)).below (hu.mono (by omega)))
      have Hds := Lib.hid hds; have Hn5 := Lib.hid hn5; have HN2 := Lib.hid hN2; have Hbs := Lib.hid hbs
      clear hds hn5 hN2 sb1 sb2 sb3 sb4 db1 db2 db3 db4 hq2 hdv hbs
      go_cut [17, 18, 19] (fun s17 s18 s19 wx => ∃ (g : Nat) (y0 y1 : ByteArray) (B2 : Option Addr) (k2' f2 : Nat) (B3 : Option Addr) (k3' f3 : Nat), s17 = .pointer (some ⟨g, 0, none⟩) ∧ s18 = .int .i64 n5 ∧ s19 = .int .i64 0 ∧
        Blk wx g 26 [.string y0, .string y1, .slice B2 k2' f2, .slice B3 k3' f3] ∧ ReqR wx (.agg #[.string y0, .string y1, .slice B2 k2' f2, .slice B3 k3' f3]) (pushQ b) ∧ Below W2.heap.size W2 wx)
      case first =>
        refine wp_region_N (fun w' => Below W2.heap.size W2 w') 100 (by kernel_rfl) ?_
        apply wpAnyN_takeL 0 (by kernel_rfl) rfl (fun _ _ _ h => h) (by kernel_rfl) rS0
        · intro w' hS'
          go_simp; exact ⟨rfl, rfl⟩
        (try simp only [Act.put]); (try simp only [List.setIfInBounds_toArray]); (try simp only [List.set])
        apply wpAnyN_takeL 1 (by kernel_rfl) rfl (fun _ _ _ h => h) (by kernel_rfl) rS0
        · intro w' hS'
          go_simp; exact ⟨rfl, rfl⟩
        (try simp only [Act.put]); (try simp only [List.setIfInBounds_toArray]); (try simp only [List.set])
        apply wpAnyN_takeL 2 (by kernel_rfl) rfl (fun _ _ _ h => h) (by kernel_rfl) rS0
        · intro w' hS'
          go_simp; exact ⟨rfl, rfl⟩
        (try simp only [Act.put]); (try simp only [List.setIfInBounds_toArray]); (try simp only [List.set])
        apply wpAnyN_takeL 3 (by kernel_rfl) rfl (fun _ _ _ h => h) (by kernel_rfl) rS0
        · intro w' hS'
          go_simp; exact ⟨rfl, rfl⟩
        (try simp only [Act.put]); (try simp only [List.setIfInBounds_toArray]); (try simp only [List.set])
        apply wpAnyN_takeL 4 (v := (.string dv)) (by kernel_rfl) rfl (fun _ _ _ h => h) (by kernel_rfl) rS0
        · intro w' hS'
          (go_simp; exact ⟨rfl, cdec _⟩)
        (try simp only [Act.put]); (try simp only [List.setIfInBounds_toArray]); (try simp only [List.set])
        apply wpAnyN_takeL 5 (by kernel_rfl) rfl (fun _ _ _ h => h) (by kernel_rfl) rS0
        · intro w' hS'
          go_simp; exact ⟨rfl, rfl⟩
        (try simp only [Act.put]); (try simp only [List.setIfInBounds_toArray]); (try simp only [List.set])
        apply wpAnyN_takeL 6 (by kernel_rfl) rfl (fun _ _ _ h => h) (by kernel_rfl) rS0
        · intro w' hS'
          go_simp; exact ⟨rfl, rfl⟩
        (try simp only [Act.put]); (try simp only [List.setIfInBounds_toArray]); (try simp only [List.set])
        apply wpAnyN_takeL 7 (by kernel_rfl) rfl (fun _ _ _ h => h) (by kernel_rfl) rS0
        · intro w' hS'
          go_simp; exact ⟨rfl, rfl⟩
        (try simp only [Act.put]); (try simp only [List.setIfInBounds_toArray]); (try simp only [List.set])
        apply wpAnyN_takeL 8 (v := (.string bs)) (by kernel_rfl) rfl (fun _ _ _ h => h) (by kernel_rfl) rS0
        · intro w' hS'
          (have hst := hbz _ hS'; go_simp; exact ⟨rfl, rfl⟩)
        (try simp only [Act.put]); (try simp only [List.setIfInBounds_toArray]); (try simp only [List.set])
        apply wpAnyN_takeL 9 (by kernel_rfl) rfl (fun _ _ _ h => h) (by kernel_rfl) rS0
        · intro w' hS'
          go_simp; exact ⟨rfl, rfl⟩
        (try simp only [Act.put]); (try simp only [List.setIfInBounds_toArray]); (try simp only [List.set])
        refine wpAnyN_two 10 16 (by kernel_rfl) rfl (by kernel_rfl) rfl (by kernel_rfl) (fun K hK => ?_) (fun K hK => ?_)
        · obtain ⟨d2, V2, k2, hk2, hp2⟩ := cp _ rS0
          go_simp
          have rS1 : Below W2.heap.size W2 V2 := rS0.trans (hk2.mono rS0.size)
          refine hK _ _ (fun _ => rS1) ?_
          clear hK K
          (try simp only [Act.put]); (try simp only [List.setIfInBounds_toArray]); (try simp only [List.set])
          refine wpAnyN_two 11 16 (by kernel_rfl) rfl (by kernel_rfl) rfl (by kernel_rfl) (fun K hK => ?_) (fun K hK => ?_)
          · go_simp
            refine (hp2 V2 (Below.refl _ _)).mono ?_
            rintro e U2 ⟨y0, y1, B2, k2', f2, B3, k3', f3, rfl, hr2, hb⟩
            have rS2 : Below W2.heap.size W2 U2 := rS1.trans (hb.mono rS1.size)
            refine hK _ _ (fun _ => rS2) ?_
            clear hK K
            (try simp only [Act.put]); (try simp only [List.setIfInBounds_toArray]); (try simp only [List.set])
            apply wpAnyN_takeL 12 (by kernel_rfl) rfl (fun _ _ _ h => h) (by kernel_rfl) rS2
            · intro w' hS'
              go_simp; exact ⟨rfl, rfl⟩
            (try simp only [Act.put]); (try simp only [List.setIfInBounds_toArray]); (try simp only [List.set])
            apply wpAnyN_takeL 13 (by kernel_rfl) rfl (fun _ _ _ h => h) (by kernel_rfl) rS2
            · intro w' hS'
              go_simp; exact ⟨rfl, rfl⟩
            (try simp only [Act.put]); (try simp only [List.setIfInBounds_toArray]); (try simp only [List.set])
            apply wpAnyN_takeL 14 (by kernel_rfl) rfl (fun _ _ _ h => h) (by kernel_rfl) rS2
            · intro w' hS'
              go_simp; exact ⟨rfl, rfl⟩
            (try simp only [Act.put]); (try simp only [List.setIfInBounds_toArray]); (try simp only [List.set])
            apply wpAnyN_takeL 15 (by kernel_rfl) rfl (fun _ _ _ h => h) (by kernel_rfl) rS2
            · intro w' hS'
              go_simp; exact ⟨rfl, rfl⟩
            (try simp only [Act.put]); (try simp only [List.setIfInBounds_toArray]); (try simp only [List.set])
            refine wpAnyN_runL 16 (by kernel_rfl) rfl (by kernel_rfl) (fun K hK => ?_)
            go_simp
            have rS3 : Below W2.heap.size W2 (U2.alloc (.cells #[.string { data := #[] }, .string { data := #[] }, .slice none 0 0, .slice none 0 0] 26)) := rS2.alloc rS2.size _
            refine hK _ _ (fun _ => rS3) ?_
            clear hK K
            (try simp only [Act.put]); (try simp only [List.setIfInBounds_toArray]); (try simp only [List.set])
            refine wpAnyN_runL 17 (by kernel_rfl) rfl (by kernel_rfl) (fun K hK => ?_)
            go_simp
            obtain ⟨W3, hW⟩ : ∃ W, W = U2.alloc (.cells #[.string y0, .string y1, .slice B2 k2' f2, .slice B3 k3' f3] 26) := ⟨_, rfl⟩
            rw [← hW]
            have h23 : Below W2.heap.size W2 W3 := by rw [hW]; exact rS2.alloc rS2.size _
            have hrB : ReqR W3 (.agg #[.string y0, .string y1, .slice B2 k2' f2, .slice B3 k3' f3]) (pushQ b) := hr2.toR.below (w' := W3) (by rw [hW]; exact (Below.refl _ _).alloc (Nat.le_refl _) _)
            have bB : Blk W3 U2.heap.size 26 [.string y0, .string y1, .slice B2 k2' f2, .slice B3 k3' f3] := by rw [hW]; exact Blk.new U2 _ _
            clear hW
            refine hK _ _ (fun _ => h23) ?_
            clear hK K
            (try simp only [Act.put]); (try simp only [List.setIfInBounds_toArray]); (try simp only [List.set])
            apply wpAnyN_takeL 18 (by kernel_rfl) rfl (fun _ _ _ h => h) (by kernel_rfl) h23
            · intro w' hS'
              go_simp; exact ⟨rfl, rfl⟩
            (try simp only [Act.put]); (try simp only [List.setIfInBounds_toArray]); (try simp only [List.set])
            apply wpAnyN_takeL 19 (by kernel_rfl) rfl (fun _ _ _ h => h) (by kernel_rfl) h23
            · intro w' hS'
              go_simp; exact ⟨rfl, rfl⟩
            (try simp only [Act.put]); (try simp only [List.setIfInBounds_toArray]); (try simp only [List.set])
            refine wpAnyN_done (by kernel_rfl) ?_ _
            go_wp2
            go_meet
            exact ⟨_, _, _, _, _, _, _, _, _, rfl, rfl, rfl, bB, hrB, h23⟩
          · go_simp
            have rS2 : Below W2.heap.size W2 (V2.alloc (.cells #[.string { data := #[] }, .string { data := #[] }, .slice none 0 0, .slice none 0 0] 26)) := rS1.alloc rS1.size _
            have bZ := Blk.new V2 26 [.string { data := #[] }, .string { data := #[] }, .slice none 0 0, .slice none 0 0]
            have hVZ : Below V2.heap.size V2 (V2.alloc (.cells #[.string { data := #[] }, .string { data := #[] }, .slice none 0 0, .slice none 0 0] 26)) := (Below.refl _ _).alloc (Nat.le_refl _) _
            refine hK _ _ (fun _ => rS2) ?_
            clear hK K
            (try simp only [Act.put]); (try simp only [List.setIfInBounds_toArray]); (try simp only [List.set])
            refine wpAnyN_runL 11 (by kernel_rfl) rfl (by kernel_rfl) (fun K hK => ?_)
            go_simp
            refine (hp2 _ hVZ).mono ?_
            rintro e U2 ⟨y0, y1, B2, k2', f2, B3, k3', f3, rfl, hr2, hb⟩
            have rS3 : Below W2.heap.size W2 U2 := rS2.trans (hb.mono rS2.size)
            have bZ2 := bZ.below hb bZ.lt
            refine hK _ _ (fun _ => rS3) ?_
            clear hK K
            (try simp only [Act.put]); (try simp only [List.setIfInBounds_toArray]); (try simp only [List.set])
            apply wpAnyN_takeL 12 (by kernel_rfl) rfl (fun _ _ _ h => h) (by kernel_rfl) rS3
            · intro w' hS'
              go_simp; exact ⟨rfl, rfl⟩
            (try simp only [Act.put]); (try simp only [List.setIfInBounds_toArray]); (try simp only [List.set])
            apply wpAnyN_takeL 13 (by kernel_rfl) rfl (fun _ _ _ h => h) (by kernel_rfl) rS3
            · intro w' hS'
              go_simp; exact ⟨rfl, rfl⟩
            (try simp only [Act.put]); (try simp only [List.setIfInBounds_toArray]); (try simp only [List.set])
            apply wpAnyN_takeL 14 (by kernel_rfl) rfl (fun _ _ _ h => h) (by kernel_rfl) rS3
            · intro w' hS'
              go_simp; exact ⟨rfl, rfl⟩
            (try simp only [Act.put]); (try simp only [List.setIfInBounds_toArray]); (try simp only [List.set])
            apply wpAnyN_takeL 15 (by kernel_rfl) rfl (fun _ _ _ h => h) (by kernel_rfl) rS3
            · intro w' hS'
              go_simp; exact ⟨rfl, rfl⟩
            (try simp only [Act.put]); (try simp only [List.setIfInBounds_toArray]); (try simp only [List.set])
            have fz := fun i => bZ2.frozen i
            have cz := fun i => bZ2.cell i
            refine wpAnyN_runL 17 (by kernel_rfl) rfl (by kernel_rfl) (fun K hK => ?_)
            go_simp
            obtain ⟨bB, hbut, h23⟩ := store4 bZ2 rS3 rS1.size (.string y0) (.string y1) (.slice B2 k2' f2) (.slice B3 k3' f3)
            have hrB := (hr2.but hbut (by simp)).toR
            refine hK _ _ (fun _ => h23) ?_
            clear hK K
            (try simp only [Act.put]); (try simp only [List.setIfInBounds_toArray]); (try simp only [List.set])
            apply wpAnyN_takeL 18 (by kernel_rfl) rfl (fun _ _ _ h => h) (by kernel_rfl) h23
            · intro w' hS'
              go_simp; exact ⟨rfl, rfl⟩
            (try simp only [Act.put]); (try simp only [List.setIfInBounds_toArray]); (try simp only [List.set])
            apply wpAnyN_takeL 19 (by kernel_rfl) rfl (fun _ _ _ h => h) (by kernel_rfl) h23
            · intro w' hS'
              go_simp; exact ⟨rfl, rfl⟩
            (try simp only [Act.put]); (try simp only [List.setIfInBounds_toArray]); (try simp only [List.set])
            refine wpAnyN_done (by kernel_rfl) ?_ _
            go_wp2
            go_meet
            exact ⟨_, _, _, _, _, _, _, _, _, rfl, rfl, rfl, bB, hrB, h23⟩
        · go_simp
          obtain ⟨Y, hY⟩ : ∃ Y, Y = (W2.alloc (.cells #[.string { data := #[] }, .string { data := #[] }, .slice none 0 0, .slice none 0 0] 26)).drew := ⟨_, rfl⟩
          rw [← hY]
          have rS1 : Below W2.heap.size W2 Y := by rw [hY]; exact ((Below.refl _ _).alloc (Nat.le_refl _) _).drew
          have bZ : Blk Y W2.heap.size 26 [.string { data := #[] }, .string { data := #[] }, .slice none 0 0, .slice none 0 0] := by rw [hY]; exact Blk.new W2 26 [.string { data := #[] }, .string { data := #[] }, .slice none 0 0, .slice none 0 0]
          clear hY
          obtain ⟨d2, V2, k2, hk2, hp2⟩ := cp _ rS1
          refine hK _ _ (fun _ => rS1) ?_
          clear hK K
          (try simp only [Act.put]); (try simp only [List.setIfInBounds_toArray]); (try simp only [List.set])
          refine wpAnyN_runL 10 (by kernel_rfl) rfl (by kernel_rfl) (fun K hK => ?_)
          go_simp
          have rS2 : Below W2.heap.size W2 V2 := rS1.trans (hk2.mono rS1.size)
          have bZ1 := bZ.below hk2 bZ.lt
          refine hK _ _ (fun _ => rS2) ?_
          clear hK K
          (try simp only [Act.put]); (try simp only [List.setIfInBounds_toArray]); (try simp only [List.set])
          refine wpAnyN_runL 11 (by kernel_rfl) rfl (by kernel_rfl) (fun K hK => ?_)
          go_simp
          refine (hp2 V2 (Below.refl _ _)).mono ?_
          rintro e U2 ⟨y0, y1, B2, k2', f2, B3, k3', f3, rfl, hr2, hb⟩
          have rS3 : Below W2.heap.size W2 U2 := rS2.trans (hb.mono rS2.size)
          have bZ2 := bZ1.below hb bZ1.lt
          refine hK _ _ (fun _ => rS3) ?_
          clear hK K
          (try simp only [Act.put]); (try simp only [List.setIfInBounds_toArray]); (try simp only [List.set])
          apply wpAnyN_takeL 12 (by kernel_rfl) rfl (fun _ _ _ h => h) (by kernel_rfl) rS3
          · intro w' hS'
            go_simp; exact ⟨rfl, rfl⟩
          (try simp only [Act.put]); (try simp only [List.setIfInBounds_toArray]); (try simp only [List.set])
          apply wpAnyN_takeL 13 (by kernel_rfl) rfl (fun _ _ _ h => h) (by kernel_rfl) rS3
          · intro w' hS'
            go_simp; exact ⟨rfl, rfl⟩
          (try simp only [Act.put]); (try simp only [List.setIfInBounds_toArray]); (try simp only [List.set])
          apply wpAnyN_takeL 14 (by kernel_rfl) rfl (fun _ _ _ h => h) (by kernel_rfl) rS3
          · intro w' hS'
            go_simp; exact ⟨rfl, rfl⟩
          (try simp only [Act.put]); (try simp only [List.setIfInBounds_toArray]); (try simp only [List.set])
          apply wpAnyN_takeL 15 (by kernel_rfl) rfl (fun _ _ _ h => h) (by kernel_rfl) rS3
          · intro w' hS'
            go_simp; exact ⟨rfl, rfl⟩
          (try simp only [Act.put]); (try simp only [List.setIfInBounds_toArray]); (try simp only [List.set])
          have fz := fun i => bZ2.frozen i
          have cz := fun i => bZ2.cell i
          refine wpAnyN_runL 17 (by kernel_rfl) rfl (by kernel_rfl) (fun K hK => ?_)
          go_simp
          obtain ⟨bB, hbut, h23⟩ := store4 bZ2 rS3 (Nat.le_refl _) (.string y0) (.string y1) (.slice B2 k2' f2) (.slice B3 k3' f3)
          have hrB := (hr2.but hbut (by simpa using bZ1.lt)).toR
          refine hK _ _ (fun _ => h23) ?_
          clear hK K
          (try simp only [Act.put]); (try simp only [List.setIfInBounds_toArray]); (try simp only [List.set])
          apply wpAnyN_takeL 18 (by kernel_rfl) rfl (fun _ _ _ h => h) (by kernel_rfl) h23
          · intro w' hS'
            go_simp; exact ⟨rfl, rfl⟩
          (try simp only [Act.put]); (try simp only [List.setIfInBounds_toArray]); (try simp only [List.set])
          apply wpAnyN_takeL 19 (by kernel_rfl) rfl (fun _ _ _ h => h) (by kernel_rfl) h23
          · intro w' hS'
            go_simp; exact ⟨rfl, rfl⟩
          (try simp only [Act.put]); (try simp only [List.setIfInBounds_toArray]); (try simp only [List.set])
          refine wpAnyN_done (by kernel_rfl) ?_ _
          go_wp2
          go_meet
          exact ⟨_, _, _, _, _, _, _, _, _, rfl, rfl, rfl, bB, hrB, h23⟩
      case rest =>
      obtain ⟨g, y0, y1, B2, k2', f2, B3, k3', f3, rfl, rfl, rfl, bB, hrB, h23⟩ := hcut
      obtain ⟨W3, hW3⟩ : ∃ W3 : World, W3 = wc := ⟨_, rfl⟩
      subst hW3
      have hbW3 := hbW2.trans (h23.mono sW2)
      have hrA3 := hrA.below h23
      have bA3 := bA.below h23 bA.lt
      have hb0 := h0
      clear rS0 cp hbz eb1 eb2 eb3 eb4 m2 m3 m4 hrA bA h0 h1 hbU1 hbW2 hbr hb1
      have st1 := run_str (c := c3) hrA3.bodyIs
      rw [show (pushQ b).body = b from rfl, ← Hbs.out] at st1
      have st2 := run_str (c := c0) ((hb0.below (hbW3.mono hB)))
      rw [← Hbs.out] at st2
      have c0' : W3.cell? ⟨U1.heap.size, 0, none⟩ = some (.string x0) := bA3.cell 0
      have c1' : W3.cell? ⟨U1.heap.size, 1, none⟩ = some (.string x1) := bA3.cell 1
      have c2' : W3.cell? ⟨U1.heap.size, 2, none⟩ = some (.slice A2 n2 c2) := bA3.cell 2
      have c3' : W3.cell? ⟨U1.heap.size, 3, none⟩ = some (.slice A3 n3 c3) := bA3.cell 3
      have e0' : W3.cell? ⟨g, 0, none⟩ = some (.string y0) := bB.cell 0
      have e1' : W3.cell? ⟨g, 1, none⟩ = some (.string y1) := bB.cell 1
      have e2' : W3.cell? ⟨g, 2, none⟩ = some (.slice B2 k2' f2) := bB.cell 2
      have e3' : W3.cell? ⟨g, 3, none⟩ = some (.slice B3 k3' f3) := bB.cell 3
      have csame := vSameR _ _ _ W3 hrA3 hrB
      clear hrA3 hrB bA3 bB
      obtain ⟨q1, hq1⟩ : ∃ q1, 60 + ev.size = q1 := ⟨_, rfl⟩
      have hq2 : q1 + 5 = n1 := by have := Hn1.out; omega
      obtain ⟨q3, hq3⟩ : ∃ q3, 45 + dv.size = q3 := ⟨_, rfl⟩
      obtain ⟨q4, hq4⟩ : ∃ q4, q3 + 4 = q4 := ⟨_, rfl⟩
      have hq5 : q4 + b.length = n5 := by have := Hn5.out; omega
      have hn1 : n1 ≤ 100000 := by have := HN.out; have := Hes.out; omega
      have hn5 : n5 ≤ 100000 := by have := HN2.out; have := Hds.out; omega
      have p1 : (60 : Int) + (ev.size : Int) = (q1 : Int) := by omega
      have p2 : IntKind.i64.wrap (q1 : Int) = (q1 : Int) := by rw [IntKind.wrap_i64]; omega
      have p3 : (q1 : Int) + 5 = (n1 : Int) := by omega
      have p4 : IntKind.i64.wrap (n1 : Int) = (n1 : Int) := by rw [IntKind.wrap_i64]; omega
      have p5 : (45 : Int) + (dv.size : Int) = (q3 : Int) := by omega
      have p6 : IntKind.i64.wrap (q3 : Int) = (q3 : Int) := by rw [IntKind.wrap_i64]; omega
      have p7 : (q3 : Int) + 4 = (q4 : Int) := by omega
      have p8 : IntKind.i64.wrap (q4 : Int) = (q4 : Int) := by rw [IntKind.wrap_i64]; omega
      have p9 : (q4 : Int) + (b.length : Int) = (n5 : Int) := by omega
      have p10 : IntKind.i64.wrap (n5 : Int) = (n5 : Int) := by rw [IntKind.wrap_i64]; omega
      have hns := Hns.out
      clear hq1 hq2 hq3 hq4 hq5
      go_wp2_with fail
      refine csame.mono ?_
      rintro e W4 ⟨rfl, hb4⟩
      have hbW4 := hbW3.trans (hb4.mono hbW3.size)
      go_wp2_with fail
      refine (cdec W4).mono ?_
      rintro e w' ⟨rfl, hw'⟩
      obtain rfl : W4 = w' := hw'.symm
      go_wp2_with fail
      go_ret
      exact ⟨rfl, hbW4⟩
end Go.Proofs.YtcjapjnhejenaaaDoor
