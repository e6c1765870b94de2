import Derived.Test.YtcjapjnhejenaaaDoorHtC
/-! http: chunks, clean, digits -/
namespace Garner
theorem chunksP_step (f : Nat) (r out : Bs) (at_ : Nat) {n k : Nat} (hz : sizeP r = .ok (n, k)) : chunksP (f + 1) r out at_ =
    if 8192 < out.length + n then .error 62 else if (r.drop (k + 2)).length < n then .error 5
    else if expectP ((r.drop (k + 2)).drop n) crlf ≠ 0 then .error (expectP ((r.drop (k + 2)).drop n) crlf)
    else if n = 0 then .ok (out, at_ + k + 4) else chunksP f ((r.drop (k + 2)).drop (n + 2)) (out ++ (r.drop (k + 2)).take n) (at_ + k + n + 4) := by
  conv => lhs; unfold chunksP
  rw [hz]
theorem chunksP_err (f : Nat) (r out : Bs) (at_ : Nat) {e : Nat} (hz : sizeP r = .error e) : chunksP (f + 1) r out at_ = .error e := by
  unfold chunksP
  rw [hz]
theorem sizeP_ne {r : Bs} {e : Nat} (hz : sizeP r = .error e) : e ≠ 0 := by
  unfold sizeP at hz
  simp only at hz
  split at hz
  · cases hz; decide
  · split at hz
    · cases hz; decide
    · split at hz
      · cases hz
      · rename_i h
        cases hz; exact h
end Garner
namespace Go.Proofs.YtcjapjnhejenaaaDoor
open Go.RowKit Garner

set_option maxHeartbeats 1000000 in
set_option maxRecDepth 100000 in
/-- chunks: a chunked body -/
theorem vChunks (b : Bs) (A : Option Addr) (c B at_ : Nat) (w : World) (hr : Bytes w B A b.length b) (hB : B ≤ w.heap.size) (hl : b.length ≤ 140737488355328) (hc : b.length ≤ c) (hat : at_ ≤ b.length) :
    Calls Tryd.prog 17 #[.slice A b.length c, .int .i64 at_] w fun e w' => ∃ v tz x, e = .returned (.tuple #[v, .int .i64 (tz : Nat), .int .i64 (x : Nat)]) ∧ BodyIs w' w.heap.size v tz x (chunksP ((b.drop at_).length + 1) (b.drop at_) [] at_) ∧ Below w.heap.size w w' := by
  obtain ⟨ANS, hANS⟩ : ∃ ANS, chunksP ((b.drop at_).length + 1) (b.drop at_) [] at_ = ANS := ⟨_, rfl⟩
  rw [hANS]
  have HA := Lib.hid hANS; clear hANS
  go_enter Tryd.func17, Tryd.ntmps17
  go_wp2
  go_loopw [1, 7] (fun i v wr => ∃ (a f : Nat) (out : Bs), i = .int .i64 a ∧ a ≤ b.length ∧ OwnB wr w.heap.size v out ∧ out.length ≤ 8192 ∧ Hid (chunksP (f + 1) (b.drop a) out a = ANS) ∧ b.length - a ≤ f ∧ Below w.heap.size w wr) (fun i _ _ => b.length - (intOf i).toNat)
  case atStart => exact ⟨at_, _, [], rfl, hat, World.ownsRow_nil _ _ _ _, by simp, HA, by rw [List.length_drop]; omega, Below.refl _ _⟩
  case round =>
    obtain ⟨a, f, out, rfl, hal, hown, hout, hans, hf, hbel⟩ := hrel
    obtain ⟨wo, rfl⟩ : ∃ wo : World, wo = wr := ⟨_, rfl⟩
    have hs0 := hbel.size
    have hrw := hr.below (hbel.mono hB)
    obtain ⟨Ao, co, rfl, -⟩ := OwnB.shape hown
    obtain ⟨sz, hsz⟩ : ∃ sz, sizeP (b.drop a) = sz := ⟨_, rfl⟩
    have hcall := vSize b A c B a wo hrw (Nat.le_trans hB hs0) hl hal
    rw [hsz] at hcall
    have Hsz := Lib.hid hsz; clear hsz
    cases sz with
    | error x =>
      have hx0 := sizeP_ne Hsz.out
      have z1 : ¬ (x : Int) = 0 := by omega
      have he := chunksP_err f (b.drop a) out a Hsz.out
      rw [hans.out] at he
      subst he
      go_wp2_with fail
      refine hcall.mono ?_
      rintro e w2 ⟨rfl, hb2⟩
      have hb3 := hbel.trans (hb2.mono hs0)
      simp only [sizeE]
      go_wp2
      refine bodyPost_ret (v := .tuple #[.slice none 0 0, .int .i64 (0 : Nat), .int .i64 (x : Nat)]) ?_ rfl ⟨_, _, _, rfl, ⟨rfl, hx0, rfl, rfl⟩, hb3⟩
      simp [results, Tryd.results17, go_sem]
    | ok nk =>
      obtain ⟨n, k⟩ := nk
      have hst := chunksP_step f (b.drop a) out a Hsz.out
      rw [hans.out] at hst
      obtain ⟨ds, v0, hdv, -, -, hk8, hnn, hkk⟩ := sizeP_ok Hsz.out
      have hnl : n < 4294967296 := by rw [hnn]; exact hexN_lt ds hk8
      have hlen0 : b.length - a = k + 2 + v0.length := by
        have := congrArg List.length hdv
        rw [List.length_drop] at this
        simp [crlf] at this
        omega
      clear hdv hnn hkk
      obtain ⟨tz, htz⟩ : ∃ tz, tz = a + k + 2 := ⟨_, rfl⟩
      have hd1 : (b.drop a).drop (k + 2) = b.drop tz := by rw [List.drop_drop, htz]; congr 1
      rw [hd1, List.length_drop] at hst
      simp only [sizeE, ← htz] at hcall
      have htl : tz ≤ b.length := by omega
      have wadd : IntKind.i64.wrap ((out.length : Int) + (n : Int)) = ((out.length + n : Nat) : Int) := by rw [IntKind.wrap_i64]; omega
      have wsub : IntKind.i64.wrap ((b.length : Int) - (tz : Int)) = ((b.length - tz : Nat) : Int) := by rw [IntKind.wrap_i64]; omega
      have Hst := Lib.hid hst; clear hst
      have hown2 := fun (w2 : World) (hb2 : Below wo.heap.size wo w2) => own_below hown hb2
      have Htz := Lib.hid htz; clear htz hd1
      have Hown2 := Lib.hid hown2; clear hown2
      by_cases d1 : 8192 < out.length + n
      · have z1 : (8192 : Int) < (out.length : Int) + (n : Int) := by omega
        have he := Hst.out
        rw [if_pos d1] at he
        subst he
        go_wp2_with fail
        refine hcall.mono ?_
        rintro e w2 ⟨rfl, hb2⟩
        have hb3 := hbel.trans (hb2.mono hs0)
        go_wp2
        refine bodyPost_ret (v := .tuple #[.slice none 0 0, .int .i64 (0 : Nat), .int .i64 (62 : Nat)]) ?_ rfl ⟨_, _, _, rfl, ⟨rfl, by decide, rfl, rfl⟩, hb3⟩
        simp [results, Tryd.results17, go_sem]
      have z1 : ¬ (8192 : Int) < (out.length : Int) + (n : Int) := by omega
      by_cases d2 : b.length - tz < n
      · have z2 : ((b.length - tz : Nat) : Int) < (n : Int) := by omega
        have he := Hst.out
        rw [if_neg d1, if_pos d2] at he
        subst he
        go_wp2_with fail
        refine hcall.mono ?_
        rintro e w2 ⟨rfl, hb2⟩
        have hb3 := hbel.trans (hb2.mono hs0)
        go_wp2
        refine bodyPost_ret (v := .tuple #[.slice none 0 0, .int .i64 (0 : Nat), .int .i64 (5 : Nat)]) ?_ rfl ⟨_, _, _, rfl, ⟨rfl, by decide, rfl, rfl⟩, hb3⟩
        simp [results, Tryd.results17, go_sem]
      have z2 : ¬ ((b.length - tz : Nat) : Int) < (n : Int) := by omega
      have he := Hst.out
      rw [if_neg d1, if_neg d2, List.drop_drop, List.drop_drop] at he
      clear Hst
      obtain ⟨y, hy⟩ : ∃ y, y = tz + n := ⟨_, rfl⟩
      rw [← hy] at he
      have wy : IntKind.i64.wrap ((tz : Int) + (n : Int)) = (y : Int) := by rw [IntKind.wrap_i64]; omega
      have wy2 : IntKind.i64.wrap ((y : Int) + 2) = ((y + 2 : Nat) : Int) := by rw [IntKind.wrap_i64]; omega
      have hyl : y ≤ b.length := by omega
      obtain ⟨x5, hx5⟩ : ∃ x5, expectP (b.drop y) crlf = x5 := ⟨_, rfl⟩
      have hexp := fun (w2 : World) (h2 : Bytes w2 B A b.length b) => expect_b (c := c) y w2 h2 hl hyl
      rw [hx5] at he hexp
      have Hexp := Lib.hid hexp; clear hexp
      by_cases d3 : x5 = 0
      · rw [if_neg (by simp [d3])] at he
        have z3 : (x5 : Int) = 0 := by omega
        obtain ⟨u, hu⟩ := expectP_ok (hx5.trans d3)
        have hy2 : y + 2 ≤ b.length := by
          have := congrArg List.length hu
          rw [List.length_drop] at this
          simp [crlf] at this
          omega
        clear hu hx5
        have Hy := Lib.hid hy; clear hy
        by_cases d4 : n = 0
        · rw [if_pos d4] at he
          have z4 : ((n : Int) == 0) = true := by simp; omega
          subst he
          have D4 := Lib.hid d4; clear d4
          have D3 := Lib.hid d3; clear d3
          go_wp2_with fail
          refine hcall.mono ?_
          rintro e w2 ⟨rfl, hb2⟩
          have hb3 := hbel.trans (hb2.mono hs0)
          go_wp2_with fail
          refine (Hexp.out _ (hr.below (hb3.mono hB))).mono ?_
          rintro e w3 ⟨rfl, hb4⟩
          have hb5 := hbel.trans ((hb2.trans (hb4.mono hb2.size)).mono hs0)
          go_wp2
          refine bodyPost_ret (v := .tuple #[.slice Ao out.length co, .int .i64 (y + 2 : Nat), .int .i64 (0 : Nat)]) ?_ rfl ⟨_, _, _, rfl, ⟨rfl, ?_, own_below hown (hb2.trans (hb4.mono hb2.size))⟩, hb5⟩
          · simp [results, Tryd.results17, go_sem]
          · have h1 := Htz.out
            have h2 := Hy.out
            have h3 := D4.out
            omega
        · rw [if_neg d4] at he
          have z4 : ¬ (n : Int) = 0 := by omega
          obtain ⟨bk, off, rfl, -⟩ := hr.2 (by omega : 0 < b.length)
          obtain ⟨l, hll⟩ : ∃ l, l = (b.drop tz).take n := ⟨_, rfl⟩
          have hlen : l.length = n := by rw [hll, List.length_take, List.length_drop]; omega
          rw [← hll] at he
          have hy := Hy.out
          have hcut := hr.cut (lo := tz) (hi := y) (by omega) hyl rfl
          rw [show y - tz = n by omega, ← List.map_drop, ← List.map_take, ← hll] at hcut
          have y1 : (0 : Int) ≤ (tz : Int) := by omega
          have y2 : (tz : Int) ≤ (y : Int) := by omega
          have y3 : (y : Int) ≤ (c : Int) := by omega
          have y4 : ¬ c = tz := by omega
          have y5 : y - tz = n := by omega
          have hob : (out.length + n) ≤ 8192 := by omega
          have hm : a + k + n + 4 = y + 2 := by have := Htz.out; omega
          have hd5 : tz + (n + 2) = y + 2 := by omega
          clear hy
          rw [hm, hd5] at he
          have He := Lib.hid he; clear he
          clear hll
          go_wp2_with fail
          refine hcall.mono ?_
          rintro e w2 ⟨rfl, hb2⟩
          have hb3 := hbel.trans (hb2.mono hs0)
          go_wp2_with fail
          refine (Hexp.out _ (hr.below (hb3.mono hB))).mono ?_
          rintro e w3 ⟨rfl, hb4⟩
          have hb24 := hb2.trans (hb4.mono hb2.size)
          have hb5 := hbel.trans (hb24.mono hs0)
          have hown3 := own_below hown hb24
          have hcut3 := hcut.below (hb5.mono hB)
          have hw3 := hb5.size
          go_wp2_with (at_builtin; refine wpList_app _ rfl bytesE rfl rfl hown3 rfl hcut3 (bv_one _) (by omega) hw3 ?_; intro v4 w4 hown4 hg4 hb6 _)
          refine ⟨⟨y + 2, f - 1, out ++ l, by simp, hy2, by unfold OwnB; rw [List.length_append, hlen, List.map_append]; exact hown4, by rw [List.length_append]; omega, Lib.hid ?_, by omega, hb5.trans hb6⟩, by simp [intOf]; have := Htz.out; omega⟩
          rw [show f - 1 + 1 = f by omega]
          exact He.out.symm
      · rw [if_pos (by simp [d3])] at he
        subst he
        have z3 : ¬ (x5 : Int) = 0 := by omega
        have Hy := Lib.hid hy; clear hy
        go_wp2_with fail
        refine hcall.mono ?_
        rintro e w2 ⟨rfl, hb2⟩
        have hb3 := hbel.trans (hb2.mono hs0)
        go_wp2_with fail
        refine (Hexp.out _ (hr.below (hb3.mono hB))).mono ?_
        rintro e w3 ⟨rfl, hb4⟩
        have hb5 := hbel.trans ((hb2.trans (hb4.mono hb2.size)).mono hs0)
        go_wp2
        refine bodyPost_ret (v := .tuple #[.slice none 0 0, .int .i64 (0 : Nat), .int .i64 (x5 : Nat)]) ?_ rfl ⟨_, _, _, rfl, ⟨rfl, d3, rfl, rfl⟩, hb5⟩
        simp [results, Tryd.results17, go_sem]
end Go.Proofs.YtcjapjnhejenaaaDoor
