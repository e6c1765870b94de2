import Derived.Test.YtmddgimadlmacaaDoorWs41
import Derived.Test.YtmddgimadlmacaaDoorWs48
import Derived.Lib.SlBytesConst
namespace Go.Proofs.YtmddgimadlmacaaDoor
open Go.RowKit Garner

theorem runes_all (s : ByteArray) (h : ∀ k (hk : k < s.size), runeOk (s[k]'hk).toNat) : ∀ j k, s.size - k = j → runesOk s.size s k = true
  | 0, k, e => runes_end (by omega)
  | j + 1, k, e => by
    rw [rn_step (by omega), decide_eq_true (h k (by omega)), runes_all s h j (k + 1) (by omega)]; rfl
theorem nameOk_wal {n : Nat} (hn : n ≤ 1000000000) : nameOk (nmS (walNm n)) = true := by
  have hl := dec_len hn
  have hs : (nmS (walNm n)).size = 4 + (Lib.decDigits n).length := by simp [walNm, ByteArray.size]; omega
  unfold nameOk
  rw [decide_eq_true (by omega), runes_all _ (fun k hk => ?_) _ 0 rfl]; rfl
  have e : ((nmS (walNm n))[k]'hk) = (walNm n)[k]'(by rw [hs] at hk; simp [walNm]; omega) := rfl
  rw [e]
  rcases Nat.lt_or_ge k 4 with h4 | h4
  · unfold walNm
    rw [List.getElem_append_left (by simpa using h4)]
    rcases k with _ | _ | _ | _ | k
    · show runeOk 119; unfold runeOk; omega
    · show runeOk 97; unfold runeOk; omega
    · show runeOk 108; unfold runeOk; omega
    · show runeOk 45; unfold runeOk; omega
    · omega
  · unfold walNm
    rw [List.getElem_append_right (by simpa using h4)]
    have := dec_digits n _ (List.getElem_mem (l := Lib.decDigits n) (n := k - [119, 97, 108, 45].length) (by rw [hs] at hk; simp; omega))
    unfold runeOk; omega
theorem dW {n : Nat} (hn : n ≤ 1000000000) (b : Bool) : dmay [nmS (walNm n)] b = if b then 23 else 0 := by unfold dmay; simp [nameOk_wal hn]
theorem dW0 {n : Nat} (hn : n ≤ 1000000000) : dmay [nmS (walNm n)] false = 0 := by rw [dW hn]; rfl
theorem rd_none {n : Nat} (hn : n ≤ 1000000000) {fs : List (Bs × FileD)} {fl : Bool} {L : Int} (h : aget (walNm n) fs = none) : aRead (walNm n) ⟨fs, fl, false, L⟩ = ([], 21) := by
  unfold aRead; rw [if_neg (by rw [dW0 hn]; decide)]; simp only [h]
theorem rd_some {n : Nat} (hn : n ≤ 1000000000) {fs : List (Bs × FileD)} {fl : Bool} {L : Int} {f : FileD} (h : aget (walNm n) fs = some f) : aRead (walNm n) ⟨fs, fl, false, L⟩ = (f.1, 0) := by
  unfold aRead; rw [if_neg (by rw [dW0 hn]; decide)]; simp only [h]
/-- the log of a disk whose one file is the first -/
theorem op_one {b : Bs} {sy : Nat} {fl : Bool} {L : Int} : wOpen 1 ⟨[(walNm 1, (b, sy))], fl, false, L⟩ = (0, 2, held b) := by
  have h1 := rd_some (n := 1) (by omega) (fs := [(walNm 1, (b, sy))]) (fl := fl) (L := L) (f := (b, sy)) (by simp [aget])
  have h2 := rd_none (n := 2) (by omega) (fs := [(walNm 1, (b, sy))]) (fl := fl) (L := L) (by simp only [aget]; rw [if_neg (walNm_ne (by omega))])
  rw [wOpen_go (by omega) (by rw [h1]), wOpen_none (n := 1 + 1) (by omega) (by rw [h2]), h1]
  simp
theorem op_new {fl : Bool} {L : Int} {n : Nat} (hn : n ≤ 1000000000) : wOpen n ⟨[], fl, false, L⟩ = (0, n, []) := wOpen_none hn (by rw [rd_none hn rfl])
theorem aw10b : wApp [97] ⟨1, 1, false⟩ AD.new = (0, ⟨1, 1, true⟩, ⟨[(walNm 1, (frB [97], 0))], false, false, -1⟩) := by
  have h := ap_up (walNm 1) (frB [97]) [] (-1) (dW0 (n := 1) (by omega))
  have e : aAppend (walNm 1) (frB [97]) AD.new = (0, ⟨[(walNm 1, (frB [97], 0))], false, false, -1⟩) := h
  unfold wApp
  rw [if_neg (by decide), e]; rfl
theorem aw10c : wSync ⟨1, 1, true⟩ ⟨[(walNm 1, (frB [97], 0))], false, false, -1⟩ = (0, ⟨[(walNm 1, (frB [97], (frB [97]).length))], false, false, -1⟩) := by
  have h := sy_up (walNm 1) [(walNm 1, (frB [97], 0))] (-1) (frB [97], 0) (dW0 (n := 1) (by omega)) (by simp [aget])
  unfold wSync
  rw [if_pos rfl, h]
  simp [aput]; exact ⟨rfl, rfl⟩
theorem wal7 : nmS (walNm 7) = ⟨#[119, 97, 108, 45, 55]⟩ := by
  unfold walNm; rw [Lib.decDigits_one (by omega)]; rfl
set_option maxRecDepth 100000 in
set_option maxHeartbeats 4000000 in
theorem vAwake10 (w : World) : Calls Tryd.prog 7 #[] w fun e w' => e = .returned (.bool true) ∧ Below w.heap.size w w' := by
  have kc := fun (u : World) (C : Array Value) (n c : Nat) => Lib.run_convert_bytes_const (P := Tryd.prog) u 23 5 C n c Tryd.underlying23 Tryd.underlying5
  go_enter Tryd.func7, Tryd.ntmps7
  go_wp2_with fail
  refine (aNew_calls w.heap.size w (Nat.le_refl _)).mono ?_
  rintro e w1 ⟨g, mp, rfl, hd1, hb1, _, _⟩
  go_wp2_with fail
  refine (vOpen 1 w.heap.size g mp AD.new w1 hd1 (by omega) (by omega) (0, 1, []) (op_new (by omega)).symm (nms_small _ _ (by decide)) (by decide) (by decide)).mono ?_
  rintro e w2 ⟨hb2, ⟨h0, _⟩ | ⟨_, gl, v, ps, rfl, hgl, hk2, hp2, hpd⟩⟩
  · exact absurd rfl h0
  obtain rfl : ps = [] := by simpa using hpd
  obtain ⟨A2, c2, rfl, _⟩ := own_form hp2.own
  have hd2 := hd1.below hb2
  have hb02 := hb1.trans (hb2.mono hb1.size)
  have hglw : w.heap.size ≤ gl := Nat.le_trans hb1.size hgl
  clear hd1 hb1 hb2 hp2 hpd
  go_wp2_with fail
  have hbX : Below w2.heap.size w2 (w2.alloc (.cells #[.int .u8 97] 5 (1, 2))) := (Below.refl _ _).alloc (Nat.le_refl _) _
  refine (vLogApp w.heap.size g mp gl AD.new ⟨1, 1, false⟩ _ [97] (some ⟨w2.heap.size, 0, none⟩) 1 (w2.heap.size + 1) (hd2.below hbX) (hk2.below hbX hk2.lt) (by decide) (nms_small _ _ (by decide)) (bytes_mark w2 [97] _ _ rfl) (by simp) (by decide) (by decide)).mono ?_
  rintro e w3 ⟨rfl, hd3, hk3, hb3⟩
  rw [aw10b] at hd3 hk3 ⊢
  have hb03 := (hb02.trans (hbX.mono hb02.size)).trans (hb3.below (Nat.le_trans hb02.size hbX.size) (fun q hq => by simp only [List.mem_cons, List.not_mem_nil, or_false] at hq; have := hd2.hg; have := hd2.hm; have := hb02.size; omega))
  clear hd2 hb02 hbX hb3 hk2
  go_wp2_with fail
  refine (vLogSync w.heap.size g mp gl _ ⟨1, 1, true⟩ _ hd3 hk3 (by decide) (nms_small _ _ (by decide))).mono ?_
  rintro e w4 ⟨rfl, hd4, hk4, hb4⟩
  rw [aw10c] at hd4 ⊢
  have hb04 := hb03.trans (hb4.below hb03.size (fun q hq => by simp only [List.mem_cons, List.not_mem_nil, or_false] at hq; have := hd3.hg; have := hd3.hm; omega))
  clear hd3 hk3 hb03 hb4 hk4
  go_wp2_with fail
  refine (vOpen 1 w.heap.size g mp _ w4 hd4 (by omega) (by omega) (0, 2, [[97]]) (by rw [op_one, ← flat_one [97], held_flat0 (by simp)]) (nms_small _ _ (by decide)) (by decide) (by decide)).mono ?_
  rintro e w5 ⟨hb5, ⟨h0, _⟩ | ⟨_, gl5, v5, ps5, rfl, hgl5, hk5, hp5, hpd5⟩⟩
  · exact absurd rfl h0
  have hl5 : ps5.length = 1 := by have := congrArg List.length hpd5; simpa using this
  obtain ⟨A5, c5, rfl, _⟩ := own_form hp5.own
  have hr5 := hp5.rds
  have hb05 := hb04.trans (hb5.mono hb04.size)
  clear hd4 hb04 hb5 hp5
  rw [hl5]
  go_wp2_with fail
  have hbX : Below w5.heap.size w5 ((w5.alloc (.cells #[.int .u8 97] 5 (1, 2))).alloc (.cells #[.slice (some ⟨w5.heap.size, 0, none⟩) 1 1] 23)) := ((Below.refl _ _).alloc (Nat.le_refl _) _).alloc (by simp) _
  have hq : Rds ((w5.alloc (.cells #[.int .u8 97] 5 (1, 2))).alloc (.cells #[.slice (some ⟨w5.heap.size, 0, none⟩) 1 1] 23)) (some ⟨w5.heap.size + 1, 0, none⟩) [⟨some ⟨w5.heap.size, 0, none⟩, 1, [97]⟩] := by
    have hrn := row_new (w5.alloc (.cells #[.int .u8 97] 5 (1, 2))) 23 [.slice (some ⟨w5.heap.size, 0, none⟩) 1 1]
    simp only [World.size_alloc] at hrn
    refine ⟨?_, fun p hp => ?_⟩
    · simp only [World.size_alloc]
      exact hrn
    rw [List.mem_singleton] at hp; subst hp
    exact ((bytes_mark w5 [97] _ _ rfl).alloc (by simp) _).more (by simp)
  have hsm := vSame10 ps5 [⟨some ⟨w5.heap.size, 0, none⟩, 1, [97]⟩] A5 (some ⟨w5.heap.size + 1, 0, none⟩) c5 1 _ (hr5.below hbX) hq (by omega)
  rw [hl5] at hsm
  refine hsm.mono ?_
  rintro e w6 ⟨rfl, hb6⟩
  have heq : eqN ps5 [⟨some ⟨w5.heap.size, 0, none⟩, 1, [97]⟩] = true := decide_eq_true (by rw [hpd5]; rfl)
  rw [heq]
  have hb06 := (hb05.trans (hbX.mono hb05.size)).trans (hb6.mono (Nat.le_trans hb05.size hbX.size))
  have hk6 : LogAt w6 g gl5 ⟨1, 2, false⟩ := (hk5.below hbX hk5.lt).below hb6 (Nat.lt_of_lt_of_le hk5.lt hbX.size)
  clear hq hsm hr5 hbX hb6 hk5 hb05 hpd5 hl5 heq
  go_wp2_with fail
  refine (vLogNum g gl5 ⟨1, 2, false⟩ w6 hk6).mono ?_
  rintro e w7 ⟨rfl, rfl⟩
  go_wp2_with fail
  refine (vNm_small 7 w7 (by decide) (by decide)).mono ?_
  rintro e w8 ⟨rfl, hb8⟩
  rw [wal7]
  have hb08 := hb06.trans (hb8.mono hb06.size)
  clear hb06 hb8 hk6
  go_wp2
  go_ret
  exact ⟨rfl, hb08⟩
end Go.Proofs.YtmddgimadlmacaaDoor
