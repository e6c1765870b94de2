import Derived.Test.YtmalkgakdmghiaaLawPK
/-! PostSeeks: the walk (printed by gen_ps.py) -/
namespace Go.Proofs.Ytmalkgakdmghiaa
open Go.RowKit Go.Shelf Garner

set_option maxRecDepth 100000 in
set_option maxHeartbeats 16000000 in
theorem lawPS (l s : List Nat) (A As : Option Addr) (c cs B : Nat) (w : World) (hr : Row w B 1 A l.length (l.map u64v)) (hrs : Row w B 1 As s.length (s.map u64v)) (hB : B ≤ w.heap.size) (hn : ∀ n ∈ l, n < 18446744073709551616) (hns : ∀ n ∈ s, n < 18446744073709551616) (hl : l.length ≤ 140737488355328) (hls : s.length ≤ 140737488355328) (hc : l.length ≤ c) :
    Calls Try.prog 3 #[.slice A l.length c, .slice As s.length cs] w fun e w' => e = .returned (.bool true) ∧ Below w.heap.size w w' := by
  have Hn := Lib.hid hn; clear hn
  have Hns := Lib.hid hns; clear hns
  go_enter Try.func3, Try.ntmps3
  go_wp2_with fail
  refine (awakeP w).mono ?_
  rintro e w1 ⟨rfl, hb1⟩
  have s1 := hb1.size
  have hr1 := hr.below (hb1.mono hB)
  rcases packP_cases l with ⟨hl2, hris⟩ | ⟨k, hk, hk0⟩
  · have Hris := Lib.hid hris; clear hris
    go_wp2_with fail
    refine (vWrite_ok l A c B w1 hr1 (by omega) Hn.out hl2 Hris.out hc).mono ?_
    rintro e w2 ⟨v2, rfl, own2, hb2⟩
    have hb02 : Below w.heap.size w w2 := hb1.trans (hb2.mono s1)
    have s2 := hb02.size
    obtain ⟨bb, hbb⟩ : ∃ bb, bb = postB l := ⟨_, rfl⟩
    rw [← hbb] at own2
    have Hbb := Lib.hid hbb; clear hbb
    obtain ⟨A2, c2, rfl, -⟩ := own_form own2
    go_wp2_with fail
    refine (vOpenP l bb A2 c2 w2.heap.size w2 Hbb.out hl2 Hris.out Hn.out (Row.of_own own2) (Nat.le_refl _)).mono ?_
    rintro e w3 ⟨I, rfl, hI, hb3⟩
    go_wp2
    go_loopw [8, 9] (fun va vk wr => ∃ (at_ k kk : Nat) (xs : List Nat), k ≤ s.length ∧ vk = .int .i64 k ∧ va = .int .i64 at_ ∧ at_ ≤ l.length + k ∧ IterIs wr w2.heap.size I l xs kk ∧ Hid (xs ++ restB l kk = l.drop at_) ∧ Below w2.heap.size w2 wr) (fun _ vk _ => s.length - (intOf vk).toNat)
    case atStart => exact ⟨0, 0, 0, [], by omega, rfl, rfl, by omega, hI, Lib.hid (by rw [restB_zero]; rfl), hb3⟩
    case round =>
      obtain ⟨at_, k, kk, xs, hk, rfl, rfl, hat, hI4, hrest, hb4⟩ := hrel
      obtain ⟨wo, rfl⟩ : ∃ wo : World, wo = wr := ⟨_, rfl⟩
      have s4 := hb4.size
      have hb04 : Below w.heap.size w wo := hb02.trans (hb4.mono s2)
      by_cases hlt : k < s.length
      · have lt1 : (k : Int) < (s.length : Int) := by omega
        have w1k : IntKind.i64.wrap ((k : Int) + 1) = (k : Int) + 1 := by rw [IntKind.wrap_i64]; omega
        obtain ⟨b, off, rfl, hb, hcell⟩ := hrs.at_ hlt
        obtain ⟨n, hnn⟩ : ∃ n, n = s[k] := ⟨_, rfl⟩
        have cn : wo.cell? ⟨b, off + k, none⟩ = some (.int .u64 (n : Int)) := by
          rw [hb04.cell (p := ⟨b, off + k, none⟩) (by show b < _; omega), hcell k (by simpa using hlt), List.getElem_map, hnn]; rfl
        have hn64 : n < 18446744073709551616 := by rw [hnn]; exact Hns.out _ (List.getElem_mem _)
        clear hcell hnn
        have Hn64 := Lib.hid hn64; clear hn64
        go_wp2
        go_loopw [8] (fun va wr => ∃ a : Nat, at_ ≤ a ∧ a ≤ l.length + k ∧ va = .int .i64 a ∧ Hid (seekR n (l.drop at_) = seekR n (l.drop a)) ∧ wr = wo) (fun va _ => l.length + k - (intOf va).toNat)
        case atStart => exact ⟨at_, by omega, by omega, rfl, Lib.hid rfl, rfl⟩
        case round =>
          obtain ⟨a, ha1, ha2, rfl, hsk, rfl⟩ := hrel
          have w1a : IntKind.i64.wrap ((a : Int) + 1) = (a : Int) + 1 := by rw [IntKind.wrap_i64]; omega
          by_cases hal : a < l.length
          · have lta : (a : Int) < (l.length : Int) := by omega
            obtain ⟨bl, ol, rfl, hbl, hcl⟩ := hr.at_ hal
            obtain ⟨x, hx⟩ : ∃ x, x = l[a] := ⟨_, rfl⟩
            have hcx : ∀ w' : World, Below w.heap.size w w' → w'.cell? ⟨bl, ol + a, none⟩ = some (.int .u64 (x : Int)) := fun w' h => by
              rw [h.cell (p := ⟨bl, ol + a, none⟩) (by show bl < _; omega), hcl a (by simpa using hal), List.getElem_map, hx]; rfl
            have cx := hcx wr hb04
            clear hcl
            have Hx := Lib.hid hx; clear hx
            have Hcx := Lib.hid hcx; clear hcx
            by_cases hxn : x < n
            · have hxn' : (x : Int) < (n : Int) := by omega
              go_wp2
              refine ⟨⟨a + 1, by omega, by omega, by simp, Lib.hid ?_, trivial⟩, by simp [intOf]; omega⟩
              rw [hsk.out, List.drop_eq_getElem_cons hal, ← Hx.out]
              exact seekR_skip (a := [x]) (by intro y hy; rw [List.mem_singleton.1 hy]; exact hxn) _
            · have hxn' : ¬ (x : Int) < (n : Int) := by omega
              have hse : seekR n (xs ++ restB l kk) = x :: l.drop (a + 1) := by
                rw [hrest.out, hsk.out, List.drop_eq_getElem_cons hal, ← Hx.out]
                exact seekR_hit (a := []) (by simp) (by omega)
              have Hse := Lib.hid hse; clear hse
              have hdr : l.drop a = x :: l.drop (a + 1) := by rw [List.drop_eq_getElem_cons hal, ← Hx.out]
              have Hdr := Lib.hid hdr; clear hdr
              have w1a2 := w1a
              go_wp2_with fail
              refine (vSeek l xs n kk w2.heap.size I wr hI4 Hn64.out).mono ?_
              rintro e w5 ⟨hb5, xs5, k5, hI5, hr5, rfl⟩
              rw [Hse.out] at hr5 ⊢
              have hr5' : xs5 ++ restB l k5 = l.drop (a + 1) := by rw [hr5]; rfl
              have Hr5 := Lib.hid hr5'; clear hr5 hr5'
              have hb25 : Below w2.heap.size w2 w5 := hb4.trans (hb5.mono (by have := hI4.hbI; omega))
              have s5 := hb25.size
              have hb05 : Below w.heap.size w w5 := hb02.trans (hb25.mono s2)
              have cx5 := Hcx.out w5 hb05
              by_cases hn0 : n = 0
              · subst hn0
                have own5 := own_below own2 hb25
                go_wp2_with fail
                refine (vOpenP l bb A2 c2 w5.heap.size w5 Hbb.out hl2 Hris.out Hn.out (Row.of_own own5) (Nat.le_refl _)).mono ?_
                rintro e w6 ⟨J, rfl, hJ, hb6⟩
                go_wp2
                go_loopw [15] (fun vm wr => ∃ (m kj : Nat) (ys : List Nat), m ≤ a ∧ vm = .int .i64 m ∧ IterIs wr w5.heap.size J l ys kj ∧ Hid (ys ++ restB l kj = l.drop m) ∧ Below w5.heap.size w5 wr) (fun vm _ => a - (intOf vm).toNat)
                case atStart => exact ⟨0, 0, [], by omega, rfl, hJ, Lib.hid (by rw [restB_zero]; rfl), hb6⟩
                case round =>
                  obtain ⟨m, kj, ys, hm, rfl, hJ7, hrj, hb7⟩ := hrel
                  obtain ⟨wq, rfl⟩ : ∃ wq : World, wq = wr := ⟨_, rfl⟩
                  by_cases hma : m < a
                  · have ltm : (m : Int) < (a : Int) := by omega
                    have w1m : IntKind.i64.wrap ((m : Int) + 1) = (m : Int) + 1 := by rw [IntKind.wrap_i64]; omega
                    go_wp2_with fail
                    refine (vNext l ys kj w5.heap.size J wq hJ7).mono ?_
                    rintro e w8 ⟨hb8, ys', kj', hJ8, hr8, rfl⟩
                    have hr8' : ys' ++ restB l kj' = l.drop (m + 1) := by rw [hr8, seekR_nil0, hrj.out, List.tail_drop]
                    have hb58 : Below w5.heap.size w5 w8 := hb7.trans (hb8.mono hJ7.hbI)
                    have Hr8 := Lib.hid hr8'; clear hr8 hr8'
                    go_wp2
                    refine ⟨⟨m + 1, kj', ys', by omega, by simp, hJ8, Lib.hid Hr8.out, hb58⟩, by simp [intOf]; omega⟩
                  · obtain rfl : m = a := by omega
                    go_wp2_with fail
                    refine (vNext l ys kj w5.heap.size J wq hJ7).mono ?_
                    rintro e w8 ⟨hb8, ys', kj', hJ8, hr8, rfl⟩
                    rw [seekR_nil0, hrj.out, Hdr.out]
                    have hb58 : Below w5.heap.size w5 w8 := hb7.trans (hb8.mono hJ7.hbI)
                    have hI9 := hI5.below hb58
                    have hb29 : Below w2.heap.size w2 w8 := hb25.trans (hb58.mono s5)
                    have hb09 : Below w.heap.size w w8 := hb02.trans (hb29.mono s2)
                    have cx9 := Hcx.out w8 hb09
                    clear hr8 hJ8
                    go_wp2
                    refine ⟨⟨m + 1, k + 1, k5, xs5, by omega, by simp, by simp, by omega, hI9, Lib.hid Hr5.out, hb29⟩, by simp [intOf]; omega⟩
              · have hn0' : ¬ (n : Int) = 0 := by omega
                go_wp2
                refine ⟨⟨a + 1, k + 1, k5, xs5, by omega, by simp, by simp, by omega, hI5, Lib.hid Hr5.out, hb25⟩, by simp [intOf]; omega⟩
          · have lta : ¬ (a : Int) < (l.length : Int) := by omega
            have lge : (l.length : Int) ≤ (a : Int) := by omega
            have hdr : l.drop a = [] := List.drop_of_length_le (by omega)
            have hse : seekR n (xs ++ restB l kk) = [] := by rw [hrest.out, hsk.out, hdr]; rfl
            have hdr2 : l.drop (a + 1) = [] := List.drop_of_length_le (by omega)
            have Hdr2 := Lib.hid hdr2; clear hdr2
            have Hse := Lib.hid hse; clear hse
            have Hdr := Lib.hid hdr; clear hdr
            have w1a2 := w1a
            go_wp2_with fail
            refine (vSeek l xs n kk w2.heap.size I wr hI4 Hn64.out).mono ?_
            rintro e w5 ⟨hb5, xs5, k5, hI5, hr5, rfl⟩
            rw [Hse.out] at hr5 ⊢
            have hr5' : xs5 ++ restB l k5 = l.drop (a + 1) := by rw [hr5]; exact Hdr2.out.symm
            have Hr5 := Lib.hid hr5'; clear hr5 hr5'
            have hb25 : Below w2.heap.size w2 w5 := hb4.trans (hb5.mono (by have := hI4.hbI; omega))
            have s5 := hb25.size
            have hb05 : Below w.heap.size w w5 := hb02.trans (hb25.mono s2)
            by_cases hn0 : n = 0
            · subst hn0
              have own5 := own_below own2 hb25
              go_wp2_with fail
              refine (vOpenP l bb A2 c2 w5.heap.size w5 Hbb.out hl2 Hris.out Hn.out (Row.of_own own5) (Nat.le_refl _)).mono ?_
              rintro e w6 ⟨J, rfl, hJ, hb6⟩
              go_wp2
              go_loopw [15] (fun vm wr => ∃ (m kj : Nat) (ys : List Nat), m ≤ a ∧ vm = .int .i64 m ∧ IterIs wr w5.heap.size J l ys kj ∧ Hid (ys ++ restB l kj = l.drop m) ∧ Below w5.heap.size w5 wr) (fun vm _ => a - (intOf vm).toNat)
              case atStart => exact ⟨0, 0, [], by omega, rfl, hJ, Lib.hid (by rw [restB_zero]; rfl), hb6⟩
              case round =>
                obtain ⟨m, kj, ys, hm, rfl, hJ7, hrj, hb7⟩ := hrel
                obtain ⟨wq, rfl⟩ : ∃ wq : World, wq = wr := ⟨_, rfl⟩
                by_cases hma : m < a
                · have ltm : (m : Int) < (a : Int) := by omega
                  have w1m : IntKind.i64.wrap ((m : Int) + 1) = (m : Int) + 1 := by rw [IntKind.wrap_i64]; omega
                  go_wp2_with fail
                  refine (vNext l ys kj w5.heap.size J wq hJ7).mono ?_
                  rintro e w8 ⟨hb8, ys', kj', hJ8, hr8, rfl⟩
                  have hr8' : ys' ++ restB l kj' = l.drop (m + 1) := by rw [hr8, seekR_nil0, hrj.out, List.tail_drop]
                  have hb58 : Below w5.heap.size w5 w8 := hb7.trans (hb8.mono hJ7.hbI)
                  have Hr8 := Lib.hid hr8'; clear hr8 hr8'
                  go_wp2
                  refine ⟨⟨m + 1, kj', ys', by omega, by simp, hJ8, Lib.hid Hr8.out, hb58⟩, by simp [intOf]; omega⟩
                · obtain rfl : m = a := by omega
                  go_wp2_with fail
                  refine (vNext l ys kj w5.heap.size J wq hJ7).mono ?_
                  rintro e w8 ⟨hb8, ys', kj', hJ8, hr8, rfl⟩
                  rw [seekR_nil0, hrj.out, Hdr.out]
                  have hb58 : Below w5.heap.size w5 w8 := hb7.trans (hb8.mono hJ7.hbI)
                  have hI9 := hI5.below hb58
                  have hb29 : Below w2.heap.size w2 w8 := hb25.trans (hb58.mono s5)
                  have hb09 : Below w.heap.size w w8 := hb02.trans (hb29.mono s2)
                  clear hr8 hJ8
                  go_wp2
                  refine ⟨⟨m + 1, k + 1, k5, xs5, by omega, by simp, by simp, by omega, hI9, Lib.hid Hr5.out, hb29⟩, by simp [intOf]; omega⟩
            · have hn0' : ¬ (n : Int) = 0 := by omega
              go_wp2
              refine ⟨⟨a + 1, k + 1, k5, xs5, by omega, by simp, by simp, by omega, hI5, Lib.hid Hr5.out, hb25⟩, by simp [intOf]; omega⟩
      · obtain rfl : k = s.length := by omega
        go_wp2
        go_ret
        exact ⟨rfl, hb04⟩
  · have Hk := Lib.hid hk; clear hk
    have hk1 : ¬ (k : Int) = 0 := by omega
    go_wp2_with fail
    refine (vWrite_no l A c B k w1 hr1 (by omega) Hn.out hl Hk.out hk0).mono ?_
    rintro e w2 ⟨rfl, hb2⟩
    go_wp2
    go_ret
    exact ⟨rfl, hb1.trans (hb2.mono s1)⟩
end Go.Proofs.Ytmalkgakdmghiaa
