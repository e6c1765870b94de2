import Derived.Test.YtmcacicopgckmaaGreatDoorLn27
import Derived.Test.YtmcacicopgckmaaGreatDoorLn09
import Derived.Test.YtmcacicopgckmaaGreatDoorLn26
import Derived.Test.YtmcacicopgckmaaGreatDoorLn36
import Derived.Test.YtmcacicopgckmaaGreatDoorLn25
import Derived.Test.YtmcacicopgckmaaGreatDoorLn31
/-! a text's runes one behind the other; what rexp.Parse answers -/
namespace Garner
open Go
theorem iter_next (l : Bs) (pos : Nat) (h : pos < l.length) : ∃ r q, Utf8.decode ⟨l.toArray⟩ pos = (r, q) ∧ 1 ≤ q ∧ r ≤ 1114111 ∧ runesP (l.drop pos) = r :: runesP (l.drop (pos + q)) := by
  have hd := Lib.decodeL_drop ⟨l.toArray⟩ pos
  have e : (⟨l.toArray⟩ : ByteArray).data.toList = l := by simp
  rw [e] at hd
  have hne : l.drop pos ≠ [] := fun e => by
    have := congrArg List.length e
    rw [List.length_drop] at this
    simp only [List.length_nil] at this
    omega
  refine ⟨(Utf8.decode ⟨l.toArray⟩ pos).1, (Utf8.decode ⟨l.toArray⟩ pos).2, rfl, ?_, ?_, ?_⟩
  · rw [← hd]; exact Lib.decodeL_width _
  · rw [← hd]; exact Lib.decodeL_rune _
  · rw [runes_step hne, hd, List.drop_drop]
/-- of the runes so many are behind -/
structure RunAt (l : Bs) (rs : List Nat) (pos k : Nat) : Prop where
  at_ : rs.drop k = runesP (l.drop pos)
  le : k ≤ rs.length
theorem RunAt.start (l : Bs) : RunAt l (runesP l) 0 0 := ⟨rfl, Nat.zero_le _⟩
theorem RunAt.next {l : Bs} {rs : List Nat} {pos k r q : Nat} (h : RunAt l rs pos k) (hr : runesP (l.drop pos) = r :: runesP (l.drop (pos + q))) : rs[k]? = some r ∧ RunAt l rs (pos + q) (k + 1) := by
  have h1 := h.at_.trans hr
  have hk : rs[k]? = some r := by
    have : (rs.drop k)[0]? = some r := by rw [h1]; rfl
    rwa [List.getElem?_drop, Nat.add_zero] at this
  have hlt := (List.getElem?_eq_some_iff.1 hk).1
  refine ⟨hk, ?_, hlt⟩
  have : (rs.drop k).drop 1 = runesP (l.drop (pos + q)) := by rw [h1]; rfl
  rwa [List.drop_drop] at this
theorem RunAt.done {l : Bs} {rs : List Nat} {pos k : Nat} (h : RunAt l rs pos k) (hp : ¬ pos < l.length) : k = rs.length := by
  have h1 := h.at_
  rw [List.drop_eq_nil_of_le (by omega : l.length ≤ pos)] at h1
  have := congrArg List.length h1
  rw [List.length_drop] at this
  have h2 := h.le
  have h3 : (runesP ([] : Bs)).length = 0 := rfl
  omega
end Garner
namespace Go.Proofs.YtmcacicopgckmaaGreatDoor
open Go.RowKit Garner
theorem err_pos {l : Bs} {k : Nat} (h : rexpP l = .error k) : 0 < k ∧ k ≤ 40 := by
  unfold rexpP at h
  split at h
  · cases h; omega
  split at h
  · cases h; omega
  · unfold readR at h
    split at h
    · cases h; omega
    · split at h
      · cases h; omega
      split at h
      · cases h; omega
      split at h
      · cases h; omega
      · cases h
theorem rexp_good {l : Bs} {t : Re} (h : rexpP l = .ok t) : GoodT t := by
  unfold rexpP at h
  split at h
  · cases h
  · rename_i hl
    split at h
    · cases h
    · exact read_good (by have := runes_len _ l (Nat.le_refl _); omega) h
end Go.Proofs.YtmcacicopgckmaaGreatDoor

/-! garnerref18: alt; all of it by recursion -/
namespace Go.Proofs.YtmcacicopgckmaaGreatDoor
open Go.RowKit Garner
def boolN : Value → Nat
  | .bool true => 1
  | _ => 0
set_option maxRecDepth 100000 in
set_option maxHeartbeats 16000000 in
theorem qAlt (L : Nat) (hT : QRowC L) : QAltC L := by
  intro F g N w rs ns deep most hL h hns hdp
  have hgw := h.lt
  have HF := Lib.hid h.hF
  have hlb := h.lb
  have hlen := h.len
  have hdm := h.dm
  obtain ⟨ANS, hANS⟩ : ∃ ANS, altF rs = ANS := ⟨_, rfl⟩
  rw [hANS]
  obtain ⟨M, hN⟩ : ∃ M, rs.length = M := ⟨_, rfl⟩
  rw [hN] at hL hns hdp hlen ⊢
  obtain ⟨KK, hKK⟩ : ∃ KK, 4 * M + 4 = KK := ⟨_, rfl⟩
  have hK1 : 4 * M + 4 ≤ KK := by omega
  rw [hKK]
  obtain ⟨OUT, hOUT⟩ : ∃ OUT, ANS.map (fun p => (manyR .alt p.1, p.2.1, p.2.2)) = OUT := ⟨_, rfl⟩
  rw [hOUT]
  have HN := Lib.hid hN; have HA := Lib.hid hANS; have HO := Lib.hid hOUT; have H := Lib.hid h
  clear hN hANS hKK hOUT h
  go_enter Tryz.func41, Tryz.ntmps41
  go_wp2
  go_loopw [3, 4] (fun v b wr => (∃ (ts : List Re) (s : List Nat) (d : Nat) (G : Nat → Prop), KidsQ F w g N ns deep most (ns.length + 4 * M + 1) v wr ts s d G ∧ s.length ≤ M ∧ ((b = .bool true ∧ Hid ((altF s).map (fun p => (ts ++ p.1, p.2.1, max d p.2.2)) = ANS) ∧ cnts ts + 4 * s.length ≤ 4 * M ∧ ts.length + s.length ≤ M) ∨ (b = .bool false ∧ ts ≠ [] ∧ Hid (ANS = some (ts, s, d))))) ∨ ∃ (n : Nat) (xs : List Int), KidsX w g n v wr xs ∧ n ≤ ns.length + 4 * M + 3 ∧ b = .bool false ∧ Hid (ANS = none)) (fun _ b wr => qLen N g wr + boolN b)
  case atStart =>
    refine .inl ⟨[], rs, 0, F, ⟨World.ownsRow_nil _ _ _ _, ?_, fun k hk => .inl hk, fun k hk => (by cases hk), .refl _ _, by rw [HN.out]; simp [cnts], by rw [HN.out]; simp; omega⟩, by rw [HN.out]; exact Nat.le_refl _, .inl ⟨rfl, Lib.hid ?_, by rw [HN.out]; simp [cnts], by rw [HN.out]; simp⟩⟩
    · rw [show max most (deep + 0) = most by omega]
      simpa [flats] using H.out
    · rw [HA.out]
      cases ANS with
      | none => rfl
      | some p => simp
  case round =>
    obtain ⟨wo, rfl⟩ : ∃ wo : World, wo = wr := ⟨_, rfl⟩
    rcases hrel with ⟨ts, s, d, G, hI, hsM, ⟨rfl, hans, hcn0, htl⟩ | ⟨rfl, hne, hans⟩⟩ | ⟨n, xs, hX, hn, rfl, hno⟩
    · obtain ⟨A3, c3, rfl, hc3⟩ := own_form hI.own
      have hlS := hI.ps.qLen
      have ha := hans.out
      rw [altF_eq] at ha
      have hi := hT G g N wo s (ns ++ flats ns.length ts) deep (max most (deep + d)) (by omega) hI.ps (by rw [List.length_append, flats_len]; omega) (by omega)
      have HlS := Lib.hid hlS; have HI := Lib.hid hI; have Ha := Lib.hid ha; have Hi := Lib.hid hi
      obtain ⟨c5, f5⟩ := hI.ps.cell5
      have hown := hI.own
      have hsz := hI.pk.keep.size
      clear hI hans hlS ha hi
      go_wp2_with fail
      refine Hi.out.mono ?_
      rintro e w4 ⟨k4, o4⟩
      have s4 := k4.keep.size
      have own4 : w4.ownsRow w.heap.size 3 1 (.slice A3 ts.length c3) ts.length ((roots ns.length ts).map iv) := k4.keep.own hown (by decide)
      have ha := Ha.out
      cases hit : rowF s with
      | none =>
        rw [hit] at o4 ha
        obtain ⟨x, n, rfl, hx4, hxn⟩ := o4
        have hno : ANS = none := ha.symm
        rw [List.length_append, flats_len] at hxn
        have HX4 := Lib.hid hx4; have K4 := Lib.hid k4; have HNO := Lib.hid hno
        clear ha hit hx4 k4 hno hown
        go_upto_region 4 with (at_builtin; refine wpList_app _ rfl intE rfl rfl (own4.alloc _) rfl (row_new w4 _ [_]) (by simp [Value.oneCell']) (by first | omega | (simp; omega)) (by simp; omega) ?_; intro v8 w8 own8 hg8 hb8 hx8)
        obtain ⟨e1, e2⟩ := kidsQ_bad x HI.out hgw HX4.out K4.out own8 hg8
        have E1 := Lib.hid e1
        clear e1 e2 own8 hg8 hb8 hx8 own4
        go_wp2_with fail
        refine (xIs 124 g n w8 E1.out.qx).mono ?_
        rintro e w9 ⟨rfl, hb9⟩
        have hx9 := E1.out.qx.below hb9
        have e3 : KidsX w g n v8 w9 ((roots ns.length ts).map (fun k : Nat => (k : Int)) ++ [x]) := ⟨own_below E1.out.own hb9, hx9, E1.out.pk.trans (.of_below hb9 (Nat.le_of_lt E1.out.qx.lt)), E1.out.ne⟩
        have l9 := hx9.qLen (N := N)
        have HE3 := Lib.hid e3; have HL9 := Lib.hid l9
        clear e3 l9 hx9
        go_wp2
        go_roundw
        case rel => exact .inr ⟨n, _, HE3.out, by omega, rfl, HNO⟩
        case measure => simp [boolN]; rw [HL9.out, HlS.out]; omega
      | some q =>
        obtain ⟨ts1, s1, d1⟩ := q
        rw [hit] at o4 ha
        obtain ⟨rfl, h4⟩ := o4
        dsimp only at ha h4
        have hcn := (rowF_cnt hit).1
        have hro := rowOf_cnt ts1
        have hll := rowF_len hit
        obtain ⟨kid, hkid⟩ : ∃ kid, (ns ++ flats ns.length ts).length + (rowOf ts1).cnt - 1 = kid := ⟨_, rfl⟩
        rw [hkid]
        have Hk := Lib.hid hkid; have Ha2 := Lib.hid ha; have H4 := Lib.hid h4; have K4 := Lib.hid k4
        clear ha h4 k4 hit hown hkid
        go_upto_region 4 with (at_builtin; refine wpList_app _ rfl intE rfl rfl (own4.alloc _) rfl (row_new w4 _ [_]) (by simp [Value.oneCell']) (by first | omega | (simp; omega)) (by simp; omega) ?_; intro v8 w8 own8 hg8 hb8 hx8)
        obtain ⟨e1, e2⟩ := kidsQ_next (t := rowOf ts1) (kid := kid) HI.out hgw H4.out K4.out Hk.out.symm own8 hg8 hx8 (by omega) (by omega)
        have hv := qIs_any 124 g N w8 s1 _ _ _ e1.ps
        have E1 := Lib.hid e1
        clear e1 e2 own8 hg8 hb8 hx8 own4
        by_cases hc : s1.head? = some 124
        · rw [if_pos hc, decide_eq_true hc] at hv
          have htl2 := tail_lt hc
          have hans2 : (altF s1.tail).map (fun p => ((ts ++ [rowOf ts1]) ++ p.1, p.2.1, max (max d d1) p.2.2)) = ANS := by
            rw [← Ha2.out, if_pos hc]
            cases altF s1.tail with
            | none => rfl
            | some p => simp [Nat.max_assoc]
          have HV := Lib.hid hv; have HA2 := Lib.hid hans2
          clear hv hans2 hc
          go_wp2_with fail
          refine HV.out.mono ?_
          rintro e w9 ⟨rfl, h9, k9⟩
          have e3 := kidsQ_keep E1.out h9 k9 (by omega)
          have l9 := h9.qLen
          have HE3 := Lib.hid e3; have HL9 := Lib.hid l9
          clear e3 l9 h9 k9
          go_wp2
          go_roundw
          case rel => exact .inl ⟨ts ++ [rowOf ts1], s1.tail, _, _, HE3.out, by omega, .inl ⟨rfl, HA2, by rw [cnts_app]; simp only [cnts]; omega, by rw [List.length_append]; show ts.length + 1 + _ ≤ _; omega⟩⟩
          case measure => simp [boolN]; rw [HL9.out, HlS.out]; omega
        · rw [if_neg hc, decide_eq_false hc] at hv
          have hans2 : ANS = some (ts ++ [rowOf ts1], s1, max d d1) := by rw [← Ha2.out, if_neg hc]; rfl
          have HV := Lib.hid hv; have HA2 := Lib.hid hans2
          clear hv hans2 hc
          go_wp2_with fail
          refine HV.out.mono ?_
          rintro e w9 ⟨rfl, h9, k9⟩
          have e3 := kidsQ_keep E1.out h9 k9 (Nat.le_refl _)
          have l9 := h9.qLen
          have HE3 := Lib.hid e3; have HL9 := Lib.hid l9
          clear e3 l9 h9 k9
          go_wp2
          go_roundw
          case rel => exact .inl ⟨ts ++ [rowOf ts1], s1, _, _, HE3.out, by omega, .inr ⟨rfl, by simp, HA2⟩⟩
          case measure => simp [boolN]; rw [HL9.out, HlS.out]; omega
    · obtain ⟨A3, c3, rfl, hc3⟩ := own_form hI.own
      have hout : OUT = some (manyR .alt ts, s, d) := by rw [← HO.out, hans.out]; rfl
      clear hans
      match ts, hne, hI, hout with
      | [t], _, hI2, hout =>
        have hv := qKidsOne KK hI2 HF.out
        have ho2 : OUT = some (t, s, d) := hout
        rw [← ho2] at hv
        obtain ⟨g3, rfl, hg3a, hg3b, -, -, hc0⟩ := own_at hI2.own (by simp)
        have c0 : wo.cell? ⟨g3, 0, none⟩ = some (.int .i64 ((ns.length + t.cnt - 1 : Nat) : Int)) := by
          rw [hc0 0 (by simp), roots_one]; rfl
        obtain ⟨kv, hkv⟩ : ∃ kv, ns.length + t.cnt - 1 = kv := ⟨_, rfl⟩
        rw [hkv] at hv c0
        have HV := Lib.hid hv
        clear hv ho2 hout hI2 hc0 hkv
        go_wp2
        go_ret
        exact ⟨HV.out.1, HV.out.2⟩
      | t :: u :: r, _, hI2, hout =>
        obtain ⟨m, hm⟩ : ∃ m, (t :: u :: r).length = m := ⟨_, rfl⟩
        have hm2 : 2 ≤ m := by rw [← hm]; simp
        have z7 : ((m : Int) == 1) = false := by simp; omega
        rw [hm] at hI2 ⊢
        have hv := qKidsNode KK 4 .alt (fun _ _ => rfl) (fun _ => rfl) hm.symm hI2 HF.out (by omega)
        have ho2 : OUT = some (.alt (t :: u :: r), s, d) := hout
        rw [← ho2] at hv
        have HV := Lib.hid hv
        clear hv ho2 hout hI2 hm
        go_wp2_with fail
        refine HV.out.mono ?_
        rintro e w9 ⟨x9, rfl, k9, o9⟩
        have O9 := Lib.hid o9
        clear o9
        go_wp2
        go_ret
        exact ⟨k9, O9.out⟩
    · have hout : OUT = none := by rw [← HO.out, hno.out]; rfl
      have HOU := Lib.hid hout
      obtain ⟨A3, c3, rfl, -⟩ := own_form hX.own
      have hq2 := hX.qx
      have own2 := hX.own
      have kq2 := hX.pk
      have hne := hX.ne
      obtain ⟨g3, hg3, -, -, -, -, -⟩ := own_at own2 (List.length_pos_iff.2 hne)
      subst hg3
      clear hX hout hno
      match xs, hne, own2 with
      | [x], _, own2 =>
        obtain ⟨g4, hg4, -, -, -, -, hc0⟩ := own_at own2 (by simp)
        cases hg4
        have c0 : wo.cell? ⟨g3, 0, none⟩ = some (.int .i64 x) := by rw [hc0 0 (by simp)]; rfl
        have HQ2 := Lib.hid hq2; have KQ2 := Lib.hid kq2
        clear hq2 kq2 own2 hc0
        go_wp2
        go_ret
        exact ⟨KQ2.out, by rw [HOU.out]; exact ⟨x, n, rfl, HQ2.out, by omega⟩⟩
      | x :: y :: r, _, own2 =>
        obtain ⟨m, hm⟩ : ∃ m, (x :: y :: r).length = m := ⟨_, rfl⟩
        have hm2 : 2 ≤ m := by rw [← hm]; simp
        have z7 : ((m : Int) == 1) = false := by simp; omega
        have hv := xNode 4 0 0 (some ⟨g3, 0, none⟩) m c3 none 0 0 g n wo hq2 (by omega)
        have HV := Lib.hid hv; have KQ2 := Lib.hid kq2
        rw [hm]
        clear hv hq2 kq2 own2 hm
        go_wp2_with fail
        refine HV.out.mono ?_
        rintro e w3 ⟨rfl, h3, k3⟩
        have H3 := Lib.hid h3; have K3 := Lib.hid k3
        clear h3 k3
        go_wp2
        go_ret
        exact ⟨KQ2.out.trans K3.out, by rw [HOU.out]; exact ⟨n, n + 1, rfl, H3.out, by omega⟩⟩
theorem allQ : ∀ L : Nat, QAltC L
  | 0 => qAlt 0 (qRow 0 (qItem 0 (qAtom 0 fun K hK => absurd hK (Nat.not_lt_zero K))))
  | L + 1 => qAlt (L + 1) (qRow (L + 1) (qItem (L + 1) (qAtom (L + 1) fun K hK F g N w rs ns deep most hL => allQ L F g N w rs ns deep most (by omega))))
end Go.Proofs.YtmcacicopgckmaaGreatDoor

/-! garnerref18.Size, plain: sizes that are cut at 2000 -/
namespace Garner
open Go
end Garner

/-! garnerref18: Size -/
namespace Garner
open Go
theorem sizesGo_pre (ns : List NodeP) (k : Nat) (hk : k ≤ ns.length) {i : Nat} (hi : i < k) : (sizesGo [] (ns.take k)).getD i 0 = (sizesGo [] ns).getD i 0 := by
  have h : ∀ (l : List NodeP) (S : List Nat), i < S.length → (sizesGo S l).getD i 0 = S.getD i 0 := by
    intro l
    induction l with
    | nil => intro S _; rfl
    | cons n l ih =>
      intro S hS
      show (sizesGo (S ++ [nodeSize S n]) l).getD i 0 = _
      rw [ih _ (by simp; omega), List.getD_eq_getElem?_getD, List.getElem?_append_left hS, ← List.getD_eq_getElem?_getD]
  conv => rhs; rw [← List.take_append_drop k ns, sizesGo_app]
  exact (h (ns.drop k) _ (by rw [sizesGo_len, List.length_take]; simp; omega)).symm
end Garner
namespace Go.Proofs.YtmcacicopgckmaaGreatDoor
open Go.RowKit Garner
set_option maxRecDepth 100000 in
set_option maxHeartbeats 16000000 in
theorem qSize {F : Nat → Prop} (B : Nat) (A : Option Addr) (c N : Nat) (ns : List NodeP) (w : World) (hN : ns.length = N) (h : NodesIs F w B (.slice A N c) ns) (hlen : N ≤ 10000) (hwf : WfN ns) (hlim : ∀ n ∈ ns, NodeLim n) : ∀ M k : Nat, k < M → k < N →
    Calls Tryz.prog 42 #[.slice A N c, .int .i64 (k : Nat)] w fun e w' => e = .returned (.int .i64 (((sizesGo [] ns).getD k 0 : Nat) : Int)) ∧ w' = w := by
  have HN := Lib.hid hN; have HH := Lib.hid h; have Hwf := Lib.hid hwf; have Hlim := Lib.hid hlim
  clear hN h hwf hlim
  intro M
  induction M with
  | zero => intro k hk; omega
  | succ M ih =>
    intro k hkM hkN
    obtain ⟨ds, hds, hown0, hok⟩ := HH.out
    rw [HN.out] at hown0
    obtain ⟨gN, rfl, -, hgN, -, -, hcell⟩ := own_at hown0 (by omega)
    obtain ⟨d, hd⟩ : ∃ d, ds[k]? = some d := ⟨_, List.getElem?_eq_getElem (by have e1 := HN.out; have e2 := congrArg List.length hds; rw [List.length_map] at e2; omega)⟩
    have hnk : ns[k]? = some d.n := by rw [← hds, List.getElem?_map, hd]; rfl
    have hlm := Hlim.out d.n (List.mem_of_getElem? hnk)
    have hdo := hok d (List.mem_of_getElem? hd)
    have hw := Hwf.out k d.n hnk
    have cc : ∀ j, j < 5 → w.cell? ⟨gN, k * 5 + j, none⟩ = d.cells[j]? := fun j hj => by
      rw [hcell (k * 5 + j) (by omega), cells_at hd j hj]
    have c0 : w.cell? ⟨gN, k * 5, none⟩ = some (.int .i64 (d.n.kind : Nat)) := cc 0 (by omega)
    have c1 : w.cell? ⟨gN, k * 5 + 1, none⟩ = some (.slice d.kA d.n.kids.length d.kc) := cc 1 (by omega)
    have c2 : w.cell? ⟨gN, k * 5 + 2, none⟩ = some (.int .i64 (d.n.mn : Nat)) := cc 2 (by omega)
    have c3 : w.cell? ⟨gN, k * 5 + 3, none⟩ = some (.int .i64 d.n.mx) := cc 3 (by omega)
    obtain ⟨S, hS⟩ : ∃ S, sizesGo [] (ns.take k) = S := ⟨_, rfl⟩
    have hans : (sizesGo [] ns).getD k 0 = kidsSize (nodeTimes d.n) S d.n.kids := by
      rw [← sizesGo_pre ns (k + 1) (by rw [HN.out]; omega) (Nat.lt_succ_self k), sizes_take hnk, hS]
      have hSl : S.length = k := by rw [← hS, sizesGo_len, List.length_take, HN.out]; simp; omega
      rw [List.getD_eq_getElem?_getD, List.getElem?_append_right (by rw [hSl]; exact Nat.le_refl _), hSl, Nat.sub_self]
      rfl
    have hrec : ∀ kid, kid < k → Calls Tryz.prog 42 #[.slice (some ⟨gN, 0, none⟩) N c, .int .i64 (kid : Nat)] w fun e w' => e = .returned (.int .i64 ((S.getD kid 0 : Nat) : Int)) ∧ w' = w := fun kid hkid => by
      have := ih kid (by omega) (by omega)
      rwa [← sizesGo_pre ns k (by rw [HN.out]; omega) hkid, hS] at this
    have hSb : ∀ i, S.getD i 0 ≤ 2000 := fun i => by
      rw [List.getD_eq_getElem?_getD]
      cases hi : S[i]? with
      | none => simp
      | some y => exact sizes_le (ns.take k) [] (by simp) y (by rw [hS]; exact List.mem_of_getElem? hi)
    obtain ⟨ANS, hANS⟩ : ∃ ANS, (sizesGo [] ns).getD k 0 = ANS := ⟨_, rfl⟩
    rw [hANS] at hans ⊢
    obtain ⟨l1, l2, l3, l4, l5⟩ := hlm
    obtain ⟨T, hT⟩ : ∃ T, nodeTimes d.n = T := ⟨_, rfl⟩
    rw [hT] at hans
    unfold nodeTimes at hT
    have hdk := hdo.kids
    obtain ⟨ks, hks⟩ : ∃ ks, d.n.kids = ks := ⟨_, rfl⟩
    obtain ⟨kd, hkd⟩ : ∃ kd, d.n.kind = kd := ⟨_, rfl⟩
    obtain ⟨mn, hmn⟩ : ∃ mn, d.n.mn = mn := ⟨_, rfl⟩
    obtain ⟨mx, hmx⟩ : ∃ mx, d.n.mx = mx := ⟨_, rfl⟩
    obtain ⟨KA, hKA⟩ : ∃ KA, d.kA = KA := ⟨_, rfl⟩
    obtain ⟨kc, hkc⟩ : ∃ kc, d.kc = kc := ⟨_, rfl⟩
    rw [hks] at hans hw c1 hdk l5
    rw [hkd] at c0 l1 hT; rw [hmn] at c2 l2 hT; rw [hmx] at c3 l3 l4 hT; rw [hKA, hkc] at c1; rw [hKA] at hdk
    obtain ⟨kl, hkl⟩ : ∃ kl, ks.length = kl := ⟨_, rfl⟩
    rw [hkl] at c1 hdk l5
    have hT9 : T ≤ 9 := by
      rw [← hT]; split
      · split <;> omega
      · omega
    have Hans := Lib.hid hans; have Hrec := Lib.hid hrec; have HSb := Lib.hid hSb; have HT := Lib.hid hT; have Hdk := Lib.hid hdk; have Hw := Lib.hid hw; have Hkl := Lib.hid hkl
    have z1 : (k : Int) < (N : Int) := by omega
    clear hans hrec hSb hT hdk hw hkl hkd hmn hmx hKA hkc hks hANS hS cc hcell hown0 hok hds hd hnk hdo ih
    go_enter Tryz.func42, Tryz.ntmps42
    go_wp2
    go_loopw [5, 6] (fun v i wr => ∃ j a : Nat, j ≤ kl ∧ v = .int .i64 a ∧ i = .int .i64 j ∧ a ≤ 2000 ∧ Hid (a = kidsSize T S (ks.take j)) ∧ wr = w) (fun _ i _ => kl - (intOf i).toNat)
    case atStart => exact ⟨0, 1, Nat.zero_le _, rfl, rfl, by omega, Lib.hid rfl, rfl⟩
    case round =>
      obtain ⟨j, a, hj, rfl, rfl, ha2, haa, hwr⟩ := hrel
      obtain rfl : w = wr := hwr.symm
      by_cases hjl : j < kl
      · obtain ⟨kid, hkid⟩ : ∃ kid, ks[j]? = some kid := ⟨_, List.getElem?_eq_getElem (by rw [Hkl.out]; exact hjl)⟩
        have hkk := Hw.out kid (List.mem_of_getElem? hkid)
        obtain ⟨y, hy⟩ : ∃ y, S.getD kid 0 = y := ⟨_, rfl⟩
        have hy2 := HSb.out kid
        have hr := Hrec.out kid hkk
        rw [hy] at hr hy2
        obtain ⟨bk, ok, rfl, ck0⟩ := Hdk.out.at_ (k := j) (u := iv kid) (by rw [List.getElem?_map, hkid]; rfl)
        have ckid : w.cell? ⟨bk, ok + j, none⟩ = some (.int .i64 (kid : Nat)) := ck0
        clear ck0
        have z2 : (j : Int) < (kl : Int) := by omega
        have wj1 : IntKind.i64.wrap ((j : Int) + 1) = ((j + 1 : Nat) : Int) := by rw [IntKind.wrap_i64]; omega
        have hTy : T * y ≤ 18000 := by
          have := Nat.mul_le_mul hT9 hy2
          omega
        have hstep := kids_take T S hkid
        rw [← haa.out, hy] at hstep
        obtain ⟨Q, hQ⟩ : ∃ Q, T * y = Q := ⟨_, rfl⟩
        have wm0 : (T : Int) * (y : Int) = (Q : Int) := by rw [← hQ, Int.natCast_mul]
        rw [hQ] at hstep hTy
        have wa : IntKind.i64.wrap ((a : Int) + (Q : Int)) = (a : Int) + (Q : Int) := by rw [IntKind.wrap_i64]; omega
        have wq : IntKind.i64.wrap (Q : Int) = (Q : Int) := by rw [IntKind.wrap_i64]; omega
        have Hst := Lib.hid hstep; have Hr := Lib.hid hr; have Hm0 := Lib.hid wm0
        clear hstep hy hkid haa wm0 hQ hr
        have hsplit : (∃ mxn : Nat, kd = 5 ∧ mx = (mxn : Int) ∧ 1 < mxn ∧ T = mxn) ∨ (kd = 5 ∧ mx < 0 ∧ 0 < mn ∧ T = mn + 1) ∨ (T = 1 ∧ (kd ≠ 5 ∨ (kd = 5 ∧ ¬ mx > 1 ∧ (¬ mx < 0 ∨ (mx < 0 ∧ mn = 0))))) := by
          have ht := HT.out
          by_cases h5 : kd = 5
          · rw [if_pos h5] at ht
            by_cases hm : mx < 0
            · rw [if_pos hm] at ht
              by_cases h0 : mn = 0
              · exact .inr (.inr ⟨by omega, .inr ⟨h5, by omega, .inr ⟨hm, h0⟩⟩⟩)
              · exact .inr (.inl ⟨h5, hm, by omega, ht.symm⟩)
            · rw [if_neg hm] at ht
              by_cases h1 : mx > 1
              · exact .inl ⟨mx.toNat, h5, by omega, by omega, by omega⟩
              · exact .inr (.inr ⟨by omega, .inr ⟨h5, h1, .inl hm⟩⟩)
          · rw [if_neg h5] at ht
            exact .inr (.inr ⟨ht.symm, .inl h5⟩)
        have wmn : IntKind.i64.wrap ((mn : Int) + 1) = (mn : Int) + 1 := by rw [IntKind.wrap_i64]; omega
        have hfini : ∀ (b : Nat), b = min 2000 (a + Q) → ∃ j' a' : Nat, j' ≤ kl ∧ Value.int .i64 (b : Nat) = .int .i64 (a' : Nat) ∧ Value.int .i64 ((j + 1 : Nat) : Int) = .int .i64 (j' : Nat) ∧ a' ≤ 2000 ∧ Hid (a' = kidsSize T S (ks.take j')) ∧ w = w := fun b hb => ⟨j + 1, b, hjl, rfl, rfl, by omega, Lib.hid (by rw [hb, Hst.out]), rfl⟩
        have Hfin := Lib.hid hfini
        clear hfini
        rcases hsplit with ⟨mxn, rfl, rfl, hx1, rfl⟩ | ⟨rfl, hm0, hn0, rfl⟩ | ⟨rfl, hh⟩
        · have x1 : (1 : Int) < (T : Int) := by omega
          have x2 : ¬ (T : Int) < 0 := by omega
          have wm : (T : Int) * (y : Int) = (Q : Int) := Hm0.out
          have HM := Lib.hid wm
          clear wm
          by_cases hb : 2000 < a + Q
          · have zb : (2000 : Int) < (a : Int) + (Q : Int) := by omega
            go_wp2_with fail
            refine Hr.out.mono ?_
            rintro e w2 ⟨rfl, hw2⟩
            obtain rfl : w = w2 := hw2.symm
            have wm := HM.out
            go_wp2
            go_roundw
            case rel => exact Hfin.out 2000 (by omega)
            case measure => simp [intOf]; omega
          · have zb : ¬ (2000 : Int) < (a : Int) + (Q : Int) := by omega
            go_wp2_with fail
            refine Hr.out.mono ?_
            rintro e w2 ⟨rfl, hw2⟩
            obtain rfl : w = w2 := hw2.symm
            have wm := HM.out
            go_wp2
            go_roundw
            case rel => exact Hfin.out (a + Q) (by omega)
            case measure => simp [intOf]; omega
        · have x1 : ¬ (1 : Int) < mx := by omega
          have x2 : (0 : Int) < (mn : Int) := by omega
          have wm : ((mn : Int) + 1) * (y : Int) = (Q : Int) := by have := Hm0.out; rwa [Int.natCast_add] at this
          have HM := Lib.hid wm
          clear wm
          by_cases hb : 2000 < a + Q
          · have zb : (2000 : Int) < (a : Int) + (Q : Int) := by omega
            go_wp2_with fail
            refine Hr.out.mono ?_
            rintro e w2 ⟨rfl, hw2⟩
            obtain rfl : w = w2 := hw2.symm
            have wm := HM.out
            go_wp2
            go_roundw
            case rel => exact Hfin.out 2000 (by omega)
            case measure => simp [intOf]; omega
          · have zb : ¬ (2000 : Int) < (a : Int) + (Q : Int) := by omega
            go_wp2_with fail
            refine Hr.out.mono ?_
            rintro e w2 ⟨rfl, hw2⟩
            obtain rfl : w = w2 := hw2.symm
            have wm := HM.out
            go_wp2
            go_roundw
            case rel => exact Hfin.out (a + Q) (by omega)
            case measure => simp [intOf]; omega
        · have hyq : y = Q := by have := Hm0.out; simp at this; omega
          subst hyq
          rcases hh with h5 | ⟨h5, h1, h2 | ⟨hmn, h2⟩⟩
          · have x0 : ((kd : Int) == 5) = false := by simp; omega
            by_cases hb : 2000 < a + y
            · have zb : (2000 : Int) < (a : Int) + (y : Int) := by omega
              go_wp2_with fail
              refine Hr.out.mono ?_
              rintro e w2 ⟨rfl, hw2⟩
              obtain rfl : w = w2 := hw2.symm
              go_wp2
              go_roundw
              case rel => exact Hfin.out 2000 (by omega)
              case measure => simp [intOf]; omega
            · have zb : ¬ (2000 : Int) < (a : Int) + (y : Int) := by omega
              go_wp2_with fail
              refine Hr.out.mono ?_
              rintro e w2 ⟨rfl, hw2⟩
              obtain rfl : w = w2 := hw2.symm
              go_wp2
              go_roundw
              case rel => exact Hfin.out (a + y) (by omega)
              case measure => simp [intOf]; omega
          · subst h5
            have x1 : ¬ (1 : Int) < mx := by omega
            by_cases hb : 2000 < a + y
            · have zb : (2000 : Int) < (a : Int) + (y : Int) := by omega
              go_wp2_with fail
              refine Hr.out.mono ?_
              rintro e w2 ⟨rfl, hw2⟩
              obtain rfl : w = w2 := hw2.symm
              go_wp2
              go_roundw
              case rel => exact Hfin.out 2000 (by omega)
              case measure => simp [intOf]; omega
            · have zb : ¬ (2000 : Int) < (a : Int) + (y : Int) := by omega
              go_wp2_with fail
              refine Hr.out.mono ?_
              rintro e w2 ⟨rfl, hw2⟩
              obtain rfl : w = w2 := hw2.symm
              go_wp2
              go_roundw
              case rel => exact Hfin.out (a + y) (by omega)
              case measure => simp [intOf]; omega
          · subst h5
            subst h2
            have x1 : ¬ (1 : Int) < mx := by omega
            by_cases hb : 2000 < a + y
            · have zb : (2000 : Int) < (a : Int) + (y : Int) := by omega
              go_wp2_with fail
              refine Hr.out.mono ?_
              rintro e w2 ⟨rfl, hw2⟩
              obtain rfl : w = w2 := hw2.symm
              go_wp2
              go_roundw
              case rel => exact Hfin.out 2000 (by omega)
              case measure => simp [intOf]; omega
            · have zb : ¬ (2000 : Int) < (a : Int) + (y : Int) := by omega
              go_wp2_with fail
              refine Hr.out.mono ?_
              rintro e w2 ⟨rfl, hw2⟩
              obtain rfl : w = w2 := hw2.symm
              go_wp2
              go_roundw
              case rel => exact Hfin.out (a + y) (by omega)
              case measure => simp [intOf]; omega
      · have z2 : ¬ (j : Int) < (kl : Int) := by omega
        have hfin : a = ANS := by
          rw [haa.out, Hans.out, List.take_of_length_le (by rw [Hkl.out]; omega)]
        have HF := Lib.hid hfin
        clear hfin haa
        go_wp2
        go_ret
        exact ⟨by rw [HF.out]; rfl, rfl⟩
end Go.Proofs.YtmcacicopgckmaaGreatDoor

/-! garnerref06: Runes -/
namespace Garner
open Go
theorem dec_pos (l : Bs) (p : Nat) (h : p < l.length) : 1 ≤ (Utf8.decode ⟨l.toArray⟩ p).2 ∧ (Utf8.decode ⟨l.toArray⟩ p).1 ≤ 1114111 ∧ runesP (l.drop p) = (Utf8.decode ⟨l.toArray⟩ p).1 :: runesP (l.drop (p + (Utf8.decode ⟨l.toArray⟩ p).2)) ∧ Lib.validD (l.drop p) = (if (Utf8.decode ⟨l.toArray⟩ p).1 = 65533 ∧ (Utf8.decode ⟨l.toArray⟩ p).2 = 1 then false else Lib.validD (l.drop (p + (Utf8.decode ⟨l.toArray⟩ p).2))) := by
  have hd := Lib.decodeL_drop ⟨l.toArray⟩ p
  have e : (⟨l.toArray⟩ : ByteArray).data.toList = l := by simp
  rw [e] at hd
  have hne : l.drop p ≠ [] := fun e => by
    have := congrArg List.length e
    rw [List.length_drop] at this
    simp only [List.length_nil] at this
    omega
  refine ⟨by rw [← hd]; exact Lib.decodeL_width _, by rw [← hd]; exact Lib.decodeL_rune _, by rw [runes_step hne, hd, List.drop_drop], ?_⟩
  rw [Lib.validD_step _ hne, hd, List.drop_drop]
end Garner
namespace Go.Proofs.YtmcacicopgckmaaGreatDoor
open Go.RowKit Garner
/-- where the loop over a text stands -/
def RunesAt (w0 : World) (l : Bs) (N : Nat) (v ok i : Value) (wr : World) : Prop := ∃ (p : Nat) (ov : Bool) (out : List Nat), p ≤ N ∧ i = .int .i64 p ∧ ok = .bool ov ∧ Hid (runesP l = out ++ runesP (l.drop p)) ∧ Hid (Lib.validD l = (ov && Lib.validD (l.drop p))) ∧ Hid (wr.ownsRow w0.heap.size 21 1 v out.length (out.map rv)) ∧ Hid (Below w0.heap.size w0 wr) ∧ out.length ≤ p
set_option maxRecDepth 100000 in
set_option maxHeartbeats 8000000 in
theorem vRunes (S : ByteArray) (l : Bs) (hS : S = ⟨l.toArray⟩) (w : World) (hl : l.length ≤ 1000000000000) :
    Calls Tryz.prog 40 #[.string S] w fun e w' => ∃ v, e = .returned (.tuple #[v, .bool (Lib.validD l)]) ∧ w'.ownsRow w.heap.size 21 1 v (runesP l).length ((runesP l).map rv) ∧ Below w.heap.size w w' := by
  have zS : S.size = l.length := by rw [hS]; exact str_size l
  obtain ⟨N, hN⟩ : ∃ N, l.length = N := ⟨_, rfl⟩
  have HS := Lib.hid hS; have HN := Lib.hid hN
  rw [hN] at zS hl
  clear hS hN
  go_enter Tryz.func40, Tryz.ntmps40
  go_wp2
  go_loopw [4, 5, 6] (fun v ok i wr => RunesAt w l N v ok i wr) (fun _ _ i _ => N - (intOf i).toNat)
  case atStart => exact ⟨0, true, [], Nat.zero_le _, rfl, rfl, Lib.hid rfl, Lib.hid rfl, Lib.hid (World.ownsRow_nil _ _ _ _), Lib.hid (Below.refl _ _), Nat.le_refl _⟩
  case round =>
    obtain ⟨p, ov, out, hp, rfl, rfl, hr, hv, hown, hbw, hol⟩ := hrel
    obtain ⟨wo, rfl⟩ : ∃ wo : World, wo = wr := ⟨_, rfl⟩
    obtain ⟨A3, c3, rfl, -⟩ := own_form hown.out
    obtain ⟨n3, hn3⟩ : ∃ n3, out.length = n3 := ⟨_, rfl⟩
    rw [hn3] at hown hol ⊢
    have Hn3 := Lib.hid hn3
    clear hn3
    have hso := hbw.out.size
    by_cases hlt : p < N
    · have z1 : (p : Int) < (N : Int) := by omega
      have hplen : p < l.length := by rw [HN.out]; exact hlt
      obtain ⟨d1, d2, d3, d4⟩ := dec_pos l p hplen
      have h1 := vOne S l HS.out p wo hplen (by rw [HN.out]; omega)
      have hdn : p + (Utf8.decode ⟨l.toArray⟩ p).2 ≤ N := by
        have hd := Lib.decodeL_drop ⟨l.toArray⟩ p
        have e : (⟨l.toArray⟩ : ByteArray).data.toList = l := by simp
        rw [e] at hd
        have hne : l.drop p ≠ [] := fun e => by
          have := congrArg List.length e
          rw [List.length_drop] at this
          simp only [List.length_nil] at this
          omega
        have := Lib.decodeL_le (l.drop p) hne
        rw [hd, List.length_drop, HN.out] at this
        omega
      obtain ⟨r, hrr⟩ : ∃ r, (Utf8.decode ⟨l.toArray⟩ p).1 = r := ⟨_, rfl⟩
      obtain ⟨q, hq⟩ : ∃ q, (Utf8.decode ⟨l.toArray⟩ p).2 = q := ⟨_, rfl⟩
      rw [hrr, hq] at h1 d3 d4
      rw [hrr] at d2
      rw [hq] at d1 hdn
      have wq : IntKind.i64.wrap ((p : Int) + (q : Int)) = ((p + q : Nat) : Int) := by rw [IntKind.wrap_i64]; omega
      have H1 := Lib.hid h1
      have hr2 : runesP l = (out ++ [r]) ++ runesP (l.drop (p + q)) := by rw [hr.out, d3]; simp
      have Hr2 := Lib.hid hr2; have D4 := Lib.hid d4; have Hv := Lib.hid hv.out; have Hbw := Lib.hid hbw.out; have Hown := Lib.hid hown.out
      clear h1 hr2 d3 d4 hr hv hbw hown hrr hq hplen
      go_wp2_with fail
      refine H1.out.mono ?_
      rintro e w1 ⟨rfl, hz⟩
      obtain rfl : wo = w1 := hz.symm
      clear H1
      go_upto_region 7 with (at_builtin; refine wpList_app _ rfl runeE rfl rfl (Hown.out.alloc _) rfl (row_new wo _ [_]) (by simp [Value.oneCell']) (by first | omega | (simp; omega)) (by simp; omega) ?_; intro v8 w8 own8 hg8 hb8 hx8)
      have hb9 : Below w.heap.size w w8 := (Hbw.out.alloc hso _).trans hb8
      have O8 := Lib.hid own8; have B9 := Lib.hid hb9
      clear own8 hg8 hb8 hx8 hb9
      have hcase : (q = 1 ∧ r = 65533) ∨ (q = 1 ∧ r ≠ 65533) ∨ q ≠ 1 := by omega
      rcases hcase with ⟨rfl, rfl⟩ | ⟨rfl, hr3⟩ | hq1
      · have hv2 : Lib.validD l = (false && Lib.validD (l.drop (p + 1))) := by rw [Hv.out, D4.out, if_pos ⟨rfl, rfl⟩]; simp
        have HV2 := Lib.hid hv2
        clear hv2
        go_wp2
        go_roundw
        case rel => exact ⟨p + 1, false, out ++ [65533], hdn, by first | rfl | go_num, rfl, Hr2, HV2, Lib.hid (by rw [List.length_append, Hn3.out, List.map_append]; exact O8.out), B9, by rw [List.length_append, Hn3.out]; show n3 + 1 ≤ _; omega⟩
        case measure => simp [intOf]; omega
      · have zr : ¬ (r : Int) = 65533 := by omega
        have hv2 : Lib.validD l = (ov && Lib.validD (l.drop (p + 1))) := by rw [Hv.out, D4.out, if_neg (fun h => hr3 h.1)]
        have HV2 := Lib.hid hv2
        clear hv2 hr3
        go_wp2
        go_roundw
        case rel => exact ⟨p + 1, ov, out ++ [r], hdn, by first | rfl | go_num, rfl, Hr2, HV2, Lib.hid (by rw [List.length_append, Hn3.out, List.map_append]; exact O8.out), B9, by rw [List.length_append, Hn3.out]; show n3 + 1 ≤ _; omega⟩
        case measure => simp [intOf]; omega
      · have zq : ¬ (q : Int) = 1 := by omega
        have hv2 : Lib.validD l = (ov && Lib.validD (l.drop (p + q))) := by rw [Hv.out, D4.out, if_neg (fun h => hq1 h.2)]
        have HV2 := Lib.hid hv2
        clear hv2 hq1
        go_wp2
        go_roundw
        case rel => exact ⟨p + q, ov, out ++ [r], hdn, by first | rfl | go_num, rfl, Hr2, HV2, Lib.hid (by rw [List.length_append, Hn3.out, List.map_append]; exact O8.out), B9, by rw [List.length_append, Hn3.out]; show n3 + 1 ≤ _; omega⟩
        case measure => simp [intOf]; omega
    · obtain rfl : p = N := by omega
      have z1 : ¬ (p : Int) < (p : Int) := by omega
      have hdr : l.drop p = [] := List.drop_eq_nil_of_le (by rw [HN.out]; exact Nat.le_refl _)
      have hr1 := hr.out
      have hv1 := hv.out
      rw [hdr, runes_nil, List.append_nil] at hr1
      rw [hdr, Lib.validD_nil, Bool.and_true] at hv1
      have HO := Lib.hid hown.out; have HB := Lib.hid hbw.out; have HR := Lib.hid hr1; have HVv := Lib.hid hv1
      clear hr1 hv1 hr hv hdr hown hbw
      go_wp2_with fail
      go_ret2
      exact ⟨_, by rw [HVv.out]; rfl, by rw [HR.out, Hn3.out]; exact HO.out, HB.out⟩
end Go.Proofs.YtmcacicopgckmaaGreatDoor

