import Derived.Test.YtmcacicopgckmaaGreatDoorLn41
import Derived.Test.YtmcacicopgckmaaGreatDoorLn21
/-! text: runs -/
namespace Go.Proofs.YtmcacicopgckmaaGreatDoor
open Go.RowKit Garner
/-- where the loop over a text's runes stands -/
structure TxtS (w0 wr : World) (K : Nat) (l : Bs) (its : List (Nat × Nat)) (pos k : Nat) (v : Value) (ds : List RunD) (ob : Bool) : Prop where
  it : wr.heap[K]? = some (.stringIter ⟨l.toArray⟩ pos)
  at_ : ItAt l its pos k
  eq : runsAt (its.take k) = (ds.map (·.p), ob)
  rows : RunsD w0.heap.size wr v ds
  low : Below w0.heap.size w0 wr
  ne : ob = true → ds ≠ []
theorem TxtS.few {w0 wr : World} {K : Nat} {l : Bs} {its : List (Nat × Nat)} {pos k : Nat} {v : Value} {ds : List RunD} {ob : Bool} (h : TxtS w0 wr K l its pos k v ds ob) (hi : itemsOf 0 l = its) : ds.length ≤ l.length := by
  have h1 := runsAt_len (its.take k)
  rw [h.eq, List.length_map, List.length_take] at h1
  have h2 := itemsGo_len l.length 0 l (Nat.le_refl _)
  have h3 : (itemsOf 0 l).length ≤ l.length := h2
  rw [hi] at h3
  omega
set_option maxRecDepth 100000 in
set_option maxHeartbeats 32000000 in
theorem vRuns (S : ByteArray) (l : Bs) (hS : S = ⟨l.toArray⟩) (w : World) (hl : l.length ≤ 1000000000000) :
    Calls Tryz.prog 60 #[.string S] w fun e w' => ∃ v ds, e = .returned v ∧ ds.map (·.p) = runsT l ∧ RunsD w.heap.size w' v ds ∧ Below w.heap.size w w' ∧ ds.length ≤ l.length := by
  have hsz := str_size l
  obtain ⟨its, hits⟩ : ∃ its, itemsOf 0 l = its := ⟨_, rfl⟩
  have HS := Lib.hid hS; have Hsz := Lib.hid hsz; have Hits := Lib.hid hits
  clear hS hsz hits
  go_enter Tryz.func60, Tryz.ntmps60
  go_wp2
  go_loopw [3, 4] (fun v b wr => ∃ (pos k : Nat) (vv : Value) (ds : List RunD) (ob : Bool), vv = v ∧ b = .bool ob ∧ Hid (TxtS w wr w.heap.size l its pos k vv ds ob)) (fun _ _ wr => l.length - wr.iterPos w.heap.size)
  case atStart =>
    refine ⟨0, 0, _, [], false, rfl, rfl, Lib.hid ⟨?_, ?_, rfl, RunsD.nil _ _, (Below.refl _ w).alloc (Nat.le_refl _) _, fun h => (by cases h)⟩⟩
    · rw [← HS.out]; exact World.iter_heap w S 0
    · rw [← Hits.out]; exact ItAt.start l
  case round =>
    obtain ⟨pos, k, v, ds, ob, rfl, rfl, hst⟩ := hrel
    have hit := hst.out.it
    have hsz := Hsz.out
    rw [← HS.out] at hit hsz
    by_cases hpos : pos < l.length
    · obtain ⟨r, q', hde, hq1, hr, -⟩ := iter_next l pos hpos
      have hnx : ∀ ty, (Instr.next (.pointer (some ⟨w.heap.size, 0, none⟩)) true ty).run Tryz.prog wr = _ := fun ty => Lib.run_next_any_at wr w.heap.size S pos ty hit (by omega)
      rw [HS.out, hde] at hnx
      obtain ⟨Y, hY⟩ : ∃ Y, Y = wr.iterAt w.heap.size ⟨l.toArray⟩ (pos + q') := ⟨_, rfl⟩
      rw [← hY] at hnx
      have hitY : Y.heap[w.heap.size]? = some (.stringIter ⟨l.toArray⟩ (pos + q')) := by rw [hY]; exact Lib.iterAt_heap _ _ _ _ _ hst.out.it
      have hlow : Below w.heap.size w Y := by rw [hY]; exact Lib.below_iterAt hst.out.low (Nat.le_refl _) _ _
      have hrowY : RunsD w.heap.size Y v ds := by rw [hY]; exact hst.out.rows.iterAt hst.out.it
      obtain ⟨hik, hat⟩ := hst.out.at_.next hpos hde
      have heq : runsAt (its.take (k + 1)) = runStep (ds.map (·.p), ob) (pos, r) := by rw [take_snoc hik, runsAt_snoc, hst.out.eq]
      have hfew := hst.out.few Hits.out
      have hne := hst.out.ne
      have hit1 : wr.iterPos w.heap.size = pos := by simp only [World.iterPos, hst.out.it]
      have hwd := vWord r Y hr
      obtain ⟨wb, hwb⟩ : ∃ wb, wordR r = wb := ⟨_, rfl⟩
      rw [hwb] at hwd
      have HWD := Lib.hid hwd; have HIt := Lib.hid hitY; have HLow := Lib.hid hlow; have HRow := Lib.hid hrowY; have HAt := Lib.hid hat; have HEq := Lib.hid heq; have HNe := Lib.hid hne; have HIt1 := Lib.hid hit1; have Hwb := Lib.hid hwb
      clear hwd hitY hlow hrowY hat heq hne hit1 hwb hik hde hst hit hsz hY
      cases wb with
      | false =>
        have he2 : runsAt (its.take (k + 1)) = (ds.map (·.p), false) := by rw [HEq.out]; unfold runStep; rw [Hwb.out]; rfl
        have HE2 := Lib.hid he2
        clear he2
        go_wp2_with (with_reducible refine HWD.out.mono ?_; rintro e wy ⟨rfl, hz⟩; obtain rfl : Y = wy := hz.symm)
        go_roundw
        case rel => exact ⟨pos + q', k + 1, _, ds, false, rfl, rfl, Lib.hid ⟨HIt.out, HAt.out, HE2.out, HRow.out, HLow.out, fun h => (by cases h)⟩⟩
        case measure =>
          rw [HIt1.out]
          simp only [World.iterPos, HIt.out]
          omega
      | true =>
        cases ob with
        | true =>
          obtain ⟨ds0, d, hdd⟩ : ∃ ds0 d, ds = ds0 ++ [d] := by
            rcases List.eq_nil_or_concat ds with h | ⟨a, b, h⟩
            · exact absurd h (HNe.out rfl)
            · exact ⟨a, b, by rw [h, List.concat_eq_append]⟩
          subst hdd
          obtain ⟨m, hm⟩ : ∃ m, ds0.length = m := ⟨_, rfl⟩
          have hml : m + 1 ≤ l.length := by rw [List.length_append, hm] at hfew; simpa using hfew
          have hst2 : runsAt (its.take (k + 1)) = (ds0.map (·.p) ++ [bumpT (pos, r) d.p], true) := by
            rw [HEq.out]; unfold runStep; rw [if_pos Hwb.out, if_pos rfl, List.map_append]
            exact congrArg (fun x => (x, true)) (lastT_snoc _ _ _)
          have Hm := Lib.hid hm; have Hstep := Lib.hid hst2
          clear hst2 hm hfew
          go_upto_region 11 with (with_reducible refine HWD.out.mono ?_; rintro e wy ⟨rfl, hz⟩; obtain rfl : Y = wy := hz.symm)
          have HZ := HRow; have HZlow := HLow; have HItZ := HIt
          clear HWD HRow HLow HIt
          generalize Y = Z at HZ HZlow HItZ ⊢
          obtain ⟨gL, cap, ev, hgB, hgl, hcap, cw, ct, fw, ft⟩ := HZ.out.look
          subst ev
          rw [Hm.out] at cw ct fw ft hcap ⊢
          obtain ⟨n, hn⟩ : ∃ n, d.p.word.length = n := ⟨_, rfl⟩
          rw [hn] at cw
          have Hn := Lib.hid hn
          have hsZ := HZlow.out.size
          have wm1 : IntKind.i64.wrap ((m : Int) + 1 - 1) = (m : Int) := by rw [IntKind.wrap_i64]; omega
          have hes := enc_size r
          have hel := encR_len r
          obtain ⟨EN, hEN⟩ : ∃ EN, Utf8.encode (r : Int) = EN := ⟨_, rfl⟩
          rw [hEN] at hes
          obtain ⟨z, hz0⟩ : ∃ z, (encR r).length = z := ⟨_, rfl⟩
          rw [hz0] at hes hel
          have wt : IntKind.i64.wrap ((pos : Int) + (z : Int)) = ((pos + z : Nat) : Int) := by rw [IntKind.wrap_i64]; omega
          have Hz := Lib.hid hz0
          clear hn hz0
          by_cases h32 : n < 32
          · have z32 : (n : Int) < 32 := by omega
            go_upto_region 13 with fail
            have hdw := HZ.out.word d (by simp)
            have hdv : d.v = .slice d.A n d.c := by unfold RunD.v; rw [Hn.out]
            rw [hdv, Hn.out] at hdw
            have sS : Z.drew.cell? ⟨gL, m * 3, none⟩ = some (.slice d.A n d.c) := cw
            clear cw ct fw ft
            refine wp_region_N (fun w' => w'.cell? ⟨gL, m * 3, none⟩ = some (.slice d.A n d.c)) 11 (by kernel_rfl) ?_
            apply wpAnyN_takeL 0 (by kernel_rfl) rfl (fun _ _ _ h => h) (by kernel_rfl) sS
            · intro w' hS'
              go_simp; exact ⟨rfl, rfl⟩
            (try simp only [Act.put]); (try simp only [List.setIfInBounds_toArray]); (try simp only [List.set])
            apply wpAnyN_takeL 1 (by kernel_rfl) rfl (fun _ _ _ h => h) (by kernel_rfl) sS
            · intro w' hS'
              go_simp; exact ⟨rfl, rfl⟩
            (try simp only [Act.put]); (try simp only [List.setIfInBounds_toArray]); (try simp only [List.set])
            apply wpAnyN_takeL 2 (by kernel_rfl) rfl (fun _ _ _ h => h) (by kernel_rfl) sS
            · intro w' hS'
              go_simp; exact ⟨rfl, rfl⟩
            (try simp only [Act.put]); (try simp only [List.setIfInBounds_toArray]); (try simp only [List.set])
            apply wpAnyN_takeL 3 (by kernel_rfl) rfl (fun _ _ _ h => h) (by kernel_rfl) sS
            · intro w' hS'
              go_simp; exact ⟨rfl, rfl⟩
            (try simp only [Act.put]); (try simp only [List.setIfInBounds_toArray]); (try simp only [List.set])
            apply wpAnyN_takeL 4 (v := (.slice d.A n d.c)) (by kernel_rfl) rfl (fun _ _ _ h => h) (by kernel_rfl) sS
            · intro w' hS'
              (have hk := hS'; go_simp; exact ⟨rfl, rfl⟩)
            (try simp only [Act.put]); (try simp only [List.setIfInBounds_toArray]); (try simp only [List.set])
            apply wpAnyN_takeL 5 (by kernel_rfl) rfl (fun _ _ _ h => h) (by kernel_rfl) sS
            · intro w' hS'
              go_simp; exact ⟨rfl, rfl⟩
            (try simp only [Act.put]); (try simp only [List.setIfInBounds_toArray]); (try simp only [List.set])
            apply wpAnyN_takeL 6 (v := (.int .i32 (smallR r : Nat))) (by kernel_rfl) rfl (fun _ _ _ h => h) (by kernel_rfl) sS
            · intro w' hS'
              (have hst := vSmall r w' hr; go_simp; exact ⟨rfl, hst⟩)
            (try simp only [Act.put]); (try simp only [List.setIfInBounds_toArray]); (try simp only [List.set])
            refine wpAnyN_runL 7 (by kernel_rfl) rfl (by kernel_rfl) (fun K hK => ?_)
            go_simp
            obtain ⟨X, hX⟩ : ∃ X, X = (Z.alloc (.cells #[.int .i32 (smallR r : Nat)] 21)).drew := ⟨_, rfl⟩
            rw [← hX]
            have hZX : Below Z.heap.size Z X := by rw [hX]; exact ((Below.refl _ _).alloc (Nat.le_refl _) _).drew
            have oX := own_below hdw hZX
            have hX1 := HZ.out.below hZX
            have xrow : Row X (Z.heap.size + 1) 1 (some ⟨Z.heap.size, 0, none⟩) 1 [rv (smallR r)] := by
              rw [hX]; exact (row_new Z 21 [rv (smallR r)]).drew
            have hwX := HZlow.out.trans (hZX.mono hsZ)
            have cX : X.cell? ⟨gL, m * 3, none⟩ = some (.slice d.A n d.c) := by rw [hX]; exact (World.cell?_alloc_lt _ _ _ hgl).trans sS
            have hsX := hwX.size
            refine hK _ _ (fun _ => cX) ?_
            clear hK K
            (try simp only [Act.put]); (try simp only [List.setIfInBounds_toArray]); (try simp only [List.set])
            refine wpAnyN_runL 8 (by kernel_rfl) rfl (by kernel_rfl) (fun K hK => ?_)
            refine wp_app X runeE rfl rfl oX rfl xrow (by simp [rv, Value.oneCell']) (by omega) (by omega) ?_
            intro v8 w8 own8 hg8 hb8 hv8
            obtain ⟨A8, c8, rfl, -⟩ := own_form own8
            have own8' : w8.ownsRow w.heap.size 21 1 (.slice A8 (n + 1) c8) (n + 1) ((d.p.word ++ [smallR r]).map rv) := by rw [List.map_append]; exact own8
            have hput := hX1.put (A' := A8) (n' := n + 1) (c' := c8) (word' := d.p.word ++ [smallR r]) (by rw [hdv]; exact hg8) own8' (by rw [List.length_append, Hn.out]; rfl) (by
              rw [hdv]
              rcases hv8 with h | h
              · exact .inl h
              · exact .inr ⟨_, h, Nat.le_refl _⟩)
            have hown8 : w8.cell? ⟨gL, m * 3, none⟩ = some (.slice d.A n d.c) ∧ w8.frozen? ⟨gL, m * 3, none⟩ = false := by
              have hne : some gL ≠ (Value.slice d.A n d.c).ownBlock := fun e => by
                have h1 := own_own oX hX1.own (by decide) gL rfl
                rw [← e] at h1
                simp at h1
              constructor
              · rw [World.cell?_of_block (w := X) (a := ⟨gL, m * 3, none⟩) (hg8.block gL (by have := hZX.size; omega) hne)]; exact cX
              · obtain ⟨gL2, cap2, e2, -, -, -, -, -, fr, -⟩ := hX1.look
                rw [Hm.out] at fr
                cases e2
                rw [← fr]
                unfold World.frozen?
                rw [hg8.block gL (by have := hZX.size; omega) hne]
            have cb := hown8.1
            have fb := hown8.2
            have hw8 : Below w.heap.size w w8 := hwX.trans hb8
            have hit8 : w8.heap[w.heap.size]? = some (.stringIter ⟨l.toArray⟩ (pos + q')) := by
              have h1 : X.heap[w.heap.size]? = some (.stringIter ⟨l.toArray⟩ (pos + q')) := by rw [hZX.block _ (Array.getElem?_eq_some_iff.1 HItZ.out).1]; exact HItZ.out
              have hne : some w.heap.size ≠ (Value.slice d.A n d.c).ownBlock := fun e => by
                obtain ⟨cs, t, fz, h2, -⟩ := own_typed oX w.heap.size e.symm
                rw [h1] at h2
                cases h2
              rw [hg8.block _ (Array.getElem?_eq_some_iff.1 h1).1 hne]
              exact h1
            have HPut := Lib.hid hput; have HW8 := Lib.hid hw8; have HIt8 := Lib.hid hit8
            clear hput hw8 hit8 own8 own8' hg8 hb8 hv8 oX hX1 xrow hwX cX hZX hX hdw hdv hown8 sS
            refine hK _ _ (fun _ => cb) ?_
            clear hK K
            (try simp only [Act.put]); (try simp only [List.setIfInBounds_toArray]); (try simp only [List.set])
            refine wpAnyN_runL 9 (by kernel_rfl) rfl (by kernel_rfl) (fun K hK => ?_)
            go_simp
            refine hK _ _ (fun _ => cb) ?_
            clear hK K
            (try simp only [Act.put]); (try simp only [List.setIfInBounds_toArray]); (try simp only [List.set])
            refine wpAnyN_runL 10 (by kernel_rfl) rfl (by kernel_rfl) (fun K hK => ?_)
            go_simp
            refine hK _ _ (fun _ => cb) ?_
            clear hK K
            (try simp only [Act.put]); (try simp only [List.setIfInBounds_toArray]); (try simp only [List.set])
            refine wpAnyN_runL 11 (by kernel_rfl) rfl (by kernel_rfl) (fun K hK => ?_)
            go_simp
            refine hK _ _ (fun h => absurd rfl h) ?_
            clear hK K cb fb
            (try simp only [Act.put])
            refine wpAnyN_done (by kernel_rfl) ?_ _
            obtain ⟨V, hV⟩ : ∃ V, V = w8.setCell ⟨gL, m * 3, none⟩ (.slice A8 (n + 1) c8) := ⟨_, rfl⟩
            have hb : bumpT (pos, r) d.p = ⟨d.p.word ++ [smallR r], d.p.fr, pos + z⟩ := by unfold bumpT; rw [Hn.out, if_pos h32, Hz.out]
            have hput := HPut.out
            rw [Hm.out, ← hV, ← Hm.out] at hput
            have hgne : gL ≠ w.heap.size := fun e => by
              have h1 := HIt8.out
              rw [← e] at h1
              obtain ⟨cs, t, fz, h2, -⟩ := own_typed hput.own gL rfl
              have h3 : w8.heap[gL]? = some (.stringIter ⟨l.toArray⟩ (pos + q')) := h1
              rw [hV] at h2
              simp [World.setCell, Array.getElem?_modify, h3] at h2
            have hVlow : Below w.heap.size w V := by rw [hV]; exact HW8.out.setCell (p := ⟨gL, m * 3, none⟩) hgB _
            have hVit : V.heap[w.heap.size]? = some (.stringIter ⟨l.toArray⟩ (pos + q')) := by
              rw [hV, Below.heap_setCell _ _ _ _ (show w.heap.size ≠ gL from fun e => hgne e.symm)]; exact HIt8.out
            obtain ⟨gL3, cap3, e3, -, -, -, -, ct3, -, ft3⟩ := hput.look
            cases e3
            rw [Hm.out] at ct3 ft3
            have hend := hput.end_ (t := pos + z)
            rw [Hm.out] at hend
            have hfin : TxtS w (V.setCell ⟨gL, m * 3 + 2, none⟩ (.int .i64 (pos + z : Nat))) w.heap.size l its (pos + q') (k + 1) (.slice (some ⟨gL, 0, none⟩) (m + 1) cap) (ds0 ++ [⟨⟨d.p.word ++ [smallR r], d.p.fr, pos + z⟩, A8, c8⟩]) true := by
              refine ⟨?_, HAt.out, ?_, hend, hVlow.setCell (p := ⟨gL, m * 3 + 2, none⟩) hgB _, fun _ => by simp⟩
              · rw [Below.heap_setCell _ _ _ _ (show w.heap.size ≠ gL from fun e => hgne e.symm)]; exact hVit
              · rw [Hstep.out, hb]; simp
            have HFin := Lib.hid hfin
            rw [← hV]
            clear hfin hend hput hVlow hVit hgne hV HPut HW8 HIt8 HZ HZlow HItZ
            go_wp2
            go_roundw
            case rel => exact ⟨pos + q', k + 1, _, _, true, rfl, rfl, HFin⟩
            case measure =>
              rw [HIt1.out]
              have hp2 : World.iterPos (V.setCell ⟨gL, m * 3 + 2, none⟩ (.int .i64 (pos + z : Nat))) w.heap.size = pos + q' := by simp only [World.iterPos, HFin.out.it]
              show l.length - World.iterPos (V.setCell ⟨gL, m * 3 + 2, none⟩ (.int .i64 (pos + z : Nat))) w.heap.size < l.length - pos
              rw [hp2]
              omega
          · have z32 : ¬ (n : Int) < 32 := by omega
            have hb : bumpT (pos, r) d.p = ⟨d.p.word, d.p.fr, pos + z⟩ := by unfold bumpT; rw [Hn.out, if_neg h32, Hz.out]
            have hput := HZ.out
            have hgne : gL ≠ w.heap.size := fun e => by
              have h1 := HItZ.out
              rw [← e] at h1
              obtain ⟨cs, t, fz, h2, -⟩ := own_typed hput.own gL rfl
              rw [h1] at h2
              cases h2
            have hend := hput.end_ (t := pos + z)
            rw [Hm.out] at hend
            have hfin : TxtS w (Z.setCell ⟨gL, m * 3 + 2, none⟩ (.int .i64 (pos + z : Nat))) w.heap.size l its (pos + q') (k + 1) (.slice (some ⟨gL, 0, none⟩) (m + 1) cap) (ds0 ++ [⟨⟨d.p.word, d.p.fr, pos + z⟩, d.A, d.c⟩]) true := by
              refine ⟨?_, HAt.out, ?_, hend, HZlow.out.setCell (p := ⟨gL, m * 3 + 2, none⟩) hgB _, fun _ => by simp⟩
              · rw [Below.heap_setCell _ _ _ _ (show w.heap.size ≠ gL from fun e => hgne e.symm)]; exact HItZ.out
              · rw [Hstep.out, hb]; simp
            have HFin := Lib.hid hfin
            clear hfin hend hput hgne HZ HZlow HItZ
            go_wp2
            go_roundw
            case rel => exact ⟨pos + q', k + 1, _, _, true, rfl, rfl, HFin⟩
            case measure =>
              rw [HIt1.out]
              have hp2 : World.iterPos (Z.setCell ⟨gL, m * 3 + 2, none⟩ (.int .i64 (pos + z : Nat))) w.heap.size = pos + q' := by simp only [World.iterPos, HFin.out.it]
              show l.length - World.iterPos (Z.setCell ⟨gL, m * 3 + 2, none⟩ (.int .i64 (pos + z : Nat))) w.heap.size < l.length - pos
              rw [hp2]
              omega
        | false =>
          obtain ⟨m, hm⟩ : ∃ m, ds.length = m := ⟨_, rfl⟩
          have hml : m + 1 ≤ l.length + 1 := by omega
          have hst2 : runsAt (its.take (k + 1)) = (ds.map (·.p) ++ [bumpT (pos, r) ⟨[], pos, 0⟩], true) := by
            rw [HEq.out]; unfold runStep; rw [if_pos Hwb.out, if_neg (by simp)]
            exact congrArg (fun x => (x, true)) (lastT_snoc _ _ _)
          have hyl := HLow.out.size
          obtain ⟨Av, cv, hvv, -⟩ := own_form HRow.out.own
          subst hvv
          rw [hm] at ⊢
          have hro := HRow.out.own
          rw [hm] at hro
          have Hro := Lib.hid hro
          have Hm := Lib.hid hm; have Hstep := Lib.hid hst2
          clear hst2 hm hfew hro
          go_upto_region 10 with (first | (with_reducible refine HWD.out.mono ?_; rintro e wy ⟨rfl, hz⟩; obtain rfl : Y = wy := hz.symm) | (at_builtin; refine wpList_app _ rfl runE rfl rfl (Hro.out.alloc _) rfl (row_newN Y _ 3 1 [_, _, _] rfl) (by simp [Value.oneCell']) (by first | omega | (simp; done) | (simp; omega)) (by simp; omega) ?_; intro v6 Z own6 hg6 hb6 hx6))
          have hbA : Below Y.heap.size Y (Y.alloc (.cells #[.slice none 0 0, .int .i64 pos, .int .i64 0] 102)) := (Below.refl _ _).alloc (Nat.le_refl _) _
          have hpu := (HRow.out.below hbA).push (p := ⟨[], pos, 0⟩) (by rw [Hm.out]; exact own6) (by rw [Hm.out]; exact hg6) rfl
          have hzl : Below w.heap.size w Z := (HLow.out.trans (hbA.mono hyl)).trans hb6
          have hzit : Z.heap[w.heap.size]? = some (.stringIter ⟨l.toArray⟩ (pos + q')) := by
            have h1 : (Y.alloc (.cells #[.slice none 0 0, .int .i64 pos, .int .i64 0] 102)).heap[w.heap.size]? = some (.stringIter ⟨l.toArray⟩ (pos + q')) := by rw [hbA.block _ (Array.getElem?_eq_some_iff.1 HIt.out).1]; exact HIt.out
            have hne : some w.heap.size ≠ (Value.slice Av m cv).ownBlock := fun e => by
              obtain ⟨cs, t, fz, h2, -⟩ := own_typed (own_below Hro.out hbA) w.heap.size e.symm
              rw [h1] at h2
              cases h2
            rw [hg6.block _ (Array.getElem?_eq_some_iff.1 h1).1 hne]
            exact h1
          obtain ⟨ds0, hd0⟩ : ∃ ds0, ds = ds0 := ⟨_, rfl⟩
          obtain ⟨d, hd⟩ : ∃ d : RunD, (⟨⟨[], pos, 0⟩, none, 0⟩ : RunD) = d := ⟨_, rfl⟩
          have hdp : (⟨[], pos, 0⟩ : RunP) = d.p := by rw [← hd]
          rw [hd, hd0] at hpu
          rw [hdp, hd0] at Hstep
          rw [hd0] at Hm
          have HZ := Lib.hid hpu; have HZlow := Lib.hid hzl; have HItZ := Lib.hid hzit
          clear hpu hzl hzit hbA own6 hg6 hb6 hx6 hd hdp HRow HLow HIt Hro HNe HEq hd0
          obtain ⟨gL, cap, ev, hgB, hgl, hcap, cw, ct, fw, ft⟩ := HZ.out.look
          subst ev
          rw [Hm.out] at cw ct fw ft hcap ⊢
          obtain ⟨n, hn⟩ : ∃ n, d.p.word.length = n := ⟨_, rfl⟩
          rw [hn] at cw
          have Hn := Lib.hid hn
          have hsZ := HZlow.out.size
          have wm1 : IntKind.i64.wrap ((m : Int) + 1 - 1) = (m : Int) := by rw [IntKind.wrap_i64]; omega
          have hes := enc_size r
          have hel := encR_len r
          obtain ⟨EN, hEN⟩ : ∃ EN, Utf8.encode (r : Int) = EN := ⟨_, rfl⟩
          rw [hEN] at hes
          obtain ⟨z, hz0⟩ : ∃ z, (encR r).length = z := ⟨_, rfl⟩
          rw [hz0] at hes hel
          have wt : IntKind.i64.wrap ((pos : Int) + (z : Int)) = ((pos + z : Nat) : Int) := by rw [IntKind.wrap_i64]; omega
          have Hz := Lib.hid hz0
          clear hn hz0
          by_cases h32 : n < 32
          · have z32 : (n : Int) < 32 := by omega
            go_upto_region 13 with fail
            have hdw := HZ.out.word d (by simp)
            have hdv : d.v = .slice d.A n d.c := by unfold RunD.v; rw [Hn.out]
            rw [hdv, Hn.out] at hdw
            have sS : Z.drew.cell? ⟨gL, m * 3, none⟩ = some (.slice d.A n d.c) := cw
            clear cw ct fw ft
            refine wp_region_N (fun w' => w'.cell? ⟨gL, m * 3, none⟩ = some (.slice d.A n d.c)) 11 (by kernel_rfl) ?_
            apply wpAnyN_takeL 0 (by kernel_rfl) rfl (fun _ _ _ h => h) (by kernel_rfl) sS
            · intro w' hS'
              go_simp; exact ⟨rfl, rfl⟩
            (try simp only [Act.put]); (try simp only [List.setIfInBounds_toArray]); (try simp only [List.set])
            apply wpAnyN_takeL 1 (by kernel_rfl) rfl (fun _ _ _ h => h) (by kernel_rfl) sS
            · intro w' hS'
              go_simp; exact ⟨rfl, rfl⟩
            (try simp only [Act.put]); (try simp only [List.setIfInBounds_toArray]); (try simp only [List.set])
            apply wpAnyN_takeL 2 (by kernel_rfl) rfl (fun _ _ _ h => h) (by kernel_rfl) sS
            · intro w' hS'
              go_simp; exact ⟨rfl, rfl⟩
            (try simp only [Act.put]); (try simp only [List.setIfInBounds_toArray]); (try simp only [List.set])
            apply wpAnyN_takeL 3 (by kernel_rfl) rfl (fun _ _ _ h => h) (by kernel_rfl) sS
            · intro w' hS'
              go_simp; exact ⟨rfl, rfl⟩
            (try simp only [Act.put]); (try simp only [List.setIfInBounds_toArray]); (try simp only [List.set])
            apply wpAnyN_takeL 4 (v := (.slice d.A n d.c)) (by kernel_rfl) rfl (fun _ _ _ h => h) (by kernel_rfl) sS
            · intro w' hS'
              (have hk := hS'; go_simp; exact ⟨rfl, rfl⟩)
            (try simp only [Act.put]); (try simp only [List.setIfInBounds_toArray]); (try simp only [List.set])
            apply wpAnyN_takeL 5 (by kernel_rfl) rfl (fun _ _ _ h => h) (by kernel_rfl) sS
            · intro w' hS'
              go_simp; exact ⟨rfl, rfl⟩
            (try simp only [Act.put]); (try simp only [List.setIfInBounds_toArray]); (try simp only [List.set])
            apply wpAnyN_takeL 6 (v := (.int .i32 (smallR r : Nat))) (by kernel_rfl) rfl (fun _ _ _ h => h) (by kernel_rfl) sS
            · intro w' hS'
              (have hst := vSmall r w' hr; go_simp; exact ⟨rfl, hst⟩)
            (try simp only [Act.put]); (try simp only [List.setIfInBounds_toArray]); (try simp only [List.set])
            refine wpAnyN_runL 7 (by kernel_rfl) rfl (by kernel_rfl) (fun K hK => ?_)
            go_simp
            obtain ⟨X, hX⟩ : ∃ X, X = (Z.alloc (.cells #[.int .i32 (smallR r : Nat)] 21)).drew := ⟨_, rfl⟩
            rw [← hX]
            have hZX : Below Z.heap.size Z X := by rw [hX]; exact ((Below.refl _ _).alloc (Nat.le_refl _) _).drew
            have oX := own_below hdw hZX
            have hX1 := HZ.out.below hZX
            have xrow : Row X (Z.heap.size + 1) 1 (some ⟨Z.heap.size, 0, none⟩) 1 [rv (smallR r)] := by
              rw [hX]; exact (row_new Z 21 [rv (smallR r)]).drew
            have hwX := HZlow.out.trans (hZX.mono hsZ)
            have cX : X.cell? ⟨gL, m * 3, none⟩ = some (.slice d.A n d.c) := by rw [hX]; exact (World.cell?_alloc_lt _ _ _ hgl).trans sS
            have hsX := hwX.size
            refine hK _ _ (fun _ => cX) ?_
            clear hK K
            (try simp only [Act.put]); (try simp only [List.setIfInBounds_toArray]); (try simp only [List.set])
            refine wpAnyN_runL 8 (by kernel_rfl) rfl (by kernel_rfl) (fun K hK => ?_)
            refine wp_app X runeE rfl rfl oX rfl xrow (by simp [rv, Value.oneCell']) (by omega) (by omega) ?_
            intro v8 w8 own8 hg8 hb8 hv8
            obtain ⟨A8, c8, rfl, -⟩ := own_form own8
            have own8' : w8.ownsRow w.heap.size 21 1 (.slice A8 (n + 1) c8) (n + 1) ((d.p.word ++ [smallR r]).map rv) := by rw [List.map_append]; exact own8
            have hput := hX1.put (A' := A8) (n' := n + 1) (c' := c8) (word' := d.p.word ++ [smallR r]) (by rw [hdv]; exact hg8) own8' (by rw [List.length_append, Hn.out]; rfl) (by
              rw [hdv]
              rcases hv8 with h | h
              · exact .inl h
              · exact .inr ⟨_, h, Nat.le_refl _⟩)
            have hown8 : w8.cell? ⟨gL, m * 3, none⟩ = some (.slice d.A n d.c) ∧ w8.frozen? ⟨gL, m * 3, none⟩ = false := by
              have hne : some gL ≠ (Value.slice d.A n d.c).ownBlock := fun e => by
                have h1 := own_own oX hX1.own (by decide) gL rfl
                rw [← e] at h1
                simp at h1
              constructor
              · rw [World.cell?_of_block (w := X) (a := ⟨gL, m * 3, none⟩) (hg8.block gL (by have := hZX.size; omega) hne)]; exact cX
              · obtain ⟨gL2, cap2, e2, -, -, -, -, -, fr, -⟩ := hX1.look
                rw [Hm.out] at fr
                cases e2
                rw [← fr]
                unfold World.frozen?
                rw [hg8.block gL (by have := hZX.size; omega) hne]
            have cb := hown8.1
            have fb := hown8.2
            have hw8 : Below w.heap.size w w8 := hwX.trans hb8
            have hit8 : w8.heap[w.heap.size]? = some (.stringIter ⟨l.toArray⟩ (pos + q')) := by
              have h1 : X.heap[w.heap.size]? = some (.stringIter ⟨l.toArray⟩ (pos + q')) := by rw [hZX.block _ (Array.getElem?_eq_some_iff.1 HItZ.out).1]; exact HItZ.out
              have hne : some w.heap.size ≠ (Value.slice d.A n d.c).ownBlock := fun e => by
                obtain ⟨cs, t, fz, h2, -⟩ := own_typed oX w.heap.size e.symm
                rw [h1] at h2
                cases h2
              rw [hg8.block _ (Array.getElem?_eq_some_iff.1 h1).1 hne]
              exact h1
            have HPut := Lib.hid hput; have HW8 := Lib.hid hw8; have HIt8 := Lib.hid hit8
            clear hput hw8 hit8 own8 own8' hg8 hb8 hv8 oX hX1 xrow hwX cX hZX hX hdw hdv hown8 sS
            refine hK _ _ (fun _ => cb) ?_
            clear hK K
            (try simp only [Act.put]); (try simp only [List.setIfInBounds_toArray]); (try simp only [List.set])
            refine wpAnyN_runL 9 (by kernel_rfl) rfl (by kernel_rfl) (fun K hK => ?_)
            go_simp
            refine hK _ _ (fun _ => cb) ?_
            clear hK K
            (try simp only [Act.put]); (try simp only [List.setIfInBounds_toArray]); (try simp only [List.set])
            refine wpAnyN_runL 10 (by kernel_rfl) rfl (by kernel_rfl) (fun K hK => ?_)
            go_simp
            refine hK _ _ (fun _ => cb) ?_
            clear hK K
            (try simp only [Act.put]); (try simp only [List.setIfInBounds_toArray]); (try simp only [List.set])
            refine wpAnyN_runL 11 (by kernel_rfl) rfl (by kernel_rfl) (fun K hK => ?_)
            go_simp
            refine hK _ _ (fun h => absurd rfl h) ?_
            clear hK K cb fb
            (try simp only [Act.put])
            refine wpAnyN_done (by kernel_rfl) ?_ _
            obtain ⟨V, hV⟩ : ∃ V, V = w8.setCell ⟨gL, m * 3, none⟩ (.slice A8 (n + 1) c8) := ⟨_, rfl⟩
            have hb : bumpT (pos, r) d.p = ⟨d.p.word ++ [smallR r], d.p.fr, pos + z⟩ := by unfold bumpT; rw [Hn.out, if_pos h32, Hz.out]
            have hput := HPut.out
            rw [Hm.out, ← hV, ← Hm.out] at hput
            have hgne : gL ≠ w.heap.size := fun e => by
              have h1 := HIt8.out
              rw [← e] at h1
              obtain ⟨cs, t, fz, h2, -⟩ := own_typed hput.own gL rfl
              have h3 : w8.heap[gL]? = some (.stringIter ⟨l.toArray⟩ (pos + q')) := h1
              rw [hV] at h2
              simp [World.setCell, Array.getElem?_modify, h3] at h2
            have hVlow : Below w.heap.size w V := by rw [hV]; exact HW8.out.setCell (p := ⟨gL, m * 3, none⟩) hgB _
            have hVit : V.heap[w.heap.size]? = some (.stringIter ⟨l.toArray⟩ (pos + q')) := by
              rw [hV, Below.heap_setCell _ _ _ _ (show w.heap.size ≠ gL from fun e => hgne e.symm)]; exact HIt8.out
            obtain ⟨gL3, cap3, e3, -, -, -, -, ct3, -, ft3⟩ := hput.look
            cases e3
            rw [Hm.out] at ct3 ft3
            have hend := hput.end_ (t := pos + z)
            rw [Hm.out] at hend
            have hfin : TxtS w (V.setCell ⟨gL, m * 3 + 2, none⟩ (.int .i64 (pos + z : Nat))) w.heap.size l its (pos + q') (k + 1) (.slice (some ⟨gL, 0, none⟩) (m + 1) cap) (ds0 ++ [⟨⟨d.p.word ++ [smallR r], d.p.fr, pos + z⟩, A8, c8⟩]) true := by
              refine ⟨?_, HAt.out, ?_, hend, hVlow.setCell (p := ⟨gL, m * 3 + 2, none⟩) hgB _, fun _ => by simp⟩
              · rw [Below.heap_setCell _ _ _ _ (show w.heap.size ≠ gL from fun e => hgne e.symm)]; exact hVit
              · rw [Hstep.out, hb]; simp
            have HFin := Lib.hid hfin
            rw [← hV]
            clear hfin hend hput hVlow hVit hgne hV HPut HW8 HIt8 HZ HZlow HItZ
            go_wp2
            go_roundw
            case rel => exact ⟨pos + q', k + 1, _, _, true, rfl, rfl, HFin⟩
            case measure =>
              rw [HIt1.out]
              have hp2 : World.iterPos (V.setCell ⟨gL, m * 3 + 2, none⟩ (.int .i64 (pos + z : Nat))) w.heap.size = pos + q' := by simp only [World.iterPos, HFin.out.it]
              show l.length - World.iterPos (V.setCell ⟨gL, m * 3 + 2, none⟩ (.int .i64 (pos + z : Nat))) w.heap.size < l.length - pos
              rw [hp2]
              omega
          · have z32 : ¬ (n : Int) < 32 := by omega
            have hb : bumpT (pos, r) d.p = ⟨d.p.word, d.p.fr, pos + z⟩ := by unfold bumpT; rw [Hn.out, if_neg h32, Hz.out]
            have hput := HZ.out
            have hgne : gL ≠ w.heap.size := fun e => by
              have h1 := HItZ.out
              rw [← e] at h1
              obtain ⟨cs, t, fz, h2, -⟩ := own_typed hput.own gL rfl
              rw [h1] at h2
              cases h2
            have hend := hput.end_ (t := pos + z)
            rw [Hm.out] at hend
            have hfin : TxtS w (Z.setCell ⟨gL, m * 3 + 2, none⟩ (.int .i64 (pos + z : Nat))) w.heap.size l its (pos + q') (k + 1) (.slice (some ⟨gL, 0, none⟩) (m + 1) cap) (ds0 ++ [⟨⟨d.p.word, d.p.fr, pos + z⟩, d.A, d.c⟩]) true := by
              refine ⟨?_, HAt.out, ?_, hend, HZlow.out.setCell (p := ⟨gL, m * 3 + 2, none⟩) hgB _, fun _ => by simp⟩
              · rw [Below.heap_setCell _ _ _ _ (show w.heap.size ≠ gL from fun e => hgne e.symm)]; exact HItZ.out
              · rw [Hstep.out, hb]; simp
            have HFin := Lib.hid hfin
            clear hfin hend hput hgne HZ HZlow HItZ
            go_wp2
            go_roundw
            case rel => exact ⟨pos + q', k + 1, _, _, true, rfl, rfl, HFin⟩
            case measure =>
              rw [HIt1.out]
              have hp2 : World.iterPos (Z.setCell ⟨gL, m * 3 + 2, none⟩ (.int .i64 (pos + z : Nat))) w.heap.size = pos + q' := by simp only [World.iterPos, HFin.out.it]
              show l.length - World.iterPos (Z.setCell ⟨gL, m * 3 + 2, none⟩ (.int .i64 (pos + z : Nat))) w.heap.size < l.length - pos
              rw [hp2]
              omega
    · have hnx : ∀ ty, (Instr.next (.pointer (some ⟨w.heap.size, 0, none⟩)) true ty).run Tryz.prog wr = _ := fun ty => Lib.run_next_end_at wr w.heap.size S pos ty hit (by omega)
      have he := hst.out.eq
      rw [hst.out.at_.done hpos] at he
      have hds : ds.map (·.p) = runsT l := by unfold runsT; rw [Hits.out, he]
      have hlen := hst.out.few Hits.out
      have Hds := Lib.hid hds; have HR := Lib.hid hst.out.rows; have HB := Lib.hid hst.out.low; have Hlen := Lib.hid hlen
      clear he hds hlen hst hit hsz
      go_wp2
      go_ret
      exact ⟨_, ds, rfl, Hds.out, HR.out, HB.out, Hlen.out⟩
end Go.Proofs.YtmcacicopgckmaaGreatDoor

