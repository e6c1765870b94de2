import Derived.Test.YtecejnilajbdpaaGreatDoorTt50
/-! awake of the laws of tail -/
namespace Garner
open Go
def q00 : QueryP := ⟨[], []⟩
def seqR (i : Nat) : RecP := ⟨0, i, [], []⟩
theorem check00 : checkQ q00 = 0 := by
  unfold checkQ
  rw [if_neg (by decide), if_neg (by decide), if_neg (by decide), if_neg (by decide), if_neg (by decide)]
theorem holds00 (r : RecP) : holdsQ q00 r = true := rfl
end Garner
namespace Go.Proofs.YtecejnilajbdpaaGreatDoor
open Go.RowKit Go.Shelf Garner
structure AwS (w0 wr : World) (g f k : Nat) (ds : List RecD) (V : Value) : Prop where
  tail : TailIs w0.heap.size wr g q00 ds (decide (9 ≤ k)) f V
  seqs : ds.map RecD.r = (List.range (min k 8)).map seqR
  low : Below w0.heap.size w0 wr
theorem AwS.len {w0 wr : World} {g f k : Nat} {ds : List RecD} {V : Value} (h : AwS w0 wr g f k ds V) : ds.length = min k 8 := by
  have := congrArg List.length h.seqs
  simpa using this
theorem AwS.step {w0 wr w' : World} {g f k : Nat} {ds : List RecD} {V : Value} {e : Ending} (h : AwS w0 wr g f k ds V) (hk : k ≤ 8) (ho : OfferO w0.heap.size g q00 ds (decide (9 ≤ k)) f V (seqR k) wr e w') : e = .returned (.bool (decide (k < 8))) ∧ ∃ ds' V', AwS w0 w' g f (k + 1) ds' V' := by
  obtain ⟨b, ds', ov', V', rfl, hT, hb, hkk, hs, hc⟩ := ho
  have hlow : Below w0.heap.size w0 w' := h.low.trans (hb.below h.low.size fun x hx => (h.tail.lt x hx).1)
  have h9 : decide (9 ≤ k) = false := decide_eq_false (by omega)
  have hl := h.len
  rcases hc with ⟨hc | hc, -⟩ | ⟨-, -, h8, rfl, rfl, rfl⟩ | ⟨-, -, h8, rfl, ⟨d, hd, rfl⟩, rfl⟩
  · rw [h9] at hc; cases hc
  · rw [holds00] at hc; cases hc
  · obtain rfl : k = 8 := by omega
    exact ⟨rfl, _, V', ⟨hT, h.seqs, hlow⟩⟩
  · have hk8 : k < 8 := by omega
    refine ⟨by rw [decide_eq_true hk8], _, V', ⟨by rw [decide_eq_false (show ¬ 9 ≤ k + 1 by omega)]; exact hT, ?_, hlow⟩⟩
    rw [List.map_append, h.seqs, show min (k + 1) 8 = min k 8 + 1 by omega, List.range_succ, List.map_append, show min k 8 = k by omega]
    simp [hd]
set_option maxRecDepth 100000 in
set_option maxHeartbeats 32000000 in
theorem awake28 (w : World) (hL : Lt w) : Calls Tryz.prog 11 #[] w fun e w' => e = .returned (.bool true) ∧ Below w.heap.size w w' := by
  have hq : QueryAt w none 0 none 0 q00 := ⟨Row.none_, Row.none_, rfl, rfl, (by simp [q00]), (by simp [q00])⟩
  have hn := vTNew q00 none none 0 0 0 0 w hL hq (by omega) (by omega)
  rw [check00] at hn
  have HN := Lib.hid hn; have HL := Lib.hid hL
  clear hn hL hq
  go_enter Tryz.func11, Tryz.ntmps11
  go_wp2_with fail
  refine HN.out.mono ?_
  rintro e w1 ⟨hb1, hc⟩
  obtain ⟨g, f, rfl, hT⟩ := hc.elim (fun h => h.2) (fun h => absurd rfl h.1)
  clear hc
  have H0 : Hid (AwS w w1 g f 0 [] (.slice none 0 0)) := Lib.hid ⟨hT, rfl, hb1⟩
  clear hb1 hT HN
  go_wp2_with fail
  go_loopw [3] (fun i wr => ∃ (k : Nat) (ds : List RecD) (V : Value), k ≤ 9 ∧ i = .int .i64 k ∧ Hid (AwS w wr g f k ds V)) (fun i _ => 9 - (intOf i).toNat)
  case atStart => exact ⟨0, _, _, Nat.zero_le _, rfl, H0⟩
  case round =>
    obtain ⟨k, ds, V, hk, rfl, HS⟩ := hrel
    obtain ⟨wo, rfl⟩ : ∃ wo : World, wo = wr := ⟨_, rfl⟩
    have wk1 : IntKind.i64.wrap ((k : Int) + 1) = ((k + 1 : Nat) : Int) := by rw [IntKind.wrap_i64]; omega
    have wk2 : IntKind.u64.wrap (k : Int) = (k : Int) := by rw [IntKind.wrap_u64]; omega
    by_cases hlt : k < 9
    · have z1 : (k : Int) < 9 := by omega
      have hof := vOffer (seqR k) w.heap.size g q00 ds (decide (9 ≤ k)) f V none 0 0 wo HS.out.tail (HL.out.below HS.out.low) HS.out.low.size (by rw [HS.out.len]; omega) Row.none_ rfl (by omega) (by show 0 < _; omega)
      have hof2 := hof.mono fun e w' h => HS.out.step (by omega) h
      have hof3 : Calls Tryz.prog 14 #[.pointer (some ⟨g, 0, none⟩), .agg #[.int .i64 0, .int .u64 k, .slice none 0 0, .string .empty]] wo fun e w' => e = .returned (.bool (decide (k < 8))) ∧ ∃ ds' V', AwS w w' g f (k + 1) ds' V' := hof2
      have HOf := Lib.hid hof3
      clear hof hof2 hof3 HS
      go_wp2_with fail
      refine HOf.out.mono ?_
      rintro e w2 ⟨rfl, ds', V', hS⟩
      have HS := Lib.hid hS
      clear hS HOf
      by_cases h8 : k < 8
      · have z2 : (k : Int) < 8 := by omega
        rw [decide_eq_true h8]
        go_wp2
        exact ⟨⟨k + 1, _, _, by omega, by first | rfl | go_num, HS⟩, by simp [intOf]; omega⟩
      · have z2 : ¬ (k : Int) < 8 := by omega
        rw [decide_eq_false h8]
        go_wp2
        exact ⟨⟨k + 1, _, _, by omega, by first | rfl | go_num, HS⟩, by simp [intOf]; omega⟩
    · obtain rfl : k = 9 := by omega
      have z1 : ¬ ((9 : Nat) : Int) < 9 := by omega
      have hl : ds.length = 8 := HS.out.len
      have ht := vTTake 5 w.heap.size g q00 ds true f V wo HS.out.tail HS.out.low.size (by omega)
      have hk5 : takeN 5 ds.length = 5 := by rw [hl]; rfl
      rw [hk5] at ht
      have HT := Lib.hid ht; have Hl := Lib.hid hl
      clear ht hk5 hl
      go_wp2_with fail
      refine HT.out.mono ?_
      rintro e w3 ⟨L, V3, he, oL, hT3, hb3, -, -, -⟩
      rw [Hl.out] at he
      subst he
      have hl3 : (ds.drop 5).length = 3 := by rw [List.length_drop, Hl.out]
      have hw3 : Below w.heap.size w w3 := HS.out.low.trans (hb3.below HS.out.low.size fun x hx => by rw [List.mem_singleton] at hx; rw [hx]; exact HS.out.tail.low)
      have ht := vTTake 5 w.heap.size g q00 (ds.drop 5) true f V3 w3 hT3 hw3.size (by omega)
      have hk3 : takeN 5 (ds.drop 5).length = 3 := by rw [hl3]; rfl
      rw [hk3] at ht
      obtain ⟨LA, lc, rfl, -⟩ := own_form oL
      have HT2 := Lib.hid ht; have Hl3 := Lib.hid hl3; have HW3 := Lib.hid hw3; have HT3 := Lib.hid hT3
      clear ht hk3 hl3 hw3 hT3 oL hb3 HT
      go_wp2_with fail
      refine HT2.out.mono ?_
      rintro e w4 ⟨M, V4, he, oM, hT4, hb4, -, -, -⟩
      rw [Hl3.out] at he
      subst he
      have hw4 : Below w.heap.size w w4 := HW3.out.trans (hb4.below HW3.out.size fun x hx => by rw [List.mem_singleton] at hx; rw [hx]; exact HT3.out.low)
      obtain ⟨MA, mc, rfl, -⟩ := own_form oM
      have hd5 : ((ds.drop 5).take 3)[0]?.map RecD.r = some (seqR 5) := by
        rw [← List.getElem?_map, List.map_take, List.map_drop, HS.out.seqs]
        rfl
      obtain ⟨d, hd, hdr⟩ := Option.map_eq_some_iff.1 hd5
      obtain ⟨b, off, rfl, hc⟩ := rec_cells (Row.of_own oM) hd (by omega)
      have m1 := (hc w4 (Below.refl _ _)).2.1
      rw [hdr] at m1
      have m2 : w4.cell? ⟨b, off + 1, none⟩ = some (.int .u64 5) := by simpa [seqR] using m1
      have hov := vOver w.heap.size g q00 _ true f V4 w4 hT4
      have HOv := Lib.hid hov; have HW4 := Lib.hid hw4
      clear hov hw4 hT4 hb4 oM m1 hc hd hdr hd5 HT2 HT3 HW3 HS
      go_wp2_with fail
      refine HOv.out.mono ?_
      rintro e w5 ⟨rfl, rfl⟩
      go_wp2
      go_ret
      exact ⟨rfl, HW4.out⟩
end Go.Proofs.YtecejnilajbdpaaGreatDoor

/-! TailRooms: two tails and a row of what was taken, beside each other -/
namespace Garner
open Go
end Garner
namespace Go.Proofs.YtecejnilajbdpaaGreatDoor
open Go.RowKit Go.Shelf Garner
structure RoomS (w0 wr : World) (q : QueryP) (a fa b fb : Nat) (VA VB VG : Value) (da db dg : List RecD) (hb hg : List RecP) : Prop where
  ta : TailIs w0.heap.size wr a q da false fa VA
  tb : TailIs w0.heap.size wr b q db (decide (8 < hb.length)) fb VB
  og : wr.ownsRow w0.heap.size 38 4 VG dg.length (dg.flatMap RecD.cells)
  lg : ∀ d ∈ dg, LabOwn w0.heap.size wr d
  sb : db.map RecD.r = hb.take 8
  sg : dg.map RecD.r = hg
  ab : ∀ k ∈ tailS a VA, k ∉ tailS b VB
  ag : ∀ k, VG.ownBlock = some k → k ∉ tailS a VA ∧ k ∉ tailS b VB
  low : Below w0.heap.size w0 wr
section
variable {w0 wr w' : World} {q : QueryP} {a fa b fb : Nat} {VA VB VG : Value} {da db dg : List RecD} {hb hg : List RecP} {e : Ending} {r : RecP}
theorem RoomS.below (h : RoomS w0 wr q a fa b fb VA VB VG da db dg hb hg) (hbw : Below wr.heap.size wr w') : RoomS w0 w' q a fa b fb VA VB VG da db dg hb hg :=
  ⟨h.ta.below hbw, h.tb.below hbw, own_below h.og hbw, fun d hd => own_below (h.lg d hd) hbw, h.sb, h.sg, h.ab, h.ag, h.low.trans (hbw.mono h.low.size)⟩
def RecsOwn (B : Nat) (w : World) (V : Value) (ds : List RecD) : Prop := w.ownsRow B 38 4 V ds.length (ds.flatMap RecD.cells) ∧ ∀ d ∈ ds, LabOwn B w d
theorem RoomS.appG {VG' V : Value} (h : RoomS w0 wr q a fa b fb VA VB VG [] db dg hb hg) (hr : RecsOwn w0.heap.size wr V da) (hgw : wr.grownBy w' VG.ownBlock) (ho : w'.ownsRow w0.heap.size 38 4 VG' (dg.length + da.length) (dg.flatMap RecD.cells ++ da.flatMap RecD.cells)) (hx : VG'.ownBlock = VG.ownBlock ∨ VG'.ownBlock = some wr.heap.size) : RoomS w0 w' q a fa b fb VA VB VG' [] db (dg ++ da) hb (hg ++ da.map RecD.r) := by
  have hbu : But VG.ownBlock.toList wr w' := But.grown hgw fun k hk => by simp [hk]
  have hk : KeepM TT wr w' := .grownO h.og (by simp) hgw
  have hgk : ∀ k, k ∈ VG.ownBlock.toList → VG.ownBlock = some k := fun k hk1 => Option.mem_toList.1 hk1
  refine ⟨h.ta.other hbu hk fun k hk1 hk2 => (h.ag k (hgk k hk2)).1 hk1, h.tb.other hbu hk fun k hk1 hk2 => (h.ag k (hgk k hk2)).2 hk1, ?_, fun d hd => ?_, h.sb, ?_, h.ab, fun k hk1 => ?_, h.low.trans (hbu.below h.low.size fun x hx => (h.og.lt x (hgk x hx)).1)⟩
  · rw [List.length_append, List.flatMap_append]; exact ho
  · rcases List.mem_append.1 hd with hd | hd
    · exact hk.own (h.lg d hd) (by decide)
    · exact hk.own (hr.2 d hd) (by decide)
  · rw [List.map_append, h.sg]
  · rcases hx with hx | hx
    · exact h.ag k (by rw [← hx]; exact hk1)
    · rw [hx] at hk1
      injection hk1 with hk1
      exact ⟨fun h2 => by have := (h.ta.lt k h2).2; omega, fun h2 => by have := (h.tb.lt k h2).2; omega⟩
end
end Go.Proofs.YtecejnilajbdpaaGreatDoor

/-! TailTakes: a tail, a filter, what was wanted and what was got -/
namespace Go.Proofs.YtecejnilajbdpaaGreatDoor
open Go.RowKit Go.Shelf Garner
/-- mid: taken, not yet appended; ex: offered, not yet wanted -/
structure TakS (w0 wr : World) (q : QueryP) (rs : List RecD) (a fa f : Nat) (VA VW VG : Value) (ov : Bool) (da dw dg mid : List RecD) (ex : List RecP) : Prop where
  ta : TailIs w0.heap.size wr a q da ov fa VA
  fi : FilAt w0.heap.size wr f q
  ow : wr.ownsRow w0.heap.size 38 4 VW dw.length (dw.flatMap RecD.cells)
  og : wr.ownsRow w0.heap.size 38 4 VG dg.length (dg.flatMap RecD.cells)
  lg : ∀ d ∈ dg, LabOwn w0.heap.size wr d
  sw : ∀ d ∈ dw, d ∈ rs
  eq : (dg ++ (mid ++ da)).map RecD.r = dw.map RecD.r ++ ex
  le : da.length ≤ 8
  aw : ∀ k, VW.ownBlock = some k → k ∉ tailS a VA
  ag : ∀ k, VG.ownBlock = some k → k ∉ tailS a VA
  gw : ∀ k, VG.ownBlock = some k → VW.ownBlock ≠ some k
  low : Below w0.heap.size w0 wr
section
variable {w0 wr w' : World} {q : QueryP} {rs : List RecD} {a fa f : Nat} {VA VW VG : Value} {ov : Bool} {da dw dg mid : List RecD} {ex : List RecP} {e : Ending} {r : RecP}
theorem TakS.below (h : TakS w0 wr q rs a fa f VA VW VG ov da dw dg mid ex) (hb : Below wr.heap.size wr w') : TakS w0 w' q rs a fa f VA VW VG ov da dw dg mid ex :=
  ⟨h.ta.below hb, h.fi.below hb, own_below h.ow hb, own_below h.og hb, fun d hd => own_below (h.lg d hd) hb, h.sw, h.eq, h.le, h.aw, h.ag, h.gw, h.low.trans (hb.mono h.low.size)⟩
theorem TakS.offer (h : TakS w0 wr q rs a fa f VA VW VG ov da dw dg [] []) (ho : OfferO w0.heap.size a q da ov fa VA r wr e w') : ∃ b ov' da' VA', e = .returned (.bool b) ∧ (b = true → holdsQ q r = true) ∧ (b = false → holdsQ q r = false ∨ ov' = true) ∧ TakS w0 w' q rs a fa f VA' VW VG ov' da' dw dg [] (if b = true then [r] else []) := by
  obtain ⟨b, ds', ov', V', rfl, hT, hbu, hk, hs, hc⟩ := ho
  have heq := h.eq
  rw [List.nil_append, List.append_nil] at heq
  have key : (b = true → holdsQ q r = true) ∧ (b = false → holdsQ q r = false ∨ ov' = true) ∧ ds'.map RecD.r = da.map RecD.r ++ (if b = true then [r] else []) ∧ ds'.length ≤ 8 := by
    have h8 := h.le
    rcases hc with ⟨hc, rfl, rfl, rfl⟩ | ⟨h0, hh, h9, rfl, rfl, rfl⟩ | ⟨h0, hh, h9, rfl, ⟨d, hd, rfl⟩, rfl⟩
    · exact ⟨fun h => (by cases h), fun _ => hc.symm, (by simp), h8⟩
    · exact ⟨fun h => (by cases h), fun _ => .inr rfl, (by simp), h8⟩
    · exact ⟨fun _ => hh, fun h => (by cases h), (by simp [hd]), (by simp; omega)⟩
  refine ⟨b, ov', ds', V', rfl, key.1, key.2.1, hT, h.fi.keepTT hk, own_but h.ow hbu fun k hk1 => h.aw k hk1, own_but h.og hbu fun k hk1 => h.ag k hk1, fun d hd => hk.own (h.lg d hd) (by decide), h.sw, ?_, key.2.2.2, fun k hk1 hk2 => ?_, fun k hk1 hk2 => ?_, h.gw, h.low.trans (hbu.below h.low.size fun x hx => (h.ta.lt x hx).1)⟩
  · rw [List.nil_append, List.map_append, key.2.2.1, ← List.append_assoc, ← List.map_append, heq]
  · rcases hs k hk2 with h1 | h1
    · exact h.aw k hk1 h1
    · have := (h.ow.lt k hk1).2; omega
  · rcases hs k hk2 with h1 | h1
    · exact h.ag k hk1 h1
    · have := (h.og.lt k hk1).2; omega
theorem TakS.appW {VW' : Value} {x : RecD} (h : TakS w0 wr q rs a fa f VA VW VG ov da dw dg [] [x.r]) (hx : x ∈ rs) (hgw : wr.grownBy w' VW.ownBlock) (ho : w'.ownsRow w0.heap.size 38 4 VW' (dw.length + 1) (dw.flatMap RecD.cells ++ x.cells)) (hv : VW'.ownBlock = VW.ownBlock ∨ VW'.ownBlock = some wr.heap.size) : TakS w0 w' q rs a fa f VA VW' VG ov da (dw ++ [x]) dg [] [] := by
  have hbu : But VW.ownBlock.toList wr w' := But.grown hgw fun k hk => by simp [hk]
  have hk : KeepM TT wr w' := .grownO h.ow (by simp) hgw
  have hgk : ∀ k, k ∈ VW.ownBlock.toList → VW.ownBlock = some k := fun k hk1 => Option.mem_toList.1 hk1
  refine ⟨h.ta.other hbu hk fun k hk1 hk2 => h.aw k (hgk k hk2) hk1, h.fi.keepTT hk, ?_, own_but h.og hbu fun k hk1 hk2 => h.gw k hk1 (hgk k hk2), fun d hd => hk.own (h.lg d hd) (by decide), fun d hd => ?_, ?_, h.le, fun k hk1 => ?_, h.ag, fun k hk1 hk2 => ?_, h.low.trans (hbu.below h.low.size fun y hy => (h.ow.lt y (hgk y hy)).1)⟩
  · rw [List.length_append, List.flatMap_append]
    simpa using ho
  · rcases List.mem_append.1 hd with hd | hd
    · exact h.sw d hd
    · rw [List.mem_singleton] at hd; rw [hd]; exact hx
  · rw [h.eq]; simp
  · rcases hv with hv | hv
    · exact h.aw k (by rw [← hv]; exact hk1)
    · rw [hv] at hk1
      injection hk1 with hk1
      exact fun h2 => by have := (h.ta.lt k h2).2; omega
  · rcases hv with hv | hv
    · exact h.gw k hk1 (by rw [← hv]; exact hk2)
    · rw [hv] at hk2
      injection hk2 with hk2
      have := (h.og.lt k hk1).2; omega
theorem TakS.take {n : Int} (h : TakS w0 wr q rs a fa f VA VW VG ov da dw dg [] []) (ho : TakeO (takeN n da.length) w0.heap.size a q da ov fa wr e w') : ∃ L K c VA', K = takeN n da.length ∧ e = .returned (.tuple #[.slice L K c, .bool (ov && decide ((da.drop K).length = 0))]) ∧ (da.take K).length = K ∧ TakS w0 w' q rs a fa f VA' VW VG ov (da.drop K) dw dg (da.take K) [] ∧ RecsOwn w0.heap.size w' (.slice L K c) (da.take K) := by
  obtain ⟨L, V', rfl, oL, hT, hbu, hk, hv, -⟩ := ho
  have hKl := takeN_le n da.length
  obtain ⟨K, hK⟩ : ∃ K, takeN n da.length = K := ⟨_, rfl⟩
  rw [hK] at oL hT hKl ⊢
  have hlen : (da.take K).length = K := by rw [List.length_take]; omega
  obtain ⟨A, c, rfl, -⟩ := own_form oL
  have ha : a ∈ tailS a VA := by simp [tailS]
  have new : ∀ k ∈ tailS a V', k = a ∨ wr.heap.size ≤ k := fun k hk1 => by
    rcases List.mem_cons.1 hk1 with h2 | h2
    · exact .inl h2
    · exact .inr (hv k (Option.mem_toList.1 h2))
  refine ⟨A, K, c, V', rfl, by rw [List.length_drop], hlen, ⟨hT, h.fi.keepTT hk, own_but h.ow hbu fun k hk1 hk2 => h.aw k hk1 (by rw [List.mem_singleton] at hk2; rw [hk2]; exact ha), own_but h.og hbu fun k hk1 hk2 => h.ag k hk1 (by rw [List.mem_singleton] at hk2; rw [hk2]; exact ha), fun d hd => hk.own (h.lg d hd) (by decide), h.sw, ?_, ?_, fun k hk1 hk2 => ?_, fun k hk1 hk2 => ?_, h.gw, h.low.trans (hbu.below h.low.size fun x hx => by rw [List.mem_singleton] at hx; rw [hx]; exact h.ta.low)⟩, ?_, fun d hd => hk.own (h.ta.lab d (List.mem_of_mem_take hd)) (by decide)⟩
  · rw [List.take_append_drop]
    exact h.eq
  · have := h.le; rw [List.length_drop]; omega
  · rcases new k hk2 with rfl | h2
    · exact h.aw _ hk1 ha
    · have := (h.ow.lt k hk1).2; omega
  · rcases new k hk2 with rfl | h2
    · exact h.ag _ hk1 ha
    · have := (h.og.lt k hk1).2; omega
  · rw [hlen]; exact own_mono oL h.low.size
theorem TakS.appG {VG' V : Value} (h : TakS w0 wr q rs a fa f VA VW VG ov da dw dg mid ex) (hr : RecsOwn w0.heap.size wr V mid) (hgw : wr.grownBy w' VG.ownBlock) (ho : w'.ownsRow w0.heap.size 38 4 VG' (dg.length + mid.length) (dg.flatMap RecD.cells ++ mid.flatMap RecD.cells)) (hx : VG'.ownBlock = VG.ownBlock ∨ VG'.ownBlock = some wr.heap.size) : TakS w0 w' q rs a fa f VA VW VG' ov da dw (dg ++ mid) [] ex := by
  have hbu : But VG.ownBlock.toList wr w' := But.grown hgw fun k hk => by simp [hk]
  have hk : KeepM TT wr w' := .grownO h.og (by simp) hgw
  have hgk : ∀ k, k ∈ VG.ownBlock.toList → VG.ownBlock = some k := fun k hk1 => Option.mem_toList.1 hk1
  refine ⟨h.ta.other hbu hk fun k hk1 hk2 => h.ag k (hgk k hk2) hk1, h.fi.keepTT hk, own_but h.ow hbu fun k hk1 hk2 => h.gw k (hgk k hk2) hk1, ?_, fun d hd => ?_, h.sw, ?_, h.le, h.aw, fun k hk1 => ?_, fun k hk1 hk2 => ?_, h.low.trans (hbu.below h.low.size fun x hx => (h.og.lt x (hgk x hx)).1)⟩
  · rw [List.length_append, List.flatMap_append]; exact ho
  · rcases List.mem_append.1 hd with hd | hd
    · exact hk.own (h.lg d hd) (by decide)
    · exact hk.own (hr.2 d hd) (by decide)
  · rw [List.nil_append, List.append_assoc]; exact h.eq
  · rcases hx with hx | hx
    · exact h.ag k (by rw [← hx]; exact hk1)
    · rw [hx] at hk1
      injection hk1 with hk1
      exact fun h2 => by have := (h.ta.lt k h2).2; omega
  · rcases hx with hx | hx
    · exact h.gw k (by rw [← hx]; exact hk1) hk2
    · rw [hx] at hk1
      injection hk1 with hk1
      have := (h.ow.lt k hk2).2; omega
end
end Go.Proofs.YtecejnilajbdpaaGreatDoor

/-! TailRooms: the walk -/
namespace Garner
open Go
end Garner
namespace Go.Proofs.YtecejnilajbdpaaGreatDoor
open Go.RowKit Go.Shelf Garner
theorem FilAt.mono {B B' : Nat} {w : World} {g : Nat} {q : QueryP} (h : FilAt B w g q) (hB : B' ≤ B) : FilAt B' w g q := by
  obtain ⟨v1, v2, P, Q, pv, h1, h2⟩ := h
  exact ⟨v1, v2, P, Q, pv, ⟨h1.blk, own_mono h1.ms hB, own_mono h1.fs hB, own_mono h1.ps hB, own_mono h1.qs hB, h1.dis, h1.pat, Nat.le_trans hB h1.low⟩, h2⟩
theorem TailIs.mono {B B' : Nat} {w : World} {g f : Nat} {q : QueryP} {ds : List RecD} {ov : Bool} {V : Value} (h : TailIs B w g q ds ov f V) (hB : B' ≤ B) : TailIs B' w g q ds ov f V :=
  ⟨h.blk, h.fil.mono hB, own_mono h.row hB, fun d hd => own_mono (h.lab d hd) hB, h.ms, h.fs, Nat.le_trans hB h.low⟩
end Go.Proofs.YtecejnilajbdpaaGreatDoor

