import Derived.Test.YtmddgimadlmacaaDoorWs36
/-! the document's disk: Append -/
namespace Go.Proofs.YtmddgimadlmacaaDoor
open Go.RowKit Garner

/-- bytes that are read stay, where a block without bytes is written -/
theorem bytes_far {w w' : World} {A : Option Addr} {l : Bs} {q : Nat} {t : TypeId} {cs : List Value} (h : Bytes w w.heap.size A l.length l) (hk : Blk w q t cs) (hne : ∀ (i : Nat) (c : UInt8), cs[i]? ≠ some (bv c)) (hb : But [q] w w') : Bytes w' w'.heap.size A l.length l := by
  refine h.but' hb fun hn b off e' hbS => ?_
  simp only [List.mem_cons, List.not_mem_nil, or_false] at hbS
  subst hbS
  obtain ⟨b', off', e2, _, hc⟩ := h.2 hn
  rw [e2] at e'
  simp only [Option.some.injEq, Addr.mk.injEq, and_true] at e'
  obtain ⟨rfl, rfl⟩ := e'
  have h0 : (l.map bv)[0]? = some (bv (l[0]'hn)) := by rw [List.getElem?_map, List.getElem?_eq_getElem hn]; rfl
  have h1 := hc 0 _ h0
  rw [Nat.add_zero, hk.cell off'] at h1
  exact hne _ _ h1
theorem fileV_far (s : ByteArray) (A : Option Addr) (n c : Nat) (k : Nat) : ∀ (i : Nat) (b : UInt8), ([.string s, .slice A n c, .int .i64 k] : List Value)[i]? ≠ some (bv b) := by
  intro i b h
  rcases i with _ | _ | _ | i <;> simp [bv] at h
section
variable {O : Nat → Prop} {S : List Nat} {w w' : World} {g fb : Nat} {rs : Files} {fl dn : Bool} {left : Int}
theorem RefIs.ltO (h : RefIs O w g fb rs fl dn left) : RefIs (fun b => O b ∧ b < w.heap.size) w g fb rs fl dn left := ⟨h.own, fun p hp => (h.files p hp).lt, h.asc, h.lo, h.hi, h.nb, h.lt⟩
theorem RefIs.monoO {O' : Nat → Prop} (h : RefIs O w g fb rs fl dn left) (hO : ∀ b, O b → O' b) : RefIs O' w g fb rs fl dn left := ⟨h.own, fun p hp => (h.files p hp).mono hO, h.asc, h.lo, h.hi, h.nb, h.lt⟩
theorem RefIs.butO (h : RefIs O w g fb rs fl dn left) (hb : But S w w') (hg : g ∉ S) (hf : fb ∉ S) (hO : ∀ b, O b → b < w.heap.size → b ∉ S) : RefIs O w' g fb rs fl dn left := by
  obtain ⟨A, c, h1, h2, h3⟩ := h.own
  exact ⟨⟨A, c, h1.but hb hg, own_but h2 hb (fun q hq => by rw [h3 q hq]; exact hf), h3⟩, fun p hp => (h.files p hp).but hb hO, h.asc, h.lo, h.hi, h.nb.but hb h.lt hf, Nat.lt_of_lt_of_le h.lt hb.size⟩
end
section
variable (nm : Bs) (g fb : Nat) (rs : Files) (dn : Bool) (left : Int) (w : World)
set_option maxRecDepth 100000 in
set_option maxHeartbeats 4000000 in
theorem rfAppend_ok (data : Bs) (A : Option Addr) (c B : Nat) (h : RefT w g fb rs false dn left) (hl : (nmS nm).size ≤ 140737488355328) (hrl : (rs.length + 1) * 48 ≤ 140737488355328) (h0 : dmay [nmS nm] dn = 0) (hr : Bytes w B A data.length data) (hB : B ≤ w.heap.size) (hdl : (rs.get nm).data.length + data.length ≤ 140737488355328) :
    Calls Tryd.prog 34 #[.pointer (some ⟨g, 0, none⟩), .string (nmS nm), .slice A data.length c] w fun e w' => e = .returned (.int .i64 0) ∧ ∃ A' c' fb', RefT w' g fb' (sput nm ⟨A', c', (rs.get nm).data ++ data, (rs.get nm).synced⟩ rs) false (chgD [nmS nm] dn left) (chgL [nmS nm] dn left) ∧ (fb' = g ∨ w.heap.size ≤ fb') ∧ But [g] w w' ∧ (∀ b off, A' = some ⟨b, off, none⟩ → w.heap.size ≤ b) := by
  have Hne := Lib.hid (show ((dmay [nmS nm] dn : Nat) : Int) = 0 by omega)
  clear h0
  go_enter Tryd.func34, Tryd.ntmps34
  go_wp2_with fail
  refine (rfChange (nmS nm) (nmS nm) hl hl h).mono ?_
  rintro e w1 ⟨rfl, h1, hb1⟩
  rw [dmay_same] at ⊢
  rw [(chg_same (nmS nm) dn left).1, (chg_same (nmS nm) dn left).2] at h1
  rw [Hne.out]
  obtain ⟨dn1, hdn1⟩ : ∃ x, x = chgD [nmS nm] dn left := ⟨_, rfl⟩
  obtain ⟨left1, hleft1⟩ : ∃ x, x = chgL [nmS nm] dn left := ⟨_, rfl⟩
  rw [← hdn1, ← hleft1] at h1
  have Hdn := Lib.hid hdn1; have Hleft := Lib.hid hleft1
  obtain ⟨A0, c0, k0, _, _⟩ := h.own
  have hr1 : Bytes w1 w1.heap.size A data.length data := bytes_far (hr.more hB) k0 (refV_far _ (by simp [bv]) _ _ _) hb1
  clear hdn1 hleft1 h k0 hr
  obtain ⟨A1, c1, k1, _, _⟩ := h1.own
  have q1 := k1.cell 1
  clear k1
  go_wp2_with fail
  obtain ⟨X, hX⟩ : ∃ X, X = w1.alloc (.cells #[.string (nmS nm), .slice none 0 0, .int .i64 0] 88) := ⟨_, rfl⟩
  change Calls _ _ _ (w1.alloc (.cells #[.string (nmS nm), .slice none 0 0, .int .i64 0] 88)) _
  rw [← hX]
  have hbX : Below w1.heap.size w1 X := by rw [hX]; exact (Below.refl _ _).alloc (Nat.le_refl _) _
  have kX : Blk X w1.heap.size 88 [.string (nmS nm), .slice none 0 0, .int .i64 0] := by rw [hX]; exact Blk.new w1 _ _
  clear hX q1
  have hX1 := h1.below hbX
  have hrX := (hr1.below hbX).more hbX.size
  have hb0X : But [g] w X := hb1.trans (But.of_below hbX)
  have hgne : g ≠ w1.heap.size := by have := h1.glt.1; omega
  have hfbne : fb ≠ w1.heap.size := by have := h1.lt; omega
  have hs1 := hb1.size
  clear h1 hr1 hbX hb1
  obtain ⟨A2, c2, k2, hr2, _, _⟩ := hX1.ex
  refine (rFind nm g rs A2 c2 false dn1 left1 X k2 hr2 (by omega)).mono ?_
  rintro e w2 ⟨rfl, rfl⟩
  clear k2 hr2
  have y0 := kX.cell 0; have y1 := kX.cell 1; have y2 := kX.cell 2
  have x1 := kX.frozen 1; have x2 := kX.frozen 2
  have hxlt := kX.lt
  cases hok : (rfind nm rs).2 with
  | false =>
    have hag := rfind_none nm rs hX1.asc hok
    have hget : rs.get nm = noFile := by unfold Files.get; rw [hag]; rfl
    rw [hget] at hdl
    have hdl' : data.length ≤ 140737488355328 := by simpa [noFile] using hdl
    have Hget := Lib.hid hget
    clear hag hget hdl hok
    go_upto_region 12 with (at_builtin; refine wpList_app _ rfl bytesE rfl rfl (World.ownsRow_nil w2 w2.heap.size _ _) rfl hrX (bv_one _) (by omega) (Nat.le_refl _) ?_; intro v3 w3 hown3 hg3 hb3 hx3; simp only [Nat.zero_add, List.nil_append] at hown3; obtain ⟨A3, c3, rfl, _⟩ := own_form hown3; have k3 := kX.below hb3 kX.lt; have z1 := k3.cell 1; have zf := k3.frozen 1; have h3 := hX1.below hb3; have hs3 := hb3.size; have hb03 := hb0X.trans (But.of_below hb3); clear hX1 hrX hb0X y0 y1 y2 x1 x2 kX hg3 hb3 hx3)
    obtain ⟨w4, hw4⟩ : ∃ W, W = w3.setCell ⟨w1.heap.size, 1, none⟩ (.slice A3 data.length c3) := ⟨_, rfl⟩
    rw [← hw4]
    have hb4 : But [w1.heap.size] w3 w4 := by rw [hw4]; exact (But.refl _ _).setCell (by simp) _
    have k4 : Blk w4 w1.heap.size 88 [.string (nmS nm), .slice A3 data.length c3, .int .i64 0] := by rw [hw4]; exact k3.set_ 1 _
    have hnb : ∀ k ∈ [w1.heap.size], NB w3 k ∨ w3.heap.size ≤ k := fun k hk => by simp only [List.mem_cons, List.not_mem_nil, or_false] at hk; subst hk; exact Or.inl (NB.blk k3 (by decide))
    have h4 := h3.butT hb4 (by simp only [List.mem_cons, List.not_mem_nil, or_false]; exact hgne) (by simp only [List.mem_cons, List.not_mem_nil, or_false]; exact hfbne) hnb
    have hA3 := Lib.hid (show ∀ b off, A3 = some ⟨b, off, none⟩ → w.heap.size ≤ b from fun b off e => by have := (hown3.lt b (by rw [e]; rfl)).1; omega)
    have hown4 := own_but hown3 hb4 (fun q hq hm => by simp only [List.mem_cons, List.not_mem_nil, or_false] at hm; have := hown3.lt q hq; omega)
    have hfo4 : FileOk (fun _ => True) w4 ⟨A3, c3, data, 0⟩ := (FileOk.of_own hown4 (Nat.zero_le _) hdl').mono (fun _ _ => trivial)
    have hb04 : But [g] w w4 := hb03.old hb4 (fun k hk => by simp only [List.mem_cons, List.not_mem_nil, or_false] at hk; subst hk; exact Or.inr hs1)
    have q0 := k4.cell 0; have q1 := k4.cell 1; have q2 := k4.cell 2
    have hs4 := hb4.size
    clear hw4 hb4 k3 z1 zf h3 hnb hown3 hown4 k4
    go_wp2_with fail
    refine (rfPut nm ⟨A3, c3, data, 0⟩ g fb rs false dn1 left1 _ w4 h4 hfo4 hrl).mono ?_
    rintro e w5 ⟨rfl, fb5, h5, hfb5, hb5⟩
    clear q0 q1 q2
    go_wp2
    go_ret
    rw [← Hdn.out, ← Hleft.out, Hget.out]
    exact ⟨rfl, A3, c3, fb5, h5, hfb5.imp id (fun h => by omega), hb04.trans hb5, hA3.out⟩
  | true =>
    obtain ⟨old, hag, hat⟩ := rfind_get nm rs hok
    have hlt := rfind_lt hok
    have hfe : rs[(rfind nm rs).1] = (nm, old) := by rw [List.getElem?_eq_getElem hlt] at hat; exact Option.some.inj hat
    have hget : rs.get nm = old := get_some hag
    rw [hget] at hdl
    have Hget := Lib.hid hget
    clear hag hat hget
    obtain ⟨i, hi⟩ : ∃ i, i = (rfind nm rs).1 := ⟨_, rfl⟩
    have hfe' : ∃ hlt' : i < rs.length, rs[i] = (nm, old) := by subst hi; exact ⟨hlt, hfe⟩
    rw [← hi] at hlt ⊢
    clear hi hfe hok
    obtain ⟨_, hfe⟩ := hfe'
    obtain ⟨c', d0, hcc, _, d1, d2, _⟩ := hX1.at_ hlt
    have hfo := hX1.files (nm, old) (by rw [← hfe]; exact List.getElem_mem hlt)
    rw [hfe] at d1 d2
    have hlt' : (i : Int) < (rs.length : Int) := by omega
    have hsyn := hfo.syn
    go_upto_region 10 with fail
    obtain ⟨w3, hw3⟩ : ∃ W, W = w2.setCell ⟨w1.heap.size, 2, none⟩ (.int .i64 old.synced) := ⟨_, rfl⟩
    rw [← hw3]
    have hb3 : But [w1.heap.size] w2 w3 := by rw [hw3]; exact (But.refl _ _).setCell (by simp) _
    have k3 : Blk w3 w1.heap.size 88 [.string (nmS nm), .slice none 0 0, .int .i64 old.synced] := by rw [hw3]; exact kX.set_ 2 _
    have hnb : ∀ k ∈ [w1.heap.size], NB w2 k ∨ w2.heap.size ≤ k := fun k hk => by simp only [List.mem_cons, List.not_mem_nil, or_false] at hk; subst hk; exact Or.inl (NB.blk kX (by decide))
    have h3 := hX1.butT hb3 (by simp only [List.mem_cons, List.not_mem_nil, or_false]; exact hgne) (by simp only [List.mem_cons, List.not_mem_nil, or_false]; exact hfbne) hnb
    have hfo3 := hfo.butT hb3 hnb
    have hr3 := bytes_far hrX kX (fileV_far _ _ _ _ 0) hb3
    have hb03 : But [g] w w3 := hb0X.old hb3 (fun k hk => by simp only [List.mem_cons, List.not_mem_nil, or_false] at hk; subst hk; exact Or.inr hs1)
    have hs3 := hb3.size
    clear hw3 hb3 hnb hX1 hfo hrX hb0X kX y0 y1 y2 x1 x2 d0 d1 d2
    obtain ⟨c', d0, hcc', _, d1, _, _⟩ := h3.at_ hlt
    rw [hfe] at d1
    have hglt := h3.glt.1; have hflt := h3.lt
    have z0 : ∀ w', Below w3.heap.size w3 w' → w'.cell? ⟨g, 0, none⟩ = some (.slice (some ⟨fb, 0, none⟩) rs.length c') := fun w' h => (h.cell (p := ⟨g, 0, none⟩) hglt).trans d0
    have z1 : ∀ w', Below w3.heap.size w3 w' → w'.cell? ⟨fb, i * 3 + 1, none⟩ = some (.slice old.A old.data.length old.c) := fun w' h => (h.cell (p := ⟨fb, i * 3 + 1, none⟩) hflt).trans d1
    have z2 : ∀ w', Below w3.heap.size w3 w' → w'.cell? ⟨w1.heap.size, 1, none⟩ = some (.slice none 0 0) := fun w' h => (k3.below h k3.lt).cell 1
    have hS0 : Below w3.heap.size w3 w3.drew := (Below.refl _ _).drew
    have hiw : (0 : Int) ≤ (i : Int) := by omega
    refine wp_region_N (fun w' => Below w3.heap.size w3 w') 12 (by kernel_rfl) ?_
    apply wpAnyN_takeL 0 (by kernel_rfl) rfl (fun _ _ _ h => h) (by kernel_rfl) hS0
    · intro w' hS'
      go_simp; exact ⟨rfl, rfl⟩
    (try simp only [Act.put]); (try simp only [List.setIfInBounds_toArray]); (try simp only [List.set])
    apply wpAnyN_takeL 1 (by kernel_rfl) rfl (fun _ _ _ h => h) (by kernel_rfl) hS0
    · intro w' hS'
      go_simp; exact ⟨rfl, rfl⟩
    (try simp only [Act.put]); (try simp only [List.setIfInBounds_toArray]); (try simp only [List.set])
    apply wpAnyN_takeL 2 (by kernel_rfl) rfl (fun _ _ _ h => h) (by kernel_rfl) hS0
    · intro w' hS'
      go_simp; exact ⟨rfl, rfl⟩
    (try simp only [Act.put]); (try simp only [List.setIfInBounds_toArray]); (try simp only [List.set])
    apply wpAnyN_takeL 3 (by kernel_rfl) rfl (fun _ _ _ h => h) (by kernel_rfl) hS0
    · intro w' hS'
      go_simp; exact ⟨rfl, rfl⟩
    (try simp only [Act.put]); (try simp only [List.setIfInBounds_toArray]); (try simp only [List.set])
    apply wpAnyN_takeL 4 (by kernel_rfl) rfl (fun _ _ _ h => h) (by kernel_rfl) hS0
    · intro w' hS'
      go_simp; exact ⟨rfl, rfl⟩
    (try simp only [Act.put]); (try simp only [List.setIfInBounds_toArray]); (try simp only [List.set])
    apply wpAnyN_takeL 5 (by kernel_rfl) rfl (fun _ _ _ h => h) (by kernel_rfl) hS0
    · intro w' hS'
      go_simp; exact ⟨rfl, rfl⟩
    (try simp only [Act.put]); (try simp only [List.setIfInBounds_toArray]); (try simp only [List.set])
    apply wpAnyN_takeL 6 (by kernel_rfl) rfl (fun _ _ _ h => h) (by kernel_rfl) hS0
    · intro w' hS'
      go_simp; exact ⟨rfl, rfl⟩
    (try simp only [Act.put]); (try simp only [List.setIfInBounds_toArray]); (try simp only [List.set])
    apply wpAnyN_takeL 7 (by kernel_rfl) rfl (fun _ _ _ h => h) (by kernel_rfl) hS0
    · intro w' hS'
      go_simp; exact ⟨rfl, rfl⟩
    (try simp only [Act.put]); (try simp only [List.setIfInBounds_toArray]); (try simp only [List.set])
    apply wpAnyN_takeL 8 (by kernel_rfl) rfl (fun _ _ _ h => h) (by kernel_rfl) hS0
    · intro w' hS'
      go_simp; exact ⟨rfl, rfl⟩
    (try simp only [Act.put]); (try simp only [List.setIfInBounds_toArray]); (try simp only [List.set])
    apply wpAnyN_takeL 9 (by kernel_rfl) rfl (fun _ _ _ h => h) (by kernel_rfl) hS0
    · intro w' hS'
      go_simp; exact ⟨rfl, rfl⟩
    (try simp only [Act.put]); (try simp only [List.setIfInBounds_toArray]); (try simp only [List.set])
    refine wpAnyN_runL 10 (by kernel_rfl) rfl (by kernel_rfl) (fun K hK => ?_)
    refine wp_app w3.drew bytesE rfl rfl (World.ownsRow_nil _ w3.heap.size _ _) rfl hfo3.row.drew (bv_one _) (by omega) (Nat.le_refl _) ?_
    intro v4 w4 hown4 hg4 hb4 hx4
    simp only [Nat.zero_add, List.nil_append] at hown4
    have hS4 : Below w3.heap.size w3 w4 := hS0.trans hb4
    obtain ⟨A4, c4, rfl, _⟩ := own_form hown4
    have k4 := k3.below hS4 k3.lt
    have u1 := k4.cell 1; have uf := k4.frozen 1
    refine hK _ _ (fun _ => hS4) ?_
    clear hK K
    (try simp only [Act.put]); (try simp only [List.setIfInBounds_toArray]); (try simp only [List.set])
    refine wpAnyN_runL 11 (by kernel_rfl) rfl (by kernel_rfl) (fun K hK => ?_)
    go_simp
    refine hK _ _ (fun _ => hS4) ?_
    clear hK K
    (try simp only [Act.put]); (try simp only [List.setIfInBounds_toArray]); (try simp only [List.set])
    refine wpAnyN_runL 12 (by kernel_rfl) rfl (by kernel_rfl) (fun K hK => ?_)
    go_simp
    refine hK _ _ (fun h => absurd rfl h) ?_
    clear hK K
    (try simp only [Act.put])
    refine wpAnyN_done (by kernel_rfl) ?_ _
    go_upto_region 11 with fail
    obtain ⟨w5, hw5⟩ : ∃ W, W = w4.setCell ⟨w1.heap.size, 1, none⟩ (.slice A4 old.data.length c4) := ⟨_, rfl⟩
    rw [← hw5]
    have hb5 : But [w1.heap.size] w4 w5 := by rw [hw5]; exact (But.refl _ _).setCell (by simp) _
    have k5 : Blk w5 w1.heap.size 88 [.string (nmS nm), .slice A4 old.data.length c4, .int .i64 old.synced] := by rw [hw5]; exact k4.set_ 1 _
    have hnb : ∀ k ∈ [w1.heap.size], NB w4 k ∨ w4.heap.size ≤ k := fun k hk => by simp only [List.mem_cons, List.not_mem_nil, or_false] at hk; subst hk; exact Or.inl (NB.blk k4 (by decide))
    have h5 := (h3.ltO.below hS4).butT hb5 (by simp only [List.mem_cons, List.not_mem_nil, or_false]; exact hgne) (by simp only [List.mem_cons, List.not_mem_nil, or_false]; exact hfbne) hnb
    have hr5 := bytes_far ((hr3.below hS4).more hS4.size) k4 (fileV_far _ _ _ _ _) hb5
    have hown5 := own_but hown4 hb5 (fun q hq hm => by simp only [List.mem_cons, List.not_mem_nil, or_false] at hm; have := hown4.lt q hq; omega)
    have hb05 : But [g] w w5 := (hb03.trans (But.of_below hS4)).old hb5 (fun k hk => by simp only [List.mem_cons, List.not_mem_nil, or_false] at hk; subst hk; exact Or.inr hs1)
    have v1 := k5.cell 1; have vf := k5.frozen 1
    have hs35 : w3.heap.size ≤ w5.heap.size := Nat.le_trans hS4.size hb5.size
    clear hw5 hb5 k4 u1 uf hnb h3 hr3 hown4 hb03 hS4 hS0 hg4 hb4 hx4 z0 z1 z2 k3 hfo3 d0 d1
    go_upto_region 12 with (at_builtin; refine wpList_app _ rfl bytesE rfl rfl hown5 rfl hr5 (bv_one _) (by omega) hs35 ?_; intro v6 w6 hown6 hg6 hb6 hx6; obtain ⟨A6, c6, rfl, _⟩ := own_form hown6; have k6 := k5.below hb6 (by omega); have z1 := k6.cell 1; have zf := k6.frozen 1; clear hx6)
    obtain ⟨nd, hnd⟩ : ∃ nd, nd = old.data ++ data := ⟨_, rfl⟩
    have hlen : old.data.length + data.length = nd.length := by rw [hnd, List.length_append]
    rw [hlen]
    rw [hlen] at hown6
    rw [← List.map_append, ← hnd] at hown6
    obtain ⟨w7, hw7⟩ : ∃ W, W = w6.setCell ⟨w1.heap.size, 1, none⟩ (.slice A6 nd.length c6) := ⟨_, rfl⟩
    rw [← hw7]
    have hb7 : But [w1.heap.size] w6 w7 := by rw [hw7]; exact (But.refl _ _).setCell (by simp) _
    have k7 : Blk w7 w1.heap.size 88 [.string (nmS nm), .slice A6 nd.length c6, .int .i64 old.synced] := by rw [hw7]; exact k6.set_ 1 _
    have hnb : ∀ k ∈ [w1.heap.size], NB w6 k ∨ w6.heap.size ≤ k := fun k hk => by simp only [List.mem_cons, List.not_mem_nil, or_false] at hk; subst hk; exact Or.inl (NB.blk k6 (by decide))
    have hge : ∀ q ∈ (Value.slice A4 old.data.length c4).ownBlock.toList, w3.heap.size ≤ q := fun q hq => (hown5.lt q (by simpa using hq)).1
    have hbt : But (Value.slice A4 old.data.length c4).ownBlock.toList w5 w6 := But.grown (row := (Value.slice A4 old.data.length c4).ownBlock) hg6 (fun q hq => by rw [hq]; simp)
    have h6 := h5.butO hbt (fun hm => by have := hge _ hm; omega) (fun hm => by have := hge _ hm; omega) (fun b hb _ hm => by have := hge _ hm; omega)
    have h7 := (h6.monoO (O' := fun _ => True) (fun _ _ => trivial)).butT hb7 (by simp only [List.mem_cons, List.not_mem_nil, or_false]; exact hgne) (by simp only [List.mem_cons, List.not_mem_nil, or_false]; exact hfbne) hnb
    have hA6 := Lib.hid (show ∀ b off, A6 = some ⟨b, off, none⟩ → w.heap.size ≤ b from fun b off e => by have := (hown6.lt b (by rw [e]; rfl)).1; omega)
    have hown7 := own_but hown6 hb7 (fun q hq hm => by simp only [List.mem_cons, List.not_mem_nil, or_false] at hm; have := hown6.lt q hq; omega)
    have hndl : old.synced ≤ nd.length := by omega
    have hndc : nd.length ≤ 140737488355328 := by omega
    have hfo7 : FileOk (fun _ => True) w7 ⟨A6, c6, nd, old.synced⟩ := (FileOk.of_own hown7 hndl hndc).mono (fun _ _ => trivial)
    have hb07 : But [g] w w7 := (hb05.old hbt (fun k hk => by have := hge _ hk; have := hs1; exact Or.inr (by omega))).old hb7 (fun k hk => by simp only [List.mem_cons, List.not_mem_nil, or_false] at hk; subst hk; exact Or.inr hs1)
    have q0 := k7.cell 0; have q1 := k7.cell 1; have q2 := k7.cell 2
    have hs7 := hb07.size
    have Hnd := Lib.hid hnd
    clear hlen hnd hndl hndc
    clear hw7 hb7 k6 z1 zf h5 h6 hnb hown6 hown7 hown5 k7 hbt hg6 hb6 hr5 v1 vf k5 hge
    go_wp2_with fail
    refine (rfPut nm ⟨A6, c6, nd, old.synced⟩ g fb rs false dn1 left1 _ w7 h7 hfo7 hrl).mono ?_
    rintro e w8 ⟨rfl, fb8, h8, hfb8, hb8⟩
    clear q0 q1 q2
    go_wp2
    go_ret
    rw [← Hdn.out, ← Hleft.out, Hget.out, ← Hnd.out]
    exact ⟨rfl, A6, c6, fb8, h8, hfb8.imp id (fun h => by omega), hb07.trans hb8, hA6.out⟩
end
end Go.Proofs.YtmddgimadlmacaaDoor
/-! the document's disk: Clone -/
namespace Go.Proofs.YtmddgimadlmacaaDoor
open Go.RowKit Garner
section
variable (g fb : Nat) (rs : Files) (fl dn : Bool) (left : Int) (w : World)
end
end Go.Proofs.YtmddgimadlmacaaDoor
