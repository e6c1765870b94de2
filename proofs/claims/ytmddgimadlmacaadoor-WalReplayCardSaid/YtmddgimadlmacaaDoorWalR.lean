import Derived.Test.YtmddgimadlmacaaDoorWalF
/-! a log's life as plain data: closed files, the one that is written, changes that are left -/
namespace Go.Proofs.YtmddgimadlmacaaDoor
open Go.RowKit Garner

/-- closed files: whole frames, all synced -/
def fG : Nat → List (List Bs) → List (Bs × FileD)
  | _, [] => []
  | a, g :: G => (walNm (a + 1), (flat g, (flat g).length)) :: fG (a + 1) G
def fsX (G : List (List Bs)) (X : Option FileD) : List (Bs × FileD) := fG 0 G ++ match X with
  | none => []
  | some f => [(walNm (G.length + 1), f)]
theorem fG_keys : ∀ (G : List (List Bs)) (a : Nat) {x : Bs}, x ∈ (fG a G).map (·.1) → ∃ j, a ≤ j ∧ j < a + G.length ∧ x = walNm (j + 1)
  | [], _, x, h => by simp [fG] at h
  | g :: G, a, x, h => by
    simp only [fG, List.map_cons, List.mem_cons] at h
    rcases h with rfl | h
    · exact ⟨a, Nat.le_refl _, by simp, rfl⟩
    · obtain ⟨j, h1, h2, h3⟩ := fG_keys G (a + 1) h
      exact ⟨j, by omega, by simp only [List.length_cons]; omega, h3⟩
theorem fG_no {G : List (List Bs)} {a m : Nat} (h : m < a ∨ a + G.length ≤ m) : walNm (m + 1) ∉ (fG a G).map (·.1) := fun hm => by
  obtain ⟨j, h1, h2, e⟩ := fG_keys G a hm
  have := walNm_inj e
  omega
theorem fG_len : ∀ (G : List (List Bs)) (a : Nat), (fG a G).length = G.length
  | [], _ => rfl
  | g :: G, a => by simp only [fG, List.length_cons, fG_len G (a + 1)]
theorem fG_snoc : ∀ (G : List (List Bs)) (a : Nat) (g : List Bs), fG a (G ++ [g]) = fG a G ++ [(walNm (a + G.length + 1), (flat g, (flat g).length))]
  | [], a, g => rfl
  | h :: G, a, g => by
    simp only [List.cons_append, fG, List.length_cons]
    rw [fG_snoc G (a + 1) g, show a + 1 + G.length = a + (G.length + 1) by omega]
theorem aget_app {nm : Bs} {l r : List (Bs × FileD)} (h : nm ∉ l.map (·.1)) : aget nm (l ++ r) = aget nm r := by
  induction l with
  | nil => rfl
  | cons p l ih =>
    obtain ⟨b, u⟩ := p
    simp only [List.map_cons, List.mem_cons, not_or] at h
    simp only [List.cons_append, aget]
    rw [if_neg h.1, ih h.2]
theorem aput_app {nm : Bs} {v : FileD} {l r : List (Bs × FileD)} (h : nm ∉ l.map (·.1)) : aput nm v (l ++ r) = l ++ aput nm v r := by
  induction l with
  | nil => rfl
  | cons p l ih =>
    obtain ⟨b, u⟩ := p
    simp only [List.map_cons, List.mem_cons, not_or] at h
    simp only [List.cons_append, aput]
    rw [if_neg h.1, ih h.2]
theorem fG_last {G : List (List Bs)} : walNm (G.length + 1) ∉ (fG 0 G).map (·.1) := fG_no (Or.inr (by omega))
theorem fsX_get (G : List (List Bs)) (X : Option FileD) : aget (walNm (G.length + 1)) (fsX G X) = X := by
  unfold fsX
  rw [aget_app fG_last]
  cases X with
  | none => rfl
  | some f => simp [aget]
theorem fsX_put (G : List (List Bs)) (X : Option FileD) (f : FileD) : aput (walNm (G.length + 1)) f (fsX G X) = fsX G (some f) := by
  unfold fsX
  rw [aput_app fG_last]
  cases X with
  | none => rfl
  | some f' => simp [aput]
theorem fsX_next (G : List (List Bs)) (X : Option FileD) : walNm (G.length + 1 + 1) ∉ (fsX G X).map (·.1) := by
  unfold fsX
  rw [List.map_append, List.mem_append, not_or]
  refine ⟨fG_no (Or.inr (by omega)), ?_⟩
  cases X with
  | none => simp
  | some f => simp only [List.map_cons, List.map_nil, List.mem_singleton]; exact walNm_ne (by omega)
theorem fsX_len (G : List (List Bs)) (X : Option FileD) : (fsX G X).length ≤ G.length + 1 := by
  unfold fsX; rw [List.length_append, fG_len]; cases X <;> simp
theorem fsX_close (G : List (List Bs)) (C : List Bs) : fsX (G ++ [C]) none = fsX G (some (flat C, (flat C).length)) := by
  unfold fsX
  rw [fG_snoc, Nat.zero_add]; simp
/-- a restart: closed files stay, the last one keeps what was synced and perhaps more -/
theorem cut_fullA (keep : List Int) (j : Nat) (l : Bs) : cutD keep j (l, l.length) = (l, l.length) := by
  have h : keptN keep j (l, l.length) = l.length := by
    unfold keptN
    split
    · simp only; omega
    · rfl
  unfold cutD; rw [h]; simp
theorem cut_some (keep : List Int) (j : Nat) (b : Bs) (s : Nat) (hs : s ≤ b.length) : ∃ k, s ≤ k ∧ k ≤ b.length ∧ cutD keep j (b, s) = (b.take k, k) := by
  refine ⟨keptN keep j (b, s), ?_, ?_, rfl⟩
  · unfold keptN; split <;> simp only <;> omega
  · unfold keptN; split <;> simp only <;> omega
theorem rst_map (keep : List Int) (fs : List (Bs × FileD)) : rst keep fs = fs.map fun p => (p.1, cutD keep (List.idxOf p.1 (sortN (fs.map (·.1)))) p.2) := by
  unfold rst rstUp
  refine List.map_congr_left fun p hp => ?_
  have hm : p.1 ∈ sortN (fs.map (·.1)) := mem_sortN.2 (List.mem_map.2 ⟨p, hp, rfl⟩)
  have hlt := List.idxOf_lt_length_of_mem hm
  have hlt' := hlt
  rw [sortN_len, List.length_map] at hlt'
  rw [if_pos hlt']
theorem fG_cut (keep : List Int) (ns : List Bs) : ∀ (G : List (List Bs)) (a : Nat), (fG a G).map (fun p => (p.1, cutD keep (List.idxOf p.1 ns) p.2)) = fG a G
  | [], _ => rfl
  | g :: G, a => by simp only [fG, List.map_cons, cut_fullA, fG_cut keep ns G (a + 1)]
theorem rst_none (keep : List Int) (G : List (List Bs)) : rst keep (fsX G none) = fsX G none := by
  rw [rst_map]
  generalize sortN ((fsX G none).map (·.1)) = ns
  unfold fsX
  simp only [List.append_nil]
  exact fG_cut keep ns G 0
theorem rst_some (keep : List Int) (G : List (List Bs)) (b : Bs) (s : Nat) (hs : s ≤ b.length) : ∃ k, s ≤ k ∧ k ≤ b.length ∧ rst keep (fsX G (some (b, s))) = fsX G (some (b.take k, k)) := by
  rw [rst_map]
  generalize sortN ((fsX G (some (b, s))).map (·.1)) = ns
  obtain ⟨k, h1, h2, h3⟩ := cut_some keep (List.idxOf (walNm (G.length + 1)) ns) b s hs
  refine ⟨k, h1, h2, ?_⟩
  unfold fsX
  simp only [List.map_append, List.map_cons, List.map_nil]
  rw [fG_cut, h3]
/-- what is opened -/
theorem open_G {fl : Bool} {L : Int} {fs : List (Bs × FileD)} : ∀ (G : List (List Bs)) (a : Nat), a + G.length ≤ 1000 → (∀ g ∈ G, ∀ p ∈ g, p.length ≤ 65536) → (∀ j (hj : j < G.length), aget (walNm (a + j + 1)) fs = some (flat G[j], (flat G[j]).length)) →
    wOpen (a + 1) ⟨fs, fl, false, L⟩ = ((wOpen (a + G.length + 1) ⟨fs, fl, false, L⟩).1, (wOpen (a + G.length + 1) ⟨fs, fl, false, L⟩).2.1, G.flatten ++ (wOpen (a + G.length + 1) ⟨fs, fl, false, L⟩).2.2)
  | [], a, _, _, _ => by simp
  | g :: G, a, ha, hs, h => by
    simp only [List.length_cons] at ha
    have h0 := h 0 (by simp)
    simp only [Nat.add_zero, List.getElem_cons_zero] at h0
    have h1 := rd_some (n := a + 1) (by omega) (fl := fl) (L := L) h0
    have ih := open_G (fl := fl) (L := L) (fs := fs) G (a + 1) (by omega) (fun g' hg => hs g' (by simp [hg])) (fun j hj => by
      have := h (j + 1) (by simpa using hj)
      rw [show a + 1 + j + 1 = a + (j + 1) + 1 by omega]
      simpa using this)
    rw [wOpen_go (by omega) (by rw [h1]), h1, ih]
    simp only [held_flat0 (hs g (by simp)), List.length_cons, List.flatten_cons, List.append_assoc]
    rw [show a + 1 + G.length + 1 = a + (G.length + 1) + 1 by omega]
theorem fG_get : ∀ (G : List (List Bs)) (a j : Nat) (hj : j < G.length) (r : List (Bs × FileD)), aget (walNm (a + j + 1)) (fG a G ++ r) = some (flat G[j], (flat G[j]).length)
  | g :: G, a, 0, _, r => by simp [fG, aget]
  | g :: G, a, j + 1, hj, r => by
    simp only [fG, List.cons_append, aget]
    rw [if_neg (walNm_ne (by omega)), show a + (j + 1) + 1 = a + 1 + j + 1 by omega]
    exact fG_get G (a + 1) j (by simpa using hj) r
theorem open_none {G : List (List Bs)} {fl : Bool} {L : Int} (hG : G.length < 900) (hs : ∀ g ∈ G, ∀ p ∈ g, p.length ≤ 65536) : wOpen 1 ⟨fsX G none, fl, false, L⟩ = (0, G.length + 1, G.flatten) := by
  have h := open_G (fl := fl) (L := L) (fs := fsX G none) G 0 (by omega) hs (fun j hj => fG_get G 0 j hj _)
  rw [Nat.zero_add, Nat.zero_add] at h
  rw [h, wOpen_none (by omega) (by rw [rd_none (by omega) (fsX_get G none)])]
  simp
theorem open_some {G : List (List Bs)} {f : FileD} {fl : Bool} {L : Int} (hG : G.length < 900) (hs : ∀ g ∈ G, ∀ p ∈ g, p.length ≤ 65536) : wOpen 1 ⟨fsX G (some f), fl, false, L⟩ = (0, G.length + 2, G.flatten ++ held f.1) := by
  have h := open_G (fl := fl) (L := L) (fs := fsX G (some f)) G 0 (by omega) hs (fun j hj => fG_get G 0 j hj _)
  rw [Nat.zero_add, Nat.zero_add] at h
  have h1 := rd_some (n := G.length + 1) (by omega) (fl := fl) (L := L) (fsX_get G (some f))
  have h2 : wOpen (G.length + 1 + 1) ⟨fsX G (some f), fl, false, L⟩ = (0, G.length + 1 + 1, []) := wOpen_none (by omega) (by rw [rd_none (by omega) (aget_none (fsX_next G (some f)))])
  rw [h, wOpen_go (by omega) (by rw [h1]), h1, h2]
  simp
/-- a log's life -/
structure RS where
  G : List (List Bs)
  C : List Bs
  c : Nat
  wr : Bool
  left : Int
def RS.X (s : RS) : Option FileD := if s.wr then some (flat s.C, (flat (s.C.take s.c)).length) else none
def RS.d (s : RS) : AD := ⟨fsX s.G s.X, false, decide (s.left = 0), s.left⟩
def RS.L (s : RS) : WL := ⟨1, s.G.length + 1, s.wr⟩
def RS.had (s : RS) : List Bs := s.G.flatten ++ s.C
def RS.syn (s : RS) : Nat := s.G.flatten.length + s.c
structure RS.Ok (s : RS) (A : Int) : Prop where
  lo : 0 ≤ s.left
  hi : A ≤ 80
  cnt : 2 * (s.G.length : Int) + (if s.wr then 1 else 0) ≤ A - s.left
  cle : s.c ≤ s.C.length
  emp : s.wr = false → s.C = [] ∧ s.c = 0
  small : ∀ p ∈ s.had, p.length ≤ 65536
theorem RS.Ok.len {s : RS} {A : Int} (h : s.Ok A) : s.G.length ≤ 40 := by
  have h1 := h.lo; have h2 := h.hi; have h3 := h.cnt
  split at h3 <;> omega
theorem RS.Ok.smallG {s : RS} {A : Int} (h : s.Ok A) : ∀ g ∈ s.G, ∀ p ∈ g, p.length ≤ 65536 := fun g hg p hp => h.small p (List.mem_append_left _ (List.mem_flatten.2 ⟨g, hg, hp⟩))
theorem RS.Ok.smallC {s : RS} {A : Int} (h : s.Ok A) : ∀ p ∈ s.C, p.length ≤ 65536 := fun p hp => h.small p (List.mem_append_right _ hp)
def RS.app (p : Bs) (s : RS) : RS := ⟨s.G, s.C ++ [p], s.c, true, s.left - 1⟩
def RS.sync (s : RS) : RS := ⟨s.G, s.C, s.C.length, true, s.left - 1⟩
def RS.rot (s : RS) : RS := ⟨s.G ++ [s.C], [], 0, false, s.left⟩
theorem armed_ok {L : Int} (h : 0 < L) : armed L = L - 1 ∧ armedD L false = decide (L - 1 = 0) := by
  unfold armed armedD
  rw [if_pos h, if_pos h]
  refine ⟨rfl, ?_⟩
  by_cases h1 : L = 1
  · subst h1; rfl
  · rw [decide_eq_false h1, decide_eq_false (by omega)]
theorem RS.get (s : RS) {A : Int} (h : s.Ok A) : (fget (walNm (s.G.length + 1)) (fsX s.G s.X)) = (flat s.C, (flat (s.C.take s.c)).length) := by
  unfold fget
  rw [fsX_get]
  unfold RS.X
  cases hw : s.wr with
  | true => rfl
  | false =>
    obtain ⟨h1, h2⟩ := h.emp hw
    rw [h1, h2]; rfl
theorem RS.app_eq {s : RS} {A : Int} (h : s.Ok A) {p : Bs} (hp : ¬ 65536 < p.length) (hl : 0 < s.left) : wApp p s.L s.d = (0, (s.app p).L, (s.app p).d) ∧ (s.app p).Ok A := by
  have hlen := h.len
  obtain ⟨a1, a2⟩ := armed_ok hl
  have h1 := ap_up (walNm (s.G.length + 1)) (frB p) (fsX s.G s.X) s.left (dW0 (n := s.G.length + 1) (by omega))
  rw [s.get h, fsX_put, a1, a2] at h1
  have hd0 : decide (s.left = 0) = false := decide_eq_false (by omega)
  have e1 : flat s.C ++ frB p = flat (s.C ++ [p]) := by rw [flat_app, flat_one]
  have e2 : (s.C ++ [p]).take s.c = s.C.take s.c := by rw [List.take_append_of_le_length h.cle]
  refine ⟨?_, ?_⟩
  · unfold wApp
    rw [if_neg hp]
    simp only [RS.L, RS.d, hd0]
    rw [h1]
    simp only [RS.app, RS.X, if_true, e1, e2, decide_true, Bool.or_true]
    rfl
  · refine ⟨by show 0 ≤ s.left - 1; omega, h.hi, ?_, ?_, fun hw => by simp [RS.app] at hw, ?_⟩
    · have := h.cnt
      show 2 * (s.G.length : Int) + (if true = true then 1 else 0) ≤ A - (s.left - 1)
      rw [if_pos rfl]
      split at this <;> omega
    · show s.c ≤ (s.C ++ [p]).length
      rw [List.length_append]; have := h.cle; omega
    · intro q hq
      simp only [RS.had, RS.app] at hq
      rw [← List.append_assoc] at hq
      rcases List.mem_append.1 hq with hq | hq
      · exact h.small q hq
      · rw [List.mem_singleton] at hq; subst hq; omega
theorem RS.app_down {s : RS} {A : Int} (h : s.Ok A) {p : Bs} (hp : ¬ 65536 < p.length) (hl : s.left = 0) : wApp p s.L s.d = (23, s.L, s.d) := by
  have hlen := h.len
  have h1 := ap_dn (walNm (s.G.length + 1)) (frB p) (fsX s.G s.X) s.left (dW (n := s.G.length + 1) (by omega) true)
  have hd0 : decide (s.left = 0) = true := decide_eq_true hl
  unfold wApp
  rw [if_neg hp]
  simp only [RS.L, RS.d, hd0]
  rw [h1]
  simp
theorem RS.sync_no {s : RS} (hw : s.wr = false) : wSync s.L s.d = (0, s.d) := by
  unfold wSync; simp only [RS.L, hw]; rfl
theorem RS.sync_down {s : RS} {A : Int} (h : s.Ok A) (hw : s.wr = true) (hl : s.left = 0) : wSync s.L s.d = (23, s.d) := by
  have hlen := h.len
  have h1 := sy_dn (walNm (s.G.length + 1)) (fsX s.G s.X) s.left (dW (n := s.G.length + 1) (by omega) true)
  have hd0 : decide (s.left = 0) = true := decide_eq_true hl
  unfold wSync
  simp only [RS.L, RS.d, hd0, hw, if_true]
  rw [h1]
theorem RS.sync_eq {s : RS} {A : Int} (h : s.Ok A) (hw : s.wr = true) (hl : 0 < s.left) : wSync s.L s.d = (0, (s.sync).d) ∧ (s.sync).Ok A ∧ (s.sync).L = s.L := by
  have hlen := h.len
  obtain ⟨a1, a2⟩ := armed_ok hl
  have hX : s.X = some (flat s.C, (flat (s.C.take s.c)).length) := by unfold RS.X; rw [hw]; rfl
  have h1 := sy_up (walNm (s.G.length + 1)) (fsX s.G s.X) s.left _ (dW0 (n := s.G.length + 1) (by omega)) (by rw [fsX_get]; exact hX)
  rw [fsX_put, a1, a2] at h1
  have hd0 : decide (s.left = 0) = false := decide_eq_false (by omega)
  refine ⟨?_, ?_, ?_⟩
  · unfold wSync
    simp only [RS.L, RS.d, hd0, hw, if_true]
    rw [h1]
    simp only [RS.sync, RS.X, if_true, List.take_length]
    rfl
  · refine ⟨by show 0 ≤ s.left - 1; omega, h.hi, ?_, Nat.le_refl _, fun hw => by simp [RS.sync] at hw, h.small⟩
    have := h.cnt
    rw [hw, if_pos rfl] at this
    show 2 * (s.G.length : Int) + (if true = true then 1 else 0) ≤ A - (s.left - 1)
    rw [if_pos rfl]; omega
  · simp only [RS.L, RS.sync, hw]
theorem RS.sync_syn (s : RS) : (s.sync).syn = (s.sync).had.length ∧ (s.sync).had = s.had := ⟨by simp [RS.syn, RS.had, RS.sync], rfl⟩
theorem RS.no_syn {s : RS} {A : Int} (h : s.Ok A) (hw : s.wr = false) : s.syn = s.had.length := by
  obtain ⟨h1, h2⟩ := h.emp hw
  simp [RS.syn, RS.had, h1, h2]
theorem RS.rot_no {s : RS} {A : Int} (h : s.Ok A) (hw : s.wr = false) : wRot s.L = (0, s.L) := by
  have hlen := h.len
  have h1 : ¬ s.G.length + 1 = 1000000000 := by omega
  unfold wRot
  simp only [RS.L, h1, if_false, hw]; rfl
/-- behind a sync -/
theorem RS.rot_eq {s : RS} {A : Int} (h : (s.sync).Ok A) (h0 : s.Ok A) (hw : s.wr = true) : wRot (s.sync).L = (0, ((s.sync).rot).L) ∧ ((s.sync).rot).d = (s.sync).d ∧ ((s.sync).rot).Ok A ∧ ((s.sync).rot).had = s.had ∧ ((s.sync).rot).syn = s.had.length := by
  have hlen := h.len
  have h1 : ¬ (s.sync).G.length + 1 = 1000000000 := by omega
  refine ⟨?_, ?_, ?_, ?_, ?_⟩
  · unfold wRot
    simp only [RS.L, h1, if_false]
    simp only [RS.sync, RS.rot, if_true, List.length_append, List.length_singleton]
  · simp only [RS.d, RS.rot, RS.X, RS.sync, if_true, List.take_length]
    simp only [Bool.false_eq_true, if_false, fsX_close]
    rfl
  · refine ⟨h.lo, h.hi, ?_, Nat.le_refl _, fun _ => ⟨rfl, rfl⟩, fun p hp => h.small p (by simpa [RS.had, RS.rot] using hp)⟩
    have := h0.cnt
    rw [hw, if_pos rfl] at this
    show 2 * ((s.G ++ [s.C]).length : Int) + (if false = true then 1 else 0) ≤ A - (s.left - 1)
    rw [List.length_append, if_neg (by decide)]
    simp only [List.length_singleton]
    omega
  · simp [RS.had, RS.rot, RS.sync]
  · simp [RS.syn, RS.had, RS.rot, RS.sync]
abbrev nwB : Bs := [110, 101, 119]
theorem held_nw : held (frB nwB) = [nwB] := by rw [← flat_one, held_flat0 (by simp)]
theorem nw_small : ¬ 65536 < nwB.length := by decide
theorem nw_app {d : AD} {N : Nat} {fs fs' : List (Bs × FileD)} (hd : d = ⟨fs, false, false, -1⟩) (hN : N ≤ 1000) (hf : fget (walNm N) fs = ([], 0)) (hp : aput (walNm N) (frB nwB, 0) fs = fs') : wApp nwB ⟨1, N, false⟩ d = (0, ⟨1, N, true⟩, ⟨fs', false, false, -1⟩) := by
  subst hd
  have h1 := ap_up (walNm N) (frB nwB) fs (-1) (dW0 (n := N) (by omega))
  rw [hf] at h1
  simp only [List.nil_append] at h1
  rw [hp] at h1
  unfold wApp
  rw [if_neg nw_small, h1]; rfl
/-- what a crash leaves -/
structure After (s : RS) (keep : List Int) (d1 d2 : AD) (N : Nat) (P : List Bs) : Prop where
  rst : aRestart keep s.d = d1
  again : aRestart [] d1 = d1
  len1 : d1.fs.length ≤ 50
  opn : wOpen 1 d1 = (0, N, P)
  lo : s.syn ≤ P.length
  hi : P.length ≤ s.had.length
  beg : s.had.take P.length = P
  num : N ≤ 50
  num1 : 1 ≤ N
  fg : (fget (walNm N) d1.fs).1.length = 0
  app : wApp nwB ⟨1, N, false⟩ d1 = (0, ⟨1, N, true⟩, d2)
  opn2 : wOpen 1 d2 = (0, N + 1, P ++ [nwB])
theorem RS.Ok.after {s : RS} {A : Int} (h : s.Ok A) (keep : List Int) : ∃ d1 d2 N P, After s keep d1 d2 N P := by
  have hlen := h.len
  cases hw : s.wr with
  | false =>
    obtain ⟨h1, h2⟩ := h.emp hw
    have hX : s.X = none := by unfold RS.X; rw [hw]; rfl
    refine ⟨⟨fsX s.G none, false, false, -1⟩, ⟨fsX s.G (some (frB nwB, 0)), false, false, -1⟩, s.G.length + 1, s.G.flatten, ?_, ?_, ?_, ?_, ?_, ?_, ?_, by omega, by omega, ?_, ?_, ?_⟩
    · unfold aRestart RS.d; simp only; rw [hX, rst_none]
    · unfold aRestart; simp only; rw [rst_none]
    · have := fsX_len s.G none; simp only; omega
    · exact open_none (by omega) h.smallG
    · simp [RS.syn, h2]
    · simp [RS.had, h1]
    · simp only [RS.had, h1, List.append_nil, List.take_length]
    · unfold fget; simp only; rw [fsX_get]; rfl
    · exact nw_app rfl (by omega) (by unfold fget; rw [fsX_get]; rfl) (fsX_put _ _ _)
    · rw [open_some (by omega) h.smallG, held_nw]
  | true =>
    have hX : s.X = some (flat s.C, (flat (s.C.take s.c)).length) := by unfold RS.X; rw [hw]; rfl
    have hsl : (flat (s.C.take s.c)).length ≤ (flat s.C).length := by
      conv => rhs; rw [← List.take_append_drop s.c s.C]
      rw [flat_app, List.length_append]; omega
    obtain ⟨k, hk1, hk2, hk3⟩ := rst_some keep s.G (flat s.C) _ hsl
    obtain ⟨n, t, hn, hcut, ht, hend⟩ := flat_cut s.C h.smallC k
    have hcn : s.c ≤ n := (hend s.c h.cle).1 hk1
    have hsm : ∀ p ∈ s.C.take n, p.length ≤ 65536 := fun p hp => h.smallC p (List.mem_of_mem_take hp)
    have hheld : held ((flat s.C).take k) = s.C.take n := by rw [hcut, held_torn hsm ht]
    have hlk : ((flat s.C).take k).length = k := by rw [List.length_take]; omega
    refine ⟨⟨fsX s.G (some ((flat s.C).take k, k)), false, false, -1⟩, ⟨fsX s.G (some ((flat s.C).take k, k)) ++ [(walNm (s.G.length + 1 + 1), (frB nwB, 0))], false, false, -1⟩, s.G.length + 2, s.G.flatten ++ s.C.take n, ?_, ?_, ?_, ?_, ?_, ?_, ?_, by omega, by omega, ?_, ?_, ?_⟩
    · unfold aRestart RS.d; simp only; rw [hX, hk3]
    · unfold aRestart; simp only
      obtain ⟨k', h1, h2, h3⟩ := rst_some [] s.G ((flat s.C).take k) k (by omega)
      have : k' = k := by omega
      subst this
      rw [h3, List.take_take, Nat.min_self]
    · have := fsX_len s.G (some ((flat s.C).take k, k)); simp only; omega
    · rw [open_some (by omega) h.smallG, hheld]
    · rw [List.length_append, List.length_take]; simp only [RS.syn]; have := h.cle; omega
    · simp only [RS.had, List.length_append, List.length_take]; omega
    · simp only [RS.had]
      rw [List.length_append, List.take_length_add_append, List.length_take, Nat.min_eq_left hn]
    · simp only
      rw [fget_new (fsX_next _ _)]; rfl
    · exact nw_app rfl (by omega) (fget_new (fsX_next _ _)) (aput_new (fsX_next _ _))
    · have hg := open_G (fl := false) (L := -1) (fs := fsX s.G (some ((flat s.C).take k, k)) ++ [(walNm (s.G.length + 1 + 1), (frB nwB, 0))]) s.G 0 (by omega) h.smallG (fun j hj => by unfold fsX; rw [List.append_assoc]; exact fG_get s.G 0 j hj _)
      rw [Nat.zero_add, Nat.zero_add] at hg
      have hq1 : aget (walNm (s.G.length + 1)) (fsX s.G (some ((flat s.C).take k, k)) ++ [(walNm (s.G.length + 1 + 1), (frB nwB, 0))]) = some ((flat s.C).take k, k) := by
        unfold fsX; rw [List.append_assoc, aget_app fG_last]; simp [aget]
      have hq2 : aget (walNm (s.G.length + 1 + 1)) (fsX s.G (some ((flat s.C).take k, k)) ++ [(walNm (s.G.length + 1 + 1), (frB nwB, 0))]) = some (frB nwB, 0) := by
        rw [aget_app (fsX_next _ _)]; simp [aget]
      have hq3 : aget (walNm (s.G.length + 1 + 1 + 1)) (fsX s.G (some ((flat s.C).take k, k)) ++ [(walNm (s.G.length + 1 + 1), (frB nwB, 0))]) = none := by
        refine aget_none ?_
        rw [List.map_append, List.mem_append, not_or]
        refine ⟨?_, by simp only [List.map_cons, List.map_nil, List.mem_singleton]; exact walNm_ne (by omega)⟩
        unfold fsX
        rw [List.map_append, List.mem_append, not_or]
        exact ⟨fG_no (Or.inr (by omega)), by simp only [List.map_cons, List.map_nil, List.mem_singleton]; exact walNm_ne (by omega)⟩
      have r1 := rd_some (n := s.G.length + 1) (by omega) (fl := false) (L := -1) hq1
      have r2 := rd_some (n := s.G.length + 1 + 1) (by omega) (fl := false) (L := -1) hq2
      have r3 := rd_none (n := s.G.length + 1 + 1 + 1) (by omega) (fl := false) (L := -1) hq3
      rw [hg, wOpen_go (by omega) (by rw [r1]), wOpen_go (by omega) (by rw [r2]), wOpen_none (by omega) (by rw [r3]), r1, r2]
      simp only [hheld, held_nw, List.append_nil, List.append_assoc]
end Go.Proofs.YtmddgimadlmacaaDoor
