import Derived.Test.YtecejnilajbdpaaGreatDoorTz25
set_option maxRecDepth 100000
set_option maxHeartbeats 16000000
namespace Go.Proofs.YtecejnilajbdpaaGreatDoor
open Go.RowKit Garner
theorem lens_app : ∀ a m : List Re, lens (a ++ m) = lens a + lens m
 | [], m => by simp [lens]
 | t :: a, m => by rw [List.cons_append, lens, lens, lens_app a m]; omega
theorem codes_app : ∀ (a m : List Re) (p : Nat), codes (a ++ m) p = codes a p ++ codes m (p + lens a)
 | [], m, p => by simp [codes, lens]
 | t :: a, m, p => by
  show t.code p ++ codes (a ++ m) (p + t.len) = (t.code p ++ codes a (p + t.len)) ++ codes m (p + (t.len + lens a))
  rw [codes_app a m, List.append_assoc, Nat.add_assoc]
theorem codes_one (t : Re) (p : Nat) : codes [t] p = t.code p := by simp [codes]
theorem QK.from {B : Nat} {W0 w w' : World} (h : Below B W0 w) (q : QK B w w') : Below B W0 w' := h.trans q.low
theorem nodeSeq {F : Nat → Prop} {W0 : World} {B0 : Nat} {A : Option Addr} {c : Nat} {ns : List NodeP} (hN : NodesIs F W0 B0 (.slice A ns.length c) ns) (l : List Re) (hl : l.length ≤ 10000) (ih : ∀ t ∈ l, CodeC W0 A c ns t) : CodeC W0 A c ns (.seq l) := by
 intro b w g ins hat hBg hp hb hsz
 have hn := last_at (t := .seq l) (l := flats b l) rfl (by rw [flats_len]; rfl) hat
 have hat2 : AtN ns b (flats b l) := AtN.left (m := [_]) hat
 have hkl := (List.getElem?_eq_some_iff.1 hn).1
 obtain ⟨gN, d, rfl, hd, hok, hgN, hcell⟩ := hN.node hn
 obtain ⟨k, hk⟩ : ∃ k, b + Re.cnt (.seq l) - 1 = k := ⟨_, rfl⟩
 rw [hk] at hn hkl hcell ⊢
 obtain ⟨N, hNs⟩ : ∃ N, ins.length = N := ⟨_, rfl⟩
 have cc : ∀ j, j < 5 → w.cell? ⟨gN, k * 5 + j, none⟩ = d.cells[j]? := fun j hj => by
  rw [hb.cell (p := ⟨gN, k * 5 + j, none⟩) hgN, hcell j hj]
 have c0 : w.cell? ⟨gN, k * 5, none⟩ = some (.int .i64 (d.n.kind : Nat)) := cc 0 (by omega)
 have c1 : w.cell? ⟨gN, k * 5 + 1, none⟩ = some (.slice d.kA d.n.kids.length d.kc) := cc 1 (by omega)
 have c2 : w.cell? ⟨gN, k * 5 + 2, none⟩ = some (.int .i64 (d.n.mn : Nat)) := cc 2 (by omega)
 have c3 : w.cell? ⟨gN, k * 5 + 3, none⟩ = some (.int .i64 d.n.mx) := cc 3 (by omega)
 have c4 : w.cell? ⟨gN, k * 5 + 4, none⟩ = some (.slice d.sA d.n.set.length d.sc) := cc 4 (by omega)
 have hkids := hok.kids
 rw [hd] at c0 c1 c2 c3 c4 hkids
 have hg := hp.lt
 have f0 : w.cell? ⟨g, 0, none⟩ = some (.slice (some ⟨gN, 0, none⟩) ns.length c) := by
  obtain ⟨O, m, h1, -⟩ := hp.ex
  exact h1.cell 0
 obtain ⟨sA, hsA⟩ : ∃ sA, d.sA = sA := ⟨_, rfl⟩
 obtain ⟨sc, hsc⟩ : ∃ sc, d.sc = sc := ⟨_, rfl⟩
 obtain ⟨kA, hkA⟩ : ∃ kA, d.kA = kA := ⟨_, rfl⟩
 obtain ⟨kc, hkc⟩ : ∃ kc, d.kc = kc := ⟨_, rfl⟩
 rw [hsA, hsc] at c4
 rw [hkA, hkc] at c1
 rw [hkA] at hkids
 obtain ⟨kl, hkl2⟩ : ∃ kl, l.length = kl := ⟨_, rfl⟩
 dsimp only at c1 hkids
 rw [roots_length, hkl2] at c1 hkids
 rw [hkl2] at hl
 have hbX : Below w.heap.size w (w.alloc (.cells #[.int .i64 3, .slice kA kl kc, .int .i64 0, .int .i64 0, .slice sA 0 sc] 182)) := (Below.refl _ _).alloc (Nat.le_refl _) _
 have pX := hp.below hbX
 have hsz0 := hb.size
 have qX := QK.of_below hbX hsz0
 have z1 : (k : Int) < (ns.length : Int) := by omega
 have PX := Lh pX; have QX := Lh qX; have HB := Lh hb; have Hk := Lh hkids; have Hat := Lh hat2; have Hih := Lh ih; have Hkl2 := Lh hkl2; have Hsz := Lh hsz; have HNs := Lh hNs
 have e1 : ins ++ (Re.seq l).code ins.length = ins ++ codes l N := by rw [hNs]; rfl
 rw [e1]
 clear hcell cc hok hp pX hb hbX hat hat2 hn hN qX hkids ih hkl2 e1 hsz hNs
 go_enter Tryz.func93, Tryz.ntmps93
 go_wp2
 go_loopw [47] (fun i wr => ∃ j : Nat, j ≤ kl ∧ i = .int .i64 j ∧ Hid (ProgIs W0 W0.heap.size (.slice (some ⟨gN, 0, none⟩) ns.length c) wr g (ins ++ codes (l.take j) N)) ∧ Hid (QK W0.heap.size w wr)) (fun i _ => kl - (intOf i).toNat)
 case atStart => exact ⟨0, Nat.zero_le _, rfl, Lh (by simpa [codes] using PX.out), QX⟩
 obtain ⟨j, hj, rfl, hps, hq⟩ := hrel
 obtain ⟨wo, rfl⟩ : ∃ wo : World, wo = wr := ⟨_, rfl⟩
 have wk1 := wS j (by omega)
 by_cases hlt : j < kl
 ·obtain ⟨t, ht⟩ : ∃ t, l[j]? = some t := ⟨_, List.getElem?_eq_getElem (by rw [Hkl2.out]; exact hlt)⟩
  have hroot := kid_root ht b
  have hW : Below W0.heap.size W0 wo := QK.from HB.out hq.out
  have hrow := Hk.out.below hW
  obtain ⟨bk, ok, rfl, ck0⟩ := hrow.at_ (k := j) (u := iv _) (by rw [List.getElem?_map, hroot]; rfl)
  have hlens : lens (l.take j) + t.len ≤ lens l := by
   obtain ⟨a, m, e, -, h3, -⟩ := split_at ht
   rw [h3, e, lens_app, lens]; omega
  have hlc : (ins ++ codes (l.take j) N).length = N + lens (l.take j) := by rw [List.length_append, codes_len, HNs.out]
  have hszz := Hsz.out
  rw [HNs.out] at hszz
  have hc := Hih.out t (List.mem_of_getElem? ht) (b + cnts (l.take j)) wo g _ (kid_nodes ht Hat.out) hBg hps.out hW (by rw [hlc]; show _ ≤ _; have : (Re.seq l).len = lens l := rfl; omega)
  obtain ⟨r, hr⟩ : ∃ r, b + cnts (l.take j) + t.cnt - 1 = r := ⟨_, rfl⟩
  rw [hr] at hc ck0
  have ckid : wo.cell? ⟨bk, ok + j, none⟩ = some (.int .i64 (r : Nat)) := ck0
  have e2 : (ins ++ codes (l.take j) N) ++ t.code (ins ++ codes (l.take j) N).length = ins ++ codes (l.take (j + 1)) N := by
   obtain ⟨a, m, e, -, h3, h4⟩ := split_at ht
   rw [hlc, h3, h4, codes_app, codes_one, List.append_assoc]
  rw [e2] at hc
  have HC := Lh hc
  have z2 : (j : Int) < (kl : Int) := by omega
  clear hc e2 hr ck0 hlc hlens hrow hW hroot ht hps hszz
  go_wp2_with fail
  refine HC.out.mono ?_
  rintro e w2 ⟨rfl, p2, q2⟩
  have P2 := Lh p2; have Q2 := Lh q2
  clear p2 q2
  go_wp2
  go_roundw
  case rel => exact ⟨j + 1, by omega, rfl, P2, Lh (hq.out.trans Q2.out)⟩
  case measure => simp [intOf]; omega
 have z2 : ¬ (j : Int) < (kl : Int) := by omega
 obtain rfl : j = kl := by omega
 have hfin := hps.out
 rw [List.take_of_length_le (by rw [Hkl2.out]; exact Nat.le_refl _)] at hfin
 have HF := Lh hfin
 clear hfin hps
 go_wp2_with fail
 go_end0
 exact ⟨rfl, HF.out, hq.out⟩
theorem inst_at : ∀ {ds : List InstD} {k : Nat} {d : InstD}, ds[k]? = some d → ∀ j, j < 4 → (ds.flatMap InstD.cells)[k * 4 + j]? = d.cells[j]?
 | [], k, d, h, j, hj => by simp at h
 | x :: ds, 0, d, h, j, hj => by
  simp at h; subst h
  rw [List.flatMap_cons, List.getElem?_append_left (by show 0 * 4 + j < 4; omega), Nat.zero_mul, Nat.zero_add]
 | x :: ds, k + 1, d, h, j, hj => by
  have ih := inst_at (ds := ds) (k := k) (d := d) (by simpa using h) j hj
  have hl : x.cells.length = 4 := rfl
  rw [List.flatMap_cons, List.getElem?_append_right (by omega), hl, show (k + 1) * 4 + j - 4 = k * 4 + j by omega]
  exact ih
theorem inst_set : ∀ {ds : List InstD} {k : Nat} {d : InstD}, ds[k]? = some d → ∀ (j : Nat) (u : Value) (d' : InstD), j < 4 → d'.cells = d.cells.set j u → (ds.flatMap InstD.cells).set (k * 4 + j) u = (ds.set k d').flatMap InstD.cells
 | [], k, d, h, j, u, d', hj, e => by simp at h
 | x :: ds, 0, d, h, j, u, d', hj, e => by
  simp at h; subst h
  rw [List.flatMap_cons, List.set_append, if_pos (by show 0 * 4 + j < 4; omega), Nat.zero_mul, Nat.zero_add, List.set_cons_zero, List.flatMap_cons, e]
 | x :: ds, k + 1, d, h, j, u, d', hj, e => by
  have ih := inst_set (ds := ds) (k := k) (d := d) (by simpa using h) j u d' hj e
  have hl : x.cells.length = 4 := rfl
  rw [List.flatMap_cons, List.set_append, if_neg (by omega), hl, show (k + 1) * 4 + j - 4 = k * 4 + j by omega, ih, List.set_cons_succ, List.flatMap_cons]
theorem ProgIs.patch {W0 : World} {B : Nat} {L : Value} {w : World} {g : Nat} {ins : List InstP} (h : ProgIs W0 B L w g ins) {f : Nat} {p : InstP} (hf : ins[f]? = some p) :
  ∃ gI m, w.cell? ⟨g, 1, none⟩ = some (.slice (some ⟨gI, 0, none⟩) ins.length m) ∧ (w.cell? ⟨gI, f * 4 + 1, none⟩ = some (.int .i64 p.x) ∧ w.frozen? ⟨gI, f * 4 + 1, none⟩ = false) ∧ (w.cell? ⟨gI, f * 4 + 2, none⟩ = some (.int .i64 p.y) ∧ w.frozen? ⟨gI, f * 4 + 2, none⟩ = false) ∧
   (∀ x : Nat, ProgIs W0 B L (w.setCell ⟨gI, f * 4 + 1, none⟩ (.int .i64 x)) g (ins.set f ⟨p.kind, x, p.y, p.runes⟩) ∧ QK B w (w.setCell ⟨gI, f * 4 + 1, none⟩ (.int .i64 x)) ∧ (w.setCell ⟨gI, f * 4 + 1, none⟩ (.int .i64 x)).cell? ⟨g, 1, none⟩ = some (.slice (some ⟨gI, 0, none⟩) ins.length m) ∧ (w.setCell ⟨gI, f * 4 + 1, none⟩ (.int .i64 x)).cell? ⟨gI, f * 4 + 2, none⟩ = some (.int .i64 p.y) ∧ (w.setCell ⟨gI, f * 4 + 1, none⟩ (.int .i64 x)).frozen? ⟨gI, f * 4 + 2, none⟩ = false) ∧
   (∀ y : Nat, ProgIs W0 B L (w.setCell ⟨gI, f * 4 + 2, none⟩ (.int .i64 y)) g (ins.set f ⟨p.kind, p.x, y, p.runes⟩) ∧ QK B w (w.setCell ⟨gI, f * 4 + 2, none⟩ (.int .i64 y)) ∧ (w.setCell ⟨gI, f * 4 + 2, none⟩ (.int .i64 y)).cell? ⟨g, 1, none⟩ = some (.slice (some ⟨gI, 0, none⟩) ins.length m) ∧ (w.setCell ⟨gI, f * 4 + 2, none⟩ (.int .i64 y)).cell? ⟨gI, f * 4 + 1, none⟩ = some (.int .i64 p.x) ∧ (w.setCell ⟨gI, f * 4 + 2, none⟩ (.int .i64 y)).frozen? ⟨gI, f * 4 + 1, none⟩ = false) := by
 have hnb := h.nb
 obtain ⟨O, m, hb, ds, hds, hown, hall⟩ := h.ex
 obtain ⟨hlt, -⟩ := List.getElem?_eq_some_iff.1 hf
 obtain ⟨gI, rfl, hBI, hgI, -, -, hc⟩ := own_at hown (by omega)
 have hf' := hf
 rw [← hds, List.getElem?_map] at hf'
 cases hd : ds[f]? with
 | none => rw [hd] at hf'; cases hf'
 | some d =>
 rw [hd] at hf'
 injection hf' with ep
 have hdm := hall d (List.mem_of_getElem? hd)
 have hne : g ≠ gI := fun e => by
  subst e
  obtain ⟨cs, t, z, h1, h2⟩ := own_typed hown g rfl
  unfold Blk at hb
  rw [hb] at h1
  cases h1
  exact absurd h2 (by decide)
 have key : ∀ (j : Nat) (v : Nat) (q : InstP), j < 4 → q.runes = p.runes → (⟨q, d.sA, d.sc⟩ : InstD).cells = d.cells.set j (.int .i64 v) →
   ProgIs W0 B L (w.setCell ⟨gI, f * 4 + j, none⟩ (.int .i64 v)) g (ins.set f q) ∧ QK B w (w.setCell ⟨gI, f * 4 + j, none⟩ (.int .i64 v)) := fun j v q hj hr hcs => by
  obtain ⟨o2, -⟩ := hown.stored (f * 4 + j) (.int .i64 v)
  rw [inst_set hd j _ ⟨q, d.sA, d.sc⟩ hj hcs] at o2
  obtain ⟨cs, t, z, h1, h2⟩ := own_typed hown gI rfl
  refine ⟨⟨⟨some ⟨gI, 0, none⟩, m, ?_, ds.set f ⟨q, d.sA, d.sc⟩, ?_, ?_, ?_⟩, by rw [List.length_set]; exact hnb⟩, ⟨(KeepT.refl _ w).setCell (p := ⟨gI, f * 4 + j, none⟩) h1 (by rw [h2]; simp) _, (Below.refl _ _).setCell (p := ⟨gI, f * 4 + j, none⟩) hBI _⟩⟩
  ·rw [List.length_set]
   unfold Blk at hb ⊢
   rw [← hb]
   exact Below.heap_setCell _ _ _ _ hne
  ·rw [List.map_set, hds]
  ·rw [List.length_set]; exact o2
  intro x hx
  rcases List.mem_or_eq_of_mem_set hx with hx | rfl
  ·exact hall x hx
  show RowT W0 _ d.sA q.runes.length (q.runes.map rv)
  rw [hr, ← ep]; exact hdm
 have hcellG : ∀ (j : Nat) (v : Value), (w.setCell ⟨gI, f * 4 + j, none⟩ v).cell? ⟨g, 1, none⟩ = some (.slice (some ⟨gI, 0, none⟩) ins.length m) := fun j v => by
  rw [World.cell?_setCell_other _ _ _ _ (fun e => hne (congrArg Addr.block e).symm)]
  exact hb.cell 1
 have hx : w.cell? ⟨gI, f * 4 + 1, none⟩ = some (.int .i64 p.x) := by rw [hc _ (by omega), inst_at hd 1 (by omega), ← ep]; rfl
 have hy : w.cell? ⟨gI, f * 4 + 2, none⟩ = some (.int .i64 p.y) := by rw [hc _ (by omega), inst_at hd 2 (by omega), ← ep]; rfl
 refine ⟨gI, m, hb.cell 1, ⟨hx, hown.frozenAt _⟩, ⟨hy, hown.frozenAt _⟩, fun x => ?_, fun y => ?_⟩
 ·obtain ⟨k1, k2⟩ := key 1 x ⟨p.kind, x, p.y, p.runes⟩ (by omega) rfl (by rw [← ep]; rfl)
  exact ⟨k1, k2, hcellG 1 _, by rw [World.cell?_setCell_other _ _ _ _ (fun e => (by injection e with _ e _; omega))]; exact hy, (hown.stored (f * 4 + 1) (.int .i64 x)).1.frozenAt _⟩
 obtain ⟨k1, k2⟩ := key 2 y ⟨p.kind, p.x, y, p.runes⟩ (by omega) rfl (by rw [← ep]; rfl)
 exact ⟨k1, k2, hcellG 2 _, by rw [World.cell?_setCell_other _ _ _ _ (fun e => (by injection e with _ e _; omega))]; exact hx, (hown.stored (f * 4 + 2) (.int .i64 y)).1.frozenAt _⟩
theorem repC_snoc (c : Nat → List InstP) (len : Nat) : ∀ (n p : Nat), repC c len (n + 1) p = repC c len n p ++ c (p + n * len)
 | 0, p => by simp [repC]
 | n + 1, p => by
  rw [repC, repC_snoc c len n (p + len), repC, List.append_assoc, show p + len + n * len = p + (n + 1) * len by rw [Nat.add_mul]; omega]
theorem set_mid {α : Type} (a : List α) (x y : α) (m : List α) {n : Nat} (h : a.length = n) : (a ++ x :: m).set n y = a ++ y :: m := by
 subst h
 rw [List.set_append, if_neg (Nat.lt_irrefl _), Nat.sub_self]; rfl
theorem vRepN {W0 : World} {A : Option Addr} {c : Nat} {ns : List NodeP} {k : Re} (hk : CodeC W0 A c ns k) (mn b : Nat) (hat : AtN ns b (k.flat b)) (hmn : mn ≤ 8) (kA : Option Addr) (kc : Nat) (sA : Option Addr) (sc : Nat) (w : World) (g : Nat) (ins : List InstP)
  (hkid : RowT W0 3 kA 1 [iv (b + k.cnt - 1)]) (hBg : W0.heap.size ≤ g) (hp : ProgIs W0 W0.heap.size (.slice A ns.length c) w g ins) (hb : Below W0.heap.size W0 w) (hsz : ins.length + (Re.rep k mn none).len ≤ 90000) :
  Calls Tryz.prog 129 #[.pointer (some ⟨g, 0, none⟩), .agg #[.int .i64 5, .slice kA 1 kc, .int .i64 (mn : Nat), .int .i64 (-1), .slice sA 0 sc]] w fun e w' => e = .returned (.tuple #[]) ∧ ProgIs W0 W0.heap.size (.slice A ns.length c) w' g (ins ++ (Re.rep k mn none).code ins.length) ∧ QK W0.heap.size w w' := by
 obtain ⟨N, hNs⟩ : ∃ N, ins.length = N := ⟨_, rfl⟩
 obtain ⟨len, hlen⟩ : ∃ len, k.len = len := ⟨_, rfl⟩
 obtain ⟨M, hM⟩ : ∃ M, N + mn * len = M := ⟨_, rfl⟩
 have hl1 : (Re.rep k mn none).len = mn * len + (len + 2) := by rw [← hlen]; rfl
 have hcode : ins ++ (Re.rep k mn none).code N = (ins ++ repC k.code len mn N) ++ (⟨1, M + 1, M + (len + 2), []⟩ :: (k.code (M + 1) ++ [⟨1, M, M, []⟩])) := by
  rw [← hM, ← hlen, List.append_assoc]; rfl
 have hr0 : ∀ j, (ins ++ repC k.code len j N).length = N + j * len := fun j => by
  rw [List.length_append, hNs, repC_len fun p => by rw [code_len, hlen]]
 obtain ⟨bk, ok, rfl, -⟩ := hkid.at_ (k := 0) (u := iv _) rfl
 rw [hl1, hNs] at hsz
 rw [hNs, hcode]
 obtain ⟨r, hr⟩ : ∃ r, b + k.cnt - 1 = r := ⟨_, rfl⟩
 have hck : ∀ wo : World, Below W0.heap.size W0 wo → wo.cell? ⟨bk, ok, none⟩ = some (.int .i64 (r : Nat)) := fun wo hW => by
  obtain ⟨b', o', e, h⟩ := (hkid.below hW).at_ (k := 0) (u := iv _) rfl
  cases e
  rw [hr] at h
  exact h
 have hcall : ∀ (wo : World) (X : List InstP), ProgIs W0 W0.heap.size (.slice A ns.length c) wo g X → Below W0.heap.size W0 wo → X.length + len ≤ 90000 → Calls Tryz.prog 93 #[.pointer (some ⟨g, 0, none⟩), .int .i64 (r : Nat)] wo fun e w' => e = .returned (.tuple #[]) ∧ ProgIs W0 W0.heap.size (.slice A ns.length c) w' g (X ++ k.code X.length) ∧ QK W0.heap.size wo w' := fun wo X h1 h2 h3 => by
  have := hk b wo g X hat hBg h1 h2 (by rw [hlen]; exact h3)
  rw [hr] at this
  exact this
 have hbX : Below w.heap.size w (w.alloc (.cells #[.int .i64 5, .slice (some ⟨bk, ok, none⟩) 1 kc, .int .i64 (mn : Nat), .int .i64 (-1), .slice sA 0 sc] 182)) := (Below.refl _ _).alloc (Nat.le_refl _) _
 obtain ⟨X, hX⟩ : ∃ X, X = w.alloc (.cells #[.int .i64 5, .slice (some ⟨bk, ok, none⟩) 1 kc, .int .i64 (mn : Nat), .int .i64 (-1), .slice sA 0 sc] 182) := ⟨_, rfl⟩
 have bX : Blk X w.heap.size 182 [.int .i64 5, .slice (some ⟨bk, ok, none⟩) 1 kc, .int .i64 (mn : Nat), .int .i64 (-1), .slice sA 0 sc] := by rw [hX]; exact Blk.new w _ _
 rw [← hX] at hbX
 have pX := hp.below hbX
 have qX := QK.of_below hbX hb.size
 have hWX : Below W0.heap.size W0 X := QK.from hb qX
 have x2 : X.cell? ⟨w.heap.size, 2, none⟩ = some (.int .i64 (mn : Nat)) := bX.cell 2
 have P0 := Lh pX; have QX := Lh qX; have HB := Lh hb; have Hr0 := Lh hr0; have Hck := Lh hck; have Hcall := Lh hcall; have BX := Lh bX; have HM := Lh hM; have Hsz := Lh hsz; have HNs := Lh hNs; have Hcl := Lh (fun p : Nat => (show (k.code p).length = len by rw [code_len, hlen]))
 clear hl1 hcode hr0 hkid hck hcall hp pX hbX qX hb hWX bX hk hat hM hsz hNs hr hlen
 go_enter Tryz.func129, Tryz.ntmps129
 clear x2
 go_wp2
 rw [← hX]
 clear hX
 go_loopw [10] (fun i wr => ∃ j : Nat, j ≤ mn ∧ i = .int .i64 j ∧ Hid (ProgIs W0 W0.heap.size (.slice A ns.length c) wr g (ins ++ repC k.code len j N)) ∧ Hid (QK W0.heap.size X wr)) (fun i _ => mn - (intOf i).toNat)
 case atStart => exact ⟨0, Nat.zero_le _, rfl, Lh (by simpa [repC] using P0.out), Lh (.refl _ _)⟩
 obtain ⟨j, hj, rfl, hps, hq⟩ := hrel
 obtain ⟨wo, rfl⟩ : ∃ wo : World, wo = wr := ⟨_, rfl⟩
 have wk1 := wS j (by omega)
 have hW : Below W0.heap.size W0 wo := QK.from (QK.from HB.out QX.out) hq.out
 have bo := hq.out.keep.blk BX.out (by decide)
 have y1 : wo.cell? ⟨w.heap.size, 1, none⟩ = some (.slice (some ⟨bk, ok, none⟩) 1 kc) := bo.cell 1
 have y3 : wo.cell? ⟨w.heap.size, 3, none⟩ = some (.int .i64 (-1)) := bo.cell 3
 have ckid := Hck.out wo hW
 by_cases hlt : j < mn
 ·have hjl : j * len + len ≤ mn * len := by
   have := Nat.mul_le_mul_right len (show j + 1 ≤ mn by omega)
   rw [Nat.add_mul] at this; omega
  have hszz := Hsz.out
  have hl0 := Hr0.out j
  have hc := Hcall.out wo _ hps.out hW (by rw [hl0]; omega)
  rw [hl0, List.append_assoc, ← repC_snoc] at hc
  have HC := Lh hc
  have z2 : (j : Int) < (mn : Int) := by omega
  clear hc hl0 hszz hjl hW bo
  go_wp2_with fail
  refine HC.out.mono ?_
  rintro e w2 ⟨rfl, p2, q2⟩
  have P2 := Lh p2; have Q2 := Lh q2
  clear p2 q2
  go_wp2
  go_roundw
  case rel => exact ⟨j + 1, by omega, rfl, P2, Lh (hq.out.trans Q2.out)⟩
  case measure => simp [intOf]; omega
 have z2 : ¬ (j : Int) < (mn : Int) := by omega
 obtain rfl : j = mn := by omega
 have hszz := Hsz.out
 have hl0 := Hr0.out j
 rw [HM.out] at hl0
 have hMM := HM.out
 obtain ⟨I1, hI1⟩ : ∃ I1, ins ++ repC k.code len j N = I1 := ⟨_, rfl⟩
 rw [hI1] at hps hl0
 have HI1 := Lh hI1
 have hh := vHere _ g I1 hps.out
 have hsW := hW.size
 have he := vEmit ⟨⟨1, M + 1, 0, []⟩, none, 0⟩ wo g I1 hps.out hsW hBg (by exact RowT.nil) (by omega)
 rw [hl0] at hh he
 have wM := wS M (by omega)
 have He := Lh he; have HW := Lh hW; have Hl0 := Lh hl0; have Bo := Lh bo
 clear he hW hI1 hl0 bo hszz hMM ckid
 go_wp2_with fail
 refine hh.mono ?_
 rintro e w1 ⟨rfl, rfl⟩
 go_wp2_with fail
 refine He.out.mono ?_
 rintro e w2 ⟨rfl, p2, q2⟩
 have hW2 := QK.from HW.out q2
 have b2 := q2.keep.blk Bo.out (by decide)
 have y12 : w2.cell? ⟨w.heap.size, 1, none⟩ = some (.slice (some ⟨bk, ok, none⟩) 1 kc) := b2.cell 1
 have ck2 := Hck.out w2 hW2
 have hl2 : (I1 ++ [(⟨1, M + 1, 0, []⟩ : InstP)]).length = M + 1 := by rw [List.length_append, Hl0.out]; rfl
 have hszz := Hsz.out
 have hMM := HM.out
 have hc := Hcall.out w2 _ p2 hW2 (by rw [hl2]; omega)
 rw [hl2] at hc
 have HC := Lh hc; have Q2 := Lh q2; have HW2 := Lh hW2
 clear p2 q2 hc hl2 hW2 b2 hszz hMM
 go_wp2_with fail
 refine HC.out.mono ?_
 rintro e w3 ⟨rfl, p3, q3⟩
 have hW3 := QK.from HW2.out q3
 have hl3 : (I1 ++ [(⟨1, M + 1, 0, []⟩ : InstP)] ++ k.code (M + 1)).length = M + 1 + len := by rw [List.length_append, List.length_append, Hl0.out, Hcl.out]; rfl
 have e4 : I1 ++ [(⟨1, M + 1, 0, []⟩ : InstP)] ++ k.code (M + 1) ++ [⟨1, M, M, []⟩] = I1 ++ ((⟨1, M + 1, 0, []⟩ : InstP) :: (k.code (M + 1) ++ [⟨1, M, M, []⟩])) := by simp
 have hszz := Hsz.out
 have hMM := HM.out
 have hs3 := hW3.size
 have he := vEmit ⟨⟨1, M, M, []⟩, none, 0⟩ w3 g _ p3 hs3 hBg (by exact RowT.nil) (by rw [hl3]; omega)
 have f4 : (I1 ++ ((⟨1, M + 1, 0, []⟩ : InstP) :: (k.code (M + 1) ++ [⟨1, M, M, []⟩])))[M]? = some ⟨1, M + 1, 0, []⟩ := by
  rw [List.getElem?_append_right (by rw [Hl0.out]; exact Nat.le_refl _), Hl0.out, Nat.sub_self]; rfl
 have l4 : (I1 ++ ((⟨1, M + 1, 0, []⟩ : InstP) :: (k.code (M + 1) ++ [⟨1, M, M, []⟩]))).length = M + (len + 2) := by rw [← e4, List.length_append, hl3]; simp; omega
 rw [e4] at he
 have e5 := set_mid I1 (⟨1, M + 1, 0, []⟩ : InstP) ⟨1, M + 1, M + (len + 2), []⟩ (k.code (M + 1) ++ [⟨1, M, M, []⟩]) Hl0.out
 rw [← HI1.out] at e5
 obtain ⟨I4, hI4⟩ : ∃ I4, I1 ++ ((⟨1, M + 1, 0, []⟩ : InstP) :: (k.code (M + 1) ++ [⟨1, M, M, []⟩])) = I4 := ⟨_, rfl⟩
 rw [HI1.out] at e5
 rw [hI4] at he f4 l4 e5
 obtain ⟨N4, hN4⟩ : ∃ N4, M + (len + 2) = N4 := ⟨_, rfl⟩
 rw [hN4] at l4 e5
 rw [← HI1.out] at e5
 have He := Lh he; have HW3 := Lh hW3; have Q3 := Lh q3; have E5 := Lh e5; have F4 := Lh f4; have L4 := Lh l4; have HN4 := Lh hN4
 clear he hW3 q3 p3 hl3 e4 e5 f4 l4 hI4 hN4 hszz hMM hs3
 go_wp2_with fail
 refine He.out.mono ?_
 rintro e w4 ⟨rfl, p4, q4⟩
 have Q4 := Lh q4
 clear q4
 go_upto_region 9 with fail
 have pD : ProgIs W0 W0.heap.size (.slice A ns.length c) w4.drew g I4 := p4.below (Below.refl _ _).drew
 obtain ⟨gI, m, d1, -, d3, -, d5⟩ := pD.patch F4.out
 rw [L4.out] at d1 d5
 have z4 : (M : Int) < (N4 : Int) := by have := HN4.out; omega
 have sS : ProgIs W0 W0.heap.size (.slice A ns.length c) w4.drew g I4 ∧ w4.drew.cell? ⟨g, 1, none⟩ = some (.slice (some ⟨gI, 0, none⟩) N4 m) ∧ w4.drew.cell? ⟨gI, M * 4 + 2, none⟩ = some (.int .i64 (0 : Nat)) ∧ w4.drew.frozen? ⟨gI, M * 4 + 2, none⟩ = false := ⟨pD, d1, d3.1, d3.2⟩
 obtain ⟨p5, q5, -, -, -⟩ := d5 N4
 have P5 := Lh p5; have Q5 := Lh q5
 clear p5 q5 d5 p4 pD
 refine rgQ (fun w' => ProgIs W0 W0.heap.size (.slice A ns.length c) w' g I4 ∧ w'.cell? ⟨g, 1, none⟩ = some (.slice (some ⟨gI, 0, none⟩) N4 m) ∧ w'.cell? ⟨gI, M * 4 + 2, none⟩ = some (.int .i64 (0 : Nat)) ∧ w'.frozen? ⟨gI, M * 4 + 2, none⟩ = false) 9 (by kernel_rfl) (fun _ _ d _ _ h => by cases d <;> exact h) fun qP => ?_
 apply tkT 0 (by kernel_rfl) rfl (fun _ _ _ h => h) (by kernel_rfl) sS
 ·intro w' hS'; go_simp; exact ⟨rfl, rfl⟩
 apply tkT 1 (by kernel_rfl) rfl (fun _ _ _ h => h) (by kernel_rfl) sS
 ·intro w' hS'; go_simp; exact ⟨rfl, rfl⟩
 apply tkT 2 (by kernel_rfl) rfl (fun _ _ _ h => h) (by kernel_rfl) sS
 ·intro w' hS'; go_simp; exact ⟨rfl, rfl⟩
 apply tkT 3 (v := (.slice (some ⟨gI, 0, none⟩) N4 m)) (by kernel_rfl) rfl (fun _ _ _ h => h) (by kernel_rfl) sS
 ·intro w' hS'; have hk := hS'.2.1; go_simp; exact ⟨rfl, rfl⟩
 apply tkT 4 (by kernel_rfl) rfl (fun _ _ _ h => h) (by kernel_rfl) sS
 ·intro w' hS'; go_simp; exact ⟨rfl, rfl⟩
 apply tkT 5 (by kernel_rfl) rfl (fun _ _ _ h => h) (by kernel_rfl) sS
 ·intro w' hS'; go_simp; exact ⟨rfl, rfl⟩
 apply tkT 6 (v := (.int .i64 (N4 : Nat))) (by kernel_rfl) rfl (fun _ _ _ h => h) (by kernel_rfl) sS
 ·intro w' hS'
  (have hst := vHere w' g I4 hS'.1; rw [L4.out] at hst; go_simp; exact ⟨rfl, hst⟩)
 apply tkT 7 (v := (.pointer (some ⟨gI, M * 4, none⟩))) (by kernel_rfl) rfl (fun _ _ _ h => h) (by kernel_rfl) sS
 ·intro w' hS'
  (go_simp; exact ⟨rfl, rfl⟩)
 apply tkT 8 (v := (.pointer (some ⟨gI, M * 4 + 2, none⟩))) (by kernel_rfl) rfl (fun _ _ _ h => h) (by kernel_rfl) sS
 ·intro w' hS'
  (go_simp; exact ⟨rfl, rfl⟩)
 (try simp only [Act.put]); (try simp only [List.setIfInBounds_toArray]); (try simp only [List.set])
 have cs := sS.2.2.1
 have fs := sS.2.2.2
 refine rnL 9 (by kernel_rfl) rfl (by kernel_rfl) (fun K hK => ?_)
 go_simp
 refine hK _ _ (fun h => absurd rfl h) ?_
 clear hK K cs fs sS
 (try simp only [Act.put])
 refine dnL (by kernel_rfl) ?_ _
 have hfin := P5.out
 have hy : (⟨1, M + 1, N4, []⟩ : InstP) = ⟨1, M + 1, M + (len + 2), []⟩ := by rw [HN4.out]
 rw [E5.out, hy, List.append_assoc] at hfin
 have hq5 := ((((QX.out.trans hq.out).trans Q2.out).trans Q3.out).trans Q4.out).trans ((QK.of_below (Below.refl _ _).drew (QK.from HW3.out Q4.out).size).trans Q5.out)
 have HF := Lh hfin; have HQ := Lh hq5
 clear hfin hq5
 go_wp2
 refine bodyPost_ret (results_none rfl _ _ _) rfl ?_
 exact ⟨rfl, HF.out, HQ.out⟩
theorem optC_snoc (c : Nat → List InstP) (len e : Nat) : ∀ (n p : Nat), optC c len e (n + 1) p = optC c len e n p ++ (⟨1, p + n * (len + 1) + 1, e, []⟩ :: c (p + n * (len + 1) + 1))
 | 0, p => by simp [optC]
 | n + 1, p => by
  have ih := optC_snoc c len e n (p + (len + 1))
  rw [show p + (len + 1) + n * (len + 1) = p + (n + 1) * (len + 1) by rw [Nat.add_mul n 1]; omega] at ih
  rw [optC, ih, optC]
  simp
theorem KeepT.then_below {T : List TypeId} {a b c : World} (h : KeepT T a b) (k : Below a.heap.size b c) : KeepT T a c :=
 ⟨k.os.trans h.os, k.tape.trans h.tape, k.output.trans h.output, Nat.le_trans h.size k.size, fun i hi hn => by rw [k.block i hi, h.block i hi hn]⟩
theorem QK.then_below {B : Nat} {a b c : World} (h : QK B a b) (k : Below a.heap.size b c) (hB : B ≤ a.heap.size) : QK B a c := ⟨h.keep.then_below k, h.low.trans (k.mono hB)⟩
theorem ProgIs.keep {W0 : World} {B : Nat} {L : Value} {w w' : World} {g : Nat} {ins : List InstP} {T : List TypeId} (h : ProgIs W0 B L w g ins) (hk : KeepT T w w') (h1 : 157 ∉ T) (h2 : 160 ∉ T) : ProgIs W0 B L w' g ins := by
 obtain ⟨O, m, hb, ds, hds, hown, hall⟩ := h.ex
 exact ⟨⟨O, m, hk.blk hb h1, ds, hds, hk.own hown h2, hall⟩, h.nb⟩
theorem ProgIs.grown {W0 : World} {B : Nat} {L : Value} {w w' : World} {g : Nat} {ins : List InstP} (h : ProgIs W0 B L w g ins) {C n : Nat} {v : Value} {xs : List Value} (ho : w.ownsRow C 3 1 v n xs) (hg : w.grownBy w' v.ownBlock) : ProgIs W0 B L w' g ins :=
 h.keep (T := [3]) (.grown hg fun k hk => by
  obtain ⟨cs, t, z, h1, h2⟩ := own_typed ho k hk
  exact ⟨cs, t, z, h1, by rw [h2]; simp⟩) (by decide) (by decide)
theorem vRepM {W0 : World} {A : Option Addr} {c : Nat} {ns : List NodeP} {k : Re} (hk : CodeC W0 A c ns k) (mn mx b : Nat) (hat : AtN ns b (k.flat b)) (hmn : mn ≤ 8) (hmx : mx ≤ 8) (hle : mn ≤ mx) (kA : Option Addr) (kc : Nat) (sA : Option Addr) (sc : Nat) (w : World) (g : Nat) (ins : List InstP)
  (hkid : RowT W0 3 kA 1 [iv (b + k.cnt - 1)]) (hBg : W0.heap.size ≤ g) (hp : ProgIs W0 W0.heap.size (.slice A ns.length c) w g ins) (hb : Below W0.heap.size W0 w) (hsz : ins.length + (Re.rep k mn (some mx)).len ≤ 90000) :
  Calls Tryz.prog 129 #[.pointer (some ⟨g, 0, none⟩), .agg #[.int .i64 5, .slice kA 1 kc, .int .i64 (mn : Nat), .int .i64 (mx : Nat), .slice sA 0 sc]] w fun e w' => e = .returned (.tuple #[]) ∧ ProgIs W0 W0.heap.size (.slice A ns.length c) w' g (ins ++ (Re.rep k mn (some mx)).code ins.length) ∧ QK W0.heap.size w w' := by
 obtain ⟨N, hNs⟩ : ∃ N, ins.length = N := ⟨_, rfl⟩
 obtain ⟨len, hlen⟩ : ∃ len, k.len = len := ⟨_, rfl⟩
 obtain ⟨M, hM⟩ : ∃ M, N + mn * len = M := ⟨_, rfl⟩
 obtain ⟨T, hT⟩ : ∃ T, mx - mn = T := ⟨_, rfl⟩
 obtain ⟨E, hE⟩ : ∃ E, M + T * (len + 1) = E := ⟨_, rfl⟩
 have hl1 : (Re.rep k mn (some mx)).len = mn * len + T * (len + 1) := by rw [← hlen, ← hT]; rfl
 have hcode : ins ++ (Re.rep k mn (some mx)).code N = (ins ++ repC k.code len mn N) ++ optC k.code len E T M := by
  rw [← hE, ← hM, ← hlen, ← hT, List.append_assoc]; rfl
 have hr0 : ∀ j, (ins ++ repC k.code len j N).length = N + j * len := fun j => by
  rw [List.length_append, hNs, repC_len fun p => by rw [code_len, hlen]]
 obtain ⟨bk, ok, rfl, -⟩ := hkid.at_ (k := 0) (u := iv _) rfl
 rw [hl1, hNs] at hsz
 rw [hNs, hcode]
 obtain ⟨r, hr⟩ : ∃ r, b + k.cnt - 1 = r := ⟨_, rfl⟩
 have hck : ∀ wo : World, Below W0.heap.size W0 wo → wo.cell? ⟨bk, ok, none⟩ = some (.int .i64 (r : Nat)) := fun wo hW => by
  obtain ⟨b', o', e, h⟩ := (hkid.below hW).at_ (k := 0) (u := iv _) rfl
  cases e
  rw [hr] at h
  exact h
 have hcall : ∀ (wo : World) (X : List InstP), ProgIs W0 W0.heap.size (.slice A ns.length c) wo g X → Below W0.heap.size W0 wo → X.length + len ≤ 90000 → Calls Tryz.prog 93 #[.pointer (some ⟨g, 0, none⟩), .int .i64 (r : Nat)] wo fun e w' => e = .returned (.tuple #[]) ∧ ProgIs W0 W0.heap.size (.slice A ns.length c) w' g (X ++ k.code X.length) ∧ QK W0.heap.size wo w' := fun wo X h1 h2 h3 => by
  have := hk b wo g X hat hBg h1 h2 (by rw [hlen]; exact h3)
  rw [hr] at this
  exact this
 have hbX : Below w.heap.size w (w.alloc (.cells #[.int .i64 5, .slice (some ⟨bk, ok, none⟩) 1 kc, .int .i64 (mn : Nat), .int .i64 (mx : Nat), .slice sA 0 sc] 182)) := (Below.refl _ _).alloc (Nat.le_refl _) _
 obtain ⟨X, hX⟩ : ∃ X, X = w.alloc (.cells #[.int .i64 5, .slice (some ⟨bk, ok, none⟩) 1 kc, .int .i64 (mn : Nat), .int .i64 (mx : Nat), .slice sA 0 sc] 182) := ⟨_, rfl⟩
 have bX : Blk X w.heap.size 182 [.int .i64 5, .slice (some ⟨bk, ok, none⟩) 1 kc, .int .i64 (mn : Nat), .int .i64 (mx : Nat), .slice sA 0 sc] := by rw [hX]; exact Blk.new w _ _
 rw [← hX] at hbX
 have pX := hp.below hbX
 have qX := QK.of_below hbX hb.size
 have hWX : Below W0.heap.size W0 X := QK.from hb qX
 have x2 : X.cell? ⟨w.heap.size, 2, none⟩ = some (.int .i64 (mn : Nat)) := bX.cell 2
 have P0 := Lh pX; have QX := Lh qX; have HB := Lh hb; have Hr0 := Lh hr0; have Hck := Lh hck; have Hcall := Lh hcall; have BX := Lh bX; have HM := Lh hM; have Hsz := Lh hsz; have HNs := Lh hNs; have HE := Lh hE; have HT := Lh hT; have Hcl := Lh (fun p : Nat => (show (k.code p).length = len by rw [code_len, hlen]))
 clear hE hT hl1 hcode hr0 hkid hck hcall hp pX hbX qX hb hWX bX hk hat hM hsz hNs hr hlen
 go_enter Tryz.func129, Tryz.ntmps129
 clear x2
 go_wp2
 rw [← hX]
 clear hX
 go_loopw [10] (fun i wr => ∃ j : Nat, j ≤ mn ∧ i = .int .i64 j ∧ Hid (ProgIs W0 W0.heap.size (.slice A ns.length c) wr g (ins ++ repC k.code len j N)) ∧ Hid (QK W0.heap.size X wr)) (fun i _ => mn - (intOf i).toNat)
 case atStart => exact ⟨0, Nat.zero_le _, rfl, Lh (by simpa [repC] using P0.out), Lh (.refl _ _)⟩
 obtain ⟨j, hj, rfl, hps, hq⟩ := hrel
 obtain ⟨wo, rfl⟩ : ∃ wo : World, wo = wr := ⟨_, rfl⟩
 have wk1 := wS j (by omega)
 have hW : Below W0.heap.size W0 wo := QK.from (QK.from HB.out QX.out) hq.out
 have bo := hq.out.keep.blk BX.out (by decide)
 have y1 : wo.cell? ⟨w.heap.size, 1, none⟩ = some (.slice (some ⟨bk, ok, none⟩) 1 kc) := bo.cell 1
 have y3 : wo.cell? ⟨w.heap.size, 3, none⟩ = some (.int .i64 (mx : Nat)) := bo.cell 3
 have ckid := Hck.out wo hW
 by_cases hlt : j < mn
 ·have hjl : j * len + len ≤ mn * len := by
   have := Nat.mul_le_mul_right len (show j + 1 ≤ mn by omega)
   rw [Nat.add_mul] at this; omega
  have hszz := Hsz.out
  have hl0 := Hr0.out j
  have hc := Hcall.out wo _ hps.out hW (by rw [hl0]; omega)
  rw [hl0, List.append_assoc, ← repC_snoc] at hc
  have HC := Lh hc
  have z2 : (j : Int) < (mn : Int) := by omega
  clear hc hl0 hszz hjl hW bo
  go_wp2_with fail
  refine HC.out.mono ?_
  rintro e w2 ⟨rfl, p2, q2⟩
  have P2 := Lh p2; have Q2 := Lh q2
  clear p2 q2
  go_wp2
  go_roundw
  case rel => exact ⟨j + 1, by omega, rfl, P2, Lh (hq.out.trans Q2.out)⟩
  case measure => simp [intOf]; omega
 have z2 : ¬ (j : Int) < (mn : Int) := by omega
 obtain rfl : j = mn := by omega
 have hszz := Hsz.out
 have hl0 := Hr0.out j
 rw [HM.out] at hl0
 have hMM := HM.out
 obtain ⟨I1, hI1⟩ : ∃ I1, ins ++ repC k.code len j N = I1 := ⟨_, rfl⟩
 rw [hI1] at hps hl0
 have wT : IntKind.i64.wrap ((mx : Int) - (j : Int)) = (T : Int) := by rw [IntKind.wrap_i64]; have := HT.out; omega
 have zmx : ¬ (mx : Int) < 0 := by omega
 have hoL : ∀ i e, (optC k.code len e i M).length = i * (len + 1) := fun i e => optC_len Hcl.out i M
 have hEE := HE.out
 have hT8 : T ≤ 8 := by have := HT.out; omega
 have PS0 := Lh hps.out; have HI1 := Lh hI1; have Hl0 := Lh hl0; have HW := Lh hW; have HoL := Lh hoL; have HEE := Lh hEE
 have Hmx := Lh hle
 have hXs : X.heap.size ≤ wo.heap.size := hq.out.keep.size
 have y2 : wo.cell? ⟨w.heap.size, 2, none⟩ = some (.int .i64 (j : Nat)) := bo.cell 2
 have hB0 : W0.heap.size ≤ X.heap.size := (QK.from HB.out QX.out).size
 have HB0 := Lh hB0
 clear hW hI1 hl0 hps bo hszz hMM ckid hoL hEE hle hB0
 go_wp2
 go_loopw [5, 53] (fun v i wr => ∃ q : Nat, q ≤ T ∧ i = .int .i64 q ∧ wr.ownsRow X.heap.size 3 1 v q ((List.range q).map fun a => iv (M + a * (len + 1))) ∧ Hid (ProgIs W0 W0.heap.size (.slice A ns.length c) wr g (I1 ++ optC k.code len 0 q M)) ∧ Hid (QK W0.heap.size X wr)) (fun _ i _ => T - (intOf i).toNat)
 case atStart => exact ⟨0, Nat.zero_le _, rfl, World.ownsRow_nil _ _ _ _, Lh (by simpa [optC] using PS0.out), hq⟩
 obtain ⟨q, hqT, rfl, hown, hps, hq2⟩ := hrel
 obtain ⟨wp, rfl⟩ : ∃ wp : World, wp = wr := ⟨_, rfl⟩
 obtain ⟨A3, c3, rfl, hc3⟩ := own_form hown
 have wq1 := wS q (by omega)
 by_cases hlt2 : q < T
 ·have hW : Below W0.heap.size W0 wp := QK.from (QK.from HB.out QX.out) hq2.out
  have hlq : (I1 ++ optC k.code len 0 q M).length = M + q * (len + 1) := by rw [List.length_append, Hl0.out, HoL.out]
  have hqb : q * (len + 1) + (len + 1) ≤ T * (len + 1) := by
   have := Nat.mul_le_mul_right (len + 1) (show q + 1 ≤ T by omega)
   rw [Nat.add_mul q 1] at this; omega
  have hszz := Hsz.out
  have hMM := HM.out
  obtain ⟨P, hP⟩ : ∃ P, M + q * (len + 1) = P := ⟨_, rfl⟩
  have hP9 : P + (len + 1) ≤ 90000 := by omega
  have e1 := optC_snoc k.code len 0 q M
  rw [hP] at hlq e1
  obtain ⟨I2, hI2⟩ : ∃ I2, I1 ++ optC k.code len 0 q M = I2 := ⟨_, rfl⟩
  have e2 : (I2 ++ [(⟨1, P + 1, 0, []⟩ : InstP)]) ++ k.code (P + 1) = I1 ++ optC k.code len 0 (q + 1) M := by rw [e1, ← hI2]; simp
  rw [hI2] at hps hlq
  have hh := vHere _ g I2 hps.out
  have he := vEmit ⟨⟨1, P + 1, 0, []⟩, none, 0⟩ wp g I2 hps.out hW.size hBg (by exact RowT.nil) (by omega)
  rw [hlq] at hh he
  have wP := wS P (by omega)
  have z2 : (q : Int) < (T : Int) := by omega
  have He := Lh he; have HWp := Lh hW; have Hlq := Lh hlq; have E2 := Lh e2; have HP := Lh hP
  have hsX : X.heap.size ≤ wp.heap.size := hq2.out.keep.size
  clear he hW hlq e1 e2 hI2 hps hqb hszz hMM hP
  go_wp2_with fail
  refine hh.mono ?_
  rintro e w1 ⟨rfl, rfl⟩
  go_wp2_with fail
  refine He.out.mono ?_
  rintro e w2 ⟨rfl, p2, q2⟩
  have own2 := q2.keep.own hown (by decide)
  have P2 := Lh p2; have Q2 := Lh q2
  have hs2 := q2.keep.size
  clear p2 q2 hown
  go_upto_region 14 with (at_builtin; refine wpList_app _ rfl intE rfl rfl (own2.alloc _) rfl (row_new w2 _ [_]) (by simp [Value.oneCell']) (by first | omega | (simp; omega)) (by simp; omega) ?_; intro v8 w8 own8 hg8 hb8 hx8)
  have bA : Below w2.heap.size w2 (w2.alloc (.cells #[iv P] 3)) := (Below.refl _ _).alloc (Nat.le_refl _) _
  have p8 := (P2.out.below bA).grown (own2.alloc _) hg8
  have q8 := ((hq2.out.trans Q2.out).then_below ((bA.mono (by omega)).trans hb8) HB0.out)
  have hW8 : Below W0.heap.size W0 w8 := QK.from (QK.from HB.out QX.out) q8
  have b8 := q8.keep.blk BX.out (by decide)
  have y18 : w8.cell? ⟨w.heap.size, 1, none⟩ = some (.slice (some ⟨bk, ok, none⟩) 1 kc) := b8.cell 1
  have ck8 := Hck.out w8 hW8
  have hl8 : (I2 ++ [(⟨1, P + 1, 0, []⟩ : InstP)]).length = P + 1 := by rw [List.length_append, Hlq.out]; rfl
  have hc := Hcall.out w8 _ p8 hW8 (by rw [hl8]; omega)
  rw [hl8, E2.out] at hc
  have own9 : w8.ownsRow X.heap.size 3 1 v8 (q + 1) ((List.range (q + 1)).map fun a => iv (M + a * (len + 1))) := by
   rw [List.range_succ, List.map_append, List.map_cons, List.map_nil, HP.out]
   exact own8
  have HC := Lh hc; have Q8 := Lh q8; have O9 := Lh own9
  clear hc q8 own9 own8 own2 hg8 hb8 hx8 p8 hl8 hW8 b8 bA
  go_wp2_with fail
  refine HC.out.mono ?_
  rintro e w9 ⟨rfl, p9, q9⟩
  have o9 := q9.keep.own O9.out (by decide)
  have P9 := Lh p9; have Q9 := Lh q9; have OO := Lh o9
  clear p9 q9 o9
  go_wp2
  go_roundw
  case rel => exact ⟨q + 1, by omega, rfl, OO.out, P9, Lh (Q8.out.trans Q9.out)⟩
  case measure => simp [intOf]; omega
 obtain rfl : q = T := by omega
 have z2 : ¬ (q : Int) < (q : Int) := by omega
 have HP0 := Lh hps.out
 clear hps
 go_wp2
 go_loopw [73] (fun i wr => ∃ a : Nat, a ≤ q ∧ i = .int .i64 a ∧ wr.ownsRow X.heap.size 3 1 (.slice A3 q c3) q ((List.range q).map fun a => iv (M + a * (len + 1))) ∧ Hid (ProgIs W0 W0.heap.size (.slice A ns.length c) wr g (I1 ++ (optC k.code len E a M ++ optC k.code len 0 (q - a) (M + a * (len + 1))))) ∧ Hid (QK W0.heap.size X wr)) (fun i _ => q - (intOf i).toNat)
 case atStart => exact ⟨0, Nat.zero_le _, rfl, hown, Lh (by simpa [optC] using HP0.out), hq2⟩
 obtain ⟨a, ha, rfl, hown3, hps3, hq3⟩ := hrel
 obtain ⟨wu, rfl⟩ : ∃ wu : World, wu = wr := ⟨_, rfl⟩
 have wa1 := wS a (by omega)
 by_cases hlt3 : a < q
 ·have z3 : (a : Int) < (q : Int) := by omega
  obtain ⟨Pa, hPa⟩ : ∃ Pa, M + a * (len + 1) = Pa := ⟨_, rfl⟩
  obtain ⟨gF, e3, -, -, -, -, hcF⟩ := own_at hown3 (by omega)
  subst e3
  have cF : wu.cell? ⟨gF, a, none⟩ = some (.int .i64 (Pa : Nat)) := by
   rw [hcF a (by omega), List.getElem?_map, List.getElem?_range hlt3, ← hPa]; rfl
  obtain ⟨n, hn⟩ : ∃ n, q - a = n + 1 := ⟨q - a - 1, by omega⟩
  have e1 : I1 ++ (optC k.code len E a M ++ optC k.code len 0 (q - a) (M + a * (len + 1))) = (I1 ++ optC k.code len E a M) ++ ((⟨1, Pa + 1, 0, []⟩ : InstP) :: (k.code (Pa + 1) ++ optC k.code len 0 n (Pa + (len + 1)))) := by
   rw [hn, hPa, optC, List.append_assoc]
  have l1 : (I1 ++ optC k.code len E a M).length = Pa := by rw [List.length_append, Hl0.out, HoL.out, hPa]
  have e2 : (I1 ++ optC k.code len E a M) ++ ((⟨1, Pa + 1, E, []⟩ : InstP) :: (k.code (Pa + 1) ++ optC k.code len 0 n (Pa + (len + 1)))) = I1 ++ (optC k.code len E (a + 1) M ++ optC k.code len 0 (q - (a + 1)) (M + (a + 1) * (len + 1))) := by
   rw [optC_snoc, hPa, show q - (a + 1) = n by omega, show M + (a + 1) * (len + 1) = Pa + (len + 1) by rw [Nat.add_mul a 1]; omega]
   simp
  have lE : ((I1 ++ optC k.code len E a M) ++ ((⟨1, Pa + 1, 0, []⟩ : InstP) :: (k.code (Pa + 1) ++ optC k.code len 0 n (Pa + (len + 1))))).length = E := by
   rw [List.length_append, l1, List.length_cons, List.length_append, Hcl.out, optC_len Hcl.out, ← HEE.out, show q = a + (n + 1) by omega, Nat.add_mul a, Nat.add_mul n 1]
   omega
  have f4 : ((I1 ++ optC k.code len E a M) ++ ((⟨1, Pa + 1, 0, []⟩ : InstP) :: (k.code (Pa + 1) ++ optC k.code len 0 n (Pa + (len + 1)))))[Pa]? = some ⟨1, Pa + 1, 0, []⟩ := by
   rw [List.getElem?_append_right (by rw [l1]; exact Nat.le_refl _), l1, Nat.sub_self]; rfl
  have e5 := set_mid (I1 ++ optC k.code len E a M) (⟨1, Pa + 1, 0, []⟩ : InstP) ⟨1, Pa + 1, E, []⟩ (k.code (Pa + 1) ++ optC k.code len 0 n (Pa + (len + 1))) l1
  rw [e2] at e5
  have hps4 := hps3.out
  rw [e1] at hps4
  have hPE : Pa < E := by
   rw [← lE, List.length_append, l1, List.length_cons]; omega
  obtain ⟨I4, hI4⟩ : ∃ I4, (I1 ++ optC k.code len E a M) ++ ((⟨1, Pa + 1, 0, []⟩ : InstP) :: (k.code (Pa + 1) ++ optC k.code len 0 n (Pa + (len + 1)))) = I4 := ⟨_, rfl⟩
  rw [hI4] at lE f4 e5 hps4
  have hWu : Below W0.heap.size W0 wu := QK.from (QK.from HB.out QX.out) hq3.out
  have pD : ProgIs W0 W0.heap.size (.slice A ns.length c) wu.drew g I4 := hps4.below (Below.refl _ _).drew
  obtain ⟨gI, m, d1, -, d3, -, d5⟩ := pD.patch f4
  rw [lE] at d1 d5
  have z4 : (Pa : Int) < (E : Int) := by omega
  have sS : ProgIs W0 W0.heap.size (.slice A ns.length c) wu.drew g I4 ∧ wu.drew.cell? ⟨g, 1, none⟩ = some (.slice (some ⟨gI, 0, none⟩) E m) ∧ wu.drew.cell? ⟨gI, Pa * 4 + 2, none⟩ = some (.int .i64 (0 : Nat)) ∧ wu.drew.frozen? ⟨gI, Pa * 4 + 2, none⟩ = false := ⟨pD, d1, d3.1, d3.2⟩
  obtain ⟨p5, q5, -, -, -⟩ := d5 E
  rw [e5] at p5
  have hq5 := hq3.out.trans ((QK.of_below (Below.refl _ _).drew hWu.size).trans q5)
  have o5 := q5.keep.own (own_below hown3 (Below.refl _ _).drew) (by decide)
  have P5 := Lh p5; have Q5 := Lh hq5; have O5 := Lh o5; have L4 := Lh lE
  clear p5 q5 d5 pD hps4 hps3 e5 f4 lE l1 e1 e2 hI4 hWu hq5 o5 hcF hown3 hPa hn
  go_upto_region 19 with fail
  refine rgQ (fun w' => ProgIs W0 W0.heap.size (.slice A ns.length c) w' g I4 ∧ w'.cell? ⟨g, 1, none⟩ = some (.slice (some ⟨gI, 0, none⟩) E m) ∧ w'.cell? ⟨gI, Pa * 4 + 2, none⟩ = some (.int .i64 (0 : Nat)) ∧ w'.frozen? ⟨gI, Pa * 4 + 2, none⟩ = false) 9 (by kernel_rfl) (fun _ _ d _ _ h => by cases d <;> exact h) fun qP => ?_
  apply tkT 0 (by kernel_rfl) rfl (fun _ _ _ h => h) (by kernel_rfl) sS
  ·intro w' hS'; go_simp; exact ⟨rfl, rfl⟩
  apply tkT 1 (by kernel_rfl) rfl (fun _ _ _ h => h) (by kernel_rfl) sS
  ·intro w' hS'; go_simp; exact ⟨rfl, rfl⟩
  apply tkT 2 (by kernel_rfl) rfl (fun _ _ _ h => h) (by kernel_rfl) sS
  ·intro w' hS'; go_simp; exact ⟨rfl, rfl⟩
  apply tkT 3 (v := (.slice (some ⟨gI, 0, none⟩) E m)) (by kernel_rfl) rfl (fun _ _ _ h => h) (by kernel_rfl) sS
  ·intro w' hS'; have hk := hS'.2.1; go_simp; exact ⟨rfl, rfl⟩
  apply tkT 4 (by kernel_rfl) rfl (fun _ _ _ h => h) (by kernel_rfl) sS
  ·intro w' hS'; go_simp; exact ⟨rfl, rfl⟩
  apply tkT 5 (by kernel_rfl) rfl (fun _ _ _ h => h) (by kernel_rfl) sS
  ·intro w' hS'; go_simp; exact ⟨rfl, rfl⟩
  apply tkT 6 (v := (.int .i64 (E : Nat))) (by kernel_rfl) rfl (fun _ _ _ h => h) (by kernel_rfl) sS
  ·intro w' hS'
   (have hst := vHere w' g I4 hS'.1; rw [L4.out] at hst; go_simp; exact ⟨rfl, hst⟩)
  apply tkT 7 (v := (.pointer (some ⟨gI, Pa * 4, none⟩))) (by kernel_rfl) rfl (fun _ _ _ h => h) (by kernel_rfl) sS
  ·intro w' hS'
   (go_simp; exact ⟨rfl, rfl⟩)
  apply tkT 8 (v := (.pointer (some ⟨gI, Pa * 4 + 2, none⟩))) (by kernel_rfl) rfl (fun _ _ _ h => h) (by kernel_rfl) sS
  ·intro w' hS'
   (go_simp; exact ⟨rfl, rfl⟩)
  (try simp only [Act.put]); (try simp only [List.setIfInBounds_toArray]); (try simp only [List.set])
  have cs := sS.2.2.1
  have fs := sS.2.2.2
  refine rnL 9 (by kernel_rfl) rfl (by kernel_rfl) (fun K hK => ?_)
  go_simp
  refine hK _ _ (fun h => absurd rfl h) ?_
  clear hK K cs fs sS d1 d3
  (try simp only [Act.put])
  refine dnL (by kernel_rfl) ?_ _
  go_wp2
  go_roundw
  case rel => exact ⟨a + 1, by omega, rfl, O5.out, P5, Q5⟩
  case measure => simp [intOf]; omega
 have z3 : ¬ (a : Int) < (q : Int) := by omega
 obtain rfl : a = q := by omega
 have hfin := hps3.out
 rw [Nat.sub_self, optC, List.append_nil, ← HI1.out] at hfin
 have hq9 := QX.out.trans hq3.out
 have HF := Lh hfin; have HQ := Lh hq9
 clear hfin hq9 hps3 hown3
 go_wp2
 go_end0
 exact ⟨rfl, by first | exact HF.out | simpa using HF.out, HQ.out⟩
end Go.Proofs.YtecejnilajbdpaaGreatDoor
