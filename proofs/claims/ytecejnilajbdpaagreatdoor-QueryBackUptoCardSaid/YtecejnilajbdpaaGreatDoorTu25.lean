import Derived.Test.YtecejnilajbdpaaGreatDoorTu20
import Derived.Test.YtecejnilajbdpaaGreatDoorTu13
import Derived.Test.YtecejnilajbdpaaGreatDoorTu24
import Derived.Test.YtecejnilajbdpaaGreatDoorTu06
import Derived.Lib.DecodeN
import Derived.Deep.QuietTactic
import Derived.BigQuiet
import Derived.Deep.CutBlock
/-! a text's runes one behind the other; what rexp.Parse answers -/
namespace Garner
open Go
theorem iter_next (l : Bs) (pos : Nat) (h : pos < l.length) : ∃ r q, Utf8.decode ⟨l.toArray⟩ pos = (r, q) ∧ 1 ≤ q ∧ r ≤ 1114111 ∧ runesP (l.drop pos) = r :: runesP (l.drop (pos + q)) := by
  have hd := Lib.decodeL_drop ⟨l.toArray⟩ pos
  have e : (⟨l.toArray⟩ : ByteArray).data.toList = l := by simp
  rw [e] at hd
  have hne : l.drop pos ≠ [] := fun e => by
    have := congrArg List.length e
    rw [List.length_drop] at this
    simp only [List.length_nil] at this
    omega
  refine ⟨(Utf8.decode ⟨l.toArray⟩ pos).1, (Utf8.decode ⟨l.toArray⟩ pos).2, rfl, ?_, ?_, ?_⟩
  · rw [← hd]; exact Lib.decodeL_width _
  · rw [← hd]; exact Lib.decodeL_rune _
  · rw [runes_step hne, hd, List.drop_drop]
/-- of the runes so many are behind -/
structure RunAt (l : Bs) (rs : List Nat) (pos k : Nat) : Prop where
  at_ : rs.drop k = runesP (l.drop pos)
  le : k ≤ rs.length
theorem RunAt.start (l : Bs) : RunAt l (runesP l) 0 0 := ⟨rfl, Nat.zero_le _⟩
theorem RunAt.next {l : Bs} {rs : List Nat} {pos k r q : Nat} (h : RunAt l rs pos k) (hr : runesP (l.drop pos) = r :: runesP (l.drop (pos + q))) : rs[k]? = some r ∧ RunAt l rs (pos + q) (k + 1) := by
  have h1 := h.at_.trans hr
  have hk : rs[k]? = some r := by
    have : (rs.drop k)[0]? = some r := by rw [h1]; rfl
    rwa [List.getElem?_drop, Nat.add_zero] at this
  have hlt := (List.getElem?_eq_some_iff.1 hk).1
  refine ⟨hk, ?_, hlt⟩
  have : (rs.drop k).drop 1 = runesP (l.drop (pos + q)) := by rw [h1]; rfl
  rwa [List.drop_drop] at this
theorem RunAt.done {l : Bs} {rs : List Nat} {pos k : Nat} (h : RunAt l rs pos k) (hp : ¬ pos < l.length) : k = rs.length := by
  have h1 := h.at_
  rw [List.drop_eq_nil_of_le (by omega : l.length ≤ pos)] at h1
  have := congrArg List.length h1
  rw [List.length_drop] at this
  have h2 := h.le
  have h3 : (runesP ([] : Bs)).length = 0 := rfl
  omega
end Garner
namespace Go.Proofs.YtecejnilajbdpaaGreatDoor
open Go.RowKit Garner
theorem err_pos {l : Bs} {k : Nat} (h : rexpP l = .error k) : 0 < k ∧ k ≤ 40 := by
  unfold rexpP at h
  split at h
  · cases h; omega
  split at h
  · cases h; omega
  · unfold readR at h
    split at h
    · cases h; omega
    · split at h
      · cases h; omega
      split at h
      · cases h; omega
      split at h
      · cases h; omega
      · cases h
theorem rexp_good {l : Bs} {t : Re} (h : rexpP l = .ok t) : GoodT t := by
  unfold rexpP at h
  split at h
  · cases h
  · rename_i hl
    split at h
    · cases h
    · exact read_good (by have := runes_len _ l (Nat.le_refl _); omega) h
end Go.Proofs.YtecejnilajbdpaaGreatDoor

/-! autom: the program in memory; here, emit -/
namespace Go.Proofs.YtecejnilajbdpaaGreatDoor
open Go.RowKit Garner
/-- an instruction, and where its runes lie -/
structure InstD where
  p : InstP
  sA : Option Addr
  sc : Nat
def InstD.cells (d : InstD) : List Value := [.int .i64 d.p.kind, .int .i64 d.p.x, .int .i64 d.p.y, .slice d.sA d.p.runes.length d.sc]
theorem inst_one (ds : List InstD) : ∀ u ∈ ds.flatMap InstD.cells, u.oneCell' = true := by
  intro u hu
  obtain ⟨d, -, h⟩ := List.mem_flatMap.1 hu
  simp [InstD.cells] at h
  rcases h with rfl | rfl | rfl | rfl <;> rfl
theorem instE : Elem Tryz.prog 155 160 (.agg #[.int .i64 0, .int .i64 0, .int .i64 0, .slice none 0 0]) 4 48 := ⟨Tryz.underlying155, by kernel_rfl, rfl, by omega, by omega⟩
/-- what a program is made of; the runes' rows lay there at W0 -/
structure ProgIs (W0 : World) (B : Nat) (L : Value) (w : World) (g : Nat) (ins : List InstP) : Prop where
  ex : ∃ O m, Blk w g 157 [L, .slice O ins.length m] ∧ ∃ ds : List InstD, ds.map (·.p) = ins ∧ w.ownsRow B 160 4 (.slice O ins.length m) ins.length (ds.flatMap InstD.cells) ∧ ∀ d ∈ ds, RowT W0 21 d.sA d.p.runes.length (d.p.runes.map rv)
  nb : ins.length ≤ 200000
/-- what a call of the program's leaves as it was -/
structure QK (B : Nat) (w w' : World) : Prop where
  keep : KeepT [157, 160] w w'
  low : Below B w w'
theorem QK.refl (B : Nat) (w : World) : QK B w w := ⟨.refl _ _, .refl _ _⟩
theorem QK.trans {B : Nat} {a b c : World} (h : QK B a b) (k : QK B b c) : QK B a c := ⟨h.keep.trans k.keep, h.low.trans k.low⟩
theorem QK.of_below {B : Nat} {w w' : World} (h : Below w.heap.size w w') (hB : B ≤ w.heap.size) : QK B w w' := ⟨.of_below h, h.mono hB⟩
theorem ProgIs.below {W0 : World} {B : Nat} {L : Value} {w w' : World} {g : Nat} {ins : List InstP} (h : ProgIs W0 B L w g ins) (hb : Below w.heap.size w w') : ProgIs W0 B L w' g ins := by
  obtain ⟨O, m, h1, ds, h2, h3, h4⟩ := h.ex
  exact ⟨⟨O, m, h1.below hb h1.lt, ds, h2, own_below h3 hb, h4⟩, h.nb⟩
theorem ProgIs.lt {W0 : World} {B : Nat} {L : Value} {w : World} {g : Nat} {ins : List InstP} (h : ProgIs W0 B L w g ins) : g < w.heap.size := by
  obtain ⟨O, m, h1, -⟩ := h.ex
  exact h1.lt
set_option maxRecDepth 100000 in
theorem vHere {W0 : World} {B : Nat} {L : Value} (w : World) (g : Nat) (ins : List InstP) (h : ProgIs W0 B L w g ins) :
    Calls Tryz.prog 127 #[.pointer (some ⟨g, 0, none⟩)] w fun e w' => e = .returned (.int .i64 (ins.length : Nat)) ∧ w' = w := by
  obtain ⟨O, m, hb, -⟩ := h.ex
  obtain ⟨n, hn⟩ : ∃ n, ins.length = n := ⟨_, rfl⟩
  rw [hn] at hb ⊢
  have c1 : w.cell? ⟨g, 1, none⟩ = some (.slice O n m) := hb.cell 1
  clear hn
  go_enter Tryz.func127, Tryz.ntmps127
  go_wp2
  go_ret
  exact ⟨rfl, rfl⟩
set_option maxRecDepth 100000 in
set_option maxHeartbeats 4000000 in
theorem vEmit {W0 : World} {B : Nat} {L : Value} (d : InstD) (w : World) (g : Nat) (ins : List InstP) (h : ProgIs W0 B L w g ins) (hB : B ≤ w.heap.size) (hgB : B ≤ g) (hd : RowT W0 21 d.sA d.p.runes.length (d.p.runes.map rv)) (hn : ins.length < 100000) :
    Calls Tryz.prog 94 #[.pointer (some ⟨g, 0, none⟩), .agg #[.int .i64 d.p.kind, .int .i64 d.p.x, .int .i64 d.p.y, .slice d.sA d.p.runes.length d.sc]] w fun e w' => e = .returned (.int .i64 (ins.length : Nat)) ∧ ProgIs W0 B L w' g (ins ++ [d.p]) ∧ QK B w w' := by
  obtain ⟨O, m, hb, ds, hds, hown, hall⟩ := h.ex
  obtain ⟨N, hN⟩ : ∃ N, ins.length = N := ⟨_, rfl⟩
  have hg := hb.lt
  obtain ⟨X, hX⟩ : ∃ X, X = w.alloc (.cells d.cells.toArray 160) := ⟨_, rfl⟩
  have hwX : Below w.heap.size w X := by rw [hX]; exact (Below.refl _ _).alloc (Nat.le_refl _) _
  have bX : Blk X w.heap.size 160 d.cells := by rw [hX]; exact Blk.new w _ _
  have bP := hb.below hwX hb.lt
  have oX := own_below hown hwX
  rw [hN] at bP oX
  have hX' : X = w.alloc (.cells #[.int .i64 d.p.kind, .int .i64 d.p.x, .int .i64 d.p.y, .slice d.sA d.p.runes.length d.sc] 160) := hX
  go_enter Tryz.func94, Tryz.ntmps94
  go_upto_region 1 with fail
  rw [← hX']
  clear hX hX'
  have sS : Blk X.drew g 157 [L, .slice O N m] ∧ Blk X.drew w.heap.size 160 d.cells := ⟨bP, bX⟩
  refine wp_region_N (fun w' => Blk w' g 157 [L, .slice O N m] ∧ Blk w' w.heap.size 160 d.cells) 10 (by kernel_rfl) ?_
  apply wpAnyN_takeL 0 (by kernel_rfl) rfl (fun _ _ _ h => h) (by kernel_rfl) sS
  · intro w' hS'
    go_simp; exact ⟨rfl, rfl⟩
  (try simp only [Act.put]); (try simp only [List.setIfInBounds_toArray]); (try simp only [List.set])
  apply wpAnyN_takeL 1 (by kernel_rfl) rfl (fun _ _ _ h => h) (by kernel_rfl) sS
  · intro w' hS'
    go_simp; exact ⟨rfl, rfl⟩
  (try simp only [Act.put]); (try simp only [List.setIfInBounds_toArray]); (try simp only [List.set])
  apply wpAnyN_takeL 2 (by kernel_rfl) rfl (fun _ _ _ h => h) (by kernel_rfl) sS
  · intro w' hS'
    go_simp; exact ⟨rfl, rfl⟩
  (try simp only [Act.put]); (try simp only [List.setIfInBounds_toArray]); (try simp only [List.set])
  apply wpAnyN_takeL 3 (by kernel_rfl) rfl (fun _ _ _ h => h) (by kernel_rfl) sS
  · intro w' hS'
    go_simp; exact ⟨rfl, rfl⟩
  (try simp only [Act.put]); (try simp only [List.setIfInBounds_toArray]); (try simp only [List.set])
  apply wpAnyN_takeL 4 (v := (.slice O N m)) (by kernel_rfl) rfl (fun _ _ _ h => h) (by kernel_rfl) sS
  · intro w' hS'
    (have hk : w'.cell? ⟨g, 1, none⟩ = some (.slice O N m) := hS'.1.cell 1; go_simp; exact ⟨rfl, rfl⟩)
  (try simp only [Act.put]); (try simp only [List.setIfInBounds_toArray]); (try simp only [List.set])
  apply wpAnyN_takeL 5 (v := (.agg #[.int .i64 d.p.kind, .int .i64 d.p.x, .int .i64 d.p.y, .slice d.sA d.p.runes.length d.sc])) (by kernel_rfl) rfl (fun _ _ _ h => h) (by kernel_rfl) sS
  · intro w' hS'
    (have k0 : w'.cell? ⟨w.heap.size, 0, none⟩ = some (.int .i64 d.p.kind) := hS'.2.cell 0; have k1 : w'.cell? ⟨w.heap.size, 1, none⟩ = some (.int .i64 d.p.x) := hS'.2.cell 1; have k2 : w'.cell? ⟨w.heap.size, 2, none⟩ = some (.int .i64 d.p.y) := hS'.2.cell 2; have k3 : w'.cell? ⟨w.heap.size, 3, none⟩ = some (.slice d.sA d.p.runes.length d.sc) := hS'.2.cell 3; go_simp; exact ⟨rfl, rfl⟩)
  (try simp only [Act.put]); (try simp only [List.setIfInBounds_toArray]); (try simp only [List.set])
  refine wpAnyN_runL 6 (by kernel_rfl) rfl (by kernel_rfl) (fun K hK => ?_)
  go_simp
  obtain ⟨Y, hY⟩ : ∃ Y, Y = (X.alloc (.cells #[.int .i64 d.p.kind, .int .i64 d.p.x, .int .i64 d.p.y, .slice d.sA d.p.runes.length d.sc] 160)).drew := ⟨_, rfl⟩
  rw [← hY]
  have hXY : Below X.heap.size X Y := by rw [hY]; exact ((Below.refl _ _).alloc (Nat.le_refl _) _).drew
  have y1 : Blk Y g 157 [L, .slice O N m] := bP.below hXY bP.lt
  have y2 : Blk Y w.heap.size 160 d.cells := Blk.below bX hXY bX.lt
  have y3 := own_below oX hXY
  have xrow : Row Y (X.heap.size + 1) 4 (some ⟨X.heap.size, 0, none⟩) 1 d.cells := by
    rw [hY]; exact (row_newN X 160 4 1 d.cells rfl).drew
  have hwY : Below w.heap.size w Y := hwX.trans (hXY.mono hwX.size)
  have sY := hwY.size
  clear hY oX bP bX
  have sT : Blk Y g 157 [L, .slice O N m] ∧ Blk Y w.heap.size 160 d.cells := ⟨y1, y2⟩
  refine hK _ _ (fun _ => sT) ?_
  clear hK K
  (try simp only [Act.put]); (try simp only [List.setIfInBounds_toArray]); (try simp only [List.set])
  refine wpAnyN_runL 7 (by kernel_rfl) rfl (by kernel_rfl) (fun K hK => ?_)
  refine wp_app Y instE rfl rfl y3 rfl xrow (by have := inst_one [d]; simpa using this) (by omega) (by omega) ?_
  intro v W q hg6 hb6 hv6
  have hty := own_typed y3
  have nB : ∀ k cs t, Blk Y k t cs → t ≠ 160 → some k ≠ (Value.slice O N m).ownBlock := fun k cs t hk ht e => by
    obtain ⟨cs', t', z, h1, h2⟩ := hty k e.symm
    unfold Blk at hk
    rw [hk] at h1
    cases h1
    exact ht h2
  have z1 := y1.grown hg6 (nB _ _ _ y1 (by decide))
  have nZ : some w.heap.size ≠ (Value.slice O N m).ownBlock := fun e => by
    have h1 := (own_ge hown w.heap.size (by rw [hN, ← e]; simp)).2
    omega
  have z2 := y2.grown hg6 nZ
  have kW : KeepT [157, 160] w W := (KeepT.of_below hwY).trans (.grown hg6 fun k hk => by
    obtain ⟨cs, t, z, h1, h2⟩ := hty k hk
    exact ⟨cs, t, z, h1, by rw [h2]; simp⟩)
  have lW : Below B w W := (hwY.mono (by omega)).trans (hb6.mono (by omega))
  obtain ⟨O2, m2, rfl, -⟩ := own_form q
  have sU : Blk W g 157 [L, .slice O N m] ∧ Blk W w.heap.size 160 d.cells := ⟨z1, z2⟩
  have cb : W.cell? ⟨g, 1, none⟩ = some (.slice O N m) := z1.cell 1
  have fb := z1.frozen 1
  refine hK _ _ (fun _ => sU) ?_
  clear hK K
  (try simp only [Act.put]); (try simp only [List.setIfInBounds_toArray]); (try simp only [List.set])
  refine wpAnyN_runL 8 (by kernel_rfl) rfl (by kernel_rfl) (fun K hK => ?_)
  go_simp
  refine hK _ _ (fun _ => sU) ?_
  clear hK K
  (try simp only [Act.put]); (try simp only [List.setIfInBounds_toArray]); (try simp only [List.set])
  refine wpAnyN_runL 9 (by kernel_rfl) rfl (by kernel_rfl) (fun K hK => ?_)
  go_simp
  refine hK _ _ (fun _ => sU) ?_
  clear hK K
  (try simp only [Act.put]); (try simp only [List.setIfInBounds_toArray]); (try simp only [List.set])
  refine wpAnyN_runL 10 (by kernel_rfl) rfl (by kernel_rfl) (fun K hK => ?_)
  go_simp
  refine hK _ _ (fun h => absurd rfl h) ?_
  clear hK K
  (try simp only [Act.put])
  refine wpAnyN_done (by kernel_rfl) ?_ _
  have e1 : IntKind.i64.wrap ((N : Int) + 1 - 1) = (N : Int) := by rw [IntKind.wrap_i64]; omega
  have b3 := z1.set_ 1 (.slice O2 (N + 1) m2)
  have k3 : KeepT [157, 160] w (W.setCell ⟨g, 1, none⟩ (.slice O2 (N + 1) m2)) := kW.setCell (p := ⟨g, 1, none⟩) z1 (by simp) _
  have l3 : Below B w (W.setCell ⟨g, 1, none⟩ (.slice O2 (N + 1) m2)) := lW.setCell (p := ⟨g, 1, none⟩) hgB _
  have o3 := own_but q ((But.refl [g] W).setCell (p := ⟨g, 1, none⟩) (by simp) (.slice O2 (N + 1) m2)) (fun k hk hm => by
    simp only [List.mem_singleton] at hm
    subst hm
    exact own_blk q z1 (by decide) (by rw [hk]; simp))
  have eN : (ins ++ [d.p]).length = N + 1 := by rw [List.length_append, hN]; rfl
  have hps : ProgIs W0 B L (W.setCell ⟨g, 1, none⟩ (.slice O2 (N + 1) m2)) g (ins ++ [d.p]) := by
    refine ⟨⟨O2, m2, ?_, ds ++ [d], by rw [List.map_append, hds]; rfl, ?_, ?_⟩, by omega⟩
    · rw [eN]; exact b3
    · rw [eN, List.flatMap_append]; simpa using o3
    · intro x hx
      rcases List.mem_append.1 hx with hx | hx
      · exact hall x hx
      · rw [List.mem_singleton.1 hx]; exact hd
  have Hps := Lib.hid hps; have K3 := Lib.hid k3; have L3 := Lib.hid l3
  clear hps k3 l3 o3 b3 kW lW z1 z2 sU q hty nB nZ
  go_wp2
  go_ret
  exact ⟨by rw [hN]; rfl, Hps.out, K3.out, L3.out⟩
end Go.Proofs.YtecejnilajbdpaaGreatDoor

/-! Orders: an operation that comes ahead of another one, through others -/
namespace Garner
open Go
section
variable {P : Program} {ops : Array Oper} {Q : Exit → Act → World → Prop} {md : Region.Mode} {S : World → Prop}
def reachO (md : Region.Mode) (ops : Array Oper) : Nat → Nat → Nat → Bool
  | 0, _, _ => false
  | f + 1, n, i => match ops[n]? with
    | some o => o.after.any fun e => Region.binds md e && (e.on == i || reachO md ops f e.on i)
    | none => false
def ClosedO (md : Region.Mode) (ops : Array Oper) (listed : Array Bool) : Prop := ∀ (m : Nat) (o : Oper), ops[m]? = some o → listed.getD m false = true → ∀ e ∈ o.after, Region.binds md e = true → listed.getD e.on false = true
def closedB (md : Region.Mode) (ops : Array Oper) (listed : Array Bool) : Bool := (List.range ops.size).all fun m => !(listed.getD m false) || (match ops[m]? with
  | some o => o.after.all fun e => !(Region.binds md e) || listed.getD e.on false
  | none => true)
theorem closed_of {listed : Array Bool} (h : closedB md ops listed = true) : ClosedO md ops listed := fun m o hm hl e he hb => by
  have h1 := List.all_eq_true.1 h m (List.mem_range.2 (by
    rcases Nat.lt_or_ge m ops.size with h' | h'
    · exact h'
    · rw [Array.getElem?_eq_none h'] at hm; cases hm))
  simp only [hm, hl, Bool.not_true, Bool.false_or] at h1
  have h2 := Array.all_eq_true'.1 h1 e he
  simpa [hb] using h2
theorem reach_listed {listed : Array Bool} (hc : ClosedO md ops listed) : ∀ (f n i : Nat), reachO md ops f n i = true → (∀ o, ops[n]? = some o → ∀ e ∈ o.after, Region.binds md e = true → listed.getD e.on false = true) → listed.getD i false = true
  | 0, _, _, h, _ => by cases h
  | f + 1, n, i, h, hn => by
    rw [reachO] at h
    cases ho : ops[n]? with
    | none => rw [ho] at h; cases h
    | some o =>
      rw [ho] at h
      obtain ⟨e, he, hb⟩ := Array.any_eq_true'.1 h
      rw [Bool.and_eq_true, Bool.or_eq_true] at hb
      have h1 := hn o ho e he hb.1
      rcases hb.2 with h2 | h2
      · rw [beq_iff_eq] at h2; rw [← h2]; exact h1
      · exact reach_listed hc f e.on i h2 fun o' ho' => hc e.on o' ho' h1
theorem ClosedO.add {listed : Array Bool} {j : Nat} {oj : Oper} (hc : ClosedO md ops listed) (hj : ops[j]? = some oj) (h : ∀ e ∈ oj.after, Region.binds md e = true → listed.getD e.on false = true) : ClosedO md ops (listed.setIfInBounds j true) := fun m o hm hl e he hb => by
  by_cases hjm : j = m
  · subst hjm
    rw [hj] at hm
    cases hm
    exact getD_set_true (h e he hb)
  · rw [getD_set_ne false hjm] at hl
    exact getD_set_true (hc m o hm hl e he hb)
theorem wpAnyN_firstT {n i f : Nat} {oi : Oper} {v : Value} (hi : ops[i]? = some oi) (hsel : ∀ (j : Nat) (o : Oper) cs b, ops[j]? = some o → o.op ≠ .select cs b)
    (hQ : ∀ c a w, Q (.panic c) (a.put oi.dst v) w → Q (.panic c) a w) (hn : reachO md ops f n i = true) :
    ∀ (fuel : Nat) (listed : Array Bool) (a : Act) (w : World), ClosedO md ops listed →
      (∀ j oj, ops[j]? = some oj → j ≠ i → listed.getD j true = false → (∀ e ∈ oj.after, Region.binds md e = true → e.on ≠ i) → oi.apart ops oj = true) →
      i ∈ Region.ready md ops listed → YieldsG P ops S oi v a → S w →
      wpAnyN P md ops Q S n fuel (listed.setIfInBounds i true) (a.put oi.dst v) w → wpAnyN P md ops Q S n (fuel + 1) listed a w := by
  intro fuel
  induction fuel with
  | zero =>
    intro listed a w _ _ hr hy hS H
    refine ⟨fun h => (by rw [h] at hr; cases hr), fun j hj => ?_⟩
    by_cases hji : j = i
    · subst hji; exact hy.wpOp hi hS ⟨fun _ => hS, H⟩
    · have := ready_mono hj hji
      rw [H.1] at this
      cases this
  | succ fuel ih =>
    intro listed a w hcl hfree hr hy hS H
    refine ⟨fun h => (by rw [h] at hr; cases hr), fun j hj => ?_⟩
    by_cases hji : j = i
    · subst hji; exact hy.wpOp hi hS ⟨fun _ => hS, H⟩
    · have h1 := H.2 j (ready_mono hj hji)
      obtain ⟨hjun, oj, hoj, hall⟩ := mem_ready.1 hj
      have hunl : listed.getD i false ≠ true := fun h1 => by
        have h0 := (mem_ready.1 hr).1
        rcases Nat.lt_or_ge i listed.size with h' | h'
        · simp [h'] at h0 h1; rw [h0] at h1; cases h1
        · simp [Array.getElem?_eq_none h'] at h1
      have hnot : ∀ e ∈ oj.after, Region.binds md e = true → e.on ≠ i := fun e he hb heq => by
        have h1 := hall e he hb
        rw [heq] at h1
        exact hunl h1
      have hjn : j ≠ n := fun e => by
        subst e
        exact hunl (reach_listed hcl f j i hn fun o ho => (by rw [hoj] at ho; cases ho; exact hall))
      have h2 := wpOp_putG hoj (hfree j oj hoj hji hjun hnot) (fun cs b => hsel i oi cs b hi) (fun cs b => hsel j oj cs b hoj) hQ hy h1
      have hfree' : ∀ k ok, ops[k]? = some ok → k ≠ i → (listed.setIfInBounds j true).getD k true = false →
          (∀ e ∈ ok.after, Region.binds md e = true → e.on ≠ i) → oi.apart ops ok = true := fun k ok hk hki hun hno => by
        refine hfree k ok hk hki ?_ hno
        by_cases hjk : j = k
        · subst hjk; exact hjun
        · rw [getD_set_ne true hjk] at hun; exact hun
      refine wpOp_mono (fun a' w' h3 => ⟨h3.2.1, ih (listed.setIfInBounds j true) a' w' (hcl.add hoj hall) hfree' (ready_mono hr (Ne.symm hji)) h3.1 (h3.2.1 hjn) ?_⟩) h2
      rw [Array.setIfInBounds_comm _ _ hji]
      exact h3.2.2
def mayTakeT (md : Region.Mode) (ops : Array Oper) (n : Nat) (listed : Array Bool) (i : Nat) : Bool :=
  Region.noSelect ops && Region.free md ops listed i && (Region.ready md ops listed).contains i && closedB md ops listed && reachO md ops ops.size n i
theorem wpAnyN_takeT (i : Nat) {n : Nat} {oi : Oper} {v : Value} {fuel : Nat} {listed : Array Bool} {a : Act} {w : World} (hm : mayTakeT md ops n listed i = true) (hi : ops.toList[i]? = some oi)
    (hQ : ∀ c a w, Q (.panic c) (a.put oi.dst v) w → Q (.panic c) a w) (hw : Region.wanted oi (yielded ops a.tmps) = true) (hS : S w) (hy : ∀ w, S w → stillRun P v w ((execOp a.eval oi).run P w))
    (h : wpAnyN P md ops Q S n fuel (listed.setIfInBounds i true) (a.put oi.dst v) w) : wpAnyN P md ops Q S n (fuel + 1) listed a w := by
  simp only [mayTakeT, Bool.and_eq_true] at hm
  obtain ⟨⟨⟨⟨h1, h2⟩, h3⟩, h4⟩, h5⟩ := hm
  exact wpAnyN_firstT (of_toList hi) (Region.noSelect_spec h1) hQ h5 fuel listed a w (closed_of h4) (Region.free_spec (of_toList hi) h2) (by simpa using h3) ⟨hw, hy⟩ hS h
end
end Garner

/-! a tree's nodes in memory; rows cut; strings' iterators beside rows -/
namespace Go.Proofs.YtecejnilajbdpaaGreatDoor
open Go.RowKit Garner
theorem NodesIs.node {F : Nat → Prop} {w : World} {B c k : Nat} {A : Option Addr} {ns : List NodeP} {n : NodeP} (h : NodesIs F w B (.slice A ns.length c) ns) (hk : ns[k]? = some n) : ∃ g d, A = some ⟨g, 0, none⟩ ∧ NodeD.n d = n ∧ NodeOk F w d ∧ g < w.heap.size ∧ ∀ j, j < 5 → w.cell? ⟨g, k * 5 + j, none⟩ = (NodeD.cells d)[j]? := by
  obtain ⟨ds, hds, hown, hok⟩ := h
  obtain ⟨hlt, -⟩ := List.getElem?_eq_some_iff.1 hk
  obtain ⟨g, rfl, -, hg, -, -, hc⟩ := own_at hown (by omega)
  have hk' := hk
  rw [← hds, List.getElem?_map] at hk'
  cases hd : ds[k]? with
  | none => rw [hd] at hk'; cases hk'
  | some d =>
    rw [hd] at hk'
    injection hk' with e
    exact ⟨g, d, rfl, e, hok d (List.mem_of_getElem? hd), hg, fun j hj => by rw [hc (k * 5 + j) (by omega), cells_at hd j hj]⟩
/-- nodes that lie at b -/
def AtN (ns : List NodeP) (b : Nat) (l : List NodeP) : Prop := ∀ k n, l[k]? = some n → ns[b + k]? = some n
theorem AtN.left {ns l m : List NodeP} {b : Nat} (h : AtN ns b (l ++ m)) : AtN ns b l := fun k n hk => h k n (by
  rw [List.getElem?_append_left (List.getElem?_eq_some_iff.1 hk).1]; exact hk)
theorem AtN.right {ns l m : List NodeP} {b n : Nat} (h : AtN ns b (l ++ m)) (hn : l.length = n) : AtN ns (b + n) m := fun k x hk => by
  have := h (n + k) x (by rw [List.getElem?_append_right (by omega), hn, Nat.add_sub_cancel_left]; exact hk)
  rwa [← Nat.add_assoc] at this
theorem last_at {ns : List NodeP} {b : Nat} {l : List NodeP} {x : NodeP} {t : Re} (hf : t.flat b = l ++ [x]) (hl : t.cnt = l.length + 1) (h : AtN ns b (t.flat b)) : ns[b + t.cnt - 1]? = some x := by
  have := h l.length x (by rw [hf, List.getElem?_append_right (Nat.le_refl _), Nat.sub_self]; rfl)
  rw [show b + t.cnt - 1 = b + l.length by omega]; exact this
theorem split_at {l : List Re} {j : Nat} {t : Re} (h : l[j]? = some t) : ∃ a m, l = a ++ t :: m ∧ a.length = j ∧ l.take j = a ∧ l.take (j + 1) = a ++ [t] := by
  obtain ⟨hj, e⟩ := List.getElem?_eq_some_iff.1 h
  refine ⟨l.take j, l.drop (j + 1), ?_, by rw [List.length_take]; omega, rfl, ?_⟩
  · rw [← e, ← List.drop_eq_getElem_cons hj, List.take_append_drop]
  · rw [List.take_succ_eq_append_getElem hj, e]
theorem kid_root {l : List Re} {j : Nat} {t : Re} (h : l[j]? = some t) (b : Nat) : (roots b l)[j]? = some (b + cnts (l.take j) + t.cnt - 1) := by
  obtain ⟨a, m, e, hj, ht, -⟩ := split_at h
  rw [ht, e, roots_app, List.getElem?_append_right (by rw [roots_length]; omega), roots_length, hj, Nat.sub_self]
  rfl
theorem kid_nodes {ns : List NodeP} {l : List Re} {j : Nat} {t : Re} (h : l[j]? = some t) {b : Nat} (hat : AtN ns b (flats b l)) : AtN ns (b + cnts (l.take j)) (t.flat (b + cnts (l.take j))) := by
  obtain ⟨a, m, e, hj, ht, -⟩ := split_at h
  rw [ht]
  rw [e, flats_app] at hat
  have h1 := hat.right (flats_len a b)
  rw [flats] at h1
  exact h1.left
theorem own_cutA {w : World} {B : Nat} {e : TypeId} {n m c : Nat} {A : Option Addr} {xs : List Value} (h : w.ownsRow B e 1 (.slice A n c) n xs) (hm : m ≤ n) : w.ownsRow B e 1 (.slice A m c) m (xs.take m) := by
  obtain ⟨h1, h2⟩ := h
  rcases h2 with ⟨e1, h0⟩ | ⟨g', cap, cur, e1, hB, hh, hc, hm2, hs, hp⟩
  · injection e1 with e2 e3 e4
    obtain rfl : m = 0 := by omega
    subst e2; subst e4
    exact ⟨by simp, .inl ⟨rfl, rfl⟩⟩
  · injection e1 with e2 e3 e4
    subst e2; subst e4
    refine ⟨by rw [List.length_take]; omega, .inr ⟨g', c, cur, rfl, hB, hh, by omega, hm2, hs, ?_⟩⟩
    rw [← hp, List.take_take]; congr 1; omega
theorem own_iterAt {w : World} {B : Nat} {e : TypeId} {sz n : Nat} {v : Value} {xs : List Value} {k : Nat} {s : ByteArray} {pos pos' : Nat} (h : w.ownsRow B e sz v n xs) (hk : w.heap[k]? = some (.stringIter s pos)) : (w.iterAt k s pos').ownsRow B e sz v n xs := by
  obtain ⟨h1, h2⟩ := h
  refine ⟨h1, ?_⟩
  rcases h2 with h2 | ⟨g, cap, cur, hv, hg, hh, r⟩
  · exact Or.inl h2
  · refine Or.inr ⟨g, cap, cur, hv, hg, ?_, r⟩
    rw [Lib.iterAt_other]
    · exact hh
    · rintro rfl; rw [hk] at hh; cases hh
theorem Blk.iterAt {w : World} {g : Nat} {t : TypeId} {cs : List Value} {k : Nat} {s : ByteArray} {pos pos' : Nat} (h : Blk w g t cs) (hk : w.heap[k]? = some (.stringIter s pos)) : Blk (w.iterAt k s pos') g t cs := by
  unfold Blk at h ⊢
  rw [Lib.iterAt_other]
  · exact h
  · rintro rfl; rw [hk] at h; cases h
end Go.Proofs.YtecejnilajbdpaaGreatDoor

/-! garnerref06: One, Runes -/
namespace Garner
open Go
/-- the byte at a place -/
def byteN (l : Bs) (i : Nat) : Nat := (l.getD i 0).toNat
theorem getD_byte (s : ByteArray) (i : Nat) (hi : i < s.size) : s[i] = s.data.toList.getD i 0 := by
  show s.data[i] = _
  rw [List.getD_eq_getElem?_getD, List.getElem?_eq_getElem (by rw [Array.length_toList]; exact hi)]
  simp
theorem idx_byte {P : Program} (t : TypeId) (ht : P.underlying t = some .string) (S : ByteArray) (l : Bs) (hS : S = ⟨l.toArray⟩) (z : Int) (i : Nat) (hz : z = (i : Int)) (hi : i < l.length) (w : World) :
    (Instr.index t (.string S) (.int .i64 z)).run P w = .ok (.int .u8 (byteN l i : Nat)) w := by
  subst hz; subst hS
  have hs : (⟨l.toArray⟩ : ByteArray).size = l.length := by simp [ByteArray.size]
  rw [run_index_string w t _ .i64 _ ht, dif_pos ⟨by omega, by rw [hs]; omega⟩]
  have e : ((i : Int)).toNat = i := by omega
  simp only [e]
  rw [getD_byte _ i (by rw [hs]; exact hi)]
  simp [byteN]
end Garner

/-! garnerref18: the parser's state, with a pattern or without; peek, is -/
namespace Go.Proofs.YtecejnilajbdpaaGreatDoor
open Go.RowKit Garner
abbrev PT8 : List TypeId := [132, 182]
/-- so far it is a pattern: the runes that are left, the nodes so far, how deep it is and was -/
structure QS (F : Nat → Prop) (w : World) (g N : Nat) (rs : List Nat) (ns : List NodeP) (deep most : Nat) : Prop where
  ex : ∃ (A : Option Addr) (c : Nat) (O : Option Addr) (m : Nat) (rs0 : List Nat) (p : Nat), Blk w g 132 [.slice A N c, .int .i64 (p : Nat), .slice O ns.length m, .int .i64 (deep : Nat), .int .i64 (most : Nat), .bool false] ∧ RowT w 21 A N (rs0.map rv) ∧ (∀ a, A = some a → F a.block) ∧ NodesIs F w (g + 1) (.slice O ns.length m) ns ∧ rs = rs0.drop p ∧ p ≤ N ∧ rs0.length = N ∧ ∀ r ∈ rs0, r ≤ 1114111
  hF : ∀ k, F k → k < w.heap.size
  dm : deep ≤ most
  mb : most ≤ 100000
  nb : ns.length ≤ 100000
  lb : N ≤ 200
/-- it is no pattern -/
def QX (w : World) (g n : Nat) : Prop := ∃ s a de mo O m xs, Blk w g 132 [s, .int .i64 a, .slice O n m, .int .i64 de, .int .i64 mo, .bool true] ∧ w.ownsRow (g + 1) 182 5 (.slice O n m) n xs ∧ (∀ u ∈ xs, u.oneCell' = true)
/-- what a call leaves as it was -/
structure QP (g : Nat) (w w' : World) : Prop where
  keep : KeepT PT8 w w'
  low : Below g w w'
section
variable {F : Nat → Prop} {w w' : World} {g N n : Nat} {rs : List Nat} {ns : List NodeP} {deep most : Nat}
theorem QP.refl (g : Nat) (w : World) : QP g w w := ⟨.refl _ _, .refl _ _⟩
theorem QP.trans {a b c : World} (h : QP g a b) (k : QP g b c) : QP g a c := ⟨h.keep.trans k.keep, h.low.trans k.low⟩
theorem QP.of_below (h : Below w.heap.size w w') (hg : g ≤ w.heap.size) : QP g w w' := ⟨.of_below h, h.mono hg⟩
theorem QP.drew {a : World} (h : QP g a w) : QP g a w.drew := ⟨h.keep.drew, h.low.drew⟩
theorem QS.lt (h : QS F w g N rs ns deep most) : g < w.heap.size := by
  obtain ⟨A, c, O, m, rs0, p, h1, -⟩ := h.ex
  exact h1.lt
theorem QX.lt (h : QX w g n) : g < w.heap.size := by
  obtain ⟨s, a, de, mo, O, m, xs, h1, -⟩ := h
  exact h1.lt
theorem QS.below (h : QS F w g N rs ns deep most) (hb : Below w.heap.size w w') : QS F w' g N rs ns deep most := by
  obtain ⟨A, c, O, m, rs0, p, h1, h2, h3, h4, h5⟩ := h.ex
  exact ⟨⟨A, c, O, m, rs0, p, h1.below hb h1.lt, h2.below hb, h3, h4.keep (T := []) (.of_below hb) (by simp) (by simp) (by simp), h5⟩, fun k hk => Nat.lt_of_lt_of_le (h.hF k hk) hb.size, h.dm, h.mb, h.nb, h.lb⟩
theorem QX.below (h : QX w g n) (hb : Below w.heap.size w w') : QX w' g n := by
  obtain ⟨s, a, de, mo, O, m, xs, h1, h2, h3⟩ := h
  exact ⟨s, a, de, mo, O, m, xs, h1.below hb h1.lt, own_below h2 hb, h3⟩
theorem QS.mono {F' : Nat → Prop} (h : QS F w g N rs ns deep most) (hF : ∀ k, F k → F' k) (hs : ∀ k, F' k → k < w.heap.size) : QS F' w g N rs ns deep most := by
  obtain ⟨A, c, O, m, rs0, p, h1, h2, h3, ⟨ds, e, ho, hd⟩, h5⟩ := h.ex
  exact ⟨⟨A, c, O, m, rs0, p, h1, h2, fun a ha => hF _ (h3 a ha), ⟨ds, e, ho, fun d hm => ⟨(hd d hm).kids, (hd d hm).set, fun a ha => hF _ ((hd d hm).kF a ha), fun a ha => hF _ ((hd d hm).sF a ha)⟩⟩, h5⟩, hs, h.dm, h.mb, h.nb, h.lb⟩
theorem QS.ext {w0 : World} (h : QS F w g N rs ns deep most) (h0 : ∀ k, F k → k < w0.heap.size) (hs : w0.heap.size ≤ w.heap.size) : QS (Ext F w0 w) w g N rs ns deep most := h.mono (fun _ hk => .inl hk) (Ext.lt h0 hs)
theorem QS.len (h : QS F w g N rs ns deep most) : rs.length ≤ N := by
  obtain ⟨A, c, O, m, rs0, p, h1, h2, h3, h4, h5, h6, h7, h8⟩ := h.ex
  rw [h5, List.length_drop]; omega
theorem QS.rb (h : QS F w g N rs ns deep most) : ∀ r ∈ rs, r ≤ 1114111 := fun r hr => by
  obtain ⟨A, c, O, m, rs0, p, h1, h2, h3, h4, h5, h6, h7, h8⟩ := h.ex
  rw [h5] at hr
  exact h8 r (List.mem_of_mem_drop hr)
/-- a row of one's own that no row of the parser's lies in has grown -/
theorem QS.grown (h : QS F w g N rs ns deep most) {B : Nat} {e : TypeId} {sz n' : Nat} {v : Value} {xs : List Value} (ho : w.ownsRow B e sz v n' xs) (hg : w.grownBy w' v.ownBlock) (hv : ∀ k, v.ownBlock = some k → ¬ F k) (he1 : e ≠ 132) (he2 : e ≠ 182) : QS F w' g N rs ns deep most := by
  obtain ⟨A, c, O, m, rs0, p, h1, h2, h3, ⟨ds, hds, hown, hd⟩, h5⟩ := h.ex
  have hrow : ∀ {t : TypeId} {A : Option Addr} {n : Nat} {xs : List Value}, RowT w t A n xs → (∀ a, A = some a → F a.block) → RowT w' t A n xs := fun hr hf => hr.grown hg fun a ha e1 => hv _ e1.symm (hf a ha)
  refine ⟨⟨A, c, O, m, rs0, p, h1.grown hg fun e1 => ?_, hrow h2 h3, h3, ⟨ds, hds, own_grown hown hg ?_, fun d hm => ⟨hrow (hd d hm).kids (hd d hm).kF, hrow (hd d hm).set (hd d hm).sF, (hd d hm).kF, (hd d hm).sF⟩⟩, h5⟩, fun k hk => Nat.lt_of_lt_of_le (h.hF k hk) hg.size, h.dm, h.mb, h.nb, h.lb⟩
  · have := own_blk ho h1 he1
    rw [← e1] at this
    simp at this
  · rcases hb : (Value.slice O ns.length m).ownBlock with _ | k
    · exact .inl rfl
    · refine .inr fun e1 => ?_
      have := own_own ho hown he2 k hb
      rw [← e1] at this
      simp at this
theorem QX.grown (h : QX w g n) {B : Nat} {e : TypeId} {sz n' : Nat} {v : Value} {xs : List Value} (ho : w.ownsRow B e sz v n' xs) (hg : w.grownBy w' v.ownBlock) (he1 : e ≠ 132) (he2 : e ≠ 182) : QX w' g n := by
  obtain ⟨s, a, de, mo, O, m, ys, h1, hown, h3⟩ := h
  refine ⟨s, a, de, mo, O, m, ys, h1.grown hg fun e1 => ?_, own_grown hown hg ?_, h3⟩
  · have := own_blk ho h1 he1
    rw [← e1] at this
    simp at this
  · rcases hb : (Value.slice O n m).ownBlock with _ | k
    · exact .inl rfl
    · refine .inr fun e1 => ?_
      have := own_own ho hown he2 k hb
      rw [← e1] at this
      simp at this
theorem QP.grown {w0 : World} (h : QP g w0 w) {B : Nat} {e : TypeId} {sz n : Nat} {v : Value} {xs : List Value} (ho : w.ownsRow B e sz v n xs) (hg : w.grownBy w' v.ownBlock) (hB : w0.heap.size ≤ B) (hgB : g ≤ B) (hgw : g ≤ w.heap.size) : QP g w0 w' := by
  have hlt := h.keep.size
  refine ⟨⟨hg.os.trans h.keep.os, hg.tape.trans h.keep.tape, hg.output.trans h.keep.output, Nat.le_trans hlt hg.size, fun k hk hn => ?_⟩, ⟨hg.os.trans h.low.os, hg.tape.trans h.low.tape, hg.output.trans h.low.output, Nat.le_trans h.low.size hg.size, fun k hk => ?_⟩⟩
  · rw [hg.block k (by omega) fun e1 => by have := (ho.lt k e1.symm).1; omega]
    exact h.keep.block k hk hn
  · rw [hg.block k (by omega) fun e1 => by have := (ho.lt k e1.symm).1; omega]
    exact h.low.block k hk
/-- it is found to be no pattern -/
theorem QS.bad (h : QS F w g N rs ns deep most) : QX (w.setCell ⟨g, 5, none⟩ (.bool true)) g ns.length ∧ QP g w (w.setCell ⟨g, 5, none⟩ (.bool true)) := by
  obtain ⟨A, c, O, m, rs0, p, h1, h2, h3, ⟨ds, hds, hown, hd⟩, h5⟩ := h.ex
  have hk : KeepT [132] w (w.setCell ⟨g, 5, none⟩ (.bool true)) := (KeepT.refl _ w).setCell (p := ⟨g, 5, none⟩) h1 (by simp) _
  exact ⟨⟨_, _, _, _, O, m, _, h1.set_ 5 _, hk.own hown (by decide), nodes_one ds⟩, ⟨(KeepT.refl _ w).setCell (p := ⟨g, 5, none⟩) h1 (by simp) _, (Below.refl _ _).setCell (p := ⟨g, 5, none⟩) (Nat.le_refl _) _⟩⟩
theorem QX.bad (h : QX w g n) : QX (w.setCell ⟨g, 5, none⟩ (.bool true)) g n ∧ QP g w (w.setCell ⟨g, 5, none⟩ (.bool true)) := by
  obtain ⟨s, a, de, mo, O, m, xs, h1, h2, h3⟩ := h
  have hk : KeepT [132] w (w.setCell ⟨g, 5, none⟩ (.bool true)) := (KeepT.refl _ w).setCell (p := ⟨g, 5, none⟩) h1 (by simp) _
  exact ⟨⟨s, a, de, mo, O, m, xs, h1.set_ 5 _, hk.own h2 (by decide), h3⟩, ⟨(KeepT.refl _ w).setCell (p := ⟨g, 5, none⟩) h1 (by simp) _, (Below.refl _ _).setCell (p := ⟨g, 5, none⟩) (Nat.le_refl _) _⟩⟩
theorem QX.more (h : QX w g n) : n ≤ 9223372036854775807 := by
  obtain ⟨s, a, de, mo, O, m, xs, h1, h2, h3⟩ := h
  by_cases h0 : 0 < n
  · obtain ⟨gS, -, -, -, hq1, hq2, -⟩ := own_at h2 h0
    simp only [maxLen] at hq2
    omega
  · omega
/-- a rune further -/
theorem QS.step {a : Nat} {r : List Nat} (h : QS F w g N (a :: r) ns deep most) : ∃ p : Nat, w.cell? ⟨g, 1, none⟩ = some (.int .i64 (p : Nat)) ∧ w.frozen? ⟨g, 1, none⟩ = false ∧ p ≤ 200 ∧ QS F (w.setCell ⟨g, 1, none⟩ (.int .i64 ((p : Int) + 1))) g N r ns deep most ∧ QP g w (w.setCell ⟨g, 1, none⟩ (.int .i64 ((p : Int) + 1))) := by
  obtain ⟨A, c, O, m, rs0, p, h1, h2, h3, h4, h5, h6, h7, h8⟩ := h.ex
  have hlt : p < N := by
    have := congrArg List.length h5
    rw [List.length_drop, List.length_cons] at this
    omega
  have hr : r = rs0.drop (p + 1) := by
    have := congrArg List.tail h5
    rw [List.tail_cons, List.tail_drop] at this
    exact this
  have hlb := h.lb
  have hk : KeepT [132] w (w.setCell ⟨g, 1, none⟩ (.int .i64 ((p : Int) + 1))) := (KeepT.refl _ w).setCell (p := ⟨g, 1, none⟩) h1 (by simp) _
  refine ⟨p, h1.cell 1, h1.frozen 1, by omega, ⟨⟨A, c, O, m, rs0, p + 1, h1.set_ 1 _, h2.keep hk (by decide), h3, h4.keep hk (by decide) (by decide) (by decide), hr, hlt, h7, h8⟩, fun k hk => (by have := h.hF k hk; simpa [World.setCell] using this), h.dm, h.mb, h.nb, h.lb⟩, ⟨(KeepT.refl _ w).setCell (p := ⟨g, 1, none⟩) h1 (by simp) _, (Below.refl _ _).setCell (p := ⟨g, 1, none⟩) (Nat.le_refl _) _⟩⟩
end
section
variable {F : Nat → Prop}
end
end Go.Proofs.YtecejnilajbdpaaGreatDoor

/-! garnerref18: node, digit, in -/
namespace Go.Proofs.YtecejnilajbdpaaGreatDoor
open Go.RowKit Garner
section
variable {F : Nat → Prop}
end
end Go.Proofs.YtecejnilajbdpaaGreatDoor

