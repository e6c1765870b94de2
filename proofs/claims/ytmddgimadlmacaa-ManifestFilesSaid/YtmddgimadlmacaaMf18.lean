import Derived.Shelf.Strconv.Itoa0
import Derived.Shelf.Sort.Plain
import Derived.Shelf.Slices.In.SortNone
import Derived.Test.YtmddgimadlmacaaProg
import Derived.Test.YtmddgimadlmacaaMf17
import Derived.Test.YtmddgimadlmacaaMf05
import Derived.Sort.OwnSorted
/-
  DERIVED: THE SHELF's CONTRACTS AT THIS DUMP, IN PLAIN WORDS (tools/lay-plain.mjs out of 'TryShelf.lean', which tools/lay-shelf.mjs wrote): THE SAME DECLARATIONS UNDER THE SAME NAMES: 'import', 'namespace', 'open', 'def', 'theorem' AND NOTHING ELSE: no command of the shelf's: FOR A HAND-IN. Each laying: the table of numbers ('.._ren') and one theorem, a field a fact of the dump's own or the kernel's comparison; each contract: ONE APPLICATION.
-/
namespace Go.Proofs
open Go.Shelf
def Try.lays190_ren : Go.Shelf.Ren := ⟨fun | 190 => 81 | 125 => 87 | 258 => 86 | 128 => 97 | 129 => 98 | 302 => 88 | 303 => 89 | 304 => 90 | 305 => 91 | 306 => 92 | 307 => 93 | 308 => 94 | 309 => 95 | 310 => 96 | 333 => 99 | 329 => 100 | 330 => 101 | 334 => 102 | 335 => 103 | 336 => 104 | 344 => 105 | n => n, fun | 31 => 50 | 9 => 9 | 3 => 3 | 46 => 47 | 0 => 0 | 51 => 112 | 53 => 22 | 4 => 4 | 183 => 125 | 182 => 124 | 131 => 109 | 5 => 5 | 218 => 132 | 222 => 136 | 228 => 138 | 229 => 139 | n => n, fun | n => n⟩
theorem Try.lays190 : Go.Proofs.Lays.n190 Try.prog Try.lays190_ren := {
  mixed := by kernel_rfl
  f125 := Try.func87.trans (congrArg some (by kernel_rfl))
  f128 := Try.func97.trans (congrArg some (by kernel_rfl))
  f129 := Try.func98.trans (congrArg some (by kernel_rfl))
  f190 := Try.func81.trans (congrArg some (by kernel_rfl))
  f258 := Try.func86.trans (congrArg some (by kernel_rfl))
  f302 := Try.func88.trans (congrArg some (by kernel_rfl))
  f303 := Try.func89.trans (congrArg some (by kernel_rfl))
  f304 := Try.func90.trans (congrArg some (by kernel_rfl))
  f305 := Try.func91.trans (congrArg some (by kernel_rfl))
  f306 := Try.func92.trans (congrArg some (by kernel_rfl))
  f307 := Try.func93.trans (congrArg some (by kernel_rfl))
  f308 := Try.func94.trans (congrArg some (by kernel_rfl))
  f309 := Try.func95.trans (congrArg some (by kernel_rfl))
  f310 := Try.func96.trans (congrArg some (by kernel_rfl))
  f329 := Try.func100.trans (congrArg some (by kernel_rfl))
  f330 := Try.func101.trans (congrArg some (by kernel_rfl))
  f333 := Try.func99.trans (congrArg some (by kernel_rfl))
  f334 := Try.func102.trans (congrArg some (by kernel_rfl))
  f335 := Try.func103.trans (congrArg some (by kernel_rfl))
  f336 := Try.func104.trans (congrArg some (by kernel_rfl))
  f344 := Try.func105.trans (congrArg some (by kernel_rfl))
  t0 := Try.underlying0
  a0 := Try.isAgg0
  z0 := Try.sizeOf0
  v0 := Try.zeroValue0
  t3 := Try.underlying3
  a3 := Try.isAgg3
  z3 := Try.sizeOf3
  v3 := Try.zeroValue3
  t4 := Try.underlying4
  a4 := Try.isAgg4
  z4 := Try.sizeOf4
  v4 := Try.zeroValue4
  t5 := Try.underlying5
  a5 := Try.isAgg5
  z5 := Try.sizeOf5
  v5 := Try.zeroValue5
  t9 := Try.underlying9
  a9 := Try.isAgg9
  z9 := Try.sizeOf9
  v9 := Try.zeroValue9
  t31 := Try.underlying50
  a31 := Try.isAgg50
  z31 := Try.sizeOf50
  v31 := Try.zeroValue50
  t46 := Try.underlying47
  a46 := Try.isAgg47
  z46 := Try.sizeOf47
  v46 := Try.zeroValue47
  t51 := Try.underlying112
  a51 := Try.isAgg112
  z51 := Try.sizeOf112
  v51 := Try.zeroValue112
  t53 := Try.underlying22
  a53 := Try.isAgg22
  z53 := Try.sizeOf22
  v53 := Try.zeroValue22
  t131 := Try.underlying109
  a131 := Try.isAgg109
  z131 := Try.sizeOf109
  v131 := Try.zeroValue109
  t182 := Try.underlying124
  a182 := Try.isAgg124
  z182 := Try.sizeOf124
  v182 := Try.zeroValue124
  t183 := Try.underlying125
  a183 := Try.isAgg125
  z183 := Try.sizeOf125
  v183 := Try.zeroValue125
  t218 := Try.underlying132
  a218 := Try.isAgg132
  z218 := Try.sizeOf132
  v218 := Try.zeroValue132
  t222 := Try.underlying136
  a222 := Try.isAgg136
  z222 := Try.sizeOf136
  v222 := Try.zeroValue136
  t228 := Try.underlying138
  a228 := Try.isAgg138
  z228 := Try.sizeOf138
  v228 := Try.zeroValue138
  t229 := Try.underlying139
  a229 := Try.isAgg139
  z229 := Try.sizeOf139
  v229 := Try.zeroValue139 }
open Go.Sort Go.RowKit in
theorem Try.slices_Sort_string (blk off cap : Nat) (ss : List (List UInt8)) (w : World) (hH : Holds encStr w blk off ss.toArray) (hblk : blk < w.heap.size) (hsz : ss.length < 4611686018427387904) :
    Calls Try.prog 81 #[.slice (some ⟨blk, off, none⟩) ss.length cap] w fun e w' =>
      e = .returned (.tuple #[]) ∧ ∃ n os, w' = grow (putRow encStr (Sort.ahead w n) blk off (ss.mergeSort fun x y => decide (x ≤ y)).toArray) os := Any.slices_Sort_string Try.lays190 blk off cap ss w hH hblk hsz
open Go.RowKit Go.Sort in
/-- .. and plain. (LAID: no walk: one application.) -/
theorem Try.slices_Sort_string_none (p : Option Addr) (cap : Nat) (w : World) :
    Calls Try.prog 81 #[.slice p 0 cap] w fun e w' => e = .returned (.tuple #[]) ∧ w' = w := Any.slices_Sort_string_none Try.lays190 p cap w
end Go.Proofs
namespace Go.Proofs.Ytmddgimadlmacaa
open Go.RowKit Garner

abbrev strV (s : Bs) : Value := .string ⟨s.toArray⟩
theorem strE : Elem Try.prog 50 9 (.string .empty) 1 16 := ⟨Try.underlying50, by kernel_rfl, rfl, by omega, by omega⟩
/-- names in their order -/
def sortN (l : List Bs) : List Bs := l.mergeSort fun x y => decide (x ≤ y)
theorem sortN_len (l : List Bs) : (sortN l).length = l.length := List.length_mergeSort ..
theorem le_tot (a b : Bs) : (decide (a ≤ b) || decide (b ≤ a)) = true := by
  simp only [Bool.or_eq_true, decide_eq_true_eq]; exact List.le_total a b
theorem sort_perm {l l' : List Bs} (h : l.Perm l') : sortN l = sortN l' := by
  have h1 : (sortN l).Pairwise fun x y => decide (x ≤ y) = true := List.pairwise_mergeSort (fun a b c h1 h2 => by simp only [decide_eq_true_eq] at *; exact List.le_trans h1 h2) le_tot l
  have h2 : (sortN l').Pairwise fun x y => decide (x ≤ y) = true := List.pairwise_mergeSort (fun a b c h1 h2 => by simp only [decide_eq_true_eq] at *; exact List.le_trans h1 h2) le_tot l'
  refine List.Perm.eq_of_pairwise (le := fun x y => decide (x ≤ y) = true) (fun a b _ _ ha hb => ?_) h1 h2 ((List.mergeSort_perm l _).trans (h.trans (List.mergeSort_perm l' _).symm))
  simp only [decide_eq_true_eq] at ha hb
  exact List.le_antisymm ha hb
theorem strV_one (l : List Bs) : ∀ u ∈ l.map strV, u.oneCell' = true := by
  intro u hu; obtain ⟨c, _, rfl⟩ := List.mem_map.1 hu; rfl
theorem vSort (v : Value) (l : List Bs) (B : Nat) (w : World) (hown : w.ownsRow B 9 1 v l.length (l.map strV)) (hl : l.length < 4611686018427387904) :
    Calls Try.prog 81 #[v] w fun e w' => e = .returned (.tuple #[]) ∧ w'.ownsRow B 9 1 v l.length ((sortN l).map strV) ∧ w.grownBy w' v.ownBlock := by
  rcases hown.2 with ⟨rfl, h0⟩ | ⟨g, cap, cur, rfl, hbase, hb, h1, h2, h3, h4⟩
  · have hnil : l = [] := List.eq_nil_of_length_eq_zero h0
    subst hnil
    refine (Try.slices_Sort_string_none none 0 w).mono ?_
    rintro e w' ⟨rfl, rfl⟩
    exact ⟨rfl, by simpa [sortN] using hown, World.grownBy.refl _ _⟩
  · have hH := Go.holds_of_block hb (by simpa using h4)
    refine (Try.slices_Sort_string g 0 cap l w hH (Array.getElem?_eq_some_iff.1 hb).1 hl).mono ?_
    rintro e w' ⟨rfl, n, os, rfl⟩
    exact ⟨rfl, Go.ownsRow_sorted (sortN_len l) hbase hb h1 h2 h3, Go.grownBy_sorted _⟩

set_option maxRecDepth 100000 in
set_option maxHeartbeats 4000000 in
theorem vNames (g mp : Nat) (al : List (Bs × Value)) (fl dn : Bool) (left : Int) (w : World) (hd : Blk w g 97 (diskV mp fl dn left)) (hm : MapIs strKey w mp al) (hn : al.length * 16 ≤ 140737488351232) :
    Calls Try.prog 64 #[.pointer (some ⟨g, 0, none⟩)] w fun e w' => ∃ v, e = .returned v ∧ w'.ownsRow w.heap.size 9 1 v al.length ((sortN (al.map (·.1))).map strV) ∧ Below w.heap.size w w' := by
  have hgw : g < w.heap.size := hd.lt
  have hmw : mp < w.heap.size := hm.lt
  have c0 : w.cell? ⟨g, 0, none⟩ = some (.map (some mp)) := hd.cell 0
  go_enter Try.func64, Try.ntmps64
  go_wp2_with (at_range; refine wpList_rangeM rfl _ _ rfl Try.underlying95 rfl hm ?_; intro ob hrng0)
  go_frame
  clear c0
  go_loopw [3] (fun v wr => ∃ done todo, Rng strKey wr mp w.heap.size al done todo ∧ wr.ownsRow (w.heap.size + 1) 9 1 v done.length ((done.map (·.1)).map strV) ∧ Below w.heap.size w wr) (fun _ wr => wr.rangeLeft mp w.heap.size)
  case atStart => exact ⟨[], al, hrng0, World.ownsRow_nil _ _ _ _, (Below.refl _ _).alloc (Nat.le_refl _) _⟩
  case round =>
    obtain ⟨done, todo, hrng, hown, hbel⟩ := hrel
    obtain ⟨wo, rfl⟩ : ∃ wo : World, wo = wr := ⟨_, rfl⟩
    have hlen := (Rng.perm hrng).length_eq
    rw [List.length_append] at hlen
    have hlo := hrng.lt
    have HL := Lib.hid hlen; clear hlen
    go_wp2_with (at_next; refine wpList_nextM rfl _ rfl rfl hrng ?_ ?_)
    · intro h0
      subst h0
      have hp := Rng.perm hrng
      rw [List.append_nil] at hp
      have hlen : done.length = al.length := hp.length_eq
      have hso : sortN (done.map (·.1)) = sortN (al.map (·.1)) := sort_perm (hp.map _)
      have hown' := hown
      rw [show done.length = (done.map (·.1)).length by simp] at hown'
      have hdl : (done.map (·.1)).length < 4611686018427387904 := by rw [List.length_map]; omega
      have Hso := Lib.hid hso; have Hlen := Lib.hid hlen
      clear hlen hso hp hrng hown
      go_wp2_with fail
      refine (vSort _ _ _ wo hown' hdl).mono ?_
      rintro e w2 ⟨rfl, hown2, hg2⟩
      have hlt := own_ge hown'
      have hb2 : Below w.heap.size w w2 := hbel.trans ((But.grown hg2 (fun q hq => by rw [hq]; simp)).below (S := (Value.ownBlock _).toList) hbel.size fun q hq => by have := (hlt q hq).1; omega)
      rw [List.length_map, Hso.out, Hlen.out] at hown2
      go_wp2
      go_ret
      exact ⟨_, rfl, own_mono hown2 (by omega), hb2⟩
    · intro kp vp todo' w1 hperm hr1 hb1 hs1 hen
      have hs1' : w1.heap.size ≤ wo.heap.size := by omega
      have hs1'' : wo.heap.size ≤ w1.heap.size := by omega
      have hlt := own_ge hown
      have hown1 := own_but hown hb1 (fun q hq hm => by have := (hlt q (by simpa using hq)).1; simp only [List.mem_singleton] at hm; omega)
      have hbel1 : Below w.heap.size w w1 := hbel.trans (hb1.below hbel.size fun q hq => by simp only [List.mem_singleton] at hq; omega)
      have hpl := hperm.length_eq
      rw [List.length_cons] at hpl
      have hdl : (done.length : Int) + 1 ≤ al.length := by have := HL.out; omega
      have Hpl := Lib.hid hpl
      clear hs1 hpl hlt hperm hb1
      have hrow : Row (w1.alloc (.cells #[strV kp] 9)) (w1.heap.size + 1) 1 (some ⟨w1.heap.size, 0, none⟩) 1 [strV kp] := row_new w1 9 [strV kp]
      go_wp2_with (at_builtin; refine wpList_app _ rfl strE rfl rfl (hown1.alloc _) rfl hrow (strV_one [kp]) (by omega) (by simp; omega) ?_; intro v3 w3 hown3 hg3 hb3 _)
      have hge := own_ge hown1
      have hr3 := (hr1.but (S := []) (But.of_below ((Below.refl _ _).alloc (Nat.le_refl _) _)) (by simp) (by simp)).but (But.grown hg3 (S := (Value.ownBlock _).toList) (fun q hq => by rw [hq]; simp)) (fun hq => by have := (hge mp hq).1; omega) (fun hq => by have := (hge w.heap.size hq).1; omega)
      constructor
      · exact ⟨done ++ [(kp, vp)], todo', hr3, by simpa using hown3, (hbel1.alloc hbel1.size _).trans (hb3.mono (by omega))⟩
      · rw [hr3.left_eq, hrng.left_eq, Hpl.out]; omega
end Go.Proofs.Ytmddgimadlmacaa
namespace Go.Proofs.Ytmddgimadlmacaa
open Go.RowKit Garner

/-- a file as it lies in memory -/
structure FileE where
  A : Option Addr
  c : Nat
  data : Bs
  synced : Nat
def FileE.v (e : FileE) : Value := .agg #[.slice e.A e.data.length e.c, .int .i64 e.synced]
/-- its bytes lie in memory of which O says whose it is -/
structure FileOk (O : Nat → Prop) (w : World) (e : FileE) : Prop where
  row : Bytes w w.heap.size e.A e.data.length e.data
  own : 0 < e.data.length → ∀ b off, e.A = some ⟨b, off, none⟩ → O b
  cap : e.data.length ≤ e.c
  syn : e.synced ≤ e.data.length
  len : e.data.length ≤ 140737488355328
  typ : 0 < e.data.length → ∀ b off, e.A = some ⟨b, off, none⟩ → ∃ cs fr, w.heap[b]? = some (.cells cs 5 fr)
abbrev Files := List (Bs × FileE)
def Files.al (es : Files) : List (Bs × Value) := es.map fun p => (p.1, p.2.v)
/-- a disk -/
structure DiskIs (O : Nat → Prop) (w : World) (g mp : Nat) (es : Files) (fl dn : Bool) (left : Int) : Prop where
  blk : Blk w g 97 (diskV mp fl dn left)
  map : MapIs strKey w mp es.al
  files : ∀ p ∈ es, FileOk O w p.2
  nodup : (es.map (·.1)).Nodup
  lo : -1 ≤ left
  hi : left ≤ 9223372036854775807

theorem Row.but' {S : List Nat} {w w' : World} {sz n : Nat} {A : Option Addr} {xs : List Value} (h : Row w w.heap.size sz A n xs) (hb : But S w w') (hA : 0 < n → ∀ b off, A = some ⟨b, off, none⟩ → b ∉ S) : Row w' w'.heap.size sz A n xs := by
  refine ⟨h.1, fun hn => ?_⟩
  obtain ⟨b, off, e, hlt, hc⟩ := h.2 hn
  exact ⟨b, off, e, Nat.lt_of_lt_of_le hlt hb.size, fun j u hu => (hb.cell (p := ⟨b, off + j, none⟩) hlt (hA hn b off e)).trans (hc j u hu)⟩
theorem FileOk.lt' {w : World} {O : Nat → Prop} {e : FileE} (h : FileOk O w e) (hn : 0 < e.data.length) {b off : Nat} (e' : e.A = some ⟨b, off, none⟩) : b < w.heap.size := by
  obtain ⟨cs, fr, h1⟩ := h.typ hn b off e'
  exact (Array.getElem?_eq_some_iff.1 h1).1
theorem FileOk.but {S : List Nat} {w w' : World} {O : Nat → Prop} {e : FileE} (h : FileOk O w e) (hb : But S w w') (hO : ∀ b, O b → b < w.heap.size → b ∉ S) : FileOk O w' e := by
  refine ⟨?_, h.own, h.cap, h.syn, h.len, fun hn b off e' => ?_⟩
  · exact h.row.but' hb fun hn b off e' => hO b (h.own hn b off e') (h.lt' hn e')
  · rw [hb.block b (h.lt' hn e') (hO b (h.own hn b off e') (h.lt' hn e'))]
    exact h.typ hn b off e'
theorem FileOk.mono {w : World} {O O' : Nat → Prop} {e : FileE} (h : FileOk O w e) (hO : ∀ b, O b → O' b) : FileOk O' w e := ⟨h.row, fun hn b off e' => hO b (h.own hn b off e'), h.cap, h.syn, h.len, h.typ⟩
/-- whose it is, and that it is there -/
theorem FileOk.lt {w : World} {O : Nat → Prop} {e : FileE} (h : FileOk O w e) : FileOk (fun b => O b ∧ b < w.heap.size) w e := by
  refine ⟨h.row, fun hn b off e' => ⟨h.own hn b off e', ?_⟩, h.cap, h.syn, h.len, h.typ⟩
  obtain ⟨b', off', e2, hlt, _⟩ := h.row.2 hn
  rw [e2] at e'
  simp only [Option.some.injEq, Addr.mk.injEq, and_true] at e'
  obtain ⟨rfl, _⟩ := e'
  exact hlt
theorem FileOk.of_own {w : World} {B : Nat} {A : Option Addr} {c : Nat} {l : Bs} {s : Nat} (h : OwnB w B (.slice A l.length c) l) (hs : s ≤ l.length) (hl : l.length ≤ 140737488355328) : FileOk (fun b => B ≤ b) w ⟨A, c, l, s⟩ := by
  obtain ⟨A', c', e, hc, hrow⟩ := OwnB.shapeC h
  simp only [Value.slice.injEq, true_and] at e
  obtain ⟨rfl, rfl⟩ := e
  refine ⟨hrow, fun hn b off e' => ?_, hc, hs, hl, fun hn b off e' => ?_⟩
  rotate_left
  · rcases h.2 with ⟨e2, h0⟩ | ⟨g, cap, cur, e2, _, hh, _⟩
    · have hn' : 0 < l.length := hn
      omega
    · injection e2 with e2 _ _
      have e3 : A = some ⟨b, off, none⟩ := e'
      rw [e3] at e2
      simp only [Option.some.injEq, Addr.mk.injEq, and_true] at e2
      rw [e2.1]
      exact ⟨_, _, hh⟩
  obtain ⟨g, e2, hB, _⟩ := own_at h hn
  rw [e2] at e'
  simp only [Option.some.injEq, Addr.mk.injEq, and_true] at e'
  omega
theorem DiskIs.but {S : List Nat} {w w' : World} {O : Nat → Prop} {g mp : Nat} {es : Files} {fl dn : Bool} {left : Int} (h : DiskIs O w g mp es fl dn left) (hb : But S w w') (hg : g ∉ S) (hm : mp ∉ S) (hO : ∀ b, O b → b < w.heap.size → b ∉ S) : DiskIs O w' g mp es fl dn left :=
  ⟨h.blk.but hb hg, MapIs.but h.map hb hm, fun p hp => (h.files p hp).but hb hO, h.nodup, h.lo, h.hi⟩
theorem DiskIs.below {w w' : World} {O : Nat → Prop} {g mp : Nat} {es : Files} {fl dn : Bool} {left : Int} (h : DiskIs O w g mp es fl dn left) (hb : Below w.heap.size w w') : DiskIs O w' g mp es fl dn left :=
  h.but (S := []) (But.of_below hb) (by simp) (by simp) (by simp)
theorem DiskIs.mono {w : World} {O O' : Nat → Prop} {g mp : Nat} {es : Files} {fl dn : Bool} {left : Int} (h : DiskIs O w g mp es fl dn left) (hO : ∀ b, O b → O' b) : DiskIs O' w g mp es fl dn left :=
  ⟨h.blk, h.map, fun p hp => (h.files p hp).mono hO, h.nodup, h.lo, h.hi⟩
theorem DiskIs.lt {w : World} {O : Nat → Prop} {g mp : Nat} {es : Files} {fl dn : Bool} {left : Int} (h : DiskIs O w g mp es fl dn left) : DiskIs (fun b => O b ∧ b < w.heap.size) w g mp es fl dn left :=
  ⟨h.blk, h.map, fun p hp => (h.files p hp).lt, h.nodup, h.lo, h.hi⟩
theorem DiskIs.ne {w : World} {O : Nat → Prop} {g mp : Nat} {es : Files} {fl dn : Bool} {left : Int} (h : DiskIs O w g mp es fl dn left) : g ≠ mp := by
  rintro rfl
  obtain ⟨_, _, h1, _⟩ := h.map
  have h2 := h.blk
  unfold Blk at h2
  rw [h1] at h2; cases h2
/-- bytes lie in no block of another kind -/
theorem bytes_keep {S : List Nat} {w w' : World} {A : Option Addr} {l : Bs} {g mp : Nat} {mpv : Nat} {fl dn : Bool} {left : Int} (h : Bytes w w.heap.size A l.length l) (hk : Blk w g 97 (diskV mpv fl dn left)) {al : List (Bs × Value)} (hm : MapIs strKey w mp al) (hb : But S w w') (hS : ∀ s ∈ S, s = g ∨ s = mp ∨ w.heap.size ≤ s) : Bytes w' w'.heap.size A l.length l := by
  refine h.but' hb fun hn b off e' hbS => ?_
  obtain ⟨b', off', e2, hlt, hc⟩ := h.2 hn
  rw [e2] at e'
  simp only [Option.some.injEq, Addr.mk.injEq, and_true] at e'
  obtain ⟨rfl, rfl⟩ := e'
  have h0 : (l.map bv)[0]? = some (bv (l[0]'hn)) := by rw [List.getElem?_map, List.getElem?_eq_getElem hn]; rfl
  have h1 := hc 0 _ h0
  rcases hS b' hbS with rfl | rfl | hge
  · rw [Nat.add_zero, hk.cell off'] at h1
    have h2 := List.mem_of_getElem? h1
    simp [diskV, bv] at h2
  · obtain ⟨es, clock, hm1, _⟩ := hm
    simp [World.cell?, hm1] at h1
  · omega
/-- block k is none of bytes -/
def NB (w : World) (k : Nat) : Prop := ∀ cs fr, w.heap[k]? ≠ some (.cells cs 5 fr)
theorem NB.blk {w : World} {k : Nat} {t : TypeId} {cs : List Value} (h : Blk w k t cs) (ht : t ≠ 5) : NB w k := fun cs' fr e => by
  unfold Blk at h
  rw [h] at e
  injection e with e
  injection e with _ e _
  exact ht e
theorem NB.map {w : World} {k : Nat} {al : List (Bs × Value)} (h : MapIs strKey w k al) : NB w k := fun cs' fr e => by
  obtain ⟨_, _, h1, _⟩ := h
  rw [h1] at e; cases e
theorem NB.own {w : World} {B : Nat} {e : TypeId} {sz n : Nat} {v : Value} {xs : List Value} (h : w.ownsRow B e sz v n xs) (ht : e ≠ 5) : ∀ k ∈ v.ownBlock.toList, NB w k := fun k hk => by
  rcases h.2 with ⟨rfl, _⟩ | ⟨g', cap, cur, rfl, _, hh, _⟩
  · simp [Value.ownBlock] at hk
  · have e1 : k = g' := by simpa [Value.ownBlock] using hk
    subst e1
    intro cs' fr e2
    rw [hh] at e2
    injection e2 with e2
    injection e2 with _ e2 _
    exact ht e2
theorem NB.but {S : List Nat} {w w' : World} {k : Nat} (h : NB w k) (hb : But S w w') (hk : k < w.heap.size) (hS : k ∉ S) : NB w' k := fun cs fr e => h cs fr (by rw [← hb.block k hk hS]; exact e)
/-- a file's bytes lie in no block of another kind -/
theorem FileOk.butT {S : List Nat} {w w' : World} {O : Nat → Prop} {e : FileE} (h : FileOk O w e) (hb : But S w w') (hS : ∀ s ∈ S, NB w s ∨ w.heap.size ≤ s) : FileOk O w' e := by
  have h1 : FileOk (fun b => O b ∧ b ∉ S) w e := ⟨h.row, fun hn b off e' => ⟨h.own hn b off e', fun hm => by
    obtain ⟨cs, fr, h2⟩ := h.typ hn b off e'
    rcases hS b hm with h3 | h3
    · exact h3 cs fr h2
    · have := (Array.getElem?_eq_some_iff.1 h2).1; omega⟩, h.cap, h.syn, h.len, h.typ⟩
  exact (h1.but hb (fun b hb' _ => hb'.2)).mono (fun b hb' => hb'.1)
theorem FileOk.keep {S : List Nat} {w w' : World} {O : Nat → Prop} {e : FileE} {g mp : Nat} {mpv : Nat} {fl dn : Bool} {left : Int} (h : FileOk O w e) (hk : Blk w g 97 (diskV mpv fl dn left)) {al : List (Bs × Value)} (hm : MapIs strKey w mp al) (hb : But S w w') (hS : ∀ s ∈ S, s = g ∨ s = mp ∨ w.heap.size ≤ s) : FileOk O w' e :=
  h.butT hb fun s hs => by
    rcases hS s hs with rfl | rfl | h1
    · exact Or.inl (NB.blk hk (by decide))
    · exact Or.inl (NB.map hm)
    · exact Or.inr h1
theorem DiskIs.keepF {S : List Nat} {w w' : World} {O : Nat → Prop} {g mp : Nat} {es : Files} {fl dn : Bool} {left : Int} (h : DiskIs O w g mp es fl dn left) (hb : But S w w') (hS : ∀ s ∈ S, s = g ∨ s = mp ∨ w.heap.size ≤ s) : ∀ p ∈ es, FileOk O w' p.2 :=
  fun p hp => (h.files p hp).keep h.blk h.map hb hS
/-- its own box written -/
theorem DiskIs.box {w w' : World} {O : Nat → Prop} {g mp : Nat} {es : Files} {fl dn fl' dn' : Bool} {left left' : Int} (h : DiskIs O w g mp es fl dn left) (hb : But [g] w w') (hk : Blk w' g 97 (diskV mp fl' dn' left')) (h1 : -1 ≤ left') (h2 : left' ≤ 9223372036854775807) : DiskIs O w' g mp es fl' dn' left' :=
  ⟨hk, MapIs.but h.map hb (by simp only [List.mem_singleton]; exact fun e => h.ne e.symm), h.keepF hb (fun s hs => Or.inl (by simpa using hs)), h.nodup, h1, h2⟩
/-- what a change does to the counter -/
def armed (left : Int) : Int := if 0 < left then left - 1 else left
def armedD (left : Int) (dn : Bool) : Bool := if 0 < left then decide (left = 1) else dn
end Go.Proofs.Ytmddgimadlmacaa
namespace Go.Proofs.Ytmddgimadlmacaa
open Go.RowKit Garner

def chgL (names : List ByteArray) (dn : Bool) (left : Int) : Int := if dmay names dn = 0 then armed left else left
def chgD (names : List ByteArray) (dn : Bool) (left : Int) : Bool := if dmay names dn = 0 then armedD left dn else dn
theorem chgL_no {names : List ByteArray} {dn : Bool} {left : Int} (h : dmay names dn ≠ 0) : chgL names dn left = left := if_neg h
theorem chgD_no {names : List ByteArray} {dn : Bool} {left : Int} (h : dmay names dn ≠ 0) : chgD names dn left = dn := if_neg h
theorem chgL_idle {names : List ByteArray} {dn : Bool} {left : Int} (h : left ≤ 0) : chgL names dn left = left := by
  unfold chgL armed
  rw [if_neg (show ¬ 0 < left by omega)]
  split <;> rfl
theorem chgD_idle {names : List ByteArray} {dn : Bool} {left : Int} (h : left ≤ 0) : chgD names dn left = dn := by
  unfold chgD armedD
  rw [if_neg (show ¬ 0 < left by omega)]
  split <;> rfl
theorem chgL_yes {names : List ByteArray} {dn : Bool} {left : Int} (h : dmay names dn = 0) (hl : 0 < left) : chgL names dn left = left - 1 := by unfold chgL armed; rw [if_pos h, if_pos hl]
theorem chgD_yes {names : List ByteArray} {dn : Bool} {left : Int} (h : dmay names dn = 0) (hl : 0 < left) : chgD names dn left = decide (left = 1) := by unfold chgD armedD; rw [if_pos h, if_pos hl]
theorem dmay_down {names : List ByteArray} {dn : Bool} (h : dmay names dn = 0) : dn = false := by
  unfold dmay at h
  split at h
  · cases dn
    · rfl
    · simp at h
  · cases h
set_option maxRecDepth 100000 in
set_option maxHeartbeats 4000000 in
theorem vChange (names : List ByteArray) (A : Option Addr) (c B g mp : Nat) (es : Files) (fl dn : Bool) (left : Int) (O : Nat → Prop) (w : World) (hr : Row w B 1 A names.length (names.map Value.string)) (hB : B ≤ w.heap.size) (hd : DiskIs O w g mp es fl dn left) (hl : names.length ≤ 1000) :
    Calls Try.prog 62 #[.pointer (some ⟨g, 0, none⟩), .slice A names.length c] w fun e w' => e = .returned (.int .i64 (dmay names dn)) ∧ DiskIs O w' g mp es fl (chgD names dn left) (chgL names dn left) ∧ But [g] w w' := by
  have hlo := hd.lo; have hhi := hd.hi
  by_cases h0 : dmay names dn = 0
  · obtain rfl := dmay_down h0
    by_cases hp : 0 < left
    · have e1 := chgL_yes h0 hp
      have e2 := chgD_yes h0 hp
      have h0' : ((dmay names false : Nat) : Int) = 0 := by omega
      have H0 := Lib.hid h0'; have E1 := Lib.hid e1; have E2 := Lib.hid e2
      clear h0 h0' e1 e2
      go_enter Try.func62, Try.ntmps62
      go_wp2_with fail
      refine (vDmay names A c B g mp fl false left w hr hB hd.blk hl).mono ?_
      rintro e w1 ⟨rfl, hb1⟩
      rw [H0.out]
      have hd1 := hd.below hb1
      have k0 := hd1.blk.frozen 3; have k2 := hd1.blk.frozen 2
      have c3 : w1.cell? ⟨g, 3, none⟩ = some (.int .i64 left) := hd1.blk.cell 3
      have c2 : w1.cell? ⟨g, 2, none⟩ = some (.bool false) := hd1.blk.cell 2
      clear hd
      go_wp2
      go_ret
      rw [H0.out, E1.out, E2.out]
      have hdec : (left - 1 == 0) = decide (left = 1) := by rw [Bool.eq_iff_iff]; simp; omega
      rw [hdec]
      have hbut : But [g] w1 ((w1.setCell ⟨g, 3, none⟩ (.int .i64 (left - 1))).setCell ⟨g, 2, none⟩ (.bool (decide (left = 1)))) := ((But.refl _ _).setCell (by simp) _).setCell (by simp) _
      have hk : Blk ((w1.setCell ⟨g, 3, none⟩ (.int .i64 (left - 1))).setCell ⟨g, 2, none⟩ (.bool (decide (left = 1)))) g 97 (diskV mp fl (decide (left = 1)) (left - 1)) := (hd1.blk.set_ 3 (.int .i64 (left - 1))).set_ 2 (.bool (decide (left = 1)))
      exact ⟨rfl, hd1.box hbut hk (by omega) (by omega), (But.of_below hb1).trans hbut⟩
    · have e1 : chgL names false left = left := chgL_idle (by omega)
      have e2 : chgD names false left = false := chgD_idle (by omega)
      have h0' : ((dmay names false : Nat) : Int) = 0 := by omega
      have H0 := Lib.hid h0'; have E1 := Lib.hid e1; have E2 := Lib.hid e2
      clear h0 h0' e1 e2
      go_enter Try.func62, Try.ntmps62
      go_wp2_with fail
      refine (vDmay names A c B g mp fl false left w hr hB hd.blk hl).mono ?_
      rintro e w1 ⟨rfl, hb1⟩
      rw [H0.out]
      have hd1 := hd.below hb1
      have c3 : w1.cell? ⟨g, 3, none⟩ = some (.int .i64 left) := hd1.blk.cell 3
      clear hd
      go_wp2
      go_ret
      rw [H0.out, E1.out, E2.out]
      exact ⟨rfl, hd1, But.of_below hb1⟩
  · have e1 := chgL_no (left := left) h0
    have e2 := chgD_no (left := left) h0
    have h0' : (((dmay names dn : Nat) : Int) == 0) = false := by rw [beq_eq_false_iff_ne]; omega
    have E1 := Lib.hid e1; have E2 := Lib.hid e2
    clear h0 e1 e2
    go_enter Try.func62, Try.ntmps62
    go_wp2_with fail
    refine (vDmay names A c B g mp fl dn left w hr hB hd.blk hl).mono ?_
    rintro e w1 ⟨rfl, hb1⟩
    have hd1 := hd.below hb1
    clear hd
    go_wp2
    go_ret
    rw [E1.out, E2.out]
    exact ⟨rfl, hd1, But.of_below hb1⟩
end Go.Proofs.Ytmddgimadlmacaa
