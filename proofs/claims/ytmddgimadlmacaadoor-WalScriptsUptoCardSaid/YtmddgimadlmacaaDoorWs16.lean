import Derived.Test.YtmddgimadlmacaaDoorWs12
import Derived.Test.YtmddgimadlmacaaDoorWs15
namespace Go.Proofs.YtmddgimadlmacaaDoor
open Go.RowKit Garner

/-- a file as it lies in memory -/
structure FileE where
  A : Option Addr
  c : Nat
  data : Bs
  synced : Nat
def FileE.v (e : FileE) : Value := .agg #[.slice e.A e.data.length e.c, .int .i64 e.synced]
/-- its bytes lie in memory of which O says whose it is -/
structure FileOk (O : Nat → Prop) (w : World) (e : FileE) : Prop where
  row : Bytes w w.heap.size e.A e.data.length e.data
  own : 0 < e.data.length → ∀ b off, e.A = some ⟨b, off, none⟩ → O b
  cap : e.data.length ≤ e.c
  syn : e.synced ≤ e.data.length
  len : e.data.length ≤ 140737488355328
  typ : 0 < e.data.length → ∀ b off, e.A = some ⟨b, off, none⟩ → ∃ cs fr, w.heap[b]? = some (.cells cs 5 fr)
abbrev Files := List (Bs × FileE)
def Files.al (es : Files) : List (Bs × Value) := es.map fun p => (p.1, p.2.v)
/-- a disk -/
structure DiskIs (O : Nat → Prop) (w : World) (g mp : Nat) (es : Files) (fl dn : Bool) (left : Int) : Prop where
  blk : Blk w g 76 (diskV mp fl dn left)
  map : MapIs strKey w mp es.al
  files : ∀ p ∈ es, FileOk O w p.2
  nodup : (es.map (·.1)).Nodup
  lo : -1 ≤ left
  hi : left ≤ 9223372036854775807

theorem Row.but' {S : List Nat} {w w' : World} {sz n : Nat} {A : Option Addr} {xs : List Value} (h : Row w w.heap.size sz A n xs) (hb : But S w w') (hA : 0 < n → ∀ b off, A = some ⟨b, off, none⟩ → b ∉ S) : Row w' w'.heap.size sz A n xs := by
  refine ⟨h.1, fun hn => ?_⟩
  obtain ⟨b, off, e, hlt, hc⟩ := h.2 hn
  exact ⟨b, off, e, Nat.lt_of_lt_of_le hlt hb.size, fun j u hu => (hb.cell (p := ⟨b, off + j, none⟩) hlt (hA hn b off e)).trans (hc j u hu)⟩
theorem FileOk.lt' {w : World} {O : Nat → Prop} {e : FileE} (h : FileOk O w e) (hn : 0 < e.data.length) {b off : Nat} (e' : e.A = some ⟨b, off, none⟩) : b < w.heap.size := by
  obtain ⟨cs, fr, h1⟩ := h.typ hn b off e'
  exact (Array.getElem?_eq_some_iff.1 h1).1
theorem FileOk.but {S : List Nat} {w w' : World} {O : Nat → Prop} {e : FileE} (h : FileOk O w e) (hb : But S w w') (hO : ∀ b, O b → b < w.heap.size → b ∉ S) : FileOk O w' e := by
  refine ⟨?_, h.own, h.cap, h.syn, h.len, fun hn b off e' => ?_⟩
  · exact h.row.but' hb fun hn b off e' => hO b (h.own hn b off e') (h.lt' hn e')
  · rw [hb.block b (h.lt' hn e') (hO b (h.own hn b off e') (h.lt' hn e'))]
    exact h.typ hn b off e'
theorem FileOk.mono {w : World} {O O' : Nat → Prop} {e : FileE} (h : FileOk O w e) (hO : ∀ b, O b → O' b) : FileOk O' w e := ⟨h.row, fun hn b off e' => hO b (h.own hn b off e'), h.cap, h.syn, h.len, h.typ⟩
/-- whose it is, and that it is there -/
theorem FileOk.lt {w : World} {O : Nat → Prop} {e : FileE} (h : FileOk O w e) : FileOk (fun b => O b ∧ b < w.heap.size) w e := by
  refine ⟨h.row, fun hn b off e' => ⟨h.own hn b off e', ?_⟩, h.cap, h.syn, h.len, h.typ⟩
  obtain ⟨b', off', e2, hlt, _⟩ := h.row.2 hn
  rw [e2] at e'
  simp only [Option.some.injEq, Addr.mk.injEq, and_true] at e'
  obtain ⟨rfl, _⟩ := e'
  exact hlt
theorem FileOk.of_own {w : World} {B : Nat} {A : Option Addr} {c : Nat} {l : Bs} {s : Nat} (h : OwnB w B (.slice A l.length c) l) (hs : s ≤ l.length) (hl : l.length ≤ 140737488355328) : FileOk (fun b => B ≤ b) w ⟨A, c, l, s⟩ := by
  obtain ⟨A', c', e, hc, hrow⟩ := OwnB.shapeC h
  simp only [Value.slice.injEq, true_and] at e
  obtain ⟨rfl, rfl⟩ := e
  refine ⟨hrow, fun hn b off e' => ?_, hc, hs, hl, fun hn b off e' => ?_⟩
  rotate_left
  · rcases h.2 with ⟨e2, h0⟩ | ⟨g, cap, cur, e2, _, hh, _⟩
    · have hn' : 0 < l.length := hn
      omega
    · injection e2 with e2 _ _
      have e3 : A = some ⟨b, off, none⟩ := e'
      rw [e3] at e2
      simp only [Option.some.injEq, Addr.mk.injEq, and_true] at e2
      rw [e2.1]
      exact ⟨_, _, hh⟩
  obtain ⟨g, e2, hB, _⟩ := own_at h hn
  rw [e2] at e'
  simp only [Option.some.injEq, Addr.mk.injEq, and_true] at e'
  omega
theorem DiskIs.but {S : List Nat} {w w' : World} {O : Nat → Prop} {g mp : Nat} {es : Files} {fl dn : Bool} {left : Int} (h : DiskIs O w g mp es fl dn left) (hb : But S w w') (hg : g ∉ S) (hm : mp ∉ S) (hO : ∀ b, O b → b < w.heap.size → b ∉ S) : DiskIs O w' g mp es fl dn left :=
  ⟨h.blk.but hb hg, MapIs.but h.map hb hm, fun p hp => (h.files p hp).but hb hO, h.nodup, h.lo, h.hi⟩
theorem DiskIs.below {w w' : World} {O : Nat → Prop} {g mp : Nat} {es : Files} {fl dn : Bool} {left : Int} (h : DiskIs O w g mp es fl dn left) (hb : Below w.heap.size w w') : DiskIs O w' g mp es fl dn left :=
  h.but (S := []) (But.of_below hb) (by simp) (by simp) (by simp)
theorem DiskIs.mono {w : World} {O O' : Nat → Prop} {g mp : Nat} {es : Files} {fl dn : Bool} {left : Int} (h : DiskIs O w g mp es fl dn left) (hO : ∀ b, O b → O' b) : DiskIs O' w g mp es fl dn left :=
  ⟨h.blk, h.map, fun p hp => (h.files p hp).mono hO, h.nodup, h.lo, h.hi⟩
theorem DiskIs.lt {w : World} {O : Nat → Prop} {g mp : Nat} {es : Files} {fl dn : Bool} {left : Int} (h : DiskIs O w g mp es fl dn left) : DiskIs (fun b => O b ∧ b < w.heap.size) w g mp es fl dn left :=
  ⟨h.blk, h.map, fun p hp => (h.files p hp).lt, h.nodup, h.lo, h.hi⟩
theorem DiskIs.ne {w : World} {O : Nat → Prop} {g mp : Nat} {es : Files} {fl dn : Bool} {left : Int} (h : DiskIs O w g mp es fl dn left) : g ≠ mp := by
  rintro rfl
  obtain ⟨_, _, h1, _⟩ := h.map
  have h2 := h.blk
  unfold Blk at h2
  rw [h1] at h2; cases h2
/-- bytes lie in no block of another kind -/
theorem bytes_keep {S : List Nat} {w w' : World} {A : Option Addr} {l : Bs} {g mp : Nat} {mpv : Nat} {fl dn : Bool} {left : Int} (h : Bytes w w.heap.size A l.length l) (hk : Blk w g 76 (diskV mpv fl dn left)) {al : List (Bs × Value)} (hm : MapIs strKey w mp al) (hb : But S w w') (hS : ∀ s ∈ S, s = g ∨ s = mp ∨ w.heap.size ≤ s) : Bytes w' w'.heap.size A l.length l := by
  refine h.but' hb fun hn b off e' hbS => ?_
  obtain ⟨b', off', e2, hlt, hc⟩ := h.2 hn
  rw [e2] at e'
  simp only [Option.some.injEq, Addr.mk.injEq, and_true] at e'
  obtain ⟨rfl, rfl⟩ := e'
  have h0 : (l.map bv)[0]? = some (bv (l[0]'hn)) := by rw [List.getElem?_map, List.getElem?_eq_getElem hn]; rfl
  have h1 := hc 0 _ h0
  rcases hS b' hbS with rfl | rfl | hge
  · rw [Nat.add_zero, hk.cell off'] at h1
    have h2 := List.mem_of_getElem? h1
    simp [diskV, bv] at h2
  · obtain ⟨es, clock, hm1, _⟩ := hm
    simp [World.cell?, hm1] at h1
  · omega
/-- block k is none of bytes -/
def NB (w : World) (k : Nat) : Prop := ∀ cs fr, w.heap[k]? ≠ some (.cells cs 5 fr)
theorem NB.blk {w : World} {k : Nat} {t : TypeId} {cs : List Value} (h : Blk w k t cs) (ht : t ≠ 5) : NB w k := fun cs' fr e => by
  unfold Blk at h
  rw [h] at e
  injection e with e
  injection e with _ e _
  exact ht e
theorem NB.map {w : World} {k : Nat} {al : List (Bs × Value)} (h : MapIs strKey w k al) : NB w k := fun cs' fr e => by
  obtain ⟨_, _, h1, _⟩ := h
  rw [h1] at e; cases e
theorem NB.own {w : World} {B : Nat} {e : TypeId} {sz n : Nat} {v : Value} {xs : List Value} (h : w.ownsRow B e sz v n xs) (ht : e ≠ 5) : ∀ k ∈ v.ownBlock.toList, NB w k := fun k hk => by
  rcases h.2 with ⟨rfl, _⟩ | ⟨g', cap, cur, rfl, _, hh, _⟩
  · simp [Value.ownBlock] at hk
  · have e1 : k = g' := by simpa [Value.ownBlock] using hk
    subst e1
    intro cs' fr e2
    rw [hh] at e2
    injection e2 with e2
    injection e2 with _ e2 _
    exact ht e2
theorem NB.but {S : List Nat} {w w' : World} {k : Nat} (h : NB w k) (hb : But S w w') (hk : k < w.heap.size) (hS : k ∉ S) : NB w' k := fun cs fr e => h cs fr (by rw [← hb.block k hk hS]; exact e)
/-- a file's bytes lie in no block of another kind -/
theorem FileOk.butT {S : List Nat} {w w' : World} {O : Nat → Prop} {e : FileE} (h : FileOk O w e) (hb : But S w w') (hS : ∀ s ∈ S, NB w s ∨ w.heap.size ≤ s) : FileOk O w' e := by
  have h1 : FileOk (fun b => O b ∧ b ∉ S) w e := ⟨h.row, fun hn b off e' => ⟨h.own hn b off e', fun hm => by
    obtain ⟨cs, fr, h2⟩ := h.typ hn b off e'
    rcases hS b hm with h3 | h3
    · exact h3 cs fr h2
    · have := (Array.getElem?_eq_some_iff.1 h2).1; omega⟩, h.cap, h.syn, h.len, h.typ⟩
  exact (h1.but hb (fun b hb' _ => hb'.2)).mono (fun b hb' => hb'.1)
theorem FileOk.keep {S : List Nat} {w w' : World} {O : Nat → Prop} {e : FileE} {g mp : Nat} {mpv : Nat} {fl dn : Bool} {left : Int} (h : FileOk O w e) (hk : Blk w g 76 (diskV mpv fl dn left)) {al : List (Bs × Value)} (hm : MapIs strKey w mp al) (hb : But S w w') (hS : ∀ s ∈ S, s = g ∨ s = mp ∨ w.heap.size ≤ s) : FileOk O w' e :=
  h.butT hb fun s hs => by
    rcases hS s hs with rfl | rfl | h1
    · exact Or.inl (NB.blk hk (by decide))
    · exact Or.inl (NB.map hm)
    · exact Or.inr h1
theorem DiskIs.keepF {S : List Nat} {w w' : World} {O : Nat → Prop} {g mp : Nat} {es : Files} {fl dn : Bool} {left : Int} (h : DiskIs O w g mp es fl dn left) (hb : But S w w') (hS : ∀ s ∈ S, s = g ∨ s = mp ∨ w.heap.size ≤ s) : ∀ p ∈ es, FileOk O w' p.2 :=
  fun p hp => (h.files p hp).keep h.blk h.map hb hS
/-- its own box written -/
theorem DiskIs.box {w w' : World} {O : Nat → Prop} {g mp : Nat} {es : Files} {fl dn fl' dn' : Bool} {left left' : Int} (h : DiskIs O w g mp es fl dn left) (hb : But [g] w w') (hk : Blk w' g 76 (diskV mp fl' dn' left')) (h1 : -1 ≤ left') (h2 : left' ≤ 9223372036854775807) : DiskIs O w' g mp es fl' dn' left' :=
  ⟨hk, MapIs.but h.map hb (by simp only [List.mem_singleton]; exact fun e => h.ne e.symm), h.keepF hb (fun s hs => Or.inl (by simpa using hs)), h.nodup, h1, h2⟩
/-- what a change does to the counter -/
def armed (left : Int) : Int := if 0 < left then left - 1 else left
def armedD (left : Int) (dn : Bool) : Bool := if 0 < left then decide (left = 1) else dn
end Go.Proofs.YtmddgimadlmacaaDoor
namespace Go.Proofs.YtmddgimadlmacaaDoor
open Go.RowKit Garner

def chgL (names : List ByteArray) (dn : Bool) (left : Int) : Int := if dmay names dn = 0 then armed left else left
def chgD (names : List ByteArray) (dn : Bool) (left : Int) : Bool := if dmay names dn = 0 then armedD left dn else dn
theorem chgL_no {names : List ByteArray} {dn : Bool} {left : Int} (h : dmay names dn ≠ 0) : chgL names dn left = left := if_neg h
theorem chgD_no {names : List ByteArray} {dn : Bool} {left : Int} (h : dmay names dn ≠ 0) : chgD names dn left = dn := if_neg h
theorem chgL_idle {names : List ByteArray} {dn : Bool} {left : Int} (h : left ≤ 0) : chgL names dn left = left := by
  unfold chgL armed
  rw [if_neg (show ¬ 0 < left by omega)]
  split <;> rfl
theorem chgD_idle {names : List ByteArray} {dn : Bool} {left : Int} (h : left ≤ 0) : chgD names dn left = dn := by
  unfold chgD armedD
  rw [if_neg (show ¬ 0 < left by omega)]
  split <;> rfl
theorem chgL_yes {names : List ByteArray} {dn : Bool} {left : Int} (h : dmay names dn = 0) (hl : 0 < left) : chgL names dn left = left - 1 := by unfold chgL armed; rw [if_pos h, if_pos hl]
theorem chgD_yes {names : List ByteArray} {dn : Bool} {left : Int} (h : dmay names dn = 0) (hl : 0 < left) : chgD names dn left = decide (left = 1) := by unfold chgD armedD; rw [if_pos h, if_pos hl]
theorem dmay_down {names : List ByteArray} {dn : Bool} (h : dmay names dn = 0) : dn = false := by
  unfold dmay at h
  split at h
  · cases dn
    · rfl
    · simp at h
  · cases h
set_option maxRecDepth 100000 in
set_option maxHeartbeats 4000000 in
theorem vChange (names : List ByteArray) (A : Option Addr) (c B g mp : Nat) (es : Files) (fl dn : Bool) (left : Int) (O : Nat → Prop) (w : World) (hr : Row w B 1 A names.length (names.map Value.string)) (hB : B ≤ w.heap.size) (hd : DiskIs O w g mp es fl dn left) (hl : names.length ≤ 1000) :
    Calls Tryd.prog 40 #[.pointer (some ⟨g, 0, none⟩), .slice A names.length c] w fun e w' => e = .returned (.int .i64 (dmay names dn)) ∧ DiskIs O w' g mp es fl (chgD names dn left) (chgL names dn left) ∧ But [g] w w' := by
  have hlo := hd.lo; have hhi := hd.hi
  by_cases h0 : dmay names dn = 0
  · obtain rfl := dmay_down h0
    by_cases hp : 0 < left
    · have e1 := chgL_yes h0 hp
      have e2 := chgD_yes h0 hp
      have h0' : ((dmay names false : Nat) : Int) = 0 := by omega
      have H0 := Lib.hid h0'; have E1 := Lib.hid e1; have E2 := Lib.hid e2
      clear h0 h0' e1 e2
      go_enter Tryd.func40, Tryd.ntmps40
      go_wp2_with fail
      refine (vDmay names A c B g mp fl false left w hr hB hd.blk hl).mono ?_
      rintro e w1 ⟨rfl, hb1⟩
      rw [H0.out]
      have hd1 := hd.below hb1
      have k0 := hd1.blk.frozen 3; have k2 := hd1.blk.frozen 2
      have c3 : w1.cell? ⟨g, 3, none⟩ = some (.int .i64 left) := hd1.blk.cell 3
      have c2 : w1.cell? ⟨g, 2, none⟩ = some (.bool false) := hd1.blk.cell 2
      clear hd
      go_wp2
      go_ret
      rw [H0.out, E1.out, E2.out]
      have hdec : (left - 1 == 0) = decide (left = 1) := by rw [Bool.eq_iff_iff]; simp; omega
      rw [hdec]
      have hbut : But [g] w1 ((w1.setCell ⟨g, 3, none⟩ (.int .i64 (left - 1))).setCell ⟨g, 2, none⟩ (.bool (decide (left = 1)))) := ((But.refl _ _).setCell (by simp) _).setCell (by simp) _
      have hk : Blk ((w1.setCell ⟨g, 3, none⟩ (.int .i64 (left - 1))).setCell ⟨g, 2, none⟩ (.bool (decide (left = 1)))) g 76 (diskV mp fl (decide (left = 1)) (left - 1)) := (hd1.blk.set_ 3 (.int .i64 (left - 1))).set_ 2 (.bool (decide (left = 1)))
      exact ⟨rfl, hd1.box hbut hk (by omega) (by omega), (But.of_below hb1).trans hbut⟩
    · have e1 : chgL names false left = left := chgL_idle (by omega)
      have e2 : chgD names false left = false := chgD_idle (by omega)
      have h0' : ((dmay names false : Nat) : Int) = 0 := by omega
      have H0 := Lib.hid h0'; have E1 := Lib.hid e1; have E2 := Lib.hid e2
      clear h0 h0' e1 e2
      go_enter Tryd.func40, Tryd.ntmps40
      go_wp2_with fail
      refine (vDmay names A c B g mp fl false left w hr hB hd.blk hl).mono ?_
      rintro e w1 ⟨rfl, hb1⟩
      rw [H0.out]
      have hd1 := hd.below hb1
      have c3 : w1.cell? ⟨g, 3, none⟩ = some (.int .i64 left) := hd1.blk.cell 3
      clear hd
      go_wp2
      go_ret
      rw [H0.out, E1.out, E2.out]
      exact ⟨rfl, hd1, But.of_below hb1⟩
  · have e1 := chgL_no (left := left) h0
    have e2 := chgD_no (left := left) h0
    have h0' : (((dmay names dn : Nat) : Int) == 0) = false := by rw [beq_eq_false_iff_ne]; omega
    have E1 := Lib.hid e1; have E2 := Lib.hid e2
    clear h0 e1 e2
    go_enter Tryd.func40, Tryd.ntmps40
    go_wp2_with fail
    refine (vDmay names A c B g mp fl dn left w hr hB hd.blk hl).mono ?_
    rintro e w1 ⟨rfl, hb1⟩
    have hd1 := hd.below hb1
    clear hd
    go_wp2
    go_ret
    rw [E1.out, E2.out]
    exact ⟨rfl, hd1, But.of_below hb1⟩
end Go.Proofs.YtmddgimadlmacaaDoor
