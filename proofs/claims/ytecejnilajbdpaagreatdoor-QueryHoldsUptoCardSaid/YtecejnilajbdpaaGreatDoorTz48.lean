import Derived.Test.YtecejnilajbdpaaGreatDoorTz47
set_option maxRecDepth 100000
set_option maxHeartbeats 64000000
namespace Garner
open Go
structure TailP where
 ws : List RecP
 over : Bool
def takeN (n : Int) (m : Nat) : Nat := min n.toNat m
def TailP.take (t : TailP) (n : Int) : TailP × List RecP × Bool :=
 (⟨t.ws.drop (takeN n t.ws.length), t.over⟩, t.ws.take (takeN n t.ws.length), t.over && decide ((t.ws.drop (takeN n t.ws.length)).length = 0))
end Garner
namespace Go.Proofs.YtecejnilajbdpaaGreatDoor
open Go.RowKit Go.Shelf Garner
structure RecD where
 r : RecP
 A : Option Addr
 c : Nat
def RecD.cells (d : RecD) : List Value := [.int .i64 d.r.time, .int .u64 d.r.seq, .slice d.A d.r.labels.length d.c, strB d.r.line]
theorem RecD.cells_len (d : RecD) : d.cells.length = 4 := rfl
def LabOwn (B : Nat) (w : World) (d : RecD) : Prop := w.ownsRow B 43 2 (.slice d.A d.r.labels.length d.c) d.r.labels.length (d.r.labels.flatMap labCells)
abbrev TT : List TypeId := [75, 38]
structure TailIs (B : Nat) (w : World) (g : Nat) (q : QueryP) (ds : List RecD) (ov : Bool) (f : Nat) (V : Value) : Prop where
 blk : Blk w g 75 [.pointer (some ⟨f, 0, none⟩), V, .bool ov]
 fil : FilAt B w f q
 row : w.ownsRow B 38 4 V ds.length (ds.flatMap RecD.cells)
 lab : ∀ d ∈ ds, LabOwn B w d
 ms : q.ms.length ≤ 16
 fs : q.fs.length ≤ 16
 low : B ≤ g
def tailS (g : Nat) (V : Value) : List Nat := g :: V.ownBlock.toList
section
variable {B : Nat} {w w' : World} {g f : Nat} {q : QueryP} {ds : List RecD} {ov : Bool} {V : Value}
theorem FilAt.keepTT (h : FilAt B w g q) (hk : KeepM TT w w') : FilAt B w' g q := by
 obtain ⟨v1, v2, P, Q, pv, h1, h2⟩ := h
 exact ⟨v1, v2, P, Q, pv, h1.keepT hk (by decide) (by decide) (by decide) (by decide) (by decide) (by decide) (by decide) (by decide), h2⟩
theorem TailIs.other {S : List Nat} (h : TailIs B w g q ds ov f V) (hb : But S w w') (hk : KeepM TT w w') (hS : ∀ k ∈ tailS g V, k ∉ S) : TailIs B w' g q ds ov f V :=
 ⟨h.blk.but hb (hS _ (by simp [tailS])), h.fil.keepTT hk, own_but h.row hb fun k hk' => hS k (by simp [tailS, hk']), fun d hd => hk.own (h.lab d hd) (by decide), h.ms, h.fs, h.low⟩
theorem TailIs.below (h : TailIs B w g q ds ov f V) (hb : Below w.heap.size w w') : TailIs B w' g q ds ov f V := h.other (S := []) (.of_below hb) (.of_below hb) (by simp)
theorem TailIs.lt (h : TailIs B w g q ds ov f V) : ∀ k ∈ tailS g V, B ≤ k ∧ k < w.heap.size := fun k hk => by
 rcases List.mem_cons.1 hk with rfl | hk
 ·exact ⟨h.low, h.blk.lt⟩
 exact h.row.lt k (Option.mem_toList.1 hk)
end
end Go.Proofs.YtecejnilajbdpaaGreatDoor
namespace Garner
open Go
end Garner
namespace Go.Proofs.YtecejnilajbdpaaGreatDoor
open Go.RowKit Go.Shelf Garner
def TakeO (K : Nat) (B g : Nat) (q : QueryP) (ds : List RecD) (ov : Bool) (f : Nat) (w : World) (e : Ending) (w' : World) : Prop :=
 ∃ L V', e = .returned (.tuple #[L, .bool (ov && decide (ds.length - K = 0))]) ∧ w'.ownsRow w.heap.size 38 4 L K ((ds.take K).flatMap RecD.cells) ∧ TailIs B w' g q (ds.drop K) ov f V' ∧ But [g] w w' ∧ KeepM TT w w' ∧ (∀ k, V'.ownBlock = some k → w.heap.size ≤ k) ∧ ∀ k, L.ownBlock = some k → k ∉ tailS g V'
theorem TakeO.dn {K B g : Nat} {q : QueryP} {ds : List RecD} {ov : Bool} {f : Nat} {w w' w2 : World} {e : Ending} (h : TakeO K B g q ds ov f w e w') (hb : Below w'.heap.size w' w2) : TakeO K B g q ds ov f w e w2 := by
 obtain ⟨L, V', h1, h2, h3, h4, h5, h6, h7⟩ := h
 exact ⟨L, V', h1, own_below h2 hb, h3.below hb, h4.trans (.of_below hb), h5.trans (.of_below hb), h6, h7⟩
section
variable {B g : Nat} {q : QueryP} {ds : List RecD} {ov : Bool} {f : Nat} {V : Value} {r : RecP} {w w' : World}
end
open Go.RowKit Go.Shelf Garner
structure RecsAt (w : World) (A : Option Addr) (n : Nat) (ds : List RecD) : Prop where
 row : Row w w.heap.size 4 A n (ds.flatMap RecD.cells)
 len : ds.length = n
 lab : ∀ d ∈ ds, Row w w.heap.size 2 d.A d.r.labels.length (d.r.labels.flatMap labCells)
 few : ∀ d ∈ ds, d.r.labels.length ≤ 1000000000000
theorem RecsAt.below {w w' : World} {A : Option Addr} {n : Nat} {ds : List RecD} (h : RecsAt w A n ds) (hb : Below w.heap.size w w') : RecsAt w' A n ds :=
 ⟨(h.row.below hb).more hb.size, h.len, fun d hd => ((h.lab d hd).below hb).more hb.size, h.few⟩
theorem rec_cells {w : World} {B : Nat} {l : List RecD} {A : Option Addr} {n : Nat} (h : Row w B 4 A n (l.flatMap RecD.cells)) {k : Nat} {d : RecD} (hm : l[k]? = some d) (hk : k < n) : ∃ b off, A = some ⟨b, off, none⟩ ∧ ∀ wx, Below B w wx → wx.cell? ⟨b, off + k * 4, none⟩ = some (.int .i64 d.r.time) ∧ wx.cell? ⟨b, off + k * 4 + 1, none⟩ = some (.int .u64 d.r.seq) ∧ wx.cell? ⟨b, off + k * 4 + 2, none⟩ = some (.slice d.A d.r.labels.length d.c) ∧ wx.cell? ⟨b, off + k * 4 + 3, none⟩ = some (strB d.r.line) := by
 obtain ⟨b, off, e, hb, hc⟩ := row_cells RecD.cells_len h hm hk
 refine ⟨b, off, e, fun wx hx => ?_⟩
 have key : ∀ j, j < 4 → wx.cell? ⟨b, off + (k * 4 + j), none⟩ = d.cells[j]? := fun j hj => by
  rw [hx.cell (p := ⟨b, off + (k * 4 + j), none⟩) hb]; exact hc j hj
 refine ⟨key 0 (by omega), ?_, ?_, ?_⟩
 ·have := key 1 (by omega); rwa [← Nat.add_assoc] at this
 ·have := key 2 (by omega); rwa [← Nat.add_assoc] at this
 have := key 3 (by omega); rwa [← Nat.add_assoc] at this
end Go.Proofs.YtecejnilajbdpaaGreatDoor
namespace Garner
open Go
section
variable {S : Bs} {i j : Nat} {c : UInt8} {t : Bs} {l : List Bs}
def TkI (S : Bs) (l : List Bs) (i : Nat) : Prop := toks S = (toks (S.drop i)).map (l ++ ·)
theorem TkI.start (S : Bs) : TkI S [] 0 := by
 unfold TkI
 rw [List.drop_zero]
 cases toks S <;> rfl
theorem TkI.step (h : TkI S l i) (e : toks (S.drop i) = (toks (S.drop j)).map (t :: ·)) : TkI S (l ++ [t]) j := by
 unfold TkI at h ⊢
 rw [h, e]
 cases toks (S.drop j) with
 | none => rfl
 | some x => simp
theorem TkI.skip (h : TkI S l i) (e : toks (S.drop i) = toks (S.drop j)) : TkI S l j := by
 unfold TkI at h ⊢
 rw [h, e]
theorem TkI.none_ (h : TkI S l i) (e : toks (S.drop i) = none) : toks S = none := by
 unfold TkI at h
 rw [h, e]; rfl
theorem TkI.fin (h : TkI S l i) (hi : S.length ≤ i) : toks S = some l := by
 unfold TkI at h
 rw [h, List.drop_eq_nil_of_le hi]
 show (some ([] : List Bs)).map _ = _
 simp
end
section
variable {ms : List MatP} {fs : List FilP} {l : List Bs} {i : Nat}
end
open Go
end Garner
namespace Go.Proofs.YtecejnilajbdpaaGreatDoor
open Go.RowKit Go.Shelf Garner
end Go.Proofs.YtecejnilajbdpaaGreatDoor
namespace Garner
open Go
def TqI (S : Bs) (p : Nat) (b : Bs) (i : Nat) : Prop := textG (S.drop p) = (textG (S.drop i)).map fun x => (b ++ x.1, x.2)
section
variable {S b : Bs} {p i j : Nat} {c : UInt8}
theorem TqI.start (S : Bs) (p : Nat) : TqI S p [] p := by unfold TqI; cases textG (S.drop p) <;> rfl
theorem TqI.add (h : TqI S p b i) (e : textG (S.drop i) = (textG (S.drop j)).map fun x => (c :: x.1, x.2)) : TqI S p (b ++ [c]) j := by
 unfold TqI at h ⊢
 rw [h, e]
 cases textG (S.drop j) <;> simp
theorem TqI.no (h : TqI S p b i) (e : textG (S.drop i) = none) : textG (S.drop p) = none := by
 unfold TqI at h
 rw [h, e]; rfl
theorem TqI.fin (h : TqI S p b i) (e : textG (S.drop i) = some ([], S.drop (i + 1))) : textG (S.drop p) = some (b, S.drop (i + 1)) := by
 unfold TqI at h
 rw [h, e]; simp
end
theorem one_ext {S : ByteArray} {l : Bs} {k : Nat} {c : UInt8} (hS : S = ⟨l.toArray⟩) (h : l[k]? = some c) : S.extract k (k + 1) = ⟨#[c]⟩ := by
 rw [hS]
 apply ByteArray.ext
 apply Array.toList_inj.1
 obtain ⟨h1, h2⟩ := List.getElem?_eq_some_iff.1 h
 simp [ByteArray.extract_mk]
 rw [List.drop_eq_getElem_cons h1, h2]
 simp
theorem str_ne {T : ByteArray} {t u : Bs} (hT : T = ⟨t.toArray⟩) (h : t ≠ u) : (T.toList == u) = false ∧ ¬ T.toList = u := by
 have e : T.toList = t := by rw [hT]; simp
 rw [e]
 exact ⟨beq_eq_false_iff_ne.2 h, h⟩
end Garner
namespace Go.Proofs.YtecejnilajbdpaaGreatDoor
open Go.RowKit Go.Shelf Garner
def QuoO (s : Bs) (p : Nat) (e : Ending) : Prop := ∃ (t : Bs) (j : Int), e = .returned (.tuple #[strB t, .int .i64 j]) ∧ ((∃ n : Nat, j = (n : Int) ∧ p < n ∧ n ≤ s.length ∧ t.length ≤ s.length ∧ textG (s.drop (p + 1)) = some (t, s.drop n)) ∨ (j = -1 ∧ textG (s.drop (p + 1)) = none))
theorem QuoO.none_ {s : Bs} {p : Nat} (h : textG (s.drop (p + 1)) = none) : QuoO s p (.returned (.tuple #[.string ⟨#[]⟩, .int .i64 (-1)])) := ⟨[], -1, rfl, .inr ⟨rfl, h⟩⟩
end Go.Proofs.YtecejnilajbdpaaGreatDoor
namespace Garner
open Go
theorem joinC_snoc : ∀ {l : List Bs} (x : Bs), l ≠ [] → joinC (l ++ [x]) = joinC l ++ 44 :: x
 | [], _, h => absurd rfl h
 | [a], x, _ => rfl
 | a :: b :: r, x, _ => by
  have ih := joinC_snoc (l := b :: r) x (by simp)
  show a ++ 44 :: joinC ((b :: r) ++ [x]) = (a ++ 44 :: joinC (b :: r)) ++ 44 :: x
  rw [ih, List.append_assoc, List.cons_append]
def prM (q : QueryP) (k : Nat) : Bs := 123 :: joinC ((q.ms.take k).map matT)
def prF (q : QueryP) (k : Nat) : Bs := prM q q.ms.length ++ 125 :: (q.fs.take k).flatMap filT
section
variable {q : QueryP} {k : Nat} {m : MatP} {f : FilP}
theorem prM_first (h : q.ms[0]? = some m) : prM q 1 = prM q 0 ++ matT m := by
 unfold prM
 rw [List.take_add_one, h]
 rfl
theorem prM_next (h : q.ms[k]? = some m) (hk : 0 < k) : prM q (k + 1) = (prM q k ++ [44]) ++ matT m := by
 have hl := (List.getElem?_eq_some_iff.1 h).1
 unfold prM
 rw [List.take_add_one, h, Option.toList_some, List.map_append]
 show 123 :: joinC (_ ++ [matT m]) = _
 rw [joinC_snoc _ (by intro e; have h2 := congrArg List.length e; rw [List.length_map, List.length_take, List.length_nil] at h2; omega)]
 simp
theorem prF_zero : prF q 0 = prM q q.ms.length ++ [125] := rfl
theorem prF_next (h : q.fs[k]? = some f) : prF q (k + 1) = prF q k ++ filT f := by
 unfold prF
 rw [List.take_add_one, h, Option.toList_some, List.flatMap_append]
 simp
theorem prF_all : prF q q.fs.length = printP q := by
 unfold prF prM
 rw [List.take_length, List.take_length]
 simp [printP]
end
end Garner
namespace Go.Proofs.YtecejnilajbdpaaGreatDoor
open Garner
theorem sum4 (a n o v : Bs) : ((⟨a.toArray⟩ : ByteArray) ++ ⟨n.toArray⟩ ++ ⟨o.toArray⟩ ++ ⟨v.toArray⟩) = ⟨(a ++ (n ++ (o ++ v))).toArray⟩ := by
 rw [bytes_app, bytes_app, bytes_app]
 simp
open Go.RowKit Go.Shelf
theorem gQuote (s : Bs) (w : World) (hl : s.length ≤ 1000000000) :
  Calls Tryz.prog 61 #[strB s] w fun e w' => e = .returned (strB (quoteP s)) ∧ w' = w := by
 obtain ⟨S, eS, hS⟩ := str_form s
 have zS : S.size = s.length := by rw [hS]; exact str_size s
 obtain ⟨N, hN⟩ : ∃ N, s.length = N := ⟨_, rfl⟩
 rw [hN] at zS hl
 rw [eS]
 obtain ⟨ANS, hA⟩ : ∃ ANS, strB (quoteP s) = ANS := ⟨_, rfl⟩
 rw [hA]
 have HS := Lh hS; have HN := Lh hN; have HA := Lh hA
 clear hS hN eS hA
 go_enter Tryz.func61, Tryz.ntmps61
 go_wp2
 go_loopw [3, 4] (fun v i wr => ∃ (k : Nat) (T : ByteArray), k ≤ N ∧ i = .int .i64 k ∧ v = .string T ∧ Hid (T = ⟨(34 :: escP (s.take k)).toArray⟩) ∧ wr = w) (fun _ i _ => N - (intOf i).toNat)
 case atStart => exact ⟨0, ⟨#[34]⟩, by omega, rfl, rfl, Lh rfl, rfl⟩
 obtain ⟨k, T, hk, rfl, rfl, HT, hwr⟩ := hrel
 obtain rfl : w = wr := hwr.symm
 have zT : T.size ≤ 3000000001 := by
  have := esc_len (s.take k)
  have h2 : (s.take k).length ≤ s.length := by rw [List.length_take]; omega
  rw [HN.out] at h2
  rw [HT.out, str_size, List.length_cons]; omega
 have wk1 := wS k (by omega)
 have zs1 : ¬ 9223372036854775807 < T.size + 1 := by omega
 have zs2 : ¬ 9223372036854775807 < T.size + 2 := by omega
 by_cases hlt : k < N
 ·have z1 : (k : Int) < (N : Int) := by omega
  obtain ⟨c, hc⟩ : ∃ c, s[k]? = some c := ⟨_, List.getElem?_eq_getElem (by rw [HN.out]; exact hlt)⟩
  have hex := one_ext HS.out hc
  have hnx : ∀ E : ByteArray, E = ⟨(esc1 c).toArray⟩ → T ++ E = ⟨(34 :: escP (s.take (k + 1))).toArray⟩ := by
   rintro E rfl
   rw [HT.out, bytes_app, List.take_add_one, hc, Option.toList_some, show escP (s.take k ++ [c]) = escP (s.take k) ++ escP [c] from List.flatMap_append]
   simp [escP]
  have HNx := Lh hnx
  clear hnx hc
  by_cases h34 : c = 34
  ·subst h34
   have he := HNx.out ⟨#[92, 34]⟩ rfl
   have hpp : (⟨#[92]⟩ : ByteArray) ++ ⟨#[34]⟩ = ⟨#[92, 34]⟩ := rfl
   have HE := Lh he
   clear he
   go_wp2
   go_roundw
   case rel => exact ⟨k + 1, _, by omega, by first | rfl | go_num, rfl, HE, (by first | rfl | trivial)⟩
   case measure => simp [intOf]; omega
  by_cases h92 : c = 92
  ·subst h92
   have he := HNx.out ⟨#[92, 92]⟩ rfl
   have hpp : (⟨#[92]⟩ : ByteArray) ++ ⟨#[92]⟩ = ⟨#[92, 92]⟩ := rfl
   have HE := Lh he
   clear he
   go_wp2
   go_roundw
   case rel => exact ⟨k + 1, _, by omega, by first | rfl | go_num, rfl, HE, (by first | rfl | trivial)⟩
   case measure => simp [intOf]; omega
  by_cases h10 : c = 10
  ·subst h10
   have he := HNx.out ⟨#[92, 110]⟩ rfl
   have HE := Lh he
   clear he
   go_wp2
   go_roundw
   case rel => exact ⟨k + 1, _, by omega, by first | rfl | go_num, rfl, HE, (by first | rfl | trivial)⟩
   case measure => simp [intOf]; omega
  obtain ⟨E, hE⟩ : ∃ E : ByteArray, E = ⟨#[c]⟩ := ⟨_, rfl⟩
  obtain ⟨u1, v1⟩ := str_ne (t := [c]) (u := [34]) hE (by simpa using h34)
  obtain ⟨u2, v2⟩ := str_ne (t := [c]) (u := [10]) hE (by simpa using h10)
  obtain ⟨u3, v3⟩ := str_ne (t := [c]) (u := [92]) hE (by simpa using h92)
  have zE : E.size = 1 := by rw [hE]; rfl
  rw [← hE] at hex
  have he := HNx.out E (by rw [hE]; unfold esc1; rw [if_neg (fun h => h.elim h34 h92), if_neg h10])
  have HE := Lh he
  clear he hE h34 h92 h10
  go_wp2
  go_roundw
  case rel => exact ⟨k + 1, _, by omega, by first | rfl | go_num, rfl, HE, (by first | rfl | trivial)⟩
  case measure => simp [intOf]; omega
 obtain rfl : k = N := by omega
 have z1 : ¬ (k : Int) < (k : Int) := by omega
 have hans : ANS = .string (T ++ ⟨#[34]⟩) := by
  rw [← HA.out, HT.out, List.take_of_length_le (by rw [HN.out]; exact Nat.le_refl _)]
  have := bytes_app (34 :: escP s) [34]
  exact congrArg Value.string (this.trans (by simp [quoteP])).symm
 have HAn := Lh hans
 clear hans
 go_wp2
 go_ret
 exact ⟨by rw [HAn.out]; rfl, rfl⟩
end Go.Proofs.YtecejnilajbdpaaGreatDoor
namespace Garner
open Go
def awS : Bs := " {app=\"web\", env!~\"dev|test\"} |= \"err\" ".toUTF8.data.toList
def awPr : Bs := "{app=\"web\",env!~\"dev|test\"} |= \"err\"".toUTF8.data.toList
def awB : Bs := "{} |~ \"*\"".toUTF8.data.toList
def awQ : QueryP := ⟨[⟨[97, 112, 112], 1, [119, 101, 98]⟩, ⟨[101, 110, 118], 4, [100, 101, 118, 124, 116, 101, 115, 116]⟩], [⟨1, [101, 114, 114]⟩]⟩
def bdQ : QueryP := ⟨[], [⟨3, [42]⟩]⟩
theorem aw_toks : (toks awS).bind queryR = some awQ := by kernel_rfl
theorem bd_toks : (toks awB).bind queryR = some bdQ := by kernel_rfl
theorem aw_print : printP awQ = awPr := by kernel_rfl
theorem aw_valid : Lib.validD awS = true := by kernel_rfl
theorem bd_valid : Lib.validD awB = true := by kernel_rfl
theorem aw_check : checkQ awQ = 0 := by kernel_rfl
theorem bd_check : checkQ bdQ = 40 := by kernel_rfl
def awR : RecP := ⟨0, 0, [([97, 112, 112], [119, 101, 98])], [97, 110, 32, 101, 114, 114]⟩
def awR2 : RecP := ⟨0, 0, [], [97, 110, 32, 101, 114, 114]⟩
theorem aw_holds2 : holdsQ awQ awR2 = false := by kernel_rfl
theorem aw_parse : parseQ awS = .ok awQ := by
 unfold parseQ
 rw [if_neg (by decide), aw_valid, if_neg (by decide), aw_toks]
 simp only
 rw [if_pos aw_check]
theorem bd_parse : parseQ awB = .error 40 := by
 unfold parseQ
 rw [if_neg (by decide), bd_valid, if_neg (by decide), bd_toks]
 simp only
 rw [if_neg (by rw [bd_check]; decide), bd_check]
def devT : Re := .alt [.seq [litS 100, litS 101, litS 118], .seq [litS 116, litS 101, litS 115, litS 116]]
theorem dev_ok : rexpP [100, 101, 118, 124, 116, 101, 115, 116] = .ok devT := by
 have h1 : Lib.validD [100, 101, 118, 124, 116, 101, 115, 116] = true := by kernel_rfl
 have h2 : runesP [100, 101, 118, 124, 116, 101, 115, 116] = [100, 101, 118, 124, 116, 101, 115, 116] := by kernel_rfl
 have h3 : readR [100, 101, 118, 124, 116, 101, 115, 116] = .ok devT := by kernel_rfl
 unfold rexpP
 rw [if_neg (by decide), if_neg (by rw [h1]; decide), h2, h3]
theorem dev_not : patWhole [100, 101, 118, 124, 116, 101, 115, 116] [] = false := by
 unfold patWhole
 rw [dev_ok]
 show wholeB devT (runesP []) = false
 rw [show runesP [] = [] by kernel_rfl, Bool.eq_false_iff]
 intro h
 rcases (whole_iff.1 h : devT.M [] 0 0) with ⟨k, ⟨-, x, hx, -⟩, -⟩ | ⟨k, ⟨-, x, hx, -⟩, -⟩ | h
 ·cases hx
 ·cases hx
 exact h
theorem aw_holds : holdsQ awQ awR = true := by
 have h1 : matHolds awR ⟨[97, 112, 112], 1, [119, 101, 98]⟩ = true := by kernel_rfl
 have h2 : matHolds awR ⟨[101, 110, 118], 4, [100, 101, 118, 124, 116, 101, 115, 116]⟩ = true := by
  unfold matHolds matYes
  rw [if_pos (by decide)]
  show (patWhole [100, 101, 118, 124, 116, 101, 115, 116] [] != notO 4) = true
  rw [dev_not]; decide
 have h3 : filHolds awR ⟨1, [101, 114, 114]⟩ = true := by kernel_rfl
 unfold holdsQ awQ
 simp only [List.all_cons, List.all_nil, h1, h2, h3, Bool.and_true]
theorem opF_len (o : Int) : (opF o).length ≤ 2 := by
 unfold opF
 by_cases h1 : o = 1
 ·rw [if_pos h1]; decide
 by_cases h2 : o = 2
 ·rw [if_neg h1, if_pos h2]; decide
 by_cases h3 : o = 3
 ·rw [if_neg h1, if_neg h2, if_pos h3]; decide
 rw [if_neg h1, if_neg h2, if_neg h3]; decide
theorem flatB_len {α : Type} {f : α → Bs} {M : Nat} : ∀ l : List α, (∀ x ∈ l, (f x).length ≤ M) → (l.flatMap f).length ≤ l.length * M
 | [], _ => by simp
 | x :: l, h => by
  have h1 := h x (by simp)
  have ih := flatB_len l fun z hz => h z (List.mem_cons_of_mem _ hz)
  rw [List.flatMap_cons, List.length_append, List.length_cons, Nat.add_mul]
  omega
theorem prM_len {q : QueryP} (k : Nat) (h : q.ms.length ≤ 16) (hsm : ∀ m ∈ q.ms, m.name.length ≤ 10000000 ∧ m.val.length ≤ 10000000) : (prM q k).length ≤ 500000000 := by
 have h1 := joinC_len (M := 30000010) ((q.ms.take k).map matT) fun x hx => by
  obtain ⟨m, hm, rfl⟩ := List.mem_map.1 hx
  have h1 := hsm m (List.mem_of_mem_take hm)
  have h2 := quoteP_len m.val
  have h3 := opM_len m.op
  unfold matT
  rw [List.length_append, List.length_append]; omega
 have h2 : ((q.ms.take k).map matT).length ≤ 16 := by rw [List.length_map, List.length_take]; omega
 have h3 := Nat.mul_le_mul_right 30000011 h2
 unfold prM
 rw [List.length_cons]
 omega
theorem prF_len {q : QueryP} (k : Nat) (h : q.ms.length ≤ 16) (h' : q.fs.length ≤ 16) (hsm : ∀ m ∈ q.ms, m.name.length ≤ 10000000 ∧ m.val.length ≤ 10000000) (hsf : ∀ f ∈ q.fs, f.text.length ≤ 10000000) : (prF q k).length ≤ 900000000 := by
 have h1 := prM_len q.ms.length h hsm
 have b := flatB_len (f := filT) (M := 20000010) (q.fs.take k) fun f hf => by
  have k1 := hsf f (List.mem_of_mem_take hf)
  have k2 := quoteP_len f.text
  have k3 := opF_len f.op
  unfold filT
  simp; omega
 have h2 : (q.fs.take k).length ≤ 16 := by rw [List.length_take]; omega
 have h3 := Nat.mul_le_mul_right 20000010 h2
 unfold prF
 rw [List.length_append, List.length_cons]
 omega
def arrM : List Bs := [[], [61], [33, 61], [61, 126], [33, 126]]
def arrF : List Bs := [[], [124, 61], [33, 61], [124, 126], [33, 126]]
theorem arrM_at {o : Int} (h : o = 1 ∨ o = 2 ∨ o = 3 ∨ o = 4) : ∃ n : Nat, o = n ∧ n < 5 ∧ arrM[n]? = some (opM o) := by
 rcases h with rfl | rfl | rfl | rfl
 ·exact ⟨1, rfl, by omega, rfl⟩
 ·exact ⟨2, rfl, by omega, rfl⟩
 ·exact ⟨3, rfl, by omega, rfl⟩
 exact ⟨4, rfl, by omega, rfl⟩
theorem arrF_at {o : Int} (h : o = 1 ∨ o = 2 ∨ o = 3 ∨ o = 4) : ∃ n : Nat, o = n ∧ n < 5 ∧ arrF[n]? = some (opF o) := by
 rcases h with rfl | rfl | rfl | rfl
 ·exact ⟨1, rfl, by omega, rfl⟩
 ·exact ⟨2, rfl, by omega, rfl⟩
 ·exact ⟨3, rfl, by omega, rfl⟩
 exact ⟨4, rfl, by omega, rfl⟩
end Garner
namespace Go.Proofs.YtecejnilajbdpaaGreatDoor
open Go.RowKit Go.Shelf Garner
structure PrR (w0 wr : World) (MV FV : Value) (arr : List Bs) : Prop where
 be : Below w0.heap.size w0 wr
 bx : Blk wr w0.heap.size 25 [MV, FV]
 ar : Blk wr (w0.heap.size + 1) 111 (arr.map strB)
theorem PrR.below {w0 wr w' : World} {MV FV : Value} {arr : List Bs} (h : PrR w0 wr MV FV arr) (hb : Below wr.heap.size wr w') : PrR w0 w' MV FV arr :=
 ⟨h.be.trans (hb.mono h.be.size), h.bx.below hb h.bx.lt, h.ar.below hb h.ar.lt⟩
theorem gPrint (q : QueryP) (MA FA : Option Addr) (nm nf cm cf : Nat) (w : World) (hq : QueryAt w MA nm FA nf q) (hc : checkQ q = 0) (hsm : ∀ m ∈ q.ms, m.name.length ≤ 10000000 ∧ m.val.length ≤ 10000000) (hsf : ∀ f ∈ q.fs, f.text.length ≤ 10000000) :
  Calls Tryz.prog 32 #[.agg #[.slice MA nm cm, .slice FA nf cf]] w fun e w' => e = .returned (strB (printP q)) ∧ Below w.heap.size w w' := by
 obtain ⟨h16, hmo, hfo, -, -⟩ := check_zero hc
 have hk16 : q.ms.length ≤ 16 ∧ q.fs.length ≤ 16 := by omega
 have hlm := fun k => prM_len (q := q) k hk16.1 hsm
 have hlf := fun k => prF_len (q := q) k hk16.1 hk16.2 hsm hsf
 obtain ⟨X0, hX0⟩ : ∃ X0, X0 = w.alloc (.cells #[.slice MA nm cm, .slice FA nf cf] 25) := ⟨_, rfl⟩
 have b0 : Below w.heap.size w X0 := by rw [hX0]; exact (Below.refl _ _).alloc (Nat.le_refl _) _
 have k0 : Blk X0 w.heap.size 25 [.slice MA nm cm, .slice FA nf cf] := by rw [hX0]; exact Blk.new w _ _
 have z0 : X0.heap.size = w.heap.size + 1 := by rw [hX0]; simp
 obtain ⟨X, hX⟩ : ∃ X, X = X0.alloc (.cells #[.string ⟨#[]⟩, .string ⟨#[61]⟩, .string ⟨#[33, 61]⟩, .string ⟨#[61, 126]⟩, .string ⟨#[33, 126]⟩] 111) := ⟨_, rfl⟩
 have b1 : Below X0.heap.size X0 X := by rw [hX]; exact (Below.refl _ _).alloc (Nat.le_refl _) _
 have k1 : Blk X (w.heap.size + 1) 111 (arrM.map strB) := by rw [hX, ← z0]; exact Blk.new X0 _ _
 have H0 : Hid (PrR w X (.slice MA nm cm) (.slice FA nf cf) arrM) := Lh ⟨b0.trans (b1.mono b0.size), k0.below b1 k0.lt, k1⟩
 have HQ := Lh hq; have HMo := Lh hmo; have HFo := Lh hfo; have HLm := Lh hlm; have HLf := Lh hlf; have HSm := Lh hsm; have HSf := Lh hsf
 have Hnm := Lh hq.nm_; have Hnf := Lh hq.nf_
 have hn16 : nm ≤ 16 ∧ nf ≤ 16 := by rw [← hq.nm_, ← hq.nf_]; exact hk16
 obtain ⟨hnm16, hnf16⟩ := hn16
 clear hq hmo hfo hlm hlf hsm hsf h16 hk16 hc b0 k0 z0 b1 k1
 go_enter Tryz.func32, Tryz.ntmps32
 go_upto_region 3 with fail
 rw [← hX0]
 rw [← hX]
 clear hX0 hX
 go_wp2
 go_loopw [3, 5] (fun v i wr => ∃ (k : Nat) (T : ByteArray), k ≤ nm ∧ i = .int .i64 k ∧ v = .string T ∧ Hid (T = ⟨(prM q k).toArray⟩) ∧ Hid (PrR w wr (.slice MA nm cm) (.slice FA nf cf) arrM)) (fun _ i _ => nm - (intOf i).toNat)
 case atStart => exact ⟨0, ⟨#[123]⟩, Nat.zero_le _, rfl, rfl, Lh rfl, H0⟩
 clear H0
 obtain ⟨k, T, hk, rfl, rfl, HT, hst⟩ := hrel
 obtain ⟨wo, rfl⟩ : ∃ wo : World, wo = wr := ⟨_, rfl⟩
 have wk1 := wS k (by omega)
 have x0 : wo.cell? ⟨w.heap.size, 0, none⟩ = some (.slice MA nm cm) := hst.out.bx.cell 0
 have x1 : wo.cell? ⟨w.heap.size, 1, none⟩ = some (.slice FA nf cf) := hst.out.bx.cell 1
 have zT : T.size ≤ 500000000 := by rw [HT.out, str_size]; exact HLm.out k
 have zs1 : ¬ 9223372036854775807 < T.size + 1 := by omega
 by_cases hlt : k < nm
 ·have z1 : (k : Int) < (nm : Int) := by omega
  obtain ⟨m, hm⟩ : ∃ m, q.ms[k]? = some m := ⟨_, List.getElem?_eq_getElem (by rw [Hnm.out]; exact hlt)⟩
  obtain ⟨b, off, rfl, hc⟩ := HQ.out.mat hm
  obtain ⟨c0, c1, c2⟩ := hc wo hst.out.be
  have hmem := List.mem_of_getElem? hm
  have hml := HSm.out m hmem
  have hmo1 : matOk m = true := List.all_eq_true.1 HMo.out m hmem
  have ho4 : m.op = 1 ∨ m.op = 2 ∨ m.op = 3 ∨ m.op = 4 := opOk_four (by unfold matOk at hmo1; rw [Bool.and_eq_true] at hmo1; exact hmo1.2)
  obtain ⟨on, hon, hon5, harr⟩ := arrM_at ho4
  obtain ⟨N1, e1, hN1⟩ := str_form m.name
  obtain ⟨N2, e2, hN2⟩ := str_form m.val
  obtain ⟨O, eO, hO⟩ := str_form (opM m.op)
  obtain ⟨Q, eQ, hQ⟩ := str_form (quoteP m.val)
  have a0 : wo.cell? ⟨w.heap.size + 1, on, none⟩ = some (.string O) := by
   have h := hst.out.ar.cell on
   rw [List.getElem?_map, harr] at h
   rw [← eO]; exact h
  rw [e1] at c0
  rw [hon] at c1
  rw [e2] at c2
  have hqt := fun w1 => gQuote m.val w1 (by omega)
  rw [e2, eQ] at hqt
  have zN1 : N1.size ≤ 10000000 := by rw [hN1, str_size]; exact hml.1
  have zO : O.size ≤ 2 := by rw [hO, str_size]; exact opM_len m.op
  have zQ : Q.size ≤ 20000002 := by rw [hQ, str_size]; have := quoteP_len m.val; omega
  have zo5 : (on : Int) < 5 := by omega
  have hnx : ∀ T1 : ByteArray, T1 = ⟨(if k = 0 then prM q k else prM q k ++ [44]).toArray⟩ → T1 ++ N1 ++ O ++ Q = ⟨(prM q (k + 1)).toArray⟩ := by
   rintro T1 rfl
   rw [hN1, hO, hQ, sum4]
   by_cases hk0 : k = 0
   ·subst hk0
    rw [if_pos rfl, prM_first hm]
    rfl
   rw [if_neg hk0, prM_next hm (by omega)]
   rfl
  have HNx := Lh hnx; have HQt := Lh hqt
  clear hnx hqt hc hm hmem hml hmo1 ho4 hon harr e1 e2 eO eQ hN1 hN2 hO hQ
  obtain ⟨T1, hT1⟩ : ∃ T1 : ByteArray, T1 = ⟨(if k = 0 then prM q k else prM q k ++ [44]).toArray⟩ := ⟨_, rfl⟩
  have zT1 : T1.size ≤ 500000001 := by
   rw [hT1, str_size]
   have := HLm.out k
   split
   ·omega
   rw [List.length_append]; simp; omega
  have HT1 := Lh hT1
  clear hT1
  go_upto_if 16 with fail
  go_cut [3] from 8 to 43 (fun v wx => v = .string T1 ∧ wx = wo)
  case first =>
   by_cases hk0 : k = 0
   ·subst hk0
    have he : T = T1 := by rw [HT1.out, HT.out, if_pos rfl]
    subst he
    go_wp2
    go_meet
    case rel => exact ⟨rfl, rfl⟩
   have zk : (0 : Int) < (k : Int) := by omega
   have he : T ++ ⟨#[44]⟩ = T1 := by rw [HT1.out, HT.out, if_neg hk0]; exact bytes_app _ _
   have HE := Lh he
   clear he
   go_wp2
   go_meet
   case rel => exact ⟨by rw [HE.out], rfl⟩
  obtain ⟨rfl, hz⟩ := hcut
  obtain rfl : wo = wc := hz.symm
  have zs2 : ¬ 9223372036854775807 < T1.size + N1.size := by omega
  have zs3 : ¬ 9223372036854775807 < (T1 ++ N1).size + O.size := by rw [ByteArray.size_append]; omega
  have zs4 : ¬ 9223372036854775807 < (T1 ++ N1 ++ O).size + Q.size := by rw [ByteArray.size_append, ByteArray.size_append]; omega
  have hdr := fun n => hst.out.below (below_dn (Below.refl wo.heap.size wo) n)
  have HDr := Lh hdr
  clear hdr
  go_upto_region 8 with fail
  go_quiet ((go_at_call 61; exact Calls.quiet_of_same (HQt.out _)))
  rw [HNx.out T1 HT1.out]
  obtain ⟨TN, hTN⟩ : ∃ TN : ByteArray, TN = ⟨(prM q (k + 1)).toArray⟩ := ⟨_, rfl⟩
  rw [← hTN]
  have HTN := Lh hTN
  clear hTN zs2 zs3 zs4 x0 x1 c0 c1 c2 a0
  go_wp2
  go_roundw
  case rel => exact ⟨k + 1, TN, by omega, by first | rfl | go_num, rfl, HTN, Lh (HDr.out _)⟩
  case measure => simp [intOf]; omega
 obtain rfl : k = nm := by omega
 have z1 : ¬ (k : Int) < (k : Int) := by omega
 obtain ⟨TF, hTF⟩ : ∃ TF : ByteArray, TF = ⟨(prF q 0).toArray⟩ := ⟨_, rfl⟩
 have he : T ++ ⟨#[125]⟩ = TF := by rw [HT.out, hTF, prF_zero, Hnm.out]; exact bytes_app _ _
 have HE := Lh he; have HTF := Lh hTF
 have ar := hst.out.ar
 have r0 : wo.cell? ⟨w.heap.size + 1, 0, none⟩ = some (.string ⟨#[]⟩) := ar.cell 0
 have r1 : wo.cell? ⟨w.heap.size + 1, 1, none⟩ = some (.string ⟨#[61]⟩) := ar.cell 1
 have r2 : wo.cell? ⟨w.heap.size + 1, 2, none⟩ = some (.string ⟨#[33, 61]⟩) := ar.cell 2
 have r3 : wo.cell? ⟨w.heap.size + 1, 3, none⟩ = some (.string ⟨#[61, 126]⟩) := ar.cell 3
 have r4 : wo.cell? ⟨w.heap.size + 1, 4, none⟩ = some (.string ⟨#[33, 126]⟩) := ar.cell 4
 have f0 := ar.frozen 0
 have f1 := ar.frozen 1
 have f2 := ar.frozen 2
 have f3 := ar.frozen 3
 have f4 := ar.frozen 4
 have HAr := Lh ar
 clear he hTF ar
 obtain ⟨W, hW⟩ : ∃ W, W = (((((wo.setCell ⟨w.heap.size + 1, 0, none⟩ (.string ⟨#[]⟩)).setCell ⟨w.heap.size + 1, 1, none⟩ (.string ⟨#[124, 61]⟩)).setCell ⟨w.heap.size + 1, 2, none⟩ (.string ⟨#[33, 61]⟩)).setCell ⟨w.heap.size + 1, 3, none⟩ (.string ⟨#[124, 126]⟩)).setCell ⟨w.heap.size + 1, 4, none⟩ (.string ⟨#[33, 126]⟩)) := ⟨_, rfl⟩
 have kW : Blk W (w.heap.size + 1) 111 (arrF.map strB) := by rw [hW]; exact ((((HAr.out.set_ 0 _).set_ 1 _).set_ 2 _).set_ 3 _).set_ 4 _
 have bW : But [w.heap.size + 1] wo W := by rw [hW]; exact (((((But.refl _ _).setCell (by simp) _).setCell (by simp) _).setCell (by simp) _).setCell (by simp) _).setCell (by simp) _
 have hS : PrR w W (.slice MA k cm) (.slice FA nf cf) arrF := ⟨hst.out.be.trans (bW.below hst.out.be.size fun x hx => by rw [List.mem_singleton] at hx; omega), hst.out.bx.but bW (by simp), kW⟩
 have HS := Lh hS; have HW := Lh hW
 clear hS bW kW hW HAr hst
 go_upto_region 11 with fail
 rw [← HW.out]
 rw [HE.out]
 clear HW HE HT zT zs1 x0 x1 r0 r1 r2 r3 r4 f0 f1 f2 f3 f4
 go_wp2
 go_loopw [3, 6] (fun v i wr => ∃ (j : Nat) (T : ByteArray), j ≤ nf ∧ i = .int .i64 j ∧ v = .string T ∧ Hid (T = ⟨(prF q j).toArray⟩) ∧ Hid (PrR w wr (.slice MA k cm) (.slice FA nf cf) arrF)) (fun _ i _ => nf - (intOf i).toNat)
 case atStart => exact ⟨0, TF, Nat.zero_le _, rfl, rfl, HTF, HS⟩
 clear HS HTF z1 wk1
 obtain ⟨j, T, hj, rfl, rfl, HT, hst⟩ := hrel
 obtain ⟨wo, rfl⟩ : ∃ wo : World, wo = wr := ⟨_, rfl⟩
 have wk1 := wS j (by omega)
 have x0 : wo.cell? ⟨w.heap.size, 0, none⟩ = some (.slice MA k cm) := hst.out.bx.cell 0
 have x1 : wo.cell? ⟨w.heap.size, 1, none⟩ = some (.slice FA nf cf) := hst.out.bx.cell 1
 have zT : T.size ≤ 900000000 := by rw [HT.out, str_size]; exact HLf.out j
 by_cases hlt2 : j < nf
 ·have z2 : (j : Int) < (nf : Int) := by omega
  obtain ⟨f, hf⟩ : ∃ f, q.fs[j]? = some f := ⟨_, List.getElem?_eq_getElem (by rw [Hnf.out]; exact hlt2)⟩
  obtain ⟨b, off, rfl, hc⟩ := fil_cells HQ.out.fs hf hlt2
  obtain ⟨c0, c1⟩ := hc wo hst.out.be
  have hmem := List.mem_of_getElem? hf
  have hml := HSf.out f hmem
  have ho4 : f.op = 1 ∨ f.op = 2 ∨ f.op = 3 ∨ f.op = 4 := opOk_four (List.all_eq_true.1 HFo.out f hmem)
  obtain ⟨on, hon, hon5, harr⟩ := arrF_at ho4
  obtain ⟨N2, e2, hN2⟩ := str_form f.text
  obtain ⟨O, eO, hO⟩ := str_form (opF f.op)
  obtain ⟨Q, eQ, hQ⟩ := str_form (quoteP f.text)
  have a0 : wo.cell? ⟨w.heap.size + 1, on, none⟩ = some (.string O) := by
   have h := hst.out.ar.cell on
   rw [List.getElem?_map, harr] at h
   rw [← eO]; exact h
  rw [hon] at c0
  rw [e2] at c1
  have hqt := fun w1 => gQuote f.text w1 (by omega)
  rw [e2, eQ] at hqt
  have zO : O.size ≤ 2 := by rw [hO, str_size]; exact opF_len f.op
  have zQ : Q.size ≤ 20000002 := by rw [hQ, str_size]; have := quoteP_len f.text; omega
  have zo5 : (on : Int) < 5 := by omega
  have hnx : T ++ ⟨#[32]⟩ ++ O ++ ⟨#[32]⟩ ++ Q = ⟨(prF q (j + 1)).toArray⟩ := by
   rw [HT.out, hO, hQ, prF_next hf]
   apply ByteArray.ext
   simp [ByteArray.data_append, filT]
  have HNx := Lh hnx; have HQt := Lh hqt
  clear hnx hqt hc hf hmem hml ho4 hon harr e2 eO eQ hN2 hO hQ
  have zs1 : ¬ 9223372036854775807 < T.size + 1 := by omega
  have zs2 : ¬ 9223372036854775807 < (T ++ ⟨#[32]⟩).size + O.size := by rw [ByteArray.size_append]; show ¬ _ < T.size + 1 + O.size; omega
  have zs3 : ¬ 9223372036854775807 < (T ++ ⟨#[32]⟩ ++ O).size + 1 := by rw [ByteArray.size_append, ByteArray.size_append]; show ¬ _ < T.size + 1 + O.size + 1; omega
  have zs4 : ¬ 9223372036854775807 < (T ++ ⟨#[32]⟩ ++ O ++ ⟨#[32]⟩).size + Q.size := by rw [ByteArray.size_append, ByteArray.size_append, ByteArray.size_append]; show ¬ _ < T.size + 1 + O.size + 1 + Q.size; omega
  have hdr := fun n => hst.out.below (below_dn (Below.refl wo.heap.size wo) n)
  have HDr := Lh hdr
  clear hdr
  go_upto_region 14 with fail
  go_quiet ((go_at_call 61; exact Calls.quiet_of_same (HQt.out _)))
  rw [HNx.out]
  obtain ⟨TN, hTN⟩ : ∃ TN : ByteArray, TN = ⟨(prF q (j + 1)).toArray⟩ := ⟨_, rfl⟩
  rw [← hTN]
  have HTN := Lh hTN
  clear hTN zs1 zs2 zs3 zs4 x0 x1 c0 c1 a0
  go_wp2
  go_roundw
  case rel => exact ⟨j + 1, TN, by omega, by first | rfl | go_num, rfl, HTN, Lh (HDr.out _)⟩
  case measure => simp [intOf]; omega
 obtain rfl : j = nf := by omega
 have z2 : ¬ (j : Int) < (j : Int) := by omega
 have hans : strB (printP q) = .string T := by rw [HT.out, ← Hnf.out, prF_all]; rfl
 have HAn := Lh hans; have HBe := Lh hst.out.be
 clear hans hst
 go_wp2
 go_ret
 exact ⟨by rw [HAn.out]; rfl, HBe.out⟩
theorem aw_in {w w' : World} {e : Ending} (h : QParseO awS w e w') : ∃ MA mc FA fc, e = .returned (.tuple #[.agg #[.slice MA 2 mc, .slice FA 1 fc], .int .i64 0]) ∧ Below w.heap.size w w' ∧ QueryAt w' MA 2 FA 1 awQ := by
 obtain ⟨V1, V2, q, k, rfl, hb, o1, o2, sm, sf, -, hc⟩ := h
 rcases hc with ⟨rfl, hq⟩ | ⟨-, hq, -⟩
 ·rw [aw_parse] at hq
  injection hq with hq
  subst hq
  obtain ⟨MA, mc, rfl, -⟩ := own_form o1
  obtain ⟨FA, fc, rfl, -⟩ := own_form o2
  exact ⟨MA, mc, FA, fc, rfl, hb, .of_own o1, .of_own o2, rfl, rfl, fun m hm => by have := sm m hm; omega, fun f hf => by have := sf f hf; omega⟩
 rw [aw_parse] at hq; cases hq
theorem bd_in {w w' : World} {e : Ending} (h : QParseO awB w e w') : e = .returned (.tuple #[.agg #[.slice none 0 0, .slice none 0 0], .int .i64 40]) ∧ Below w.heap.size w w' := by
 obtain ⟨V1, V2, q, k, rfl, hb, -, -, -, -, -, hc⟩ := h
 rcases hc with ⟨-, hq⟩ | ⟨-, hq, -, rfl, rfl⟩
 ·rw [bd_parse] at hq; cases hq
 rw [bd_parse] at hq
 injection hq with hq
 subst hq
 exact ⟨rfl, hb⟩
theorem awS_lit : str awS = .string ⟨#[32, 123, 97, 112, 112, 61, 34, 119, 101, 98, 34, 44, 32, 101, 110, 118, 33, 126, 34, 100, 101, 118, 124, 116, 101, 115, 116, 34, 125, 32, 124, 61, 32, 34, 101, 114, 114, 34, 32]⟩ := by kernel_rfl
theorem awB_lit : str awB = .string ⟨#[123, 125, 32, 124, 126, 32, 34, 42, 34]⟩ := by kernel_rfl
theorem awPr_lit : str awPr = .string ⟨#[123, 97, 112, 112, 61, 34, 119, 101, 98, 34, 44, 101, 110, 118, 33, 126, 34, 100, 101, 118, 124, 116, 101, 115, 116, 34, 125, 32, 124, 61, 32, 34, 101, 114, 114, 34]⟩ := by kernel_rfl
theorem awake24 (w : World) (hL : Lt w) : Calls Tryz.prog 25 #[] w fun e w' => e = .returned (.bool true) ∧ Below w.heap.size w w' := by
 have hp := vQParse awS w hL (by decide)
 rw [awS_lit] at hp
 have HP := Lh hp; have HL := Lh hL
 clear hp hL
 go_enter Tryz.func25, Tryz.ntmps25
 go_wp2_with fail
 refine HP.out.mono ?_
 rintro e w1 hO
 obtain ⟨MA, mc, FA, fc, rfl, hb1, hq1⟩ := aw_in hO
 obtain ⟨X1, hX1⟩ : ∃ X1, X1 = w1.alloc (.cells #[.slice MA 2 mc, .slice FA 1 fc] 25) := ⟨_, rfl⟩
 have bX1 : Below w1.heap.size w1 X1 := by rw [hX1]; exact (Below.refl _ _).alloc (Nat.le_refl _) _
 have kX1 : Blk X1 w1.heap.size 25 [.slice MA 2 mc, .slice FA 1 fc] := by rw [hX1]; exact Blk.new w1 _ _
 have hw1 := hb1.trans (bX1.mono hb1.size)
 have hqX := hq1.below bX1
 have hpr := vQPrint awQ MA FA 2 1 mc fc X1 (HL.out.below hw1) hqX (by decide) (by decide) (by decide) (by decide)
 unfold QPrintO at hpr
 rw [aw_check, if_pos rfl, aw_print, awPr_lit] at hpr
 have x0 : X1.cell? ⟨w1.heap.size, 0, none⟩ = some (.slice MA 2 mc) := kX1.cell 0
 have x1 : X1.cell? ⟨w1.heap.size, 1, none⟩ = some (.slice FA 1 fc) := kX1.cell 1
 have HPr := Lh hpr; have HW1 := Lh hw1; have HQ1 := Lh hqX; have HK1 := Lh kX1
 obtain ⟨qb, hqbe⟩ : ∃ qb, w1.heap.size = qb := ⟨_, rfl⟩
 rw [hqbe] at HK1 x0 x1
 clear hO hb1 hq1 bX1 kX1 hw1 hqX hpr HP
 go_upto_region 2 with fail
 rw [← hX1]
 clear hX1
 go_wp2_with fail
 refine HPr.out.mono ?_
 rintro e w2 ⟨rfl, hb2⟩
 have hw2 := HW1.out.trans (hb2.mono HW1.out.size)
 have hq2 := HQ1.out.below hb2
 have k2 := HK1.out.below hb2 HK1.out.lt
 have hp := vQParse awB w2 (HL.out.below hw2) (by decide)
 rw [awB_lit] at hp
 have HP := Lh hp; have HW2 := Lh hw2; have HQ2 := Lh hq2; have HK2 := Lh k2
 clear hw2 hq2 k2 hp hb2 x0 x1 HPr HW1 HQ1 HK1
 go_wp2_with fail
 refine HP.out.mono ?_
 rintro e w3 hO
 obtain ⟨rfl, hb3⟩ := bd_in hO
 obtain ⟨X3, hX3⟩ : ∃ X3, X3 = w3.alloc (.cells #[.slice none 0 0, .slice none 0 0] 25) := ⟨_, rfl⟩
 have bX3 : Below w3.heap.size w3 X3 := by rw [hX3]; exact (Below.refl _ _).alloc (Nat.le_refl _) _
 have hb23 := hb3.trans (bX3.mono hb3.size)
 have hw3 := HW2.out.trans (hb23.mono HW2.out.size)
 have hq3 := HQ2.out.below hb23
 have k3 := HK2.out.below hb23 HK2.out.lt
 have x0 : X3.cell? ⟨qb, 0, none⟩ = some (.slice MA 2 mc) := k3.cell 0
 have x1 : X3.cell? ⟨qb, 1, none⟩ = some (.slice FA 1 fc) := k3.cell 1
 have hn := vQNew awQ MA FA 2 1 mc fc X3 (HL.out.below hw3) hq3 (by decide) (by decide)
 rw [aw_check] at hn
 have HN := Lh hn; have HW3 := Lh hw3
 clear hO hb3 bX3 hb23 hw3 hq3 k3 hn HP HW2 HQ2 HK2
 go_upto_region 4 with fail
 rw [← hX3]
 clear hX3
 go_wp2_with fail
 refine HN.out.mono ?_
 rintro e w4 ⟨hb4, hc⟩
 obtain ⟨g, v1, v2, P, Q, pv, rfl, hF, hpl⟩ := hc.elim (fun h => h.2) (fun h => absurd rfl h.1)
 have hw4 := HW3.out.trans (hb4.mono HW3.out.size)
 have hFA : FilAt X3.heap.size w4 g awQ := ⟨v1, v2, P, Q, pv, hF, hpl⟩
 have HW4 := Lh hw4; have HFA := Lh hFA
 clear hc hF hpl hb4 hw4 hFA x0 x1 HN HW3
 go_wp2_with fail
 obtain ⟨X4, hX4⟩ : ∃ X4, X4 = w4.alloc (.cells #[.string ⟨#[97, 112, 112]⟩, .string ⟨#[119, 101, 98]⟩] 43) := ⟨_, rfl⟩
 have bX4 : Below w4.heap.size w4 X4 := by rw [hX4]; exact (Below.refl _ _).alloc (Nat.le_refl _) _
 have hw4 := HW4.out.trans (bX4.mono HW4.out.size)
 have hr : Row X4 X4.heap.size 2 (some ⟨w4.heap.size, 0, none⟩) 1 (awR.labels.flatMap labCells) := by
  rw [hX4]
  exact (row_newN w4 43 2 1 [.string ⟨#[97, 112, 112]⟩, .string ⟨#[119, 101, 98]⟩] rfl).more (by simp)
 have hh := vQHolds awQ awR X3.heap.size g (some ⟨w4.heap.size, 0, none⟩) 1 1 0 0 X4 (HL.out.below hw4) (HFA.out.below bX4) (by decide) (by decide) hr rfl (by decide) (by decide)
 rw [aw_holds] at hh
 have hfa := HFA.out.below bX4
 have HH := Lh hh; have HW := Lh hw4; have HF4 := Lh hfa
 clear bX4 hw4 hr hh hfa HFA HW4
 rw [← hX4]
 clear hX4
 refine HH.out.mono ?_
 rintro e w5 ⟨rfl, hb5⟩
 have hw5 := HW.out.trans (hb5.mono HW.out.size)
 have hh2 := vQHolds awQ awR2 X3.heap.size g none 0 0 0 0 w5 (HL.out.below hw5) (HF4.out.below hb5) (by decide) (by decide) Row.none_ rfl (by decide) (by decide)
 rw [aw_holds2] at hh2
 have HH2 := Lh hh2; have HW5 := Lh hw5
 clear hb5 hw5 hh2 HH HW HF4
 go_wp2_with fail
 refine HH2.out.mono ?_
 rintro e w6 ⟨rfl, hb6⟩
 have hw6 := HW5.out.trans (hb6.mono HW5.out.size)
 have HW6 := Lh hw6
 clear hb6 hw6 HH2 HW5
 go_wp2
 go_ret
 exact ⟨rfl, HW6.out⟩
theorem qHoldsNil (tv sv : Int) (LA : Option Addr) (ln lc : Nat) (R : ByteArray) (w : World) : Calls Tryz.prog 23 #[.pointer none, .agg #[.int .i64 tv, .int .u64 sv, .slice LA ln lc, .string R]] w fun e w' => e = .returned (.bool false) ∧ Below w.heap.size w w' := by
 go_enter Tryz.func23, Tryz.ntmps23
 go_wp2
 go_ret
 exact ⟨rfl, by first | exact Below.refl _ _ | exact (Below.refl _ _).alloc (Nat.le_refl _) _⟩
structure PtS (w0 wr : World) (f : Nat) (q : QueryP) (bq br : Value) : Prop where
 be : Below w0.heap.size w0 wr
 fa : FilAt w0.heap.size wr f q
end Go.Proofs.YtecejnilajbdpaaGreatDoor
