import Derived.Test.YtecejnilajbdpaaGreatDoorTu48
import Derived.Test.YtecejnilajbdpaaGreatDoorTu13
import Derived.Test.YtecejnilajbdpaaGreatDoorTu19
import Derived.Test.YtecejnilajbdpaaGreatDoorTu46
import Derived.Test.YtecejnilajbdpaaGreatDoorTu33
/-! QueryBack and QueryLimits, plain: what is printed is valid, and is read back -/
namespace Garner
open Go
theorem vapp {a b : Bs} (ha : Lib.validD a = true) (hb : Lib.validD b = true) : Lib.validD (a ++ b) = true := by rw [valid_app _ a b (Nat.le_refl _) ha, hb]
theorem vcons {c : UInt8} {b : Bs} (hc : c.toNat < 128) (hb : Lib.validD b = true) : Lib.validD (c :: b) = true := by rw [Lib.validD_cons c b hc, hb]
theorem esc_app (a b : Bs) : escP (a ++ b) = escP a ++ escP b := List.flatMap_append
theorem esc1_high {c : UInt8} (h : 128 ≤ c.toNat) : esc1 c = [c] := by
  have h1 : ¬ (c = 34 ∨ c = 92) := by rintro (rfl | rfl) <;> revert h <;> decide
  have h2 : c ≠ 10 := by rintro rfl; revert h; decide
  unfold esc1
  rw [if_neg h1, if_neg h2]
theorem esc_high : ∀ {h : Bs}, (∀ c ∈ h, 128 ≤ c.toNat) → escP h = h
  | [], _ => rfl
  | c :: h, hh => by
    show esc1 c ++ escP h = _
    rw [esc1_high (hh c (by simp)), esc_high fun x hx => hh x (by simp [hx])]
    rfl
theorem esc1_first {c : UInt8} (h : c.toNat < 128) : ∃ d r, esc1 c = d :: r ∧ d.toNat < 128 := by
  unfold esc1
  split
  · exact ⟨92, [c], rfl, by decide⟩
  · split
    · exact ⟨92, [110], rfl, by decide⟩
    · exact ⟨c, [], rfl, h⟩
theorem esc_first : ∀ {t : Bs}, (t = [] ∨ (t.getD 0 0).toNat < 128) → (escP t = [] ∨ ((escP t).getD 0 0).toNat < 128)
  | [], _ => .inl rfl
  | c :: t, h => by
    right
    have hc : c.toNat < 128 := by simpa using h.resolve_left (by simp)
    obtain ⟨d, r, e, hd⟩ := esc1_first hc
    show ((esc1 c ++ escP t).getD 0 0).toNat < 128
    rw [e]
    simpa using hd
theorem esc1_valid {c : UInt8} (hc : c.toNat < 128) (r : Bs) : Lib.validD (esc1 c ++ r) = Lib.validD r := by
  unfold esc1
  split
  · show Lib.validD (92 :: c :: r) = _
    rw [Lib.validD_cons _ _ (by decide), Lib.validD_cons _ _ hc]
  · split
    · show Lib.validD (92 :: 110 :: r) = _
      rw [Lib.validD_cons _ _ (by decide), Lib.validD_cons _ _ (by decide)]
    · show Lib.validD (c :: r) = _
      rw [Lib.validD_cons _ _ hc]
theorem esc_valid : ∀ (n : Nat) (s : Bs), s.length ≤ n → Lib.validD (escP s) = Lib.validD s
  | 0, s, hn => by rw [List.eq_nil_of_length_eq_zero (by omega : s.length = 0)]; rfl
  | n + 1, s, hn => by
    cases s with
    | nil => rfl
    | cons c r =>
      by_cases hc : c.toNat < 128
      · have h1 := esc_valid n r (by simpa using hn)
        show Lib.validD (esc1 c ++ escP r) = _
        rw [esc1_valid hc, h1, Lib.validD_cons c r hc]
      · obtain ⟨h, t, e, h1, h2⟩ := high_split (c :: r)
        have hh : h ≠ [] := by
          rintro rfl
          rw [List.nil_append] at e
          rcases h2 with h2 | h2
          · rw [h2] at e; cases e
          · rw [← e] at h2; exact hc h2
        have hp := List.length_pos_iff.2 hh
        have hl := congrArg List.length e
        rw [List.length_append] at hl
        have h3 := esc_valid n t (by omega)
        rw [e, esc_app, esc_high h1, valid_parts h2, valid_parts (esc_first h2), h3]
theorem quoteP_valid {s : Bs} (h : Lib.validD s = true) : Lib.validD (quoteP s) = true := by
  unfold quoteP
  exact vcons (by decide) (vapp ((esc_valid _ s (Nat.le_refl _)).trans h) (by decide))
theorem nameC_ascii {f : Bool} {c : UInt8} (h : nameC f c = true) : c.toNat < 128 := by
  unfold nameC at h
  simp at h
  omega
theorem nameAll_ascii : ∀ {n : Bs} {f : Bool}, nameAll f n = true → ∀ c ∈ n, c.toNat < 128
  | [], _, _, c, hc => by cases hc
  | d :: n, f, h, c, hc => by
    rw [nameAll, Bool.and_eq_true] at h
    rcases List.mem_cons.1 hc with rfl | hc
    · exact nameC_ascii h.1
    · exact nameAll_ascii h.2 c hc
theorem nameP_valid {n : Bs} (h : nameP n = true) : Lib.validD n = true := by
  unfold nameP at h
  rw [Bool.and_eq_true] at h
  exact ascii_valid n (nameAll_ascii h.2)
theorem opM_valid (o : Int) : Lib.validD (opM o) = true := by
  rcases opM_cases o with h | h | h | h <;> rw [h] <;> decide
theorem opF_valid (o : Int) : Lib.validD (opF o) = true := by
  unfold opF
  repeat' split
  all_goals decide
theorem matT_valid {m : MatP} (h : matOk m = true) (hv : Lib.validD m.val = true) : Lib.validD (matT m) = true := by
  unfold matOk at h
  rw [Bool.and_eq_true] at h
  exact vapp (nameP_valid h.1) (vapp (opM_valid _) (quoteP_valid hv))
theorem filT_valid {f : FilP} (hv : Lib.validD f.text = true) : Lib.validD (filT f) = true :=
  vcons (by decide) (vapp (opF_valid _) (vcons (by decide) (quoteP_valid hv)))
theorem joinC_valid : ∀ {l : List Bs}, (∀ x ∈ l, Lib.validD x = true) → Lib.validD (joinC l) = true
  | [], _ => rfl
  | [x], h => h x (by simp)
  | x :: y :: r, h => vapp (h x (by simp)) (vcons (by decide) (joinC_valid fun z hz => h z (List.mem_cons_of_mem _ hz)))
theorem fils_valid : ∀ {l : List FilP}, (∀ f ∈ l, Lib.validD f.text = true) → Lib.validD (l.flatMap filT) = true
  | [], _ => rfl
  | f :: l, h => vapp (filT_valid (h f (by simp))) (fils_valid fun g hg => h g (List.mem_cons_of_mem _ hg))
theorem spaces_valid (n : Nat) : Lib.validD (List.replicate n 32) = true :=
  ascii_valid _ fun c hc => by rw [(List.mem_replicate.1 hc).2]; decide
theorem print_valid {q : QueryP} (h1 : q.ms.all matOk = true) (h4 : (partsQ q).all utfOk = true) (a b : Nat) : Lib.validD (List.replicate a 32 ++ (printP q ++ List.replicate b 32)) = true := by
  have hm : ∀ m ∈ q.ms, Lib.validD m.val = true := fun m hm => List.all_eq_true.1 h4 _ (List.mem_append.2 (.inl (List.mem_map.2 ⟨m, hm, rfl⟩)))
  have hf : ∀ f ∈ q.fs, Lib.validD f.text = true := fun f hf => List.all_eq_true.1 h4 _ (List.mem_append.2 (.inr hf))
  refine vapp (spaces_valid a) (vapp ?_ (spaces_valid b))
  refine vcons (by decide) (vapp (joinC_valid fun x hx => ?_) (vcons (by decide) (fils_valid hf)))
  obtain ⟨m, hm2, rfl⟩ := List.mem_map.1 hx
  exact matT_valid (List.all_eq_true.1 h1 m hm2) (hm m hm2)
/-- what is printed, with spaces on both sides, is parsed -/
theorem parse_print {q : QueryP} (h1 : q.ms.all matOk = true) (h2 : q.fs.all filOk = true) (h4 : (partsQ q).all utfOk = true) (a b : Nat) :
    parseQ (List.replicate a 32 ++ (printP q ++ List.replicate b 32)) = if 512 < a + (printP q).length + b then .error 4 else if checkQ q = 0 then .ok q else .error (checkQ q) := by
  have hl : (List.replicate a (32 : UInt8) ++ (printP q ++ List.replicate b 32)).length = a + (printP q).length + b := by simp; omega
  unfold parseQ
  rw [hl, print_valid h1 h4 a b, print_back h1 h2 a b]
  rfl
theorem parse_back {q : QueryP} (h : checkQ q = 0) (a b : Nat) :
    parseQ (List.replicate a 32 ++ (printP q ++ List.replicate b 32)) = if 512 < a + (printP q).length + b then .error 4 else .ok q := by
  obtain ⟨-, h2, h3, h4, -⟩ := check_zero h
  rw [parse_print h2 h3 h4, if_pos h]
theorem opF_len (o : Int) : (opF o).length ≤ 2 := by
  unfold opF
  by_cases h1 : o = 1
  · rw [if_pos h1]; decide
  by_cases h2 : o = 2
  · rw [if_neg h1, if_pos h2]; decide
  by_cases h3 : o = 3
  · rw [if_neg h1, if_neg h2, if_pos h3]; decide
  rw [if_neg h1, if_neg h2, if_neg h3]; decide
theorem flatB_len {α : Type} {f : α → Bs} {M : Nat} : ∀ l : List α, (∀ x ∈ l, (f x).length ≤ M) → (l.flatMap f).length ≤ l.length * M
  | [], _ => by simp
  | x :: l, h => by
    have h1 := h x (by simp)
    have ih := flatB_len l fun z hz => h z (List.mem_cons_of_mem _ hz)
    rw [List.flatMap_cons, List.length_append, List.length_cons, Nat.add_mul]
    omega
theorem print_len {q : QueryP} (h1 : q.ms.length ≤ 16) (h2 : q.fs.length ≤ 16) (hsm : ∀ m ∈ q.ms, m.name.length ≤ 10000000 ∧ m.val.length ≤ 10000000) (hsf : ∀ f ∈ q.fs, f.text.length ≤ 10000000) : (printP q).length ≤ 2000000000 := by
  have a := joinC_len (M := 30000010) (q.ms.map matT) fun x hx => by
    obtain ⟨m, hm, rfl⟩ := List.mem_map.1 hx
    have k1 := hsm m hm
    have k2 := quoteP_len m.val
    have k3 := opM_len m.op
    unfold matT
    rw [List.length_append, List.length_append]; omega
  have b := flatB_len (f := filT) (M := 20000010) q.fs fun f hf => by
    have k1 := hsf f hf
    have k2 := quoteP_len f.text
    have k3 := opF_len f.op
    unfold filT
    simp; omega
  rw [List.length_map] at a
  unfold printP
  rw [List.length_cons, List.length_append, List.length_cons]
  have c := Nat.mul_le_mul_right 30000011 h1
  have d := Nat.mul_le_mul_right 20000010 h2
  omega
end Garner

/-! QueryLimits, plain: its texts -/
namespace Garner
open Go
def aM : MatP := ⟨[97], 1, []⟩
def xF : FilP := ⟨1, [120]⟩
def limM (k : Nat) : QueryP := ⟨List.replicate k aM, []⟩
def limF (k : Nat) : QueryP := ⟨[], List.replicate k xF⟩
def limS (k : Nat) : Bs := 123 :: joinC (List.replicate k [97, 61, 34, 34])
def limT (k : Nat) : Bs := 123 :: 125 :: (List.replicate k [124, 61, 34, 120, 34]).flatten
theorem join_more (x : Bs) : ∀ n : Nat, joinC (List.replicate (n + 1) x) ++ (44 :: x) = joinC (List.replicate (n + 2) x)
  | 0 => rfl
  | n + 1 => by
    have ih := join_more x n
    show (x ++ 44 :: joinC (List.replicate (n + 1) x)) ++ (44 :: x) = x ++ 44 :: joinC (List.replicate (n + 2) x)
    rw [List.append_assoc, List.cons_append, ih]
theorem limS_next (k : Nat) (h : 0 < k) : (limS k ++ [44]) ++ [97, 61, 34, 34] = limS (k + 1) := by
  obtain ⟨n, rfl⟩ : ∃ n, k = n + 1 := ⟨k - 1, by omega⟩
  have := join_more [97, 61, 34, 34] n
  show (123 :: joinC _ ++ [44]) ++ _ = 123 :: joinC _
  rw [← this]
  simp
theorem limT_next (k : Nat) : limT k ++ [124, 61, 34, 120, 34] = limT (k + 1) := by
  show (123 :: 125 :: _) ++ _ = 123 :: 125 :: _
  rw [List.replicate_succ', List.flatten_append]
  rfl
theorem limS_end (k : Nat) : limS k ++ [125] = printP (limM k) := by
  unfold limS limM printP
  rw [List.map_replicate]
  rfl
theorem limS_len : ∀ k : Nat, (limS k).length ≤ 5 * k + 1
  | 0 => by decide
  | 1 => by decide
  | k + 2 => by
    have := limS_len (k + 1)
    rw [← limS_next (k + 1) (by omega)]
    simp at this ⊢
    omega
theorem limT_len (k : Nat) : (limT k).length = 5 * k + 2 := by
  induction k with
  | zero => rfl
  | succ k ih => rw [← limT_next, List.length_append, ih]; simp; omega
theorem all_rep {α : Type} {f : α → Bool} {a : α} (h : f a = true) (k : Nat) : (List.replicate k a).all f = true :=
  List.all_eq_true.2 fun x hx => by rw [(List.mem_replicate.1 hx).2, h]
theorem limM_ok (k : Nat) : (limM k).ms.all matOk = true ∧ (limM k).fs.all filOk = true ∧ (partsQ (limM k)).all utfOk = true ∧ (partsQ (limM k)).all patOk = true := by
  refine ⟨all_rep (by decide) k, rfl, ?_, ?_⟩
  · unfold partsQ limM
    rw [List.map_replicate, List.append_nil]
    exact all_rep (by kernel_rfl) k
  · unfold partsQ limM
    rw [List.map_replicate, List.append_nil]
    exact all_rep (by rfl) k
theorem limF_ok (k : Nat) : (limF k).ms.all matOk = true ∧ (limF k).fs.all filOk = true ∧ (partsQ (limF k)).all utfOk = true ∧ (partsQ (limF k)).all patOk = true := by
  refine ⟨rfl, all_rep (by decide) k, ?_, ?_⟩
  · exact all_rep (f := utfOk) (a := xF) (by kernel_rfl) k
  · exact all_rep (f := patOk) (a := xF) (by rfl) k
theorem check_lim {q : QueryP} (h1 : q.ms.all matOk = true) (h2 : q.fs.all filOk = true) (h3 : (partsQ q).all utfOk = true) (h4 : (partsQ q).all patOk = true) : checkQ q = if 16 < q.ms.length ∨ 16 < q.fs.length then 3 else 0 := by
  unfold checkQ
  rw [h1, h2, h3, h4]
  rfl
theorem limM_check (k : Nat) : checkQ (limM k) = if 16 < k then 3 else 0 := by
  obtain ⟨h1, h2, h3, h4⟩ := limM_ok k
  rw [check_lim h1 h2 h3 h4]
  unfold limM
  simp
theorem limF_check (k : Nat) : checkQ (limF k) = if 16 < k then 3 else 0 := by
  obtain ⟨h1, h2, h3, h4⟩ := limF_ok k
  rw [check_lim h1 h2 h3 h4]
  unfold limF
  simp
theorem limM_parse (k b : Nat) : parseQ ((limS k ++ [125]) ++ List.replicate b 32) = if 512 < (limS k ++ [125]).length + b then .error 4 else if 16 < k then .error 3 else .ok (limM k) := by
  obtain ⟨h1, h2, h3, -⟩ := limM_ok k
  have h := parse_print h1 h2 h3 0 b
  rw [limS_end]
  rw [List.replicate_zero, List.nil_append, Nat.zero_add] at h
  rw [h, limM_check]
  by_cases hk : 16 < k
  · rw [if_pos hk, if_neg (by decide : ¬ 3 = 0), if_pos hk]
  · rw [if_neg hk, if_pos rfl, if_neg hk]
theorem toks_xs : ∀ k : Nat, toks (List.replicate k [124, 61, 34, 120, 34]).flatten = some ((List.replicate k xF).flatMap fun f => [opF f.op, 34 :: f.text])
  | 0 => rfl
  | k + 1 => by
    have e : (List.replicate (k + 1) [(124 : UInt8), 61, 34, 120, 34]).flatten = opF 1 ++ 34 :: (escP [120] ++ 34 :: (List.replicate k [124, 61, 34, 120, 34]).flatten) := rfl
    have e2 : (34 : UInt8) :: (escP [120] ++ 34 :: (List.replicate k [124, 61, 34, 120, 34]).flatten) = quoteP [120] ++ (List.replicate k [124, 61, 34, 120, 34]).flatten := by simp [quoteP]
    rw [e, toks_tok tok1_opF, e2, toks_tok (tok1_text _ _), toks_xs k]
    rfl
theorem limF_parse (k : Nat) : parseQ (limT k) = if 512 < 5 * k + 2 then .error 4 else if 16 < k then .error 3 else .ok (limF k) := by
  have ht : toks (limT k) = some ([123] :: [125] :: ((List.replicate k xF).flatMap fun f => [opF f.op, 34 :: f.text])) := by
    unfold limT
    rw [toks_tok (tok1_sign (by simp)), toks_tok (tok1_sign (by simp)), toks_xs]
    rfl
  have hq : (toks (limT k)).bind queryR = some (limF k) := by
    rw [ht]
    show queryR ([123] :: [125] :: _) = _
    rw [queryR, if_pos rfl]
    show (if ([125] : Bs) = [125] then _ else _) = _
    have hb : filsR ((List.replicate k xF).flatMap fun f => [opF f.op, 34 :: f.text]) = some (List.replicate k xF) := fils_back (limF_ok k).2.1
    rw [if_pos rfl, hb]
    rfl
  have hv : Lib.validD (limT k) = true := by
    refine vcons (by decide) (vcons (by decide) ?_)
    refine ascii_valid _ fun c hc => ?_
    obtain ⟨l, hl, hc2⟩ := List.mem_flatten.1 hc
    rw [(List.mem_replicate.1 hl).2] at hc2
    have hall : ([124, 61, 34, 120, 34] : Bs).all (fun c => decide (c.toNat < 128)) = true := by decide
    exact of_decide_eq_true (List.all_eq_true.1 hall c hc2)
  unfold parseQ
  rw [limT_len, hv, hq]
  simp only
  rw [limF_check, if_neg (by decide : ¬ true = false)]
  by_cases hk : 16 < k
  · rw [if_pos hk, if_neg (by decide : ¬ 3 = 0), if_pos hk]
  · rw [if_neg hk, if_pos rfl, if_neg hk]
end Garner

/-! the document's quoted -/
namespace Garner
open Go
/-- the inside of a text so far -/
def TqI (S : Bs) (p : Nat) (b : Bs) (i : Nat) : Prop := textG (S.drop p) = (textG (S.drop i)).map fun x => (b ++ x.1, x.2)
section
variable {S b : Bs} {p i j : Nat} {c : UInt8}
theorem TqI.start (S : Bs) (p : Nat) : TqI S p [] p := by unfold TqI; cases textG (S.drop p) <;> rfl
theorem TqI.add (h : TqI S p b i) (e : textG (S.drop i) = (textG (S.drop j)).map fun x => (c :: x.1, x.2)) : TqI S p (b ++ [c]) j := by
  unfold TqI at h ⊢
  rw [h, e]
  cases textG (S.drop j) <;> simp
theorem TqI.no (h : TqI S p b i) (e : textG (S.drop i) = none) : textG (S.drop p) = none := by
  unfold TqI at h
  rw [h, e]; rfl
theorem TqI.fin (h : TqI S p b i) (e : textG (S.drop i) = some ([], S.drop (i + 1))) : textG (S.drop p) = some (b, S.drop (i + 1)) := by
  unfold TqI at h
  rw [h, e]; simp
end
end Garner
namespace Go.Proofs.YtecejnilajbdpaaGreatDoor
open Go.RowKit Go.Shelf Garner
def QuoO (s : Bs) (p : Nat) (e : Ending) : Prop := ∃ (t : Bs) (j : Int), e = .returned (.tuple #[strB t, .int .i64 j]) ∧ ((∃ n : Nat, j = (n : Int) ∧ p < n ∧ n ≤ s.length ∧ t.length ≤ s.length ∧ textG (s.drop (p + 1)) = some (t, s.drop n)) ∨ (j = -1 ∧ textG (s.drop (p + 1)) = none))
theorem QuoO.none_ {s : Bs} {p : Nat} (h : textG (s.drop (p + 1)) = none) : QuoO s p (.returned (.tuple #[.string ⟨#[]⟩, .int .i64 (-1)])) := ⟨[], -1, rfl, .inr ⟨rfl, h⟩⟩
end Go.Proofs.YtecejnilajbdpaaGreatDoor

/-! QueryParts: the law walked (under way) -/
namespace Go.Proofs.YtecejnilajbdpaaGreatDoor
open Go.RowKit Go.Shelf Garner
theorem FilAt.wroteM {B : Nat} {w w' : World} {g mb : Nat} {q : QueryP} (h : FilAt B w g q) (hk : KeepM [69] w w') (hb : But [mb] w w') (hm : mb < B) : FilAt B w' g q := by
  obtain ⟨v1, v2, P, Q, pv, h, hl⟩ := h
  refine ⟨v1, v2, P, Q, pv, ⟨hk.blk h.blk (by decide), own_but h.ms hb (fun k hk2 hm2 => ?_), hk.own h.fs (by decide), hk.own h.ps (by decide), hk.own h.qs (by decide), h.dis, fun k f v e1 e2 => (h.pat k f v e1 e2).keepT hk (by decide) (by decide) (by decide) (by decide), h.low⟩, hl⟩
  have := (h.ms.lt k hk2).1
  rw [List.mem_singleton] at hm2
  omega
theorem FilAt.wroteF {B : Nat} {w w' : World} {g mb : Nat} {q : QueryP} (h : FilAt B w g q) (hk : KeepM [71] w w') (hb : But [mb] w w') (hm : mb < B) : FilAt B w' g q := by
  obtain ⟨v1, v2, P, Q, pv, h, hl⟩ := h
  refine ⟨v1, v2, P, Q, pv, ⟨hk.blk h.blk (by decide), hk.own h.ms (by decide), own_but h.fs hb (fun k hk2 hm2 => ?_), hk.own h.ps (by decide), hk.own h.qs (by decide), h.dis, fun k f v e1 e2 => (h.pat k f v e1 e2).keepT hk (by decide) (by decide) (by decide) (by decide), h.low⟩, hl⟩
  have := (h.fs.lt k hk2).1
  rw [List.mem_singleton] at hm2
  omega
/-- all of the first k matchers (and filters) hold -/
structure PtS (w0 wr : World) (f : Nat) (q : QueryP) (bq br : Value) : Prop where
  be : Below w0.heap.size w0 wr
  fa : FilAt w0.heap.size wr f q
end Go.Proofs.YtecejnilajbdpaaGreatDoor

