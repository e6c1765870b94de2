import Derived.Test.YtcjapjnhejenaaaDoorHtV
import Derived.Test.YtcjapjnhejenaaaDoorHtU
/-! HttpBodies, plain: a body in chunks -/
namespace Garner
open Go
def encP (up : Bool) (ps : List Bs) : Bs := ps.flatMap fun p => hexT up p.length ++ (crlf ++ (p ++ crlf))
def lastP : Bs := [48, 13, 10, 13, 10]
theorem encP_cons (up : Bool) (p : Bs) (ps : List Bs) (v : Bs) : encP up (p :: ps) ++ v = hexT up p.length ++ (crlf ++ (p ++ (crlf ++ (encP up ps ++ v)))) := by simp [encP]
theorem encP_snoc (up : Bool) (ps : List Bs) (p : Bs) : encP up (ps ++ [p]) = encP up ps ++ (hexT up p.length ++ (crlf ++ (p ++ crlf))) := by simp [encP]
theorem chunks_step (up : Bool) (fuel : Nat) (p rest out : Bs) (at_ : Nat) (h1 : 1 ≤ p.length) (h8 : out.length + p.length ≤ 8192) :
    chunksP (fuel + 1) (hexT up p.length ++ (crlf ++ (p ++ (crlf ++ rest)))) out at_ = chunksP fuel rest (out ++ p) (at_ + (hexT up p.length).length + p.length + 4) := by
  have hl := hexT_len up 3 p.length (by omega)
  have hs := sizeP_mk (p ++ (crlf ++ rest)) (hexT_hex up p.length) (hexT_pos up p.length) (by omega)
  rw [hexN_hexT] at hs
  have hdr : (hexT up p.length ++ (crlf ++ (p ++ (crlf ++ rest)))).drop ((hexT up p.length).length + 2) = p ++ (crlf ++ rest) := by
    rw [List.drop_append]; simp [crlf]
  have hx : expectP ((p ++ (crlf ++ rest)).drop p.length) crlf = 0 := by
    rw [List.drop_left]; exact expectP_mk _ _
  have hd2 : (p ++ (crlf ++ rest)).drop (p.length + 2) = rest := by rw [List.drop_append]; simp [crlf]
  conv => lhs; unfold chunksP
  rw [hs]
  dsimp only
  rw [hdr, if_neg (by omega), if_neg (by simp), if_neg (by rw [hx]; simp), if_neg (by omega), hd2, List.take_left]
theorem chunks_last (fuel : Nat) (out : Bs) (at_ : Nat) (h8 : out.length ≤ 8192) : chunksP (fuel + 1) lastP out at_ = .ok (out, at_ + 5) := by
  have hs : sizeP lastP = .ok (0, 1) := by kernel_rfl
  unfold chunksP
  rw [hs]
  dsimp only
  rw [if_neg (by omega), if_neg (by omega), if_neg (by decide), if_pos rfl]
theorem chunks_enc (up : Bool) : ∀ (ps : List Bs) (fuel : Nat) (out : Bs) (at_ : Nat), (∀ p ∈ ps, 1 ≤ p.length) → out.length + ps.flatten.length ≤ 8192 → ps.length < fuel →
    chunksP fuel (encP up ps ++ lastP) out at_ = .ok (out ++ ps.flatten, at_ + (encP up ps).length + 5)
  | [], fuel + 1, out, at_, _, h8, _ => by
    have := chunks_last fuel out at_ (by simpa using h8)
    simpa [encP] using this
  | p :: ps, fuel + 1, out, at_, h, h8, hf => by
    have hp := h p (by simp)
    rw [List.flatten_cons, List.length_append] at h8
    rw [encP_cons, chunks_step up fuel p _ out at_ hp (by omega), chunks_enc up ps fuel (out ++ p) _ (fun x hx => h x (by simp [hx])) (by rw [List.length_append]; omega) (by simpa using hf)]
    have e : (encP up (p :: ps)).length = (hexT up p.length).length + p.length + 4 + (encP up ps).length := by
      have := congrArg List.length (encP_cons up p ps [])
      simp [crlf] at this; omega
    rw [e, List.flatten_cons, List.append_assoc]
    congr 2; omega
  | [], 0, _, _, _, _, hf => by simp at hf
  | _ :: _, 0, _, _, _, _, hf => by simp at hf
/-- both heads -/
def pushL : Bs := [80, 79, 83, 84, 32, 47, 112, 117, 115, 104, 32, 72, 84, 84, 80, 47, 49, 46, 49]
def teName (up : Bool) : Bs := if up then [84, 114, 97, 110, 115, 102, 101, 114, 45, 69, 110, 99, 111, 100, 105, 110, 103] else teS
def teL (up : Bool) : Bs := teName up ++ 58 :: 32 :: chunkedS
def clL (d : Nat) : Bs := lenName ++ 58 :: decP d
theorem te_step (up : Bool) : stepL ⟨true, 1, 0, 0, false⟩ (teL up) = ⟨true, 1, 1, 0, true⟩ := by cases up <;> kernel_rfl
theorem cl_step (d : Nat) (hd : d ≤ 100000) : stepL ⟨true, 1, 0, 0, false⟩ (clL d) = ⟨true, 1, 1, d, false⟩ := by
  have h := lineP_len ⟨true, 1, 0, 0, false⟩ false (ds := decP d) (decP_digs d) (decP_pos d) (Nat.le_trans (decP_len 5 d (by omega)) (by decide))
  rw [digN_dec d (by omega)] at h
  unfold stepL
  rw [if_pos rfl]
  exact h
theorem te_lines (up : Bool) : Lines [pushL, hostL, teL up] := by
  intro l hl
  simp only [List.mem_cons, List.not_mem_nil, or_false] at hl
  rcases hl with rfl | rfl | rfl
  · exact ⟨by decide, by unfold NoCr; decide⟩
  · exact ⟨by decide, by unfold NoCr; decide⟩
  · cases up <;> exact ⟨by decide, by unfold NoCr; decide⟩
theorem cl_lines (d : Nat) : Lines [pushL, hostL, clL d] := by
  intro l hl
  simp only [List.mem_cons, List.not_mem_nil, or_false] at hl
  rcases hl with rfl | rfl | rfl
  · exact ⟨by decide, by unfold NoCr; decide⟩
  · exact ⟨by decide, by unfold NoCr; decide⟩
  · refine ⟨by simp [clL], fun x hx => ?_⟩
    simp only [clL, List.mem_append, List.mem_cons] at hx
    rcases hx with h | rfl | h
    · exact (by decide : ∀ x ∈ lenName, x ≠ 13) x h
    · decide
    · exact dig_nocr d x h
def pushQ (b : Bs) : ReqP := ⟨[80, 79, 83, 84], [47, 112, 117, 115, 104], [], b⟩
theorem push_first : firstP pushL = some ([80, 79, 83, 84], [47, 112, 117, 115, 104]) := by kernel_rfl
theorem push_target : targetP [47, 112, 117, 115, 104] = ([47, 112, 117, 115, 104], [], true) := by kernel_rfl
theorem te_read (up : Bool) : readL pushL [hostL, teL up] = ⟨[80, 79, 83, 84], [47, 112, 117, 115, 104], [], 0, true, true⟩ := by
  unfold readL
  rw [push_first]
  dsimp only
  rw [push_target]
  simp only [List.foldl_cons, List.foldl_nil, host_step, te_step]
  rfl
theorem cl_read (d : Nat) (hd : d ≤ 100000) : readL pushL [hostL, clL d] = ⟨[80, 79, 83, 84], [47, 112, 117, 115, 104], [], d, false, true⟩ := by
  unfold readL
  rw [push_first]
  dsimp only
  rw [push_target]
  simp only [List.foldl_cons, List.foldl_nil, host_step, cl_step d hd]
  rfl
theorem parse_cl (b : Bs) (hb : b.length ≤ 8192) : parseP (hdP [pushL, hostL, clL b.length] ++ (crlf ++ b)) = .ok (pushQ b, (hdP [pushL, hostL, clL b.length]).length + 2 + b.length) := by
  have hl : (hdP [pushL, hostL, clL b.length]).length ≤ 100 := by
    have := decP_len 5 b.length (by omega)
    simp [hdP, pushL, hostL, clL, lenName, crlf]; omega
  rw [parseP_mk _ _ _ (cl_lines b.length), if_neg (by omega), cl_read b.length (by omega), if_neg (by simp)]
  simp only [bodyP, plainP]
  rw [if_neg (by simp), if_neg (by omega), if_neg (by omega), List.take_length]
  rfl
theorem parse_te (up : Bool) (ps : List Bs) (h : ∀ p ∈ ps, 1 ≤ p.length) (h8 : ps.flatten.length ≤ 8192) : parseP (hdP [pushL, hostL, teL up] ++ (crlf ++ (encP up ps ++ lastP))) = .ok (pushQ ps.flatten, (hdP [pushL, hostL, teL up]).length + 2 + (encP up ps).length + 5) := by
  have hl : (hdP [pushL, hostL, teL up]).length ≤ 100 := by cases up <;> decide
  have hn : ps.length ≤ (encP up ps ++ lastP).length := by
    have : ∀ ps : List Bs, ps.length ≤ (encP up ps).length := by
      intro ps
      induction ps with
      | nil => simp
      | cons p ps ih =>
        have e := congrArg List.length (encP_cons up p ps [])
        simp [crlf] at e ⊢; omega
    have := this ps
    rw [List.length_append]; omega
  rw [parseP_mk _ _ _ (te_lines up), if_neg (by omega), te_read up, if_neg (by simp)]
  simp only [bodyP]
  rw [if_pos trivial, chunks_enc up ps _ [] _ h (by simpa using h8) (by omega)]
  rfl
end Garner
