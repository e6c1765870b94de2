import Derived.Test.YtcjapjnhejenaaaDoorPure1
import Derived.Lib.Split
import Derived.Lib.Replace
import Derived.Lib.SlTrimSet
import Derived.Lib.MapU
import Derived.Lib.ValidLaws
/-! Layer 26, plain: what http.Parse computes; no program in sight. -/
namespace Garner
open Go

def or32 (n : Nat) : Nat := if n / 32 % 2 = 0 then n + 32 else n
/-- a hexadecimal digit; -1: it is none -/
def hexP (c : UInt8) : Int :=
  if 48 ≤ c.toNat ∧ c.toNat ≤ 57 then (c.toNat : Int) - 48
  else if 97 ≤ or32 c.toNat ∧ or32 c.toNat ≤ 102 then (or32 c.toNat : Int) - 87 else -1
def validP (l : Bs) : Bool := if l.all (fun c => decide (c.toNat < 128)) then true else Lib.validD l
def decG : Bs → Option Bs
  | [] => some []
  | [c] => if c = 37 then none else some [c]
  | [c, d] => if c = 37 then none else (decG [d]).map (c :: ·)
  | c :: a :: b :: r =>
    if c = 37 then (if hexP a < 0 ∨ hexP b < 0 then none else (decG r).map (UInt8.ofNat (16 * hexP a + hexP b).toNat :: ·))
    else (decG (a :: b :: r)).map (c :: ·)
def decV (s : Bs) (ok : Bool) : Bs × Bool := match decG s with
  | none => ([], false)
  | some o => (o, ok && validP o)
/-- the pieces between the bytes c -/
def splitC (c : UInt8) : Bs → List Bs
  | [] => [[]]
  | x :: r => if x = c then [] :: splitC c r else match splitC c r with
    | [] => [[x]]
    | h :: t => (x :: h) :: t
def plusP (s : Bs) : Bs := s.map fun c => if c = 43 then 32 else c
def pairP (st : List (Bs × Bs) × Bool) (p : Bs) : List (Bs × Bs) × Bool :=
  if p = [] then st else
  let c := Lib.cut (plusP p) [61]
  let a := decV c.1 st.2
  let b := decV c.2.1 a.2
  (st.1 ++ [(a.1, b.1)], b.2)
def targetP (s : Bs) : Bs × List (Bs × Bs) × Bool :=
  if s.any (fun c => decide (c.toNat < 33 ∨ 126 < c.toNat)) then ([], [], false) else
  let c := Lib.cut s [63]
  let p := decV c.1 (Lib.hasPrefix c.1 [47])
  let q := (splitC 38 c.2.1).foldl pairP ([], p.2)
  (p.1, q.1, q.2)
def tokSet : Bs := [33, 35, 36, 37, 38, 39, 42, 43, 45, 46, 94, 95, 96, 124, 126]
def tokB (c : UInt8) : Bool := (decide (48 ≤ c.toNat) && decide (c.toNat ≤ 57)) || (decide (97 ≤ or32 c.toNat) && decide (or32 c.toNat ≤ 122)) || tokSet.contains c
def tokenP (s : Bs) : Bool := s.all tokB && !s.isEmpty
def cleanB (c : UInt8) : Bool := !((decide (c.toNat < 32) && decide (c.toNat ≠ 9)) || decide (c.toNat = 127))
def cleanP (s : Bs) : Bool := s.all cleanB
def methodP (s : Bs) : Bool := s.all (fun c => decide (65 ≤ c.toNat ∧ c.toNat ≤ 90)) && decide (0 < s.length ∧ s.length ≤ 16)
def lowF (c : Int) : Int := if 65 ≤ c ∧ c ≤ 90 then c + 32 else c
def lowB (c : UInt8) : UInt8 := if 65 ≤ c.toNat ∧ c.toNat ≤ 90 then UInt8.ofNat (c.toNat + 32) else c
def lowP (s : Bs) : Bs := if s.all (fun c => decide (c.toNat < 128)) then s.map lowB else Lib.mapD lowF s
def digB (c : UInt8) : Bool := decide (48 ≤ c.toNat ∧ c.toNat ≤ 57)
def digN (s : Bs) (n : Nat) : Nat := s.foldl (fun n c => min (10 * n + (c.toNat + 208) % 256) 1099511627776) n
def digitsP (s : Bs) (ok : Bool) : Nat × Bool := (digN s 0, (ok && s.all digB) && decide (1 ≤ s.length ∧ s.length ≤ 10))

def crlf : Bs := [13, 10]
def crlf2 : Bs := [13, 10, 13, 10]
def hostS : Bs := [104, 111, 115, 116]
def lengthS : Bs := [99, 111, 110, 116, 101, 110, 116, 45, 108, 101, 110, 103, 116, 104]
def teS : Bs := [116, 114, 97, 110, 115, 102, 101, 114, 45, 101, 110, 99, 111, 100, 105, 110, 103]
def chunkedS : Bs := [99, 104, 117, 110, 107, 101, 100]
def http11 : Bs := [72, 84, 84, 80, 47, 49, 46, 49]

structure LineP where
  ok : Bool
  hosts : Nat
  lengths : Nat
  length : Nat
  chunked : Bool

def lineP (st : LineP) (line : Bs) : LineP :=
  let c := Lib.cut line [58]
  let value := Lib.trimS c.2.1 [32, 9]
  let ok := c.2.2 && tokenP c.1 && cleanP value
  let low := lowP c.1
  if low = hostS then { st with ok := ok, hosts := st.hosts + 1 }
  else if low = lengthS then { st with ok := (digitsP value ok).2, lengths := st.lengths + 1, length := (digitsP value ok).1 }
  else if low = teS then { st with ok := ok && lowP value == chunkedS, lengths := st.lengths + 1, chunked := true }
  else { st with ok := ok }
def linesP : Nat → LineP → Bs → LineP
  | 0, st, _ => st
  | n + 1, st, rest => if st.ok = true ∧ rest ≠ [] then linesP n (lineP st (Lib.cut rest crlf).1) (Lib.cut rest crlf).2.1 else st

structure HeadP where
  method : Bs
  path : Bs
  query : List (Bs × Bs)
  length : Nat
  chunked : Bool
  ok : Bool
def noHead : HeadP := ⟨[], [], [], 0, false, false⟩
def firstP (s : Bs) : Option (Bs × Bs) := match splitC 32 s with
  | [a, b, c] => if c = http11 ∧ methodP a = true then some (a, b) else none
  | _ => none
def readP (s : Bs) : HeadP :=
  match firstP (Lib.cut s crlf).1 with
  | none => noHead
  | some (a, b) =>
    let t := targetP b
    let r := linesP ((Lib.cut s crlf).2.1.length + 1) ⟨t.2.2, 0, 0, 0, false⟩ (Lib.cut s crlf).2.1
    ⟨a, t.1, t.2.1, r.length, r.chunked, r.ok && decide (r.hosts = 1) && decide (r.lengths ≤ 1)⟩

/-- do these bytes come next? 0, 5 (too short) or 60 -/
def expectP : Bs → Bs → Nat
  | _, [] => 0
  | [], _ :: _ => 5
  | x :: r, y :: w => if x = y then expectP r w else 60
def hexRun (r : Bs) : Bs := r.takeWhile fun c => decide (0 ≤ hexP c)
def hexN (l : Bs) (n : Nat) : Nat := l.foldl (fun n c => 16 * n + (hexP c).toNat) n
/-- a chunk's size, and how many digits it has -/
def sizeP (r : Bs) : Except Nat (Nat × Nat) :=
  let k := (hexRun r).length
  if 8 < k then .error 60
  else if k = 0 ∧ r ≠ [] then .error 60
  else if expectP (r.drop k) crlf = 0 then .ok (hexN (hexRun r) 0, k) else .error (expectP (r.drop k) crlf)
/-- a chunked body: the rest of the bytes, what came so far, where the rest begins -/
def chunksP : Nat → Bs → Bs → Nat → Except Nat (Bs × Nat)
  | 0, _, _, _ => .error 5
  | fuel + 1, r, out, at_ =>
    match sizeP r with
    | .error e => .error e
    | .ok (n, k) =>
      let r1 := r.drop (k + 2)
      if 8192 < out.length + n then .error 62
      else if r1.length < n then .error 5
      else if expectP (r1.drop n) crlf ≠ 0 then .error (expectP (r1.drop n) crlf)
      else if n = 0 then .ok (out, at_ + k + 4)
      else chunksP fuel (r1.drop (n + 2)) (out ++ r1.take n) (at_ + k + n + 4)
def plainP (r : Bs) (at_ n : Nat) : Except Nat (Bs × Nat) :=
  if 8192 < n then .error 62 else if r.length < n then .error 5 else .ok (r.take n, at_ + n)

structure ReqP where
  method : Bs
  path : Bs
  query : List (Bs × Bs)
  body : Bs
def noReq : ReqP := ⟨[], [], [], []⟩
def bodyP (h : HeadP) (r : Bs) (at_ : Nat) : Except Nat (Bs × Nat) :=
  if h.chunked = true then chunksP (r.length + 1) r [] at_ else plainP r at_ h.length
/-- http.Parse -/
def parseP (b : Bs) : Except Nat (ReqP × Nat) :=
  if Lib.index b crlf2 < 0 then .error (if b.length < 2048 then 5 else 61)
  else
    let n := (Lib.index b crlf2).toNat
    if 2048 < n + 4 then .error 61 else
    let h := readP (b.take (n + 2))
    if h.ok = false then .error 60 else
    match bodyP h (b.drop (n + 4)) (n + 4) with
    | .error e => .error e
    | .ok (body, to) => .ok (⟨h.method, h.path, h.query, body⟩, to)
def Except.errOf {α : Type} : Except Nat α → Nat
  | .error e => e
  | .ok _ => 0
end Garner
