import Derived.Below
import Derived.Lib.Hide
theorem Lh {p : Prop} (h : p) : Go.RowKit.Hid p := h
namespace Garner
abbrev Bs := List UInt8
def put1 (n : Nat) : Bs := if n < 128 then [UInt8.ofNat n] else UInt8.ofNat (n % 128 + 128) :: put1 (n / 128)
termination_by n
def crcBit (c : Nat) : Nat := if c % 2 = 1 then (c / 2) ^^^ 3988292384 else c / 2
def crcBits : Nat → Nat → Nat
 | 0, c => c
 | k + 1, c => crcBits k (crcBit c)
def crcByte (c : Nat) (x : UInt8) : Nat := crcBits 8 (c ^^^ x.toNat)
def crcFrom (c : Nat) (l : Bs) : Nat := l.foldl crcByte c
def crc (l : Bs) : Nat := 4294967295 - crcFrom 4294967295 l
def crcAt (l : Bs) : Nat := crcFrom 4294967295 l
def four (s : Nat) : Bs := [UInt8.ofNat (s % 256), UInt8.ofNat (s / 256 % 256), UInt8.ofNat (s / 65536 % 256), UInt8.ofNat (s / 16777216 % 256)]
def frame (p : Bs) : Except Nat Bs := if 65536 < p.length then .error 4 else .ok (put1 p.length ++ p ++ four (crc p))
attribute [irreducible] crc crcAt
open Go
end Garner
