/-
  DERIVED: THE SHELF's CONTRACTS AT THIS DUMP, IN PLAIN WORDS (tools/lay-plain.mjs out of 'TryShelf.lean', which tools/lay-shelf.mjs wrote): THE SAME DECLARATIONS UNDER THE SAME NAMES: 'import', 'namespace', 'open', 'def', 'theorem' AND NOTHING ELSE: no command of the shelf's: FOR A HAND-IN. Each laying: the table of numbers ('.._ren') and one theorem, a field a fact of the dump's own or the kernel's comparison; each contract: ONE APPLICATION.
-/
import Derived.Shelf.Strconv.Itoa0
import Derived.Shelf.Sort.Plain
import Derived.Shelf.Slices.In.SortNone
import Derived.Test.YtmddgimadlmacaaProg
namespace Go.Proofs
open Go.Shelf
def Try.lays190_ren : Go.Shelf.Ren := ⟨fun | 190 => 81 | 125 => 87 | 258 => 86 | 128 => 97 | 129 => 98 | 302 => 88 | 303 => 89 | 304 => 90 | 305 => 91 | 306 => 92 | 307 => 93 | 308 => 94 | 309 => 95 | 310 => 96 | 333 => 99 | 329 => 100 | 330 => 101 | 334 => 102 | 335 => 103 | 336 => 104 | 344 => 105 | n => n, fun | 31 => 50 | 9 => 9 | 3 => 3 | 46 => 47 | 0 => 0 | 51 => 112 | 53 => 22 | 4 => 4 | 183 => 125 | 182 => 124 | 131 => 109 | 5 => 5 | 218 => 132 | 222 => 136 | 228 => 138 | 229 => 139 | n => n, fun | n => n⟩
theorem Try.lays190 : Go.Proofs.Lays.n190 Try.prog Try.lays190_ren := {
  mixed := by kernel_rfl
  f125 := Try.func87.trans (congrArg some (by kernel_rfl))
  f128 := Try.func97.trans (congrArg some (by kernel_rfl))
  f129 := Try.func98.trans (congrArg some (by kernel_rfl))
  f190 := Try.func81.trans (congrArg some (by kernel_rfl))
  f258 := Try.func86.trans (congrArg some (by kernel_rfl))
  f302 := Try.func88.trans (congrArg some (by kernel_rfl))
  f303 := Try.func89.trans (congrArg some (by kernel_rfl))
  f304 := Try.func90.trans (congrArg some (by kernel_rfl))
  f305 := Try.func91.trans (congrArg some (by kernel_rfl))
  f306 := Try.func92.trans (congrArg some (by kernel_rfl))
  f307 := Try.func93.trans (congrArg some (by kernel_rfl))
  f308 := Try.func94.trans (congrArg some (by kernel_rfl))
  f309 := Try.func95.trans (congrArg some (by kernel_rfl))
  f310 := Try.func96.trans (congrArg some (by kernel_rfl))
  f329 := Try.func100.trans (congrArg some (by kernel_rfl))
  f330 := Try.func101.trans (congrArg some (by kernel_rfl))
  f333 := Try.func99.trans (congrArg some (by kernel_rfl))
  f334 := Try.func102.trans (congrArg some (by kernel_rfl))
  f335 := Try.func103.trans (congrArg some (by kernel_rfl))
  f336 := Try.func104.trans (congrArg some (by kernel_rfl))
  f344 := Try.func105.trans (congrArg some (by kernel_rfl))
  t0 := Try.underlying0
  a0 := Try.isAgg0
  z0 := Try.sizeOf0
  v0 := Try.zeroValue0
  t3 := Try.underlying3
  a3 := Try.isAgg3
  z3 := Try.sizeOf3
  v3 := Try.zeroValue3
  t4 := Try.underlying4
  a4 := Try.isAgg4
  z4 := Try.sizeOf4
  v4 := Try.zeroValue4
  t5 := Try.underlying5
  a5 := Try.isAgg5
  z5 := Try.sizeOf5
  v5 := Try.zeroValue5
  t9 := Try.underlying9
  a9 := Try.isAgg9
  z9 := Try.sizeOf9
  v9 := Try.zeroValue9
  t31 := Try.underlying50
  a31 := Try.isAgg50
  z31 := Try.sizeOf50
  v31 := Try.zeroValue50
  t46 := Try.underlying47
  a46 := Try.isAgg47
  z46 := Try.sizeOf47
  v46 := Try.zeroValue47
  t51 := Try.underlying112
  a51 := Try.isAgg112
  z51 := Try.sizeOf112
  v51 := Try.zeroValue112
  t53 := Try.underlying22
  a53 := Try.isAgg22
  z53 := Try.sizeOf22
  v53 := Try.zeroValue22
  t131 := Try.underlying109
  a131 := Try.isAgg109
  z131 := Try.sizeOf109
  v131 := Try.zeroValue109
  t182 := Try.underlying124
  a182 := Try.isAgg124
  z182 := Try.sizeOf124
  v182 := Try.zeroValue124
  t183 := Try.underlying125
  a183 := Try.isAgg125
  z183 := Try.sizeOf125
  v183 := Try.zeroValue125
  t218 := Try.underlying132
  a218 := Try.isAgg132
  z218 := Try.sizeOf132
  v218 := Try.zeroValue132
  t222 := Try.underlying136
  a222 := Try.isAgg136
  z222 := Try.sizeOf136
  v222 := Try.zeroValue136
  t228 := Try.underlying138
  a228 := Try.isAgg138
  z228 := Try.sizeOf138
  v228 := Try.zeroValue138
  t229 := Try.underlying139
  a229 := Try.isAgg139
  z229 := Try.sizeOf139
  v229 := Try.zeroValue139 }
open Go.Sort Go.RowKit in
theorem Try.slices_Sort_string (blk off cap : Nat) (ss : List (List UInt8)) (w : World) (hH : Holds encStr w blk off ss.toArray) (hblk : blk < w.heap.size) (hsz : ss.length < 4611686018427387904) :
    Calls Try.prog 81 #[.slice (some ⟨blk, off, none⟩) ss.length cap] w fun e w' =>
      e = .returned (.tuple #[]) ∧ ∃ n os, w' = grow (putRow encStr (Sort.ahead w n) blk off (ss.mergeSort fun x y => decide (x ≤ y)).toArray) os := Any.slices_Sort_string Try.lays190 blk off cap ss w hH hblk hsz
open Go.RowKit Go.Sort in
/-- .. and plain. (LAID: no walk: one application.) -/
theorem Try.slices_Sort_string_none (p : Option Addr) (cap : Nat) (w : World) :
    Calls Try.prog 81 #[.slice p 0 cap] w fun e w' => e = .returned (.tuple #[]) ∧ w' = w := Any.slices_Sort_string_none Try.lays190 p cap w
end Go.Proofs
