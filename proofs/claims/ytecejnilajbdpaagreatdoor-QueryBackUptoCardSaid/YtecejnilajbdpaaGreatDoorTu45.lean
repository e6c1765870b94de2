import Derived.Shelf.Strings.Builder1
import Derived.Shelf.Strings.Builder2
import Derived.Shelf.Strings.OnBuilder
import Derived.Shelf.Strings.Trim
import Derived.Shelf.Small.Utf8
import Derived.Shelf.Small.Bits
import Derived.Shelf.Small.Strs
import Derived.Shelf.Small.Wraps
import Derived.Shelf.Strings.BuilderF
import Derived.Shelf.Strings.BuilderK
import Derived.Shelf.Strings.Builder2Cap
import Derived.Shelf.Strconv.Itoa0
import Derived.Shelf.Strings.Search1
import Derived.Shelf.Strings.Search2
import Derived.Shelf.Strings.Search3
import Derived.Shelf.Strings.Count
import Derived.Shelf.LaysM
import Derived.Shelf.Strings.Shaped
import Derived.Shelf.Sort.Plain
import Derived.Shelf.Strings.Prefix
import Derived.Shelf.Strings.Split
import Derived.Shelf.Strings.Replace
import Derived.Shelf.Strings.SplitShaped
import Derived.Shelf.Strings.Runes
import Derived.Shelf.Strings.AsciiSet
import Derived.Shelf.Unicode.DecodeSlow
import Derived.Shelf.Unicode.DecodeAny
import Derived.Shelf.Strings.BuilderCap
import Derived.Ground.Names2Prog
import Derived.Shelf.Slices.Clone
import Derived.Shelf.Slices.SearchI
import Derived.Shelf.Slices.In.SortNone
import Derived.Ground.SlgnProg
import Derived.Shelf.SlicesE.Clone
import Derived.Test.YtecejnilajbdpaaGreatDoorProg
import Derived.Test.YtecejnilajbdpaaGreatDoorTu11
/-
  DERIVED: THE SHELF's CONTRACTS AT THIS DUMP, IN PLAIN WORDS (tools/lay-plain.mjs out of 'TryzShelf.lean', which tools/lay-shelf.mjs wrote): THE SAME DECLARATIONS UNDER THE SAME NAMES: 'import', 'namespace', 'open', 'def', 'theorem' AND NOTHING ELSE: no command of the shelf's: FOR A HAND-IN. Each laying: the table of numbers ('.._ren') and one theorem, a field a fact of the dump's own or the kernel's comparison; each contract: ONE APPLICATION.
-/
namespace Go.Proofs
open Go.Shelf
def Tryz.lays156_ren : Go.Shelf.Ren := ⟨fun | 156 => 58 | 165 => 84 | 166 => 85 | 169 => 86 | 240 => 115 | 241 => 116 | 276 => 142 | 277 => 143 | n => n, fun | 31 => 99 | 9 => 9 | 3 => 3 | 4 => 4 | 0 => 0 | 20 => 20 | 72 => 137 | 76 => 141 | 70 => 135 | 37 => 52 | 75 => 140 | 127 => 184 | 164 => 198 | 5 => 5 | 80 => 123 | n => n, fun | n => n⟩
theorem Tryz.lays156 : Go.Proofs.Lays.n156 Tryz.prog Tryz.lays156_ren := {
  mixed := by kernel_rfl
  f156 := Tryz.func58.trans (congrArg some (by kernel_rfl))
  f165 := Tryz.func84.trans (congrArg some (by kernel_rfl))
  f166 := Tryz.func85.trans (congrArg some (by kernel_rfl))
  f169 := Tryz.func86.trans (congrArg some (by kernel_rfl))
  f240 := Tryz.func115.trans (congrArg some (by kernel_rfl))
  f241 := Tryz.func116.trans (congrArg some (by kernel_rfl))
  f276 := Tryz.func142.trans (congrArg some (by kernel_rfl))
  f277 := Tryz.func143.trans (congrArg some (by kernel_rfl))
  t0 := Tryz.underlying0
  a0 := Tryz.isAgg0
  z0 := Tryz.sizeOf0
  v0 := Tryz.zeroValue0
  t3 := Tryz.underlying3
  a3 := Tryz.isAgg3
  z3 := Tryz.sizeOf3
  v3 := Tryz.zeroValue3
  t4 := Tryz.underlying4
  a4 := Tryz.isAgg4
  z4 := Tryz.sizeOf4
  v4 := Tryz.zeroValue4
  t9 := Tryz.underlying9
  a9 := Tryz.isAgg9
  z9 := Tryz.sizeOf9
  v9 := Tryz.zeroValue9
  t20 := Tryz.underlying20
  a20 := Tryz.isAgg20
  z20 := Tryz.sizeOf20
  v20 := Tryz.zeroValue20
  t31 := Tryz.underlying99
  a31 := Tryz.isAgg99
  z31 := Tryz.sizeOf99
  v31 := Tryz.zeroValue99
  t37 := Tryz.underlying52
  a37 := Tryz.isAgg52
  z37 := Tryz.sizeOf52
  v37 := Tryz.zeroValue52
  t70 := Tryz.underlying135
  a70 := Tryz.isAgg135
  z70 := Tryz.sizeOf135
  v70 := Tryz.zeroValue135
  t72 := Tryz.underlying137
  a72 := Tryz.isAgg137
  z72 := Tryz.sizeOf137
  v72 := Tryz.zeroValue137
  t75 := Tryz.underlying140
  a75 := Tryz.isAgg140
  z75 := Tryz.sizeOf140
  v75 := Tryz.zeroValue140
  t76 := Tryz.underlying141
  a76 := Tryz.isAgg141
  z76 := Tryz.sizeOf141
  v76 := Tryz.zeroValue141
  t127 := Tryz.underlying184
  a127 := Tryz.isAgg184
  z127 := Tryz.sizeOf184
  v127 := Tryz.zeroValue184
  t164 := Tryz.underlying198
  a164 := Tryz.isAgg198
  z164 := Tryz.sizeOf198
  v164 := Tryz.zeroValue198 }
theorem Tryz.Builder_Extra_156 : Builder.Extra Tryz.prog Tryz.lays156_ren := {
  sizeBuilder := by kernel_rfl
  liesBuilder := by kernel_rfl
  t5 := Tryz.underlying5
  a5 := Tryz.isAgg5
  z5 := Tryz.sizeOf5
  v5 := Tryz.zeroValue5
  infoByte := by kernel_rfl
  cellsByte := by kernel_rfl
  sizeByte := by kernel_rfl
  neB5 := by decide }
open Go.RowKit in
/-- No element: the empty string; the world is as it was. (Whatever the slice's address and capacity: a nil slice too.) (LAID: no walk: one application.) -/
theorem Tryz.strings_Join_none (a : Option Addr) (c : Nat) (sep : ByteArray) (w : World) :
    Calls Tryz.prog 58 #[.slice a 0 c, .string sep] w fun e w' => e = .returned (.string ⟨#[]⟩) ∧ w' = w := Any.strings_Join_none Tryz.lays156 Tryz.Builder_Extra_156 a c sep w
open Go.RowKit in
/-- strings.Join: "Join concatenates the elements of its first argument to create a single string. The separator string sep is placed between elements in the resulting string.": HOWEVER MANY ELEMENTS. Below the heap's end the world is as it was. (LAID: no walk: one application.) -/
theorem Tryz.strings_Join (bk o c : Nat) (xs : List ByteArray) (sep : ByteArray) (w : World) (hcells : ∀ (j : Nat) x, xs[j]? = some x → w.cell? ⟨bk, o + j, none⟩ = some (.string x)) (hbk : bk < w.heap.size) (hN : xs.length ≤ 140737488355328) (hcap : xs.length ≤ c) (hlen : (Lib.join (xs.map (·.data.toList)) sep.data.toList).length ≤ 140737488355328) :
    Calls Tryz.prog 58 #[.slice (some ⟨bk, o, none⟩) xs.length c, .string sep] w fun e w' => e = .returned (.string ⟨(Lib.join (xs.map (·.data.toList)) sep.data.toList).toArray⟩) ∧ Below w.heap.size w w' := Any.strings_Join Tryz.lays156 Tryz.Builder_Extra_156 bk o c xs sep w hcells hbk hN hcap hlen
def Tryz.lays155_ren : Go.Shelf.Ren := ⟨fun | 155 => 83 | 154 => 114 | 138 => 141 | 165 => 84 | 143 => 99 | 166 => 85 | 197 => 136 | 169 => 86 | 195 => 160 | 218 => 161 | 240 => 115 | 241 => 116 | 219 => 133 | 260 => 155 | 276 => 142 | 277 => 143 | 217 => 151 | 225 => 152 | 224 => 153 | 267 => 154 | 266 => 183 | 314 => 184 | n => n, fun | 9 => 9 | 3 => 3 | 4 => 4 | 72 => 137 | 0 => 0 | 76 => 141 | 105 => 126 | 21 => 21 | 5 => 5 | 70 => 135 | 20 => 20 | 37 => 52 | 75 => 140 | 127 => 184 | 164 => 198 | 46 => 170 | 119 => 166 | 139 => 169 | 138 => 168 | 146 => 226 | 51 => 218 | 80 => 123 | n => n, fun | 1 => 2 | 3 => 0 | 4 => 1 | n => n⟩
theorem Tryz.lays155 : Go.Proofs.Lays.n155 Tryz.prog Tryz.lays155_ren := {
  mixed := by kernel_rfl
  f138 := Tryz.func141.trans (congrArg some (by kernel_rfl))
  f143 := Tryz.func99.trans (congrArg some (by kernel_rfl))
  f154 := Tryz.func114.trans (congrArg some (by kernel_rfl))
  f155 := Tryz.func83.trans (congrArg some (by kernel_rfl))
  f165 := Tryz.func84.trans (congrArg some (by kernel_rfl))
  f166 := Tryz.func85.trans (congrArg some (by kernel_rfl))
  f169 := Tryz.func86.trans (congrArg some (by kernel_rfl))
  f195 := Tryz.func160.trans (congrArg some (by kernel_rfl))
  f197 := Tryz.func136.trans (congrArg some (by kernel_rfl))
  f217 := Tryz.func151.trans (congrArg some (by kernel_rfl))
  f218 := Tryz.func161.trans (congrArg some (by kernel_rfl))
  f219 := Tryz.func133.trans (congrArg some (by kernel_rfl))
  f224 := Tryz.func153.trans (congrArg some (by kernel_rfl))
  f225 := Tryz.func152.trans (congrArg some (by kernel_rfl))
  f240 := Tryz.func115.trans (congrArg some (by kernel_rfl))
  f241 := Tryz.func116.trans (congrArg some (by kernel_rfl))
  f260 := Tryz.func155.trans (congrArg some (by kernel_rfl))
  f266 := Tryz.func183.trans (congrArg some (by kernel_rfl))
  f267 := Tryz.func154.trans (congrArg some (by kernel_rfl))
  f276 := Tryz.func142.trans (congrArg some (by kernel_rfl))
  f277 := Tryz.func143.trans (congrArg some (by kernel_rfl))
  f314 := Tryz.func184.trans (congrArg some (by kernel_rfl))
  t0 := Tryz.underlying0
  a0 := Tryz.isAgg0
  z0 := Tryz.sizeOf0
  v0 := Tryz.zeroValue0
  t3 := Tryz.underlying3
  a3 := Tryz.isAgg3
  z3 := Tryz.sizeOf3
  v3 := Tryz.zeroValue3
  t4 := Tryz.underlying4
  a4 := Tryz.isAgg4
  z4 := Tryz.sizeOf4
  v4 := Tryz.zeroValue4
  t5 := Tryz.underlying5
  a5 := Tryz.isAgg5
  z5 := Tryz.sizeOf5
  v5 := Tryz.zeroValue5
  t9 := Tryz.underlying9
  a9 := Tryz.isAgg9
  z9 := Tryz.sizeOf9
  v9 := Tryz.zeroValue9
  t20 := Tryz.underlying20
  a20 := Tryz.isAgg20
  z20 := Tryz.sizeOf20
  v20 := Tryz.zeroValue20
  t21 := Tryz.underlying21
  a21 := Tryz.isAgg21
  z21 := Tryz.sizeOf21
  v21 := Tryz.zeroValue21
  t37 := Tryz.underlying52
  a37 := Tryz.isAgg52
  z37 := Tryz.sizeOf52
  v37 := Tryz.zeroValue52
  t46 := Tryz.underlying170
  a46 := Tryz.isAgg170
  z46 := Tryz.sizeOf170
  v46 := Tryz.zeroValue170
  t51 := Tryz.underlying218
  a51 := Tryz.isAgg218
  z51 := Tryz.sizeOf218
  v51 := Tryz.zeroValue218
  t70 := Tryz.underlying135
  a70 := Tryz.isAgg135
  z70 := Tryz.sizeOf135
  v70 := Tryz.zeroValue135
  t72 := Tryz.underlying137
  a72 := Tryz.isAgg137
  z72 := Tryz.sizeOf137
  v72 := Tryz.zeroValue137
  t75 := Tryz.underlying140
  a75 := Tryz.isAgg140
  z75 := Tryz.sizeOf140
  v75 := Tryz.zeroValue140
  t76 := Tryz.underlying141
  a76 := Tryz.isAgg141
  z76 := Tryz.sizeOf141
  v76 := Tryz.zeroValue141
  t105 := Tryz.underlying126
  a105 := Tryz.isAgg126
  z105 := Tryz.sizeOf126
  v105 := Tryz.zeroValue126
  t119 := Tryz.underlying166
  a119 := Tryz.isAgg166
  z119 := Tryz.sizeOf166
  t127 := Tryz.underlying184
  a127 := Tryz.isAgg184
  z127 := Tryz.sizeOf184
  v127 := Tryz.zeroValue184
  t138 := Tryz.underlying168
  a138 := Tryz.isAgg168
  z138 := Tryz.sizeOf168
  v138 := Tryz.zeroValue168
  t139 := Tryz.underlying169
  a139 := Tryz.isAgg169
  z139 := Tryz.sizeOf169
  v139 := Tryz.zeroValue169
  t146 := Tryz.underlying226
  a146 := Tryz.isAgg226
  z146 := Tryz.sizeOf226
  v146 := Tryz.zeroValue226
  t164 := Tryz.underlying198
  a164 := Tryz.isAgg198
  z164 := Tryz.sizeOf198
  v164 := Tryz.zeroValue198
  g1 := by kernel_rfl
  g3 := by kernel_rfl
  g4 := by kernel_rfl }
theorem Tryz.Builder_Extra_155 : Builder.Extra Tryz.prog Tryz.lays155_ren := {
  sizeBuilder := by kernel_rfl
  liesBuilder := by kernel_rfl
  t5 := Tryz.underlying5
  a5 := Tryz.isAgg5
  z5 := Tryz.sizeOf5
  v5 := Tryz.zeroValue5
  infoByte := by kernel_rfl
  cellsByte := by kernel_rfl
  sizeByte := by kernel_rfl
  neB5 := by decide }
open Go.RowKit Go.Lib in
/-- strings.ReplaceAll: "ReplaceAll returns a copy of the string s with all non-overlapping instances of old replaced by new.": AT AN old THAT IS NOT EMPTY: 'Lib.replaceAll s old new'. (LAID: no walk: one application.) -/
theorem Tryz.strings_ReplaceAll (s old new : ByteArray) (m : Int) (w : World) (hs : s.size < 4294967281) (hm : w.cell? ⟨2, 0, none⟩ = some (.int .i64 m)) (h1 : 1 ≤ old.size) (hlen : s.size + Lib.countB s old * new.size ≤ 140737488355328) :
    Calls Tryz.prog 83 #[.string s, .string old, .string new] w fun e w' =>
      e = .returned (.string ⟨(Lib.replaceAll s.data.toList old.data.toList new.data.toList).toArray⟩) ∧ Below w.heap.size w w' := Any.strings_ReplaceAll Tryz.lays155 Tryz.Builder_Extra_155 s old new m w hs hm h1 hlen
end Go.Proofs

