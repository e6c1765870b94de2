import Derived.Shelf.Strings.Builder1
import Derived.Shelf.Strings.Builder2
import Derived.Shelf.Strings.OnBuilder
import Derived.Shelf.Strings.Trim
import Derived.Shelf.Small.Utf8
import Derived.Shelf.Small.Bits
import Derived.Shelf.Small.Strs
import Derived.Shelf.Small.Wraps
import Derived.Shelf.Strings.BuilderF
import Derived.Shelf.Strings.BuilderK
import Derived.Shelf.Strings.Builder2Cap
import Derived.Shelf.Strconv.Itoa0
import Derived.Shelf.Strings.Search1
import Derived.Shelf.Strings.Search2
import Derived.Shelf.Strings.Search3
import Derived.Shelf.Strings.Count
import Derived.Shelf.LaysM
import Derived.Shelf.Strings.Shaped
import Derived.Shelf.Sort.Plain
import Derived.Shelf.Strings.Prefix
import Derived.Shelf.Strings.Split
import Derived.Shelf.Strings.Replace
import Derived.Shelf.Strings.SplitShaped
import Derived.Shelf.Strings.Runes
import Derived.Shelf.Strings.AsciiSet
import Derived.Shelf.Unicode.DecodeSlow
import Derived.Shelf.Unicode.DecodeAny
import Derived.Shelf.Strings.BuilderCap
import Derived.Ground.Names2Prog
import Derived.Shelf.Slices.Clone
import Derived.Shelf.Slices.SearchI
import Derived.Shelf.Slices.In.SortNone
import Derived.Ground.SlgnProg
import Derived.Shelf.SlicesE.Clone
import Derived.Shelf.Unicode.ValidAny
import Derived.Shelf.SlSortCmp.WholeK
import Derived.Ground.SlsfProg
import Derived.Shelf.SlGeneric
import Derived.Test.YtecejnilajbdpaaGreatDoorProg
namespace Go.Proofs
open Go.Shelf
def Tryz.lays161_ren : Go.Shelf.Ren := ⟨fun | 161 => 101 | 231 => 104 | 227 => 106 | 233 => 107 | 235 => 109 | 228 => 135 | 197 => 136 | 151 => 137 | 260 => 155 | 152 => 156 | 137 => 185 | 119 => 186 | 224 => 153 | 225 => 152 | 217 => 151 | 266 => 183 | n => n, fun | 9 => 9 | 4 => 4 | 3 => 3 | 5 => 5 | 117 => 175 | 116 => 174 | 0 => 0 | 124 => 178 | 105 => 126 | 21 => 21 | 119 => 166 | 46 => 170 | 139 => 169 | 138 => 168 | n => n, fun | 3 => 0 | 4 => 1 | n => n⟩
theorem Tryz.lays161 : Go.Proofs.Lays.n161 Tryz.prog Tryz.lays161_ren := {
 mixed := by kernel_rfl
 f119 := Tryz.func186.trans (congrArg some (by kernel_rfl))
 f137 := Tryz.func185.trans (congrArg some (by kernel_rfl))
 f151 := Tryz.func137.trans (congrArg some (by kernel_rfl))
 f152 := Tryz.func156.trans (congrArg some (by kernel_rfl))
 f161 := Tryz.func101.trans (congrArg some (by kernel_rfl))
 f197 := Tryz.func136.trans (congrArg some (by kernel_rfl))
 f217 := Tryz.func151.trans (congrArg some (by kernel_rfl))
 f224 := Tryz.func153.trans (congrArg some (by kernel_rfl))
 f225 := Tryz.func152.trans (congrArg some (by kernel_rfl))
 f227 := Tryz.func106.trans (congrArg some (by kernel_rfl))
 f228 := Tryz.func135.trans (congrArg some (by kernel_rfl))
 f231 := Tryz.func104.trans (congrArg some (by kernel_rfl))
 f233 := Tryz.func107.trans (congrArg some (by kernel_rfl))
 f235 := Tryz.func109.trans (congrArg some (by kernel_rfl))
 f260 := Tryz.func155.trans (congrArg some (by kernel_rfl))
 f266 := Tryz.func183.trans (congrArg some (by kernel_rfl))
 t0 := Tryz.underlying0
 a0 := Tryz.isAgg0
 z0 := Tryz.sizeOf0
 v0 := Tryz.zeroValue0
 t3 := Tryz.underlying3
 a3 := Tryz.isAgg3
 z3 := Tryz.sizeOf3
 v3 := Tryz.zeroValue3
 t4 := Tryz.underlying4
 a4 := Tryz.isAgg4
 z4 := Tryz.sizeOf4
 v4 := Tryz.zeroValue4
 t5 := Tryz.underlying5
 a5 := Tryz.isAgg5
 z5 := Tryz.sizeOf5
 v5 := Tryz.zeroValue5
 t9 := Tryz.underlying9
 a9 := Tryz.isAgg9
 z9 := Tryz.sizeOf9
 v9 := Tryz.zeroValue9
 t21 := Tryz.underlying21
 a21 := Tryz.isAgg21
 z21 := Tryz.sizeOf21
 v21 := Tryz.zeroValue21
 t46 := Tryz.underlying170
 a46 := Tryz.isAgg170
 z46 := Tryz.sizeOf170
 v46 := Tryz.zeroValue170
 t105 := Tryz.underlying126
 a105 := Tryz.isAgg126
 z105 := Tryz.sizeOf126
 v105 := Tryz.zeroValue126
 t116 := Tryz.underlying174
 a116 := Tryz.isAgg174
 z116 := Tryz.sizeOf174
 t117 := Tryz.underlying175
 a117 := Tryz.isAgg175
 z117 := Tryz.sizeOf175
 v117 := Tryz.zeroValue175
 t119 := Tryz.underlying166
 a119 := Tryz.isAgg166
 z119 := Tryz.sizeOf166
 t124 := Tryz.underlying178
 a124 := Tryz.isAgg178
 z124 := Tryz.sizeOf178
 v124 := Tryz.zeroValue178
 t138 := Tryz.underlying168
 a138 := Tryz.isAgg168
 z138 := Tryz.sizeOf168
 v138 := Tryz.zeroValue168
 t139 := Tryz.underlying169
 a139 := Tryz.isAgg169
 z139 := Tryz.sizeOf169
 v139 := Tryz.zeroValue169
 g3 := by kernel_rfl
 g4 := by kernel_rfl }
open Go.RowKit in
theorem Tryz.strings_TrimLeft_one (s : ByteArray) (c : UInt8) (hc : c.toNat < 128) (w : World) :
  Calls Tryz.prog 101 #[.string s, .string ⟨#[c]⟩] w fun e w' => e = .returned (.string ⟨(Lib.trimLeftB s.data.toList c).toArray⟩) ∧ w' = w := Any.strings_TrimLeft_one Tryz.lays161 s c hc w
def Tryz.lays160_ren : Go.Shelf.Ren := ⟨fun | 160 => 78 | 232 => 105 | 231 => 104 | 227 => 106 | 234 => 108 | 233 => 107 | 236 => 110 | 235 => 109 | 228 => 135 | 271 => 138 | 151 => 137 | 197 => 136 | 120 => 157 | 152 => 156 | 260 => 155 | 137 => 185 | 119 => 186 | 224 => 153 | 225 => 152 | 217 => 151 | 266 => 183 | n => n, fun | 9 => 9 | 4 => 4 | 3 => 3 | 5 => 5 | 117 => 175 | 116 => 174 | 0 => 0 | 124 => 178 | 21 => 21 | 105 => 126 | 46 => 170 | 119 => 166 | 139 => 169 | 138 => 168 | n => n, fun | 3 => 0 | 4 => 1 | n => n⟩
theorem Tryz.lays160 : Go.Proofs.Lays.n160 Tryz.prog Tryz.lays160_ren := {
 mixed := by kernel_rfl
 f119 := Tryz.func186.trans (congrArg some (by kernel_rfl))
 f120 := Tryz.func157.trans (congrArg some (by kernel_rfl))
 f137 := Tryz.func185.trans (congrArg some (by kernel_rfl))
 f151 := Tryz.func137.trans (congrArg some (by kernel_rfl))
 f152 := Tryz.func156.trans (congrArg some (by kernel_rfl))
 f160 := Tryz.func78.trans (congrArg some (by kernel_rfl))
 f197 := Tryz.func136.trans (congrArg some (by kernel_rfl))
 f217 := Tryz.func151.trans (congrArg some (by kernel_rfl))
 f224 := Tryz.func153.trans (congrArg some (by kernel_rfl))
 f225 := Tryz.func152.trans (congrArg some (by kernel_rfl))
 f227 := Tryz.func106.trans (congrArg some (by kernel_rfl))
 f228 := Tryz.func135.trans (congrArg some (by kernel_rfl))
 f231 := Tryz.func104.trans (congrArg some (by kernel_rfl))
 f232 := Tryz.func105.trans (congrArg some (by kernel_rfl))
 f233 := Tryz.func107.trans (congrArg some (by kernel_rfl))
 f234 := Tryz.func108.trans (congrArg some (by kernel_rfl))
 f235 := Tryz.func109.trans (congrArg some (by kernel_rfl))
 f236 := Tryz.func110.trans (congrArg some (by kernel_rfl))
 f260 := Tryz.func155.trans (congrArg some (by kernel_rfl))
 f266 := Tryz.func183.trans (congrArg some (by kernel_rfl))
 f271 := Tryz.func138.trans (congrArg some (by kernel_rfl))
 t0 := Tryz.underlying0
 a0 := Tryz.isAgg0
 z0 := Tryz.sizeOf0
 v0 := Tryz.zeroValue0
 t3 := Tryz.underlying3
 a3 := Tryz.isAgg3
 z3 := Tryz.sizeOf3
 v3 := Tryz.zeroValue3
 t4 := Tryz.underlying4
 a4 := Tryz.isAgg4
 z4 := Tryz.sizeOf4
 v4 := Tryz.zeroValue4
 t5 := Tryz.underlying5
 a5 := Tryz.isAgg5
 z5 := Tryz.sizeOf5
 v5 := Tryz.zeroValue5
 t9 := Tryz.underlying9
 a9 := Tryz.isAgg9
 z9 := Tryz.sizeOf9
 v9 := Tryz.zeroValue9
 t21 := Tryz.underlying21
 a21 := Tryz.isAgg21
 z21 := Tryz.sizeOf21
 v21 := Tryz.zeroValue21
 t46 := Tryz.underlying170
 a46 := Tryz.isAgg170
 z46 := Tryz.sizeOf170
 v46 := Tryz.zeroValue170
 t105 := Tryz.underlying126
 a105 := Tryz.isAgg126
 z105 := Tryz.sizeOf126
 v105 := Tryz.zeroValue126
 t116 := Tryz.underlying174
 a116 := Tryz.isAgg174
 z116 := Tryz.sizeOf174
 t117 := Tryz.underlying175
 a117 := Tryz.isAgg175
 z117 := Tryz.sizeOf175
 v117 := Tryz.zeroValue175
 t119 := Tryz.underlying166
 a119 := Tryz.isAgg166
 z119 := Tryz.sizeOf166
 t124 := Tryz.underlying178
 a124 := Tryz.isAgg178
 z124 := Tryz.sizeOf178
 v124 := Tryz.zeroValue178
 t138 := Tryz.underlying168
 a138 := Tryz.isAgg168
 z138 := Tryz.sizeOf168
 v138 := Tryz.zeroValue168
 t139 := Tryz.underlying169
 a139 := Tryz.isAgg169
 z139 := Tryz.sizeOf169
 v139 := Tryz.zeroValue169
 g3 := by kernel_rfl
 g4 := by kernel_rfl }
open Go.RowKit in
theorem Tryz.strings_Trim_one (s : ByteArray) (c : UInt8) (hc : c.toNat < 128) (w : World) (hs : s.size ≤ 9223372036854775807) :
  Calls Tryz.prog 78 #[.string s, .string ⟨#[c]⟩] w fun e w' => e = .returned (.string ⟨(Lib.trimB s.data.toList c).toArray⟩) ∧ (w' = w ∨ w' = w.drew) := Any.strings_Trim_one Tryz.lays160 s c hc w hs
def Tryz.lays119_ren : Go.Shelf.Ren := ⟨fun | 119 => 186 | n => n, fun | 21 => 21 | 4 => 4 | n => n, fun | n => n⟩
theorem Tryz.lays119 : Go.Proofs.Lays.n119 Tryz.prog Tryz.lays119_ren := {
 mixed := by kernel_rfl
 f119 := Tryz.func186.trans (congrArg some (by kernel_rfl))
 t4 := Tryz.underlying4
 a4 := Tryz.isAgg4
 z4 := Tryz.sizeOf4
 v4 := Tryz.zeroValue4
 t21 := Tryz.underlying21
 a21 := Tryz.isAgg21
 z21 := Tryz.sizeOf21
 v21 := Tryz.zeroValue21 }
theorem Tryz.utf8_ValidRune (r : Int) (w : World) :
  Calls Tryz.prog 186 #[.int .i32 r] w fun e w' => e = .returned (.bool (Lib.validRune r)) ∧ w' = w := Any.utf8_ValidRune Tryz.lays119 r w
def Tryz.lays125_ren : Go.Shelf.Ren := ⟨fun | 125 => 145 | 128 => 170 | 129 => 171 | n => n, fun | 46 => 170 | 3 => 3 | 51 => 218 | 53 => 35 | 4 => 4 | 5 => 5 | 9 => 9 | n => n, fun | n => n⟩
theorem Tryz.lays125 : Go.Proofs.Lays.n125 Tryz.prog Tryz.lays125_ren := {
 mixed := by kernel_rfl
 f125 := Tryz.func145.trans (congrArg some (by kernel_rfl))
 f128 := Tryz.func170.trans (congrArg some (by kernel_rfl))
 f129 := Tryz.func171.trans (congrArg some (by kernel_rfl))
 t3 := Tryz.underlying3
 a3 := Tryz.isAgg3
 z3 := Tryz.sizeOf3
 v3 := Tryz.zeroValue3
 t4 := Tryz.underlying4
 a4 := Tryz.isAgg4
 z4 := Tryz.sizeOf4
 v4 := Tryz.zeroValue4
 t5 := Tryz.underlying5
 a5 := Tryz.isAgg5
 z5 := Tryz.sizeOf5
 v5 := Tryz.zeroValue5
 t9 := Tryz.underlying9
 a9 := Tryz.isAgg9
 z9 := Tryz.sizeOf9
 v9 := Tryz.zeroValue9
 t46 := Tryz.underlying170
 a46 := Tryz.isAgg170
 z46 := Tryz.sizeOf170
 v46 := Tryz.zeroValue170
 t51 := Tryz.underlying218
 a51 := Tryz.isAgg218
 z51 := Tryz.sizeOf218
 v51 := Tryz.zeroValue218
 t53 := Tryz.underlying35
 a53 := Tryz.isAgg35
 z53 := Tryz.sizeOf35
 v53 := Tryz.zeroValue35 }
theorem Tryz.bits_Len (x : Int) (w : World) (h0 : 0 ≤ x) (h1 : x ≤ 18446744073709551615) :
  Calls Tryz.prog 145 #[.int .u64 x] w fun e w' => e = .returned (.int .i64 (Lib.bitLen x.toNat)) ∧ w' = w := Any.bits_Len Tryz.lays125 x w h0 h1
def Tryz.lays137_ren : Go.Shelf.Ren := ⟨fun | 137 => 185 | 217 => 151 | 266 => 183 | n => n, fun | 9 => 9 | 5 => 5 | 3 => 3 | n => n, fun | n => n⟩
theorem Tryz.lays137 : Go.Proofs.Lays.n137 Tryz.prog Tryz.lays137_ren := {
 mixed := by kernel_rfl
 f137 := Tryz.func185.trans (congrArg some (by kernel_rfl))
 f217 := Tryz.func151.trans (congrArg some (by kernel_rfl))
 f266 := Tryz.func183.trans (congrArg some (by kernel_rfl))
 t3 := Tryz.underlying3
 a3 := Tryz.isAgg3
 z3 := Tryz.sizeOf3
 v3 := Tryz.zeroValue3
 t5 := Tryz.underlying5
 a5 := Tryz.isAgg5
 z5 := Tryz.sizeOf5
 v5 := Tryz.zeroValue5
 t9 := Tryz.underlying9
 a9 := Tryz.isAgg9
 z9 := Tryz.sizeOf9
 v9 := Tryz.zeroValue9 }
open Go.RowKit in
theorem Tryz.strings_IndexByte (s : ByteArray) (c : Int) (w : World) :
  Calls Tryz.prog 185 #[.string s, .int .u8 c] w fun e w' => e = .returned (.int .i64 (Lib.indexByte s.data.toList c.toNat.toUInt8)) ∧ w' = w := Any.strings_IndexByte Tryz.lays137 s c w
def Tryz.lays103_ren : Go.Shelf.Ren := ⟨fun | 103 => 102 | 210 => 134 | 206 => 103 | n => n, fun | 9 => 9 | 4 => 4 | 24 => 88 | 3 => 3 | n => n, fun | n => n⟩
theorem Tryz.lays103 : Go.Proofs.Lays.n103 Tryz.prog Tryz.lays103_ren := {
 mixed := by kernel_rfl
 f103 := Tryz.func102.trans (congrArg some (by kernel_rfl))
 f206 := Tryz.func103.trans (congrArg some (by kernel_rfl))
 f210 := Tryz.func134.trans (congrArg some (by kernel_rfl))
 t3 := Tryz.underlying3
 a3 := Tryz.isAgg3
 z3 := Tryz.sizeOf3
 v3 := Tryz.zeroValue3
 t4 := Tryz.underlying4
 a4 := Tryz.isAgg4
 z4 := Tryz.sizeOf4
 v4 := Tryz.zeroValue4
 t9 := Tryz.underlying9
 a9 := Tryz.isAgg9
 z9 := Tryz.sizeOf9
 v9 := Tryz.zeroValue9
 t24 := Tryz.underlying88
 a24 := Tryz.isAgg88
 z24 := Tryz.sizeOf88
 v24 := Tryz.zeroValue88 }
open Go.RowKit in
theorem Tryz.strings_CutPrefix (s p : ByteArray) (w : World) :
  Calls Tryz.prog 102 #[.string s, .string p] w fun e w' => e = .returned (.tuple #[.string ⟨(Lib.trimPrefix s.data.toList p.data.toList).toArray⟩, .bool (Lib.hasPrefix s.data.toList p.data.toList)]) ∧ w' = w := Any.strings_CutPrefix Tryz.lays103 s p w
def Tryz.lays144_ren : Go.Shelf.Ren := ⟨fun | 144 => 70 | 143 => 99 | 219 => 133 | 217 => 151 | 225 => 152 | 224 => 153 | 267 => 154 | 266 => 183 | 314 => 184 | n => n, fun | 9 => 9 | 4 => 4 | 3 => 3 | 5 => 5 | 46 => 170 | 146 => 226 | 51 => 218 | n => n, fun | 1 => 2 | n => n⟩
theorem Tryz.lays144 : Go.Proofs.Lays.n144 Tryz.prog Tryz.lays144_ren := {
 mixed := by kernel_rfl
 f143 := Tryz.func99.trans (congrArg some (by kernel_rfl))
 f144 := Tryz.func70.trans (congrArg some (by kernel_rfl))
 f217 := Tryz.func151.trans (congrArg some (by kernel_rfl))
 f219 := Tryz.func133.trans (congrArg some (by kernel_rfl))
 f224 := Tryz.func153.trans (congrArg some (by kernel_rfl))
 f225 := Tryz.func152.trans (congrArg some (by kernel_rfl))
 f266 := Tryz.func183.trans (congrArg some (by kernel_rfl))
 f267 := Tryz.func154.trans (congrArg some (by kernel_rfl))
 f314 := Tryz.func184.trans (congrArg some (by kernel_rfl))
 t3 := Tryz.underlying3
 a3 := Tryz.isAgg3
 z3 := Tryz.sizeOf3
 v3 := Tryz.zeroValue3
 t4 := Tryz.underlying4
 a4 := Tryz.isAgg4
 z4 := Tryz.sizeOf4
 v4 := Tryz.zeroValue4
 t5 := Tryz.underlying5
 a5 := Tryz.isAgg5
 z5 := Tryz.sizeOf5
 v5 := Tryz.zeroValue5
 t9 := Tryz.underlying9
 a9 := Tryz.isAgg9
 z9 := Tryz.sizeOf9
 v9 := Tryz.zeroValue9
 t46 := Tryz.underlying170
 a46 := Tryz.isAgg170
 z46 := Tryz.sizeOf170
 v46 := Tryz.zeroValue170
 t51 := Tryz.underlying218
 a51 := Tryz.isAgg218
 z51 := Tryz.sizeOf218
 v51 := Tryz.zeroValue218
 t146 := Tryz.underlying226
 a146 := Tryz.isAgg226
 z146 := Tryz.sizeOf226
 v146 := Tryz.zeroValue226
 g1 := by kernel_rfl }
open Go.RowKit Go.Lib in
theorem Tryz.strings_Contains (s sub : ByteArray) (m : Int) (w : World) (hs : s.size < 4294967281) (hm : w.cell? ⟨2, 0, none⟩ = some (.int .i64 m)) :
  Calls Tryz.prog 70 #[.string s, .string sub] w fun e w' => e = .returned (.bool (Lib.contains s.data.toList sub.data.toList)) ∧ w' = w := Any.strings_Contains Tryz.lays144 s sub m w hs hm
def Tryz.lays189_ren : Go.Shelf.Ren := ⟨fun | 189 => 131 | 125 => 145 | 257 => 150 | 128 => 170 | 129 => 171 | 294 => 174 | 295 => 175 | 296 => 176 | 297 => 177 | 298 => 178 | 299 => 179 | 216 => 180 | 300 => 181 | 301 => 182 | 328 => 198 | 329 => 191 | 330 => 192 | 331 => 199 | 332 => 200 | 215 => 201 | 343 => 208 | n => n, fun | 28 => 104 | 3 => 3 | 46 => 170 | 0 => 0 | 51 => 218 | 53 => 35 | 4 => 4 | 183 => 211 | 182 => 210 | 131 => 215 | 5 => 5 | 9 => 9 | 218 => 230 | 222 => 234 | 228 => 239 | 229 => 240 | n => n, fun | n => n⟩
theorem Tryz.lays189 : Go.Proofs.Lays.n189 Tryz.prog Tryz.lays189_ren := {
 mixed := by kernel_rfl
 f125 := Tryz.func145.trans (congrArg some (by kernel_rfl))
 f128 := Tryz.func170.trans (congrArg some (by kernel_rfl))
 f129 := Tryz.func171.trans (congrArg some (by kernel_rfl))
 f189 := Tryz.func131.trans (congrArg some (by kernel_rfl))
 f215 := Tryz.func201.trans (congrArg some (by kernel_rfl))
 f216 := Tryz.func180.trans (congrArg some (by kernel_rfl))
 f257 := Tryz.func150.trans (congrArg some (by kernel_rfl))
 f294 := Tryz.func174.trans (congrArg some (by kernel_rfl))
 f295 := Tryz.func175.trans (congrArg some (by kernel_rfl))
 f296 := Tryz.func176.trans (congrArg some (by kernel_rfl))
 f297 := Tryz.func177.trans (congrArg some (by kernel_rfl))
 f298 := Tryz.func178.trans (congrArg some (by kernel_rfl))
 f299 := Tryz.func179.trans (congrArg some (by kernel_rfl))
 f300 := Tryz.func181.trans (congrArg some (by kernel_rfl))
 f301 := Tryz.func182.trans (congrArg some (by kernel_rfl))
 f328 := Tryz.func198.trans (congrArg some (by kernel_rfl))
 f329 := Tryz.func191.trans (congrArg some (by kernel_rfl))
 f330 := Tryz.func192.trans (congrArg some (by kernel_rfl))
 f331 := Tryz.func199.trans (congrArg some (by kernel_rfl))
 f332 := Tryz.func200.trans (congrArg some (by kernel_rfl))
 f343 := Tryz.func208.trans (congrArg some (by kernel_rfl))
 t0 := Tryz.underlying0
 a0 := Tryz.isAgg0
 z0 := Tryz.sizeOf0
 v0 := Tryz.zeroValue0
 t3 := Tryz.underlying3
 a3 := Tryz.isAgg3
 z3 := Tryz.sizeOf3
 v3 := Tryz.zeroValue3
 t4 := Tryz.underlying4
 a4 := Tryz.isAgg4
 z4 := Tryz.sizeOf4
 v4 := Tryz.zeroValue4
 t5 := Tryz.underlying5
 a5 := Tryz.isAgg5
 z5 := Tryz.sizeOf5
 v5 := Tryz.zeroValue5
 t9 := Tryz.underlying9
 a9 := Tryz.isAgg9
 z9 := Tryz.sizeOf9
 v9 := Tryz.zeroValue9
 t28 := Tryz.underlying104
 a28 := Tryz.isAgg104
 z28 := Tryz.sizeOf104
 v28 := Tryz.zeroValue104
 t46 := Tryz.underlying170
 a46 := Tryz.isAgg170
 z46 := Tryz.sizeOf170
 v46 := Tryz.zeroValue170
 t51 := Tryz.underlying218
 a51 := Tryz.isAgg218
 z51 := Tryz.sizeOf218
 v51 := Tryz.zeroValue218
 t53 := Tryz.underlying35
 a53 := Tryz.isAgg35
 z53 := Tryz.sizeOf35
 v53 := Tryz.zeroValue35
 t131 := Tryz.underlying215
 a131 := Tryz.isAgg215
 z131 := Tryz.sizeOf215
 v131 := Tryz.zeroValue215
 t182 := Tryz.underlying210
 a182 := Tryz.isAgg210
 z182 := Tryz.sizeOf210
 v182 := Tryz.zeroValue210
 t183 := Tryz.underlying211
 a183 := Tryz.isAgg211
 z183 := Tryz.sizeOf211
 v183 := Tryz.zeroValue211
 t218 := Tryz.underlying230
 a218 := Tryz.isAgg230
 z218 := Tryz.sizeOf230
 v218 := Tryz.zeroValue230
 t222 := Tryz.underlying234
 a222 := Tryz.isAgg234
 z222 := Tryz.sizeOf234
 v222 := Tryz.zeroValue234
 t228 := Tryz.underlying239
 a228 := Tryz.isAgg239
 z228 := Tryz.sizeOf239
 v228 := Tryz.zeroValue239
 t229 := Tryz.underlying240
 a229 := Tryz.isAgg240
 z229 := Tryz.sizeOf240
 v229 := Tryz.zeroValue240 }
open Go.Sort Go.RowKit in
theorem Tryz.slices_Sort_int (blk off cap : Nat) (zs : List Int) (w : World) (hH : Holds (Value.int .i64) w blk off zs.toArray) (hblk : blk < w.heap.size) (hsz : zs.length < 4611686018427387904) :
  Calls Tryz.prog 131 #[.slice (some ⟨blk, off, none⟩) zs.length cap] w fun e w' =>
   e = .returned (.tuple #[]) ∧ ∃ n os, w' = grow (putRow (Value.int .i64) (Sort.ahead w n) blk off (zs.mergeSort fun x y => decide (x ≤ y)).toArray) os := Any.slices_Sort_int Tryz.lays189 blk off cap zs w hH hblk hsz
def Tryz.lays99_ren : Go.Shelf.Ren := ⟨fun | 99 => 76 | 206 => 103 | n => n, fun | 9 => 9 | 4 => 4 | 3 => 3 | n => n, fun | n => n⟩
theorem Tryz.lays99 : Go.Proofs.Lays.n99 Tryz.prog Tryz.lays99_ren := {
 mixed := by kernel_rfl
 f99 := Tryz.func76.trans (congrArg some (by kernel_rfl))
 f206 := Tryz.func103.trans (congrArg some (by kernel_rfl))
 t3 := Tryz.underlying3
 a3 := Tryz.isAgg3
 z3 := Tryz.sizeOf3
 v3 := Tryz.zeroValue3
 t4 := Tryz.underlying4
 a4 := Tryz.isAgg4
 z4 := Tryz.sizeOf4
 v4 := Tryz.zeroValue4
 t9 := Tryz.underlying9
 a9 := Tryz.isAgg9
 z9 := Tryz.sizeOf9
 v9 := Tryz.zeroValue9 }
open Go.RowKit Go.Lib in
theorem Tryz.strings_HasPrefix (s p : ByteArray) (w : World) :
  Calls Tryz.prog 76 #[.string s, .string p] w fun e w' => e = .returned (.bool (Lib.hasPrefix s.data.toList p.data.toList)) ∧ w' = w := Any.strings_HasPrefix Tryz.lays99 s p w
def Tryz.lays151_ren : Go.Shelf.Ren := ⟨fun | 151 => 137 | 152 => 156 | 137 => 185 | 119 => 186 | 224 => 153 | 225 => 152 | 217 => 151 | 266 => 183 | n => n, fun | 9 => 9 | 21 => 21 | 4 => 4 | 3 => 3 | 5 => 5 | 0 => 0 | 46 => 170 | n => n, fun | n => n⟩
theorem Tryz.lays151 : Go.Proofs.Lays.n151 Tryz.prog Tryz.lays151_ren := {
 mixed := by kernel_rfl
 f119 := Tryz.func186.trans (congrArg some (by kernel_rfl))
 f137 := Tryz.func185.trans (congrArg some (by kernel_rfl))
 f151 := Tryz.func137.trans (congrArg some (by kernel_rfl))
 f152 := Tryz.func156.trans (congrArg some (by kernel_rfl))
 f217 := Tryz.func151.trans (congrArg some (by kernel_rfl))
 f224 := Tryz.func153.trans (congrArg some (by kernel_rfl))
 f225 := Tryz.func152.trans (congrArg some (by kernel_rfl))
 f266 := Tryz.func183.trans (congrArg some (by kernel_rfl))
 t0 := Tryz.underlying0
 a0 := Tryz.isAgg0
 z0 := Tryz.sizeOf0
 v0 := Tryz.zeroValue0
 t3 := Tryz.underlying3
 a3 := Tryz.isAgg3
 z3 := Tryz.sizeOf3
 v3 := Tryz.zeroValue3
 t4 := Tryz.underlying4
 a4 := Tryz.isAgg4
 z4 := Tryz.sizeOf4
 v4 := Tryz.zeroValue4
 t5 := Tryz.underlying5
 a5 := Tryz.isAgg5
 z5 := Tryz.sizeOf5
 v5 := Tryz.zeroValue5
 t9 := Tryz.underlying9
 a9 := Tryz.isAgg9
 z9 := Tryz.sizeOf9
 v9 := Tryz.zeroValue9
 t21 := Tryz.underlying21
 a21 := Tryz.isAgg21
 z21 := Tryz.sizeOf21
 v21 := Tryz.zeroValue21
 t46 := Tryz.underlying170
 a46 := Tryz.isAgg170
 z46 := Tryz.sizeOf170
 v46 := Tryz.zeroValue170 }
open Go.RowKit Go.Lib in
theorem Tryz.strings_ContainsRune_ascii (s : ByteArray) (r : Int) (w : World) (h0 : 0 ≤ r) (h1 : r < 128) :
  Calls Tryz.prog 137 #[.string s, .int .i32 r] w fun e w' => e = .returned (.bool (decide (0 ≤ Lib.indexByte s.data.toList r.toNat.toUInt8))) ∧ w' = w := Any.strings_ContainsRune_ascii Tryz.lays151 s r w h0 h1
def Tryz.laysNm215_ren : Go.Shelf.Ren := ⟨fun | 15 => 130 | n => n, fun | 22 => 104 | 3 => 3 | 4 => 4 | n => n, fun | n => n⟩
theorem Tryz.laysNm215 : Go.Proofs.Lays2.n15 Tryz.prog Tryz.laysNm215_ren := {
 mixed := by kernel_rfl
 f15 := Tryz.func130.trans (congrArg some (by kernel_rfl))
 t3 := Tryz.underlying3
 a3 := Tryz.isAgg3
 z3 := Tryz.sizeOf3
 v3 := Tryz.zeroValue3
 t4 := Tryz.underlying4
 a4 := Tryz.isAgg4
 z4 := Tryz.sizeOf4
 v4 := Tryz.zeroValue4
 t22 := Tryz.underlying104
 a22 := Tryz.isAgg104
 z22 := Tryz.sizeOf104
 v22 := Tryz.zeroValue104
 i3 := by kernel_rfl }
open Go.RowKit Go.Lib in
theorem Tryz.slices_Clone_int (b off n c : Nat) (zs : List Int) (w : World) (hz : n ≤ zs.length) (hbig : n * 8 ≤ 140737488355328) (hc : ∀ j, j < zs.length → w.cell? ⟨b, off + j, none⟩ = some (.int .i64 (zs.getD j 0))) :
  Calls Tryz.prog 130 #[.slice (some ⟨b, off, none⟩) n c] w fun e w' => ∃ v', e = .returned v' ∧ w'.ownsRow w.heap.size 3 1 v' n ((zs.take n).map (Value.int .i64)) ∧ v' ≠ .slice none 0 0 ∧ Below w.heap.size w w' := Any.slices_Clone_int Tryz.laysNm215 b off n c zs w hz hbig hc
open Go.RowKit Go.Lib in
theorem Tryz.slices_Clone_int_nil (n c : Nat) (w : World) :
  Calls Tryz.prog 130 #[.slice none n c] w fun e w' => e = .returned (.slice none 0 0) ∧ w' = w := Any.slices_Clone_int_nil Tryz.laysNm215 n c w
open Go.RowKit Go.Sort in
theorem Tryz.slices_Sort_int_none (p : Option Addr) (cap : Nat) (w : World) :
  Calls Tryz.prog 131 #[.slice p 0 cap] w fun e w' => e = .returned (.tuple #[]) ∧ w' = w := Any.slices_Sort_int_none Tryz.lays189 p cap w
def Tryz.lays196_ren : Go.Shelf.Ren := ⟨fun | 196 => 72 | 259 => 100 | n => n, fun | 9 => 9 | 4 => 4 | 3 => 3 | 5 => 5 | 12 => 12 | 119 => 166 | 0 => 0 | 46 => 170 | 139 => 169 | 138 => 168 | 53 => 35 | n => n, fun | 3 => 0 | 4 => 1 | n => n⟩
theorem Tryz.lays196 : Go.Proofs.Lays.n196 Tryz.prog Tryz.lays196_ren := {
 mixed := by kernel_rfl
 f196 := Tryz.func72.trans (congrArg some (by kernel_rfl))
 f259 := Tryz.func100.trans (congrArg some (by kernel_rfl))
 t0 := Tryz.underlying0
 a0 := Tryz.isAgg0
 z0 := Tryz.sizeOf0
 v0 := Tryz.zeroValue0
 t3 := Tryz.underlying3
 a3 := Tryz.isAgg3
 z3 := Tryz.sizeOf3
 v3 := Tryz.zeroValue3
 t4 := Tryz.underlying4
 a4 := Tryz.isAgg4
 z4 := Tryz.sizeOf4
 v4 := Tryz.zeroValue4
 t5 := Tryz.underlying5
 a5 := Tryz.isAgg5
 z5 := Tryz.sizeOf5
 v5 := Tryz.zeroValue5
 t9 := Tryz.underlying9
 a9 := Tryz.isAgg9
 z9 := Tryz.sizeOf9
 v9 := Tryz.zeroValue9
 t12 := Tryz.underlying12
 a12 := Tryz.isAgg12
 z12 := Tryz.sizeOf12
 v12 := Tryz.zeroValue12
 t46 := Tryz.underlying170
 a46 := Tryz.isAgg170
 z46 := Tryz.sizeOf170
 v46 := Tryz.zeroValue170
 t53 := Tryz.underlying35
 a53 := Tryz.isAgg35
 z53 := Tryz.sizeOf35
 v53 := Tryz.zeroValue35
 t119 := Tryz.underlying166
 a119 := Tryz.isAgg166
 z119 := Tryz.sizeOf166
 t138 := Tryz.underlying168
 a138 := Tryz.isAgg168
 z138 := Tryz.sizeOf168
 v138 := Tryz.zeroValue168
 t139 := Tryz.underlying169
 a139 := Tryz.isAgg169
 z139 := Tryz.sizeOf169
 v139 := Tryz.zeroValue169
 g3 := by kernel_rfl
 g4 := by kernel_rfl }
def Tryz.eSortF_ren : Go.Shelf.Ren := ⟨fun | 6 => 209 | 15 => 145 | 14 => 211 | 28 => 170 | 29 => 171 | 20 => 212 | 21 => 213 | 22 => 214 | 23 => 215 | 24 => 216 | 25 => 217 | 26 => 218 | 27 => 219 | 46 => 220 | 47 => 191 | 48 => 192 | 49 => 221 | 50 => 222 | 57 => 223 | n => n, fun | 22 => 244 | 24 => 245 | 25 => 247 | 3 => 3 | 39 => 170 | 0 => 0 | 53 => 218 | 55 => 35 | 4 => 4 | 46 => 211 | 45 => 210 | 50 => 215 | 5 => 5 | 9 => 9 | 66 => 230 | 70 => 234 | 76 => 239 | 77 => 240 | n => n, fun | n => n⟩
theorem Tryz.eSortF : Go.Proofs.SlLaysF0.n6 Tryz.prog Tryz.eSortF_ren := {
 mixed := by kernel_rfl
 f6 := ⟨Tryz.f209.name, by decide, Tryz.func209.trans (congrArg some (by kernel_rfl))⟩
 f14 := ⟨Tryz.f211.name, by decide, Tryz.func211.trans (congrArg some (by kernel_rfl))⟩
 f15 := Tryz.func145.trans (congrArg some (by kernel_rfl))
 f20 := ⟨Tryz.f212.name, by decide, Tryz.func212.trans (congrArg some (by kernel_rfl))⟩
 f21 := ⟨Tryz.f213.name, by decide, Tryz.func213.trans (congrArg some (by kernel_rfl))⟩
 f22 := ⟨Tryz.f214.name, by decide, Tryz.func214.trans (congrArg some (by kernel_rfl))⟩
 f23 := ⟨Tryz.f215.name, by decide, Tryz.func215.trans (congrArg some (by kernel_rfl))⟩
 f24 := ⟨Tryz.f216.name, by decide, Tryz.func216.trans (congrArg some (by kernel_rfl))⟩
 f25 := ⟨Tryz.f217.name, by decide, Tryz.func217.trans (congrArg some (by kernel_rfl))⟩
 f26 := ⟨Tryz.f218.name, by decide, Tryz.func218.trans (congrArg some (by kernel_rfl))⟩
 f27 := ⟨Tryz.f219.name, by decide, Tryz.func219.trans (congrArg some (by kernel_rfl))⟩
 f28 := Tryz.func170.trans (congrArg some (by kernel_rfl))
 f29 := Tryz.func171.trans (congrArg some (by kernel_rfl))
 f46 := ⟨Tryz.f220.name, by decide, Tryz.func220.trans (congrArg some (by kernel_rfl))⟩
 f47 := Tryz.func191.trans (congrArg some (by kernel_rfl))
 f48 := Tryz.func192.trans (congrArg some (by kernel_rfl))
 f49 := ⟨Tryz.f221.name, by decide, Tryz.func221.trans (congrArg some (by kernel_rfl))⟩
 f50 := ⟨Tryz.f222.name, by decide, Tryz.func222.trans (congrArg some (by kernel_rfl))⟩
 f57 := ⟨Tryz.f223.name, by decide, Tryz.func223.trans (congrArg some (by kernel_rfl))⟩
 t0 := Tryz.underlying0
 a0 := Tryz.isAgg0
 z0 := Tryz.sizeOf0
 v0 := Tryz.zeroValue0
 t3 := Tryz.underlying3
 a3 := Tryz.isAgg3
 z3 := Tryz.sizeOf3
 v3 := Tryz.zeroValue3
 t4 := Tryz.underlying4
 a4 := Tryz.isAgg4
 z4 := Tryz.sizeOf4
 v4 := Tryz.zeroValue4
 t5 := Tryz.underlying5
 a5 := Tryz.isAgg5
 z5 := Tryz.sizeOf5
 v5 := Tryz.zeroValue5
 t9 := Tryz.underlying9
 a9 := Tryz.isAgg9
 z9 := Tryz.sizeOf9
 v9 := Tryz.zeroValue9
 t22 := Tryz.underlying244
 a22 := Tryz.isAgg244
 z22 := Tryz.sizeOf244
 v22 := Tryz.zeroValue244
 t25 := Tryz.underlying247
 a25 := Tryz.isAgg247
 z25 := Tryz.sizeOf247
 v25 := Tryz.zeroValue247
 t39 := Tryz.underlying170
 a39 := Tryz.isAgg170
 z39 := Tryz.sizeOf170
 v39 := Tryz.zeroValue170
 t45 := Tryz.underlying210
 a45 := Tryz.isAgg210
 z45 := Tryz.sizeOf210
 v45 := Tryz.zeroValue210
 t46 := Tryz.underlying211
 a46 := Tryz.isAgg211
 z46 := Tryz.sizeOf211
 v46 := Tryz.zeroValue211
 t50 := Tryz.underlying215
 a50 := Tryz.isAgg215
 z50 := Tryz.sizeOf215
 v50 := Tryz.zeroValue215
 t53 := Tryz.underlying218
 a53 := Tryz.isAgg218
 z53 := Tryz.sizeOf218
 v53 := Tryz.zeroValue218
 t55 := Tryz.underlying35
 a55 := Tryz.isAgg35
 z55 := Tryz.sizeOf35
 v55 := Tryz.zeroValue35
 t66 := Tryz.underlying230
 a66 := Tryz.isAgg230
 z66 := Tryz.sizeOf230
 v66 := Tryz.zeroValue230
 t70 := Tryz.underlying234
 a70 := Tryz.isAgg234
 z70 := Tryz.sizeOf234
 v70 := Tryz.zeroValue234
 t76 := Tryz.underlying239
 a76 := Tryz.isAgg239
 z76 := Tryz.sizeOf239
 v76 := Tryz.zeroValue239
 t77 := Tryz.underlying240
 a77 := Tryz.isAgg240
 z77 := Tryz.sizeOf240
 v77 := Tryz.zeroValue240 }
end Go.Proofs
namespace Go.Proofs
open Go.Shelf
def Tryz.lays156_ren : Go.Shelf.Ren := ⟨fun | 156 => 58 | 165 => 84 | 166 => 85 | 169 => 86 | 240 => 115 | 241 => 116 | 276 => 142 | 277 => 143 | n => n, fun | 31 => 99 | 9 => 9 | 3 => 3 | 4 => 4 | 0 => 0 | 20 => 20 | 72 => 137 | 76 => 141 | 70 => 135 | 37 => 52 | 75 => 140 | 127 => 184 | 164 => 198 | 5 => 5 | 80 => 123 | n => n, fun | n => n⟩
theorem Tryz.lays156 : Go.Proofs.Lays.n156 Tryz.prog Tryz.lays156_ren := {
 mixed := by kernel_rfl
 f156 := Tryz.func58.trans (congrArg some (by kernel_rfl))
 f165 := Tryz.func84.trans (congrArg some (by kernel_rfl))
 f166 := Tryz.func85.trans (congrArg some (by kernel_rfl))
 f169 := Tryz.func86.trans (congrArg some (by kernel_rfl))
 f240 := Tryz.func115.trans (congrArg some (by kernel_rfl))
 f241 := Tryz.func116.trans (congrArg some (by kernel_rfl))
 f276 := Tryz.func142.trans (congrArg some (by kernel_rfl))
 f277 := Tryz.func143.trans (congrArg some (by kernel_rfl))
 t0 := Tryz.underlying0
 a0 := Tryz.isAgg0
 z0 := Tryz.sizeOf0
 v0 := Tryz.zeroValue0
 t3 := Tryz.underlying3
 a3 := Tryz.isAgg3
 z3 := Tryz.sizeOf3
 v3 := Tryz.zeroValue3
 t4 := Tryz.underlying4
 a4 := Tryz.isAgg4
 z4 := Tryz.sizeOf4
 v4 := Tryz.zeroValue4
 t9 := Tryz.underlying9
 a9 := Tryz.isAgg9
 z9 := Tryz.sizeOf9
 v9 := Tryz.zeroValue9
 t20 := Tryz.underlying20
 a20 := Tryz.isAgg20
 z20 := Tryz.sizeOf20
 v20 := Tryz.zeroValue20
 t31 := Tryz.underlying99
 a31 := Tryz.isAgg99
 z31 := Tryz.sizeOf99
 v31 := Tryz.zeroValue99
 t37 := Tryz.underlying52
 a37 := Tryz.isAgg52
 z37 := Tryz.sizeOf52
 v37 := Tryz.zeroValue52
 t70 := Tryz.underlying135
 a70 := Tryz.isAgg135
 z70 := Tryz.sizeOf135
 v70 := Tryz.zeroValue135
 t72 := Tryz.underlying137
 a72 := Tryz.isAgg137
 z72 := Tryz.sizeOf137
 v72 := Tryz.zeroValue137
 t75 := Tryz.underlying140
 a75 := Tryz.isAgg140
 z75 := Tryz.sizeOf140
 v75 := Tryz.zeroValue140
 t76 := Tryz.underlying141
 a76 := Tryz.isAgg141
 z76 := Tryz.sizeOf141
 v76 := Tryz.zeroValue141
 t127 := Tryz.underlying184
 a127 := Tryz.isAgg184
 z127 := Tryz.sizeOf184
 v127 := Tryz.zeroValue184
 t164 := Tryz.underlying198
 a164 := Tryz.isAgg198
 z164 := Tryz.sizeOf198
 v164 := Tryz.zeroValue198 }
theorem Tryz.Builder_Extra_156 : Builder.Extra Tryz.prog Tryz.lays156_ren := {
 sizeBuilder := by kernel_rfl
 liesBuilder := by kernel_rfl
 t5 := Tryz.underlying5
 a5 := Tryz.isAgg5
 z5 := Tryz.sizeOf5
 v5 := Tryz.zeroValue5
 infoByte := by kernel_rfl
 cellsByte := by kernel_rfl
 sizeByte := by kernel_rfl
 neB5 := by decide }
open Go.RowKit in
theorem Tryz.strings_Join_none (a : Option Addr) (c : Nat) (sep : ByteArray) (w : World) :
  Calls Tryz.prog 58 #[.slice a 0 c, .string sep] w fun e w' => e = .returned (.string ⟨#[]⟩) ∧ w' = w := Any.strings_Join_none Tryz.lays156 Tryz.Builder_Extra_156 a c sep w
open Go.RowKit in
theorem Tryz.strings_Join (bk o c : Nat) (xs : List ByteArray) (sep : ByteArray) (w : World) (hcells : ∀ (j : Nat) x, xs[j]? = some x → w.cell? ⟨bk, o + j, none⟩ = some (.string x)) (hbk : bk < w.heap.size) (hN : xs.length ≤ 140737488355328) (hcap : xs.length ≤ c) (hlen : (Lib.join (xs.map (·.data.toList)) sep.data.toList).length ≤ 140737488355328) :
  Calls Tryz.prog 58 #[.slice (some ⟨bk, o, none⟩) xs.length c, .string sep] w fun e w' => e = .returned (.string ⟨(Lib.join (xs.map (·.data.toList)) sep.data.toList).toArray⟩) ∧ Below w.heap.size w w' := Any.strings_Join Tryz.lays156 Tryz.Builder_Extra_156 bk o c xs sep w hcells hbk hN hcap hlen
def Tryz.lays155_ren : Go.Shelf.Ren := ⟨fun | 155 => 83 | 154 => 114 | 138 => 141 | 165 => 84 | 143 => 99 | 166 => 85 | 197 => 136 | 169 => 86 | 195 => 160 | 218 => 161 | 240 => 115 | 241 => 116 | 219 => 133 | 260 => 155 | 276 => 142 | 277 => 143 | 217 => 151 | 225 => 152 | 224 => 153 | 267 => 154 | 266 => 183 | 314 => 184 | n => n, fun | 9 => 9 | 3 => 3 | 4 => 4 | 72 => 137 | 0 => 0 | 76 => 141 | 105 => 126 | 21 => 21 | 5 => 5 | 70 => 135 | 20 => 20 | 37 => 52 | 75 => 140 | 127 => 184 | 164 => 198 | 46 => 170 | 119 => 166 | 139 => 169 | 138 => 168 | 146 => 226 | 51 => 218 | 80 => 123 | n => n, fun | 1 => 2 | 3 => 0 | 4 => 1 | n => n⟩
theorem Tryz.lays155 : Go.Proofs.Lays.n155 Tryz.prog Tryz.lays155_ren := {
 mixed := by kernel_rfl
 f138 := Tryz.func141.trans (congrArg some (by kernel_rfl))
 f143 := Tryz.func99.trans (congrArg some (by kernel_rfl))
 f154 := Tryz.func114.trans (congrArg some (by kernel_rfl))
 f155 := Tryz.func83.trans (congrArg some (by kernel_rfl))
 f165 := Tryz.func84.trans (congrArg some (by kernel_rfl))
 f166 := Tryz.func85.trans (congrArg some (by kernel_rfl))
 f169 := Tryz.func86.trans (congrArg some (by kernel_rfl))
 f195 := Tryz.func160.trans (congrArg some (by kernel_rfl))
 f197 := Tryz.func136.trans (congrArg some (by kernel_rfl))
 f217 := Tryz.func151.trans (congrArg some (by kernel_rfl))
 f218 := Tryz.func161.trans (congrArg some (by kernel_rfl))
 f219 := Tryz.func133.trans (congrArg some (by kernel_rfl))
 f224 := Tryz.func153.trans (congrArg some (by kernel_rfl))
 f225 := Tryz.func152.trans (congrArg some (by kernel_rfl))
 f240 := Tryz.func115.trans (congrArg some (by kernel_rfl))
 f241 := Tryz.func116.trans (congrArg some (by kernel_rfl))
 f260 := Tryz.func155.trans (congrArg some (by kernel_rfl))
 f266 := Tryz.func183.trans (congrArg some (by kernel_rfl))
 f267 := Tryz.func154.trans (congrArg some (by kernel_rfl))
 f276 := Tryz.func142.trans (congrArg some (by kernel_rfl))
 f277 := Tryz.func143.trans (congrArg some (by kernel_rfl))
 f314 := Tryz.func184.trans (congrArg some (by kernel_rfl))
 t0 := Tryz.underlying0
 a0 := Tryz.isAgg0
 z0 := Tryz.sizeOf0
 v0 := Tryz.zeroValue0
 t3 := Tryz.underlying3
 a3 := Tryz.isAgg3
 z3 := Tryz.sizeOf3
 v3 := Tryz.zeroValue3
 t4 := Tryz.underlying4
 a4 := Tryz.isAgg4
 z4 := Tryz.sizeOf4
 v4 := Tryz.zeroValue4
 t5 := Tryz.underlying5
 a5 := Tryz.isAgg5
 z5 := Tryz.sizeOf5
 v5 := Tryz.zeroValue5
 t9 := Tryz.underlying9
 a9 := Tryz.isAgg9
 z9 := Tryz.sizeOf9
 v9 := Tryz.zeroValue9
 t20 := Tryz.underlying20
 a20 := Tryz.isAgg20
 z20 := Tryz.sizeOf20
 v20 := Tryz.zeroValue20
 t21 := Tryz.underlying21
 a21 := Tryz.isAgg21
 z21 := Tryz.sizeOf21
 v21 := Tryz.zeroValue21
 t37 := Tryz.underlying52
 a37 := Tryz.isAgg52
 z37 := Tryz.sizeOf52
 v37 := Tryz.zeroValue52
 t46 := Tryz.underlying170
 a46 := Tryz.isAgg170
 z46 := Tryz.sizeOf170
 v46 := Tryz.zeroValue170
 t51 := Tryz.underlying218
 a51 := Tryz.isAgg218
 z51 := Tryz.sizeOf218
 v51 := Tryz.zeroValue218
 t70 := Tryz.underlying135
 a70 := Tryz.isAgg135
 z70 := Tryz.sizeOf135
 v70 := Tryz.zeroValue135
 t72 := Tryz.underlying137
 a72 := Tryz.isAgg137
 z72 := Tryz.sizeOf137
 v72 := Tryz.zeroValue137
 t75 := Tryz.underlying140
 a75 := Tryz.isAgg140
 z75 := Tryz.sizeOf140
 v75 := Tryz.zeroValue140
 t76 := Tryz.underlying141
 a76 := Tryz.isAgg141
 z76 := Tryz.sizeOf141
 v76 := Tryz.zeroValue141
 t105 := Tryz.underlying126
 a105 := Tryz.isAgg126
 z105 := Tryz.sizeOf126
 v105 := Tryz.zeroValue126
 t119 := Tryz.underlying166
 a119 := Tryz.isAgg166
 z119 := Tryz.sizeOf166
 t127 := Tryz.underlying184
 a127 := Tryz.isAgg184
 z127 := Tryz.sizeOf184
 v127 := Tryz.zeroValue184
 t138 := Tryz.underlying168
 a138 := Tryz.isAgg168
 z138 := Tryz.sizeOf168
 v138 := Tryz.zeroValue168
 t139 := Tryz.underlying169
 a139 := Tryz.isAgg169
 z139 := Tryz.sizeOf169
 v139 := Tryz.zeroValue169
 t146 := Tryz.underlying226
 a146 := Tryz.isAgg226
 z146 := Tryz.sizeOf226
 v146 := Tryz.zeroValue226
 t164 := Tryz.underlying198
 a164 := Tryz.isAgg198
 z164 := Tryz.sizeOf198
 v164 := Tryz.zeroValue198
 g1 := by kernel_rfl
 g3 := by kernel_rfl
 g4 := by kernel_rfl }
theorem Tryz.Builder_Extra_155 : Builder.Extra Tryz.prog Tryz.lays155_ren := {
 sizeBuilder := by kernel_rfl
 liesBuilder := by kernel_rfl
 t5 := Tryz.underlying5
 a5 := Tryz.isAgg5
 z5 := Tryz.sizeOf5
 v5 := Tryz.zeroValue5
 infoByte := by kernel_rfl
 cellsByte := by kernel_rfl
 sizeByte := by kernel_rfl
 neB5 := by decide }
open Go.RowKit Go.Lib in
theorem Tryz.strings_ReplaceAll (s old new : ByteArray) (m : Int) (w : World) (hs : s.size < 4294967281) (hm : w.cell? ⟨2, 0, none⟩ = some (.int .i64 m)) (h1 : 1 ≤ old.size) (hlen : s.size + Lib.countB s old * new.size ≤ 140737488355328) :
  Calls Tryz.prog 83 #[.string s, .string old, .string new] w fun e w' =>
   e = .returned (.string ⟨(Lib.replaceAll s.data.toList old.data.toList new.data.toList).toArray⟩) ∧ Below w.heap.size w w' := Any.strings_ReplaceAll Tryz.lays155 Tryz.Builder_Extra_155 s old new m w hs hm h1 hlen
end Go.Proofs
