/-
  Part 3 of what the claim leans on: contracts of the functions that the law reaches, and plain facts of what they compute (joined by wip/merge.py out of the texts named behind each mark). Conditions: the theorems' own.
-/
import Derived.Shelf.Unicode.ValidAny
import Derived.Shelf.Spec.TrailingZeros
import Derived.Shelf.Strings.Builder1
import Derived.Shelf.Strings.Builder2
import Derived.Shelf.Strings.Trim
import Derived.Shelf.Small.Utf8
import Derived.Shelf.Small.Bits
import Derived.Shelf.Small.Strs
import Derived.Shelf.Strings.BuilderF
import Derived.Shelf.Strings.BuilderK
import Derived.Shelf.Strings.Builder2Cap
import Derived.Shelf.Strconv.Atoi
import Derived.Shelf.Strconv.Itoa0
import Derived.Shelf.Strconv.Itoa1
import Derived.Shelf.LaysM
import Derived.Shelf.Strconv.Itoa2
import Derived.Shelf.Strconv.Itoa3
import Derived.Shelf.Strconv.AtoiErrFast
import Derived.Shelf.Strconv.ParseIntEmpty
import Derived.Shelf.Strconv.AtoiFail
import Derived.Shelf.Strconv.Clone
import Derived.Shelf.Strconv.SyntaxError
import Derived.Shelf.LaysC
import Derived.Shelf.Strconv.ToError
import Derived.Shelf.Strconv.AtoiErr
import Derived.Shelf.Strconv.ErrVar
import Derived.Shelf.Strconv.Lower
import Derived.Shelf.Strconv.ParseUint10
import Derived.Shelf.Strconv.ParseUint10Empty
import Derived.Shelf.Strconv.ParseUint10Any
import Derived.Shelf.Strconv.ParseInt10
import Derived.Shelf.Strconv.AtoiLong
import Derived.Shelf.Strconv.AtoiInnerAll
import Derived.Shelf.Strconv.RangeError
import Derived.Shelf.Strconv.ToErrorRange
import Derived.Shelf.Strconv.AtoiAll
import Derived.Shelf.Strconv.ErrVarAll
import Derived.Shelf.Strconv.ParseUintEmpty
import Derived.Shelf.Strconv.ParseUint10b64
import Derived.Shelf.Strconv.ParseUint10b32
import Derived.Shelf.Strconv.ParseUint10b16
import Derived.Shelf.Strconv.ParseUint10b8
import Derived.Shelf.Strconv.ParseUint10At
import Derived.Shelf.Strconv.ParseInt10At64
import Derived.Shelf.Strconv.ParseInt10At32
import Derived.Shelf.Strconv.ParseInt10At16
import Derived.Shelf.Strconv.ParseInt10At8
import Derived.Shelf.Strconv.ParseInt10All
import Derived.Ground.MpProg
import Derived.Shelf.Pu.ParseUintPublic10
import Derived.Shelf.Pu.ErrVarParseUint
import Derived.Shelf.Strings.Search1
import Derived.Shelf.GgClosure.StringsIndexFunc
import Derived.Ground.GgwProg
import Derived.Shelf.GgClosure.StringsIndexFuncTop
import Derived.Shelf.GgClosure.StringsRunes
import Derived.Shelf.Strings.Prefix
import Derived.Shelf.Unicode.Decode
import Derived.Shelf.Strings.Runes
import Derived.Shelf.Strings.AsciiSet
import Derived.Shelf.Bits.Mul64
import Derived.Shelf.Strings.Repeat
import Derived.Shelf.Unicode.DecodeSlow
import Derived.Shelf.Unicode.DecodeAny
import Derived.Shelf.Unicode.DecodeLast
import Derived.Shelf.Strings.FuncGrows
import Derived.Shelf.Strings.BuilderCap
import Derived.Shelf.Slices.Turned
import Derived.Deep.WholeRow
import Derived.Deep.RegionWith
import Derived.Deep.Cut
import Derived.Shelf.Abstract
import Derived.LaidEql
import Derived.Stop.Asserts
import Derived.RowKitTokens
import Derived.Deep.QuietTactic
import Derived.Laws.Bits64b
import Derived.Laws.ResultCell
import Derived.ScopeJumps
import Derived.WalkMore
import Derived.Test.YthledjlechdbiaaGreatDoorSortsClaimB
namespace Go.Proofs
open Go.Shelf
def Tryz.lays169_ren : Go.Shelf.Ren := ⟨fun | 169 => 162 | n => n, fun | 70 => 193 | 9 => 9 | 0 => 0 | 72 => 195 | 37 => 138 | 127 => 242 | 3 => 3 | 5 => 5 | n => n, fun | n => n⟩
theorem Tryz.lays169 : Go.Proofs.Lays.n169 Tryz.prog Tryz.lays169_ren := {
 mixed := by kernel_rfl
 f169 := Tryz.func162.trans (congrArg some (by kernel_rfl))
 t0 := Tryz.underlying0
 a0 := Tryz.isAgg0
 z0 := Tryz.sizeOf0
 v0 := Tryz.zeroValue0
 t3 := Tryz.underlying3
 a3 := Tryz.isAgg3
 z3 := Tryz.sizeOf3
 v3 := Tryz.zeroValue3
 t9 := Tryz.underlying9
 a9 := Tryz.isAgg9
 z9 := Tryz.sizeOf9
 v9 := Tryz.zeroValue9
 t37 := Tryz.underlying138
 a37 := Tryz.isAgg138
 z37 := Tryz.sizeOf138
 v37 := Tryz.zeroValue138
 t70 := Tryz.underlying193
 a70 := Tryz.isAgg193
 z70 := Tryz.sizeOf193
 v70 := Tryz.zeroValue193
 t72 := Tryz.underlying195
 a72 := Tryz.isAgg195
 z72 := Tryz.sizeOf195
 v72 := Tryz.zeroValue195
 t127 := Tryz.underlying242
 a127 := Tryz.isAgg242
 z127 := Tryz.sizeOf242
 v127 := Tryz.zeroValue242 }
theorem Tryz.Builder_Extra_169 : Builder.Extra Tryz.prog Tryz.lays169_ren := {
 sizeBuilder := by kernel_rfl
 liesBuilder := by kernel_rfl
 t5 := Tryz.underlying5
 a5 := Tryz.isAgg5
 z5 := Tryz.sizeOf5
 v5 := Tryz.zeroValue5
 infoByte := by kernel_rfl
 cellsByte := by kernel_rfl
 sizeByte := by kernel_rfl
 neB5 := by decide }
def Tryz.lays161_ren : Go.Shelf.Ren := ⟨fun | 161 => 153 | 231 => 191 | 227 => 193 | 233 => 194 | 235 => 196 | 228 => 228 | 197 => 229 | 151 => 230 | 260 => 263 | 152 => 264 | 137 => 282 | 119 => 283 | 224 => 284 | 225 => 285 | 217 => 292 | 266 => 296 | n => n, fun | 9 => 9 | 4 => 4 | 3 => 3 | 5 => 5 | 117 => 227 | 116 => 226 | 0 => 0 | 124 => 230 | 105 => 268 | 21 => 21 | 119 => 247 | 46 => 147 | 139 => 250 | 138 => 249 | n => n, fun | 3 => 5 | 4 => 6 | n => n⟩
theorem Tryz.lays161 : Go.Proofs.Lays.n161 Tryz.prog Tryz.lays161_ren := {
 mixed := by kernel_rfl
 f119 := Tryz.func283.trans (congrArg some (by kernel_rfl))
 f137 := Tryz.func282.trans (congrArg some (by kernel_rfl))
 f151 := Tryz.func230.trans (congrArg some (by kernel_rfl))
 f152 := Tryz.func264.trans (congrArg some (by kernel_rfl))
 f161 := Tryz.func153.trans (congrArg some (by kernel_rfl))
 f197 := Tryz.func229.trans (congrArg some (by kernel_rfl))
 f217 := Tryz.func292.trans (congrArg some (by kernel_rfl))
 f224 := Tryz.func284.trans (congrArg some (by kernel_rfl))
 f225 := Tryz.func285.trans (congrArg some (by kernel_rfl))
 f227 := Tryz.func193.trans (congrArg some (by kernel_rfl))
 f228 := Tryz.func228.trans (congrArg some (by kernel_rfl))
 f231 := Tryz.func191.trans (congrArg some (by kernel_rfl))
 f233 := Tryz.func194.trans (congrArg some (by kernel_rfl))
 f235 := Tryz.func196.trans (congrArg some (by kernel_rfl))
 f260 := Tryz.func263.trans (congrArg some (by kernel_rfl))
 f266 := Tryz.func296.trans (congrArg some (by kernel_rfl))
 t0 := Tryz.underlying0
 a0 := Tryz.isAgg0
 z0 := Tryz.sizeOf0
 v0 := Tryz.zeroValue0
 t3 := Tryz.underlying3
 a3 := Tryz.isAgg3
 z3 := Tryz.sizeOf3
 v3 := Tryz.zeroValue3
 t4 := Tryz.underlying4
 a4 := Tryz.isAgg4
 z4 := Tryz.sizeOf4
 v4 := Tryz.zeroValue4
 t5 := Tryz.underlying5
 a5 := Tryz.isAgg5
 z5 := Tryz.sizeOf5
 v5 := Tryz.zeroValue5
 t9 := Tryz.underlying9
 a9 := Tryz.isAgg9
 z9 := Tryz.sizeOf9
 v9 := Tryz.zeroValue9
 t21 := Tryz.underlying21
 a21 := Tryz.isAgg21
 z21 := Tryz.sizeOf21
 v21 := Tryz.zeroValue21
 t46 := Tryz.underlying147
 a46 := Tryz.isAgg147
 z46 := Tryz.sizeOf147
 v46 := Tryz.zeroValue147
 t105 := Tryz.underlying268
 a105 := Tryz.isAgg268
 z105 := Tryz.sizeOf268
 v105 := Tryz.zeroValue268
 t116 := Tryz.underlying226
 a116 := Tryz.isAgg226
 z116 := Tryz.sizeOf226
 t117 := Tryz.underlying227
 a117 := Tryz.isAgg227
 z117 := Tryz.sizeOf227
 v117 := Tryz.zeroValue227
 t119 := Tryz.underlying247
 a119 := Tryz.isAgg247
 z119 := Tryz.sizeOf247
 t124 := Tryz.underlying230
 a124 := Tryz.isAgg230
 z124 := Tryz.sizeOf230
 v124 := Tryz.zeroValue230
 t138 := Tryz.underlying249
 a138 := Tryz.isAgg249
 z138 := Tryz.sizeOf249
 v138 := Tryz.zeroValue249
 t139 := Tryz.underlying250
 a139 := Tryz.isAgg250
 z139 := Tryz.sizeOf250
 v139 := Tryz.zeroValue250
 g3 := by kernel_rfl
 g4 := by kernel_rfl }
open Go.RowKit in
theorem Tryz.strings_TrimLeft_one (s : ByteArray) (c : UInt8) (hc : c.toNat < 128) (w : World) :
  Calls Tryz.prog 153 #[.string s, .string ⟨#[c]⟩] w fun e w' => e = .returned (.string ⟨(Lib.trimLeftB s.data.toList c).toArray⟩) ∧ w' = w := Any.strings_TrimLeft_one Tryz.lays161 s c hc w
def Tryz.lays162_ren : Go.Shelf.Ren := ⟨fun | 162 => 154 | 232 => 192 | 227 => 193 | 234 => 195 | 236 => 197 | 228 => 228 | 271 => 231 | 151 => 230 | 120 => 265 | 197 => 229 | 152 => 264 | 260 => 263 | 137 => 282 | 119 => 283 | 224 => 284 | 225 => 285 | 217 => 292 | 266 => 296 | n => n, fun | 9 => 9 | 4 => 4 | 3 => 3 | 5 => 5 | 117 => 227 | 116 => 226 | 0 => 0 | 124 => 230 | 21 => 21 | 105 => 268 | 46 => 147 | 119 => 247 | 139 => 250 | 138 => 249 | n => n, fun | 3 => 5 | 4 => 6 | n => n⟩
theorem Tryz.lays162 : Go.Proofs.Lays.n162 Tryz.prog Tryz.lays162_ren := {
 mixed := by kernel_rfl
 f119 := Tryz.func283.trans (congrArg some (by kernel_rfl))
 f120 := Tryz.func265.trans (congrArg some (by kernel_rfl))
 f137 := Tryz.func282.trans (congrArg some (by kernel_rfl))
 f151 := Tryz.func230.trans (congrArg some (by kernel_rfl))
 f152 := Tryz.func264.trans (congrArg some (by kernel_rfl))
 f162 := Tryz.func154.trans (congrArg some (by kernel_rfl))
 f197 := Tryz.func229.trans (congrArg some (by kernel_rfl))
 f217 := Tryz.func292.trans (congrArg some (by kernel_rfl))
 f224 := Tryz.func284.trans (congrArg some (by kernel_rfl))
 f225 := Tryz.func285.trans (congrArg some (by kernel_rfl))
 f227 := Tryz.func193.trans (congrArg some (by kernel_rfl))
 f228 := Tryz.func228.trans (congrArg some (by kernel_rfl))
 f232 := Tryz.func192.trans (congrArg some (by kernel_rfl))
 f234 := Tryz.func195.trans (congrArg some (by kernel_rfl))
 f236 := Tryz.func197.trans (congrArg some (by kernel_rfl))
 f260 := Tryz.func263.trans (congrArg some (by kernel_rfl))
 f266 := Tryz.func296.trans (congrArg some (by kernel_rfl))
 f271 := Tryz.func231.trans (congrArg some (by kernel_rfl))
 t0 := Tryz.underlying0
 a0 := Tryz.isAgg0
 z0 := Tryz.sizeOf0
 v0 := Tryz.zeroValue0
 t3 := Tryz.underlying3
 a3 := Tryz.isAgg3
 z3 := Tryz.sizeOf3
 v3 := Tryz.zeroValue3
 t4 := Tryz.underlying4
 a4 := Tryz.isAgg4
 z4 := Tryz.sizeOf4
 v4 := Tryz.zeroValue4
 t5 := Tryz.underlying5
 a5 := Tryz.isAgg5
 z5 := Tryz.sizeOf5
 v5 := Tryz.zeroValue5
 t9 := Tryz.underlying9
 a9 := Tryz.isAgg9
 z9 := Tryz.sizeOf9
 v9 := Tryz.zeroValue9
 t21 := Tryz.underlying21
 a21 := Tryz.isAgg21
 z21 := Tryz.sizeOf21
 v21 := Tryz.zeroValue21
 t46 := Tryz.underlying147
 a46 := Tryz.isAgg147
 z46 := Tryz.sizeOf147
 v46 := Tryz.zeroValue147
 t105 := Tryz.underlying268
 a105 := Tryz.isAgg268
 z105 := Tryz.sizeOf268
 v105 := Tryz.zeroValue268
 t116 := Tryz.underlying226
 a116 := Tryz.isAgg226
 z116 := Tryz.sizeOf226
 t117 := Tryz.underlying227
 a117 := Tryz.isAgg227
 z117 := Tryz.sizeOf227
 v117 := Tryz.zeroValue227
 t119 := Tryz.underlying247
 a119 := Tryz.isAgg247
 z119 := Tryz.sizeOf247
 t124 := Tryz.underlying230
 a124 := Tryz.isAgg230
 z124 := Tryz.sizeOf230
 v124 := Tryz.zeroValue230
 t138 := Tryz.underlying249
 a138 := Tryz.isAgg249
 z138 := Tryz.sizeOf249
 v138 := Tryz.zeroValue249
 t139 := Tryz.underlying250
 a139 := Tryz.isAgg250
 z139 := Tryz.sizeOf250
 v139 := Tryz.zeroValue250
 g3 := by kernel_rfl
 g4 := by kernel_rfl }
open Go.RowKit in
theorem Tryz.strings_TrimRight_one (s : ByteArray) (c : UInt8) (hc : c.toNat < 128) (w : World) (hs : s.size ≤ 9223372036854775807) :
  Calls Tryz.prog 154 #[.string s, .string ⟨#[c]⟩] w fun e w' => e = .returned (.string ⟨(Lib.trimRightB s.data.toList c).toArray⟩) ∧ w' = w := Any.strings_TrimRight_one Tryz.lays162 s c hc w hs
open Go.RowKit in
theorem Tryz.Builder_String_any_k (B b : Nat) (l : List UInt8) (w : World) (h : Lib.IsBuilderF 195 5 B b (Lib.byteCells l) w) (hBw : B ≤ w.heap.size) :
  Calls Tryz.prog 162 #[.pointer (some ⟨b, 0, none⟩)] w fun e w' => e = .returned (.string ⟨l.toArray⟩) ∧ (Lib.IsBuilderF 195 5 B b (Lib.byteCells l) w' ∧ Below B w w' ∧ Lib.OthersKept 5 (some b) w w') := Any.Builder_String_any_k Tryz.lays169 Tryz.Builder_Extra_169 B b l w h hBw
def Tryz.lays129_ren : Go.Shelf.Ren := ⟨fun | 129 => 126 | n => n, fun | 53 => 24 | 3 => 3 | 4 => 4 | 46 => 147 | 5 => 5 | 9 => 9 | n => n, fun | n => n⟩
theorem Tryz.lays129 : Go.Proofs.Lays.n129 Tryz.prog Tryz.lays129_ren := {
 mixed := by kernel_rfl
 f129 := Tryz.func126.trans (congrArg some (by kernel_rfl))
 t3 := Tryz.underlying3
 a3 := Tryz.isAgg3
 z3 := Tryz.sizeOf3
 v3 := Tryz.zeroValue3
 t4 := Tryz.underlying4
 a4 := Tryz.isAgg4
 z4 := Tryz.sizeOf4
 v4 := Tryz.zeroValue4
 t5 := Tryz.underlying5
 a5 := Tryz.isAgg5
 z5 := Tryz.sizeOf5
 v5 := Tryz.zeroValue5
 t9 := Tryz.underlying9
 a9 := Tryz.isAgg9
 z9 := Tryz.sizeOf9
 v9 := Tryz.zeroValue9
 t46 := Tryz.underlying147
 a46 := Tryz.isAgg147
 z46 := Tryz.sizeOf147
 v46 := Tryz.zeroValue147
 t53 := Tryz.underlying24
 a53 := Tryz.isAgg24
 z53 := Tryz.sizeOf24
 v53 := Tryz.zeroValue24 }
theorem Tryz.bits_Len64 (x : Int) (w : World) (h0 : 0 ≤ x) (h1 : x ≤ 18446744073709551615) :
  Calls Tryz.prog 126 #[.int .u64 x] w fun e w' => e = .returned (.int .i64 (Lib.bitLen x.toNat)) ∧ w' = w := Any.bits_Len64 Tryz.lays129 x w h0 h1
def Tryz.lays283_ren : Go.Shelf.Ren := ⟨fun | 283 => 267 | n => n, fun | 3 => 3 | 9 => 9 | 4 => 4 | n => n, fun | n => n⟩
theorem Tryz.lays283 : Go.Proofs.Lays.n283 Tryz.prog Tryz.lays283_ren := {
 mixed := by kernel_rfl
 f283 := Tryz.func267.trans (congrArg some (by kernel_rfl))
 t3 := Tryz.underlying3
 a3 := Tryz.isAgg3
 z3 := Tryz.sizeOf3
 v3 := Tryz.zeroValue3
 t4 := Tryz.underlying4
 a4 := Tryz.isAgg4
 z4 := Tryz.sizeOf4
 v4 := Tryz.zeroValue4
 t9 := Tryz.underlying9
 a9 := Tryz.isAgg9
 z9 := Tryz.sizeOf9
 v9 := Tryz.zeroValue9 }
open Go.Lib in
theorem Tryz.internal_strconv_small (i : Nat) (h : i < 100) (w : World) :
  Calls Tryz.prog 267 #[.int .i64 i] w fun e w' => e = .returned (.string ⟨(Lib.decDigits i).toArray⟩) ∧ w' = w := Any.internal_strconv_small Tryz.lays283 i h w
def Tryz.laysM284_ren : Go.Shelf.Ren := ⟨fun | 284 => 268 | 129 => 126 | 317 => 287 | 318 => 288 | n => n, fun | 53 => 24 | 3 => 3 | 212 => 323 | 0 => 0 | 4 => 4 | 46 => 147 | 5 => 5 | 9 => 9 | n => n, fun | 17 => 10 | n => n⟩
theorem Tryz.laysM284 : Go.Proofs.LaysM.n284 Tryz.prog Tryz.laysM284_ren := {
 mixed := by kernel_rfl
 f129 := Tryz.func126.trans (congrArg some (by kernel_rfl))
 f284 := Tryz.func268.trans (congrArg some (by kernel_rfl))
 f317 := Tryz.func287.trans (congrArg some (by kernel_rfl))
 f318 := Tryz.func288.trans (congrArg some (by kernel_rfl))
 t0 := Tryz.underlying0
 a0 := Tryz.isAgg0
 z0 := Tryz.sizeOf0
 v0 := Tryz.zeroValue0
 t3 := Tryz.underlying3
 a3 := Tryz.isAgg3
 z3 := Tryz.sizeOf3
 v3 := Tryz.zeroValue3
 t4 := Tryz.underlying4
 a4 := Tryz.isAgg4
 z4 := Tryz.sizeOf4
 v4 := Tryz.zeroValue4
 t5 := Tryz.underlying5
 a5 := Tryz.isAgg5
 z5 := Tryz.sizeOf5
 v5 := Tryz.zeroValue5
 t9 := Tryz.underlying9
 a9 := Tryz.isAgg9
 z9 := Tryz.sizeOf9
 v9 := Tryz.zeroValue9
 t46 := Tryz.underlying147
 a46 := Tryz.isAgg147
 z46 := Tryz.sizeOf147
 v46 := Tryz.zeroValue147
 t53 := Tryz.underlying24
 a53 := Tryz.isAgg24
 z53 := Tryz.sizeOf24
 v53 := Tryz.zeroValue24
 t212 := Tryz.underlying323
 a212 := Tryz.isAgg323
 z212 := Tryz.sizeOf323
 v212 := Tryz.zeroValue323
 g17 := by kernel_rfl
 i0 := by kernel_rfl
 i3 := by kernel_rfl
 i4 := by kernel_rfl
 i5 := by kernel_rfl
 i9 := by kernel_rfl
 i46 := by kernel_rfl
 i53 := by kernel_rfl
 i212 := by kernel_rfl
 m17 := by kernel_rfl }
open Go.Lib in
theorem Tryz.internal_strconv_numDigits (u : Nat) (h1 : 1 ≤ u) (h2 : u < 18446744073709551616) (w : World) (htab : Lib.TabIs Tryz.prog w "internal/strconv.uint64pow10" .u64 Lib.pow10Tab) :
  Calls Tryz.prog 268 #[.int .u64 u] w fun e w' => e = .returned (.int .i64 (Lib.nDigits u)) ∧ w' = w := Any.internal_strconv_numDigits Tryz.laysM284 u h1 h2 w htab
def Tryz.lays285_ren : Go.Shelf.Ren := ⟨fun | 285 => 269 | n => n, fun | 37 => 138 | 53 => 24 | 3 => 3 | 4 => 4 | 51 => 176 | 9 => 9 | 5 => 5 | 0 => 0 | n => n, fun | n => n⟩
theorem Tryz.lays285 : Go.Proofs.Lays.n285 Tryz.prog Tryz.lays285_ren := {
 mixed := by kernel_rfl
 f285 := Tryz.func269.trans (congrArg some (by kernel_rfl))
 t0 := Tryz.underlying0
 a0 := Tryz.isAgg0
 z0 := Tryz.sizeOf0
 v0 := Tryz.zeroValue0
 t3 := Tryz.underlying3
 a3 := Tryz.isAgg3
 z3 := Tryz.sizeOf3
 v3 := Tryz.zeroValue3
 t4 := Tryz.underlying4
 a4 := Tryz.isAgg4
 z4 := Tryz.sizeOf4
 v4 := Tryz.zeroValue4
 t5 := Tryz.underlying5
 a5 := Tryz.isAgg5
 z5 := Tryz.sizeOf5
 v5 := Tryz.zeroValue5
 t9 := Tryz.underlying9
 a9 := Tryz.isAgg9
 z9 := Tryz.sizeOf9
 v9 := Tryz.zeroValue9
 t37 := Tryz.underlying138
 a37 := Tryz.isAgg138
 z37 := Tryz.sizeOf138
 v37 := Tryz.zeroValue138
 t51 := Tryz.underlying176
 a51 := Tryz.isAgg176
 z51 := Tryz.sizeOf176
 v51 := Tryz.zeroValue176
 t53 := Tryz.underlying24
 a53 := Tryz.isAgg24
 z53 := Tryz.sizeOf24
 v53 := Tryz.zeroValue24 }
open Go.RowKit Go.Sort Go.Lib in
theorem Tryz.internal_strconv_formatBase10 (blk off cap : Nat) (u : Nat) (d : Array UInt8) (w : World) (hH : Holds (fun (b : UInt8) => Value.int .u8 (b.toNat : Int)) w blk off d) (hu : u < 10 ^ d.size) (hu64 : u < 18446744073709551616) (hsz : d.size < 4611686018427387904) :
  Calls Tryz.prog 269 #[.slice (some ⟨blk, off, none⟩) d.size cap, .int .u64 u] w fun e w' =>
   e = .returned (.tuple #[]) ∧ ∃ (n v' : Nat) (dk : Array UInt8), w' = (putRow (fun (b : UInt8) => Value.int .u8 (b.toNat : Int)) w blk off dk).drewN n ∧ FmtInv d.size u 0 v' dk := Any.internal_strconv_formatBase10 Tryz.lays285 blk off cap u d w hH hu hu64 hsz
def Tryz.laysPu14_ren : Go.Shelf.Ren := ⟨fun | 14 => 176 | 16 => 215 | 17 => 216 | 19 => 244 | 20 => 245 | 21 => 246 | 22 => 247 | 23 => 248 | 24 => 249 | 25 => 278 | 27 => 161 | 26 => 279 | 28 => 209 | 29 => 240 | 30 => 267 | 31 => 268 | 32 => 269 | 33 => 270 | 35 => 126 | 34 => 287 | 36 => 288 | 37 => 289 | 38 => 290 | 39 => 293 | 40 => 144 | n => n, fun | 9 => 9 | 3 => 3 | 22 => 24 | 24 => 45 | 25 => 207 | 4 => 4 | 34 => 293 | 5 => 5 | 36 => 147 | 37 => 138 | 0 => 0 | 39 => 295 | 21 => 21 | 44 => 315 | 47 => 242 | 50 => 328 | 48 => 326 | 2 => 2 | 52 => 305 | 55 => 307 | 59 => 323 | 60 => 176 | 20 => 20 | 61 => 324 | 65 => 334 | 66 => 231 | 67 => 190 | n => n, fun | 0 => 7 | 1 => 8 | 2 => 10 | 3 => 11 | 4 => 4 | n => n⟩
theorem Tryz.laysPu14 : Go.Proofs.LaysPu.n14 Tryz.prog Tryz.laysPu14_ren := {
 mixed := by kernel_rfl
 f14 := Tryz.func176.trans (congrArg some (by kernel_rfl))
 f16 := Tryz.func215.trans (congrArg some (by kernel_rfl))
 f17 := Tryz.func216.trans (congrArg some (by kernel_rfl))
 f19 := Tryz.func244.trans (congrArg some (by kernel_rfl))
 f20 := Tryz.func245.trans (congrArg some (by kernel_rfl))
 f21 := Tryz.func246.trans (congrArg some (by kernel_rfl))
 f22 := Tryz.func247.trans (congrArg some (by kernel_rfl))
 f23 := Tryz.func248.trans (congrArg some (by kernel_rfl))
 f24 := Tryz.func249.trans (congrArg some (by kernel_rfl))
 f25 := Tryz.func278.trans (congrArg some (by kernel_rfl))
 f26 := Tryz.func279.trans (congrArg some (by kernel_rfl))
 f27 := Tryz.func161.trans (congrArg some (by kernel_rfl))
 f28 := Tryz.func209.trans (congrArg some (by kernel_rfl))
 f29 := Tryz.func240.trans (congrArg some (by kernel_rfl))
 f30 := Tryz.func267.trans (congrArg some (by kernel_rfl))
 f31 := Tryz.func268.trans (congrArg some (by kernel_rfl))
 f32 := Tryz.func269.trans (congrArg some (by kernel_rfl))
 f33 := Tryz.func270.trans (congrArg some (by kernel_rfl))
 f34 := Tryz.func287.trans (congrArg some (by kernel_rfl))
 f35 := Tryz.func126.trans (congrArg some (by kernel_rfl))
 f36 := Tryz.func288.trans (congrArg some (by kernel_rfl))
 f37 := Tryz.func289.trans (congrArg some (by kernel_rfl))
 f38 := Tryz.func290.trans (congrArg some (by kernel_rfl))
 f39 := Tryz.func293.trans (congrArg some (by kernel_rfl))
 f40 := Tryz.func144.trans (congrArg some (by kernel_rfl))
 t0 := Tryz.underlying0
 a0 := Tryz.isAgg0
 z0 := Tryz.sizeOf0
 v0 := Tryz.zeroValue0
 i0 := by kernel_rfl
 t2 := Tryz.underlying2
 a2 := Tryz.isAgg2
 z2 := Tryz.sizeOf2
 v2 := Tryz.zeroValue2
 i2 := by kernel_rfl
 t3 := Tryz.underlying3
 a3 := Tryz.isAgg3
 z3 := Tryz.sizeOf3
 v3 := Tryz.zeroValue3
 i3 := by kernel_rfl
 t4 := Tryz.underlying4
 a4 := Tryz.isAgg4
 z4 := Tryz.sizeOf4
 v4 := Tryz.zeroValue4
 i4 := by kernel_rfl
 t5 := Tryz.underlying5
 a5 := Tryz.isAgg5
 z5 := Tryz.sizeOf5
 v5 := Tryz.zeroValue5
 i5 := by kernel_rfl
 t9 := Tryz.underlying9
 a9 := Tryz.isAgg9
 z9 := Tryz.sizeOf9
 v9 := Tryz.zeroValue9
 i9 := by kernel_rfl
 t20 := Tryz.underlying20
 a20 := Tryz.isAgg20
 z20 := Tryz.sizeOf20
 v20 := Tryz.zeroValue20
 i20 := by kernel_rfl
 t21 := Tryz.underlying21
 a21 := Tryz.isAgg21
 z21 := Tryz.sizeOf21
 v21 := Tryz.zeroValue21
 i21 := by kernel_rfl
 t22 := Tryz.underlying24
 a22 := Tryz.isAgg24
 z22 := Tryz.sizeOf24
 v22 := Tryz.zeroValue24
 i22 := by kernel_rfl
 t24 := Tryz.underlying45
 a24 := Tryz.isAgg45
 z24 := Tryz.sizeOf45
 v24 := Tryz.zeroValue45
 i24 := by kernel_rfl
 t25 := Tryz.underlying207
 a25 := Tryz.isAgg207
 z25 := Tryz.sizeOf207
 v25 := Tryz.zeroValue207
 i25 := by kernel_rfl
 t34 := Tryz.underlying293
 a34 := Tryz.isAgg293
 z34 := Tryz.sizeOf293
 v34 := Tryz.zeroValue293
 i34 := by kernel_rfl
 c34 := by kernel_rfl
 t36 := Tryz.underlying147
 a36 := Tryz.isAgg147
 z36 := Tryz.sizeOf147
 v36 := Tryz.zeroValue147
 i36 := by kernel_rfl
 t37 := Tryz.underlying138
 a37 := Tryz.isAgg138
 z37 := Tryz.sizeOf138
 v37 := Tryz.zeroValue138
 i37 := by kernel_rfl
 t39 := Tryz.underlying295
 a39 := Tryz.isAgg295
 z39 := Tryz.sizeOf295
 v39 := Tryz.zeroValue295
 i39 := by kernel_rfl
 t44 := Tryz.underlying315
 a44 := Tryz.isAgg315
 z44 := Tryz.sizeOf315
 v44 := Tryz.zeroValue315
 i44 := by kernel_rfl
 t47 := Tryz.underlying242
 a47 := Tryz.isAgg242
 z47 := Tryz.sizeOf242
 v47 := Tryz.zeroValue242
 i47 := by kernel_rfl
 t48 := Tryz.underlying326
 a48 := Tryz.isAgg326
 z48 := Tryz.sizeOf326
 v48 := Tryz.zeroValue326
 i48 := by kernel_rfl
 t50 := Tryz.underlying328
 a50 := Tryz.isAgg328
 z50 := Tryz.sizeOf328
 v50 := Tryz.zeroValue328
 i50 := by kernel_rfl
 t52 := Tryz.underlying305
 a52 := Tryz.isAgg305
 z52 := Tryz.sizeOf305
 v52 := Tryz.zeroValue305
 i52 := by kernel_rfl
 t55 := Tryz.underlying307
 a55 := Tryz.isAgg307
 z55 := Tryz.sizeOf307
 v55 := Tryz.zeroValue307
 i55 := by kernel_rfl
 t59 := Tryz.underlying323
 a59 := Tryz.isAgg323
 z59 := Tryz.sizeOf323
 v59 := Tryz.zeroValue323
 i59 := by kernel_rfl
 t60 := Tryz.underlying176
 a60 := Tryz.isAgg176
 z60 := Tryz.sizeOf176
 v60 := Tryz.zeroValue176
 i60 := by kernel_rfl
 t61 := Tryz.underlying324
 a61 := Tryz.isAgg324
 z61 := Tryz.sizeOf324
 t65 := Tryz.underlying334
 a65 := Tryz.isAgg334
 z65 := Tryz.sizeOf334
 v65 := Tryz.zeroValue334
 i65 := by kernel_rfl
 t66 := Tryz.underlying231
 a66 := Tryz.isAgg231
 z66 := Tryz.sizeOf231
 v66 := Tryz.zeroValue231
 i66 := by kernel_rfl
 t67 := Tryz.underlying190
 a67 := Tryz.isAgg190
 z67 := Tryz.sizeOf190
 v67 := Tryz.zeroValue190
 i67 := by kernel_rfl
 g0 := by kernel_rfl
 m0 := by kernel_rfl
 g1 := by kernel_rfl
 m1 := by kernel_rfl
 g2 := by kernel_rfl
 m2 := by kernel_rfl
 g3 := by kernel_rfl
 m3 := by kernel_rfl
 g4 := by kernel_rfl
 m4 := by kernel_rfl }
open Go.RowKit in
theorem Tryz.strconv_ParseUint_10_at64_ok (s : ByteArray) (hmax : s.size ≤ 9223372036854775806) (u : Nat) (h : Lib.parseUintB 64 s.data.toList = .ok u) (w : World) :
  Calls Tryz.prog 176 #[.string s, .int .i64 10, .int .i64 64] w fun e w' => e = .returned (.tuple #[.int .u64 u, .nilIface]) ∧ (w' = w ∨ w' = Lib.bytesWorld w 5 s) := Any.strconv_ParseUint_10_at64_ok Tryz.laysPu14 s hmax u h w
open Go.RowKit in
theorem Tryz.strconv_ParseUint_10_at32_ok (s : ByteArray) (hmax : s.size ≤ 9223372036854775806) (u : Nat) (h : Lib.parseUintB 32 s.data.toList = .ok u) (w : World) :
  Calls Tryz.prog 176 #[.string s, .int .i64 10, .int .i64 32] w fun e w' => e = .returned (.tuple #[.int .u64 u, .nilIface]) ∧ (w' = w ∨ w' = Lib.bytesWorld w 5 s) := Any.strconv_ParseUint_10_at32_ok Tryz.laysPu14 s hmax u h w
open Go.RowKit in
theorem Tryz.strconv_ParseUint_10_at64_range_var (s : ByteArray) (hlim : s.size ≤ 281474976710656) (h : Lib.parseUintB 64 s.data.toList = .range) (tp : TypeId) (p : Value) (w : World) (hvar : w.var? Tryz.prog "strconv.ErrRange" = some #[.iface tp p]) :
  Calls Tryz.prog 176 #[.string s, .int .i64 10, .int .i64 64] w fun e w' => ∃ N, e = .returned (.tuple #[.int .u64 18446744073709551615, .iface 295 (.pointer (some ⟨N, 0, none⟩))]) ∧ w.heap.size ≤ N ∧ w'.heap[N]? = some (.cells #[.string ⟨#[80, 97, 114, 115, 101, 85, 105, 110, 116]⟩, .string s, .iface tp p] 315 (0, 0)) ∧ Below w.heap.size w w' := Any.strconv_ParseUint_10_at64_range_var Tryz.laysPu14 s hlim h tp p w hvar
def Tryz.laysGw15_ren : Go.Shelf.Ren := ⟨fun | 15 => 152 | 20 => 205 | n => n, fun | 9 => 9 | 23 => 182 | 3 => 3 | 4 => 4 | 0 => 0 | 21 => 21 | n => n, fun | n => n⟩
theorem Tryz.laysGw15 : Go.Proofs.LaysGw.n15 Tryz.prog Tryz.laysGw15_ren := {
 mixed := by kernel_rfl
 f15 := Tryz.func152.trans (congrArg some (by kernel_rfl))
 f20 := Tryz.func205.trans (congrArg some (by kernel_rfl))
 t0 := Tryz.underlying0
 a0 := Tryz.isAgg0
 z0 := Tryz.sizeOf0
 v0 := Tryz.zeroValue0
 i0 := by kernel_rfl
 t3 := Tryz.underlying3
 a3 := Tryz.isAgg3
 z3 := Tryz.sizeOf3
 v3 := Tryz.zeroValue3
 i3 := by kernel_rfl
 t4 := Tryz.underlying4
 a4 := Tryz.isAgg4
 z4 := Tryz.sizeOf4
 v4 := Tryz.zeroValue4
 i4 := by kernel_rfl
 t9 := Tryz.underlying9
 a9 := Tryz.isAgg9
 z9 := Tryz.sizeOf9
 v9 := Tryz.zeroValue9
 i9 := by kernel_rfl
 t21 := Tryz.underlying21
 a21 := Tryz.isAgg21
 z21 := Tryz.sizeOf21
 v21 := Tryz.zeroValue21
 i21 := by kernel_rfl
 t23 := Tryz.underlying182
 a23 := Tryz.isAgg182
 z23 := Tryz.sizeOf182
 v23 := Tryz.zeroValue182
 i23 := by kernel_rfl }
open Go.RowKit Go.Lib in
theorem Tryz.strings_IndexFunc_runes (g : Nat) (lb : Array Value) (eg : ∀ args w, (callFunc g args).run Tryz.prog w = .ok (.enter g args) w) (p : Nat → Bool) (s : ByteArray) (w : World) (hp : PredAtRunes Tryz.prog g lb p w) :
  Calls Tryz.prog 152 #[.string s, .func (.func g) #[] lb] w fun e w' => e = .returned (.int .i64 (Lib.idxFunc p true s)) ∧ Below w.heap.size w w' := Any.strings_IndexFunc_runes Tryz.laysGw15 g lb eg p s w hp
def Tryz.lays100_ren : Go.Shelf.Ren := ⟨fun | 100 => 104 | 207 => 142 | n => n, fun | 9 => 9 | 4 => 4 | 3 => 3 | n => n, fun | n => n⟩
theorem Tryz.lays100 : Go.Proofs.Lays.n100 Tryz.prog Tryz.lays100_ren := {
 mixed := by kernel_rfl
 f100 := Tryz.func104.trans (congrArg some (by kernel_rfl))
 f207 := Tryz.func142.trans (congrArg some (by kernel_rfl))
 t3 := Tryz.underlying3
 a3 := Tryz.isAgg3
 z3 := Tryz.sizeOf3
 v3 := Tryz.zeroValue3
 t4 := Tryz.underlying4
 a4 := Tryz.isAgg4
 z4 := Tryz.sizeOf4
 v4 := Tryz.zeroValue4
 t9 := Tryz.underlying9
 a9 := Tryz.isAgg9
 z9 := Tryz.sizeOf9
 v9 := Tryz.zeroValue9 }
open Go.RowKit Go.Lib in
theorem Tryz.strings_HasSuffix (s p : ByteArray) (w : World) (hs : s.size ≤ 9223372036854775807) :
  Calls Tryz.prog 104 #[.string s, .string p] w fun e w' => e = .returned (.bool (Lib.hasSuffix s.data.toList p.data.toList)) ∧ w' = w := Any.strings_HasSuffix Tryz.lays100 s p w hs
def Tryz.lays227_ren : Go.Shelf.Ren := ⟨fun | 227 => 193 | n => n, fun | 9 => 9 | 116 => 226 | 4 => 4 | 0 => 0 | 3 => 3 | 5 => 5 | n => n, fun | n => n⟩
theorem Tryz.lays227 : Go.Proofs.Lays.n227 Tryz.prog Tryz.lays227_ren := {
 mixed := by kernel_rfl
 f227 := Tryz.func193.trans (congrArg some (by kernel_rfl))
 t0 := Tryz.underlying0
 a0 := Tryz.isAgg0
 z0 := Tryz.sizeOf0
 v0 := Tryz.zeroValue0
 t3 := Tryz.underlying3
 a3 := Tryz.isAgg3
 z3 := Tryz.sizeOf3
 v3 := Tryz.zeroValue3
 t4 := Tryz.underlying4
 a4 := Tryz.isAgg4
 z4 := Tryz.sizeOf4
 v4 := Tryz.zeroValue4
 t5 := Tryz.underlying5
 a5 := Tryz.isAgg5
 z5 := Tryz.sizeOf5
 v5 := Tryz.zeroValue5
 t9 := Tryz.underlying9
 a9 := Tryz.isAgg9
 z9 := Tryz.sizeOf9
 v9 := Tryz.zeroValue9
 t116 := Tryz.underlying226
 a116 := Tryz.isAgg226
 z116 := Tryz.sizeOf226 }
open Go.RowKit Go.Lib in
theorem Tryz.strings_makeASCIISet (hv116 : ∀ w, (zeroValue 226).run Tryz.prog w = .ok (.agg (Array.replicate 256 (.bool false))) w) (chars : ByteArray) (w : World) (hs : chars.size < 4294967281) (hascii : ∀ (j : Nat) b, chars.data.toList[j]? = some b → b.toNat < 128) :
  Calls Tryz.prog 193 #[.string chars] w fun e w' => e = .returned (.tuple #[.agg (Lib.setCells chars.data.toList), .bool true]) ∧ w' = w.alloc (.cells (Lib.setCells chars.data.toList) 226) := Any.strings_makeASCIISet Tryz.lays227 hv116 (by kernel_rfl) chars w hs hascii
def Tryz.lays228_ren : Go.Shelf.Ren := ⟨fun | 228 => 228 | n => n, fun | 124 => 230 | 5 => 5 | 4 => 4 | 0 => 0 | 116 => 226 | n => n, fun | n => n⟩
theorem Tryz.lays228 : Go.Proofs.Lays.n228 Tryz.prog Tryz.lays228_ren := {
 mixed := by kernel_rfl
 f228 := Tryz.func228.trans (congrArg some (by kernel_rfl))
 t0 := Tryz.underlying0
 a0 := Tryz.isAgg0
 z0 := Tryz.sizeOf0
 v0 := Tryz.zeroValue0
 t4 := Tryz.underlying4
 a4 := Tryz.isAgg4
 z4 := Tryz.sizeOf4
 v4 := Tryz.zeroValue4
 t5 := Tryz.underlying5
 a5 := Tryz.isAgg5
 z5 := Tryz.sizeOf5
 v5 := Tryz.zeroValue5
 t116 := Tryz.underlying226
 a116 := Tryz.isAgg226
 z116 := Tryz.sizeOf226
 t124 := Tryz.underlying230
 a124 := Tryz.isAgg230
 z124 := Tryz.sizeOf230
 v124 := Tryz.zeroValue230 }
open Go.RowKit Go.Lib in
theorem Tryz.asciiSet_contains (b : Nat) (x : UInt8) (v : Bool) (w : World) (hc : w.cell? ⟨b, x.toNat, none⟩ = some (.bool v)) :
  Calls Tryz.prog 228 #[.pointer (some ⟨b, 0, none⟩), .int .u8 x.toNat] w fun e w' => e = .returned (.bool v) ∧ w' = w := Any.asciiSet_contains Tryz.lays228 b x v w hc
def Tryz.lays105_ren : Go.Shelf.Ren := ⟨fun | 105 => 135 | 212 => 177 | 99 => 178 | 165 => 179 | 166 => 160 | 170 => 180 | 169 => 162 | 263 => 217 | 264 => 218 | 206 => 219 | 240 => 208 | 241 => 220 | 276 => 239 | 277 => 250 | n => n, fun | 9 => 9 | 3 => 3 | 4 => 4 | 20 => 20 | 0 => 0 | 46 => 147 | 109 => 209 | 5 => 5 | 72 => 195 | 76 => 197 | 51 => 176 | 146 => 252 | 53 => 24 | 148 => 254 | 70 => 193 | 37 => 138 | 75 => 45 | 127 => 242 | 164 => 281 | 80 => 190 | n => n, fun | n => n⟩
theorem Tryz.lays105 : Go.Proofs.Lays.n105 Tryz.prog Tryz.lays105_ren := {
 mixed := by kernel_rfl
 f99 := Tryz.func178.trans (congrArg some (by kernel_rfl))
 f105 := Tryz.func135.trans (congrArg some (by kernel_rfl))
 f165 := Tryz.func179.trans (congrArg some (by kernel_rfl))
 f166 := Tryz.func160.trans (congrArg some (by kernel_rfl))
 f169 := Tryz.func162.trans (congrArg some (by kernel_rfl))
 f170 := Tryz.func180.trans (congrArg some (by kernel_rfl))
 f206 := Tryz.func219.trans (congrArg some (by kernel_rfl))
 f212 := Tryz.func177.trans (congrArg some (by kernel_rfl))
 f240 := Tryz.func208.trans (congrArg some (by kernel_rfl))
 f241 := Tryz.func220.trans (congrArg some (by kernel_rfl))
 f263 := Tryz.func217.trans (congrArg some (by kernel_rfl))
 f264 := Tryz.func218.trans (congrArg some (by kernel_rfl))
 f276 := Tryz.func239.trans (congrArg some (by kernel_rfl))
 f277 := Tryz.func250.trans (congrArg some (by kernel_rfl))
 t0 := Tryz.underlying0
 a0 := Tryz.isAgg0
 z0 := Tryz.sizeOf0
 v0 := Tryz.zeroValue0
 t3 := Tryz.underlying3
 a3 := Tryz.isAgg3
 z3 := Tryz.sizeOf3
 v3 := Tryz.zeroValue3
 t4 := Tryz.underlying4
 a4 := Tryz.isAgg4
 z4 := Tryz.sizeOf4
 v4 := Tryz.zeroValue4
 t5 := Tryz.underlying5
 a5 := Tryz.isAgg5
 z5 := Tryz.sizeOf5
 v5 := Tryz.zeroValue5
 t9 := Tryz.underlying9
 a9 := Tryz.isAgg9
 z9 := Tryz.sizeOf9
 v9 := Tryz.zeroValue9
 t20 := Tryz.underlying20
 a20 := Tryz.isAgg20
 z20 := Tryz.sizeOf20
 v20 := Tryz.zeroValue20
 t37 := Tryz.underlying138
 a37 := Tryz.isAgg138
 z37 := Tryz.sizeOf138
 v37 := Tryz.zeroValue138
 t46 := Tryz.underlying147
 a46 := Tryz.isAgg147
 z46 := Tryz.sizeOf147
 v46 := Tryz.zeroValue147
 t51 := Tryz.underlying176
 a51 := Tryz.isAgg176
 z51 := Tryz.sizeOf176
 v51 := Tryz.zeroValue176
 t53 := Tryz.underlying24
 a53 := Tryz.isAgg24
 z53 := Tryz.sizeOf24
 v53 := Tryz.zeroValue24
 t70 := Tryz.underlying193
 a70 := Tryz.isAgg193
 z70 := Tryz.sizeOf193
 v70 := Tryz.zeroValue193
 t72 := Tryz.underlying195
 a72 := Tryz.isAgg195
 z72 := Tryz.sizeOf195
 v72 := Tryz.zeroValue195
 t75 := Tryz.underlying45
 a75 := Tryz.isAgg45
 z75 := Tryz.sizeOf45
 v75 := Tryz.zeroValue45
 t76 := Tryz.underlying197
 a76 := Tryz.isAgg197
 z76 := Tryz.sizeOf197
 v76 := Tryz.zeroValue197
 t109 := Tryz.underlying209
 a109 := Tryz.isAgg209
 z109 := Tryz.sizeOf209
 v109 := Tryz.zeroValue209
 t127 := Tryz.underlying242
 a127 := Tryz.isAgg242
 z127 := Tryz.sizeOf242
 v127 := Tryz.zeroValue242
 t146 := Tryz.underlying252
 a146 := Tryz.isAgg252
 z146 := Tryz.sizeOf252
 v146 := Tryz.zeroValue252
 t148 := Tryz.underlying254
 a148 := Tryz.isAgg254
 z148 := Tryz.sizeOf254
 v148 := Tryz.zeroValue254
 t164 := Tryz.underlying281
 a164 := Tryz.isAgg281
 z164 := Tryz.sizeOf281
 v164 := Tryz.zeroValue281 }
theorem Tryz.Builder_Extra_105 : Builder.Extra Tryz.prog Tryz.lays105_ren := {
 sizeBuilder := by kernel_rfl
 liesBuilder := by kernel_rfl
 t5 := Tryz.underlying5
 a5 := Tryz.isAgg5
 z5 := Tryz.sizeOf5
 v5 := Tryz.zeroValue5
 infoByte := by kernel_rfl
 cellsByte := by kernel_rfl
 sizeByte := by kernel_rfl
 neB5 := by decide }
open Go.RowKit Go.Lib in
theorem Tryz.strings_Repeat (s : ByteArray) (c : Nat) (w : World) (hc : c ≤ 9223372036854775807) (hlen : s.size * c ≤ 140737488355328) :
  Calls Tryz.prog 135 #[.string s, .int .i64 c] w fun e w' => e = .returned (.string ⟨(Lib.repeatL s.data.toList c).toArray⟩) ∧ Below w.heap.size w w' := Any.strings_Repeat Tryz.lays105 Tryz.Builder_Extra_105 s c w hc hlen
def Tryz.lays107_ren : Go.Shelf.Ren := ⟨fun | 107 => 132 | 108 => 174 | n => n, fun | 28 => 163 | 3 => 3 | 4 => 4 | 0 => 0 | n => n, fun | n => n⟩
theorem Tryz.lays107 : Go.Proofs.Lays.n107 Tryz.prog Tryz.lays107_ren := {
 mixed := by kernel_rfl
 f107 := Tryz.func132.trans (congrArg some (by kernel_rfl))
 f108 := Tryz.func174.trans (congrArg some (by kernel_rfl))
 t0 := Tryz.underlying0
 a0 := Tryz.isAgg0
 z0 := Tryz.sizeOf0
 v0 := Tryz.zeroValue0
 t3 := Tryz.underlying3
 a3 := Tryz.isAgg3
 z3 := Tryz.sizeOf3
 v3 := Tryz.zeroValue3
 t4 := Tryz.underlying4
 a4 := Tryz.isAgg4
 z4 := Tryz.sizeOf4
 v4 := Tryz.zeroValue4
 t28 := Tryz.underlying163
 a28 := Tryz.isAgg163
 z28 := Tryz.sizeOf163
 v28 := Tryz.zeroValue163 }
open Go.Lib in
theorem Tryz.slices_Contains_int (b off n c : Nat) (zs : List Int) (x : Int) (w : World) (hz : n ≤ zs.length) (hbig : n ≤ 9223372036854775807) (hc : ∀ j, j < zs.length → w.cell? ⟨b, off + j, none⟩ = some (.int .i64 (zs.getD j 0))) :
  Calls Tryz.prog 132 #[.slice (some ⟨b, off, none⟩) n c, .int .i64 x] w fun e w' => e = .returned (.bool ((zs.take n).contains x)) ∧ w' = w := Any.slices_Contains_int Tryz.lays107 b off n c zs x w hz hbig hc
def Tryz.lays196_ren : Go.Shelf.Ren := ⟨fun | 196 => 171 | 259 => 214 | n => n, fun | 9 => 9 | 4 => 4 | 3 => 3 | 5 => 5 | 12 => 12 | 119 => 247 | 0 => 0 | 46 => 147 | 139 => 250 | 138 => 249 | 53 => 24 | n => n, fun | 3 => 5 | 4 => 6 | n => n⟩
theorem Tryz.lays196 : Go.Proofs.Lays.n196 Tryz.prog Tryz.lays196_ren := {
 mixed := by kernel_rfl
 f196 := Tryz.func171.trans (congrArg some (by kernel_rfl))
 f259 := Tryz.func214.trans (congrArg some (by kernel_rfl))
 t0 := Tryz.underlying0
 a0 := Tryz.isAgg0
 z0 := Tryz.sizeOf0
 v0 := Tryz.zeroValue0
 t3 := Tryz.underlying3
 a3 := Tryz.isAgg3
 z3 := Tryz.sizeOf3
 v3 := Tryz.zeroValue3
 t4 := Tryz.underlying4
 a4 := Tryz.isAgg4
 z4 := Tryz.sizeOf4
 v4 := Tryz.zeroValue4
 t5 := Tryz.underlying5
 a5 := Tryz.isAgg5
 z5 := Tryz.sizeOf5
 v5 := Tryz.zeroValue5
 t9 := Tryz.underlying9
 a9 := Tryz.isAgg9
 z9 := Tryz.sizeOf9
 v9 := Tryz.zeroValue9
 t12 := Tryz.underlying12
 a12 := Tryz.isAgg12
 z12 := Tryz.sizeOf12
 v12 := Tryz.zeroValue12
 t46 := Tryz.underlying147
 a46 := Tryz.isAgg147
 z46 := Tryz.sizeOf147
 v46 := Tryz.zeroValue147
 t53 := Tryz.underlying24
 a53 := Tryz.isAgg24
 z53 := Tryz.sizeOf24
 v53 := Tryz.zeroValue24
 t119 := Tryz.underlying247
 a119 := Tryz.isAgg247
 z119 := Tryz.sizeOf247
 t138 := Tryz.underlying249
 a138 := Tryz.isAgg249
 z138 := Tryz.sizeOf249
 v138 := Tryz.zeroValue249
 t139 := Tryz.underlying250
 a139 := Tryz.isAgg250
 z139 := Tryz.sizeOf250
 v139 := Tryz.zeroValue250
 g3 := by kernel_rfl
 g4 := by kernel_rfl }
open Go.RowKit Go.Lib in
theorem Tryz.utf8_ValidString (s : ByteArray) (w : World) (hs : s.size ≤ 9223372036854775807) (hT : Go.Lib.Utf8Tabs 5 6 w) :
  Calls Tryz.prog 171 #[.string s] w fun e w' => e = .returned (.bool (Go.Lib.validD s.data.toList)) ∧ Go.RowKit.Below w.heap.size w w' := Any.utf8_ValidString Tryz.lays196 s w hs hT
def Tryz.lays7_29_ren : Go.Shelf.Ren := ⟨fun | 29 => 144 | n => n, fun | 22 => 24 | 3 => 3 | 4 => 4 | 25 => 147 | 54 => 231 | 0 => 0 | 5 => 5 | n => n, fun | 1 => 4 | n => n⟩
theorem Tryz.lays7_29 : Go.Proofs.Lays7.n29 Tryz.prog Tryz.lays7_29_ren := {
 mixed := by kernel_rfl
 f29 := Tryz.func144.trans (congrArg some (by kernel_rfl))
 t0 := Tryz.underlying0
 a0 := Tryz.isAgg0
 z0 := Tryz.sizeOf0
 v0 := Tryz.zeroValue0
 i0 := by kernel_rfl
 t3 := Tryz.underlying3
 a3 := Tryz.isAgg3
 z3 := Tryz.sizeOf3
 v3 := Tryz.zeroValue3
 i3 := by kernel_rfl
 t4 := Tryz.underlying4
 a4 := Tryz.isAgg4
 z4 := Tryz.sizeOf4
 v4 := Tryz.zeroValue4
 i4 := by kernel_rfl
 t5 := Tryz.underlying5
 a5 := Tryz.isAgg5
 z5 := Tryz.sizeOf5
 v5 := Tryz.zeroValue5
 i5 := by kernel_rfl
 t22 := Tryz.underlying24
 a22 := Tryz.isAgg24
 z22 := Tryz.sizeOf24
 v22 := Tryz.zeroValue24
 i22 := by kernel_rfl
 t25 := Tryz.underlying147
 a25 := Tryz.isAgg147
 z25 := Tryz.sizeOf147
 v25 := Tryz.zeroValue147
 i25 := by kernel_rfl
 t54 := Tryz.underlying231
 a54 := Tryz.isAgg231
 z54 := Tryz.sizeOf231
 g1 := by kernel_rfl }
open Go.RowKit Go.Lib in
theorem Tryz.bits_TrailingZeros64 (x : Nat) (hx : x < 18446744073709551616) (w : World) (hT : x ≠ 0 → TabAt 4 Go.Lib.deBruijn64tab w) :
  Calls Tryz.prog 144 #[.int .u64 x] w fun e w' => e = .returned (.int .i64 (Go.Lib.ctz 64 x)) ∧ w' = w := Any7.bits_TrailingZeros64 Tryz.lays7_29 x hx w hT
end Go.Proofs
set_option linter.unusedVariables false
namespace Go.Tm
open Go.RowKit Go.Proofs
def strLen : Value → Nat
 | .string s => s.size
 | _ => 0
def SetAt (w : World) (b : Nat) (p : Nat → Bool) : Prop := ∀ x : UInt8, w.cell? ⟨b, x.toNat, none⟩ = some (.bool (p x.toNat))
theorem ext_tail (c : UInt8) (t : List UInt8) : (⟨(c :: t).toArray⟩ : ByteArray).extract 1 (t.length + 1) = ⟨t.toArray⟩ := by
 apply ByteArray.ext
 rw [ByteArray.data_extract]
 apply Array.ext'
 simp
theorem idx_last (c : UInt8) (u : List UInt8) (h : u.length < (⟨(u ++ [c]).toArray⟩ : ByteArray).size) : (⟨(u ++ [c]).toArray⟩ : ByteArray)[u.length] = c := by
 show (u ++ [c]).toArray[u.length] = c
 simp
theorem ext_init (c : UInt8) (u : List UInt8) : (⟨(u ++ [c]).toArray⟩ : ByteArray).extract 0 u.length = ⟨u.toArray⟩ := by
 apply ByteArray.ext
 rw [ByteArray.data_extract]
 apply Array.ext'
 simp
set_option maxRecDepth 100000 in
set_option maxHeartbeats 400000 in
theorem trimLeft_any (s : ByteArray) (b : Nat) (p : Nat → Bool) (w : World) (hs : s.size ≤ 9223372036854775807) (hb : SetAt w b p) :
  Calls Tryz.prog 194 #[.string s, .pointer (some ⟨b, 0, none⟩)] w fun e w' => e = .returned (.string ⟨(s.data.toList.dropWhile fun x => p x.toNat).toArray⟩) ∧ w' = w := by
 go_enter Tryz.func194, Tryz.ntmps194
 go_wp2
 go_loopw [0] (fun v wr => ∃ t : List UInt8, v = .string ⟨t.toArray⟩ ∧ t.length ≤ s.size ∧ (t.dropWhile fun x => p x.toNat) = (s.data.toList.dropWhile fun x => p x.toNat) ∧ wr = w)
  (fun v _ => strLen v)
 case atStart => exact ⟨s.data.toList, rfl, by simp, rfl, rfl⟩
 case round =>
  obtain ⟨t, rfl, hl, hd, rfl⟩ := hrel
  have Hd := Lib.hid hd
  clear hd
  cases t with
  | nil =>
   go_wp2
   go_ret
   exact ⟨by rw [← Hd.out]; rfl, rfl⟩
  | cons c t =>
   have hr := hb c
   cases hp : p c.toNat with
   | true =>
    rw [hp] at hr
    have hd2 : (t.dropWhile fun x => p x.toNat) = (s.data.toList.dropWhile fun x => p x.toNat) := by rw [← Hd.out, List.dropWhile_cons, hp]; rfl
    have Hd2 := Lib.hid hd2
    clear hd2
    go_wp2_with fail
    refine (Tryz.asciiSet_contains b c true _ hr).mono ?_
    rintro e w' ⟨rfl, h9⟩; replace h9 := h9.symm; subst h9
    go_wp2
    exact ⟨⟨t, by rw [ext_tail], by simp at hl; omega, Hd2.out, trivial⟩, by rw [ext_tail]; show t.toArray.size < (c :: t).toArray.size; simp⟩
   | false =>
    rw [hp] at hr
    have hd2 : c :: t = (s.data.toList.dropWhile fun x => p x.toNat) := by rw [← Hd.out, List.dropWhile_cons, hp]; rfl
    have Hd2 := Lib.hid hd2
    clear hd2
    go_wp2_with fail
    refine (Tryz.asciiSet_contains b c false _ hr).mono ?_
    rintro e w' ⟨rfl, h9⟩; replace h9 := h9.symm; subst h9
    go_wp2
    go_ret
    exact ⟨by rw [← Hd2.out]; rfl, rfl⟩
set_option maxRecDepth 100000 in
set_option maxHeartbeats 400000 in
theorem trimRight_any (s : ByteArray) (b : Nat) (p : Nat → Bool) (w : World) (hs : s.size ≤ 9223372036854775807) (hb : SetAt w b p) :
  Calls Tryz.prog 195 #[.string s, .pointer (some ⟨b, 0, none⟩)] w fun e w' => e = .returned (.string ⟨((s.data.toList.reverse.dropWhile fun x => p x.toNat).reverse).toArray⟩) ∧ w' = w := by
 go_enter Tryz.func195, Tryz.ntmps195
 go_wp2
 go_loopw [0] (fun v wr => ∃ t : List UInt8, v = .string ⟨t.reverse.toArray⟩ ∧ t.length ≤ s.size ∧ (t.dropWhile fun x => p x.toNat) = (s.data.toList.reverse.dropWhile fun x => p x.toNat) ∧ wr = w)
  (fun v _ => strLen v)
 case atStart => exact ⟨s.data.toList.reverse, by simp, by simp, rfl, rfl⟩
 case round =>
  obtain ⟨t, rfl, hl, hd, rfl⟩ := hrel
  have Hd := Lib.hid hd
  clear hd
  cases t with
  | nil =>
   go_wp2
   go_ret
   exact ⟨by rw [← Hd.out]; rfl, rfl⟩
  | cons c t =>
   have hr := hb c
   obtain ⟨u, hu⟩ : ∃ u, t.reverse = u := ⟨_, rfl⟩
   have hut : t = u.reverse := by rw [← hu, List.reverse_reverse]
   simp only [List.length_cons] at hl
   have hul : u.length < s.size := by rw [← hu, List.length_reverse]; omega
   rw [show (c :: t).reverse = u ++ [c] by rw [List.reverse_cons, hu]]
   cases hp : p c.toNat with
   | true =>
    rw [hp] at hr
    have hd2 : (t.dropWhile fun x => p x.toNat) = (s.data.toList.reverse.dropWhile fun x => p x.toNat) := by rw [← Hd.out, List.dropWhile_cons, hp]; rfl
    have Hd2 := Lib.hid hd2
    clear hd2
    go_wp2_with fail
    rw [idx_last]
    refine (Tryz.asciiSet_contains b c true _ hr).mono ?_
    rintro e w' ⟨rfl, h9⟩; replace h9 := h9.symm; subst h9
    go_wp2
    exact ⟨⟨t, by rw [ext_init, hu], by omega, Hd2.out, trivial⟩, by rw [ext_init]; show u.toArray.size < (u ++ [c]).toArray.size; simp⟩
   | false =>
    rw [hp] at hr
    have hd2 : c :: t = (s.data.toList.reverse.dropWhile fun x => p x.toNat) := by rw [← Hd.out, List.dropWhile_cons, hp]; rfl
    have Hd2 := Lib.hid hd2
    clear hd2
    go_wp2_with fail
    rw [idx_last]
    refine (Tryz.asciiSet_contains b c false _ hr).mono ?_
    rintro e w' ⟨rfl, h9⟩; replace h9 := h9.symm; subst h9
    go_wp2
    go_ret
    exact ⟨by rw [← Hd2.out, List.reverse_cons, hu]; rfl, rfl⟩
abbrev digCut : ByteArray := ⟨#[48, 49, 50, 51, 52, 53, 54, 55, 56, 57]⟩
theorem set_digits (x : UInt8) : (Lib.setCells digCut.data.toList)[x.toNat]? = some (.bool (isDig x.toNat)) := by
 rw [Lib.setCells_at]
 congr 2
 have : ∀ n : Fin 256, digCut.data.toList.contains (UInt8.ofNat n.val) = isDig n.val := by decide +kernel
 have h := this ⟨x.toNat, x.toNat_lt⟩
 simpa using h
theorem zero226 : ∀ w : World, (zeroValue 226).run Tryz.prog w = .ok (.agg (Array.replicate 256 (.bool false))) w :=
 (zero_of_info (n := 256) (by kernel_rfl)).1
set_option maxRecDepth 100000 in
set_option maxHeartbeats 400000 in
theorem trimDigits_any (s : ByteArray) (w : World) (hs : s.size ≤ 9223372036854775807) (h0 : 0 < s.size) :
  Calls Tryz.prog 141 #[.string s, .string digCut] w fun e w' => e = .returned (.string ⟨((s.data.toList.reverse.dropWhile fun x => isDig x.toNat).reverse.dropWhile fun x => isDig x.toNat).toArray⟩) ∧ Same w w' := by
 have hne : (s.toList == []) = false := by
  rw [beq_eq_false_iff_ne]
  intro e
  rw [ByteArray.toList_eq] at e
  have : s.size = 0 := by show s.data.size = 0; rw [← Array.length_toList, e]; rfl
  omega
 have z226 := zero226
 have hi226 : (Tryz.prog.info? 226).map (·.size) = some 256 := (zero_of_info (v := .agg (Array.replicate 256 (.bool false))) (n := 256) (by kernel_rfl)).2
 go_enter Tryz.func141, Tryz.ntmps141
 go_wp2_with fail
 refine (Tryz.strings_makeASCIISet zero226 digCut w (by decide) (fun j b hj => ?_)).mono ?_
 ·have := List.mem_of_getElem? hj
  exact (by decide : ∀ b ∈ digCut.data.toList, b.toNat < 128) b this
 obtain ⟨sc, hscv⟩ : ∃ sc, Lib.setCells digCut.data.toList = sc := ⟨_, rfl⟩
 have hsc : sc.size = 256 := by rw [← hscv]; exact Lib.setCells_size _
 have hs1 : sc.all (·.oneCell') = true := by rw [← hscv]; exact Lib.setCells_one _
 have hdig : ∀ x : UInt8, sc[x.toNat]? = some (.bool (isDig x.toNat)) := fun x => by rw [← hscv]; exact set_digits x
 rw [hscv]
 rintro e w' ⟨rfl, h9⟩; replace h9 := h9.symm; subst h9
 have HSC := Lib.hid hsc
 have HS1 := Lib.hid hs1
 have HI := Lib.hid hi226
 clear hscv hsc hs1 hi226
 have hh : ((w.alloc (.cells sc 226)).alloc (.cells (Array.replicate 256 (Value.bool false)) 226)).heap[w.heap.size + 1]? = some (.cells (Array.replicate 256 (Value.bool false)) 226 (0, 0)) := by
  have := World.alloc_heap_new (w.alloc (.cells sc 226)) (.cells (Array.replicate 256 (Value.bool false)) 226); simpa using this
 have HH := Lib.hid hh
 clear hh
 go_wp2_with (refine wpList_store_row rfl 226 _ _ rfl (w.heap.size + 1) sc rfl rfl 226 _ HH.out (by rw [HI.out, HSC.out]) (by rw [HSC.out]; simp) HS1.out ?_)
 have hset : ∀ x : World, Same ((w.alloc (.cells sc 226)).alloc (.cells sc 226)) x → SetAt x (w.heap.size + 1) isDig := fun x hx c => by
  refine hx.cell ?_ fun _ _ => trivial
  have := World.alloc_heap_new (w.alloc (.cells sc 226)) (.cells sc 226)
  rw [World.size_alloc] at this
  unfold World.cell?
  rw [this]
  exact hdig c
 have hrow : ((w.alloc (.cells sc 226)).alloc (.cells (Array.replicate 256 (Value.bool false)) 226)).setRow (w.heap.size + 1) sc = (w.alloc (.cells sc 226)).alloc (.cells sc 226) := by
  have := World.setRow_alloc_new (w.alloc (.cells sc 226)) (Array.replicate 256 (Value.bool false)) sc 226
  rw [World.size_alloc] at this
  exact this
 rw [hrow]
 have hsm : Same w ((w.alloc (.cells sc 226)).alloc (.cells sc 226)) := ((Keep.refl _ _).alloc _).alloc _
 generalize (w.alloc (.cells sc 226)).alloc (.cells sc 226) = W at hset hsm ⊢
 have hS := hset W (Keep.refl _ _)
 refine (trimRight_any s _ isDig W hs hS).mono ?_
 rintro e w' ⟨rfl, h9⟩; replace h9 := h9.symm; subst h9
 obtain ⟨t, ht⟩ : ∃ t, (s.data.toList.reverse.dropWhile fun x => isDig x.toNat).reverse = t := ⟨_, rfl⟩
 rw [ht]
 have htl : t.length ≤ s.size := by rw [← ht, List.length_reverse]; exact Nat.le_trans (List.dropWhile_sublist _).length_le (by rw [List.length_reverse]; exact Nat.le_refl _)
 have HT := Lib.hid ht
 clear ht hrow
 go_wp2_with fail
 refine (trimLeft_any ⟨t.toArray⟩ _ isDig _ (by show t.toArray.size ≤ _; simp; omega) hS).mono ?_
 rintro e w1 ⟨rfl, h9⟩; replace h9 := h9.symm; subst h9
 go_wp2
 go_ret
 exact ⟨by rw [HT.out]; rfl, hsm⟩
theorem dropWhile_nil {α : Type} (p : α → Bool) (l : List α) : l.dropWhile p = [] ↔ l.all p = true := by
 induction l with
 | nil => simp
 | cons x l ih =>
  rw [List.dropWhile_cons, List.all_cons]
  cases h : p x <;> simp [ih]
theorem trim_nil (l : List UInt8) : ((l.reverse.dropWhile fun x => isDig x.toNat).reverse.dropWhile fun x => isDig x.toNat) = [] ↔ l.all (fun x => isDig x.toNat) = true := by
 constructor
 ·intro h
  rw [dropWhile_nil, List.all_reverse] at h
  cases hd : l.reverse.dropWhile (fun x => isDig x.toNat) with
  | nil => rw [dropWhile_nil, List.all_reverse] at hd; exact hd
  | cons c r =>
   rw [hd, List.all_cons, Bool.and_eq_true] at h
   have := List.head?_dropWhile_not (fun x : UInt8 => isDig x.toNat) l.reverse
   rw [hd] at this
   simp [h.1] at this
 ·intro h
  rw [← List.all_reverse, ← dropWhile_nil] at h
  rw [h]; rfl
theorem all_bytesN (s : ByteArray) : (bytesN s).all isDig = s.data.toList.all (fun x => isDig x.toNat) := by
 simp [bytesN, List.all_map, Function.comp_def]
theorem str_nil {s : ByteArray} (h : 0 < s.size) : (s.toList == []) = false := by
 rw [beq_eq_false_iff_ne]
 intro e
 rw [ByteArray.toList_eq] at e
 have : s.size = 0 := by show s.data.size = 0; rw [← Array.length_toList, e]; rfl
 omega
theorem empty_of {s : ByteArray} (h : s.size = 0) : s = ⟨#[]⟩ := by
 apply ByteArray.ext
 exact Array.eq_empty_of_size_eq_zero h
set_option maxRecDepth 100000 in
set_option maxHeartbeats 400000 in
theorem natRight_any (s : ByteArray) (w : World) (hs : s.size ≤ 9223372036854775807) :
  Calls Tryz.prog 102 #[.string s] w fun e w' => e = .returned (.bool (natRight (bytesN s))) ∧ Same w w' := by
 have hsz := bytesN_length s
 rcases Nat.eq_zero_or_pos s.size with h0 | h0
 ·have := empty_of h0
  subst this
  clear hs hsz h0
  go_enter Tryz.func102, Tryz.ntmps102
  go_wp2
  go_ret
  exact ⟨by rfl, Keep.refl _ _⟩
 ·have hne := str_nil h0
  by_cases h4 : s.size ≤ 400
  ·have h4' : decide ((400 : Int) < (s.size : Int)) = false := by simp; omega
   have h0' : (0 : Int) < (s.size : Int) := by omega
   obtain ⟨c, r, hcr⟩ : ∃ c r, bytesN s = c :: r := by
    cases hb : bytesN s with
    | nil => rw [hb] at hsz; simp at hsz; omega
    | cons c r => exact ⟨c, r, rfl⟩
   have hc : (s[0]'h0).toNat = c := by rw [← nth_bytes s h0, hcr]; rfl
   obtain ⟨R, hR⟩ : ∃ R, ((s.data.toList.reverse.dropWhile fun x => isDig x.toNat).reverse.dropWhile fun x => isDig x.toNat) = R := ⟨_, rfl⟩
   have hall : (R == []) = (bytesN s).all isDig := by
    rw [all_bytesN, Bool.eq_iff_iff, beq_iff_eq, ← hR]
    exact trim_nil _
   have HR := Lib.hid hR
   by_cases hz : c = 48 ∧ 1 < s.size
   ·have hr : natRight (bytesN s) = false := by
     rw [hcr] at hsz
     unfold natRight
     rw [hcr]
     have : (1 : Nat) < (c :: r).length := by omega
     simp [hz.1] at this ⊢
     exact fun _ h => absurd this (by simpa using h)
    have HF := Lib.hid hr
    have h5 : ((c : Int) == 48) = true := by simp; omega
    have h6 : decide ((1 : Int) < (s.size : Int)) = true := by simp; omega
    clear hr hall hR hcr hsz hz
    go_enter Tryz.func102, Tryz.ntmps102
    go_wp2
    go_ret
    exact ⟨by rw [HF.out]; rfl, Keep.refl _ _⟩
   ·have hr : natRight (bytesN s) = (R == []) := by
     rw [hall]
     rw [hcr] at hsz ⊢
     unfold natRight
     have h7 : ((c :: r).head? == some 48 && decide (1 < (c :: r).length)) = false := by
      rw [hsz]
      simp only [List.head?_cons]
      rw [Bool.and_eq_false_iff]
      by_cases h8 : c = 48
      ·right; simp; omega
      ·left; simp [h8]
     rw [h7]
     simp only [List.isEmpty_cons, hsz, h4]
     simp
    have HF := Lib.hid hr
    clear hr hall hR
    by_cases h8 : c = 48
    ·have h5 : ((c : Int) == 48) = true := by simp; omega
     have h6 : decide ((1 : Int) < (s.size : Int)) = false := by simp; omega
     clear hz h8 hcr hsz
     go_enter Tryz.func102, Tryz.ntmps102
     go_wp2_with (first | (go_at_call 141; refine (trimDigits_any s _ hs h0).mono ?_; rintro e w' ⟨rfl, hk⟩; rw [HR.out]))
     go_ret
     exact ⟨by rw [HF.out]; simp, hk⟩
    ·have h5 : ((c : Int) == 48) = false := by rw [beq_eq_false_iff_ne]; omega
     clear hz h8 hcr hsz
     go_enter Tryz.func102, Tryz.ntmps102
     go_wp2_with (first | (go_at_call 141; refine (trimDigits_any s _ hs h0).mono ?_; rintro e w' ⟨rfl, hk⟩; rw [HR.out]))
     go_ret
     exact ⟨by rw [HF.out]; simp, hk⟩
  ·have h4' : decide ((400 : Int) < (s.size : Int)) = true := by simp; omega
   have hr : natRight (bytesN s) = false := by unfold natRight; simp [hsz, h4]
   have HR := Lib.hid hr
   clear hr hsz
   go_enter Tryz.func102, Tryz.ntmps102
   go_wp2
   go_ret
   exact ⟨by rw [HR.out]; rfl, Keep.refl _ _⟩
end Go.Tm
namespace Go.Tm
open Go.RowKit Go.Proofs
set_option maxRecDepth 100000 in
set_option maxHeartbeats 400000 in
theorem zero_any (w : World) : Calls Tryz.prog 101 #[] w fun e w' => e = .returned (.agg #[.bool false, .string ⟨#[48]⟩, .int .i64 0]) ∧ w' = w.alloc (.cells #[.bool false, .string ⟨#[48]⟩, .int .i64 0] 23) := by
 go_enter Tryz.func101, Tryz.ntmps101
 go_wp2
 refine bodyPost_ret (results_cell_row rfl _ _ w.heap.size 23 _ (0, 0) _ rfl (heap_alloc_last _ _) Tryz.underlying23 rfl (by kernel_rfl)) rfl ⟨rfl, rfl⟩
set_option maxRecDepth 100000 in
set_option maxHeartbeats 400000 in
theorem within_any (n m : Int) (w : World) (h : -9223372036854775807 ≤ m ∧ m ≤ 9223372036854775807) : Calls Tryz.prog 103 #[.int .i64 n, .int .i64 m] w fun e w' => e = .returned (.bool (within n m)) ∧ w' = w := by
 have hw : wrap64 (-m) = -m := IntWalk.wrap64_in _ (by omega)
 by_cases h1 : -m ≤ n
 ·go_enter Tryz.func103, Tryz.ntmps103
  go_wp2
  go_ret
  exact ⟨by simp [within, h1], rfl⟩
 ·go_enter Tryz.func103, Tryz.ntmps103
  go_wp2
  go_ret
  exact ⟨by have h2 : decide (-m ≤ n) = false := by simp; omega
            rw [within, h2]; rfl, rfl⟩
theorem suffix0 (s : ByteArray) : Lib.hasSuffix s.data.toList [48] = ((bytesN s).getLast? == some 48) := by
 unfold Lib.hasSuffix bytesN
 rw [List.getLast?_map]
 cases h : s.data.toList.getLast? with
 | none =>
  rw [List.getLast?_eq_none_iff] at h
  rw [h]; rfl
 | some c =>
  obtain ⟨l, hl⟩ := List.getLast?_eq_some_iff.1 h
  rw [hl, Bool.eq_iff_iff, List.isSuffixOf_iff_suffix]
  constructor
  ·intro h'
   obtain ⟨t, ht⟩ := h'
   have := List.append_inj_right' ht rfl
   simp at this
   simp [← this]
  ·intro h'
   simp at h'
   have : c = 48 := by
    have := congrArg UInt8.ofNat h'
    simpa using this
   exact ⟨l, by rw [this]⟩
theorem str_eq0 {a : ByteArray} (h : a = ⟨#[48]⟩) : (a.toList == [48]) = true := by have := str_eq h; simpa [ByteArray.toList_eq] using this
theorem str_ne0 {a : ByteArray} (h : ¬ a = ⟨#[48]⟩) : (a.toList == [48]) = false := by have := str_ne h; simpa [ByteArray.toList_eq] using this
set_option maxRecDepth 100000 in
set_option maxHeartbeats 4000000 in
theorem decRight_any (d : Dc) (w : World) (hs : d.digits.size ≤ 1099511627776) : Calls Tryz.prog 56 #[decV d] w fun e w' => e = .returned (.bool (decRight d)) ∧ Same w w' := by
 by_cases hz : d = zeroDc
 ·have hr : decRight d = true := by rw [hz]; decide
  have k1 : (d.neg == false) = true := by rw [hz]; rfl
  have k2 : (d.digits.toList == [48]) = true := str_eq0 (by rw [hz]; rfl)
  have k3 : (d.exp == 0) = true := by rw [hz]; rfl
  have HR := Lib.hid hr
  clear hr hz
  go_enter Tryz.func56, Tryz.ntmps56
  go_upto_region 1 with fail
  go_region_with (go_at_call 101; refine (zero_any _).mono ?_; rintro e w' ⟨rfl, rfl⟩)
  all_goals go_wp2
  all_goals go_ret
  all_goals exact ⟨by rw [HR.out]; rfl, smK⟩
 ·have hr : decRight d = (natRight (bytesN d.digits) && decide (d.digits.size ≤ 100) && within d.exp 100 && !((bytesN d.digits).getLast? == some 48)) := by
   unfold decRight; simp [hz]
  obtain ⟨r1, h1⟩ : ∃ r, natRight (bytesN d.digits) = r := ⟨_, rfl⟩
  obtain ⟨r2, h2⟩ : ∃ r, decide (d.digits.size ≤ 100) = r := ⟨_, rfl⟩
  obtain ⟨r3, h3⟩ : ∃ r, within d.exp 100 = r := ⟨_, rfl⟩
  obtain ⟨r4, h4⟩ : ∃ r, ((bytesN d.digits).getLast? == some 48) = r := ⟨_, rfl⟩
  have h2' : decide ((d.digits.size : Int) ≤ 100) = r2 := by rw [← h2]; exact decide_eq_decide.2 (by omega)
  rw [h1, h2, h3, h4] at hr
  have H1 := Lib.hid h1
  have H3 := Lib.hid h3
  have H4 := Lib.hid h4
  have HR := Lib.hid hr
  clear h1 h2 h3 h4 hr
  by_cases z1 : d.neg = false
  ·by_cases z2 : d.digits = ⟨#[48]⟩
   ·have z3 : ¬ d.exp = 0 := fun e => hz (by cases d; simp_all [zeroDc])
    have k1 : (d.neg == false) = true := by rw [z1]; rfl
    have k2 : (d.digits.toList == [48]) = true := str_eq0 z2
    have k3 : (d.exp == 0) = false := by rw [beq_eq_false_iff_ne]; exact z3
    clear z3 hz
    clear z1 z2
    go_enter Tryz.func56, Tryz.ntmps56
    go_upto_region 1 with fail
    go_region_with (go_at_call 101; refine (zero_any _).mono ?_; rintro e w' ⟨rfl, rfl⟩)
    all_goals go_wp2_with (first
     | (go_at_call 102; refine (natRight_any d.digits _ (by omega)).mono ?_; rintro e w' ⟨rfl, hk1⟩; rw [H1.out]; have hb := hk1.same w.heap.size _ (show _ = some (.cells #[.bool d.neg, .string d.digits, .int .i64 d.exp] 23 (0, 0)) from (by repeat (first | with_reducible exact heap_new' (by simp) | with_reducible refine heap_old ?_ | with_reducible refine heap_drew ?_))) trivial; obtain ⟨b0, b1, b2⟩ := cells3 hb)
     | (go_at_call 103; refine (within_any d.exp 100 _ (by omega)).mono ?_; rintro e w' ⟨rfl, h9⟩; replace h9 := h9.symm; subst h9; rw [H3.out])
     | (go_at_call 104; refine (Tryz.strings_HasSuffix d.digits ⟨#[48]⟩ _ (by omega)).mono ?_; rintro e w' ⟨rfl, h9⟩; replace h9 := h9.symm; subst h9; rw [suffix0, H4.out]))
    all_goals go_ret
    all_goals exact ⟨by rw [HR.out]; simp [*], smK⟩
   ·have k1 : (d.neg == false) = true := by rw [z1]; rfl
    have k2 : (d.digits.toList == [48]) = false := str_ne0 z2
    clear z1 z2
    go_enter Tryz.func56, Tryz.ntmps56
    go_upto_region 1 with fail
    go_region_with (go_at_call 101; refine (zero_any _).mono ?_; rintro e w' ⟨rfl, rfl⟩)
    all_goals go_wp2_with (first
     | (go_at_call 102; refine (natRight_any d.digits _ (by omega)).mono ?_; rintro e w' ⟨rfl, hk1⟩; rw [H1.out]; have hb := hk1.same w.heap.size _ (show _ = some (.cells #[.bool d.neg, .string d.digits, .int .i64 d.exp] 23 (0, 0)) from (by repeat (first | with_reducible exact heap_new' (by simp) | with_reducible refine heap_old ?_ | with_reducible refine heap_drew ?_))) trivial; obtain ⟨b0, b1, b2⟩ := cells3 hb)
     | (go_at_call 103; refine (within_any d.exp 100 _ (by omega)).mono ?_; rintro e w' ⟨rfl, h9⟩; replace h9 := h9.symm; subst h9; rw [H3.out])
     | (go_at_call 104; refine (Tryz.strings_HasSuffix d.digits ⟨#[48]⟩ _ (by omega)).mono ?_; rintro e w' ⟨rfl, h9⟩; replace h9 := h9.symm; subst h9; rw [suffix0, H4.out]))
    all_goals go_ret
    all_goals exact ⟨by rw [HR.out]; simp [*], smK⟩
  ·replace z1 : d.neg = true := by cases h : d.neg <;> simp_all
   have k1 : (d.neg == false) = false := by rw [z1]; rfl
   clear z1
   go_enter Tryz.func56, Tryz.ntmps56
   go_upto_region 1 with fail
   go_region_with (go_at_call 101; refine (zero_any _).mono ?_; rintro e w' ⟨rfl, rfl⟩)
   all_goals go_wp2_with (first
    | (go_at_call 102; refine (natRight_any d.digits _ (by omega)).mono ?_; rintro e w' ⟨rfl, hk1⟩; rw [H1.out]; have hb := hk1.same w.heap.size _ (show _ = some (.cells #[.bool d.neg, .string d.digits, .int .i64 d.exp] 23 (0, 0)) from (by repeat (first | with_reducible exact heap_new' (by simp) | with_reducible refine heap_old ?_ | with_reducible refine heap_drew ?_))) trivial; obtain ⟨b0, b1, b2⟩ := cells3 hb)
    | (go_at_call 103; refine (within_any d.exp 100 _ (by omega)).mono ?_; rintro e w' ⟨rfl, h9⟩; replace h9 := h9.symm; subst h9; rw [H3.out])
    | (go_at_call 104; refine (Tryz.strings_HasSuffix d.digits ⟨#[48]⟩ _ (by omega)).mono ?_; rintro e w' ⟨rfl, h9⟩; replace h9 := h9.symm; subst h9; rw [suffix0, H4.out]))
   all_goals go_ret
   all_goals exact ⟨by rw [HR.out]; simp [*], smK⟩
end Go.Tm
namespace Go.Tm
open Go.RowKit Go.Proofs
structure Errs where
 range : Value
 tree : Addr
 form : Addr
 keys : Addr
 ptree : Addr
abbrev errT : TypeId := 326
structure Glob (N : Nat) (E : Errs) (w : World) : Prop where
 big : 12 ≤ N
 utf : Lib.Utf8Tabs 5 6 w
 pow : Lib.TabIs Tryz.prog w "internal/strconv.uint64pow10" .u64 Lib.pow10Tab
 tz : TabAt 4 Lib.deBruijn64tab w
 range : ∃ tp p, w.var? Tryz.prog "strconv.ErrRange" = some #[.iface tp p]
 syn : ∃ tp p, w.var? Tryz.prog "strconv.ErrSyntax" = some #[.iface tp p]
 tree : w.cell? ⟨1, 0, none⟩ = some (.iface errT (.pointer (some E.tree)))
 form : w.cell? ⟨2, 0, none⟩ = some (.iface errT (.pointer (some E.form)))
 keys : w.cell? ⟨3, 0, none⟩ = some (.iface errT (.pointer (some E.keys)))
 ptree : w.cell? ⟨0, 0, none⟩ = some (.iface errT (.pointer (some E.ptree)))
 obj : ∀ a, a = E.tree ∨ a = E.form ∨ a = E.keys ∨ a = E.ptree → a.block < N ∧ ∃ c t, w.heap[a.block]? = some (.cells c t (0, 0))
 apart : E.tree ≠ E.form ∧ E.keys ≠ E.ptree
theorem var_keep {K : Nat → Obj → Prop} {w w' : World} {N : Nat} (hk : Keep K w w') (hK : ∀ b, b < N → ∀ o, K b o) (hN : 12 ≤ N) {n : String} {g : Nat} (hg : Tryz.prog.globalNamed n = some g) (hg2 : g < 12) {cs : Array Value} (h : w.var? Tryz.prog n = some cs) : w'.var? Tryz.prog n = some cs := by
 unfold World.var? at h ⊢
 rw [hg] at h ⊢
 simp only [Option.bind_some] at h ⊢
 cases ho : w.heap[g]? with
 | none => rw [ho] at h; cases h
 | some o =>
  rw [hk.same _ _ ho (hK g (by omega) o)]
  rw [ho] at h
  exact h
theorem Glob.keep {K : Nat → Obj → Prop} {w w' : World} {N : Nat} {E : Errs} (h : Glob N E w) (hk : Keep K w w') (hK : ∀ b, b < N → ∀ o, K b o) : Glob N E w' := by
 have hN := h.big
 have cell : ∀ (g j : Nat) (v : Value), g < 12 → w.cell? ⟨g, j, none⟩ = some v → w'.cell? ⟨g, j, none⟩ = some v := fun g j v hg hc => hk.cell hc fun o _ => hK _ (Nat.lt_of_lt_of_le hg hN) o
 refine ⟨h.big, ⟨fun c hc => cell 5 _ _ (by decide) (h.utf.1 c hc), fun i hi => ⟨cell 6 _ _ (by decide) (h.utf.2 i hi).1, cell 6 _ _ (by decide) (h.utf.2 i hi).2⟩⟩, var_keep hk hK hN (g := 10) (by kernel_rfl) (by decide) h.pow, fun j hj => cell 4 _ _ (by decide) (h.tz j hj), ?_, ?_,
  cell 1 _ _ (by decide) h.tree, cell 2 _ _ (by decide) h.form, cell 3 _ _ (by decide) h.keys, cell 0 _ _ (by decide) h.ptree, ?_, h.apart⟩
 ·obtain ⟨tp, p, h⟩ := h.range; exact ⟨tp, p, var_keep hk hK hN (g := 8) (by kernel_rfl) (by decide) h⟩
 ·obtain ⟨tp, p, h⟩ := h.syn; exact ⟨tp, p, var_keep hk hK hN (g := 7) (by kernel_rfl) (by decide) h⟩
 ·intro a ha
  obtain ⟨h1, c, t, h2⟩ := h.obj a ha
  exact ⟨h1, c, t, hk.same _ _ h2 (hK _ h1 _)⟩
theorem Glob.same {w w' : World} {N : Nat} {E : Errs} (h : Glob N E w) (hk : Same w w') : Glob N E w' := h.keep hk fun _ _ _ => trivial
theorem valOf_from : ∀ (l : List Nat) (a : Nat), l.foldl (fun v c => 10 * v + (c - 48)) a = a * 10 ^ l.length + valOf l
 | [], a => by simp [valOf]
 | c :: l, a => by
  unfold valOf
  simp only [List.foldl_cons, List.length_cons]
  rw [valOf_from l (10 * a + (c - 48)), valOf_from l (10 * 0 + (c - 48)), Nat.mul_zero, Nat.zero_add, Nat.pow_succ, Nat.add_mul, Nat.mul_comm (10 : Nat) a, Nat.mul_assoc, Nat.mul_comm 10 (10 ^ l.length), Nat.add_assoc]
theorem parse_digits : ∀ (l : List UInt8) (a : Nat), (l.map (·.toNat)).all isDig = true → a ≤ 18446744073709551615 →
  Lib.parseUintM 18446744073709551615 a l = if (l.map (·.toNat)).foldl (fun v c => 10 * v + (c - 48)) a < 18446744073709551616 then .ok ((l.map (·.toNat)).foldl (fun v c => 10 * v + (c - 48)) a) else .range
 | [], a, _, ha => by simp [Lib.parseUintM]; omega
 | c :: l, a, h, ha => by
  simp only [List.map_cons, List.all_cons, Bool.and_eq_true] at h
  have hc : 48 ≤ c.toNat ∧ c.toNat ≤ 57 := by simpa [isDig] using h.1
  have hge : 10 * a + (c.toNat - 48) ≤ (l.map (·.toNat)).foldl (fun v c => 10 * v + (c - 48)) (10 * a + (c.toNat - 48)) := by
   rw [valOf_from]
   exact Nat.le_trans (Nat.le_mul_of_pos_right _ (Nat.pow_pos (by decide))) (Nat.le_add_right _ _)
  unfold Lib.parseUintM
  rw [if_pos hc]
  simp only [List.map_cons, List.foldl_cons]
  by_cases h1 : 1844674407370955162 ≤ a
  ·rw [if_pos h1, if_neg (by omega)]
  ·rw [if_neg h1]
   by_cases h2 : 18446744073709551615 < a * 10 + (c.toNat - 48)
   ·rw [if_pos h2, if_neg (by omega)]
   ·rw [if_neg h2, parse_digits l _ h.2 (by omega), Nat.mul_comm a 10]
theorem parse_right (s : ByteArray) (h : natRight (bytesN s) = true) : Lib.parseUintB 64 s.data.toList = if valOf (bytesN s) < 18446744073709551616 then .ok (valOf (bytesN s)) else .range := by
 unfold natRight at h
 simp only [Bool.and_eq_true, Bool.not_eq_true', List.isEmpty_eq_false_iff] at h
 obtain ⟨⟨⟨h1, _⟩, _⟩, h4⟩ := h
 unfold Lib.parseUintB
 rw [if_neg (fun e => h1 (by simp [bytesN, e]))]
 exact parse_digits s.data.toList 0 h4 (by decide)
set_option maxRecDepth 100000 in
set_option maxHeartbeats 400000 in
theorem natTo_any {N : Nat} {E : Errs} (s : ByteArray) (w : World) (hG : Glob N E w) (hs : s.size ≤ 2199023255552) :
  Calls Tryz.prog 134 #[.string s] w fun e w' => e = .returned (.tuple #[.int .u64 (natTo (bytesN s)).1, .bool (natTo (bytesN s)).2]) ∧ Same w w' := by
 obtain ⟨r, hr⟩ : ∃ r, natRight (bytesN s) = r := ⟨_, rfl⟩
 have HR := Lib.hid hr
 cases r with
 | false =>
  have ht : natTo (bytesN s) = (0, false) := by unfold natTo; rw [hr]; rfl
  have HT := Lib.hid ht
  clear hr ht
  go_enter Tryz.func134, Tryz.ntmps134
  go_wp2_with (first | (go_at_call 102; refine (natRight_any s _ (by omega)).mono ?_; rintro e w' ⟨rfl, hk1⟩; rw [HR.out]))
  go_ret2
  exact ⟨by rw [HT.out]; rfl, smK⟩
 | true =>
  have hp := parse_right s hr
  by_cases hv : valOf (bytesN s) < 18446744073709551616
  ·rw [if_pos hv] at hp
   have ht : natTo (bytesN s) = (valOf (bytesN s), true) := by unfold natTo; rw [hr]; simp [hv]
   have HT := Lib.hid ht
   have HP := Lib.hid hp
   clear hr ht hp
   go_enter Tryz.func134, Tryz.ntmps134
   go_wp2_with (first
    | (go_at_call 102; refine (natRight_any s _ (by omega)).mono ?_; rintro e w' ⟨rfl, hk1⟩; rw [HR.out])
    | (go_at_call 176; refine (Tryz.strconv_ParseUint_10_at64_ok s (by omega) _ HP.out _).mono ?_; rintro e w' ⟨rfl, hk2⟩))
   go_ret2
   refine ⟨by rw [HT.out]; rfl, hk1.trans ?_⟩
   rcases hk2 with rfl | rfl
   ·exact Keep.refl _ _
   ·exact Keep.of_below (Lib.bytesWorld_below _ _ _)
  ·rw [if_neg hv] at hp
   have ht : natTo (bytesN s) = (0, false) := by unfold natTo; rw [hr]; simp [hv]
   have HT := Lib.hid ht
   have HP := Lib.hid hp
   clear hr ht hp
   obtain ⟨tp, p, hvar⟩ := hG.range
   have HV := Lib.hid hvar
   clear hvar
   go_enter Tryz.func134, Tryz.ntmps134
   go_wp2_with (first
    | (go_at_call 102; refine (natRight_any s _ (by omega)).mono ?_; rintro e w' ⟨rfl, hk1⟩; rw [HR.out])
    | (go_at_call 176; refine (Tryz.strconv_ParseUint_10_at64_range_var s (by omega) HP.out tp p _ (var_keep hk1 (N := 12) (fun _ _ _ => trivial) (by decide) (by kernel_rfl) (show 8 < 12 by decide) HV.out)).mono ?_; rintro e w' ⟨M, rfl, hM, hh, hk2⟩))
   go_ret2
   exact ⟨by rw [HT.out]; rfl, hk1.trans (Keep.of_below hk2)⟩
theorem repeat48 : ∀ n : Nat, Lib.repeatL [48] n = List.replicate n 48
 | 0 => rfl
 | n + 1 => by
  have := repeat48 n
  simp only [Lib.repeatL, this, List.replicate_succ]
  rfl
end Go.Tm
namespace Go.Tm
open Go.RowKit Go.Proofs
def digs (d : Dc) : ByteArray := d.digits ++ ⟨Array.replicate d.exp.toNat (48 : UInt8)⟩
theorem digs_bytes (d : Dc) : bytesN (digs d) = bytesN d.digits ++ List.replicate d.exp.toNat 48 := by
 unfold digs bytesN
 rw [ByteArray.data_append]
 simp
theorem digs_size (d : Dc) : (digs d).size = d.digits.size + d.exp.toNat := by
 unfold digs
 rw [ByteArray.size_append]
 congr 1
 show (Array.replicate d.exp.toNat (48 : UInt8)).size = _
 simp
theorem repeat0_any (e : Int) (w : World) (h0 : 0 ≤ e) (h1 : e ≤ 1000000) :
  Calls Tryz.prog 135 #[.string ⟨#[48]⟩, .int .i64 e] w fun x w' => x = .returned (.string ⟨(List.replicate e.toNat (48 : UInt8)).toArray⟩) ∧ Same w w' := by
 obtain ⟨n, rfl⟩ := Int.eq_ofNat_of_zero_le h0
 refine (Tryz.strings_Repeat ⟨#[48]⟩ n w (by omega) (by show 1 * n ≤ _; omega)).mono ?_
 rintro x w' ⟨rfl, hb⟩
 exact ⟨by rw [← repeat48]; rfl, Keep.of_below hb⟩
set_option maxRecDepth 100000 in
set_option maxHeartbeats 4000000 in
theorem toInt_any {N : Nat} {E : Errs} (d : Dc) (w : World) (hG : Glob N E w) (hs : d.digits.size ≤ 1099511627776) :
  Calls Tryz.prog 93 #[decV d] w fun e w' => e = .returned (.tuple #[.bool (toInt d).1, .int .u64 (toInt d).2.1, .bool (toInt d).2.2]) ∧ Same w w' := by
 obtain ⟨r, hr⟩ : ∃ r, decRight d = r := ⟨_, rfl⟩
 have HR := Lib.hid hr
 by_cases hbad : r = true ∧ 0 ≤ d.exp ∧ d.exp ≤ 20
 ·obtain ⟨h1, h2, h3⟩ := hbad
  subst h1
  have k1 : decide (d.exp < 0) = false := by simp; omega
  have k2 : decide (20 < d.exp) = false := by simp; omega
  have ht : toInt d = ((natTo (bytesN (digs d))).2 && d.neg, natTo (bytesN (digs d))) := by unfold toInt; rw [hr, k1, k2, digs_bytes]; rfl
  obtain ⟨v, hv⟩ : ∃ v, natTo (bytesN (digs d)) = v := ⟨_, rfl⟩
  have hsz := digs_size d
  have hrep : d.digits ++ ⟨Array.replicate d.exp.toNat (48 : UInt8)⟩ = digs d := rfl
  rw [hv] at ht
  have HT := Lib.hid ht
  have HV := Lib.hid hv
  have HP := Lib.hid hrep
  have HS := Lib.hid hsz
  clear hr ht hv hsz hrep
  go_enter Tryz.func93, Tryz.ntmps93
  go_wp2_with (first
   | (go_at_call 56; refine (decRight_any d _ hs).mono ?_; rintro e w' ⟨rfl, hk1⟩; rw [HR.out]; have hb := hk1.same w.heap.size _ (show _ = some (.cells #[.bool d.neg, .string d.digits, .int .i64 d.exp] 23 (0, 0)) from (by repeat (first | with_reducible exact heap_new' (by simp) | with_reducible refine heap_old ?_ | with_reducible refine heap_drew ?_))) trivial; obtain ⟨b0, b1, b2⟩ := cells3 hb))
  go_region_with (first
   | (go_at_call 135; refine (repeat0_any d.exp _ h2 (by omega)).mono ?_; rintro e w2 ⟨rfl, hk2⟩; have hb := hk2.same w.heap.size _ (show _ = some (.cells #[.bool d.neg, .string d.digits, .int .i64 d.exp] 23 (0, 0)) from hb) trivial; obtain ⟨b0, b1, b2⟩ := cells3 hb)
   | (go_at_call 134; rw [HP.out]; refine (natTo_any (digs d) _ ((hG.same ((Keep.refl _ _).alloc _)).same (hk1.drew.trans hk2)) (by have := HS.out; omega)).mono ?_; rintro e w3 ⟨rfl, hk3⟩; rw [HV.out]; have hb3 := hk3.same w.heap.size _ (show _ = some (.cells #[.bool d.neg, .string d.digits, .int .i64 d.exp] 23 (0, 0)) from hb) trivial; obtain ⟨e0, e1, e2⟩ := cells3 hb3))
  all_goals go_wp2
  all_goals go_ret3
  all_goals exact ⟨by rw [HT.out]; simp [*], smK⟩
 ·have ht : toInt d = (false, 0, false) := by
   unfold toInt; rw [hr, if_pos]
   cases r <;> simp at hbad ⊢
   omega
  have HT := Lib.hid ht
  clear ht hr
  cases r with
  | false =>
   go_enter Tryz.func93, Tryz.ntmps93
   go_wp2_with (first
    | (go_at_call 56; refine (decRight_any d _ hs).mono ?_; rintro e w' ⟨rfl, hk1⟩; rw [HR.out]; have hb := hk1.same w.heap.size _ (show _ = some (.cells #[.bool d.neg, .string d.digits, .int .i64 d.exp] 23 (0, 0)) from (by repeat (first | with_reducible exact heap_new' (by simp) | with_reducible refine heap_old ?_ | with_reducible refine heap_drew ?_))) trivial; obtain ⟨b0, b1, b2⟩ := cells3 hb))
   go_ret3
   exact ⟨by rw [HT.out]; rfl, smK⟩
  | true =>
   by_cases hneg : d.exp < 0
   ·have k1 : decide (d.exp < 0) = true := by simpa using hneg
    go_enter Tryz.func93, Tryz.ntmps93
    go_wp2_with (first
     | (go_at_call 56; refine (decRight_any d _ hs).mono ?_; rintro e w' ⟨rfl, hk1⟩; rw [HR.out]; have hb := hk1.same w.heap.size _ (show _ = some (.cells #[.bool d.neg, .string d.digits, .int .i64 d.exp] 23 (0, 0)) from (by repeat (first | with_reducible exact heap_new' (by simp) | with_reducible refine heap_old ?_ | with_reducible refine heap_drew ?_))) trivial; obtain ⟨b0, b1, b2⟩ := cells3 hb))
    go_ret3
    exact ⟨by rw [HT.out]; rfl, smK⟩
   ·have k1 : decide (d.exp < 0) = false := by simpa using hneg
    have k2 : decide (20 < d.exp) = true := by simp; simp at hbad; omega
    go_enter Tryz.func93, Tryz.ntmps93
    go_wp2_with (first
     | (go_at_call 56; refine (decRight_any d _ hs).mono ?_; rintro e w' ⟨rfl, hk1⟩; rw [HR.out]; have hb := hk1.same w.heap.size _ (show _ = some (.cells #[.bool d.neg, .string d.digits, .int .i64 d.exp] 23 (0, 0)) from (by repeat (first | with_reducible exact heap_new' (by simp) | with_reducible refine heap_old ?_ | with_reducible refine heap_drew ?_))) trivial; obtain ⟨b0, b1, b2⟩ := cells3 hb))
    go_ret3
    exact ⟨by rw [HT.out]; rfl, smK⟩
end Go.Tm
namespace Go.Tm
open Go.RowKit Go.Proofs
set_option maxRecDepth 100000 in
set_option maxHeartbeats 400000 in
theorem has_any (id : Int) (b c : Nat) (zs : List Int) (arr : Array Value) (t : TypeId) (f : Nat × Nat) (w : World) (n : Nat) (hn : n = zs.length) (hz : zs.length ≤ 100) (hb : w.heap[b]? = some (.cells arr t f)) (ha : arr.toList = zs.map (Value.int .i64)) :
  Calls Tryz.prog 91 #[.agg #[.int .i64 id], .slice (some ⟨b, 0, none⟩) n c] w fun e w' => e = .returned (.bool (zs.contains id)) ∧ Same w w' := by
 subst hn
 have hc : ∀ j, j < zs.length → w.cell? ⟨b, 0 + j, none⟩ = some (.int .i64 (zs.getD j 0)) := fun j hj => by
  unfold World.cell?
  rw [hb]
  show arr[0 + j]? = _
  rw [Nat.zero_add, ← Array.getElem?_toList, ha, List.getElem?_map, List.getElem?_eq_getElem hj]
  simp [List.getD_eq_getElem?_getD, List.getElem?_eq_getElem hj]
 go_enter Tryz.func91, Tryz.ntmps91
 go_wp2_with (first | (go_at_call 132; refine (Tryz.slices_Contains_int b 0 zs.length c zs id _ (Nat.le_refl _) (by omega) (fun j hj => alloc_cell (hc j hj) _)).mono ?_; rintro e w' ⟨rfl, h9⟩; replace h9 := h9.symm; subst h9))
 go_ret
 exact ⟨by simp, smK⟩
set_option maxRecDepth 100000 in
set_option maxHeartbeats 400000 in
theorem isNull_any (id : Int) (h : Hd) (l : List Tree) (S : Nat → Prop) (lv : Value) (w : World) (hl : RepS S w l lv) :
  Calls Tryz.prog 77 #[.agg #[.int .i64 id], nodeV h lv] w fun e w' => e = .returned (.bool (bareT (.node h l) (bareHd 0))) ∧ Same w w' := by
 obtain ⟨a, cap, rfl⟩ := hl.is_slice
 go_enter Tryz.func77, Tryz.ntmps77
 go_wp2_with (first | (go_at_call 122; refine (bare_any h (bareHd 0) l S _ _ (hl.same smK)).mono ?_; rintro e w' ⟨rfl, hk1⟩))
 go_ret
 exact ⟨rfl, smK⟩
set_option maxRecDepth 100000 in
set_option maxHeartbeats 400000 in
theorem isBool_any (id : Int) (h : Hd) (l : List Tree) (S : Nat → Prop) (lv : Value) (w : World) (hl : RepS S w l lv) :
  Calls Tryz.prog 78 #[.agg #[.int .i64 id], nodeV h lv] w fun e w' => e = .returned (.bool (bareT (.node h l) { bareHd 0 with b := h.b })) ∧ Same w w' := by
 obtain ⟨a, cap, rfl⟩ := hl.is_slice
 go_enter Tryz.func78, Tryz.ntmps78
 go_wp2_with (first | (go_at_call 122; refine (bare_any h { bareHd 0 with b := h.b } l S _ _ (hl.same smK)).mono ?_; rintro e w' ⟨rfl, hk1⟩))
 go_ret
 exact ⟨rfl, smK⟩
set_option maxRecDepth 100000 in
set_option maxHeartbeats 400000 in
theorem isArray_any (id : Int) (h : Hd) (l : List Tree) (S : Nat → Prop) (lv : Value) (w : World) (hl : RepS S w l lv) :
  Calls Tryz.prog 83 #[.agg #[.int .i64 id], nodeV h lv] w fun e w' => e = .returned (.bool (bareT (.node h []) (bareHd 0))) ∧ Same w w' := by
 obtain ⟨a, cap, rfl⟩ := hl.is_slice
 go_enter Tryz.func83, Tryz.ntmps83
 go_wp2_with (first | (go_at_call 122; refine (bare_any h (bareHd 0) [] S _ _ (RepS.nil _ _)).mono ?_; rintro e w' ⟨rfl, hk1⟩))
 go_ret
 exact ⟨rfl, smK⟩
theorem dec_nat (n m : Nat) : decide ((n : Int) ≤ (m : Int)) = decide (n ≤ m) := decide_eq_decide.2 (by omega)
theorem dec_lt (n m : Nat) : decide ((n : Int) < (m : Int)) = decide (n < m) := decide_eq_decide.2 (by omega)
theorem beq_nat (n m : Nat) : ((n : Int) == (m : Int)) = decide (n = m) := by rw [Bool.eq_iff_iff]; simp; omega
set_option maxRecDepth 100000 in
set_option maxHeartbeats 400000 in
theorem utfRight_any {N : Nat} {E : Errs} (s : ByteArray) (w : World) (hG : Glob N E w) (hs : s.size ≤ 1099511627776) :
  Calls Tryz.prog 123 #[.string s] w fun e w' => e = .returned (.bool (utfRight s)) ∧ Same w w' := by
 have hu := hG.utf
 go_enter Tryz.func123, Tryz.ntmps123
 go_wp2_with (first | (go_at_call 171; refine (Tryz.utf8_ValidString s _ (by omega) hu).mono ?_; rintro e w' ⟨rfl, hbl⟩))
 go_ret
 exact ⟨rfl, Keep.of_below hbl⟩
set_option maxRecDepth 100000 in
set_option maxHeartbeats 1000000 in
theorem isNum_any {N : Nat} {E : Errs} (id : Int) (h : Hd) (l : List Tree) (S : Nat → Prop) (lv : Value) (w : World) (hG : Glob N E w) (ho : h.ok) (hl : RepS S w l lv) :
  Calls Tryz.prog 79 #[.agg #[.int .i64 id], nodeV h lv] w fun e w' => e = .returned (.bool (bareT (.node h l) { bareHd 0 with d := h.d } && decRight h.d)) ∧ Same w w' := by
 obtain ⟨a, cap, rfl⟩ := hl.is_slice
 have hlen := hl.shape.1
 obtain ⟨ho1, ho2, ho3, ho4, ho5, ho6⟩ := ho
 obtain ⟨r0, h0⟩ : ∃ r, bareT (.node h l) { bareHd 0 with d := h.d } = r := ⟨_, rfl⟩
 have H0 := Lib.hid h0
 obtain ⟨r1, h1⟩ : ∃ r, decRight h.d = r := ⟨_, rfl⟩
 have H1 := Lib.hid h1
 clear h1
 clear h0
 go_enter Tryz.func79, Tryz.ntmps79
 go_wp2_with (first
  | (go_at_call 122; refine (bare_any h { bareHd 0 with d := h.d } l S _ _ (hl.same smK)).mono ?_; rintro e w1 ⟨rfl, hk1⟩; rw [H0.out]; have hb := hk1.same (w.heap.size + 1) _ (show _ = some (.cells #[.int .i64 h.kind, .bool h.b, .bool h.d.neg, .string h.d.digits, .int .i64 h.d.exp, .int .u64 h.u, .int .i64 h.w, .string h.s, .slice a l.length cap] 27 (0, 0)) from (by repeat (first | with_reducible exact heap_new' (by simp) | with_reducible refine heap_old ?_ | with_reducible refine heap_drew ?_))) trivial; obtain ⟨n0, n1, n2, n3, n4, n5, n6, n7, n8⟩ := cells9 hb)
  | (go_at_call 56; refine (decRight_any h.d _ (by omega)).mono ?_; rintro e w2 ⟨rfl, hk2⟩; rw [H1.out]))
 all_goals go_ret
 all_goals exact ⟨by rw [H0.out, H1.out]; simp [*], smK⟩
set_option maxRecDepth 100000 in
set_option maxHeartbeats 1000000 in
theorem isText_any {N : Nat} {E : Errs} (id : Int) (h : Hd) (l : List Tree) (S : Nat → Prop) (lv : Value) (w : World) (hG : Glob N E w) (ho : h.ok) (hl : RepS S w l lv) :
  Calls Tryz.prog 81 #[.agg #[.int .i64 id], nodeV h lv] w fun e w' => e = .returned (.bool (bareT (.node h l) { bareHd 0 with s := h.s } && decide (h.s.size ≤ 400) && utfRight h.s)) ∧ Same w w' := by
 obtain ⟨a, cap, rfl⟩ := hl.is_slice
 have hlen := hl.shape.1
 obtain ⟨ho1, ho2, ho3, ho4, ho5, ho6⟩ := ho
 obtain ⟨r0, h0⟩ : ∃ r, bareT (.node h l) { bareHd 0 with s := h.s } = r := ⟨_, rfl⟩
 have H0 := Lib.hid h0
 obtain ⟨r1, h1⟩ : ∃ r, utfRight h.s = r := ⟨_, rfl⟩
 have H1 := Lib.hid h1
 obtain ⟨r2, h2⟩ : ∃ r, decide (h.s.size ≤ 400) = r := ⟨_, rfl⟩
 have h2' : decide ((h.s.size : Int) ≤ 400) = r2 := by rw [← h2]; exact dec_nat _ _
 have H2 := Lib.hid h2
 clear h1 h2
 clear h0
 go_enter Tryz.func81, Tryz.ntmps81
 go_wp2_with (first
  | (go_at_call 122; refine (bare_any h { bareHd 0 with s := h.s } l S _ _ (hl.same smK)).mono ?_; rintro e w1 ⟨rfl, hk1⟩; rw [H0.out]; have hb := hk1.same (w.heap.size + 1) _ (show _ = some (.cells #[.int .i64 h.kind, .bool h.b, .bool h.d.neg, .string h.d.digits, .int .i64 h.d.exp, .int .u64 h.u, .int .i64 h.w, .string h.s, .slice a l.length cap] 27 (0, 0)) from (by repeat (first | with_reducible exact heap_new' (by simp) | with_reducible refine heap_old ?_ | with_reducible refine heap_drew ?_))) trivial; obtain ⟨n0, n1, n2, n3, n4, n5, n6, n7, n8⟩ := cells9 hb)
  | (go_at_call 123; refine (utfRight_any h.s _ (hG.same smK) (by omega)).mono ?_; rintro e w2 ⟨rfl, hk2⟩; rw [H1.out]))
 all_goals go_ret
 all_goals exact ⟨by rw [H0.out, H2.out, H1.out]; simp [*], smK⟩
set_option maxRecDepth 100000 in
set_option maxHeartbeats 1000000 in
theorem isBytes_any {N : Nat} {E : Errs} (id : Int) (h : Hd) (l : List Tree) (S : Nat → Prop) (lv : Value) (w : World) (hG : Glob N E w) (ho : h.ok) (hl : RepS S w l lv) :
  Calls Tryz.prog 82 #[.agg #[.int .i64 id], nodeV h lv] w fun e w' => e = .returned (.bool (bareT (.node h l) { bareHd 0 with s := h.s } && decide (h.s.size ≤ 400))) ∧ Same w w' := by
 obtain ⟨a, cap, rfl⟩ := hl.is_slice
 have hlen := hl.shape.1
 obtain ⟨ho1, ho2, ho3, ho4, ho5, ho6⟩ := ho
 obtain ⟨r0, h0⟩ : ∃ r, bareT (.node h l) { bareHd 0 with s := h.s } = r := ⟨_, rfl⟩
 have H0 := Lib.hid h0
 obtain ⟨r2, h2⟩ : ∃ r, decide (h.s.size ≤ 400) = r := ⟨_, rfl⟩
 have h2' : decide ((h.s.size : Int) ≤ 400) = r2 := by rw [← h2]; exact dec_nat _ _
 have H2 := Lib.hid h2
 clear h2
 clear h0
 go_enter Tryz.func82, Tryz.ntmps82
 go_wp2_with (first
  | (go_at_call 122; refine (bare_any h { bareHd 0 with s := h.s } l S _ _ (hl.same smK)).mono ?_; rintro e w1 ⟨rfl, hk1⟩; rw [H0.out]; have hb := hk1.same (w.heap.size + 1) _ (show _ = some (.cells #[.int .i64 h.kind, .bool h.b, .bool h.d.neg, .string h.d.digits, .int .i64 h.d.exp, .int .u64 h.u, .int .i64 h.w, .string h.s, .slice a l.length cap] 27 (0, 0)) from (by repeat (first | with_reducible exact heap_new' (by simp) | with_reducible refine heap_old ?_ | with_reducible refine heap_drew ?_))) trivial; obtain ⟨n0, n1, n2, n3, n4, n5, n6, n7, n8⟩ := cells9 hb))
 all_goals go_ret
 all_goals exact ⟨by rw [H0.out, H2.out]; simp [*], smK⟩
set_option maxRecDepth 100000 in
set_option maxHeartbeats 1000000 in
theorem isExt_any {N : Nat} {E : Errs} (id : Int) (h : Hd) (l : List Tree) (S : Nat → Prop) (lv : Value) (w : World) (hG : Glob N E w) (ho : h.ok) (hl : RepS S w l lv) :
  Calls Tryz.prog 87 #[.agg #[.int .i64 id], nodeV h lv] w fun e w' => e = .returned (.bool (bareT (.node h l) { bareHd 0 with u := h.u, s := h.s } && decide (h.u ≤ 255) && decide (h.s.size ≤ 400))) ∧ Same w w' := by
 obtain ⟨a, cap, rfl⟩ := hl.is_slice
 have hlen := hl.shape.1
 obtain ⟨ho1, ho2, ho3, ho4, ho5, ho6⟩ := ho
 obtain ⟨r0, h0⟩ : ∃ r, bareT (.node h l) { bareHd 0 with u := h.u, s := h.s } = r := ⟨_, rfl⟩
 have H0 := Lib.hid h0
 obtain ⟨r1, h1⟩ : ∃ r, decide (h.u ≤ 255) = r := ⟨_, rfl⟩
 have h1' : decide ((h.u : Int) ≤ 255) = r1 := by rw [← h1]; exact dec_nat _ _
 have H1 := Lib.hid h1
 obtain ⟨r2, h2⟩ : ∃ r, decide (h.s.size ≤ 400) = r := ⟨_, rfl⟩
 have h2' : decide ((h.s.size : Int) ≤ 400) = r2 := by rw [← h2]; exact dec_nat _ _
 have H2 := Lib.hid h2
 clear h1 h2
 clear h0
 go_enter Tryz.func87, Tryz.ntmps87
 go_wp2_with (first
  | (go_at_call 122; refine (bare_any h { bareHd 0 with u := h.u, s := h.s } l S _ _ (hl.same smK)).mono ?_; rintro e w1 ⟨rfl, hk1⟩; rw [H0.out]; have hb := hk1.same (w.heap.size + 1) _ (show _ = some (.cells #[.int .i64 h.kind, .bool h.b, .bool h.d.neg, .string h.d.digits, .int .i64 h.d.exp, .int .u64 h.u, .int .i64 h.w, .string h.s, .slice a l.length cap] 27 (0, 0)) from (by repeat (first | with_reducible exact heap_new' (by simp) | with_reducible refine heap_old ?_ | with_reducible refine heap_drew ?_))) trivial; obtain ⟨n0, n1, n2, n3, n4, n5, n6, n7, n8⟩ := cells9 hb))
 all_goals go_ret
 all_goals exact ⟨by rw [H0.out, H1.out, H2.out]; simp [*], smK⟩
set_option maxRecDepth 100000 in
set_option maxHeartbeats 1000000 in
theorem isSimple_any {N : Nat} {E : Errs} (id : Int) (h : Hd) (l : List Tree) (S : Nat → Prop) (lv : Value) (w : World) (hG : Glob N E w) (ho : h.ok) (hl : RepS S w l lv) :
  Calls Tryz.prog 86 #[.agg #[.int .i64 id], nodeV h lv] w fun e w' => e = .returned (.bool (bareT (.node h l) { bareHd 0 with u := h.u } && decide (h.u ≤ 255) && (decide (h.u < 20) || decide (h.u = 23) || decide (31 < h.u)))) ∧ Same w w' := by
 obtain ⟨a, cap, rfl⟩ := hl.is_slice
 have hlen := hl.shape.1
 obtain ⟨ho1, ho2, ho3, ho4, ho5, ho6⟩ := ho
 obtain ⟨r0, h0⟩ : ∃ r, bareT (.node h l) { bareHd 0 with u := h.u } = r := ⟨_, rfl⟩
 have H0 := Lib.hid h0
 obtain ⟨r1, h1⟩ : ∃ r, decide (h.u ≤ 255) = r := ⟨_, rfl⟩
 have h1' : decide ((h.u : Int) ≤ 255) = r1 := by rw [← h1]; exact dec_nat _ _
 have H1 := Lib.hid h1
 obtain ⟨r2, h2⟩ : ∃ r, decide (h.u < 20) = r := ⟨_, rfl⟩
 have h2' : decide ((h.u : Int) < 20) = r2 := by rw [← h2]; exact dec_lt _ _
 have H2 := Lib.hid h2
 obtain ⟨r3, h3⟩ : ∃ r, decide (h.u = 23) = r := ⟨_, rfl⟩
 have h3' : ((h.u : Int) == 23) = r3 := by rw [← h3]; exact beq_nat _ _
 have H3 := Lib.hid h3
 obtain ⟨r4, h4⟩ : ∃ r, decide (31 < h.u) = r := ⟨_, rfl⟩
 have h4' : decide ((31 : Int) < (h.u : Int)) = r4 := by rw [← h4]; exact dec_lt _ _
 have H4 := Lib.hid h4
 clear h1 h2 h3 h4
 clear h0
 go_enter Tryz.func86, Tryz.ntmps86
 go_wp2_with (first
  | (go_at_call 122; refine (bare_any h { bareHd 0 with u := h.u } l S _ _ (hl.same smK)).mono ?_; rintro e w1 ⟨rfl, hk1⟩; rw [H0.out]; have hb := hk1.same (w.heap.size + 1) _ (show _ = some (.cells #[.int .i64 h.kind, .bool h.b, .bool h.d.neg, .string h.d.digits, .int .i64 h.d.exp, .int .u64 h.u, .int .i64 h.w, .string h.s, .slice a l.length cap] 27 (0, 0)) from (by repeat (first | with_reducible exact heap_new' (by simp) | with_reducible refine heap_old ?_ | with_reducible refine heap_drew ?_))) trivial; obtain ⟨n0, n1, n2, n3, n4, n5, n6, n7, n8⟩ := cells9 hb))
 all_goals go_ret
 all_goals exact ⟨by rw [H0.out, H1.out, H2.out, H3.out, H4.out]; simp [*], smK⟩
end Go.Tm
namespace Go.Tm
open Go.RowKit Go.Proofs
theorem beq_int (a b : Int) : (a == b) = decide (a = b) := by rw [Bool.eq_iff_iff]; simp
set_option maxRecDepth 100000 in
set_option maxHeartbeats 1000000 in
theorem isTag_any {N : Nat} {E : Errs} (id : Int) (h : Hd) (l : List Tree) (S : Nat → Prop) (lv : Value) (w : World) (hl : RepS S w l lv) :
  Calls Tryz.prog 85 #[.agg #[.int .i64 id], nodeV h lv] w fun e w' => e = .returned (.bool (bareT (.node h []) { bareHd 0 with u := h.u } && decide (l.length = 1))) ∧ Same w w' := by
 obtain ⟨a, cap, rfl⟩ := hl.is_slice
 obtain ⟨r0, h0⟩ : ∃ r, bareT (.node h []) { bareHd 0 with u := h.u } = r := ⟨_, rfl⟩
 have H0 := Lib.hid h0
 obtain ⟨r1, h1⟩ : ∃ r, decide (l.length = 1) = r := ⟨_, rfl⟩
 have h1' : ((l.length : Int) == 1) = r1 := by rw [← h1]; exact beq_nat _ _
 have H1 := Lib.hid h1
 clear h0 h1
 go_enter Tryz.func85, Tryz.ntmps85
 go_wp2_with (first
  | (go_at_call 122; refine (bare_any h { bareHd 0 with u := h.u } [] S _ _ (RepS.nil _ _)).mono ?_; rintro e w1 ⟨rfl, hk1⟩; rw [H0.out]; have hb := hk1.same (w.heap.size + 1) _ (show _ = some (.cells #[.int .i64 h.kind, .bool h.b, .bool h.d.neg, .string h.d.digits, .int .i64 h.d.exp, .int .u64 h.u, .int .i64 h.w, .string h.s, .slice a l.length cap] 27 (0, 0)) from (by repeat (first | with_reducible exact heap_new' (by simp) | with_reducible refine heap_old ?_ | with_reducible refine heap_drew ?_))) trivial; obtain ⟨n0, n1, n2, n3, n4, n5, n6, n7, n8⟩ := cells9 hb))
 all_goals go_ret
 all_goals exact ⟨by rw [H0.out, H1.out]; simp [*], smK⟩
set_option maxRecDepth 100000 in
set_option maxHeartbeats 1000000 in
theorem isMap_any {N : Nat} {E : Errs} (id : Int) (h : Hd) (l : List Tree) (lv : Value) (w : World) (hl : RepS AnyB w l lv) :
  Calls Tryz.prog 84 #[.agg #[.int .i64 id], nodeV h lv] w fun e w' => e = .returned (.bool (bareT (.node h []) (bareHd 0) && decide (l.length % 2 = 0) && !isTwice (keysOf l))) ∧ Same w w' := by
 obtain ⟨a, cap, rfl⟩ := hl.is_slice
 have hlen := hl.shape.1
 obtain ⟨r0, h0⟩ : ∃ r, bareT (.node h []) (bareHd 0) = r := ⟨_, rfl⟩
 have H0 := Lib.hid h0
 obtain ⟨r1, h1⟩ : ∃ r, decide (l.length % 2 = 0) = r := ⟨_, rfl⟩
 have h1' : ((l.length : Int) % 2 == 0) = r1 := by rw [← h1]; exact beq_nat (l.length % 2) 0
 have H1 := Lib.hid h1
 obtain ⟨r2, h2⟩ : ∃ r, isTwice (keysOf l) = r := ⟨_, rfl⟩
 have H2 := Lib.hid h2
 clear h0 h1 h2
 all_goals go_enter Tryz.func84, Tryz.ntmps84
 all_goals go_wp2_with (first
  | (go_at_call 83; refine (isArray_any id h l AnyB _ _ (hl.same smK)).mono ?_; rintro e w1 ⟨rfl, hk1⟩; rw [H0.out]; have hb := hk1.same (w.heap.size + 1) _ (show _ = some (.cells #[.int .i64 h.kind, .bool h.b, .bool h.d.neg, .string h.d.digits, .int .i64 h.d.exp, .int .u64 h.u, .int .i64 h.w, .string h.s, .slice a l.length cap] 27 (0, 0)) from (by repeat (first | with_reducible exact heap_new' (by simp) | with_reducible refine heap_old ?_ | with_reducible refine heap_drew ?_))) trivial; obtain ⟨n0, n1, n2, n3, n4, n5, n6, n7, n8⟩ := cells9 hb)
  | (go_at_call 95; refine (keys_any l AnyB _ _ (fun _ _ => trivial) (hl.same smK)).mono ?_; rintro e w2 ⟨kv, rfl, hkr, hk2⟩; obtain ⟨ka, kc, rfl⟩ := hkr.is_slice)
  | (go_at_call 124; refine (isTwice_any (keysOf l) AnyB _ _ hkr).mono ?_; rintro e w3 ⟨rfl, hk3⟩; rw [H2.out]))
 all_goals go_ret
 all_goals exact ⟨by rw [H0.out, H1.out, H2.out]; simp [*], smK⟩
set_option maxRecDepth 100000 in
set_option maxHeartbeats 2000000 in
theorem isKey_any {N : Nat} {E : Errs} (id : Int) (h : Hd) (l : List Tree) (S : Nat → Prop) (lv : Value) (w : World) (hG : Glob N E w) (ho : h.ok) (hl : RepS S w l lv) :
  Calls Tryz.prog 89 #[.agg #[.int .i64 id], nodeV h lv] w fun e w' => e = .returned (.bool (isKeyT id (.node h l))) ∧ Same w w' := by
 obtain ⟨a, cap, rfl⟩ := hl.is_slice
 obtain ⟨ho1, ho2, ho3, ho4, ho5, ho6⟩ := ho
 obtain ⟨t1, t2, t3, ht⟩ : ∃ t1 t2 t3, toInt h.d = (t1, t2, t3) := ⟨_, _, _, rfl⟩
 have HT := Lib.hid ht
 clear ht
 obtain ⟨k5, h5⟩ : ∃ r, (h.kind == 5) = r := ⟨_, rfl⟩
 obtain ⟨k3, h3⟩ : ∃ r, (h.kind == 3) = r := ⟨_, rfl⟩
 obtain ⟨k6, h6⟩ : ∃ r, (h.kind == 6) = r := ⟨_, rfl⟩
 obtain ⟨k2, h2⟩ : ∃ r, (h.kind == 2) = r := ⟨_, rfl⟩
 obtain ⟨k1, h1⟩ : ∃ r, (h.kind == 1) = r := ⟨_, rfl⟩
 obtain ⟨kj, hj⟩ : ∃ r, ([1] : List Int).contains id = r := ⟨_, rfl⟩
 have hres : isKeyT id (.node h l) = if k5 then true else if kj then false else if k3 then t3 else k6 || k2 || k1 := by
  rw [← h5, ← h3, ← h6, ← h2, ← h1, ← hj]
  unfold isKeyT
  simp only [Tree.hd_node, HT.out]
  simp [beq_int] <;> rfl
 have HR := Lib.hid hres
 have HJ := Lib.hid hj
 clear hres hj
 go_enter Tryz.func89, Tryz.ntmps89
 go_wp2_with (first
  | (go_at_call 93; refine (toInt_any h.d _ (hG.same smK) (by omega)).mono ?_; rintro e w1 ⟨rfl, hk1⟩; rw [HT.out]; have hb := hk1.same (w.heap.size + 1) _ (show _ = some (.cells #[.int .i64 h.kind, .bool h.b, .bool h.d.neg, .string h.d.digits, .int .i64 h.d.exp, .int .u64 h.u, .int .i64 h.w, .string h.s, .slice a l.length cap] 27 (0, 0)) from (by repeat (first | with_reducible exact heap_new' (by simp) | with_reducible refine heap_old ?_ | with_reducible refine heap_drew ?_))) trivial; obtain ⟨n0, n1, n2, n3, n4, n5, n6, n7, n8⟩ := cells9 hb; have hi := hk1.same w.heap.size _ (show _ = some (.cells #[.int .i64 id] 56 (0, 0)) from (by repeat (first | with_reducible exact heap_new' (by simp) | with_reducible refine heap_old ?_ | with_reducible refine heap_drew ?_))) trivial; have i0 := cells1 hi)
  | (go_at_call 91; refine (has_any id _ _ [1] _ _ _ _ _ rfl (by decide) (by repeat (first | with_reducible exact heap_new' (by simp) | with_reducible refine heap_old ?_ | with_reducible refine heap_drew ?_)) (by rfl)).mono ?_; rintro e w2 ⟨rfl, hk2⟩; rw [HJ.out]; have hb2 := hk2.same (w.heap.size + 1) _ (show _ = some (.cells #[.int .i64 h.kind, .bool h.b, .bool h.d.neg, .string h.d.digits, .int .i64 h.d.exp, .int .u64 h.u, .int .i64 h.w, .string h.s, .slice a l.length cap] 27 (0, 0)) from (heap_old hb)) trivial; obtain ⟨m0, m1, m2, m3, m4, m5, m6, m7, m8⟩ := cells9 hb2))
 all_goals go_ret
 all_goals exact ⟨by rw [HR.out]; simp [*], smK⟩
end Go.Tm
namespace Go.Tm
open Go.RowKit Go.Proofs
def GivesT (F : List Tree) (i : Nat) (v : Array Value) (A : World) : Prop := ∃ (hi : i < F.length) (lv : Value), v = #[nodeV (F[i]).hd lv] ∧ RepS AnyB A (F[i]).l lv ∧ (F[i]).hd.ok
def Yields (l : Nat) (J Jx : Nat → World → Prop) (Sb : Nat → Obj → Prop) (F : List Tree) : Prop :=
 ∀ i v A, i < F.length → J i A → GivesT F i v A → YieldAt Fence.wide 0 Tryz.prog l v A fun e B =>
  Keep (fun b o => b ≠ l ∧ Sb b o) A B ∧ ((e = .returned (.bool true) ∧ J (i + 1) B) ∨ (e = .returned (.bool false) ∧ Jx i B))
theorem keep_node {Sb : Nat → Obj → Prop} {l : Nat} {A B : World} (hk : Keep (fun b o => b ≠ l ∧ Sb b o) A B) (hl : ∃ r, A.heap[l]? = some (.loop r)) (hSb : ∀ b c f, Sb b (.cells c 27 f)) : Keep (fun b o => ∃ c f, o = .cells c 27 f) A B := by
 refine hk.mono fun b o hb => ?_
 rintro ⟨c, f, rfl⟩
 refine ⟨?_, hSb _ _ _⟩
 rintro rfl
 obtain ⟨r, hr⟩ := hl
 rw [hr] at hb; cases hb
theorem flatL_drop : ∀ (ls : List Tree) (k : Nat) (h : k < ls.length), (flatL ls ++ []).drop (countL (ls.take k)) = (ls[k]).flat ++ flatL (ls.drop (k + 1))
 | x :: ls, 0, _ => by simp [flatL, countL]
 | x :: ls, k + 1, h => by
  have := flatL_drop ls k (by simpa using h)
  simp only [List.take_succ_cons, countL, flatL, List.getElem_cons_succ, List.drop_succ_cons, List.append_nil] at this ⊢
  rw [← flat_length x, ← List.drop_drop, List.drop_left, this]
theorem countL_le : ∀ (ls : List Tree) (k : Nat), countL (ls.take k) ≤ countL ls
 | [], k => by simp [countL]
 | x :: ls, 0 => by simp [countL]
 | x :: ls, k + 1 => by have := countL_le ls k; simp only [List.take_succ_cons, countL]; omega
theorem countL_take : ∀ (ls : List Tree) (k : Nat) (h : k < ls.length), countL (ls.take (k + 1)) = countL (ls.take k) + (ls[k]).count
 | x :: ls, 0, _ => by simp [countL]
 | x :: ls, k + 1, h => by simp only [List.take_succ_cons, countL, List.getElem_cons_succ]; rw [countL_take ls k (by simpa using h)]; omega
set_option maxRecDepth 100000 in
set_option maxHeartbeats 2000000 in
theorem walkNodes (l : Nat) (J Jx : Nat → World → Prop) (Sb : Nat → Obj → Prop) (F : List Tree) (hY : Yields l J Jx Sb F) (hSb : ∀ b c f, Sb b (.cells c 27 f)) (hJ : ∀ i A B, J i A → Same A B → J i B) (hJx : ∀ i A B, Jx i A → Same A B → Jx i B)
  (hl : ∀ i A, J i A → ∃ r, A.heap[l]? = some (.loop r)) :
  ∀ (t : Tree) (k0 : Nat) (post : List Tree) (lv : Value) (W : World), F.drop k0 = t.flat ++ post → J k0 W → RepS AnyB W t.l lv → t.hd.ok →
   CallsIn Fence.wide 0 Tryz.prog 41 #[nodeV t.hd lv, .func (.yield l) #[] #[]] W fun e B => (e = .returned (.bool true) ∧ J (k0 + t.count) B ∧ Keep (fun b o => ∃ c f, o = .cells c 27 f) W B) ∨ (e = .returned (.bool false) ∧ ∃ i, i < F.length ∧ Jx i B) := by
 refine Tree.ind fun h ls ih => ?_
 intro k0 post lv W hF hj hrep hok
 simp only [Tree.hd_node, Tree.l_node] at hrep hok ⊢
 obtain ⟨hlen, a, cap, rfl, hcap, hi⟩ := hrep.shape
 have hk0 : k0 < F.length := by
  rcases Nat.lt_or_ge k0 F.length with h1 | h1
  ·exact h1
  ·rw [List.drop_eq_nil_of_le h1] at hF; simp [Tree.flat] at hF
 have hFk : F[k0] = .node h ls := by
  rw [List.drop_eq_getElem_cons hk0] at hF
  simp only [Tree.flat, List.cons_append, List.cons.injEq] at hF
  exact hF.1
 have hF1 : F.drop (k0 + 1) = flatL ls ++ post := by
  rw [List.drop_eq_getElem_cons hk0] at hF
  simp only [Tree.flat, List.cons_append, List.cons.injEq] at hF
  exact hF.2
 refine callsIn_of_wp Tryz.func41 rfl trivial ?_ rfl
 simp only [Tryz.ntmps41, List.size_toArray, List.length_cons, List.length_nil, Nat.reduceAdd, Nat.reduceSub, Array.replicate_succ, Array.replicate_zero, List.push_toArray, List.append_toArray, List.nil_append, List.cons_append]
 have hbox : (W.alloc (.cells #[.int .i64 h.kind, .bool h.b, .bool h.d.neg, .string h.d.digits, .int .i64 h.d.exp, .int .u64 h.u, .int .i64 h.w, .string h.s, .slice a ls.length cap] 27)).heap[W.heap.size]? = some (.cells #[.int .i64 h.kind, .bool h.b, .bool h.d.neg, .string h.d.digits, .int .i64 h.d.exp, .int .u64 h.u, .int .i64 h.w, .string h.s, .slice a ls.length cap] 27 (0, 0)) := World.alloc_heap_new W _
 have hkW : Same W (W.alloc (.cells #[.int .i64 h.kind, .bool h.b, .bool h.d.neg, .string h.d.digits, .int .i64 h.d.exp, .int .u64 h.u, .int .i64 h.w, .string h.s, .slice a ls.length cap] 27)) := (Keep.refl _ _).alloc _
 obtain ⟨fn, tmps, assign, body, hy, hR⟩ := hY k0 #[.agg #[.int .i64 h.kind, .bool h.b, .bool h.d.neg, .string h.d.digits, .int .i64 h.d.exp, .int .u64 h.u, .int .i64 h.w, .string h.s, .slice a ls.length cap]] (W.alloc (.cells #[.int .i64 h.kind, .bool h.b, .bool h.d.neg, .string h.d.digits, .int .i64 h.d.exp, .int .u64 h.u, .int .i64 h.w, .string h.s, .slice a ls.length cap] 27)) hk0 (hJ _ _ _ hj hkW) ⟨hk0, _, by rw [hFk]; rfl, by rw [hFk]; exact hrep.same hkW, by rw [hFk]; exact hok⟩
 have hl1 := hl _ _ (hJ _ _ _ hj hkW)
 gi_wp2
 refine hR.mono ?_
 rintro e W3 ⟨hkp, (⟨rfl, hj3⟩ | ⟨rfl, hj3⟩)⟩
 ·have hn3 := keep_node hkp hl1 hSb
  have hb3 := hn3.same _ _ hbox ⟨_, _, rfl⟩
  obtain ⟨n0, n1, n2, n3, n4, n5, n6, n7, n8⟩ := cells9 hb3
  have hnW : Keep (fun b o => ∃ c f, o = .cells c 27 f) W W3 := (Keep.of_same hkW).trans hn3
  clear hy hR
  gi_wp2
  gi_loopw [14] (fun i wr => ∃ k : Nat, k ≤ ls.length ∧ i = .int .i64 k ∧ J (k0 + 1 + countL (ls.take k)) wr ∧ Keep (fun b o => ∃ c f, o = .cells c 27 f) W wr) (fun i _ => ls.length - (RowKit.intOf i).toNat)
  case atStart => exact ⟨0, Nat.zero_le _, rfl, by simpa [countL] using hj3, hnW⟩
  case round =>
   obtain ⟨k, hk, rfl, hjk, hkk⟩ := hrel
   by_cases hlt : k < ls.length
   ·obtain ⟨b, off, lv', rfl, hS, hb, hr, hok', hra⟩ := hi k hlt
    obtain ⟨a', cap', rfl⟩ := hr.is_slice
    obtain ⟨cur, fz, hbk⟩ := hb
    obtain ⟨c0, c1, c2, c3, c4, c5, c6, c7, c8⟩ := nodeAt_of (rangeAt_keep hkk (fun o ho => by rw [hbk] at ho; cases ho; exact ⟨_, _, rfl⟩) hra)
    have hFc : F.drop (k0 + 1 + countL (ls.take k)) = (ls[k]).flat ++ (flatL (ls.drop (k + 1)) ++ post) := by
     have hd := flatL_drop ls k hlt
     rw [List.append_nil] at hd
     rw [← List.drop_drop, hF1, ← List.append_assoc, ← hd, List.drop_append_of_le_length]
     rw [flatL_length]; exact countL_le ls k
    have hcount : k0 + 1 + countL (ls.take (k + 1)) = k0 + 1 + countL (ls.take k) + (ls[k]).count := by rw [countL_take ls k hlt]; omega
    gi_wp2_with (gi_at_call 41; fail)
    refine (ih _ (List.getElem_mem hlt) (k0 + 1 + countL (ls.take k)) _ _ _ hFc (hJ _ _ _ hjk ((Keep.refl _ _).alloc _)) ((hr.keep hkk fun _ _ c f => ⟨c, f, rfl⟩).same ((Keep.refl _ _).alloc _)) hok').mono ?_
    rintro e W4 (⟨rfl, hj4, hk4⟩ | ⟨rfl, i, hi4, hx4⟩)
    ·gi_wp2
     go_roundw
     case rel => exact ⟨k + 1, by omega, by go_num, by rw [hcount]; exact hj4, hkk.trans ((Keep.of_same ((Keep.refl _ _).alloc _)).trans hk4)⟩
     case measure => simp [RowKit.intOf]; omega
    ·gi_wp2
     go_ret
     exact .inr ⟨rfl, i, hi4, hx4⟩
   ·obtain rfl : k = ls.length := by omega
    rw [List.take_length] at hjk
    gi_wp2
    go_ret
    exact .inl ⟨rfl, by rw [show k0 + (Tree.node h ls).count = k0 + 1 + countL ls by simp only [Tree.count]; omega]; exact hjk, hkk⟩
 ·clear hy hR
  gi_wp2
  go_ret
  exact .inr ⟨rfl, k0, hk0, hj3⟩
end Go.Tm
namespace Go.Tm
open Go.RowKit Go.Proofs
set_option maxRecDepth 100000 in
set_option maxHeartbeats 400000 in
theorem nodes_any (h : Hd) (a : Option Addr) (n cap : Nat) (w : World) :
  Calls Tryz.prog 30 #[nodeV h (.slice a n cap)] w fun e w' => e = .returned (.func (.func 40) #[] #[.pointer (some ⟨w.heap.size, 0, none⟩)]) ∧ w' = w.alloc (.cells (nodeCs h (.slice a n cap)).toArray 27) := by
 go_enter Tryz.func30, Tryz.ntmps30
 go_wp2
 go_ret
 exact ⟨rfl, rfl⟩
set_option maxRecDepth 100000 in
set_option maxHeartbeats 1000000 in
theorem nodes1_iter (t : Tree) (bx : Nat) (lv : Value) (Sb Si : Nat → Obj → Prop) (W : World) (hbx : Boxed9 W bx t.hd lv) (hr : RepS AnyB W t.l lv) (hok : t.hd.ok) (hSb : ∀ b c f, Sb b (.cells c 27 f)) :
  IterAt Tryz.prog 40 #[.pointer (some ⟨bx, 0, none⟩)] t.flat.length (GivesT t.flat) Sb Si (fun _ => True) (fun _ _ => True) W := by
 rintro l J Jx hlp hJ hJx hY h0
 have hw := walkNodes l J Jx Sb t.flat hY hSb (fun i A B h hs => hJ i A B h (Keep.of_same hs)) (fun i A B h hs => hJx i A B h (Keep.of_same hs)) hlp t 0 [] lv W (by simp) h0 hr hok
 obtain ⟨a, cap, rfl⟩ := hr.is_slice
 obtain ⟨c0, c1, c2, c3, c4, c5, c6, c7, c8⟩ := nodeAt_of hbx.range
 simp only [Nat.zero_add] at c1 c2 c3 c4 c5 c6 c7 c8 hw
 refine callsIn_of_wp Tryz.func40 rfl trivial ?_ rfl
 simp only [Tryz.ntmps40, List.size_toArray, List.length_cons, List.length_nil, Nat.reduceAdd, Nat.reduceSub, Array.replicate_succ, Array.replicate_zero, List.push_toArray, List.append_toArray, List.nil_append, List.cons_append]
 gi_wp2_with (gi_at_call 41; fail)
 refine hw.mono ?_
 rintro e W4 (⟨rfl, hj4, hk4⟩ | ⟨rfl, i, hi4, hx4⟩)
 ·gi_wp2
  go_end0
  exact ⟨⟨_, rfl⟩, .inl ⟨by rw [flat_length]; exact hj4, trivial⟩⟩
 ·gi_wp2
  go_end0
  exact ⟨⟨_, rfl⟩, .inr ⟨i, hi4, hx4, trivial⟩⟩
set_option maxRecDepth 100000 in
set_option maxHeartbeats 2000000 in
theorem count_any (t : Tree) (lv : Value) (w : World) (hr : RepS AnyB w t.l lv) (hok : t.hd.ok) :
  Calls Tryz.prog 13 #[nodeV t.hd lv] w fun e w' => e = .returned (.int .i64 (cnt64 t)) ∧ Same w w' := by
 obtain ⟨a, cap, rfl⟩ := hr.is_slice
 unfold cnt64
 obtain ⟨q, hq⟩ : ∃ q, wrap64 (t.count : Int) = q := ⟨_, rfl⟩
 rw [hq]
 have HQ := Lib.hid hq
 clear hq
 refine (callsIn_wide (n := 0)).1 ?_
 refine callsIn_of_wp_marks Tryz.func13 rfl trivial ?_ rfl
 simp only [Tryz.ntmps13, List.size_toArray, List.length_cons, List.length_nil, Nat.reduceAdd, Nat.reduceSub, Array.replicate_succ, Array.replicate_zero, List.push_toArray, List.append_toArray, List.nil_append, List.cons_append]
 gi_wp2_with (first
  | (gi_at_call 30; refine (callsW (nodes_any t.hd a t.l.length cap _)).mono ?_; rintro e w' ⟨rfl, rfl⟩))
 generalize hW1 : World.alloc _ (.cells (nodeCs t.hd (.slice a t.l.length cap)).toArray 27) = W1
 have hz : W1.heap.size = w.heap.size + 3 := by rw [← hW1]; simp
 have hk1 : Same w W1 := by rw [← hW1]; exact ((((Keep.refl _ w).alloc _).alloc _).alloc _)
 have b1 : Boxed W1 (w.heap.size + 1) 3 (.int .i64 (wrap64 ((0 : Nat) : Int))) := by rw [IntWalk.wrap64_in ((0 : Nat) : Int) (by omega), ← hW1]; repeat (first | exact heap_new' (by simp) | refine heap_old ?_)
 have b2 : Boxed9 W1 (w.heap.size + 1 + 1) t.hd (.slice a t.l.length cap) := by unfold Boxed9; rw [← hW1]; repeat (first | exact heap_new' (by simp) | refine heap_old ?_)
 clear hW1
 have hr1 := hr.same hk1
 refine wp_rangeS (gf := 40) (lb := #[.pointer (some ⟨w.heap.size + 1 + 1, 0, none⟩)])
  rfl (enters_of Tryz.func40 (by kernel_rfl) rfl) t.flat.length (GivesT t.flat) (fun b o => b ≠ w.heap.size + 1 ∨ ∀ c f, o ≠ .cells c 3 f) (fun _ _ => True)
  (fun _ => True) (fun _ _ => True) ?hit ?hSb ?hSi (fun i A => Boxed A (w.heap.size + 1) 3 (.int .i64 (wrap64 (i : Int)))) (fun _ _ _ => False) ?hI (fun _ _ _ _ h _ => h) ?hE (fun _ _ _ _ => trivial) (fun _ _ _ _ _ => trivial) ?hEs b1 ?hround ?hdone (fun _ _ _ _ _ _ h => h.elim)
 case hit =>
  intro W2 hk2 hz2
  exact nodes1_iter t _ _ _ _ W2 (b2.same hk2) (hr1.same hk2) hok fun b c f => .inr (by simp)
 case hSb => exact fun b o hb ho => .inr fun c f e => by subst e; cases ho
 case hSi => exact fun _ _ _ _ _ => trivial
 case hI => exact fun i A B h hk => hk.boxed h ⟨.inr rfl, trivial⟩
 case hE =>
  rintro i v A B ⟨hi, lv, rfl, hrr, hok⟩ hk
  exact ⟨hi, lv, rfl, hrr.keep hk fun _ _ _ _ => .inr rfl, hok⟩
 case hEs =>
  rintro i v A ⟨hi, lv, rfl, _⟩
  rfl
 case hround =>
  intro i v hv
  obtain ⟨x, rfl⟩ := size_one rfl hv
  apply Exists.intro
  apply And.intro
  ·intro l2 A K hK
   gi_wp2
   exact hK
  ·rintro l2 A hl2 _ hi h1 _
   have hst : wrap64 (wrap64 (i : Int) + 1) = wrap64 ((i + 1 : Nat) : Int) := wrap64_add1 i
   obtain ⟨q, hq⟩ : ∃ q, wrap64 (i : Int) = q := ⟨_, rfl⟩
   obtain ⟨q2, hq2⟩ : ∃ q, wrap64 ((i + 1 : Nat) : Int) = q := ⟨_, rfl⟩
   rw [hq, hq2] at hst
   rw [hq] at h1
   have HQ2 := Lib.hid hq2
   have c0 := h1.cell
   clear hq hq2
   have f0 := h1.frozen
   gi_wp2
   refine ⟨(Keep.refl _ A).setCell _ fun o ho hs _ => ?_, by show Boxed _ _ _ (.int .i64 (wrap64 ((i + 1 : Nat) : Int))); rw [HQ2.out]; exact h1.set (.int .i64 q2)⟩
   have h1' : A.heap[w.heap.size + 1]? = some (.cells #[.int .i64 q] 3 (0, 0)) := h1
   rw [show (⟨w.heap.size + 1, 0, none⟩ : Addr).block = w.heap.size + 1 from rfl, h1'] at ho
   cases ho
   rcases hs with hs | hs
   ·exact hs rfl
   ·exact hs _ _ rfl
 case hdone =>
  rintro D A hD h1 _ hk hDB
  have c0 := h1.cell
  have hkA : Same w A := ⟨hk.os.trans hk1.os, hk.tape.trans hk1.tape, hk.output.trans hk1.output, Nat.le_trans hk1.size hk.size, fun b o hb _ => hk.same b o (hk1.same b o hb trivial) ⟨.inl (by have := lt_of_some hb; omega), trivial⟩⟩
  have hfl := flat_length t
  rw [hfl] at c0
  rw [HQ.out] at c0
  gi_wp2
  refine ⟨by simp, .inl ⟨_, _, rfl, run_takeDeferred hDB, ?_⟩⟩
  exact ⟨_, results_tmp rfl _ _ _, rfl, hkA.putObj _ fun o _ _ h => by omega⟩
end Go.Tm
namespace Go.Tm
open Go.RowKit Go.Extern.Stop Go.Stop Go.Extern Go.Proofs
theorem isTypeOf (v : Value) (w : World) : (Extern.ReflectliteType.typeOf #[.iface errT v]).run Tryz.prog w = .ok (.iface 100 (.agg #[.pointer (some ⟨12, errT, none⟩)])) w := by kernel_rfl
theorem isComparable (w : World) : ((Extern.ReflectliteType.method fun t => do Extern.Rtype.noPackHeld "Comparable" t; (fun a => Value.bool a.comparable) <$> typeInfo t) #[.agg #[.pointer (some ⟨12, errT, none⟩)]]).run Tryz.prog w = .ok (.bool true) w := by kernel_rfl
theorem isMethodComparable (v : Value) (w : World) : (Go.method 470 100 v "Comparable").run Tryz.prog w = .ok (318, v) w := by kernel_rfl
theorem isComp : (Tryz.prog.info? errT).map (·.comparable) = some true := by kernel_rfl
theorem isSize : (Tryz.prog.info? 328).map (·.size) = some 1 := by kernel_rfl
theorem noIsE (v : Value) (xT : TypeId) (w : World) : (Instr.typeAssert (.iface errT v) xT 102 true).run Tryz.prog w = .ok (.tuple #[.nilIface, .bool false]) w := run_typeAssert_lacksB Tryz.underlying102 (by kernel_rfl) (by kernel_rfl) v xT w
theorem noUnwrapE (v : Value) (xT : TypeId) (w : World) : (Instr.typeAssert (.iface errT v) xT 105 true).run Tryz.prog w = .ok (.tuple #[.nilIface, .bool false]) w := run_typeAssert_lacksB Tryz.underlying105 (by kernel_rfl) (by kernel_rfl) v xT w
theorem noUnwrapsE (v : Value) (xT : TypeId) (w : World) : (Instr.typeAssert (.iface errT v) xT 107 true).run Tryz.prog w = .ok (.tuple #[.nilIface, .bool false]) w := run_typeAssert_lacksB Tryz.underlying107 (by kernel_rfl) (by kernel_rfl) v xT w
set_option maxRecDepth 100000 in
theorem is_same (a : Addr) (w : World) :
  Calls Tryz.prog 36 #[.iface errT (.pointer (some a)), .iface errT (.pointer (some a))] w fun e w' => e = .returned (.bool true) ∧ w' = w := by
 obtain ⟨i, hi, hcmp⟩ := Option.map_eq_some_iff.1 isComp
 obtain ⟨j, hj, hjs⟩ := Option.map_eq_some_iff.1 isSize
 have h8 := @run_callFunc_extern Tryz.prog 52 _ Extern.ReflectliteType.typeOf Tryz.func52 (by kernel_rfl) (by kernel_rfl) (by kernel_rfl) (by kernel_rfl)
 have h32 := @run_callFunc_extern Tryz.prog 318 _ (Extern.ReflectliteType.method fun t => do Extern.Rtype.noPackHeld "Comparable" t; pure (.bool (← typeInfo t).comparable)) Tryz.func318 (by kernel_rfl) (by kernel_rfl) (by kernel_rfl) (by kernel_rfl)
 have tT := isTypeOf
 have cT := isComparable
 have mR := isMethodComparable
 have heq := run_eql_iface_ptr_same (P := Tryz.prog) w a Tryz.underlying45 Tryz.underlying326 hi hcmp hj
 go_enter Tryz.func36, Tryz.ntmps36
 go_wp2
 refine wp_loop_rounds 1 ?_
 rw [rounds_succ]
 go_wp2
 go_ret
 exact ⟨rfl, rfl⟩
set_option maxRecDepth 100000 in
theorem is_nil (b : Addr) (w : World) :
  Calls Tryz.prog 36 #[.nilIface, .iface errT (.pointer (some b))] w fun e w' => e = .returned (.bool false) ∧ w' = w := by
 have hn := run_eql_iface_nil_left (P := Tryz.prog) w errT (.pointer (some b)) Tryz.underlying45
 go_enter Tryz.func36, Tryz.ntmps36
 go_wp2
 go_ret
 exact ⟨rfl, rfl⟩
set_option maxRecDepth 100000 in
theorem is_other (a b : Addr) (ca cb : Array Value) (ta tb : TypeId) (w : World) (hne : a ≠ b) (ha : w.heap[a.block]? = some (.cells ca ta (0, 0))) (hb : w.heap[b.block]? = some (.cells cb tb (0, 0))) :
  Calls Tryz.prog 36 #[.iface errT (.pointer (some a)), .iface errT (.pointer (some b))] w fun e w' => e = .returned (.bool false) ∧ w' = w := by
 obtain ⟨i, hi, hcmp⟩ := Option.map_eq_some_iff.1 isComp
 obtain ⟨j, hj, hjs⟩ := Option.map_eq_some_iff.1 isSize
 have h8 := @run_callFunc_extern Tryz.prog 52 _ Extern.ReflectliteType.typeOf Tryz.func52 (by kernel_rfl) (by kernel_rfl) (by kernel_rfl) (by kernel_rfl)
 have h32 := @run_callFunc_extern Tryz.prog 318 _ (Extern.ReflectliteType.method fun t => do Extern.Rtype.noPackHeld "Comparable" t; pure (.bool (← typeInfo t).comparable)) Tryz.func318 (by kernel_rfl) (by kernel_rfl) (by kernel_rfl) (by kernel_rfl)
 have tT := isTypeOf
 have cT := isComparable
 have mR := isMethodComparable
 have nE := noIsE
 have uE := noUnwrapE
 have vE := noUnwrapsE
 have heq := run_eql_iface_ptr_other (P := Tryz.prog) w Tryz.underlying45 Tryz.underlying326 hi hcmp hj (by rw [hjs]; decide) hne ha hb
 go_enter Tryz.func36, Tryz.ntmps36
 go_wp2
 refine wp_loop_rounds 1 ?_
 rw [rounds_succ]
 go_wp2
 go_ret
 exact ⟨rfl, rfl⟩
end Go.Tm
namespace Go.Tm
open Go.RowKit Go.Proofs
abbrev formV (fr ex wd : Nat) : Value := .agg #[.int .i64 fr, .int .i64 ex, .int .i64 wd]
set_option maxRecDepth 100000 in
set_option maxHeartbeats 400000 in
theorem ones_any (n : Nat) (w : World) (h : n ≤ 63) : Calls Tryz.prog 129 #[.int .i64 n] w fun e w' => e = .returned (.int .u64 (onesN n)) ∧ w' = w := by
 have h1 : 2 ^ n ≤ 2 ^ 63 := Nat.pow_le_pow_right (by decide) h
 have h2 : 0 < 2 ^ n := Nat.pow_pos (by decide)
 have e : ((2 : Int) ^ n) = ((2 ^ n : Nat) : Int) := by push_cast; rfl
 have e2 : (2 : Nat) ^ 63 = 9223372036854775808 := by decide
 have w1 : IntKind.u64.wrap (IntKind.u64.wrap ((2 : Int) ^ n) - 1) = ((onesN n : Nat) : Int) := by
  have w0 : IntKind.u64.wrap ((2 ^ n : Nat) : Int) = ((2 ^ n : Nat) : Int) := wrap_u64 (by omega) (by omega)
  rw [e, w0, wrap_u64 (by omega) (by omega)]
  unfold onesN; omega
 have W1 := Lib.hid w1
 clear w1 e e2 h1 h2
 go_enter Tryz.func129, Tryz.ntmps129
 go_wp2
 go_ret
 exact ⟨by rw [W1.out]; rfl, rfl⟩
abbrev formsV : Value := .agg #[.int .i64 10, .int .i64 5, .int .i64 16, .int .i64 23, .int .i64 8, .int .i64 32, .int .i64 52, .int .i64 11, .int .i64 64]
theorem idx0 (w : World) : (Instr.index 203 formsV (.int .i64 0)).run Tryz.prog w = .ok (formV 10 5 16) w := by kernel_rfl
theorem idx1 (w : World) : (Instr.index 203 formsV (.int .i64 1)).run Tryz.prog w = .ok (formV 23 8 32) w := by kernel_rfl
theorem idx2 (w : World) : (Instr.index 203 formsV (.int .i64 2)).run Tryz.prog w = .ok (formV 52 11 64) w := by kernel_rfl
set_option maxRecDepth 100000 in
set_option maxHeartbeats 400000 in
theorem forms_any (w : World) : Calls Tryz.prog 173 #[] w fun e w' => e = .returned (.agg #[.int .i64 10, .int .i64 5, .int .i64 16, .int .i64 23, .int .i64 8, .int .i64 32, .int .i64 52, .int .i64 11, .int .i64 64]) ∧ w' = w.alloc (.cells #[.int .i64 10, .int .i64 5, .int .i64 16, .int .i64 23, .int .i64 8, .int .i64 32, .int .i64 52, .int .i64 11, .int .i64 64] 203) := by
 go_enter Tryz.func173, Tryz.ntmps173
 go_wp2
 refine bodyPost_ret (results_cell_row rfl _ _ w.heap.size 203 _ (0, 0) _ rfl (heap_alloc_last _ _) Tryz.underlying203 rfl (by kernel_rfl)) rfl ⟨rfl, rfl⟩
set_option maxRecDepth 100000 in
set_option maxHeartbeats 400000 in
theorem wide_any (w : World) : Calls Tryz.prog 127 #[] w fun e w' => e = .returned (formV 52 11 64) ∧ w' = (w.alloc (.cells #[.int .i64 52, .int .i64 11, .int .i64 64] 154)).alloc (.cells #[.int .i64 10, .int .i64 5, .int .i64 16, .int .i64 23, .int .i64 8, .int .i64 32, .int .i64 52, .int .i64 11, .int .i64 64] 203) := by
 have i2 := idx2
 go_enter Tryz.func127, Tryz.ntmps127
 go_wp2_with (first | (go_at_call 173; refine (forms_any _).mono ?_; rintro e w' ⟨rfl, rfl⟩))
 refine bodyPost_ret (results_cell_row rfl _ _ w.heap.size 154 _ (0, 0) _ rfl (by repeat (first | exact heap_new' (by simp) | refine heap_old ?_)) Tryz.underlying154 rfl (by kernel_rfl)) rfl ⟨rfl, rfl⟩
theorem band (a b : Nat) (ha : a < 18446744073709551616) (hb : b < 18446744073709551616) : bits BinOp.and IntKind.u64 (a : Int) (b : Int) = ((a &&& b : Nat) : Int) := bits_and_u64_nat a b ha hb
theorem bor (a b : Nat) (ha : a < 18446744073709551616) (hb : b < 18446744073709551616) : bits BinOp.or IntKind.u64 (a : Int) (b : Int) = ((a ||| b : Nat) : Int) := bits_or_u64_nat a b ha hb
theorem shr_nat (b k : Nat) : ((b : Int) / 2 ^ k) = ((b >>> k : Nat) : Int) := by rw [Nat.shiftRight_eq_div_pow]; push_cast; rfl
theorem shr_le (b k : Nat) : b >>> k ≤ b := by rw [Nat.shiftRight_eq_div_pow]; exact Nat.div_le_self _ _
theorem ones_le (n : Nat) (h : n ≤ 63) : onesN n ≤ 9223372036854775807 := by
 have h1 : 2 ^ n ≤ 2 ^ 63 := Nat.pow_le_pow_right (by decide) h
 unfold onesN
 have : (2 : Nat) ^ 63 = 9223372036854775808 := by decide
 omega
theorem w64_nat (n : Nat) (h : n ≤ 9223372036854775807) : wrap64 (n : Int) = (n : Int) := IntWalk.wrap64_in _ (by omega)
set_option maxRecDepth 100000 in
set_option maxHeartbeats 1000000 in
theorem parts_any (fr ex wd b : Nat) (w : World) (hw : wd = 16 ∨ wd = 32 ∨ wd = 64) (h1 : fr ≤ 52) (h2 : ex ≤ 11) (hb : b < 18446744073709551616) : Calls Tryz.prog 128 #[formV fr ex wd, .int .u64 b] w fun e w' => e = .returned (.tuple #[.int .u64 (b >>> (wd - 1) &&& 1 : Nat), .int .i64 (b >>> fr &&& onesN ex : Nat), .int .u64 (b &&& onesN fr : Nat)]) ∧ Same w w' := by
 have l1 := shr_le b (wd - 1)
 have l2 := shr_le b fr
 have o1 := ones_le ex (by omega)
 have o2 := ones_le fr (by omega)
 have l3 : b >>> fr &&& onesN ex ≤ onesN ex := Nat.and_le_right
 have W1 := Lib.hid (show bits BinOp.and IntKind.u64 ((b : Int) / 2 ^ (wd - 1)) 1 = ((b >>> (wd - 1) &&& 1 : Nat) : Int) from by rw [shr_nat]; exact band _ 1 (by omega) (by decide))
 have W2 := Lib.hid (show wrap64 (bits BinOp.and IntKind.u64 ((b : Int) / 2 ^ fr) (onesN ex : Int)) = ((b >>> fr &&& onesN ex : Nat) : Int) from by rw [shr_nat, band _ _ (by omega) (by omega)]; exact w64_nat _ (by omega))
 have W3 := Lib.hid (show bits BinOp.and IntKind.u64 (b : Int) (onesN fr : Int) = ((b &&& onesN fr : Nat) : Int) from band _ _ hb (by omega))
 go_enter Tryz.func128, Tryz.ntmps128
 go_upto_region 1 with fail
 go_quiet (first | (go_at_call_of 129 (Value.int IntKind.i64 ex); exact Calls.quiet_of_same (ones_any ex _ (by omega))) | (go_at_call_of 129 (Value.int IntKind.i64 fr); exact Calls.quiet_of_same (ones_any fr _ (by omega))))
 go_wp2
 go_ret3
 exact ⟨by rw [W1.out, W2.out, W3.out]; rfl, smK⟩
set_option maxRecDepth 100000 in
set_option maxHeartbeats 1000000 in
theorem joined_any (fr ex wd sign exp frac : Nat) (w : World) (hw : wd = 16 ∨ wd = 32 ∨ wd = 64) (h1 : fr ≤ 52) (h2 : sign ≤ 1) (h3 : exp ≤ 2047) (h4 : frac < 18446744073709551616) : Calls Tryz.prog 130 #[formV fr ex wd, .int .u64 sign, .int .i64 exp, .int .u64 frac] w fun e w' => e = .returned (.int .u64 (fJoin fr wd sign exp frac : Nat)) ∧ Same w w' := by
 have p1 : 2 ^ (wd - 1) ≤ 2 ^ 63 := Nat.pow_le_pow_right (by decide) (by omega)
 have p2 : 2 ^ fr ≤ 2 ^ 52 := Nat.pow_le_pow_right (by decide) h1
 have e63 : (2 : Nat) ^ 63 = 9223372036854775808 := by decide
 have e52 : (2 : Nat) ^ 52 = 4503599627370496 := by decide
 have q1 : sign * 2 ^ (wd - 1) ≤ 1 * 2 ^ 63 := Nat.mul_le_mul h2 p1
 have q2 : exp * 2 ^ fr ≤ 2047 * 2 ^ 52 := Nat.mul_le_mul h3 p2
 have u1 : IntKind.u64.wrap ((sign : Int) * 2 ^ (wd - 1)) = ((sign <<< (wd - 1) : Nat) : Int) := by
  rw [Nat.shiftLeft_eq, show ((sign : Int) * 2 ^ (wd - 1)) = ((sign * 2 ^ (wd - 1) : Nat) : Int) by push_cast; rfl, wrap_u64 (by omega) (by omega)]
 have u2 : IntKind.u64.wrap ((exp : Int) * 2 ^ fr) = ((exp <<< fr : Nat) : Int) := by
  rw [Nat.shiftLeft_eq, show ((exp : Int) * 2 ^ fr) = ((exp * 2 ^ fr : Nat) : Int) by push_cast; rfl, wrap_u64 (by omega) (by omega)]
 have s1 : sign <<< (wd - 1) < 18446744073709551616 := by rw [Nat.shiftLeft_eq]; omega
 have s2 : exp <<< fr < 18446744073709551616 := by rw [Nat.shiftLeft_eq]; omega
 have s3 : (sign <<< (wd - 1) ||| exp <<< fr) < 18446744073709551616 := Nat.or_lt_two_pow (n := 64) s1 s2
 have W1 := Lib.hid (show bits BinOp.or IntKind.u64 (bits BinOp.or IntKind.u64 (IntKind.u64.wrap ((sign : Int) * 2 ^ (wd - 1))) (IntKind.u64.wrap ((exp : Int) * 2 ^ fr))) (frac : Int) = ((fJoin fr wd sign exp frac : Nat) : Int) from by
  rw [u1, u2, bor _ _ s1 s2, bor _ _ s3 h4]; rfl)
 clear p1 p2 e63 e52 q1 q2 u1 u2 s1 s2 s3
 go_enter Tryz.func130, Tryz.ntmps130
 go_upto_region 1 with fail
 go_quiet (fail)
 go_wp2
 go_ret
 exact ⟨by rw [W1.out]; rfl, smK⟩
set_option maxRecDepth 100000 in
set_option maxHeartbeats 1000000 in
theorem bias_any (fr ex wd : Nat) (w : World) (h1 : 1 ≤ ex) (h2 : ex ≤ 11) : Calls Tryz.prog 131 #[formV fr ex wd] w fun e w' => e = .returned (.int .i64 (onesN (ex - 1) : Nat)) ∧ w' = w.alloc (.cells #[.int .i64 fr, .int .i64 ex, .int .i64 wd] 154) := by
 have o1 := ones_le (ex - 1) (by omega)
 have hx : ((ex : Int) - 1) = ((ex - 1 : Nat) : Int) := by omega
 have W1 := Lib.hid (w64_nat (onesN (ex - 1)) o1)
 have HX := Lib.hid hx
 clear hx
 go_enter Tryz.func131, Tryz.ntmps131
 go_wp2_with (first | (go_at_call 129; rw [HX.out]; refine (ones_any (ex - 1) _ (by omega)).mono ?_; rintro e w' ⟨rfl, h9⟩; replace h9 := h9.symm; subst h9))
 go_ret
 exact ⟨rfl, rfl⟩
end Go.Tm
namespace Go.Tm
open Go.RowKit Go.Proofs
def f3 (i : Nat) : Nat × Nat × Nat := if i = 0 then (10, 5, 16) else if i = 1 then (23, 8, 32) else (52, 11, 64)
abbrev formC (f : Nat × Nat × Nat) : Array Value := #[.int .i64 f.1, .int .i64 f.2.1, .int .i64 f.2.2]
def formAt (i : Nat) : Value := .agg (formC (f3 i))
theorem fForm_some {x : Int} {i : Nat} (hi : i < 3) (h : ((f3 i).2.2 : Int) = x) : fForm x = some (f3 i) := by
 subst h
 obtain rfl | rfl | rfl : i = 0 ∨ i = 1 ∨ i = 2 := by omega
 all_goals rfl
theorem fForm_none {x : Int} (h : ∀ i, i < 3 → ((f3 i).2.2 : Int) ≠ x) : fForm x = none := by
 have h0 := h 0 (by omega)
 have h1 := h 1 (by omega)
 have h2 := h 2 (by omega)
 simp [f3] at h0 h1 h2
 unfold fForm
 rw [if_neg (fun e => h0 e.symm), if_neg (fun e => h1 e.symm), if_neg (fun e => h2 e.symm)]
set_option maxRecDepth 100000 in
set_option maxHeartbeats 1000000 in
theorem widths1_iter (Sb Si : Nat → Obj → Prop) (W : World) :
  IterAt Tryz.prog 175 #[] 3 (fun i v _ => v = #[formAt i]) Sb Si (fun _ => True) (fun _ _ => True) W := by
 rintro l J Jx hlp hJ hJx hY h0
 have i0 := idx0
 have i1 := idx1
 have i2 := idx2
 refine callsIn_of_wp Tryz.func175 rfl trivial ?_ rfl
 simp only [Tryz.ntmps175, List.size_toArray, List.length_cons, List.length_nil, Nat.reduceAdd, Nat.reduceSub, Array.replicate_succ, Array.replicate_zero, List.push_toArray, List.append_toArray, List.nil_append, List.cons_append]
 gi_wp2_with (gi_at_call 173; refine (callsW (forms_any _)).mono ?_; rintro e w' ⟨rfl, rfl⟩)
 gi_loopw [5] (fun i wr => ∃ k : Nat, k ≤ 3 ∧ i = .int .i64 k ∧ J k wr) (fun i _ => 3 - (RowKit.intOf i).toNat)
 case atStart => exact ⟨0, by omega, rfl, hJ _ _ _ h0 (Keep.of_same ((Keep.refl _ _).alloc _))⟩
 case round =>
  obtain ⟨k, hk, rfl, hj⟩ := hrel
  have hja : ∀ o, J k (wr.alloc o) := fun o => hJ _ _ _ hj (Keep.of_same ((Keep.refl _ _).alloc o))
  by_cases hlt : k < 3
  ·obtain rfl | rfl | rfl : k = 0 ∨ k = 1 ∨ k = 2 := by omega
   ·obtain ⟨fn, tmps, assign, body, hy, hR⟩ := hY 0 #[.agg #[.int .i64 10, .int .i64 5, .int .i64 16]] (wr.alloc (.cells #[.int .i64 10, .int .i64 5, .int .i64 16] 154)) hlt (hja _) rfl
    gi_wp2
    refine hR.mono ?_
    rintro e W3 ⟨hkp, (⟨rfl, hj3⟩ | ⟨rfl, hj3⟩)⟩
    ·gi_wp2
     exact ⟨⟨1, by omega, rfl, hj3⟩, by simp [RowKit.intOf]⟩
    ·gi_wp2
     refine bodyPost_ret (results_none rfl _ _ _) rfl ?_
     exact ⟨⟨_, rfl⟩, .inr ⟨0, hlt, hj3, trivial⟩⟩
   ·obtain ⟨fn, tmps, assign, body, hy, hR⟩ := hY 1 #[.agg #[.int .i64 23, .int .i64 8, .int .i64 32]] (wr.alloc (.cells #[.int .i64 23, .int .i64 8, .int .i64 32] 154)) hlt (hja _) rfl
    gi_wp2
    refine hR.mono ?_
    rintro e W3 ⟨hkp, (⟨rfl, hj3⟩ | ⟨rfl, hj3⟩)⟩
    ·gi_wp2
     exact ⟨⟨2, by omega, rfl, hj3⟩, by simp [RowKit.intOf]⟩
    ·gi_wp2
     refine bodyPost_ret (results_none rfl _ _ _) rfl ?_
     exact ⟨⟨_, rfl⟩, .inr ⟨1, hlt, hj3, trivial⟩⟩
   ·obtain ⟨fn, tmps, assign, body, hy, hR⟩ := hY 2 #[.agg #[.int .i64 52, .int .i64 11, .int .i64 64]] (wr.alloc (.cells #[.int .i64 52, .int .i64 11, .int .i64 64] 154)) hlt (hja _) rfl
    gi_wp2
    refine hR.mono ?_
    rintro e W3 ⟨hkp, (⟨rfl, hj3⟩ | ⟨rfl, hj3⟩)⟩
    ·gi_wp2
     exact ⟨⟨3, by omega, rfl, hj3⟩, by simp [RowKit.intOf]⟩
    ·gi_wp2
     refine bodyPost_ret (results_none rfl _ _ _) rfl ?_
     exact ⟨⟨_, rfl⟩, .inr ⟨2, hlt, hj3, trivial⟩⟩
  ·obtain rfl : k = 3 := by omega
   gi_wp2
   go_end0
   exact ⟨⟨_, rfl⟩, .inl ⟨hj, trivial⟩⟩
set_option maxRecDepth 100000 in
set_option maxHeartbeats 400000 in
theorem widths_any (w : World) : Calls Tryz.prog 133 #[] w fun e w' => e = .returned (.func (.func 175) #[] #[]) ∧ w' = w := by
 go_enter Tryz.func133, Tryz.ntmps133
 go_wp2
 go_ret
 exact ⟨rfl, rfl⟩
theorem setCell_heap {w : World} {b : Nat} {arr : Array Value} {t : TypeId} {f : Nat × Nat} (h : w.heap[b]? = some (.cells arr t f)) (j : Nat) (v : Value) : (w.setCell ⟨b, j, none⟩ v).heap[b]? = some (.cells (arr.setIfInBounds j v) t f) := by
 unfold World.setCell
 rw [Array.getElem?_modify, if_pos rfl, h]
 rfl
set_option maxRecDepth 100000 in
set_option maxHeartbeats 2000000 in
theorem of_any (x : Int) (w : World) : Calls Tryz.prog 125 #[.int .i64 x] w fun e w' => e = .returned (match fForm x with | none => .tuple #[formV 0 0 0, .bool false] | some (fr, ex, wd) => .tuple #[formV fr ex wd, .bool true]) ∧ Same w w' := by
 refine (callsIn_wide (n := 0)).1 ?_
 refine callsIn_of_wp_marks Tryz.func125 rfl trivial ?_ rfl
 simp only [Tryz.ntmps125, List.size_toArray, List.length_cons, List.length_nil, Nat.reduceAdd, Nat.reduceSub, Array.replicate_succ, Array.replicate_zero, List.push_toArray, List.append_toArray, List.nil_append, List.cons_append]
 gi_wp2_with (gi_at_call 133; refine (callsW (widths_any _)).mono ?_; rintro e w' ⟨rfl, rfl⟩)
 refine wpIn_scope ?_
 gi_wp2_with (gi_at_call 133; refine (callsW (widths_any _)).mono ?_; rintro e w' ⟨rfl, h9⟩; replace h9 := h9.symm; subst h9)
 refine wpIn_label ?_
 gi_wp2_with (gi_at_call 133; refine (callsW (widths_any _)).mono ?_; rintro e w' ⟨rfl, h9⟩; replace h9 := h9.symm; subst h9)
 generalize hW1 : World.alloc _ (.cells #[.bool false] 4) = W1
 have hz : W1.heap.size = w.heap.size + 4 := by rw [← hW1]; simp
 have hk1 : Same w W1 := by rw [← hW1]; exact (((((Keep.refl _ w).alloc _).alloc _).alloc _).alloc _)
 have b0 : Boxed W1 w.heap.size 3 (.int .i64 x) := by rw [← hW1]; repeat (first | exact heap_new' (by simp) | refine heap_old ?_)
 have b1 : W1.heap[w.heap.size + 1]? = some (.cells #[.int .i64 0, .int .i64 0, .int .i64 0] 154 (0, 0)) := by rw [← hW1]; exact heap_old (heap_old (heap_new' (by simp)))
 have b2 : W1.heap[w.heap.size + 1 + 1]? = some (.cells #[.int .i64 0, .int .i64 0, .int .i64 0] 154 (0, 0)) := by rw [← hW1]; exact heap_old (heap_new' (by simp))
 have b3 : Boxed W1 (w.heap.size + 1 + 1 + 1) 4 (.bool false) := by rw [← hW1]; exact heap_new' (by simp)
 clear hW1
 refine wp_range (gf := 175) (lb := #[])
  rfl (enters_of Tryz.func175 (by kernel_rfl) rfl) 3 (fun i v _ => v = #[formAt i]) (fun b o => b ≠ w.heap.size + 1 + 1 ∧ b ≠ w.heap.size + 1 + 1 + 1) (fun _ _ => True)
  (fun _ => True) (fun _ _ => True) (fun W2 _ _ => widths1_iter _ _ W2) ?hSb (fun _ _ _ _ _ => trivial)
  (fun i A => (∀ j, j < i → ((f3 j).2.2 : Int) ≠ x) ∧ Boxed A w.heap.size 3 (.int .i64 x) ∧ A.heap[w.heap.size + 1]? = some (.cells #[.int .i64 0, .int .i64 0, .int .i64 0] 154 (0, 0)) ∧ A.heap[w.heap.size + 1 + 1]? = some (.cells #[.int .i64 0, .int .i64 0, .int .i64 0] 154 (0, 0)) ∧ Boxed A (w.heap.size + 1 + 1 + 1) 4 (.bool false))
  (fun i c A => c = .exit 0 ∧ ((f3 i).2.2 : Int) = x ∧ A.heap[w.heap.size + 1]? = some (.cells #[.int .i64 0, .int .i64 0, .int .i64 0] 154 (0, 0)) ∧ A.heap[w.heap.size + 1 + 1]? = some (.cells (formC (f3 i)) 154 (0, 0)) ∧ Boxed A (w.heap.size + 1 + 1 + 1) 4 (.bool true))
  ?hI ?hIx (fun _ _ _ _ h _ => h) (fun _ _ _ _ => trivial) (fun _ _ _ _ _ => trivial) (fun i v A h => by rw [h]; rfl) ⟨fun _ h => by omega, b0, b1, b2, b3⟩
  (fun i v a' A => ∃ bx, A.heap[bx]? = some (.cells (formC (f3 i)) 154 (0, 0)) ∧ a' = { tmps := #[.int .i64 x, .pointer (some ⟨w.heap.size, 0, none⟩), .pointer (some ⟨w.heap.size + 1, 0, none⟩), .bool false, .pointer (some ⟨w.heap.size + 1 + 1, 0, none⟩), .pointer (some ⟨w.heap.size + 1 + 1 + 1, 0, none⟩), .pointer (some ⟨bx, 0, none⟩), .func (.func 175) #[] #[], formAt i, undef, undef, undef, undef, undef, undef, undef], defers := [] }) ?hAx ?hassign ?hbody ?hdone ?hstop
 case hSb => exact fun b o hb ho => ⟨by omega, by omega⟩
 case hI =>
  rintro i A B ⟨h1, h2, h3, h4, h5⟩ hk
  exact ⟨h1, hk.boxed h2 ⟨.inr rfl, trivial⟩, hk.same _ _ h3 ⟨.inr rfl, trivial⟩, hk.same _ _ h4 ⟨.inr rfl, trivial⟩, hk.boxed h5 ⟨.inr rfl, trivial⟩⟩
 case hIx =>
  rintro i c A B ⟨h0, h1, h3, h4, h5⟩ hk
  exact ⟨h0, h1, hk.same _ _ h3 ⟨.inr rfl, trivial⟩, hk.same _ _ h4 ⟨.inr rfl, trivial⟩, hk.boxed h5 ⟨.inr rfl, trivial⟩⟩
 case hAx =>
  rintro i v a' A B ⟨bx, h1, h2⟩ hk
  exact ⟨bx, hk.same _ _ h1 (.inr rfl), h2⟩
 case hassign =>
  intro l i v A K hi hI' hE' hK
  subst hE'
  obtain ⟨f, hf⟩ : ∃ f, f3 i = f := ⟨_, rfl⟩
  unfold formAt at hK ⊢
  rw [hf] at hK ⊢
  gi_wp2
  refine hK _ _ ((Keep.refl _ _).alloc _) ?_ trivial ⟨A.heap.size, World.alloc_heap_new A _, rfl⟩
  obtain ⟨h1, h2, h3, h4, h5⟩ := hI'
  exact ⟨h1, h2.alloc _, heap_old h3, heap_old h4, h5.alloc _⟩
 case hbody =>
  rintro l i v a' A hl _ hi ⟨h1, h2, h3, h4, h5⟩ hv ⟨bx, hbx, rfl⟩
  unfold formAt
  obtain ⟨f, hf⟩ : ∃ f, f3 i = f := ⟨_, rfl⟩
  have Hf := Lib.hid hf
  rw [hf] at hbx ⊢
  clear hf
  have c0 := h2.cell
  obtain ⟨e0, e1, e2⟩ := cells3 hbx
  obtain ⟨g0, g1, g2⟩ := cells3 h4
  have c5 := h5.cell
  have z5 := h5.frozen
  have z4 : ∀ j, A.frozen? ⟨w.heap.size + 1 + 1, j, none⟩ = false := Lib.frozen_of_heap h4
  by_cases hx : (f.2.2 : Int) = x
  ·have hxb : ((f.2.2 : Int) == x) = true := by simpa using hx
   have HX := Lib.hid hx
   clear hx
   gi_wp2
   have n4 := setCell_heap (setCell_heap (setCell_heap h4 0 (.int .i64 (f.1 : Int))) 1 (.int .i64 (f.2.1 : Int))) 2 (.int .i64 (f.2.2 : Int))
   have keep : ∀ (X : World) (p : Addr) (v : Value) (b : Nat), p.block ≠ b → (X.setCell p v).heap[b]? = X.heap[b]? := fun X p v b h => Below.heap_setCell X p v b (fun e => h e.symm)
   refine ⟨?_, rfl, by rw [Hf.out]; exact HX.out, ?_, ?_, ?_⟩
   ·exact ((((Keep.refl _ A).setCell _ fun o _ hs _ => hs.1 rfl).setCell _ fun o _ hs _ => hs.1 rfl).setCell _ fun o _ hs _ => hs.1 rfl).setCell _ fun o _ hs _ => hs.2 rfl
   ·rw [keep _ _ _ _ (by show w.heap.size + 1 + 1 + 1 ≠ _; omega), keep _ _ _ _ (by show w.heap.size + 1 + 1 ≠ _; omega), keep _ _ _ _ (by show w.heap.size + 1 + 1 ≠ _; omega), keep _ _ _ _ (by show w.heap.size + 1 + 1 ≠ _; omega)]; exact h3
   ·rw [keep _ _ _ _ (by show w.heap.size + 1 + 1 + 1 ≠ _; omega), n4, Hf.out]; rfl
   ·refine Boxed.set (v := .bool false) _ ?_
    unfold Boxed
    rw [keep _ _ _ _ (by show w.heap.size + 1 + 1 ≠ _; omega), keep _ _ _ _ (by show w.heap.size + 1 + 1 ≠ _; omega), keep _ _ _ _ (by show w.heap.size + 1 + 1 ≠ _; omega)]; exact h5
  ·have hxb : ((f.2.2 : Int) == x) = false := by simpa using hx
   have HX := Lib.hid hx
   clear hx
   gi_wp2
   refine ⟨Keep.refl _ _, fun j hj => ?_, h2, h3, h4, h5⟩
   rcases Nat.lt_or_ge j i with h | h
   ·exact h1 j h
   ·obtain rfl : j = i := by omega
    rw [Hf.out]; exact HX.out
 case hdone =>
  rintro D A hD ⟨h1, h2, h3, h4, h5⟩ _ hk hDB
  have hkA : Same w A := ⟨hk.os.trans hk1.os, hk.tape.trans hk1.tape, hk.output.trans hk1.output, Nat.le_trans hk1.size hk.size, fun b o hb _ => hk.same b o (hk1.same b o hb trivial) ⟨⟨by have := lt_of_some hb; omega, by have := lt_of_some hb; omega⟩, trivial⟩⟩
  have hz2 := hkA.size
  have hres := fForm_none h1
  obtain ⟨f, hf⟩ : ∃ f : Nat × Nat × Nat, f = (0, 0, 0) := ⟨_, rfl⟩
  have HR := Lib.hid hres
  clear hres
  obtain ⟨p0, p1, p2⟩ := cells3 h4
  have p5 := h5.cell
  gi_wp2
  refine wpIn_region_text (fun X => X.heap[w.heap.size + 1 + 1]? = some (.cells #[.int .i64 0, .int .i64 0, .int .i64 0] 154 (0, 0)) ∧ Boxed X (w.heap.size + 1 + 1 + 1) 4 (.bool false)) reads (fun _ => trivial) rfl (by kernel_rfl) (by kernel_rfl) ⟨h4, h5⟩ ?_
  refine wpT_x rfl rfl ?_
  intro K hK w' ⟨s1, s2⟩
  obtain ⟨q0, q1, q2⟩ := cells3 s1
  go_simp
  refine hK _ _ ?_
  clear hK K q0 q1 q2 s1 s2 w'
  refine wpT_x rfl rfl ?_
  intro K hK w' ⟨s1, s2⟩
  have q0 := s2.cell
  go_simp
  refine hK _ _ ?_
  clear hK K q0 s1 s2 w'
  refine wpT_c rfl rfl ?_
  intro K hK
  obtain ⟨q0, q1, q2⟩ := cells3 h3
  have z3 : ∀ j, A.frozen? ⟨w.heap.size + 1, j, none⟩ = false := Lib.frozen_of_heap h3
  go_simp
  have n3 := setCell_heap (w := (A.setCell ⟨w.heap.size + 1, 0, none⟩ (.int .i64 0)).setCell ⟨w.heap.size + 1, 1, none⟩ (.int .i64 0)) (setCell_heap (setCell_heap h3 0 (.int .i64 0)) 1 (.int .i64 0)) 2 (.int .i64 0)
  have keep : ∀ (X : World) (p : Addr) (v : Value) (b : Nat), p.block ≠ b → (X.setCell p v).heap[b]? = X.heap[b]? := fun X p v b h => Below.heap_setCell X p v b (fun e => h e.symm)
  have hkB : Same w (((A.setCell ⟨w.heap.size + 1, 0, none⟩ (.int .i64 0)).setCell ⟨w.heap.size + 1, 1, none⟩ (.int .i64 0)).setCell ⟨w.heap.size + 1, 2, none⟩ (.int .i64 0)) :=
   ((hkA.setCell _ fun o _ _ h => absurd h (by show ¬ w.heap.size + 1 < _; omega)).setCell _ fun o _ _ h => absurd h (by show ¬ w.heap.size + 1 < _; omega)).setCell _ fun o _ _ h => absurd h (by show ¬ w.heap.size + 1 < _; omega)
  have hDB2 : (((A.setCell ⟨w.heap.size + 1, 0, none⟩ (.int .i64 0)).setCell ⟨w.heap.size + 1, 1, none⟩ (.int .i64 0)).setCell ⟨w.heap.size + 1, 2, none⟩ (.int .i64 0)).heap[D]? = some (.deferred (some [])) := by
   rw [keep _ _ _ _ (by show w.heap.size + 1 ≠ _; omega), keep _ _ _ _ (by show w.heap.size + 1 ≠ _; omega), keep _ _ _ _ (by show w.heap.size + 1 ≠ _; omega)]; exact hDB
  refine hK _ _ ⟨?_, ?_⟩ ?_
  ·show (((A.setCell ⟨w.heap.size + 1, 0, none⟩ (.int .i64 0)).setCell ⟨w.heap.size + 1, 1, none⟩ (.int .i64 0)).setCell ⟨w.heap.size + 1, 2, none⟩ (.int .i64 0)).heap[_]? = _
   rw [keep _ _ _ _ (by show w.heap.size + 1 ≠ _; omega), keep _ _ _ _ (by show w.heap.size + 1 ≠ _; omega), keep _ _ _ _ (by show w.heap.size + 1 ≠ _; omega)]; exact h4
  ·unfold Boxed
   show (((A.setCell ⟨w.heap.size + 1, 0, none⟩ (.int .i64 0)).setCell ⟨w.heap.size + 1, 1, none⟩ (.int .i64 0)).setCell ⟨w.heap.size + 1, 2, none⟩ (.int .i64 0)).heap[_]? = _
   rw [keep _ _ _ _ (by show w.heap.size + 1 ≠ _; omega), keep _ _ _ _ (by show w.heap.size + 1 ≠ _; omega), keep _ _ _ _ (by show w.heap.size + 1 ≠ _; omega)]; exact h5
  clear hK K q0 q1 q2 z3
  refine wpT_x rfl rfl ?_
  intro K hK w' hs9
  go_simp
  refine hK _ _ ?_
  clear hK K hs9 w'
  refine wpT_nil ?_
  generalize (((A.setCell ⟨w.heap.size + 1, 0, none⟩ (.int .i64 0)).setCell ⟨w.heap.size + 1, 1, none⟩ (.int .i64 0)).setCell ⟨w.heap.size + 1, 2, none⟩ (.int .i64 0)) = B at n3 hkB hDB2 ⊢
  gi_wp2
  refine ⟨by simp, .inl ⟨_, _, rfl, run_takeDeferred (w := B.drew) hDB2, ?_⟩⟩
  have hrow : (B.drew.putObj D (.deferred none)).heap[w.heap.size + 1]? = some (.cells #[.int .i64 0, .int .i64 0, .int .i64 0] 154 (0, 0)) := (World.putObj_heap_other (by omega)).trans n3
  have hld := run_loadVar_row (P := Tryz.prog) _ (w.heap.size + 1) 154 154 _ (0, 0) _ hrow Tryz.underlying154 rfl (by kernel_rfl)
  refine ⟨.tuple #[.agg #[.int .i64 0, .int .i64 0, .int .i64 0], .bool false], ?_, by rw [HR.out]; rfl, hkB.drew.putObj _ fun o _ _ h => by omega⟩
  rw [results_cell_tmp rfl]
  simp [asAddr, hld, Result.andThen]
 case hstop =>
  rintro D i c A hD hi ⟨rfl, h1, h3, h4, h5⟩ _ hk hDB
  have hkA : Same w A := ⟨hk.os.trans hk1.os, hk.tape.trans hk1.tape, hk.output.trans hk1.output, Nat.le_trans hk1.size hk.size, fun b o hb _ => hk.same b o (hk1.same b o hb trivial) ⟨⟨by have := lt_of_some hb; omega, by have := lt_of_some hb; omega⟩, trivial⟩⟩
  have hz2 := hkA.size
  have hres := fForm_some hi h1
  obtain ⟨f, hf⟩ : ∃ f, f3 i = f := ⟨_, rfl⟩
  rw [hf] at hres h4
  have HR := Lib.hid hres
  clear hres hf h1
  obtain ⟨p0, p1, p2⟩ := cells3 h4
  have p5 := h5.cell
  gi_wp2
  refine wpIn_region_text (fun X => X.heap[w.heap.size + 1 + 1]? = some (.cells (formC f) 154 (0, 0)) ∧ Boxed X (w.heap.size + 1 + 1 + 1) 4 (.bool true)) reads (fun _ => trivial) rfl (by kernel_rfl) (by kernel_rfl) ⟨h4, h5⟩ ?_
  refine wpT_x rfl rfl ?_
  intro K hK w' ⟨s1, s2⟩
  obtain ⟨q0, q1, q2⟩ := cells3 s1
  go_simp
  refine hK _ _ ?_
  clear hK K q0 q1 q2 s1 s2 w'
  refine wpT_x rfl rfl ?_
  intro K hK w' ⟨s1, s2⟩
  have q0 := s2.cell
  go_simp
  refine hK _ _ ?_
  clear hK K q0 s1 s2 w'
  refine wpT_c rfl rfl ?_
  intro K hK
  obtain ⟨q0, q1, q2⟩ := cells3 h3
  have z3 : ∀ j, A.frozen? ⟨w.heap.size + 1, j, none⟩ = false := Lib.frozen_of_heap h3
  go_simp
  have n3 := setCell_heap (w := (A.setCell ⟨w.heap.size + 1, 0, none⟩ (.int .i64 (f.1 : Int))).setCell ⟨w.heap.size + 1, 1, none⟩ (.int .i64 (f.2.1 : Int))) (setCell_heap (setCell_heap h3 0 (.int .i64 (f.1 : Int))) 1 (.int .i64 (f.2.1 : Int))) 2 (.int .i64 (f.2.2 : Int))
  have keep : ∀ (X : World) (p : Addr) (v : Value) (b : Nat), p.block ≠ b → (X.setCell p v).heap[b]? = X.heap[b]? := fun X p v b h => Below.heap_setCell X p v b (fun e => h e.symm)
  have hkB : Same w (((A.setCell ⟨w.heap.size + 1, 0, none⟩ (.int .i64 (f.1 : Int))).setCell ⟨w.heap.size + 1, 1, none⟩ (.int .i64 (f.2.1 : Int))).setCell ⟨w.heap.size + 1, 2, none⟩ (.int .i64 (f.2.2 : Int))) :=
   ((hkA.setCell _ fun o _ _ h => absurd h (by show ¬ w.heap.size + 1 < _; omega)).setCell _ fun o _ _ h => absurd h (by show ¬ w.heap.size + 1 < _; omega)).setCell _ fun o _ _ h => absurd h (by show ¬ w.heap.size + 1 < _; omega)
  have hDB2 : (((A.setCell ⟨w.heap.size + 1, 0, none⟩ (.int .i64 (f.1 : Int))).setCell ⟨w.heap.size + 1, 1, none⟩ (.int .i64 (f.2.1 : Int))).setCell ⟨w.heap.size + 1, 2, none⟩ (.int .i64 (f.2.2 : Int))).heap[D]? = some (.deferred (some [])) := by
   rw [keep _ _ _ _ (by show w.heap.size + 1 ≠ _; omega), keep _ _ _ _ (by show w.heap.size + 1 ≠ _; omega), keep _ _ _ _ (by show w.heap.size + 1 ≠ _; omega)]; exact hDB
  refine hK _ _ ⟨?_, ?_⟩ ?_
  ·show (((A.setCell ⟨w.heap.size + 1, 0, none⟩ (.int .i64 (f.1 : Int))).setCell ⟨w.heap.size + 1, 1, none⟩ (.int .i64 (f.2.1 : Int))).setCell ⟨w.heap.size + 1, 2, none⟩ (.int .i64 (f.2.2 : Int))).heap[_]? = _
   rw [keep _ _ _ _ (by show w.heap.size + 1 ≠ _; omega), keep _ _ _ _ (by show w.heap.size + 1 ≠ _; omega), keep _ _ _ _ (by show w.heap.size + 1 ≠ _; omega)]; exact h4
  ·unfold Boxed
   show (((A.setCell ⟨w.heap.size + 1, 0, none⟩ (.int .i64 (f.1 : Int))).setCell ⟨w.heap.size + 1, 1, none⟩ (.int .i64 (f.2.1 : Int))).setCell ⟨w.heap.size + 1, 2, none⟩ (.int .i64 (f.2.2 : Int))).heap[_]? = _
   rw [keep _ _ _ _ (by show w.heap.size + 1 ≠ _; omega), keep _ _ _ _ (by show w.heap.size + 1 ≠ _; omega), keep _ _ _ _ (by show w.heap.size + 1 ≠ _; omega)]; exact h5
  clear hK K q0 q1 q2 z3
  refine wpT_x rfl rfl ?_
  intro K hK w' hs9
  go_simp
  refine hK _ _ ?_
  clear hK K hs9 w'
  refine wpT_nil ?_
  generalize (((A.setCell ⟨w.heap.size + 1, 0, none⟩ (.int .i64 (f.1 : Int))).setCell ⟨w.heap.size + 1, 1, none⟩ (.int .i64 (f.2.1 : Int))).setCell ⟨w.heap.size + 1, 2, none⟩ (.int .i64 (f.2.2 : Int))) = B at n3 hkB hDB2 ⊢
  gi_wp2
  refine ⟨by simp, .inl ⟨_, _, rfl, run_takeDeferred (w := B.drew) hDB2, ?_⟩⟩
  have hrow : (B.drew.putObj D (.deferred none)).heap[w.heap.size + 1]? = some (.cells #[.int .i64 (f.1 : Int), .int .i64 (f.2.1 : Int), .int .i64 (f.2.2 : Int)] 154 (0, 0)) := (World.putObj_heap_other (by omega)).trans n3
  have hld := run_loadVar_row (P := Tryz.prog) _ (w.heap.size + 1) 154 154 _ (0, 0) _ hrow Tryz.underlying154 rfl (by kernel_rfl)
  refine ⟨.tuple #[.agg #[.int .i64 (f.1 : Int), .int .i64 (f.2.1 : Int), .int .i64 (f.2.2 : Int)], .bool true], ?_, by rw [HR.out], hkB.drew.putObj _ fun o _ _ h => by omega⟩
  rw [results_cell_tmp rfl]
  simp [asAddr, hld, Result.andThen]
end Go.Tm
namespace Go.Tm
open Go.RowKit Go.Proofs
theorem bitLenAux_lib : ∀ (k n : Nat), n < 2 ^ k → Lib.bitLenAux k n = bitLen n
 | 0, n, h => by obtain rfl : n = 0 := by simpa using h
                 rfl
 | k + 1, n, h => by
  unfold Lib.bitLenAux bitLen
  by_cases h0 : n = 0
  ·simp [h0]
  ·rw [if_neg h0, if_neg h0, bitLenAux_lib k (n / 2) (by rw [Nat.pow_succ] at h; omega)]
   unfold bitLen
   rw [Nat.log2_def n]
   by_cases h1 : n < 2
   ·obtain rfl : n = 1 := by omega
    rfl
   ·rw [if_neg (by omega), if_pos (by omega)]; omega
theorem bitLen_lib (n : Nat) (h : n < 18446744073709551616) : bitLen n = Lib.bitLen n := (bitLenAux_lib 64 n h).symm
theorem bitLen_le (k n : Nat) (h : n < 2 ^ k) : bitLen n ≤ k := by
 unfold bitLen
 split
 ·omega
 ·exact (Nat.log2_lt (by omega)).2 h
theorem bitLen_pos (n : Nat) (h : 0 < n) : 1 ≤ bitLen n := by
 unfold bitLen
 rw [if_neg (by omega)]; omega
theorem of16 (w : World) : Calls Tryz.prog 125 #[.int .i64 16] w fun e w' => e = .returned (.tuple #[.agg #[.int .i64 10, .int .i64 5, .int .i64 16], .bool true]) ∧ Same w w' := of_any 16 w
theorem of32 (w : World) : Calls Tryz.prog 125 #[.int .i64 32] w fun e w' => e = .returned (.tuple #[.agg #[.int .i64 23, .int .i64 8, .int .i64 32], .bool true]) ∧ Same w w' := of_any 32 w
theorem of64 (w : World) : Calls Tryz.prog 125 #[.int .i64 64] w fun e w' => e = .returned (.tuple #[.agg #[.int .i64 52, .int .i64 11, .int .i64 64], .bool true]) ∧ Same w w' := of_any 64 w
set_option maxRecDepth 100000 in
set_option maxHeartbeats 4000000 in
theorem widen16_any (b : Nat) (w : World) (hb : b < 18446744073709551616) : Calls Tryz.prog 90 #[.int .u64 b, .int .i64 16] w fun e w' => e = .returned (.tuple #[.int .u64 ((widen b 16).1 : Nat), .int .i64 (widen b 16).2]) ∧ Same w w' := by
 by_cases hlen : 16 < bitLen b
 ·have hr : widen b 16 = (0, 2) := by show (if 16 < bitLen b then _ else _) = _; rw [if_pos hlen]
  have hl : decide ((16 : Int) < ((Lib.bitLen b : Nat) : Int)) = true := by rw [← bitLen_lib b hb]; simp; omega
  have HR := Lib.hid hr
  clear hr hlen
  go_enter Tryz.func90, Tryz.ntmps90
  go_wp2_with (first
   | (go_at_call 125; refine (of16 _).mono ?_; rintro x w1 ⟨rfl, hk1⟩)
   | (go_at_call 126; refine (Tryz.bits_Len64 b _ (by omega) (by omega)).mono ?_; rintro x w' ⟨rfl, h9⟩; replace h9 := h9.symm; subst h9; rw [Int.toNat_natCast]))
  go_ret2
  exact ⟨by rw [HR.out]; rfl, smK⟩
 ·have hl : decide ((16 : Int) < ((Lib.bitLen b : Nat) : Int)) = false := by rw [← bitLen_lib b hb]; simp; omega
  obtain ⟨s, hs⟩ : ∃ s, b >>> (16 - 1) &&& 1 = s := ⟨_, rfl⟩
  obtain ⟨e, he⟩ : ∃ e, b >>> 10 &&& onesN 5 = e := ⟨_, rfl⟩
  obtain ⟨f, hf⟩ : ∃ f, b &&& onesN 10 = f := ⟨_, rfl⟩
  have hs1 : s ≤ 1 := by rw [← hs]; exact Nat.and_le_right
  have he1 : e ≤ 31 := by rw [← he]; exact Nat.and_le_right
  have hf1 : f ≤ 1023 := by rw [← hf]; exact Nat.and_le_right
  have hr : widen b 16 = (if e = 31 then (fJoin 52 64 s 2047 (f <<< 42), (0 : Int)) else if e = 0 ∧ f = 0 then (fJoin 52 64 s 0 0, 0) else if e = 0 then (fJoin 52 64 s (1 + 1023 - 15 - (10 + 1 - bitLen f)) ((f <<< (10 + 1 - bitLen f) &&& onesN 10) <<< 42), 0) else (fJoin 52 64 s (e + 1023 - 15) (f <<< 42), 0)) := by
   show (if 16 < bitLen b then _ else _) = _
   rw [if_neg hlen, ← hs, ← he, ← hf]; rfl
  have hsh : f <<< 42 = f * 4398046511104 := by rw [Nat.shiftLeft_eq]
  have hsh2 : f <<< 42 < 18446744073709551616 := by rw [hsh]; omega
  have wsh : IntKind.u64.wrap ((f : Int) * 4398046511104) = ((f <<< 42 : Nat) : Int) := by rw [hsh, ← wrap_u64 (x := ((f * 4398046511104 : Nat) : Int)) (by omega) (by omega)]; rfl
  have HS := Lib.hid hs
  have HE := Lib.hid he
  have HF := Lib.hid hf
  have HR := Lib.hid hr
  have o1 : onesN 5 = 31 := by decide
  have o2 : onesN 11 = 2047 := by decide
  have WSH := Lib.hid wsh
  clear hr hlen hs he hf hsh wsh
  go_enter Tryz.func90, Tryz.ntmps90
  by_cases c1 : e = 31
  ·have k1 : ((e : Int) == 31) = true := by simp; omega
   have hres : widen b 16 = (fJoin 52 64 s 2047 (f <<< 42), 0) := by rw [HR.out, if_pos c1]
   have HQ := Lib.hid hres
   clear hres c1
   go_wp2_with (first
    | (go_at_call 125; refine (of16 _).mono ?_; rintro x w1 ⟨rfl, hk1⟩)
    | (go_at_call 126; refine (Tryz.bits_Len64 b _ (by omega) (by omega)).mono ?_; rintro x w' ⟨rfl, h9⟩; replace h9 := h9.symm; subst h9; rw [Int.toNat_natCast])
    | (go_at_call 127; refine (wide_any _).mono ?_; rintro x w' ⟨rfl, rfl⟩)
    | (go_at_call 128; refine (parts_any 10 5 16 b _ (by omega) (by omega) (by omega) hb).mono ?_; rintro x w2 ⟨rfl, hk2⟩; rw [HS.out, HE.out, HF.out]; have hbf := hk2.same w1.heap.size _ (show _ = some (.cells #[.int .i64 10, .int .i64 5, .int .i64 16] 154 (0, 0)) from (by repeat (first | with_reducible exact heap_new' (by simp) | with_reducible refine heap_old ?_ | with_reducible refine heap_drew ?_))) trivial; obtain ⟨f0, f1, f2⟩ := cells3 hbf; have hbt := hk2.same (w1.heap.size + 1 + 1 + 1) _ (show _ = some (.cells #[.int .i64 52, .int .i64 11, .int .i64 64] 154 (0, 0)) from (by repeat (first | with_reducible exact heap_new' (by simp) | with_reducible refine heap_old ?_ | with_reducible refine heap_drew ?_))) trivial; obtain ⟨g0, g1, g2⟩ := cells3 hbt)
    | (go_at_call 129; refine (ones_any 5 _ (by omega)).mono ?_; rintro x w' ⟨rfl, h9⟩; replace h9 := h9.symm; subst h9))
   go_region_with (first
    | (go_at_call 129; refine (ones_any 11 _ (by omega)).mono ?_; rintro x w' ⟨rfl, h9⟩; replace h9 := h9.symm; subst h9)
    | (go_at_call 130; rw [show IntKind.i64.wrap 2047 = 2047 from rfl, WSH.out]; refine (joined_any 52 11 64 s 2047 (f <<< 42) _ (by omega) (by omega) hs1 (by omega) hsh2).mono ?_; rintro x w3 ⟨rfl, hk3⟩))
   all_goals go_wp2
   all_goals go_ret2
   all_goals exact ⟨by rw [HQ.out]; rfl, smK⟩
  ·have k1 : ((e : Int) == 31) = false := by rw [beq_eq_false_iff_ne]; omega
   have hres := HR.out
   rw [if_neg c1] at hres
   clear c1
   by_cases c2 : e = 0 ∧ f = 0
   ·rw [if_pos c2] at hres
    have HQ := Lib.hid hres
    clear hres
    have k2 : ((e : Int) == 0) = true := by simp; omega
    have k3 : ((f : Int) == 0) = true := by simp; omega
    clear c2
    go_wp2_with (first
    | (go_at_call 125; refine (of16 _).mono ?_; rintro x w1 ⟨rfl, hk1⟩)
    | (go_at_call 126; refine (Tryz.bits_Len64 b _ (by omega) (by omega)).mono ?_; rintro x w' ⟨rfl, h9⟩; replace h9 := h9.symm; subst h9; rw [Int.toNat_natCast])
    | (go_at_call 127; refine (wide_any _).mono ?_; rintro x w' ⟨rfl, rfl⟩)
    | (go_at_call 128; refine (parts_any 10 5 16 b _ (by omega) (by omega) (by omega) hb).mono ?_; rintro x w2 ⟨rfl, hk2⟩; rw [HS.out, HE.out, HF.out]; have hbf := hk2.same w1.heap.size _ (show _ = some (.cells #[.int .i64 10, .int .i64 5, .int .i64 16] 154 (0, 0)) from (by repeat (first | with_reducible exact heap_new' (by simp) | with_reducible refine heap_old ?_ | with_reducible refine heap_drew ?_))) trivial; obtain ⟨f0, f1, f2⟩ := cells3 hbf; have hbt := hk2.same (w1.heap.size + 1 + 1 + 1) _ (show _ = some (.cells #[.int .i64 52, .int .i64 11, .int .i64 64] 154 (0, 0)) from (by repeat (first | with_reducible exact heap_new' (by simp) | with_reducible refine heap_old ?_ | with_reducible refine heap_drew ?_))) trivial; obtain ⟨g0, g1, g2⟩ := cells3 hbt)
    | (go_at_call 129; refine (ones_any 5 _ (by omega)).mono ?_; rintro x w' ⟨rfl, h9⟩; replace h9 := h9.symm; subst h9)
    | (go_at_call 130; refine (joined_any 52 11 64 s 0 0 _ (by omega) (by omega) hs1 (by omega) (by omega)).mono ?_; rintro x w3 ⟨rfl, hk3⟩))
    go_ret2
    exact ⟨by rw [HQ.out]; rfl, smK⟩
   ·rw [if_neg c2] at hres
    by_cases c3 : e = 0
    ·rw [if_pos c3] at hres
     have HQ := Lib.hid hres
     clear hres
     have k2 : ((e : Int) == 0) = true := by simp; omega
     have k3 : ((f : Int) == 0) = false := by rw [beq_eq_false_iff_ne]; omega
     have hfp : 0 < f := by omega
     have hbl := bitLen_lib f (by omega)
     have hb1 := bitLen_le 10 f (by omega)
     have hb2 := bitLen_pos f hfp
     obtain ⟨u, hu⟩ : ∃ u, 10 + 1 - bitLen f = u := ⟨_, rfl⟩
     have hu1 : 1 ≤ u ∧ u ≤ 10 := by omega
     have hu2 : ((10 : Int) + 1 - ((Lib.bitLen f : Nat) : Int)) = (u : Int) := by rw [← hbl]; omega
     have hu3 : ((11 : Int) - ((Lib.bitLen f : Nat) : Int)) = (u : Int) := by rw [← hbl]; omega
     have HU := Lib.hid hu
     clear hu hbl hb1 hb2
     go_wp2_with (first
    | (go_at_call 125; refine (of16 _).mono ?_; rintro x w1 ⟨rfl, hk1⟩)
    | (go_at_call 126; refine (Tryz.bits_Len64 b _ (by omega) (by omega)).mono ?_; rintro x w' ⟨rfl, h9⟩; replace h9 := h9.symm; subst h9; rw [Int.toNat_natCast])
    | (go_at_call 127; refine (wide_any _).mono ?_; rintro x w' ⟨rfl, rfl⟩)
    | (go_at_call 128; refine (parts_any 10 5 16 b _ (by omega) (by omega) (by omega) hb).mono ?_; rintro x w2 ⟨rfl, hk2⟩; rw [HS.out, HE.out, HF.out]; have hbf := hk2.same w1.heap.size _ (show _ = some (.cells #[.int .i64 10, .int .i64 5, .int .i64 16] 154 (0, 0)) from (by repeat (first | with_reducible exact heap_new' (by simp) | with_reducible refine heap_old ?_ | with_reducible refine heap_drew ?_))) trivial; obtain ⟨f0, f1, f2⟩ := cells3 hbf; have hbt := hk2.same (w1.heap.size + 1 + 1 + 1) _ (show _ = some (.cells #[.int .i64 52, .int .i64 11, .int .i64 64] 154 (0, 0)) from (by repeat (first | with_reducible exact heap_new' (by simp) | with_reducible refine heap_old ?_ | with_reducible refine heap_drew ?_))) trivial; obtain ⟨g0, g1, g2⟩ := cells3 hbt)
    | (go_at_call 129; refine (ones_any 5 _ (by omega)).mono ?_; rintro x w' ⟨rfl, h9⟩; replace h9 := h9.symm; subst h9))
     go_upto_region 14 with fail
     go_quiet (first | (go_at_call_of 126 (Value.int IntKind.u64 f); exact Calls.quiet_of_same (Tryz.bits_Len64 f _ (by omega) (by omega))))
     obtain ⟨w2', hw2⟩ : ∃ w2', w2.drewN nq = w2' := ⟨_, rfl⟩
     rw [hw2]
     have hkq : Same w2 w2' := by rw [← hw2]; exact smK
     clear hw2
     replace hk2 := hk2.trans hkq
     replace hbf := hkq.same _ _ hbf trivial
     replace hbt := hkq.same _ _ hbt trivial
     clear hkq f0 f1 f2 g0 g1 g2 w2
     obtain ⟨f0, f1, f2⟩ := cells3 hbf
     obtain ⟨g0, g1, g2⟩ := cells3 hbt
     obtain ⟨w2, hz2⟩ : ∃ z, z = w2' := ⟨_, rfl⟩
     subst hz2
     go_upto_region 15 with fail
     go_quiet (first | (go_at_call_of 129 (Value.int IntKind.i64 10); exact Calls.quiet_of_same (ones_any 10 _ (by omega))))
     have gb : bits .and .u64 (IntKind.u64.wrap ((f : Int) * 2 ^ u)) ((onesN 10 : Nat) : Int) = ((f <<< u &&& onesN 10 : Nat) : Int) := by
      have p1 : (2 : Nat) ^ u ≤ 2 ^ 10 := Nat.pow_le_pow_right (by decide) hu1.2
      have p2 : f * 2 ^ u < 18446744073709551616 := Nat.lt_of_lt_of_le (Nat.mul_lt_mul_of_lt_of_le (Nat.lt_succ_of_le hf1) p1 (by decide)) (by decide)
      have p3 : ((f : Int) * 2 ^ u) = ((f * 2 ^ u : Nat) : Int) := by push_cast; rfl
      rw [p3, wrap_u64 (by omega) (by omega), Nat.shiftLeft_eq, band _ _ p2 (by decide)]
     rw [gb]
     clear gb
     have gr : widen b 16 = (fJoin 52 64 s (1 + 1023 - 15 - u) ((f <<< u &&& onesN 10) <<< 42), 0) := by rw [HQ.out, HU.out]
     clear HQ
     have HQ := Lib.hid gr
     clear gr
     obtain ⟨g, hg⟩ : ∃ g, f <<< u &&& onesN 10 = g := ⟨_, rfl⟩
     have hg1 : g ≤ 1023 := by rw [← hg]; exact Nat.and_le_right
     rw [hg]
     rw [hg] at HQ
     clear hg
     have hsh : g <<< 42 = g * 4398046511104 := by rw [Nat.shiftLeft_eq]
     have hg2 : g <<< 42 < 18446744073709551616 := by rw [hsh]; omega
     have wsh : IntKind.u64.wrap ((g : Int) * 4398046511104) = ((g <<< 42 : Nat) : Int) := by rw [hsh, ← wrap_u64 (x := ((g * 4398046511104 : Nat) : Int)) (by omega) (by omega)]; rfl
     have WSG := Lib.hid wsh
     clear wsh hsh
     obtain ⟨w2', hw2⟩ : ∃ w2', w2.drewN nq = w2' := ⟨_, rfl⟩
     rw [hw2]
     have hkq : Same w2 w2' := by rw [← hw2]; exact smK
     clear hw2
     replace hk2 := hk2.trans hkq
     replace hbf := hkq.same _ _ hbf trivial
     replace hbt := hkq.same _ _ hbt trivial
     clear hkq f0 f1 f2 g0 g1 g2 w2
     obtain ⟨f0, f1, f2⟩ := cells3 hbf
     obtain ⟨g0, g1, g2⟩ := cells3 hbt
     obtain ⟨w2, hz2⟩ : ∃ z, z = w2' := ⟨_, rfl⟩
     subst hz2
     go_wp2
     have hS0 : w2.heap[w1.heap.size]? = some (.cells #[.int .i64 10, .int .i64 5, .int .i64 16] 154 (0, 0)) ∧ w2.heap[w1.heap.size + 1 + 1 + 1]? = some (.cells #[.int .i64 52, .int .i64 11, .int .i64 64] 154 (0, 0)) := ⟨hbf, hbt⟩
     refine (wpIn_wide (n := 0)).1 ?_
     refine wpIn_region_text (n := 0) (fun X => X.heap[w1.heap.size]? = some (.cells #[.int .i64 10, .int .i64 5, .int .i64 16] 154 (0, 0)) ∧ X.heap[w1.heap.size + 1 + 1 + 1]? = some (.cells #[.int .i64 52, .int .i64 11, .int .i64 64] 154 (0, 0))) reads (fun _ => trivial) rfl (by kernel_rfl) (by kernel_rfl) hS0 ?_
     iterate 4 (refine wpT_x rfl rfl ?_; intro K hK w' hs; obtain ⟨p0, p1, p2⟩ := cells3 hs.1; obtain ⟨q0, q1, q2⟩ := cells3 hs.2; go_simp; refine hK _ _ ?_; clear hK K p0 p1 p2 q0 q1 q2 hs w')
     refine wpT_c rfl rfl ?_
     intro K hK
     go_simp
     refine (callsW (bias_any 10 5 16 _ (by omega) (by omega))).mono ?_
     rintro x w' ⟨rfl, rfl⟩
     refine hK _ _ ⟨heap_old (w := w2.drew) hbf, heap_old (w := w2.drew) hbt⟩ ?_
     clear hK K
     have hc1 := heap_old (w := w2) (o := .cells #[.int .i64 10, .int .i64 5, .int .i64 16] 154) hbf
     have hc2 := heap_old (w := w2) (o := .cells #[.int .i64 10, .int .i64 5, .int .i64 16] 154) hbt
     obtain ⟨r0, r1, r2⟩ := cells3 hc2
     iterate 2 (refine wpT_x rfl rfl ?_; intro K hK w' hs; obtain ⟨p0, p1, p2⟩ := cells3 hs.1; obtain ⟨q0, q1, q2⟩ := cells3 hs.2; go_simp; refine hK _ _ ?_; clear hK K p0 p1 p2 q0 q1 q2 hs w')
     refine wpT_c rfl rfl ?_
     intro K hK
     go_simp
     refine (callsW (bias_any 52 11 64 _ (by omega) (by omega))).mono ?_
     rintro x w' ⟨rfl, rfl⟩
     refine hK _ _ ⟨heap_old hc1, heap_old hc2⟩ ?_
     clear hK K
     iterate 4 (refine wpT_x rfl rfl ?_; intro K hK w' hs; obtain ⟨p0, p1, p2⟩ := cells3 hs.1; obtain ⟨q0, q1, q2⟩ := cells3 hs.2; go_simp; refine hK _ _ ?_; clear hK K p0 p1 p2 q0 q1 q2 hs w')
     refine wpT_c rfl rfl ?_
     intro K hK
     go_simp
     have wex : IntKind.i64.wrap (IntKind.i64.wrap ((1 - (u : Int)) - ((onesN 4 : Nat) : Int)) + ((onesN 10 : Nat) : Int)) = ((1 + 1023 - 15 - u : Nat) : Int) := by
      rw [show onesN 4 = 15 from rfl, show onesN 10 = 1023 from rfl, IntWalk.i64_in ((1 - (u : Int)) - ((15 : Nat) : Int)) (by omega), IntWalk.i64_in _ (by omega)]; omega
     rw [wex, WSG.out]
     refine (callsW (joined_any 52 11 64 s (1 + 1023 - 15 - u) (g <<< 42) _ (by omega) (by omega) hs1 (by omega) hg2)).mono ?_
     rintro x w3 ⟨rfl, hk3⟩
     refine hK _ _ ⟨hk3.same _ _ (heap_old hc1) trivial, hk3.same _ _ (heap_old hc2) trivial⟩ ?_
     clear hK K wex
     iterate 2 (refine wpT_x rfl rfl ?_; intro K hK w' hs; obtain ⟨p0, p1, p2⟩ := cells3 hs.1; obtain ⟨q0, q1, q2⟩ := cells3 hs.2; go_simp; refine hK _ _ ?_; clear hK K p0 p1 p2 q0 q1 q2 hs w')
     refine wpT_nil ?_
     go_wp2
     go_ret2
     exact ⟨by rw [HQ.out]; rfl, smK⟩
    ·rw [if_neg c3] at hres
     have HQ := Lib.hid hres
     clear hres
     have k2 : ((e : Int) == 0) = false := by rw [beq_eq_false_iff_ne]; omega
     clear c2 c3
     go_wp2_with (first
    | (go_at_call 125; refine (of16 _).mono ?_; rintro x w1 ⟨rfl, hk1⟩)
    | (go_at_call 126; refine (Tryz.bits_Len64 b _ (by omega) (by omega)).mono ?_; rintro x w' ⟨rfl, h9⟩; replace h9 := h9.symm; subst h9; rw [Int.toNat_natCast])
    | (go_at_call 127; refine (wide_any _).mono ?_; rintro x w' ⟨rfl, rfl⟩)
    | (go_at_call 128; refine (parts_any 10 5 16 b _ (by omega) (by omega) (by omega) hb).mono ?_; rintro x w2 ⟨rfl, hk2⟩; rw [HS.out, HE.out, HF.out]; have hbf := hk2.same w1.heap.size _ (show _ = some (.cells #[.int .i64 10, .int .i64 5, .int .i64 16] 154 (0, 0)) from (by repeat (first | with_reducible exact heap_new' (by simp) | with_reducible refine heap_old ?_ | with_reducible refine heap_drew ?_))) trivial; obtain ⟨f0, f1, f2⟩ := cells3 hbf; have hbt := hk2.same (w1.heap.size + 1 + 1 + 1) _ (show _ = some (.cells #[.int .i64 52, .int .i64 11, .int .i64 64] 154 (0, 0)) from (by repeat (first | with_reducible exact heap_new' (by simp) | with_reducible refine heap_old ?_ | with_reducible refine heap_drew ?_))) trivial; obtain ⟨g0, g1, g2⟩ := cells3 hbt)
    | (go_at_call 129; refine (ones_any 5 _ (by omega)).mono ?_; rintro x w' ⟨rfl, h9⟩; replace h9 := h9.symm; subst h9))
     have hS0 : w2.heap[w1.heap.size]? = some (.cells #[.int .i64 10, .int .i64 5, .int .i64 16] 154 (0, 0)) ∧ w2.heap[w1.heap.size + 1 + 1 + 1]? = some (.cells #[.int .i64 52, .int .i64 11, .int .i64 64] 154 (0, 0)) := ⟨hbf, hbt⟩
     refine (wpIn_wide (n := 0)).1 ?_
     refine wpIn_region_text (n := 0) (fun X => X.heap[w1.heap.size]? = some (.cells #[.int .i64 10, .int .i64 5, .int .i64 16] 154 (0, 0)) ∧ X.heap[w1.heap.size + 1 + 1 + 1]? = some (.cells #[.int .i64 52, .int .i64 11, .int .i64 64] 154 (0, 0))) reads (fun _ => trivial) rfl (by kernel_rfl) (by kernel_rfl) hS0 ?_
     iterate 4 (refine wpT_x rfl rfl ?_; intro K hK w' hs; obtain ⟨p0, p1, p2⟩ := cells3 hs.1; obtain ⟨q0, q1, q2⟩ := cells3 hs.2; go_simp; refine hK _ _ ?_; clear hK K p0 p1 p2 q0 q1 q2 hs w')
     refine wpT_c rfl rfl ?_
     intro K hK
     go_simp
     refine (callsW (bias_any 10 5 16 _ (by omega) (by omega))).mono ?_
     rintro x w' ⟨rfl, rfl⟩
     refine hK _ _ ⟨heap_old (w := w2.drew) hbf, heap_old (w := w2.drew) hbt⟩ ?_
     clear hK K
     have hc1 := heap_old (w := w2) (o := .cells #[.int .i64 10, .int .i64 5, .int .i64 16] 154) hbf
     have hc2 := heap_old (w := w2) (o := .cells #[.int .i64 10, .int .i64 5, .int .i64 16] 154) hbt
     obtain ⟨r0, r1, r2⟩ := cells3 hc2
     iterate 2 (refine wpT_x rfl rfl ?_; intro K hK w' hs; obtain ⟨p0, p1, p2⟩ := cells3 hs.1; obtain ⟨q0, q1, q2⟩ := cells3 hs.2; go_simp; refine hK _ _ ?_; clear hK K p0 p1 p2 q0 q1 q2 hs w')
     refine wpT_c rfl rfl ?_
     intro K hK
     go_simp
     refine (callsW (bias_any 52 11 64 _ (by omega) (by omega))).mono ?_
     rintro x w' ⟨rfl, rfl⟩
     refine hK _ _ ⟨heap_old hc1, heap_old hc2⟩ ?_
     clear hK K
     iterate 4 (refine wpT_x rfl rfl ?_; intro K hK w' hs; obtain ⟨p0, p1, p2⟩ := cells3 hs.1; obtain ⟨q0, q1, q2⟩ := cells3 hs.2; go_simp; refine hK _ _ ?_; clear hK K p0 p1 p2 q0 q1 q2 hs w')
     refine wpT_c rfl rfl ?_
     intro K hK
     go_simp
     have wex : IntKind.i64.wrap (IntKind.i64.wrap ((e : Int) - ((onesN 4 : Nat) : Int)) + ((onesN 10 : Nat) : Int)) = ((e + 1023 - 15 : Nat) : Int) := by
      rw [show onesN 4 = 15 from rfl, show onesN 10 = 1023 from rfl, IntWalk.i64_in ((e : Int) - ((15 : Nat) : Int)) (by omega), IntWalk.i64_in _ (by omega)]; omega
     rw [wex, WSH.out]
     refine (callsW (joined_any 52 11 64 s (e + 1023 - 15) (f <<< 42) _ (by omega) (by omega) hs1 (by omega) hsh2)).mono ?_
     rintro x w3 ⟨rfl, hk3⟩
     refine hK _ _ ⟨hk3.same _ _ (heap_old hc1) trivial, hk3.same _ _ (heap_old hc2) trivial⟩ ?_
     clear hK K wex
     iterate 2 (refine wpT_x rfl rfl ?_; intro K hK w' hs; obtain ⟨p0, p1, p2⟩ := cells3 hs.1; obtain ⟨q0, q1, q2⟩ := cells3 hs.2; go_simp; refine hK _ _ ?_; clear hK K p0 p1 p2 q0 q1 q2 hs w')
     refine wpT_nil ?_
     go_wp2
     go_ret2
     exact ⟨by rw [HQ.out]; rfl, smK⟩
set_option maxRecDepth 100000 in
set_option maxHeartbeats 4000000 in
theorem widen32_any (b : Nat) (w : World) (hb : b < 18446744073709551616) : Calls Tryz.prog 90 #[.int .u64 b, .int .i64 32] w fun e w' => e = .returned (.tuple #[.int .u64 ((widen b 32).1 : Nat), .int .i64 (widen b 32).2]) ∧ Same w w' := by
 by_cases hlen : 32 < bitLen b
 ·have hr : widen b 32 = (0, 2) := by show (if 32 < bitLen b then _ else _) = _; rw [if_pos hlen]
  have hl : decide ((32 : Int) < ((Lib.bitLen b : Nat) : Int)) = true := by rw [← bitLen_lib b hb]; simp; omega
  have HR := Lib.hid hr
  clear hr hlen
  go_enter Tryz.func90, Tryz.ntmps90
  go_wp2_with (first
   | (go_at_call 125; refine (of32 _).mono ?_; rintro x w1 ⟨rfl, hk1⟩)
   | (go_at_call 126; refine (Tryz.bits_Len64 b _ (by omega) (by omega)).mono ?_; rintro x w' ⟨rfl, h9⟩; replace h9 := h9.symm; subst h9; rw [Int.toNat_natCast]))
  go_ret2
  exact ⟨by rw [HR.out]; rfl, smK⟩
 ·have hl : decide ((32 : Int) < ((Lib.bitLen b : Nat) : Int)) = false := by rw [← bitLen_lib b hb]; simp; omega
  obtain ⟨s, hs⟩ : ∃ s, b >>> (32 - 1) &&& 1 = s := ⟨_, rfl⟩
  obtain ⟨e, he⟩ : ∃ e, b >>> 23 &&& onesN 8 = e := ⟨_, rfl⟩
  obtain ⟨f, hf⟩ : ∃ f, b &&& onesN 23 = f := ⟨_, rfl⟩
  have hs1 : s ≤ 1 := by rw [← hs]; exact Nat.and_le_right
  have he1 : e ≤ 255 := by rw [← he]; exact Nat.and_le_right
  have hf1 : f ≤ 8388607 := by rw [← hf]; exact Nat.and_le_right
  have hr : widen b 32 = (if e = 255 then (fJoin 52 64 s 2047 (f <<< 29), (0 : Int)) else if e = 0 ∧ f = 0 then (fJoin 52 64 s 0 0, 0) else if e = 0 then (fJoin 52 64 s (1 + 1023 - 127 - (23 + 1 - bitLen f)) ((f <<< (23 + 1 - bitLen f) &&& onesN 23) <<< 29), 0) else (fJoin 52 64 s (e + 1023 - 127) (f <<< 29), 0)) := by
   show (if 32 < bitLen b then _ else _) = _
   rw [if_neg hlen, ← hs, ← he, ← hf]; rfl
  have hsh : f <<< 29 = f * 536870912 := by rw [Nat.shiftLeft_eq]
  have hsh2 : f <<< 29 < 18446744073709551616 := by rw [hsh]; omega
  have wsh : IntKind.u64.wrap ((f : Int) * 536870912) = ((f <<< 29 : Nat) : Int) := by rw [hsh, ← wrap_u64 (x := ((f * 536870912 : Nat) : Int)) (by omega) (by omega)]; rfl
  have HS := Lib.hid hs
  have HE := Lib.hid he
  have HF := Lib.hid hf
  have HR := Lib.hid hr
  have o1 : onesN 8 = 255 := by decide
  have o2 : onesN 11 = 2047 := by decide
  have WSH := Lib.hid wsh
  clear hr hlen hs he hf hsh wsh
  go_enter Tryz.func90, Tryz.ntmps90
  by_cases c1 : e = 255
  ·have k1 : ((e : Int) == 255) = true := by simp; omega
   have hres : widen b 32 = (fJoin 52 64 s 2047 (f <<< 29), 0) := by rw [HR.out, if_pos c1]
   have HQ := Lib.hid hres
   clear hres c1
   go_wp2_with (first
    | (go_at_call 125; refine (of32 _).mono ?_; rintro x w1 ⟨rfl, hk1⟩)
    | (go_at_call 126; refine (Tryz.bits_Len64 b _ (by omega) (by omega)).mono ?_; rintro x w' ⟨rfl, h9⟩; replace h9 := h9.symm; subst h9; rw [Int.toNat_natCast])
    | (go_at_call 127; refine (wide_any _).mono ?_; rintro x w' ⟨rfl, rfl⟩)
    | (go_at_call 128; refine (parts_any 23 8 32 b _ (by omega) (by omega) (by omega) hb).mono ?_; rintro x w2 ⟨rfl, hk2⟩; rw [HS.out, HE.out, HF.out]; have hbf := hk2.same w1.heap.size _ (show _ = some (.cells #[.int .i64 23, .int .i64 8, .int .i64 32] 154 (0, 0)) from (by repeat (first | with_reducible exact heap_new' (by simp) | with_reducible refine heap_old ?_ | with_reducible refine heap_drew ?_))) trivial; obtain ⟨f0, f1, f2⟩ := cells3 hbf; have hbt := hk2.same (w1.heap.size + 1 + 1 + 1) _ (show _ = some (.cells #[.int .i64 52, .int .i64 11, .int .i64 64] 154 (0, 0)) from (by repeat (first | with_reducible exact heap_new' (by simp) | with_reducible refine heap_old ?_ | with_reducible refine heap_drew ?_))) trivial; obtain ⟨g0, g1, g2⟩ := cells3 hbt)
    | (go_at_call 129; refine (ones_any 8 _ (by omega)).mono ?_; rintro x w' ⟨rfl, h9⟩; replace h9 := h9.symm; subst h9))
   go_region_with (first
    | (go_at_call 129; refine (ones_any 11 _ (by omega)).mono ?_; rintro x w' ⟨rfl, h9⟩; replace h9 := h9.symm; subst h9)
    | (go_at_call 130; rw [show IntKind.i64.wrap 2047 = 2047 from rfl, WSH.out]; refine (joined_any 52 11 64 s 2047 (f <<< 29) _ (by omega) (by omega) hs1 (by omega) hsh2).mono ?_; rintro x w3 ⟨rfl, hk3⟩))
   all_goals go_wp2
   all_goals go_ret2
   all_goals exact ⟨by rw [HQ.out]; rfl, smK⟩
  ·have k1 : ((e : Int) == 255) = false := by rw [beq_eq_false_iff_ne]; omega
   have hres := HR.out
   rw [if_neg c1] at hres
   clear c1
   by_cases c2 : e = 0 ∧ f = 0
   ·rw [if_pos c2] at hres
    have HQ := Lib.hid hres
    clear hres
    have k2 : ((e : Int) == 0) = true := by simp; omega
    have k3 : ((f : Int) == 0) = true := by simp; omega
    clear c2
    go_wp2_with (first
    | (go_at_call 125; refine (of32 _).mono ?_; rintro x w1 ⟨rfl, hk1⟩)
    | (go_at_call 126; refine (Tryz.bits_Len64 b _ (by omega) (by omega)).mono ?_; rintro x w' ⟨rfl, h9⟩; replace h9 := h9.symm; subst h9; rw [Int.toNat_natCast])
    | (go_at_call 127; refine (wide_any _).mono ?_; rintro x w' ⟨rfl, rfl⟩)
    | (go_at_call 128; refine (parts_any 23 8 32 b _ (by omega) (by omega) (by omega) hb).mono ?_; rintro x w2 ⟨rfl, hk2⟩; rw [HS.out, HE.out, HF.out]; have hbf := hk2.same w1.heap.size _ (show _ = some (.cells #[.int .i64 23, .int .i64 8, .int .i64 32] 154 (0, 0)) from (by repeat (first | with_reducible exact heap_new' (by simp) | with_reducible refine heap_old ?_ | with_reducible refine heap_drew ?_))) trivial; obtain ⟨f0, f1, f2⟩ := cells3 hbf; have hbt := hk2.same (w1.heap.size + 1 + 1 + 1) _ (show _ = some (.cells #[.int .i64 52, .int .i64 11, .int .i64 64] 154 (0, 0)) from (by repeat (first | with_reducible exact heap_new' (by simp) | with_reducible refine heap_old ?_ | with_reducible refine heap_drew ?_))) trivial; obtain ⟨g0, g1, g2⟩ := cells3 hbt)
    | (go_at_call 129; refine (ones_any 8 _ (by omega)).mono ?_; rintro x w' ⟨rfl, h9⟩; replace h9 := h9.symm; subst h9)
    | (go_at_call 130; refine (joined_any 52 11 64 s 0 0 _ (by omega) (by omega) hs1 (by omega) (by omega)).mono ?_; rintro x w3 ⟨rfl, hk3⟩))
    go_ret2
    exact ⟨by rw [HQ.out]; rfl, smK⟩
   ·rw [if_neg c2] at hres
    by_cases c3 : e = 0
    ·rw [if_pos c3] at hres
     have HQ := Lib.hid hres
     clear hres
     have k2 : ((e : Int) == 0) = true := by simp; omega
     have k3 : ((f : Int) == 0) = false := by rw [beq_eq_false_iff_ne]; omega
     have hfp : 0 < f := by omega
     have hbl := bitLen_lib f (by omega)
     have hb1 := bitLen_le 23 f (by omega)
     have hb2 := bitLen_pos f hfp
     obtain ⟨u, hu⟩ : ∃ u, 23 + 1 - bitLen f = u := ⟨_, rfl⟩
     have hu1 : 1 ≤ u ∧ u ≤ 23 := by omega
     have hu2 : ((23 : Int) + 1 - ((Lib.bitLen f : Nat) : Int)) = (u : Int) := by rw [← hbl]; omega
     have hu3 : ((24 : Int) - ((Lib.bitLen f : Nat) : Int)) = (u : Int) := by rw [← hbl]; omega
     have HU := Lib.hid hu
     clear hu hbl hb1 hb2
     go_wp2_with (first
    | (go_at_call 125; refine (of32 _).mono ?_; rintro x w1 ⟨rfl, hk1⟩)
    | (go_at_call 126; refine (Tryz.bits_Len64 b _ (by omega) (by omega)).mono ?_; rintro x w' ⟨rfl, h9⟩; replace h9 := h9.symm; subst h9; rw [Int.toNat_natCast])
    | (go_at_call 127; refine (wide_any _).mono ?_; rintro x w' ⟨rfl, rfl⟩)
    | (go_at_call 128; refine (parts_any 23 8 32 b _ (by omega) (by omega) (by omega) hb).mono ?_; rintro x w2 ⟨rfl, hk2⟩; rw [HS.out, HE.out, HF.out]; have hbf := hk2.same w1.heap.size _ (show _ = some (.cells #[.int .i64 23, .int .i64 8, .int .i64 32] 154 (0, 0)) from (by repeat (first | with_reducible exact heap_new' (by simp) | with_reducible refine heap_old ?_ | with_reducible refine heap_drew ?_))) trivial; obtain ⟨f0, f1, f2⟩ := cells3 hbf; have hbt := hk2.same (w1.heap.size + 1 + 1 + 1) _ (show _ = some (.cells #[.int .i64 52, .int .i64 11, .int .i64 64] 154 (0, 0)) from (by repeat (first | with_reducible exact heap_new' (by simp) | with_reducible refine heap_old ?_ | with_reducible refine heap_drew ?_))) trivial; obtain ⟨g0, g1, g2⟩ := cells3 hbt)
    | (go_at_call 129; refine (ones_any 8 _ (by omega)).mono ?_; rintro x w' ⟨rfl, h9⟩; replace h9 := h9.symm; subst h9))
     go_upto_region 14 with fail
     go_quiet (first | (go_at_call_of 126 (Value.int IntKind.u64 f); exact Calls.quiet_of_same (Tryz.bits_Len64 f _ (by omega) (by omega))))
     obtain ⟨w2', hw2⟩ : ∃ w2', w2.drewN nq = w2' := ⟨_, rfl⟩
     rw [hw2]
     have hkq : Same w2 w2' := by rw [← hw2]; exact smK
     clear hw2
     replace hk2 := hk2.trans hkq
     replace hbf := hkq.same _ _ hbf trivial
     replace hbt := hkq.same _ _ hbt trivial
     clear hkq f0 f1 f2 g0 g1 g2 w2
     obtain ⟨f0, f1, f2⟩ := cells3 hbf
     obtain ⟨g0, g1, g2⟩ := cells3 hbt
     obtain ⟨w2, hz2⟩ : ∃ z, z = w2' := ⟨_, rfl⟩
     subst hz2
     go_upto_region 15 with fail
     go_quiet (first | (go_at_call_of 129 (Value.int IntKind.i64 23); exact Calls.quiet_of_same (ones_any 23 _ (by omega))))
     have gb : bits .and .u64 (IntKind.u64.wrap ((f : Int) * 2 ^ u)) ((onesN 23 : Nat) : Int) = ((f <<< u &&& onesN 23 : Nat) : Int) := by
      have p1 : (2 : Nat) ^ u ≤ 2 ^ 23 := Nat.pow_le_pow_right (by decide) hu1.2
      have p2 : f * 2 ^ u < 18446744073709551616 := Nat.lt_of_lt_of_le (Nat.mul_lt_mul_of_lt_of_le (Nat.lt_succ_of_le hf1) p1 (by decide)) (by decide)
      have p3 : ((f : Int) * 2 ^ u) = ((f * 2 ^ u : Nat) : Int) := by push_cast; rfl
      rw [p3, wrap_u64 (by omega) (by omega), Nat.shiftLeft_eq, band _ _ p2 (by decide)]
     rw [gb]
     clear gb
     have gr : widen b 32 = (fJoin 52 64 s (1 + 1023 - 127 - u) ((f <<< u &&& onesN 23) <<< 29), 0) := by rw [HQ.out, HU.out]
     clear HQ
     have HQ := Lib.hid gr
     clear gr
     obtain ⟨g, hg⟩ : ∃ g, f <<< u &&& onesN 23 = g := ⟨_, rfl⟩
     have hg1 : g ≤ 8388607 := by rw [← hg]; exact Nat.and_le_right
     rw [hg]
     rw [hg] at HQ
     clear hg
     have hsh : g <<< 29 = g * 536870912 := by rw [Nat.shiftLeft_eq]
     have hg2 : g <<< 29 < 18446744073709551616 := by rw [hsh]; omega
     have wsh : IntKind.u64.wrap ((g : Int) * 536870912) = ((g <<< 29 : Nat) : Int) := by rw [hsh, ← wrap_u64 (x := ((g * 536870912 : Nat) : Int)) (by omega) (by omega)]; rfl
     have WSG := Lib.hid wsh
     clear wsh hsh
     obtain ⟨w2', hw2⟩ : ∃ w2', w2.drewN nq = w2' := ⟨_, rfl⟩
     rw [hw2]
     have hkq : Same w2 w2' := by rw [← hw2]; exact smK
     clear hw2
     replace hk2 := hk2.trans hkq
     replace hbf := hkq.same _ _ hbf trivial
     replace hbt := hkq.same _ _ hbt trivial
     clear hkq f0 f1 f2 g0 g1 g2 w2
     obtain ⟨f0, f1, f2⟩ := cells3 hbf
     obtain ⟨g0, g1, g2⟩ := cells3 hbt
     obtain ⟨w2, hz2⟩ : ∃ z, z = w2' := ⟨_, rfl⟩
     subst hz2
     go_wp2
     have hS0 : w2.heap[w1.heap.size]? = some (.cells #[.int .i64 23, .int .i64 8, .int .i64 32] 154 (0, 0)) ∧ w2.heap[w1.heap.size + 1 + 1 + 1]? = some (.cells #[.int .i64 52, .int .i64 11, .int .i64 64] 154 (0, 0)) := ⟨hbf, hbt⟩
     refine (wpIn_wide (n := 0)).1 ?_
     refine wpIn_region_text (n := 0) (fun X => X.heap[w1.heap.size]? = some (.cells #[.int .i64 23, .int .i64 8, .int .i64 32] 154 (0, 0)) ∧ X.heap[w1.heap.size + 1 + 1 + 1]? = some (.cells #[.int .i64 52, .int .i64 11, .int .i64 64] 154 (0, 0))) reads (fun _ => trivial) rfl (by kernel_rfl) (by kernel_rfl) hS0 ?_
     iterate 4 (refine wpT_x rfl rfl ?_; intro K hK w' hs; obtain ⟨p0, p1, p2⟩ := cells3 hs.1; obtain ⟨q0, q1, q2⟩ := cells3 hs.2; go_simp; refine hK _ _ ?_; clear hK K p0 p1 p2 q0 q1 q2 hs w')
     refine wpT_c rfl rfl ?_
     intro K hK
     go_simp
     refine (callsW (bias_any 23 8 32 _ (by omega) (by omega))).mono ?_
     rintro x w' ⟨rfl, rfl⟩
     refine hK _ _ ⟨heap_old (w := w2.drew) hbf, heap_old (w := w2.drew) hbt⟩ ?_
     clear hK K
     have hc1 := heap_old (w := w2) (o := .cells #[.int .i64 23, .int .i64 8, .int .i64 32] 154) hbf
     have hc2 := heap_old (w := w2) (o := .cells #[.int .i64 23, .int .i64 8, .int .i64 32] 154) hbt
     obtain ⟨r0, r1, r2⟩ := cells3 hc2
     iterate 2 (refine wpT_x rfl rfl ?_; intro K hK w' hs; obtain ⟨p0, p1, p2⟩ := cells3 hs.1; obtain ⟨q0, q1, q2⟩ := cells3 hs.2; go_simp; refine hK _ _ ?_; clear hK K p0 p1 p2 q0 q1 q2 hs w')
     refine wpT_c rfl rfl ?_
     intro K hK
     go_simp
     refine (callsW (bias_any 52 11 64 _ (by omega) (by omega))).mono ?_
     rintro x w' ⟨rfl, rfl⟩
     refine hK _ _ ⟨heap_old hc1, heap_old hc2⟩ ?_
     clear hK K
     iterate 4 (refine wpT_x rfl rfl ?_; intro K hK w' hs; obtain ⟨p0, p1, p2⟩ := cells3 hs.1; obtain ⟨q0, q1, q2⟩ := cells3 hs.2; go_simp; refine hK _ _ ?_; clear hK K p0 p1 p2 q0 q1 q2 hs w')
     refine wpT_c rfl rfl ?_
     intro K hK
     go_simp
     have wex : IntKind.i64.wrap (IntKind.i64.wrap ((1 - (u : Int)) - ((onesN 7 : Nat) : Int)) + ((onesN 10 : Nat) : Int)) = ((1 + 1023 - 127 - u : Nat) : Int) := by
      rw [show onesN 7 = 127 from rfl, show onesN 10 = 1023 from rfl, IntWalk.i64_in ((1 - (u : Int)) - ((127 : Nat) : Int)) (by omega), IntWalk.i64_in _ (by omega)]; omega
     rw [wex, WSG.out]
     refine (callsW (joined_any 52 11 64 s (1 + 1023 - 127 - u) (g <<< 29) _ (by omega) (by omega) hs1 (by omega) hg2)).mono ?_
     rintro x w3 ⟨rfl, hk3⟩
     refine hK _ _ ⟨hk3.same _ _ (heap_old hc1) trivial, hk3.same _ _ (heap_old hc2) trivial⟩ ?_
     clear hK K wex
     iterate 2 (refine wpT_x rfl rfl ?_; intro K hK w' hs; obtain ⟨p0, p1, p2⟩ := cells3 hs.1; obtain ⟨q0, q1, q2⟩ := cells3 hs.2; go_simp; refine hK _ _ ?_; clear hK K p0 p1 p2 q0 q1 q2 hs w')
     refine wpT_nil ?_
     go_wp2
     go_ret2
     exact ⟨by rw [HQ.out]; rfl, smK⟩
    ·rw [if_neg c3] at hres
     have HQ := Lib.hid hres
     clear hres
     have k2 : ((e : Int) == 0) = false := by rw [beq_eq_false_iff_ne]; omega
     clear c2 c3
     go_wp2_with (first
    | (go_at_call 125; refine (of32 _).mono ?_; rintro x w1 ⟨rfl, hk1⟩)
    | (go_at_call 126; refine (Tryz.bits_Len64 b _ (by omega) (by omega)).mono ?_; rintro x w' ⟨rfl, h9⟩; replace h9 := h9.symm; subst h9; rw [Int.toNat_natCast])
    | (go_at_call 127; refine (wide_any _).mono ?_; rintro x w' ⟨rfl, rfl⟩)
    | (go_at_call 128; refine (parts_any 23 8 32 b _ (by omega) (by omega) (by omega) hb).mono ?_; rintro x w2 ⟨rfl, hk2⟩; rw [HS.out, HE.out, HF.out]; have hbf := hk2.same w1.heap.size _ (show _ = some (.cells #[.int .i64 23, .int .i64 8, .int .i64 32] 154 (0, 0)) from (by repeat (first | with_reducible exact heap_new' (by simp) | with_reducible refine heap_old ?_ | with_reducible refine heap_drew ?_))) trivial; obtain ⟨f0, f1, f2⟩ := cells3 hbf; have hbt := hk2.same (w1.heap.size + 1 + 1 + 1) _ (show _ = some (.cells #[.int .i64 52, .int .i64 11, .int .i64 64] 154 (0, 0)) from (by repeat (first | with_reducible exact heap_new' (by simp) | with_reducible refine heap_old ?_ | with_reducible refine heap_drew ?_))) trivial; obtain ⟨g0, g1, g2⟩ := cells3 hbt)
    | (go_at_call 129; refine (ones_any 8 _ (by omega)).mono ?_; rintro x w' ⟨rfl, h9⟩; replace h9 := h9.symm; subst h9))
     have hS0 : w2.heap[w1.heap.size]? = some (.cells #[.int .i64 23, .int .i64 8, .int .i64 32] 154 (0, 0)) ∧ w2.heap[w1.heap.size + 1 + 1 + 1]? = some (.cells #[.int .i64 52, .int .i64 11, .int .i64 64] 154 (0, 0)) := ⟨hbf, hbt⟩
     refine (wpIn_wide (n := 0)).1 ?_
     refine wpIn_region_text (n := 0) (fun X => X.heap[w1.heap.size]? = some (.cells #[.int .i64 23, .int .i64 8, .int .i64 32] 154 (0, 0)) ∧ X.heap[w1.heap.size + 1 + 1 + 1]? = some (.cells #[.int .i64 52, .int .i64 11, .int .i64 64] 154 (0, 0))) reads (fun _ => trivial) rfl (by kernel_rfl) (by kernel_rfl) hS0 ?_
     iterate 4 (refine wpT_x rfl rfl ?_; intro K hK w' hs; obtain ⟨p0, p1, p2⟩ := cells3 hs.1; obtain ⟨q0, q1, q2⟩ := cells3 hs.2; go_simp; refine hK _ _ ?_; clear hK K p0 p1 p2 q0 q1 q2 hs w')
     refine wpT_c rfl rfl ?_
     intro K hK
     go_simp
     refine (callsW (bias_any 23 8 32 _ (by omega) (by omega))).mono ?_
     rintro x w' ⟨rfl, rfl⟩
     refine hK _ _ ⟨heap_old (w := w2.drew) hbf, heap_old (w := w2.drew) hbt⟩ ?_
     clear hK K
     have hc1 := heap_old (w := w2) (o := .cells #[.int .i64 23, .int .i64 8, .int .i64 32] 154) hbf
     have hc2 := heap_old (w := w2) (o := .cells #[.int .i64 23, .int .i64 8, .int .i64 32] 154) hbt
     obtain ⟨r0, r1, r2⟩ := cells3 hc2
     iterate 2 (refine wpT_x rfl rfl ?_; intro K hK w' hs; obtain ⟨p0, p1, p2⟩ := cells3 hs.1; obtain ⟨q0, q1, q2⟩ := cells3 hs.2; go_simp; refine hK _ _ ?_; clear hK K p0 p1 p2 q0 q1 q2 hs w')
     refine wpT_c rfl rfl ?_
     intro K hK
     go_simp
     refine (callsW (bias_any 52 11 64 _ (by omega) (by omega))).mono ?_
     rintro x w' ⟨rfl, rfl⟩
     refine hK _ _ ⟨heap_old hc1, heap_old hc2⟩ ?_
     clear hK K
     iterate 4 (refine wpT_x rfl rfl ?_; intro K hK w' hs; obtain ⟨p0, p1, p2⟩ := cells3 hs.1; obtain ⟨q0, q1, q2⟩ := cells3 hs.2; go_simp; refine hK _ _ ?_; clear hK K p0 p1 p2 q0 q1 q2 hs w')
     refine wpT_c rfl rfl ?_
     intro K hK
     go_simp
     have wex : IntKind.i64.wrap (IntKind.i64.wrap ((e : Int) - ((onesN 7 : Nat) : Int)) + ((onesN 10 : Nat) : Int)) = ((e + 1023 - 127 : Nat) : Int) := by
      rw [show onesN 7 = 127 from rfl, show onesN 10 = 1023 from rfl, IntWalk.i64_in ((e : Int) - ((127 : Nat) : Int)) (by omega), IntWalk.i64_in _ (by omega)]; omega
     rw [wex, WSH.out]
     refine (callsW (joined_any 52 11 64 s (e + 1023 - 127) (f <<< 29) _ (by omega) (by omega) hs1 (by omega) hsh2)).mono ?_
     rintro x w3 ⟨rfl, hk3⟩
     refine hK _ _ ⟨hk3.same _ _ (heap_old hc1) trivial, hk3.same _ _ (heap_old hc2) trivial⟩ ?_
     clear hK K wex
     iterate 2 (refine wpT_x rfl rfl ?_; intro K hK w' hs; obtain ⟨p0, p1, p2⟩ := cells3 hs.1; obtain ⟨q0, q1, q2⟩ := cells3 hs.2; go_simp; refine hK _ _ ?_; clear hK K p0 p1 p2 q0 q1 q2 hs w')
     refine wpT_nil ?_
     go_wp2
     go_ret2
     exact ⟨by rw [HQ.out]; rfl, smK⟩
set_option maxRecDepth 100000 in
set_option maxHeartbeats 4000000 in
theorem widen64_any (b : Nat) (w : World) (hb : b < 18446744073709551616) : Calls Tryz.prog 90 #[.int .u64 b, .int .i64 64] w fun e w' => e = .returned (.tuple #[.int .u64 (b : Nat), .int .i64 0]) ∧ Same w w' := by
 have hl : decide ((64 : Int) < ((Lib.bitLen b : Nat) : Int)) = false := by rw [← bitLen_lib b hb]; have := bitLen_le 64 b hb; simp; omega
 obtain ⟨s, hs⟩ : ∃ s, b >>> (64 - 1) &&& 1 = s := ⟨_, rfl⟩
 obtain ⟨e, he⟩ : ∃ e, b >>> 52 &&& onesN 11 = e := ⟨_, rfl⟩
 obtain ⟨f, hf⟩ : ∃ f, b &&& onesN 52 = f := ⟨_, rfl⟩
 have HS := Lib.hid hs
 have HE := Lib.hid he
 have HF := Lib.hid hf
 clear hs he hf
 go_enter Tryz.func90, Tryz.ntmps90
 go_wp2_with (first
    | (go_at_call 125; refine (of64 _).mono ?_; rintro x w1 ⟨rfl, hk1⟩)
    | (go_at_call 126; refine (Tryz.bits_Len64 b _ (by omega) (by omega)).mono ?_; rintro x w' ⟨rfl, h9⟩; replace h9 := h9.symm; subst h9; rw [Int.toNat_natCast])
    | (go_at_call 127; refine (wide_any _).mono ?_; rintro x w' ⟨rfl, rfl⟩)
    | (go_at_call 128; refine (parts_any 52 11 64 b _ (by omega) (by omega) (by omega) hb).mono ?_; rintro x w2 ⟨rfl, hk2⟩; rw [HS.out, HE.out, HF.out]; have hbf := hk2.same w1.heap.size _ (show _ = some (.cells #[.int .i64 52, .int .i64 11, .int .i64 64] 154 (0, 0)) from heap_old (heap_old (heap_old (heap_new' (by simp))))) trivial; obtain ⟨f0, f1, f2⟩ := cells3 hbf; have hbt := hk2.same (w1.heap.size + 1 + 1 + 1) _ (show _ = some (.cells #[.int .i64 52, .int .i64 11, .int .i64 64] 154 (0, 0)) from heap_new' (by simp)) trivial; obtain ⟨g0, g1, g2⟩ := cells3 hbt)
    | (go_at_call 129; refine (ones_any 11 _ (by omega)).mono ?_; rintro x w' ⟨rfl, h9⟩; replace h9 := h9.symm; subst h9))
 go_ret2
 exact ⟨rfl, smK⟩
set_option maxRecDepth 100000 in
set_option maxHeartbeats 1000000 in
theorem widenNone_any (b : Nat) (x : Int) (w : World) (hx : fForm x = none) : Calls Tryz.prog 90 #[.int .u64 b, .int .i64 x] w fun e w' => e = .returned (.tuple #[.int .u64 (0 : Nat), .int .i64 2]) ∧ Same w w' := by
 have ho : Calls Tryz.prog 125 #[.int .i64 x] w fun e w' => e = .returned (.tuple #[.agg #[.int .i64 0, .int .i64 0, .int .i64 0], .bool false]) ∧ Same w w' := (of_any x w).mono fun e w' h => by rw [hx] at h; exact h
 go_enter Tryz.func90, Tryz.ntmps90
 go_wp2_with (first
    | (go_at_call 125; refine ho.mono ?_; rintro x w1 ⟨rfl, hk1⟩))
 go_ret2
 exact ⟨rfl, smK⟩
theorem widen_any (b : Nat) (x : Int) (w : World) (hb : b < 18446744073709551616) : Calls Tryz.prog 90 #[.int .u64 b, .int .i64 x] w fun e w' => e = .returned (.tuple #[.int .u64 ((widen b x).1 : Nat), .int .i64 (widen b x).2]) ∧ Same w w' := by
 by_cases h16 : x = 16
 ·subst h16; exact widen16_any b w hb
 by_cases h32 : x = 32
 ·subst h32; exact widen32_any b w hb
 by_cases h64 : x = 64
 ·subst h64
  have : widen b 64 = (b, 0) := by
   show (if 64 < bitLen b then _ else _) = _
   rw [if_neg (by have := bitLen_le 64 b hb; omega)]; rfl
  rw [this]; exact widen64_any b w hb
 have hn : fForm x = none := by unfold fForm; rw [if_neg h16, if_neg h32, if_neg h64]
 have : widen b x = (0, 2) := by unfold widen; rw [hn]
 rw [this]; exact widenNone_any b x w hn
end Go.Tm
namespace Go.Tm
open Go.RowKit Go.Proofs
set_option maxRecDepth 100000 in
set_option maxHeartbeats 1000000 in
theorem narrowNone_any (b : Nat) (x : Int) (w : World) (hx : fForm x = none) : Calls Tryz.prog 96 #[.int .u64 b, .int .i64 x] w fun e w' => e = .returned (.tuple #[.int .u64 (0 : Nat), .bool false]) ∧ Same w w' := by
 go_enter Tryz.func96, Tryz.ntmps96
 go_wp2
 refine wp_scope_jumps (rest := ?rest) 0 (fun a w' => a.tmps.size = 119 ∧ a.defers = [] ∧ Same w w') (fun _ _ => 0) ?hf ?_ ?_
 case hf => rfl
 ·go_wp2_with (first
    | (go_at_call 127; refine (wide_any _).mono ?_; rintro x w' ⟨rfl, h9⟩; replace h9 := h9.symm; subst h9)
    | (go_at_call 125; refine (of_any x _).mono ?_; rintro x w1 ⟨rfl, hk1⟩; rw [hx]))
  refine wp_goto ?_
  exact ⟨rfl, rfl, rfl, smK⟩
 ·rintro a w1 ⟨hs, hd, hk⟩
  go_wp2
  simp only [Exit.jump]
  go_ret2
  exact ⟨by simp [Array.getD, hs], hk⟩
set_option maxRecDepth 100000 in
set_option maxHeartbeats 4000000 in
theorem narrow16_any (b : Nat) (w : World) (hb : b < 18446744073709551616) : Calls Tryz.prog 96 #[.int .u64 b, .int .i64 16] w fun e w' => e = .returned (.tuple #[.int .u64 ((narrow b 16).1 : Nat), .bool (narrow b 16).2]) ∧ Same w w' := by
 obtain ⟨s, hs⟩ : ∃ s, b >>> 63 &&& 1 = s := ⟨_, rfl⟩
 obtain ⟨e, he⟩ : ∃ e, b >>> 52 &&& onesN 11 = e := ⟨_, rfl⟩
 obtain ⟨f, hf⟩ : ∃ f, b &&& onesN 52 = f := ⟨_, rfl⟩
 have hs1 : s ≤ 1 := by rw [← hs]; exact Nat.and_le_right
 have he1 : e ≤ 2047 := by rw [← he]; exact Nat.and_le_right
 have hf1 : f ≤ 4503599627370495 := by rw [← hf]; exact Nat.and_le_right
 obtain ⟨E, hE⟩ : ∃ E : Int, (e : Int) - 1023 + 15 = E := ⟨_, rfl⟩
 have hr : narrow b 16 = (if e = 2047 then narrowIn 10 16 s 31 f 42 else if e = 0 ∧ f = 0 then narrowIn 10 16 s 0 0 42 else if 0 < E ∧ E < 31 then narrowIn 10 16 s E.toNat f 42 else if 0 < e ∧ E ≤ 0 ∧ -10 < E then narrowIn 10 16 s 0 (f ||| 2 ^ 52) (42 + 1 - E).toNat else (0, false)) := by
  rw [← hE, ← hs, ← he, ← hf]; rfl
 have HS := Lib.hid hs
 have HE := Lib.hid he
 have HF := Lib.hid hf
 have HR := Lib.hid hr
 have o1 : onesN 5 = 31 := by decide
 have o2 : onesN 11 = 2047 := by decide
 clear hr hs he hf
 go_enter Tryz.func96, Tryz.ntmps96
 go_wp2
 refine wp_scope_jumps (rest := ?rest) 0 (fun a w' => a.tmps.size = 119 ∧ a.defers = [] ∧ Same w w' ∧ narrow b 16 = (0, false)) (fun _ _ => 0) ?hf ?_ ?_
 case hf => rfl
 ·go_wp2_with (first
    | (go_at_call 127; refine (wide_any _).mono ?_; rintro x w' ⟨rfl, h9⟩; replace h9 := h9.symm; subst h9)
    | (go_at_call 125; refine (of16 _).mono ?_; rintro x w1 ⟨rfl, hk1⟩; have hbt1 := hk1.same (w.heap.size + 1 + 1) _ (show _ = some (.cells #[.int .i64 52, .int .i64 11, .int .i64 64] 154 (0, 0)) from heap_new' (by simp)) trivial; obtain ⟨g0, g1, g2⟩ := cells3 (heap_old (o := .cells #[.int .i64 10, .int .i64 5, .int .i64 16] 154) hbt1))
    | (go_at_call 128; refine (parts_any 52 11 64 b _ (by omega) (by omega) (by omega) hb).mono ?_; rintro x w2 ⟨rfl, hk2⟩; rw [show 64 - 1 = 63 from rfl, HS.out, HE.out, HF.out]; have hbt := hk2.same (w.heap.size + 1 + 1) _ (show _ = some (.cells #[.int .i64 52, .int .i64 11, .int .i64 64] 154 (0, 0)) from heap_old hbt1) trivial; have hbf := hk2.same w1.heap.size _ (show _ = some (.cells #[.int .i64 10, .int .i64 5, .int .i64 16] 154 (0, 0)) from heap_new' (by simp)) trivial; obtain ⟨f0, f1, f2⟩ := cells3 hbf; clear g0 g1 g2; obtain ⟨g0, g1, g2⟩ := cells3 hbt))
  have hS0 : w2.heap[w1.heap.size]? = some (.cells #[.int .i64 10, .int .i64 5, .int .i64 16] 154 (0, 0)) ∧ w2.heap[w.heap.size + 1 + 1]? = some (.cells #[.int .i64 52, .int .i64 11, .int .i64 64] 154 (0, 0)) := ⟨hbf, hbt⟩
  refine (wpIn_wide (n := 0)).1 ?_
  refine wpIn_region_text (n := 0) (fun X => X.heap[w1.heap.size]? = some (.cells #[.int .i64 10, .int .i64 5, .int .i64 16] 154 (0, 0)) ∧ X.heap[w.heap.size + 1 + 1]? = some (.cells #[.int .i64 52, .int .i64 11, .int .i64 64] 154 (0, 0))) reads (fun _ => trivial) rfl (by kernel_rfl) (by kernel_rfl) hS0 ?_
  iterate 2 (refine wpT_x rfl rfl ?_; intro K hK w' hs; obtain ⟨p0, p1, p2⟩ := cells3 hs.1; obtain ⟨q0, q1, q2⟩ := cells3 hs.2; go_simp; refine hK _ _ ?_; clear hK K p0 p1 p2 q0 q1 q2 hs w')
  refine wpT_c rfl rfl ?_
  intro K hK
  go_simp
  refine (callsW (bias_any 52 11 64 _ (by omega) (by omega))).mono ?_
  rintro x w' ⟨rfl, rfl⟩
  refine hK _ _ ⟨heap_old (w := w2.drew) hbf, heap_old (w := w2.drew) hbt⟩ ?_
  clear hK K
  have hc1 := heap_old (w := w2) (o := .cells #[.int .i64 52, .int .i64 11, .int .i64 64] 154) hbf
  have hc2 := heap_old (w := w2) (o := .cells #[.int .i64 52, .int .i64 11, .int .i64 64] 154) hbt
  obtain ⟨r0, r1, r2⟩ := cells3 hc1
  iterate 2 (refine wpT_x rfl rfl ?_; intro K hK w' hs; obtain ⟨p0, p1, p2⟩ := cells3 hs.1; obtain ⟨q0, q1, q2⟩ := cells3 hs.2; go_simp; refine hK _ _ ?_; clear hK K p0 p1 p2 q0 q1 q2 hs w')
  refine wpT_c rfl rfl ?_
  intro K hK
  go_simp
  refine (callsW (bias_any 10 5 16 _ (by omega) (by omega))).mono ?_
  rintro x w' ⟨rfl, rfl⟩
  refine hK _ _ ⟨heap_old hc1, heap_old hc2⟩ ?_
  clear hK K
  iterate 2 (refine wpT_x rfl rfl ?_; intro K hK w' hs; obtain ⟨p0, p1, p2⟩ := cells3 hs.1; obtain ⟨q0, q1, q2⟩ := cells3 hs.2; go_simp; refine hK _ _ ?_; clear hK K p0 p1 p2 q0 q1 q2 hs w')
  refine wpT_nil ?_
  have wE : IntKind.i64.wrap (IntKind.i64.wrap ((e : Int) - ((onesN 10 : Nat) : Int)) + ((onesN 4 : Nat) : Int)) = E := by
   rw [show onesN 4 = 15 from rfl, show onesN 10 = 1023 from rfl, IntWalk.i64_in ((e : Int) - ((1023 : Nat) : Int)) (by omega), IntWalk.i64_in _ (by omega)]; omega
  rw [wE]
  clear wE r0 r1 r2 f0 f1 f2 g0 g1 g2 hS0
  generalize hW3 : World.drew _ = w3
  have hk3 : Same w2 w3 := by rw [← hW3]; exact smK
  clear hW3 hc1 hc2
  replace hbf := hk3.same _ _ hbf trivial
  replace hbt := hk3.same _ _ hbt trivial
  obtain ⟨f0, f1, f2⟩ := cells3 hbf
  obtain ⟨g0, g1, g2⟩ := cells3 hbt
  by_cases c1 : e = 2047
  ·have k1 : ((e : Int) == 2047) = true := by simp; omega
   have hres : narrow b 16 = narrowIn 10 16 s 31 f 42 := by rw [HR.out, if_pos c1]
   have HQ := Lib.hid hres
   clear hres c1
   go_wp2_with (first | (go_at_call 129; first | (refine (ones_any 11 _ (by omega)).mono ?_; rintro x w' ⟨rfl, h9⟩; replace h9 := h9.symm; subst h9) | (refine (ones_any 5 _ (by omega)).mono ?_; rintro x w' ⟨rfl, h9⟩; replace h9 := h9.symm; subst h9)))
   have hfz : f ≤ 9007199254740991 := by omega
   have hlz : 42 ≤ 52 := by omega
   by_cases cz : f &&& onesN (42) = 0
   ·have hz : (bits .and .u64 ((f : Nat) : Int) ((onesN (42) : Nat) : Int) == 0) = true := by rw [band _ _ (by omega) (Nat.lt_of_le_of_lt (ones_le _ (by omega)) (by decide)), cz]; rfl
    have hq : narrow b 16 = (fJoin 10 16 s (31) (f >>> (42)), true) := by rw [HQ.out]; unfold narrowIn; rw [if_neg (by rw [cz]; simp)]
    clear HQ cz
    have HQ := Lib.hid hq
    clear hq
    have hsr : @HDiv.hDiv Int Int Int _ ((f : Nat) : Int) (4398046511104 : Int) = ((f >>> (42) : Nat) : Int) := by have h := shr_nat (f) (42); rw [show ((2 : Int) ^ 42) = 4398046511104 from by decide] at h; exact h
    have HSR := Lib.hid hsr
    clear hsr
    go_wp2_with (first | (go_at_call 129; refine (ones_any (42) _ (by omega)).mono ?_; rintro x w' ⟨rfl, h9⟩; replace h9 := h9.symm; subst h9))
    go_region_with (first
     | (go_at_call 130; rw [HSR.out]; refine (joined_any 10 5 16 s (31) (f >>> (42)) _ (by omega) (by omega) hs1 (by omega) (Nat.lt_of_le_of_lt (shr_le _ _) (by omega))).mono ?_; rintro x w4 ⟨rfl, hk4⟩))
    all_goals go_wp2
    all_goals simp only [Exit.jump]
    all_goals go_ret2
    all_goals exact ⟨by rw [HQ.out]; rfl, smK⟩
   ·have hz : (bits .and .u64 ((f : Nat) : Int) ((onesN (42) : Nat) : Int) == 0) = false := by rw [band _ _ (by omega) (Nat.lt_of_le_of_lt (ones_le _ (by omega)) (by decide)), beq_eq_false_iff_ne]; omega
    have hq : narrow b 16 = (0, false) := by rw [HQ.out]; unfold narrowIn; rw [if_pos cz]
    clear HQ cz
    go_wp2_with (first | (go_at_call 129; refine (ones_any (42) _ (by omega)).mono ?_; rintro x w' ⟨rfl, h9⟩; replace h9 := h9.symm; subst h9))
    refine wp_goto ?_
    exact ⟨rfl, rfl, rfl, smK, hq⟩
  ·have k1 : ((e : Int) == 2047) = false := by rw [beq_eq_false_iff_ne]; omega
   have hres := HR.out
   rw [if_neg c1] at hres
   by_cases c2 : e = 0 ∧ f = 0
   ·have hres2 : narrow b 16 = narrowIn 10 16 s e f 42 := by rw [hres, if_pos c2, c2.1, c2.2]
    have HQ := Lib.hid hres2
    have k2 : ((e : Int) == 0) = true := by simp; omega
    have k3 : ((f : Int) == 0) = true := by simp; omega
    clear hres hres2 c1 c2
    go_wp2_with (first | (go_at_call 129; first | (refine (ones_any 11 _ (by omega)).mono ?_; rintro x w' ⟨rfl, h9⟩; replace h9 := h9.symm; subst h9) | (refine (ones_any 5 _ (by omega)).mono ?_; rintro x w' ⟨rfl, h9⟩; replace h9 := h9.symm; subst h9)))
    have hfz : f ≤ 9007199254740991 := by omega
    have hlz : 42 ≤ 52 := by omega
    by_cases cz : f &&& onesN (42) = 0
    ·have hz : (bits .and .u64 ((f : Nat) : Int) ((onesN (42) : Nat) : Int) == 0) = true := by rw [band _ _ (by omega) (Nat.lt_of_le_of_lt (ones_le _ (by omega)) (by decide)), cz]; rfl
     have hq : narrow b 16 = (fJoin 10 16 s (e) (f >>> (42)), true) := by rw [HQ.out]; unfold narrowIn; rw [if_neg (by rw [cz]; simp)]
     clear HQ cz
     have HQ := Lib.hid hq
     clear hq
     have hsr : @HDiv.hDiv Int Int Int _ ((f : Nat) : Int) (4398046511104 : Int) = ((f >>> (42) : Nat) : Int) := by have h := shr_nat (f) (42); rw [show ((2 : Int) ^ 42) = 4398046511104 from by decide] at h; exact h
     have HSR := Lib.hid hsr
     clear hsr
     go_wp2_with (first | (go_at_call 129; refine (ones_any (42) _ (by omega)).mono ?_; rintro x w' ⟨rfl, h9⟩; replace h9 := h9.symm; subst h9))
     go_region_with (first
      | (go_at_call 130; rw [HSR.out]; refine (joined_any 10 5 16 s (e) (f >>> (42)) _ (by omega) (by omega) hs1 (by omega) (Nat.lt_of_le_of_lt (shr_le _ _) (by omega))).mono ?_; rintro x w4 ⟨rfl, hk4⟩))
     all_goals go_wp2
     all_goals simp only [Exit.jump]
     all_goals go_ret2
     all_goals exact ⟨by rw [HQ.out]; rfl, smK⟩
    ·have hz : (bits .and .u64 ((f : Nat) : Int) ((onesN (42) : Nat) : Int) == 0) = false := by rw [band _ _ (by omega) (Nat.lt_of_le_of_lt (ones_le _ (by omega)) (by decide)), beq_eq_false_iff_ne]; omega
     have hq : narrow b 16 = (0, false) := by rw [HQ.out]; unfold narrowIn; rw [if_pos cz]
     clear HQ cz
     go_wp2_with (first | (go_at_call 129; refine (ones_any (42) _ (by omega)).mono ?_; rintro x w' ⟨rfl, h9⟩; replace h9 := h9.symm; subst h9))
     refine wp_goto ?_
     exact ⟨rfl, rfl, rfl, smK, hq⟩
   ·rw [if_neg c2] at hres
    by_cases c3 : 0 < E ∧ E < 31
    ·rw [if_pos c3] at hres
     obtain ⟨n, hn⟩ : ∃ n : Nat, E.toNat = n := ⟨_, rfl⟩
     rw [hn] at hres
     have hen : E = (n : Int) := by omega
     have HQ := Lib.hid hres
     have HN := Lib.hid hen
     have k4 : decide (0 < E) = true := by simp; omega
     have k5 : decide (E < 31) = true := by simp; omega
     have hnl : n < 31 := by omega
     have k2 : ((e : Int) == 0) = false := by rw [beq_eq_false_iff_ne]; omega
     clear hres c1 c2 c3 hn hen
     go_wp2_with (first | (go_at_call 129; first | (refine (ones_any 11 _ (by omega)).mono ?_; rintro x w' ⟨rfl, h9⟩; replace h9 := h9.symm; subst h9) | (refine (ones_any 5 _ (by omega)).mono ?_; rintro x w' ⟨rfl, h9⟩; replace h9 := h9.symm; subst h9)))
     have hfz : f ≤ 9007199254740991 := by omega
     have hlz : 42 ≤ 52 := by omega
     by_cases cz : f &&& onesN (42) = 0
     ·have hz : (bits .and .u64 ((f : Nat) : Int) ((onesN (42) : Nat) : Int) == 0) = true := by rw [band _ _ (by omega) (Nat.lt_of_le_of_lt (ones_le _ (by omega)) (by decide)), cz]; rfl
      have hq : narrow b 16 = (fJoin 10 16 s (n) (f >>> (42)), true) := by rw [HQ.out]; unfold narrowIn; rw [if_neg (by rw [cz]; simp)]
      clear HQ cz
      have HQ := Lib.hid hq
      clear hq
      have hsr : @HDiv.hDiv Int Int Int _ ((f : Nat) : Int) (4398046511104 : Int) = ((f >>> (42) : Nat) : Int) := by have h := shr_nat (f) (42); rw [show ((2 : Int) ^ 42) = 4398046511104 from by decide] at h; exact h
      have HSR := Lib.hid hsr
      clear hsr
      go_wp2_with (first | (go_at_call 129; refine (ones_any (42) _ (by omega)).mono ?_; rintro x w' ⟨rfl, h9⟩; replace h9 := h9.symm; subst h9))
      go_region_with (first
       | (go_at_call 130; rw [HSR.out, HN.out]; refine (joined_any 10 5 16 s (n) (f >>> (42)) _ (by omega) (by omega) hs1 (by omega) (Nat.lt_of_le_of_lt (shr_le _ _) (by omega))).mono ?_; rintro x w4 ⟨rfl, hk4⟩))
      all_goals go_wp2
      all_goals simp only [Exit.jump]
      all_goals go_ret2
      all_goals exact ⟨by rw [HQ.out]; rfl, smK⟩
     ·have hz : (bits .and .u64 ((f : Nat) : Int) ((onesN (42) : Nat) : Int) == 0) = false := by rw [band _ _ (by omega) (Nat.lt_of_le_of_lt (ones_le _ (by omega)) (by decide)), beq_eq_false_iff_ne]; omega
      have hq : narrow b 16 = (0, false) := by rw [HQ.out]; unfold narrowIn; rw [if_pos cz]
      clear HQ cz
      go_wp2_with (first | (go_at_call 129; refine (ones_any (42) _ (by omega)).mono ?_; rintro x w' ⟨rfl, h9⟩; replace h9 := h9.symm; subst h9))
      refine wp_goto ?_
      exact ⟨rfl, rfl, rfl, smK, hq⟩
    ·rw [if_neg c3] at hres
     by_cases d1 : 0 < E
     ·have k4 : decide (0 < E) = true := by simp; omega
      have k5 : decide (E < 31) = false := by simp; omega
      have k2 : ((e : Int) == 0) = false := by rw [beq_eq_false_iff_ne]; omega
      have k6 : decide (0 < e) = true := by simp; omega
      have k7 : decide (E ≤ 0) = false := by simp; omega
      have hq : narrow b 16 = (0, false) := by rw [hres, if_neg (by omega)]
      clear hres c1 c2 c3 d1
      go_wp2_with (first | (go_at_call 129; first | (refine (ones_any 11 _ (by omega)).mono ?_; rintro x w' ⟨rfl, h9⟩; replace h9 := h9.symm; subst h9) | (refine (ones_any 5 _ (by omega)).mono ?_; rintro x w' ⟨rfl, h9⟩; replace h9 := h9.symm; subst h9)))
      refine wp_goto ?_
      exact ⟨rfl, rfl, rfl, smK, hq⟩
     ·have k4 : decide (0 < E) = false := by simp; omega
      have k7 : decide (E ≤ 0) = true := by simp; omega
      by_cases d2 : e = 0
      ·have k2 : ((e : Int) == 0) = true := by simp; omega
       have k3 : ((f : Int) == 0) = false := by rw [beq_eq_false_iff_ne]; omega
       have k6 : decide (0 < e) = false := by simp; omega
       have hq : narrow b 16 = (0, false) := by rw [hres, if_neg (by omega)]
       clear hres c1 c2 c3 d1 d2
       go_wp2_with (first | (go_at_call 129; first | (refine (ones_any 11 _ (by omega)).mono ?_; rintro x w' ⟨rfl, h9⟩; replace h9 := h9.symm; subst h9) | (refine (ones_any 5 _ (by omega)).mono ?_; rintro x w' ⟨rfl, h9⟩; replace h9 := h9.symm; subst h9)))
       refine wp_goto ?_
       exact ⟨rfl, rfl, rfl, smK, hq⟩
      ·have k2 : ((e : Int) == 0) = false := by rw [beq_eq_false_iff_ne]; omega
       have k6 : decide (0 < e) = true := by simp; omega
       by_cases d3 : -10 < E
       ·have k8 : decide ((-10 : Int) < E) = true := by simp; omega
        obtain ⟨L, hL⟩ : ∃ L : Nat, (42 + 1 - E).toNat = L := ⟨_, rfl⟩
        rw [if_pos (by omega), hL, show (2 : Nat) ^ 52 = 4503599627370496 from by decide] at hres
        have hL1 : ((43 : Int) - E) = (L : Int) := by omega
        have hL2 : L ≤ 52 := by omega
        have HQ := Lib.hid hres
        have HL := Lib.hid hL1
        clear hres c1 c2 c3 d1 d2 d3 hL
        go_wp2_with (first | (go_at_call 129; first | (refine (ones_any 11 _ (by omega)).mono ?_; rintro x w' ⟨rfl, h9⟩; replace h9 := h9.symm; subst h9) | (refine (ones_any 5 _ (by omega)).mono ?_; rintro x w' ⟨rfl, h9⟩; replace h9 := h9.symm; subst h9)))
        go_quiet (fail)
        have gb : bits .or .u64 (f : Int) 4503599627370496 = ((f ||| 4503599627370496 : Nat) : Int) := bor f 4503599627370496 (by omega) (by omega)
        rw [gb]
        clear gb
        have hg : f ||| 4503599627370496 < 2 ^ 53 := Nat.or_lt_two_pow (by omega) (by omega)
        obtain ⟨g, hg2⟩ : ∃ g, f ||| 4503599627370496 = g := ⟨_, rfl⟩
        rw [hg2]
        rw [hg2] at hg HQ
        replace hg : g ≤ 9007199254740991 := by omega
        clear hg2
        obtain ⟨w3', hw3⟩ : ∃ w3', w3.drewN nq = w3' := ⟨_, rfl⟩
        rw [hw3]
        have hkq : Same w3 w3' := by rw [← hw3]; exact smK
        clear hw3
        replace hk3 := hk3.trans hkq
        replace hbf := hkq.same _ _ hbf trivial
        replace hbt := hkq.same _ _ hbt trivial
        clear hkq f0 f1 f2 g0 g1 g2 w3
        obtain ⟨f0, f1, f2⟩ := cells3 hbf
        obtain ⟨g0, g1, g2⟩ := cells3 hbt
        obtain ⟨w3, hz2⟩ : ∃ z, z = w3' := ⟨_, rfl⟩
        subst hz2
        have hfz : g ≤ 9007199254740991 := by omega
        have hlz : L ≤ 52 := by omega
        by_cases cz : g &&& onesN (L) = 0
        ·have hz : (bits .and .u64 ((g : Nat) : Int) ((onesN (L) : Nat) : Int) == 0) = true := by rw [band _ _ (by omega) (Nat.lt_of_le_of_lt (ones_le _ (by omega)) (by decide)), cz]; rfl
         have hq : narrow b 16 = (fJoin 10 16 s (0) (g >>> (L)), true) := by rw [HQ.out]; unfold narrowIn; rw [if_neg (by rw [cz]; simp)]
         clear HQ cz
         have HQ := Lib.hid hq
         clear hq
         have hsr : @HDiv.hDiv Int Int Int _ ((g : Nat) : Int) (2 ^ L : Int) = ((g >>> (L) : Nat) : Int) := by exact shr_nat _ _
         have HSR := Lib.hid hsr
         clear hsr
         go_wp2_with (first | (go_at_call 129; refine (ones_any (L) _ (by omega)).mono ?_; rintro x w' ⟨rfl, h9⟩; replace h9 := h9.symm; subst h9))
         go_region_with (first
          | (go_at_call 130; rw [HSR.out]; refine (joined_any 10 5 16 s (0) (g >>> (L)) _ (by omega) (by omega) hs1 (by omega) (Nat.lt_of_le_of_lt (shr_le _ _) (by omega))).mono ?_; rintro x w4 ⟨rfl, hk4⟩))
         all_goals go_wp2
         all_goals simp only [Exit.jump]
         all_goals go_ret2
         all_goals exact ⟨by rw [HQ.out]; rfl, smK⟩
        ·have hz : (bits .and .u64 ((g : Nat) : Int) ((onesN (L) : Nat) : Int) == 0) = false := by rw [band _ _ (by omega) (Nat.lt_of_le_of_lt (ones_le _ (by omega)) (by decide)), beq_eq_false_iff_ne]; omega
         have hq : narrow b 16 = (0, false) := by rw [HQ.out]; unfold narrowIn; rw [if_pos cz]
         clear HQ cz
         go_wp2_with (first | (go_at_call 129; refine (ones_any (L) _ (by omega)).mono ?_; rintro x w' ⟨rfl, h9⟩; replace h9 := h9.symm; subst h9))
         refine wp_goto ?_
         exact ⟨rfl, rfl, rfl, smK, hq⟩
       ·have k8 : decide ((-10 : Int) < E) = false := by simp; omega
        have hq : narrow b 16 = (0, false) := by rw [hres, if_neg (by omega)]
        clear hres c1 c2 c3 d1 d2 d3
        go_wp2_with (first | (go_at_call 129; first | (refine (ones_any 11 _ (by omega)).mono ?_; rintro x w' ⟨rfl, h9⟩; replace h9 := h9.symm; subst h9) | (refine (ones_any 5 _ (by omega)).mono ?_; rintro x w' ⟨rfl, h9⟩; replace h9 := h9.symm; subst h9)))
        refine wp_goto ?_
        exact ⟨rfl, rfl, rfl, smK, hq⟩
 ·rintro a w1 ⟨hs, hd, hk, hn⟩
  go_wp2
  simp only [Exit.jump]
  go_ret2
  exact ⟨by rw [hn]; simp [Array.getD, hs], hk⟩
set_option maxRecDepth 100000 in
set_option maxHeartbeats 4000000 in
theorem narrow32_any (b : Nat) (w : World) (hb : b < 18446744073709551616) : Calls Tryz.prog 96 #[.int .u64 b, .int .i64 32] w fun e w' => e = .returned (.tuple #[.int .u64 ((narrow b 32).1 : Nat), .bool (narrow b 32).2]) ∧ Same w w' := by
 obtain ⟨s, hs⟩ : ∃ s, b >>> 63 &&& 1 = s := ⟨_, rfl⟩
 obtain ⟨e, he⟩ : ∃ e, b >>> 52 &&& onesN 11 = e := ⟨_, rfl⟩
 obtain ⟨f, hf⟩ : ∃ f, b &&& onesN 52 = f := ⟨_, rfl⟩
 have hs1 : s ≤ 1 := by rw [← hs]; exact Nat.and_le_right
 have he1 : e ≤ 2047 := by rw [← he]; exact Nat.and_le_right
 have hf1 : f ≤ 4503599627370495 := by rw [← hf]; exact Nat.and_le_right
 obtain ⟨E, hE⟩ : ∃ E : Int, (e : Int) - 1023 + 127 = E := ⟨_, rfl⟩
 have hr : narrow b 32 = (if e = 2047 then narrowIn 23 32 s 255 f 29 else if e = 0 ∧ f = 0 then narrowIn 23 32 s 0 0 29 else if 0 < E ∧ E < 255 then narrowIn 23 32 s E.toNat f 29 else if 0 < e ∧ E ≤ 0 ∧ -23 < E then narrowIn 23 32 s 0 (f ||| 2 ^ 52) (29 + 1 - E).toNat else (0, false)) := by
  rw [← hE, ← hs, ← he, ← hf]; rfl
 have HS := Lib.hid hs
 have HE := Lib.hid he
 have HF := Lib.hid hf
 have HR := Lib.hid hr
 have o1 : onesN 8 = 255 := by decide
 have o2 : onesN 11 = 2047 := by decide
 clear hr hs he hf
 go_enter Tryz.func96, Tryz.ntmps96
 go_wp2
 refine wp_scope_jumps (rest := ?rest) 0 (fun a w' => a.tmps.size = 119 ∧ a.defers = [] ∧ Same w w' ∧ narrow b 32 = (0, false)) (fun _ _ => 0) ?hf ?_ ?_
 case hf => rfl
 ·go_wp2_with (first
    | (go_at_call 127; refine (wide_any _).mono ?_; rintro x w' ⟨rfl, h9⟩; replace h9 := h9.symm; subst h9)
    | (go_at_call 125; refine (of32 _).mono ?_; rintro x w1 ⟨rfl, hk1⟩; have hbt1 := hk1.same (w.heap.size + 1 + 1) _ (show _ = some (.cells #[.int .i64 52, .int .i64 11, .int .i64 64] 154 (0, 0)) from heap_new' (by simp)) trivial; obtain ⟨g0, g1, g2⟩ := cells3 (heap_old (o := .cells #[.int .i64 23, .int .i64 8, .int .i64 32] 154) hbt1))
    | (go_at_call 128; refine (parts_any 52 11 64 b _ (by omega) (by omega) (by omega) hb).mono ?_; rintro x w2 ⟨rfl, hk2⟩; rw [show 64 - 1 = 63 from rfl, HS.out, HE.out, HF.out]; have hbt := hk2.same (w.heap.size + 1 + 1) _ (show _ = some (.cells #[.int .i64 52, .int .i64 11, .int .i64 64] 154 (0, 0)) from heap_old hbt1) trivial; have hbf := hk2.same w1.heap.size _ (show _ = some (.cells #[.int .i64 23, .int .i64 8, .int .i64 32] 154 (0, 0)) from heap_new' (by simp)) trivial; obtain ⟨f0, f1, f2⟩ := cells3 hbf; clear g0 g1 g2; obtain ⟨g0, g1, g2⟩ := cells3 hbt))
  have hS0 : w2.heap[w1.heap.size]? = some (.cells #[.int .i64 23, .int .i64 8, .int .i64 32] 154 (0, 0)) ∧ w2.heap[w.heap.size + 1 + 1]? = some (.cells #[.int .i64 52, .int .i64 11, .int .i64 64] 154 (0, 0)) := ⟨hbf, hbt⟩
  refine (wpIn_wide (n := 0)).1 ?_
  refine wpIn_region_text (n := 0) (fun X => X.heap[w1.heap.size]? = some (.cells #[.int .i64 23, .int .i64 8, .int .i64 32] 154 (0, 0)) ∧ X.heap[w.heap.size + 1 + 1]? = some (.cells #[.int .i64 52, .int .i64 11, .int .i64 64] 154 (0, 0))) reads (fun _ => trivial) rfl (by kernel_rfl) (by kernel_rfl) hS0 ?_
  iterate 2 (refine wpT_x rfl rfl ?_; intro K hK w' hs; obtain ⟨p0, p1, p2⟩ := cells3 hs.1; obtain ⟨q0, q1, q2⟩ := cells3 hs.2; go_simp; refine hK _ _ ?_; clear hK K p0 p1 p2 q0 q1 q2 hs w')
  refine wpT_c rfl rfl ?_
  intro K hK
  go_simp
  refine (callsW (bias_any 52 11 64 _ (by omega) (by omega))).mono ?_
  rintro x w' ⟨rfl, rfl⟩
  refine hK _ _ ⟨heap_old (w := w2.drew) hbf, heap_old (w := w2.drew) hbt⟩ ?_
  clear hK K
  have hc1 := heap_old (w := w2) (o := .cells #[.int .i64 52, .int .i64 11, .int .i64 64] 154) hbf
  have hc2 := heap_old (w := w2) (o := .cells #[.int .i64 52, .int .i64 11, .int .i64 64] 154) hbt
  obtain ⟨r0, r1, r2⟩ := cells3 hc1
  iterate 2 (refine wpT_x rfl rfl ?_; intro K hK w' hs; obtain ⟨p0, p1, p2⟩ := cells3 hs.1; obtain ⟨q0, q1, q2⟩ := cells3 hs.2; go_simp; refine hK _ _ ?_; clear hK K p0 p1 p2 q0 q1 q2 hs w')
  refine wpT_c rfl rfl ?_
  intro K hK
  go_simp
  refine (callsW (bias_any 23 8 32 _ (by omega) (by omega))).mono ?_
  rintro x w' ⟨rfl, rfl⟩
  refine hK _ _ ⟨heap_old hc1, heap_old hc2⟩ ?_
  clear hK K
  iterate 2 (refine wpT_x rfl rfl ?_; intro K hK w' hs; obtain ⟨p0, p1, p2⟩ := cells3 hs.1; obtain ⟨q0, q1, q2⟩ := cells3 hs.2; go_simp; refine hK _ _ ?_; clear hK K p0 p1 p2 q0 q1 q2 hs w')
  refine wpT_nil ?_
  have wE : IntKind.i64.wrap (IntKind.i64.wrap ((e : Int) - ((onesN 10 : Nat) : Int)) + ((onesN 7 : Nat) : Int)) = E := by
   rw [show onesN 7 = 127 from rfl, show onesN 10 = 1023 from rfl, IntWalk.i64_in ((e : Int) - ((1023 : Nat) : Int)) (by omega), IntWalk.i64_in _ (by omega)]; omega
  rw [wE]
  clear wE r0 r1 r2 f0 f1 f2 g0 g1 g2 hS0
  generalize hW3 : World.drew _ = w3
  have hk3 : Same w2 w3 := by rw [← hW3]; exact smK
  clear hW3 hc1 hc2
  replace hbf := hk3.same _ _ hbf trivial
  replace hbt := hk3.same _ _ hbt trivial
  obtain ⟨f0, f1, f2⟩ := cells3 hbf
  obtain ⟨g0, g1, g2⟩ := cells3 hbt
  by_cases c1 : e = 2047
  ·have k1 : ((e : Int) == 2047) = true := by simp; omega
   have hres : narrow b 32 = narrowIn 23 32 s 255 f 29 := by rw [HR.out, if_pos c1]
   have HQ := Lib.hid hres
   clear hres c1
   go_wp2_with (first | (go_at_call 129; first | (refine (ones_any 11 _ (by omega)).mono ?_; rintro x w' ⟨rfl, h9⟩; replace h9 := h9.symm; subst h9) | (refine (ones_any 8 _ (by omega)).mono ?_; rintro x w' ⟨rfl, h9⟩; replace h9 := h9.symm; subst h9)))
   have hfz : f ≤ 9007199254740991 := by omega
   have hlz : 29 ≤ 52 := by omega
   by_cases cz : f &&& onesN (29) = 0
   ·have hz : (bits .and .u64 ((f : Nat) : Int) ((onesN (29) : Nat) : Int) == 0) = true := by rw [band _ _ (by omega) (Nat.lt_of_le_of_lt (ones_le _ (by omega)) (by decide)), cz]; rfl
    have hq : narrow b 32 = (fJoin 23 32 s (255) (f >>> (29)), true) := by rw [HQ.out]; unfold narrowIn; rw [if_neg (by rw [cz]; simp)]
    clear HQ cz
    have HQ := Lib.hid hq
    clear hq
    have hsr : @HDiv.hDiv Int Int Int _ ((f : Nat) : Int) (536870912 : Int) = ((f >>> (29) : Nat) : Int) := by have h := shr_nat (f) (29); rw [show ((2 : Int) ^ 29) = 536870912 from by decide] at h; exact h
    have HSR := Lib.hid hsr
    clear hsr
    go_wp2_with (first | (go_at_call 129; refine (ones_any (29) _ (by omega)).mono ?_; rintro x w' ⟨rfl, h9⟩; replace h9 := h9.symm; subst h9))
    go_region_with (first
     | (go_at_call 130; rw [HSR.out]; refine (joined_any 23 8 32 s (255) (f >>> (29)) _ (by omega) (by omega) hs1 (by omega) (Nat.lt_of_le_of_lt (shr_le _ _) (by omega))).mono ?_; rintro x w4 ⟨rfl, hk4⟩))
    all_goals go_wp2
    all_goals simp only [Exit.jump]
    all_goals go_ret2
    all_goals exact ⟨by rw [HQ.out]; rfl, smK⟩
   ·have hz : (bits .and .u64 ((f : Nat) : Int) ((onesN (29) : Nat) : Int) == 0) = false := by rw [band _ _ (by omega) (Nat.lt_of_le_of_lt (ones_le _ (by omega)) (by decide)), beq_eq_false_iff_ne]; omega
    have hq : narrow b 32 = (0, false) := by rw [HQ.out]; unfold narrowIn; rw [if_pos cz]
    clear HQ cz
    go_wp2_with (first | (go_at_call 129; refine (ones_any (29) _ (by omega)).mono ?_; rintro x w' ⟨rfl, h9⟩; replace h9 := h9.symm; subst h9))
    refine wp_goto ?_
    exact ⟨rfl, rfl, rfl, smK, hq⟩
  ·have k1 : ((e : Int) == 2047) = false := by rw [beq_eq_false_iff_ne]; omega
   have hres := HR.out
   rw [if_neg c1] at hres
   by_cases c2 : e = 0 ∧ f = 0
   ·have hres2 : narrow b 32 = narrowIn 23 32 s e f 29 := by rw [hres, if_pos c2, c2.1, c2.2]
    have HQ := Lib.hid hres2
    have k2 : ((e : Int) == 0) = true := by simp; omega
    have k3 : ((f : Int) == 0) = true := by simp; omega
    clear hres hres2 c1 c2
    go_wp2_with (first | (go_at_call 129; first | (refine (ones_any 11 _ (by omega)).mono ?_; rintro x w' ⟨rfl, h9⟩; replace h9 := h9.symm; subst h9) | (refine (ones_any 8 _ (by omega)).mono ?_; rintro x w' ⟨rfl, h9⟩; replace h9 := h9.symm; subst h9)))
    have hfz : f ≤ 9007199254740991 := by omega
    have hlz : 29 ≤ 52 := by omega
    by_cases cz : f &&& onesN (29) = 0
    ·have hz : (bits .and .u64 ((f : Nat) : Int) ((onesN (29) : Nat) : Int) == 0) = true := by rw [band _ _ (by omega) (Nat.lt_of_le_of_lt (ones_le _ (by omega)) (by decide)), cz]; rfl
     have hq : narrow b 32 = (fJoin 23 32 s (e) (f >>> (29)), true) := by rw [HQ.out]; unfold narrowIn; rw [if_neg (by rw [cz]; simp)]
     clear HQ cz
     have HQ := Lib.hid hq
     clear hq
     have hsr : @HDiv.hDiv Int Int Int _ ((f : Nat) : Int) (536870912 : Int) = ((f >>> (29) : Nat) : Int) := by have h := shr_nat (f) (29); rw [show ((2 : Int) ^ 29) = 536870912 from by decide] at h; exact h
     have HSR := Lib.hid hsr
     clear hsr
     go_wp2_with (first | (go_at_call 129; refine (ones_any (29) _ (by omega)).mono ?_; rintro x w' ⟨rfl, h9⟩; replace h9 := h9.symm; subst h9))
     go_region_with (first
      | (go_at_call 130; rw [HSR.out]; refine (joined_any 23 8 32 s (e) (f >>> (29)) _ (by omega) (by omega) hs1 (by omega) (Nat.lt_of_le_of_lt (shr_le _ _) (by omega))).mono ?_; rintro x w4 ⟨rfl, hk4⟩))
     all_goals go_wp2
     all_goals simp only [Exit.jump]
     all_goals go_ret2
     all_goals exact ⟨by rw [HQ.out]; rfl, smK⟩
    ·have hz : (bits .and .u64 ((f : Nat) : Int) ((onesN (29) : Nat) : Int) == 0) = false := by rw [band _ _ (by omega) (Nat.lt_of_le_of_lt (ones_le _ (by omega)) (by decide)), beq_eq_false_iff_ne]; omega
     have hq : narrow b 32 = (0, false) := by rw [HQ.out]; unfold narrowIn; rw [if_pos cz]
     clear HQ cz
     go_wp2_with (first | (go_at_call 129; refine (ones_any (29) _ (by omega)).mono ?_; rintro x w' ⟨rfl, h9⟩; replace h9 := h9.symm; subst h9))
     refine wp_goto ?_
     exact ⟨rfl, rfl, rfl, smK, hq⟩
   ·rw [if_neg c2] at hres
    by_cases c3 : 0 < E ∧ E < 255
    ·rw [if_pos c3] at hres
     obtain ⟨n, hn⟩ : ∃ n : Nat, E.toNat = n := ⟨_, rfl⟩
     rw [hn] at hres
     have hen : E = (n : Int) := by omega
     have HQ := Lib.hid hres
     have HN := Lib.hid hen
     have k4 : decide (0 < E) = true := by simp; omega
     have k5 : decide (E < 255) = true := by simp; omega
     have hnl : n < 255 := by omega
     have k2 : ((e : Int) == 0) = false := by rw [beq_eq_false_iff_ne]; omega
     clear hres c1 c2 c3 hn hen
     go_wp2_with (first | (go_at_call 129; first | (refine (ones_any 11 _ (by omega)).mono ?_; rintro x w' ⟨rfl, h9⟩; replace h9 := h9.symm; subst h9) | (refine (ones_any 8 _ (by omega)).mono ?_; rintro x w' ⟨rfl, h9⟩; replace h9 := h9.symm; subst h9)))
     have hfz : f ≤ 9007199254740991 := by omega
     have hlz : 29 ≤ 52 := by omega
     by_cases cz : f &&& onesN (29) = 0
     ·have hz : (bits .and .u64 ((f : Nat) : Int) ((onesN (29) : Nat) : Int) == 0) = true := by rw [band _ _ (by omega) (Nat.lt_of_le_of_lt (ones_le _ (by omega)) (by decide)), cz]; rfl
      have hq : narrow b 32 = (fJoin 23 32 s (n) (f >>> (29)), true) := by rw [HQ.out]; unfold narrowIn; rw [if_neg (by rw [cz]; simp)]
      clear HQ cz
      have HQ := Lib.hid hq
      clear hq
      have hsr : @HDiv.hDiv Int Int Int _ ((f : Nat) : Int) (536870912 : Int) = ((f >>> (29) : Nat) : Int) := by have h := shr_nat (f) (29); rw [show ((2 : Int) ^ 29) = 536870912 from by decide] at h; exact h
      have HSR := Lib.hid hsr
      clear hsr
      go_wp2_with (first | (go_at_call 129; refine (ones_any (29) _ (by omega)).mono ?_; rintro x w' ⟨rfl, h9⟩; replace h9 := h9.symm; subst h9))
      go_region_with (first
       | (go_at_call 130; rw [HSR.out, HN.out]; refine (joined_any 23 8 32 s (n) (f >>> (29)) _ (by omega) (by omega) hs1 (by omega) (Nat.lt_of_le_of_lt (shr_le _ _) (by omega))).mono ?_; rintro x w4 ⟨rfl, hk4⟩))
      all_goals go_wp2
      all_goals simp only [Exit.jump]
      all_goals go_ret2
      all_goals exact ⟨by rw [HQ.out]; rfl, smK⟩
     ·have hz : (bits .and .u64 ((f : Nat) : Int) ((onesN (29) : Nat) : Int) == 0) = false := by rw [band _ _ (by omega) (Nat.lt_of_le_of_lt (ones_le _ (by omega)) (by decide)), beq_eq_false_iff_ne]; omega
      have hq : narrow b 32 = (0, false) := by rw [HQ.out]; unfold narrowIn; rw [if_pos cz]
      clear HQ cz
      go_wp2_with (first | (go_at_call 129; refine (ones_any (29) _ (by omega)).mono ?_; rintro x w' ⟨rfl, h9⟩; replace h9 := h9.symm; subst h9))
      refine wp_goto ?_
      exact ⟨rfl, rfl, rfl, smK, hq⟩
    ·rw [if_neg c3] at hres
     by_cases d1 : 0 < E
     ·have k4 : decide (0 < E) = true := by simp; omega
      have k5 : decide (E < 255) = false := by simp; omega
      have k2 : ((e : Int) == 0) = false := by rw [beq_eq_false_iff_ne]; omega
      have k6 : decide (0 < e) = true := by simp; omega
      have k7 : decide (E ≤ 0) = false := by simp; omega
      have hq : narrow b 32 = (0, false) := by rw [hres, if_neg (by omega)]
      clear hres c1 c2 c3 d1
      go_wp2_with (first | (go_at_call 129; first | (refine (ones_any 11 _ (by omega)).mono ?_; rintro x w' ⟨rfl, h9⟩; replace h9 := h9.symm; subst h9) | (refine (ones_any 8 _ (by omega)).mono ?_; rintro x w' ⟨rfl, h9⟩; replace h9 := h9.symm; subst h9)))
      refine wp_goto ?_
      exact ⟨rfl, rfl, rfl, smK, hq⟩
     ·have k4 : decide (0 < E) = false := by simp; omega
      have k7 : decide (E ≤ 0) = true := by simp; omega
      by_cases d2 : e = 0
      ·have k2 : ((e : Int) == 0) = true := by simp; omega
       have k3 : ((f : Int) == 0) = false := by rw [beq_eq_false_iff_ne]; omega
       have k6 : decide (0 < e) = false := by simp; omega
       have hq : narrow b 32 = (0, false) := by rw [hres, if_neg (by omega)]
       clear hres c1 c2 c3 d1 d2
       go_wp2_with (first | (go_at_call 129; first | (refine (ones_any 11 _ (by omega)).mono ?_; rintro x w' ⟨rfl, h9⟩; replace h9 := h9.symm; subst h9) | (refine (ones_any 8 _ (by omega)).mono ?_; rintro x w' ⟨rfl, h9⟩; replace h9 := h9.symm; subst h9)))
       refine wp_goto ?_
       exact ⟨rfl, rfl, rfl, smK, hq⟩
      ·have k2 : ((e : Int) == 0) = false := by rw [beq_eq_false_iff_ne]; omega
       have k6 : decide (0 < e) = true := by simp; omega
       by_cases d3 : -23 < E
       ·have k8 : decide ((-23 : Int) < E) = true := by simp; omega
        obtain ⟨L, hL⟩ : ∃ L : Nat, (29 + 1 - E).toNat = L := ⟨_, rfl⟩
        rw [if_pos (by omega), hL, show (2 : Nat) ^ 52 = 4503599627370496 from by decide] at hres
        have hL1 : ((30 : Int) - E) = (L : Int) := by omega
        have hL2 : L ≤ 52 := by omega
        have HQ := Lib.hid hres
        have HL := Lib.hid hL1
        clear hres c1 c2 c3 d1 d2 d3 hL
        go_wp2_with (first | (go_at_call 129; first | (refine (ones_any 11 _ (by omega)).mono ?_; rintro x w' ⟨rfl, h9⟩; replace h9 := h9.symm; subst h9) | (refine (ones_any 8 _ (by omega)).mono ?_; rintro x w' ⟨rfl, h9⟩; replace h9 := h9.symm; subst h9)))
        go_quiet (fail)
        have gb : bits .or .u64 (f : Int) 4503599627370496 = ((f ||| 4503599627370496 : Nat) : Int) := bor f 4503599627370496 (by omega) (by omega)
        rw [gb]
        clear gb
        have hg : f ||| 4503599627370496 < 2 ^ 53 := Nat.or_lt_two_pow (by omega) (by omega)
        obtain ⟨g, hg2⟩ : ∃ g, f ||| 4503599627370496 = g := ⟨_, rfl⟩
        rw [hg2]
        rw [hg2] at hg HQ
        replace hg : g ≤ 9007199254740991 := by omega
        clear hg2
        obtain ⟨w3', hw3⟩ : ∃ w3', w3.drewN nq = w3' := ⟨_, rfl⟩
        rw [hw3]
        have hkq : Same w3 w3' := by rw [← hw3]; exact smK
        clear hw3
        replace hk3 := hk3.trans hkq
        replace hbf := hkq.same _ _ hbf trivial
        replace hbt := hkq.same _ _ hbt trivial
        clear hkq f0 f1 f2 g0 g1 g2 w3
        obtain ⟨f0, f1, f2⟩ := cells3 hbf
        obtain ⟨g0, g1, g2⟩ := cells3 hbt
        obtain ⟨w3, hz2⟩ : ∃ z, z = w3' := ⟨_, rfl⟩
        subst hz2
        have hfz : g ≤ 9007199254740991 := by omega
        have hlz : L ≤ 52 := by omega
        by_cases cz : g &&& onesN (L) = 0
        ·have hz : (bits .and .u64 ((g : Nat) : Int) ((onesN (L) : Nat) : Int) == 0) = true := by rw [band _ _ (by omega) (Nat.lt_of_le_of_lt (ones_le _ (by omega)) (by decide)), cz]; rfl
         have hq : narrow b 32 = (fJoin 23 32 s (0) (g >>> (L)), true) := by rw [HQ.out]; unfold narrowIn; rw [if_neg (by rw [cz]; simp)]
         clear HQ cz
         have HQ := Lib.hid hq
         clear hq
         have hsr : @HDiv.hDiv Int Int Int _ ((g : Nat) : Int) (2 ^ L : Int) = ((g >>> (L) : Nat) : Int) := by exact shr_nat _ _
         have HSR := Lib.hid hsr
         clear hsr
         go_wp2_with (first | (go_at_call 129; refine (ones_any (L) _ (by omega)).mono ?_; rintro x w' ⟨rfl, h9⟩; replace h9 := h9.symm; subst h9))
         go_region_with (first
          | (go_at_call 130; rw [HSR.out]; refine (joined_any 23 8 32 s (0) (g >>> (L)) _ (by omega) (by omega) hs1 (by omega) (Nat.lt_of_le_of_lt (shr_le _ _) (by omega))).mono ?_; rintro x w4 ⟨rfl, hk4⟩))
         all_goals go_wp2
         all_goals simp only [Exit.jump]
         all_goals go_ret2
         all_goals exact ⟨by rw [HQ.out]; rfl, smK⟩
        ·have hz : (bits .and .u64 ((g : Nat) : Int) ((onesN (L) : Nat) : Int) == 0) = false := by rw [band _ _ (by omega) (Nat.lt_of_le_of_lt (ones_le _ (by omega)) (by decide)), beq_eq_false_iff_ne]; omega
         have hq : narrow b 32 = (0, false) := by rw [HQ.out]; unfold narrowIn; rw [if_pos cz]
         clear HQ cz
         go_wp2_with (first | (go_at_call 129; refine (ones_any (L) _ (by omega)).mono ?_; rintro x w' ⟨rfl, h9⟩; replace h9 := h9.symm; subst h9))
         refine wp_goto ?_
         exact ⟨rfl, rfl, rfl, smK, hq⟩
       ·have k8 : decide ((-23 : Int) < E) = false := by simp; omega
        have hq : narrow b 32 = (0, false) := by rw [hres, if_neg (by omega)]
        clear hres c1 c2 c3 d1 d2 d3
        go_wp2_with (first | (go_at_call 129; first | (refine (ones_any 11 _ (by omega)).mono ?_; rintro x w' ⟨rfl, h9⟩; replace h9 := h9.symm; subst h9) | (refine (ones_any 8 _ (by omega)).mono ?_; rintro x w' ⟨rfl, h9⟩; replace h9 := h9.symm; subst h9)))
        refine wp_goto ?_
        exact ⟨rfl, rfl, rfl, smK, hq⟩
 ·rintro a w1 ⟨hs, hd, hk, hn⟩
  go_wp2
  simp only [Exit.jump]
  go_ret2
  exact ⟨by rw [hn]; simp [Array.getD, hs], hk⟩
set_option maxRecDepth 100000 in
set_option maxHeartbeats 1000000 in
theorem narrow64_any (b : Nat) (w : World) : Calls Tryz.prog 96 #[.int .u64 b, .int .i64 64] w fun e w' => e = .returned (.tuple #[.int .u64 (b : Nat), .bool true]) ∧ Same w w' := by
 go_enter Tryz.func96, Tryz.ntmps96
 go_wp2
 refine wp_scope_jumps (rest := ?rest) 0 (fun a w' => False) (fun _ _ => 0) ?hf ?_ ?_
 case hf => rfl
 ·go_wp2_with (first
    | (go_at_call 127; refine (wide_any _).mono ?_; rintro x w' ⟨rfl, h9⟩; replace h9 := h9.symm; subst h9)
    | (go_at_call 125; refine (of64 _).mono ?_; rintro x w1 ⟨rfl, hk1⟩; have hbt1 := hk1.same (w.heap.size + 1 + 1) _ (show _ = some (.cells #[.int .i64 52, .int .i64 11, .int .i64 64] 154 (0, 0)) from heap_new' (by simp)) trivial; obtain ⟨g0, g1, g2⟩ := cells3 (heap_old (o := .cells #[.int .i64 52, .int .i64 11, .int .i64 64] 154) hbt1)))
  simp only [Exit.jump]
  go_ret2
  exact ⟨rfl, smK⟩
 ·rintro a w1 hs
  exact hs.elim
theorem narrow_any (b : Nat) (x : Int) (w : World) (hb : b < 18446744073709551616) : Calls Tryz.prog 96 #[.int .u64 b, .int .i64 x] w fun e w' => e = .returned (.tuple #[.int .u64 ((narrow b x).1 : Nat), .bool (narrow b x).2]) ∧ Same w w' := by
 by_cases h16 : x = 16
 ·subst h16; exact narrow16_any b w hb
 by_cases h32 : x = 32
 ·subst h32; exact narrow32_any b w hb
 by_cases h64 : x = 64
 ·subst h64; exact narrow64_any b w
 have hn : fForm x = none := by unfold fForm; rw [if_neg h16, if_neg h32, if_neg h64]
 have : narrow b x = (0, false) := by unfold narrow; rw [hn]
 rw [this]; exact narrowNone_any b x w hn
end Go.Tm
