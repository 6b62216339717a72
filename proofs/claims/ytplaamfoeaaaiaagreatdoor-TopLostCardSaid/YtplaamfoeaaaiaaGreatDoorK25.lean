/- A part of the proofs of the laws of lifelinetop (TopNever, TopLost, TopRoom): contracts of functions that these laws reach. No condition of its own. -/
import Derived.Test.YtplaamfoeaaaiaaGreatDoorK02
import Derived.Test.YtplaamfoeaaaiaaGreatDoorK12
import Derived.Test.YtplaamfoeaaaiaaGreatDoorK14
import Derived.Test.YtplaamfoeaaaiaaGreatDoorProg
import Derived.Shelf.Strings.Builder1
import Derived.Shelf.Strings.Builder2
import Derived.Shelf.Strings.OnBuilder
import Derived.Shelf.Strings.Trim
import Derived.Shelf.Small.Utf8
import Derived.Shelf.Small.Strs
import Derived.Shelf.Strings.BuilderF
import Derived.Shelf.Strings.BuilderK
import Derived.Shelf.Utf8.RuneCount
import Derived.Shelf.Strconv.Itoa0
import Derived.Shelf.Strconv.Itoa1
import Derived.Shelf.LaysM
import Derived.Shelf.Strconv.Itoa2
import Derived.Shelf.Strconv.Itoa3
import Derived.Shelf.Strings.Search1
import Derived.Shelf.Strings.Search2
import Derived.Shelf.Strings.Search3
import Derived.Shelf.Strings.Cut
import Derived.Shelf.Strings.Count
import Derived.Shelf.Strings.Shaped
import Derived.Shelf.Strings.Split
import Derived.Shelf.Strings.SplitShaped
import Derived.Shelf.Unicode.Decode
import Derived.Shelf.Strings.Runes
import Derived.Shelf.Strings.RuneCount
import Derived.Shelf.Strings.AsciiSet
import Derived.Shelf.Strings.Explode
import Derived.Shelf.Unicode.DecodeSlow
import Derived.Shelf.Unicode.DecodeAny
import Derived.Shelf.Unicode.DecodeLast
set_option maxRecDepth 100000
set_option maxHeartbeats 8000000
set_option linter.unusedVariables false
namespace Go.Proofs
open Go.Shelf
def Tryz.lays169_ren : Go.Shelf.Ren := ⟨fun | 169 => 133 | n => n,fun | 70 => 280 | 9 => 9 | 0 => 0 | 72 => 282 | 37 => 22 | 127 => 301 | 3 => 3 | 5 => 5 | n => n,fun | n => n⟩
theorem Tryz.lays169 : Go.Proofs.Lays.n169 Tryz.prog Tryz.lays169_ren := {
 mixed := by kernel_rfl
 f169 := Tryz.func133.trans (congrArg some (by kernel_rfl))
 t0 := Tryz.underlying0
 a0 := Tryz.isAgg0
 z0 := Tryz.sizeOf0
 v0 := Tryz.zeroValue0
 t3 := Tryz.underlying3
 a3 := Tryz.isAgg3
 z3 := Tryz.sizeOf3
 v3 := Tryz.zeroValue3
 t9 := Tryz.underlying9
 a9 := Tryz.isAgg9
 z9 := Tryz.sizeOf9
 v9 := Tryz.zeroValue9
 t37 := Tryz.underlying22
 a37 := Tryz.isAgg22
 z37 := Tryz.sizeOf22
 v37 := Tryz.zeroValue22
 t70 := Tryz.underlying280
 a70 := Tryz.isAgg280
 z70 := Tryz.sizeOf280
 v70 := Tryz.zeroValue280
 t72 := Tryz.underlying282
 a72 := Tryz.isAgg282
 z72 := Tryz.sizeOf282
 v72 := Tryz.zeroValue282
 t127 := Tryz.underlying301
 a127 := Tryz.isAgg301
 z127 := Tryz.sizeOf301
 v127 := Tryz.zeroValue301 }
theorem Tryz.Builder_Extra_169 : Builder.Extra Tryz.prog Tryz.lays169_ren := {
 sizeBuilder := by kernel_rfl
 liesBuilder := by kernel_rfl
 t5 := Tryz.underlying5
 a5 := Tryz.isAgg5
 z5 := Tryz.sizeOf5
 v5 := Tryz.zeroValue5
 infoByte := by kernel_rfl
 cellsByte := by kernel_rfl
 sizeByte := by kernel_rfl
 neB5 := by decide }
open Go.RowKit in
theorem Tryz.Builder_String_any (B b : Nat) (l : List UInt8) (w : World) (h : Lib.IsBuilder 282 5 B b (Lib.byteCells l) w) (hBw : B ≤ w.heap.size) :
  Calls Tryz.prog 133 #[.pointer (some ⟨b,0,none⟩)] w fun e w' => e = .returned (.string ⟨l.toArray⟩) ∧ Below B w w' := Any.Builder_String_any Tryz.lays169 Tryz.Builder_Extra_169 B b l w h hBw
def Tryz.lays156_ren : Go.Shelf.Ren := ⟨fun | 156 => 128 | 165 => 145 | 166 => 146 | 169 => 133 | 240 => 149 | 241 => 156 | 276 => 158 | 277 => 170 | n => n,fun | 31 => 71 | 9 => 9 | 3 => 3 | 4 => 4 | 0 => 0 | 20 => 20 | 72 => 282 | 76 => 64 | 70 => 280 | 37 => 22 | 75 => 46 | 127 => 301 | 164 => 128 | 5 => 5 | 80 => 285 | n => n,fun | n => n⟩
theorem Tryz.lays156 : Go.Proofs.Lays.n156 Tryz.prog Tryz.lays156_ren := {
 mixed := by kernel_rfl
 f156 := Tryz.func128.trans (congrArg some (by kernel_rfl))
 f165 := Tryz.func145.trans (congrArg some (by kernel_rfl))
 f166 := Tryz.func146.trans (congrArg some (by kernel_rfl))
 f169 := Tryz.func133.trans (congrArg some (by kernel_rfl))
 f240 := Tryz.func149.trans (congrArg some (by kernel_rfl))
 f241 := Tryz.func156.trans (congrArg some (by kernel_rfl))
 f276 := Tryz.func158.trans (congrArg some (by kernel_rfl))
 f277 := Tryz.func170.trans (congrArg some (by kernel_rfl))
 t0 := Tryz.underlying0
 a0 := Tryz.isAgg0
 z0 := Tryz.sizeOf0
 v0 := Tryz.zeroValue0
 t3 := Tryz.underlying3
 a3 := Tryz.isAgg3
 z3 := Tryz.sizeOf3
 v3 := Tryz.zeroValue3
 t4 := Tryz.underlying4
 a4 := Tryz.isAgg4
 z4 := Tryz.sizeOf4
 v4 := Tryz.zeroValue4
 t9 := Tryz.underlying9
 a9 := Tryz.isAgg9
 z9 := Tryz.sizeOf9
 v9 := Tryz.zeroValue9
 t20 := Tryz.underlying20
 a20 := Tryz.isAgg20
 z20 := Tryz.sizeOf20
 v20 := Tryz.zeroValue20
 t31 := Tryz.underlying71
 a31 := Tryz.isAgg71
 z31 := Tryz.sizeOf71
 v31 := Tryz.zeroValue71
 t37 := Tryz.underlying22
 a37 := Tryz.isAgg22
 z37 := Tryz.sizeOf22
 v37 := Tryz.zeroValue22
 t70 := Tryz.underlying280
 a70 := Tryz.isAgg280
 z70 := Tryz.sizeOf280
 v70 := Tryz.zeroValue280
 t72 := Tryz.underlying282
 a72 := Tryz.isAgg282
 z72 := Tryz.sizeOf282
 v72 := Tryz.zeroValue282
 t75 := Tryz.underlying46
 a75 := Tryz.isAgg46
 z75 := Tryz.sizeOf46
 v75 := Tryz.zeroValue46
 t76 := Tryz.underlying64
 a76 := Tryz.isAgg64
 z76 := Tryz.sizeOf64
 v76 := Tryz.zeroValue64
 t127 := Tryz.underlying301
 a127 := Tryz.isAgg301
 z127 := Tryz.sizeOf301
 v127 := Tryz.zeroValue301
 t164 := Tryz.underlying128
 a164 := Tryz.isAgg128
 z164 := Tryz.sizeOf128
 v164 := Tryz.zeroValue128 }
theorem Tryz.Builder_Extra_156 : Builder.Extra Tryz.prog Tryz.lays156_ren := {
 sizeBuilder := by kernel_rfl
 liesBuilder := by kernel_rfl
 t5 := Tryz.underlying5
 a5 := Tryz.isAgg5
 z5 := Tryz.sizeOf5
 v5 := Tryz.zeroValue5
 infoByte := by kernel_rfl
 cellsByte := by kernel_rfl
 sizeByte := by kernel_rfl
 neB5 := by decide }
open Go.RowKit in
theorem Tryz.strings_Join (bk o c : Nat) (xs : List ByteArray) (sep : ByteArray) (w : World) (hcells : ∀ (j : Nat) x,xs[j]? = some x → w.cell? ⟨bk,o + j,none⟩ = some (.string x)) (hbk : bk < w.heap.size) (hN : xs.length ≤ 140737488355328) (hcap : xs.length ≤ c) (hlen : (Lib.join (xs.map (·.data.toList)) sep.data.toList).length ≤ 140737488355328) :
  Calls Tryz.prog 128 #[.slice (some ⟨bk,o,none⟩) xs.length c,.string sep] w fun e w' => e = .returned (.string ⟨(Lib.join (xs.map (·.data.toList)) sep.data.toList).toArray⟩) ∧ Below w.heap.size w w' := Any.strings_Join Tryz.lays156 Tryz.Builder_Extra_156 bk o c xs sep w hcells hbk hN hcap hlen
def Tryz.lays162_ren : Go.Shelf.Ren := ⟨fun | 162 => 258 | 232 => 262 | 227 => 263 | 234 => 264 | 236 => 265 | 228 => 267 | 271 => 268 | 151 => 269 | 120 => 271 | 197 => 160 | 152 => 272 | 260 => 171 | 137 => 131 | 119 => 273 | 224 => 173 | 225 => 172 | 217 => 148 | 266 => 157 | n => n,fun | 9 => 9 | 4 => 4 | 3 => 3 | 5 => 5 | 117 => 374 | 116 => 373 | 0 => 0 | 124 => 377 | 21 => 21 | 105 => 311 | 46 => 141 | 119 => 326 | 139 => 329 | 138 => 328 | n => n,fun | 3 => 7 | 4 => 8 | n => n⟩
theorem Tryz.lays162 : Go.Proofs.Lays.n162 Tryz.prog Tryz.lays162_ren := {
 mixed := by kernel_rfl
 f119 := Tryz.func273.trans (congrArg some (by kernel_rfl))
 f120 := Tryz.func271.trans (congrArg some (by kernel_rfl))
 f137 := Tryz.func131.trans (congrArg some (by kernel_rfl))
 f151 := Tryz.func269.trans (congrArg some (by kernel_rfl))
 f152 := Tryz.func272.trans (congrArg some (by kernel_rfl))
 f162 := Tryz.func258.trans (congrArg some (by kernel_rfl))
 f197 := Tryz.func160.trans (congrArg some (by kernel_rfl))
 f217 := Tryz.func148.trans (congrArg some (by kernel_rfl))
 f224 := Tryz.func173.trans (congrArg some (by kernel_rfl))
 f225 := Tryz.func172.trans (congrArg some (by kernel_rfl))
 f227 := Tryz.func263.trans (congrArg some (by kernel_rfl))
 f228 := Tryz.func267.trans (congrArg some (by kernel_rfl))
 f232 := Tryz.func262.trans (congrArg some (by kernel_rfl))
 f234 := Tryz.func264.trans (congrArg some (by kernel_rfl))
 f236 := Tryz.func265.trans (congrArg some (by kernel_rfl))
 f260 := Tryz.func171.trans (congrArg some (by kernel_rfl))
 f266 := Tryz.func157.trans (congrArg some (by kernel_rfl))
 f271 := Tryz.func268.trans (congrArg some (by kernel_rfl))
 t0 := Tryz.underlying0
 a0 := Tryz.isAgg0
 z0 := Tryz.sizeOf0
 v0 := Tryz.zeroValue0
 t3 := Tryz.underlying3
 a3 := Tryz.isAgg3
 z3 := Tryz.sizeOf3
 v3 := Tryz.zeroValue3
 t4 := Tryz.underlying4
 a4 := Tryz.isAgg4
 z4 := Tryz.sizeOf4
 v4 := Tryz.zeroValue4
 t5 := Tryz.underlying5
 a5 := Tryz.isAgg5
 z5 := Tryz.sizeOf5
 v5 := Tryz.zeroValue5
 t9 := Tryz.underlying9
 a9 := Tryz.isAgg9
 z9 := Tryz.sizeOf9
 v9 := Tryz.zeroValue9
 t21 := Tryz.underlying21
 a21 := Tryz.isAgg21
 z21 := Tryz.sizeOf21
 v21 := Tryz.zeroValue21
 t46 := Tryz.underlying141
 a46 := Tryz.isAgg141
 z46 := Tryz.sizeOf141
 v46 := Tryz.zeroValue141
 t105 := Tryz.underlying311
 a105 := Tryz.isAgg311
 z105 := Tryz.sizeOf311
 v105 := Tryz.zeroValue311
 t116 := Tryz.underlying373
 a116 := Tryz.isAgg373
 z116 := Tryz.sizeOf373
 t117 := Tryz.underlying374
 a117 := Tryz.isAgg374
 z117 := Tryz.sizeOf374
 v117 := Tryz.zeroValue374
 t119 := Tryz.underlying326
 a119 := Tryz.isAgg326
 z119 := Tryz.sizeOf326
 t124 := Tryz.underlying377
 a124 := Tryz.isAgg377
 z124 := Tryz.sizeOf377
 v124 := Tryz.zeroValue377
 t138 := Tryz.underlying328
 a138 := Tryz.isAgg328
 z138 := Tryz.sizeOf328
 v138 := Tryz.zeroValue328
 t139 := Tryz.underlying329
 a139 := Tryz.isAgg329
 z139 := Tryz.sizeOf329
 v139 := Tryz.zeroValue329
 g3 := by kernel_rfl
 g4 := by kernel_rfl }
open Go.RowKit in
theorem Tryz.strings_TrimRight_one (s : ByteArray) (c : UInt8) (hc : c.toNat < 128) (w : World) (hs : s.size ≤ 9223372036854775807) :
  Calls Tryz.prog 258 #[.string s,.string ⟨#[c]⟩] w fun e w' => e = .returned (.string ⟨(Lib.trimRightB s.data.toList c).toArray⟩) ∧ w' = w := Any.strings_TrimRight_one Tryz.lays162 s c hc w hs
def Tryz.lays137_ren : Go.Shelf.Ren := ⟨fun | 137 => 131 | 217 => 148 | 266 => 157 | n => n,fun | 9 => 9 | 5 => 5 | 3 => 3 | n => n,fun | n => n⟩
theorem Tryz.lays137 : Go.Proofs.Lays.n137 Tryz.prog Tryz.lays137_ren := {
 mixed := by kernel_rfl
 f137 := Tryz.func131.trans (congrArg some (by kernel_rfl))
 f217 := Tryz.func148.trans (congrArg some (by kernel_rfl))
 f266 := Tryz.func157.trans (congrArg some (by kernel_rfl))
 t3 := Tryz.underlying3
 a3 := Tryz.isAgg3
 z3 := Tryz.sizeOf3
 v3 := Tryz.zeroValue3
 t5 := Tryz.underlying5
 a5 := Tryz.isAgg5
 z5 := Tryz.sizeOf5
 v5 := Tryz.zeroValue5
 t9 := Tryz.underlying9
 a9 := Tryz.isAgg9
 z9 := Tryz.sizeOf9
 v9 := Tryz.zeroValue9 }
open Go.RowKit in
theorem Tryz.strings_IndexByte (s : ByteArray) (c : Int) (w : World) :
  Calls Tryz.prog 131 #[.string s,.int .u8 c] w fun e w' => e = .returned (.int .i64 (Lib.indexByte s.data.toList c.toNat.toUInt8)) ∧ w' = w := Any.strings_IndexByte Tryz.lays137 s c w
def Tryz.laysM246_ren : Go.Shelf.Ren := ⟨fun | 246 => 38 | 283 => 59 | 284 => 60 | 285 => 61 | 286 => 62 | 129 => 82 | 317 => 81 | 318 => 83 | 319 => 84 | 320 => 85 | 337 => 102 | 338 => 103 | n => n,fun | 2 => 2 | 3 => 3 | 9 => 9 | 4 => 4 | 171 => 143 | 0 => 0 | 53 => 144 | 37 => 22 | 5 => 5 | 173 => 147 | 212 => 185 | 51 => 37 | 20 => 20 | 213 => 186 | 46 => 141 | 232 => 257 | 233 => 258 | n => n,fun | 17 => 1 | 18 => 2 | 19 => 3 | n => n⟩
theorem Tryz.laysM246 : Go.Proofs.LaysM.n246 Tryz.prog Tryz.laysM246_ren := {
 mixed := by kernel_rfl
 f129 := Tryz.func82.trans (congrArg some (by kernel_rfl))
 f246 := Tryz.func38.trans (congrArg some (by kernel_rfl))
 f283 := Tryz.func59.trans (congrArg some (by kernel_rfl))
 f284 := Tryz.func60.trans (congrArg some (by kernel_rfl))
 f285 := Tryz.func61.trans (congrArg some (by kernel_rfl))
 f286 := Tryz.func62.trans (congrArg some (by kernel_rfl))
 f317 := Tryz.func81.trans (congrArg some (by kernel_rfl))
 f318 := Tryz.func83.trans (congrArg some (by kernel_rfl))
 f319 := Tryz.func84.trans (congrArg some (by kernel_rfl))
 f320 := Tryz.func85.trans (congrArg some (by kernel_rfl))
 f337 := Tryz.func102.trans (congrArg some (by kernel_rfl))
 f338 := Tryz.func103.trans (congrArg some (by kernel_rfl))
 t0 := Tryz.underlying0
 a0 := Tryz.isAgg0
 z0 := Tryz.sizeOf0
 v0 := Tryz.zeroValue0
 t2 := Tryz.underlying2
 a2 := Tryz.isAgg2
 z2 := Tryz.sizeOf2
 v2 := Tryz.zeroValue2
 t3 := Tryz.underlying3
 a3 := Tryz.isAgg3
 z3 := Tryz.sizeOf3
 v3 := Tryz.zeroValue3
 t4 := Tryz.underlying4
 a4 := Tryz.isAgg4
 z4 := Tryz.sizeOf4
 v4 := Tryz.zeroValue4
 t5 := Tryz.underlying5
 a5 := Tryz.isAgg5
 z5 := Tryz.sizeOf5
 v5 := Tryz.zeroValue5
 t9 := Tryz.underlying9
 a9 := Tryz.isAgg9
 z9 := Tryz.sizeOf9
 v9 := Tryz.zeroValue9
 t20 := Tryz.underlying20
 a20 := Tryz.isAgg20
 z20 := Tryz.sizeOf20
 v20 := Tryz.zeroValue20
 t37 := Tryz.underlying22
 a37 := Tryz.isAgg22
 z37 := Tryz.sizeOf22
 v37 := Tryz.zeroValue22
 t46 := Tryz.underlying141
 a46 := Tryz.isAgg141
 z46 := Tryz.sizeOf141
 v46 := Tryz.zeroValue141
 t51 := Tryz.underlying37
 a51 := Tryz.isAgg37
 z51 := Tryz.sizeOf37
 v51 := Tryz.zeroValue37
 t53 := Tryz.underlying144
 a53 := Tryz.isAgg144
 z53 := Tryz.sizeOf144
 v53 := Tryz.zeroValue144
 t171 := Tryz.underlying143
 a171 := Tryz.isAgg143
 z171 := Tryz.sizeOf143
 v171 := Tryz.zeroValue143
 t173 := Tryz.underlying147
 a173 := Tryz.isAgg147
 z173 := Tryz.sizeOf147
 v173 := Tryz.zeroValue147
 t212 := Tryz.underlying185
 a212 := Tryz.isAgg185
 z212 := Tryz.sizeOf185
 v212 := Tryz.zeroValue185
 t213 := Tryz.underlying186
 a213 := Tryz.isAgg186
 z213 := Tryz.sizeOf186
 t232 := Tryz.underlying257
 a232 := Tryz.isAgg257
 z232 := Tryz.sizeOf257
 v232 := Tryz.zeroValue257
 t233 := Tryz.underlying258
 a233 := Tryz.isAgg258
 z233 := Tryz.sizeOf258
 v233 := Tryz.zeroValue258
 g17 := by kernel_rfl
 g18 := by kernel_rfl
 g19 := by kernel_rfl
 i0 := by kernel_rfl
 i2 := by kernel_rfl
 i3 := by kernel_rfl
 i4 := by kernel_rfl
 i5 := by kernel_rfl
 i9 := by kernel_rfl
 i20 := by kernel_rfl
 i37 := by kernel_rfl
 i46 := by kernel_rfl
 i51 := by kernel_rfl
 i53 := by kernel_rfl
 i171 := by kernel_rfl
 i173 := by kernel_rfl
 i212 := by kernel_rfl
 i232 := by kernel_rfl
 i233 := by kernel_rfl
 m17 := by kernel_rfl
 m18 := by kernel_rfl
 m19 := by kernel_rfl }
open Go.RowKit Go.Sort Go.Lib in
theorem Tryz.internal_strconv_FormatInt_10 (n : Int) (h0 : -9223372036854775808 ≤ n) (h1 : n ≤ 9223372036854775807) (w : World) (htab : Lib.TabIs Tryz.prog w "internal/strconv.uint64pow10" .u64 Lib.pow10Tab) :
  Calls Tryz.prog 38 #[.int .i64 n,.int .i64 10] w fun e w' => e = .returned (.string ⟨(Lib.itoa n).toArray⟩) ∧ ∃ k os,w' = grow (w.drewN k) os := Any.internal_strconv_FormatInt_10 Tryz.laysM246 n h0 h1 w htab
def Tryz.laysM243_ren : Go.Shelf.Ren := ⟨fun | 243 => 144 | 246 => 38 | 283 => 59 | 284 => 60 | 285 => 61 | 286 => 62 | 129 => 82 | 317 => 81 | 318 => 83 | 319 => 84 | 320 => 85 | 337 => 102 | 338 => 103 | n => n,fun | 3 => 3 | 9 => 9 | 2 => 2 | 4 => 4 | 171 => 143 | 0 => 0 | 53 => 144 | 37 => 22 | 5 => 5 | 173 => 147 | 212 => 185 | 51 => 37 | 20 => 20 | 213 => 186 | 46 => 141 | 232 => 257 | 233 => 258 | n => n,fun | 17 => 1 | 18 => 2 | 19 => 3 | n => n⟩
def Tryz.laysM171_ren : Go.Shelf.Ren := ⟨fun | 171 => 127 | 243 => 144 | 246 => 38 | 283 => 59 | 284 => 60 | 285 => 61 | 286 => 62 | 129 => 82 | 317 => 81 | 318 => 83 | 319 => 84 | 320 => 85 | 337 => 102 | 338 => 103 | n => n,fun | 3 => 3 | 9 => 9 | 2 => 2 | 4 => 4 | 171 => 143 | 0 => 0 | 53 => 144 | 37 => 22 | 5 => 5 | 173 => 147 | 212 => 185 | 51 => 37 | 20 => 20 | 213 => 186 | 46 => 141 | 232 => 257 | 233 => 258 | n => n,fun | 17 => 1 | 18 => 2 | 19 => 3 | n => n⟩
theorem Tryz.laysM171 : Go.Proofs.LaysM.n171 Tryz.prog Tryz.laysM171_ren := {
 mixed := by kernel_rfl
 f129 := Tryz.func82.trans (congrArg some (by kernel_rfl))
 f171 := Tryz.func127.trans (congrArg some (by kernel_rfl))
 f243 := Tryz.func144.trans (congrArg some (by kernel_rfl))
 f246 := Tryz.func38.trans (congrArg some (by kernel_rfl))
 f283 := Tryz.func59.trans (congrArg some (by kernel_rfl))
 f284 := Tryz.func60.trans (congrArg some (by kernel_rfl))
 f285 := Tryz.func61.trans (congrArg some (by kernel_rfl))
 f286 := Tryz.func62.trans (congrArg some (by kernel_rfl))
 f317 := Tryz.func81.trans (congrArg some (by kernel_rfl))
 f318 := Tryz.func83.trans (congrArg some (by kernel_rfl))
 f319 := Tryz.func84.trans (congrArg some (by kernel_rfl))
 f320 := Tryz.func85.trans (congrArg some (by kernel_rfl))
 f337 := Tryz.func102.trans (congrArg some (by kernel_rfl))
 f338 := Tryz.func103.trans (congrArg some (by kernel_rfl))
 t0 := Tryz.underlying0
 a0 := Tryz.isAgg0
 z0 := Tryz.sizeOf0
 v0 := Tryz.zeroValue0
 t2 := Tryz.underlying2
 a2 := Tryz.isAgg2
 z2 := Tryz.sizeOf2
 v2 := Tryz.zeroValue2
 t3 := Tryz.underlying3
 a3 := Tryz.isAgg3
 z3 := Tryz.sizeOf3
 v3 := Tryz.zeroValue3
 t4 := Tryz.underlying4
 a4 := Tryz.isAgg4
 z4 := Tryz.sizeOf4
 v4 := Tryz.zeroValue4
 t5 := Tryz.underlying5
 a5 := Tryz.isAgg5
 z5 := Tryz.sizeOf5
 v5 := Tryz.zeroValue5
 t9 := Tryz.underlying9
 a9 := Tryz.isAgg9
 z9 := Tryz.sizeOf9
 v9 := Tryz.zeroValue9
 t20 := Tryz.underlying20
 a20 := Tryz.isAgg20
 z20 := Tryz.sizeOf20
 v20 := Tryz.zeroValue20
 t37 := Tryz.underlying22
 a37 := Tryz.isAgg22
 z37 := Tryz.sizeOf22
 v37 := Tryz.zeroValue22
 t46 := Tryz.underlying141
 a46 := Tryz.isAgg141
 z46 := Tryz.sizeOf141
 v46 := Tryz.zeroValue141
 t51 := Tryz.underlying37
 a51 := Tryz.isAgg37
 z51 := Tryz.sizeOf37
 v51 := Tryz.zeroValue37
 t53 := Tryz.underlying144
 a53 := Tryz.isAgg144
 z53 := Tryz.sizeOf144
 v53 := Tryz.zeroValue144
 t171 := Tryz.underlying143
 a171 := Tryz.isAgg143
 z171 := Tryz.sizeOf143
 v171 := Tryz.zeroValue143
 t173 := Tryz.underlying147
 a173 := Tryz.isAgg147
 z173 := Tryz.sizeOf147
 v173 := Tryz.zeroValue147
 t212 := Tryz.underlying185
 a212 := Tryz.isAgg185
 z212 := Tryz.sizeOf185
 v212 := Tryz.zeroValue185
 t213 := Tryz.underlying186
 a213 := Tryz.isAgg186
 z213 := Tryz.sizeOf186
 t232 := Tryz.underlying257
 a232 := Tryz.isAgg257
 z232 := Tryz.sizeOf257
 v232 := Tryz.zeroValue257
 t233 := Tryz.underlying258
 a233 := Tryz.isAgg258
 z233 := Tryz.sizeOf258
 v233 := Tryz.zeroValue258
 g17 := by kernel_rfl
 g18 := by kernel_rfl
 g19 := by kernel_rfl
 i0 := by kernel_rfl
 i2 := by kernel_rfl
 i3 := by kernel_rfl
 i4 := by kernel_rfl
 i5 := by kernel_rfl
 i9 := by kernel_rfl
 i20 := by kernel_rfl
 i37 := by kernel_rfl
 i46 := by kernel_rfl
 i51 := by kernel_rfl
 i53 := by kernel_rfl
 i171 := by kernel_rfl
 i173 := by kernel_rfl
 i212 := by kernel_rfl
 i232 := by kernel_rfl
 i233 := by kernel_rfl
 m17 := by kernel_rfl
 m18 := by kernel_rfl
 m19 := by kernel_rfl }
open Go.RowKit Go.Sort Go.Lib in
theorem Tryz.strconv_Itoa (n : Int) (h0 : -9223372036854775808 ≤ n) (h1 : n ≤ 9223372036854775807) (w : World) (htab : Lib.TabIs Tryz.prog w "internal/strconv.uint64pow10" .u64 Lib.pow10Tab) :
  Calls Tryz.prog 127 #[.int .i64 n] w fun e w' => e = .returned (.string ⟨(Lib.itoa n).toArray⟩) ∧ ∃ k os,w' = grow (w.drewN k) os := Any.strconv_Itoa Tryz.laysM171 n h0 h1 w htab
def Tryz.lays219_ren : Go.Shelf.Ren := ⟨fun | 219 => 162 | 217 => 148 | 225 => 172 | 224 => 173 | 267 => 174 | 266 => 157 | 314 => 181 | n => n,fun | 9 => 9 | 3 => 3 | 4 => 4 | 5 => 5 | 46 => 141 | 146 => 330 | 51 => 37 | n => n,fun | 1 => 4 | n => n⟩
def Tryz.lays145_ren : Go.Shelf.Ren := ⟨fun | 145 => 257 | 220 => 261 | 219 => 162 | 217 => 148 | 225 => 172 | 224 => 173 | 267 => 174 | 266 => 157 | 314 => 181 | n => n,fun | 9 => 9 | 4 => 4 | 59 => 366 | 3 => 3 | 5 => 5 | 46 => 141 | 146 => 330 | 51 => 37 | n => n,fun | 1 => 4 | n => n⟩
theorem Tryz.lays145 : Go.Proofs.Lays.n145 Tryz.prog Tryz.lays145_ren := {
 mixed := by kernel_rfl
 f145 := Tryz.func257.trans (congrArg some (by kernel_rfl))
 f217 := Tryz.func148.trans (congrArg some (by kernel_rfl))
 f219 := Tryz.func162.trans (congrArg some (by kernel_rfl))
 f220 := Tryz.func261.trans (congrArg some (by kernel_rfl))
 f224 := Tryz.func173.trans (congrArg some (by kernel_rfl))
 f225 := Tryz.func172.trans (congrArg some (by kernel_rfl))
 f266 := Tryz.func157.trans (congrArg some (by kernel_rfl))
 f267 := Tryz.func174.trans (congrArg some (by kernel_rfl))
 f314 := Tryz.func181.trans (congrArg some (by kernel_rfl))
 t3 := Tryz.underlying3
 a3 := Tryz.isAgg3
 z3 := Tryz.sizeOf3
 v3 := Tryz.zeroValue3
 t4 := Tryz.underlying4
 a4 := Tryz.isAgg4
 z4 := Tryz.sizeOf4
 v4 := Tryz.zeroValue4
 t5 := Tryz.underlying5
 a5 := Tryz.isAgg5
 z5 := Tryz.sizeOf5
 v5 := Tryz.zeroValue5
 t9 := Tryz.underlying9
 a9 := Tryz.isAgg9
 z9 := Tryz.sizeOf9
 v9 := Tryz.zeroValue9
 t46 := Tryz.underlying141
 a46 := Tryz.isAgg141
 z46 := Tryz.sizeOf141
 v46 := Tryz.zeroValue141
 t51 := Tryz.underlying37
 a51 := Tryz.isAgg37
 z51 := Tryz.sizeOf37
 v51 := Tryz.zeroValue37
 t59 := Tryz.underlying366
 a59 := Tryz.isAgg366
 z59 := Tryz.sizeOf366
 v59 := Tryz.zeroValue366
 t146 := Tryz.underlying330
 a146 := Tryz.isAgg330
 z146 := Tryz.sizeOf330
 v146 := Tryz.zeroValue330
 g1 := by kernel_rfl }
open Go.RowKit Go.Lib in
theorem Tryz.strings_Cut (s sep : ByteArray) (m : Int) (w : World) (hs : s.size < 4294967281) (hm : w.cell? ⟨4,0,none⟩ = some (.int .i64 m)) :
  Calls Tryz.prog 257 #[.string s,.string sep] w fun e w' => e = .returned (.tuple #[.string ⟨(Lib.cut s.data.toList sep.data.toList).1.toArray⟩,.string ⟨(Lib.cut s.data.toList sep.data.toList).2.1.toArray⟩,.bool (Lib.cut s.data.toList sep.data.toList).2.2]) ∧ ∃ n,w' = w.drewN n := Any.strings_Cut Tryz.lays145 s sep m w hs hm
def Tryz.lays221_ren : Go.Shelf.Ren := ⟨fun | 221 => 135 | 268 => 150 | 138 => 151 | 143 => 152 | 195 => 159 | 197 => 160 | 218 => 161 | 219 => 162 | 260 => 171 | 217 => 148 | 225 => 172 | 224 => 173 | 267 => 174 | 266 => 157 | 314 => 181 | n => n,fun | 9 => 9 | 3 => 3 | 31 => 71 | 4 => 4 | 0 => 0 | 105 => 311 | 21 => 21 | 5 => 5 | 46 => 141 | 119 => 326 | 139 => 329 | 138 => 328 | 146 => 330 | 51 => 37 | n => n,fun | 1 => 4 | 3 => 7 | 4 => 8 | n => n⟩
def Tryz.lays146_ren : Go.Shelf.Ren := ⟨fun | 146 => 117 | 221 => 135 | 268 => 150 | 138 => 151 | 143 => 152 | 195 => 159 | 197 => 160 | 218 => 161 | 219 => 162 | 260 => 171 | 217 => 148 | 225 => 172 | 224 => 173 | 267 => 174 | 266 => 157 | 314 => 181 | n => n,fun | 9 => 9 | 31 => 71 | 3 => 3 | 4 => 4 | 0 => 0 | 105 => 311 | 21 => 21 | 5 => 5 | 46 => 141 | 119 => 326 | 139 => 329 | 138 => 328 | 146 => 330 | 51 => 37 | n => n,fun | 1 => 4 | 3 => 7 | 4 => 8 | n => n⟩
theorem Tryz.lays146 : Go.Proofs.Lays.n146 Tryz.prog Tryz.lays146_ren := {
 mixed := by kernel_rfl
 f138 := Tryz.func151.trans (congrArg some (by kernel_rfl))
 f143 := Tryz.func152.trans (congrArg some (by kernel_rfl))
 f146 := Tryz.func117.trans (congrArg some (by kernel_rfl))
 f195 := Tryz.func159.trans (congrArg some (by kernel_rfl))
 f197 := Tryz.func160.trans (congrArg some (by kernel_rfl))
 f217 := Tryz.func148.trans (congrArg some (by kernel_rfl))
 f218 := Tryz.func161.trans (congrArg some (by kernel_rfl))
 f219 := Tryz.func162.trans (congrArg some (by kernel_rfl))
 f221 := Tryz.func135.trans (congrArg some (by kernel_rfl))
 f224 := Tryz.func173.trans (congrArg some (by kernel_rfl))
 f225 := Tryz.func172.trans (congrArg some (by kernel_rfl))
 f260 := Tryz.func171.trans (congrArg some (by kernel_rfl))
 f266 := Tryz.func157.trans (congrArg some (by kernel_rfl))
 f267 := Tryz.func174.trans (congrArg some (by kernel_rfl))
 f268 := Tryz.func150.trans (congrArg some (by kernel_rfl))
 f314 := Tryz.func181.trans (congrArg some (by kernel_rfl))
 t0 := Tryz.underlying0
 a0 := Tryz.isAgg0
 z0 := Tryz.sizeOf0
 v0 := Tryz.zeroValue0
 t3 := Tryz.underlying3
 a3 := Tryz.isAgg3
 z3 := Tryz.sizeOf3
 v3 := Tryz.zeroValue3
 t4 := Tryz.underlying4
 a4 := Tryz.isAgg4
 z4 := Tryz.sizeOf4
 v4 := Tryz.zeroValue4
 t5 := Tryz.underlying5
 a5 := Tryz.isAgg5
 z5 := Tryz.sizeOf5
 v5 := Tryz.zeroValue5
 t9 := Tryz.underlying9
 a9 := Tryz.isAgg9
 z9 := Tryz.sizeOf9
 v9 := Tryz.zeroValue9
 t21 := Tryz.underlying21
 a21 := Tryz.isAgg21
 z21 := Tryz.sizeOf21
 v21 := Tryz.zeroValue21
 t31 := Tryz.underlying71
 a31 := Tryz.isAgg71
 z31 := Tryz.sizeOf71
 v31 := Tryz.zeroValue71
 t46 := Tryz.underlying141
 a46 := Tryz.isAgg141
 z46 := Tryz.sizeOf141
 v46 := Tryz.zeroValue141
 t51 := Tryz.underlying37
 a51 := Tryz.isAgg37
 z51 := Tryz.sizeOf37
 v51 := Tryz.zeroValue37
 t105 := Tryz.underlying311
 a105 := Tryz.isAgg311
 z105 := Tryz.sizeOf311
 v105 := Tryz.zeroValue311
 t119 := Tryz.underlying326
 a119 := Tryz.isAgg326
 z119 := Tryz.sizeOf326
 t138 := Tryz.underlying328
 a138 := Tryz.isAgg328
 z138 := Tryz.sizeOf328
 v138 := Tryz.zeroValue328
 t139 := Tryz.underlying329
 a139 := Tryz.isAgg329
 z139 := Tryz.sizeOf329
 v139 := Tryz.zeroValue329
 t146 := Tryz.underlying330
 a146 := Tryz.isAgg330
 z146 := Tryz.sizeOf330
 v146 := Tryz.zeroValue330
 g1 := by kernel_rfl
 g3 := by kernel_rfl
 g4 := by kernel_rfl }
open Go.RowKit Go.Lib in
theorem Tryz.strings_Split (s sep : ByteArray) (m : Int) (w : World) (hs : s.size < 4294967281) (hm : w.cell? ⟨4,0,none⟩ = some (.int .i64 m)) (h1 : 1 ≤ sep.size) :
  Calls Tryz.prog 117 #[.string s,.string sep] w fun e w' =>
   e = .returned (.slice (some ⟨w.heap.size,0,none⟩) (Lib.countB s sep + 1) (Lib.countB s sep + 1)) ∧ w' = w.alloc (.cells ((Lib.splitB sep 0 (Lib.countB s sep) s).map Value.string).toArray 9) := Any.strings_Split Tryz.lays146 (by kernel_rfl) s sep m w hs hm h1
end Go.Proofs
namespace Go.Proofs.YtplaamfoeaaaiaaGreatDoor
open Go.RowKit
def Tryz.lays167_ren : Go.Shelf.Ren := ⟨fun | 167 => 132 | 240 => 149 | 276 => 158 | n => n,fun | 70 => 280 | 0 => 0 | 4 => 4 | 9 => 9 | 20 => 20 | 72 => 282 | 37 => 22 | 164 => 128 | 5 => 5 | 75 => 46 | 80 => 285 | n => n,fun | n => n⟩
theorem Tryz.lays167 : Go.Proofs.Lays.n167 Tryz.prog Tryz.lays167_ren := {
 mixed := by kernel_rfl
 f167 := FT Tryz.func132
 f240 := FT Tryz.func149
 f276 := FT Tryz.func158
 t0 := Tryz.underlying0
 a0 := Tryz.isAgg0
 z0 := Tryz.sizeOf0
 v0 := Tryz.zeroValue0
 t4 := Tryz.underlying4
 a4 := Tryz.isAgg4
 z4 := Tryz.sizeOf4
 v4 := Tryz.zeroValue4
 t5 := Tryz.underlying5
 a5 := Tryz.isAgg5
 z5 := Tryz.sizeOf5
 v5 := Tryz.zeroValue5
 t9 := Tryz.underlying9
 a9 := Tryz.isAgg9
 z9 := Tryz.sizeOf9
 v9 := Tryz.zeroValue9
 t20 := Tryz.underlying20
 a20 := Tryz.isAgg20
 z20 := Tryz.sizeOf20
 v20 := Tryz.zeroValue20
 t37 := Tryz.underlying22
 a37 := Tryz.isAgg22
 z37 := Tryz.sizeOf22
 v37 := Tryz.zeroValue22
 t70 := Tryz.underlying280
 a70 := Tryz.isAgg280
 z70 := Tryz.sizeOf280
 v70 := Tryz.zeroValue280
 t72 := Tryz.underlying282
 a72 := Tryz.isAgg282
 z72 := Tryz.sizeOf282
 v72 := Tryz.zeroValue282
 t75 := Tryz.underlying46
 a75 := Tryz.isAgg46
 z75 := Tryz.sizeOf46
 v75 := Tryz.zeroValue46
 t164 := Tryz.underlying128
 a164 := Tryz.isAgg128
 z164 := Tryz.sizeOf128
 v164 := Tryz.zeroValue128 }
theorem Tryz.Builder_Extra_167 : Builder.Extra Tryz.prog Tryz.lays167_ren := {
 sizeBuilder := by kernel_rfl
 liesBuilder := by kernel_rfl
 t5 := Tryz.underlying5
 a5 := Tryz.isAgg5
 z5 := Tryz.sizeOf5
 v5 := Tryz.zeroValue5
 infoByte := by kernel_rfl
 cellsByte := by kernel_rfl
 sizeByte := by kernel_rfl
 neB5 := by decide }
theorem wbyte_any (B b : Nat) (bs : List Value) (c : Int) (w : World) (h : Lib.IsBuilder 282 5 B b bs w) (hlen : bs.length + 1 ≤ 140737488355328) (hBw : B ≤ w.heap.size) :
  Calls Tryz.prog 132 #[.pointer (some ⟨b,0,none⟩),.int .u8 c] w fun e w' => e = .returned .nilIface ∧ (Lib.BuilderAt 282 5 B b (.pointer (some ⟨b,0,none⟩)) (bs ++ [.int .u8 c]) w' ∧ Below B w w') := Any.Builder_WriteByte Tryz.lays167 Tryz.Builder_Extra_167 B b bs c w h hlen hBw
theorem plain_index (c : UInt8) (h : plainC c.toNat) : Lib.indexByte [40,41,91,93,46,42,43,63,124,92] c = -1 := by
 obtain ⟨d1,d2,d3,d4,d5,d6,d7,d8,d9,d10⟩ := h
 have e : ∀ n : UInt8,c.toNat ≠ n.toNat → (n == c) = false := fun n hn => by
  rw [beq_eq_false_iff_ne];intro h;exact hn (by rw [h])
 simp only [Lib.indexByte,e 40 d1,e 41 d2,e 91 d3,e 93 d4,e 46 d5,e 42 d6,e 43 d7,e 63 d8,e 124 d9,e 92 d10]
 simp
theorem Below.only {w w' : World} (h : Below w.heap.size w w') : Only [] w w' := ⟨h.os,h.tape,h.output,h.size,fun k hk _ => h.block k hk⟩
theorem cells_snoc (s : ByteArray) (k : Nat) (h : k < s.size) : Lib.byteCells (s.data.toList.take (k + 1)) = Lib.byteCells (s.data.toList.take k) ++ [byteV s[k]] := by
 rw [take_snocB s k h];simp [Lib.byteCells]
theorem quote_any (s : ByteArray) (w : World) (hs : s.size ≤ 1000) (hp : Plain s) :
  Calls Tryz.prog 114 #[.string s] w fun e w' => e = .returned (.string s) ∧ Only [] w w' := by
 obtain ⟨B,hB⟩ : ∃ B,B = w.heap.size := ⟨_,rfl⟩
 obtain ⟨w0,hw0⟩ : ∃ w0,w0 = w.alloc (.cells #[.pointer none,.slice none 0 0] 282) := ⟨_,rfl⟩
 have hb0 : Lib.IsBuilder 282 5 B B [] w0 := .inl ⟨Nat.le_refl _,.slice none 0 0,by rw [hw0,hB];exact heap_alloc_new w _,World.ownsRow_nil _ _ _ _,by simp [Value.ownBlock]⟩
 have hl0 : Below B w w0 := by rw [hw0,hB];exact (Below.refl _ _).alloc (Nat.le_refl _) _
 have HH := LH (AI hw0 (AI hB (AI hb0 (AI hl0 hp))))
 clear hw0 hB hb0 hl0 hp
 go_enter Tryz.func114,Tryz.ntmps114
 go_upto_region 2 with fail
 go_wp2_with fail
 rw [← HH.out.1,← HH.out.2.1]
 go_loopw [7] (fun s7 wr => ∃ k : Nat,k ≤ s.size ∧ s7 = .int .i64 k ∧ Lib.IsBuilder 282 5 B B (Lib.byteCells (s.data.toList.take k)) wr ∧ Below B w wr) (fun s7 _ => s.size - (intOf s7).toNat)
 case atStart => exact ⟨0,Nat.zero_le _,rfl,HH.out.2.2.1,HH.out.2.2.2.1⟩
 case round =>
  obtain ⟨k,hk,rfl,hb,hl⟩ := hrel
  have hBr : B ≤ wr.heap.size := by have := hl.size;have := HH.out.2.1;omega
  by_cases hlt : k < s.size
  ·have k1 : (k : Int) < (s.size : Int) := by omega
   have k2 : (0 : Int) ≤ (k : Int) := by omega
   have hI := fun wx => Tryz.strings_IndexByte ⟨#[40,41,91,93,46,42,43,63,124,92]⟩ ((s[k].toNat : Nat) : Int) wx
   have hpi := plain_index s[k] (HH.out.2.2.2.2 k hlt)
   have he : Lib.indexByte (⟨#[40,41,91,93,46,42,43,63,124,92]⟩ : ByteArray).data.toList (((s[k].toNat : Nat) : Int).toNat.toUInt8) = -1 := by
    have : (((s[k].toNat : Nat) : Int).toNat.toUInt8) = s[k] := by simp
    rw [this];exact hpi
   rw [he] at hI
   have hlen : (Lib.byteCells (s.data.toList.take k)).length + 1 ≤ 140737488355328 := by simp [Lib.byteCells];omega
   have hW := wbyte_any B B _ ((s[k].toNat : Nat) : Int) wr hb hlen hBr
   rw [← cells_snoc s k hlt] at hW
   have HL := LH hl
   clear he hpi hl hb hlen
   go_wp2_with (first
    | (go_at_call 131;refine (hI _).mono ?_;rintro e w1 ⟨rfl,rfl⟩)
    | (go_at_call 132;refine hW.mono ?_;rintro e w1 ⟨rfl,hb1,hl1⟩;have HW := LH (AI hb1 hl1);clear hb1 hl1))
   exact ⟨⟨k + 1,by omega,by go_num,.inr HW.out.1,HL.out.trans HW.out.2⟩,by simp [intOf];omega⟩
  ·obtain rfl : k = s.size := by omega
   have ht : s.data.toList.take s.size = s.data.toList := List.take_of_length_le (Nat.le_of_eq Array.length_toList)
   rw [ht] at hb
   have hS := Tryz.Builder_String_any B B s.data.toList wr hb hBr
   have HL := LH hl
   clear hl hb ht
   go_wp2_with (go_at_call 133;refine hS.mono ?_;rintro e w1 ⟨rfl,hl1⟩;have HW := LH hl1;clear hl1)
   go_ret
   have hq := HL.out.trans HW.out
   rw [HH.out.2.1] at hq
   exact ⟨rfl,Below.only hq⟩
theorem p10_at : Tryz.prog.globalNamed "internal/strconv.uint64pow10" = some 1 := by kernel_rfl
structure Glob (w : World) : Prop where
 tabs : Tabs w
 mx : ∃ m,w.cell? ⟨4,0,none⟩ = some (.int .i64 m)
 p10 : Lib.TabIs Tryz.prog w "internal/strconv.uint64pow10" .u64 Lib.pow10Tab
abbrev glb : List Nat := [1,3,4]
theorem Glob.of_only {w w' : World} {ks : List Nat} (h : Glob w) (ho : Only ks w w') (hk : Sep ks glb) : Glob w' := by
 refine ⟨h.tabs.of_only ho (fun h => hk 3 h (by simp)),?_,?_⟩
 ·obtain ⟨m,hm⟩ := h.mx
  exact ⟨m,ho.cell hm (fun h => hk 4 h (by simp))⟩
 ·have hp := h.p10
  unfold Lib.TabIs World.var? at hp ⊢
  rw [p10_at] at hp ⊢
  simp only [Option.bind_some] at hp ⊢
  have hlt : 1 < w.heap.size := by
   rcases Nat.lt_or_ge 1 w.heap.size with h' | h'
   ·exact h'
   ·rw [Array.getElem?_eq_none h'] at hp;simp at hp
  rw [ho.block 1 hlt (fun h => hk 1 h (by simp))]
  exact hp
theorem Glob.of_none {w w' : World} (h : Glob w) (ho : Only [] w w') : Glob w' := h.of_only ho (fun b hb => by simp at hb)
theorem only_grow (w : World) (n : Nat) (os : Array Obj) : Only [] w (Sort.grow (w.drewN n) os) :=
 (only_drewN [] w n).trans ⟨rfl,rfl,rfl,by simp [Sort.grow],fun k hk _ => by simp only [Sort.grow];rw [Array.getElem?_append_left hk]⟩
theorem int10_100 (w : World) : Calls Tryz.prog 270 #[strB [49,48,48],.int .i64 10,.int .i64 64] w fun e w' => e = .returned (.tuple #[.int .i64 100,.nilIface]) ∧ Only [] w w' := by
 have hp := parse10 [49,48,48] w (by simp) (by simp) (by intro c hc;simp at hc;rcases hc with rfl | rfl | rfl <;> decide) (by decide +kernel)
 have hv : valB 10 [49,48,48] = 100 := by decide +kernel
 rw [hv] at hp
 have q := fun w => neq_nn w
 have HP := LH hp
 clear hp hv
 go_enter Tryz.func270,Tryz.ntmps270
 go_wp2_with (go_at_call 153;refine (HP.out).mono ?_;rintro e w' ⟨rfl,ho⟩;have HO := LH ho;clear ho)
 go_ret2
 exact ⟨rfl,HO.out⟩
theorem int8_0 (w : World) : Calls Tryz.prog 270 #[strB [48],.int .i64 8,.int .i64 64] w fun e w' => e = .returned (.tuple #[.int .i64 0,.nilIface]) ∧ Only [] w w' := by
 have hp := parse8 [48] w (by simp) (by simp) (by intro c hc;simp at hc;rcases hc with rfl <;> decide) (by decide +kernel)
 have hv : valB 8 [48] = 0 := by decide +kernel
 rw [hv] at hp
 have q := fun w => neq_nn w
 have HP := LH hp
 clear hp hv
 go_enter Tryz.func270,Tryz.ntmps270
 go_wp2_with (go_at_call 153;refine (HP.out).mono ?_;rintro e w' ⟨rfl,ho⟩;have HO := LH ho;clear ho)
 go_ret2
 exact ⟨rfl,HO.out⟩
theorem pint_of (b : Int) (s : List UInt8) (n : Int) (w : World) (hp : Calls Tryz.prog 270 #[strB s,.int .i64 b,.int .i64 64] w fun e w' => e = .returned (.tuple #[.int .i64 n,.nilIface]) ∧ Only [] w w') :
  Calls Tryz.prog 266 #[strB s,.int .i64 b,.int .i64 64] w fun e w' => e = .returned (.tuple #[.int .i64 n,.nilIface]) ∧ Only [] w w' := by
 have q := fun w => neq_nn w
 have HP := LH hp
 clear hp
 go_enter Tryz.func266,Tryz.ntmps266
 go_wp2_with (go_at_call 270;refine (HP.out).mono ?_;rintro e w' ⟨rfl,ho⟩;have HO := LH ho;clear ho)
 go_ret2
 exact ⟨rfl,HO.out⟩
theorem fmt_of (b n : Int) (s : List UInt8) (w : World) (hp : Calls Tryz.prog 38 #[.int .i64 n,.int .i64 b] w fun e w' => e = .returned (strB s) ∧ Only [] w w') :
  Calls Tryz.prog 22 #[.int .i64 n,.int .i64 b] w fun e w' => e = .returned (strB s) ∧ Only [] w w' := by
 have HP := LH hp
 clear hp
 go_enter Tryz.func22,Tryz.ntmps22
 go_wp2_with (go_at_call 38;refine (HP.out).mono ?_;rintro e w' ⟨rfl,ho⟩;have HO := LH ho;clear ho)
 go_ret
 exact ⟨rfl,HO.out⟩
theorem fmt8_0 (w : World) (h : Tabs w) : Calls Tryz.prog 22 #[.int .i64 0,.int .i64 8] w fun e w' => e = .returned (strB [48]) ∧ Only [] w w' := by
 refine fmt_of 8 0 [48] w ?_
 have HT := LH h
 clear h
 go_enter Tryz.func38,Tryz.ntmps38
 go_wp2_with (go_at_call 62;refine (bits8_zero _ HT.out).mono ?_;rintro e w' ⟨rfl,ho⟩;have HO := LH ho;clear ho)
 go_ret
 exact ⟨rfl,HO.out⟩
theorem fmt10_100 (w : World) (h : Glob w) : Calls Tryz.prog 22 #[.int .i64 100,.int .i64 10] w fun e w' => e = .returned (strB [49,48,48]) ∧ Only [] w w' := by
 refine fmt_of 10 100 [49,48,48] w ?_
 refine (Tryz.internal_strconv_FormatInt_10 100 (by omega) (by omega) w h.p10).mono ?_
 rintro e w' ⟨rfl,k,os,rfl⟩
 have hi : Lib.itoa 100 = [49,48,48] := by decide +kernel
 rw [hi]
 exact ⟨rfl,only_grow w k os⟩
theorem itoa_100 (w : World) (h : Glob w) : Calls Tryz.prog 127 #[.int .i64 100] w fun e w' => e = .returned (strB [49,48,48]) ∧ Only [] w w' := by
 refine (Tryz.strconv_Itoa 100 (by omega) (by omega) w h.p10).mono ?_
 rintro e w' ⟨rfl,k,os,rfl⟩
 have hi : Lib.itoa 100 = [49,48,48] := by decide +kernel
 rw [hi]
 exact ⟨rfl,only_grow w k os⟩
theorem number_of (b n most : Nat) (s : List UInt8) (w : World) (hn : n ≤ most) (hp : Calls Tryz.prog 266 #[strB s,.int .i64 b,.int .i64 64] w fun e w' => e = .returned (.tuple #[.int .i64 n,.nilIface]) ∧ Only [] w w') (hf : ∀ wx,Only [] w wx → Calls Tryz.prog 22 #[.int .i64 n,.int .i64 b] wx fun e w' => e = .returned (strB s) ∧ Only [] wx w') :
  Calls Tryz.prog 259 #[strB s,.int .i64 b,.int .i64 most] w fun e w' => e = .returned (.tuple #[.int .i64 n,.bool true]) ∧ Only [] w w' := by
 have q := fun w => eql_nn w
 have d1 : decide ((n : Int) ≥ 0) = true := by simp
 have d2 : decide (n ≤ most) = true := by simp;omega
 have HP := LH (AI hp hf)
 clear hp hf
 go_enter Tryz.func259,Tryz.ntmps259
 go_wp2_with (first
  | (go_at_call 266;refine (HP.out.1).mono ?_;rintro e w' ⟨rfl,ho⟩;have HO := LH ho;clear ho)
  | (go_at_call 22;refine (HP.out.2 _ HO.out).mono ?_;rintro e w2 ⟨rfl,ho2⟩;have HO2 := LH ho2;clear ho2))
 go_ret2
 exact ⟨rfl,HO.out.trans HO2.out⟩
theorem number_size (w : World) (h : Glob w) : Calls Tryz.prog 259 #[strB [49,48,48],.int .i64 10,.int .i64 8192] w fun e w' => e = .returned (.tuple #[.int .i64 100,.bool true]) ∧ Only [] w w' :=
 number_of 10 100 8192 [49,48,48] w (by omega) (pint_of 10 _ 100 w (int10_100 w)) (fun wx ho => fmt10_100 wx (h.of_none ho))
theorem number_zero (most : Nat) (w : World) (h : Glob w) : Calls Tryz.prog 259 #[strB [48],.int .i64 8,.int .i64 most] w fun e w' => e = .returned (.tuple #[.int .i64 0,.bool true]) ∧ Only [] w w' :=
 number_of 8 0 most [48] w (by omega) (pint_of 8 _ 0 w (int8_0 w)) (fun wx ho => fmt8_0 wx (h.tabs.of_only ho (by simp)))
end Go.Proofs.YtplaamfoeaaaiaaGreatDoor
