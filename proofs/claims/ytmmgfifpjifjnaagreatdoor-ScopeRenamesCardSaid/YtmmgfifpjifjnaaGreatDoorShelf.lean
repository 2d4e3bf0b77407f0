/- Contracts of Go's library at this seat's numbers: written by the kit's lay-shelf and lay-plain; those that are used. -/
import Derived.Shelf.Strings.Builder1
import Derived.Shelf.Strings.Trim
import Derived.Shelf.Small.Utf8
import Derived.Shelf.Small.Strs
import Derived.Shelf.Strings.BuilderF
import Derived.Shelf.Strings.BuilderK
import Derived.Shelf.Utf8.RuneCount
import Derived.Shelf.Strconv.Itoa0
import Derived.Shelf.Strconv.Itoa1
import Derived.Shelf.LaysM
import Derived.Shelf.Strconv.Itoa2
import Derived.Shelf.Strconv.Itoa3
import Derived.Shelf.Strconv.ParseIntEmpty
import Derived.Shelf.Strconv.Clone
import Derived.Shelf.Strconv.SyntaxError
import Derived.Shelf.LaysC
import Derived.Shelf.Strconv.ToError
import Derived.Shelf.Strconv.Lower
import Derived.Shelf.Strconv.ParseUint10
import Derived.Shelf.Strconv.ParseUint10Empty
import Derived.Shelf.Strconv.ParseUint10Any
import Derived.Shelf.Strconv.ParseInt10
import Derived.Shelf.Strconv.RangeError
import Derived.Shelf.Strconv.ToErrorRange
import Derived.Shelf.Strconv.ParseUintEmpty
import Derived.Shelf.Strconv.ParseUint10b64
import Derived.Shelf.Strconv.ParseUint10b32
import Derived.Shelf.Strconv.ParseUint10b16
import Derived.Shelf.Strconv.ParseUint10b8
import Derived.Shelf.Strconv.ParseUint10At
import Derived.Shelf.Strconv.ParseInt10At64
import Derived.Shelf.Strconv.ParseInt10At32
import Derived.Shelf.Strconv.ParseInt10At16
import Derived.Shelf.Strconv.ParseInt10At8
import Derived.Shelf.Strconv.ParseInt10All
import Derived.Shelf.Strconv.ParseIntPublic10
import Derived.Shelf.Strconv.ErrVarParseInt
import Derived.Shelf.Strings.Search1
import Derived.Shelf.Strings.Search2
import Derived.Shelf.Strings.Search3
import Derived.Shelf.Strings.Count
import Derived.Shelf.Strings.Shaped
import Derived.Shelf.Strings.Prefix
import Derived.Shelf.Strings.Split
import Derived.Shelf.Unicode.Decode
import Derived.Shelf.Strings.Runes
import Derived.Shelf.Strings.RuneCount
import Derived.Shelf.Strings.AsciiSet
import Derived.Shelf.Unicode.DecodeSlow
import Derived.Shelf.Unicode.DecodeAny
import Derived.Shelf.Unicode.DecodeLast
import Derived.Test.YtmmgfifpjifjnaaGreatDoorProg
import Derived.Shelf.Strings.SlTrimAscii
namespace Go.Proofs
open Go.Shelf
open Go.RowKit in
open Go.RowKit in
def Tryz.lays160_ren : Go.Shelf.Ren := ⟨fun | 160 => 159 | 232 => 168 | 231 => 167 | 227 => 169 | 234 => 171 | 233 => 170 | 236 => 173 | 235 => 172 | 228 => 182 | 271 => 185 | 151 => 184 | 197 => 183 | 120 => 194 | 152 => 193 | 260 => 192 | 137 => 140 | 119 => 203 | 224 => 156 | 225 => 155 | 217 => 150 | 266 => 162 | n => n, fun | 9 => 9 | 4 => 4 | 3 => 3 | 5 => 5 | 117 => 206 | 116 => 205 | 0 => 0 | 124 => 209 | 21 => 21 | 105 => 215 | 46 => 166 | 119 => 230 | 139 => 233 | 138 => 232 | n => n, fun | 3 => 3 | 4 => 4 | n => n⟩
theorem Tryz.lays160 : Go.Proofs.Lays.n160 Tryz.prog Tryz.lays160_ren := {
 mixed := by kernel_rfl
 f119 := Tryz.func203.trans (congrArg some (by kernel_rfl))
 f120 := Tryz.func194.trans (congrArg some (by kernel_rfl))
 f137 := Tryz.func140.trans (congrArg some (by kernel_rfl))
 f151 := Tryz.func184.trans (congrArg some (by kernel_rfl))
 f152 := Tryz.func193.trans (congrArg some (by kernel_rfl))
 f160 := Tryz.func159.trans (congrArg some (by kernel_rfl))
 f197 := Tryz.func183.trans (congrArg some (by kernel_rfl))
 f217 := Tryz.func150.trans (congrArg some (by kernel_rfl))
 f224 := Tryz.func156.trans (congrArg some (by kernel_rfl))
 f225 := Tryz.func155.trans (congrArg some (by kernel_rfl))
 f227 := Tryz.func169.trans (congrArg some (by kernel_rfl))
 f228 := Tryz.func182.trans (congrArg some (by kernel_rfl))
 f231 := Tryz.func167.trans (congrArg some (by kernel_rfl))
 f232 := Tryz.func168.trans (congrArg some (by kernel_rfl))
 f233 := Tryz.func170.trans (congrArg some (by kernel_rfl))
 f234 := Tryz.func171.trans (congrArg some (by kernel_rfl))
 f235 := Tryz.func172.trans (congrArg some (by kernel_rfl))
 f236 := Tryz.func173.trans (congrArg some (by kernel_rfl))
 f260 := Tryz.func192.trans (congrArg some (by kernel_rfl))
 f266 := Tryz.func162.trans (congrArg some (by kernel_rfl))
 f271 := Tryz.func185.trans (congrArg some (by kernel_rfl))
 t0 := Tryz.underlying0
 a0 := Tryz.isAgg0
 z0 := Tryz.sizeOf0
 v0 := Tryz.zeroValue0
 t3 := Tryz.underlying3
 a3 := Tryz.isAgg3
 z3 := Tryz.sizeOf3
 v3 := Tryz.zeroValue3
 t4 := Tryz.underlying4
 a4 := Tryz.isAgg4
 z4 := Tryz.sizeOf4
 v4 := Tryz.zeroValue4
 t5 := Tryz.underlying5
 a5 := Tryz.isAgg5
 z5 := Tryz.sizeOf5
 v5 := Tryz.zeroValue5
 t9 := Tryz.underlying9
 a9 := Tryz.isAgg9
 z9 := Tryz.sizeOf9
 v9 := Tryz.zeroValue9
 t21 := Tryz.underlying21
 a21 := Tryz.isAgg21
 z21 := Tryz.sizeOf21
 v21 := Tryz.zeroValue21
 t46 := Tryz.underlying166
 a46 := Tryz.isAgg166
 z46 := Tryz.sizeOf166
 v46 := Tryz.zeroValue166
 t105 := Tryz.underlying215
 a105 := Tryz.isAgg215
 z105 := Tryz.sizeOf215
 v105 := Tryz.zeroValue215
 t116 := Tryz.underlying205
 a116 := Tryz.isAgg205
 z116 := Tryz.sizeOf205
 t117 := Tryz.underlying206
 a117 := Tryz.isAgg206
 z117 := Tryz.sizeOf206
 v117 := Tryz.zeroValue206
 t119 := Tryz.underlying230
 a119 := Tryz.isAgg230
 z119 := Tryz.sizeOf230
 t124 := Tryz.underlying209
 a124 := Tryz.isAgg209
 z124 := Tryz.sizeOf209
 v124 := Tryz.zeroValue209
 t138 := Tryz.underlying232
 a138 := Tryz.isAgg232
 z138 := Tryz.sizeOf232
 v138 := Tryz.zeroValue232
 t139 := Tryz.underlying233
 a139 := Tryz.isAgg233
 z139 := Tryz.sizeOf233
 v139 := Tryz.zeroValue233
 g3 := by kernel_rfl
 g4 := by kernel_rfl }
def Tryz.lays137_ren : Go.Shelf.Ren := ⟨fun | 137 => 140 | 217 => 150 | 266 => 162 | n => n, fun | 9 => 9 | 5 => 5 | 3 => 3 | n => n, fun | n => n⟩
theorem Tryz.lays137 : Go.Proofs.Lays.n137 Tryz.prog Tryz.lays137_ren := {
 mixed := by kernel_rfl
 f137 := Tryz.func140.trans (congrArg some (by kernel_rfl))
 f217 := Tryz.func150.trans (congrArg some (by kernel_rfl))
 f266 := Tryz.func162.trans (congrArg some (by kernel_rfl))
 t3 := Tryz.underlying3
 a3 := Tryz.isAgg3
 z3 := Tryz.sizeOf3
 v3 := Tryz.zeroValue3
 t5 := Tryz.underlying5
 a5 := Tryz.isAgg5
 z5 := Tryz.sizeOf5
 v5 := Tryz.zeroValue5
 t9 := Tryz.underlying9
 a9 := Tryz.isAgg9
 z9 := Tryz.sizeOf9
 v9 := Tryz.zeroValue9 }
open Go.RowKit in
theorem Tryz.strings_IndexByte (s : ByteArray) (c : Int) (w : World) :
  Calls Tryz.prog 140 #[.string s, .int .u8 c] w fun e w' => e = .returned (.int .i64 (Lib.indexByte s.data.toList c.toNat.toUInt8)) ∧ w' = w := Any.strings_IndexByte Tryz.lays137 s c w
def Tryz.laysC174_ren : Go.Shelf.Ren := ⟨fun | 174 => 160 | 247 => 174 | 245 => 175 | 287 => 186 | 279 => 187 | 280 => 188 | 281 => 189 | 282 => 190 | 321 => 195 | 322 => 196 | 316 => 197 | 171 => 199 | 205 => 198 | 243 => 204 | 246 => 208 | 283 => 210 | 284 => 211 | 285 => 212 | 286 => 213 | 129 => 216 | 317 => 215 | 318 => 217 | 319 => 218 | 320 => 219 | 337 => 220 | 338 => 221 | n => n, fun | 9 => 9 | 3 => 3 | 2 => 2 | 75 => 191 | 85 => 196 | 4 => 4 | 167 => 218 | 5 => 5 | 53 => 137 | 175 => 219 | 46 => 166 | 168 => 221 | 37 => 187 | 0 => 0 | 210 => 228 | 21 => 21 | 127 => 198 | 145 => 237 | 143 => 235 | 171 => 239 | 173 => 242 | 212 => 247 | 51 => 200 | 20 => 20 | 213 => 248 | 232 => 251 | 233 => 252 | 80 => 133 | n => n, fun | 15 => 1 | 16 => 2 | 17 => 5 | 18 => 6 | 19 => 7 | n => n⟩
theorem Tryz.laysC174 : Go.Proofs.LaysC.n174 Tryz.prog Tryz.laysC174_ren := {
 mixed := by kernel_rfl
 f129 := Tryz.func216.trans (congrArg some (by kernel_rfl))
 f171 := Tryz.func199.trans (congrArg some (by kernel_rfl))
 f174 := Tryz.func160.trans (congrArg some (by kernel_rfl))
 f205 := Tryz.func198.trans (congrArg some (by kernel_rfl))
 f243 := Tryz.func204.trans (congrArg some (by kernel_rfl))
 f245 := Tryz.func175.trans (congrArg some (by kernel_rfl))
 f246 := Tryz.func208.trans (congrArg some (by kernel_rfl))
 f247 := Tryz.func174.trans (congrArg some (by kernel_rfl))
 f279 := Tryz.func187.trans (congrArg some (by kernel_rfl))
 f280 := Tryz.func188.trans (congrArg some (by kernel_rfl))
 f281 := Tryz.func189.trans (congrArg some (by kernel_rfl))
 f282 := Tryz.func190.trans (congrArg some (by kernel_rfl))
 f283 := Tryz.func210.trans (congrArg some (by kernel_rfl))
 f284 := Tryz.func211.trans (congrArg some (by kernel_rfl))
 f285 := Tryz.func212.trans (congrArg some (by kernel_rfl))
 f286 := Tryz.func213.trans (congrArg some (by kernel_rfl))
 f287 := Tryz.func186.trans (congrArg some (by kernel_rfl))
 f316 := Tryz.func197.trans (congrArg some (by kernel_rfl))
 f317 := Tryz.func215.trans (congrArg some (by kernel_rfl))
 f318 := Tryz.func217.trans (congrArg some (by kernel_rfl))
 f319 := Tryz.func218.trans (congrArg some (by kernel_rfl))
 f320 := Tryz.func219.trans (congrArg some (by kernel_rfl))
 f321 := Tryz.func195.trans (congrArg some (by kernel_rfl))
 f322 := Tryz.func196.trans (congrArg some (by kernel_rfl))
 f337 := Tryz.func220.trans (congrArg some (by kernel_rfl))
 f338 := Tryz.func221.trans (congrArg some (by kernel_rfl))
 t0 := Tryz.underlying0
 a0 := Tryz.isAgg0
 z0 := Tryz.sizeOf0
 v0 := Tryz.zeroValue0
 t2 := Tryz.underlying2
 a2 := Tryz.isAgg2
 z2 := Tryz.sizeOf2
 v2 := Tryz.zeroValue2
 t3 := Tryz.underlying3
 a3 := Tryz.isAgg3
 z3 := Tryz.sizeOf3
 v3 := Tryz.zeroValue3
 t4 := Tryz.underlying4
 a4 := Tryz.isAgg4
 z4 := Tryz.sizeOf4
 v4 := Tryz.zeroValue4
 t5 := Tryz.underlying5
 a5 := Tryz.isAgg5
 z5 := Tryz.sizeOf5
 v5 := Tryz.zeroValue5
 t9 := Tryz.underlying9
 a9 := Tryz.isAgg9
 z9 := Tryz.sizeOf9
 v9 := Tryz.zeroValue9
 t20 := Tryz.underlying20
 a20 := Tryz.isAgg20
 z20 := Tryz.sizeOf20
 v20 := Tryz.zeroValue20
 t21 := Tryz.underlying21
 a21 := Tryz.isAgg21
 z21 := Tryz.sizeOf21
 v21 := Tryz.zeroValue21
 t37 := Tryz.underlying187
 a37 := Tryz.isAgg187
 z37 := Tryz.sizeOf187
 v37 := Tryz.zeroValue187
 t46 := Tryz.underlying166
 a46 := Tryz.isAgg166
 z46 := Tryz.sizeOf166
 v46 := Tryz.zeroValue166
 t51 := Tryz.underlying200
 a51 := Tryz.isAgg200
 z51 := Tryz.sizeOf200
 v51 := Tryz.zeroValue200
 t53 := Tryz.underlying137
 a53 := Tryz.isAgg137
 z53 := Tryz.sizeOf137
 v53 := Tryz.zeroValue137
 t75 := Tryz.underlying191
 a75 := Tryz.isAgg191
 z75 := Tryz.sizeOf191
 v75 := Tryz.zeroValue191
 t85 := Tryz.underlying196
 a85 := Tryz.isAgg196
 z85 := Tryz.sizeOf196
 v85 := Tryz.zeroValue196
 t127 := Tryz.underlying198
 a127 := Tryz.isAgg198
 z127 := Tryz.sizeOf198
 v127 := Tryz.zeroValue198
 t143 := Tryz.underlying235
 a143 := Tryz.isAgg235
 z143 := Tryz.sizeOf235
 v143 := Tryz.zeroValue235
 t145 := Tryz.underlying237
 a145 := Tryz.isAgg237
 z145 := Tryz.sizeOf237
 v145 := Tryz.zeroValue237
 t167 := Tryz.underlying218
 a167 := Tryz.isAgg218
 z167 := Tryz.sizeOf218
 v167 := Tryz.zeroValue218
 t168 := Tryz.underlying221
 a168 := Tryz.isAgg221
 z168 := Tryz.sizeOf221
 v168 := Tryz.zeroValue221
 t171 := Tryz.underlying239
 a171 := Tryz.isAgg239
 z171 := Tryz.sizeOf239
 v171 := Tryz.zeroValue239
 t173 := Tryz.underlying242
 a173 := Tryz.isAgg242
 z173 := Tryz.sizeOf242
 v173 := Tryz.zeroValue242
 t175 := Tryz.underlying219
 a175 := Tryz.isAgg219
 z175 := Tryz.sizeOf219
 v175 := Tryz.zeroValue219
 t210 := Tryz.underlying228
 a210 := Tryz.isAgg228
 z210 := Tryz.sizeOf228
 v210 := Tryz.zeroValue228
 t212 := Tryz.underlying247
 a212 := Tryz.isAgg247
 z212 := Tryz.sizeOf247
 v212 := Tryz.zeroValue247
 t213 := Tryz.underlying248
 a213 := Tryz.isAgg248
 z213 := Tryz.sizeOf248
 t232 := Tryz.underlying251
 a232 := Tryz.isAgg251
 z232 := Tryz.sizeOf251
 v232 := Tryz.zeroValue251
 t233 := Tryz.underlying252
 a233 := Tryz.isAgg252
 z233 := Tryz.sizeOf252
 v233 := Tryz.zeroValue252
 g15 := by kernel_rfl
 g16 := by kernel_rfl
 g17 := by kernel_rfl
 g18 := by kernel_rfl
 g19 := by kernel_rfl
 t80 := Tryz.underlying133
 a80 := Tryz.isAgg133
 z80 := Tryz.sizeOf133
 v80 := Tryz.zeroValue133
 i0 := by kernel_rfl
 i2 := by kernel_rfl
 i3 := by kernel_rfl
 i4 := by kernel_rfl
 i5 := by kernel_rfl
 i9 := by kernel_rfl
 i20 := by kernel_rfl
 i21 := by kernel_rfl
 i37 := by kernel_rfl
 i46 := by kernel_rfl
 i51 := by kernel_rfl
 i53 := by kernel_rfl
 i75 := by kernel_rfl
 i80 := by kernel_rfl
 i85 := by kernel_rfl
 i127 := by kernel_rfl
 i143 := by kernel_rfl
 i145 := by kernel_rfl
 i167 := by kernel_rfl
 i168 := by kernel_rfl
 i171 := by kernel_rfl
 i173 := by kernel_rfl
 i175 := by kernel_rfl
 i210 := by kernel_rfl
 i212 := by kernel_rfl
 i232 := by kernel_rfl
 i233 := by kernel_rfl
 m15 := by kernel_rfl
 m16 := by kernel_rfl
 m17 := by kernel_rfl
 m18 := by kernel_rfl
 m19 := by kernel_rfl
 c0 := by kernel_rfl
 c2 := by kernel_rfl
 c3 := by kernel_rfl
 c4 := by kernel_rfl
 c5 := by kernel_rfl
 c9 := by kernel_rfl
 c20 := by kernel_rfl
 c21 := by kernel_rfl
 c37 := by kernel_rfl
 c46 := by kernel_rfl
 c51 := by kernel_rfl
 c53 := by kernel_rfl
 c75 := by kernel_rfl
 c80 := by kernel_rfl
 c85 := by kernel_rfl
 c127 := by kernel_rfl
 c143 := by kernel_rfl
 c145 := by kernel_rfl
 c167 := by kernel_rfl
 c168 := by kernel_rfl
 c171 := by kernel_rfl
 c173 := by kernel_rfl
 c175 := by kernel_rfl
 c210 := by kernel_rfl
 c212 := by kernel_rfl
 c213 := by kernel_rfl
 c232 := by kernel_rfl
 c233 := by kernel_rfl }
open Go.RowKit in
theorem Tryz.strconv_ParseInt_10_at64_ok (s : ByteArray) (hmax : s.size ≤ 9223372036854775806) (v : Int) (h : Lib.parseIntB 64 s.data.toList = .ok v) (w : World) :
  Calls Tryz.prog 160 #[.string s, .int .i64 10, .int .i64 64] w fun e w' => e = .returned (.tuple #[.int .i64 v, .nilIface]) ∧ (w' = w ∨ ∃ t, w' = Lib.bytesWorld w 5 t) := Any.strconv_ParseInt_10_at64_ok Tryz.laysC174 s hmax v h w
open Go.RowKit in
theorem Tryz.strconv_ParseInt_10_at64_range_var (s : ByteArray) (hlim : s.size ≤ 281474976710656) (h : Lib.parseIntB 64 s.data.toList = .range) (tp : TypeId) (p : Value) (w : World) (hvar : w.var? Tryz.prog "strconv.ErrRange" = some #[.iface tp p]) :
  Calls Tryz.prog 160 #[.string s, .int .i64 10, .int .i64 64] w fun e w' => ∃ N, e = .returned (.tuple #[.int .i64 (Lib.intSat 64 s.data.toList), .iface 221 (.pointer (some ⟨N, 0, none⟩))]) ∧ w.heap.size ≤ N ∧ w'.heap[N]? = some (.cells #[.string ⟨#[80, 97, 114, 115, 101, 73, 110, 116]⟩, .string s, .iface tp p] 228 (0, 0)) ∧ Below w.heap.size w w' := Any.strconv_ParseInt_10_at64_range_var Tryz.laysC174 s hlim h tp p w hvar
def Tryz.lays138_ren : Go.Shelf.Ren := ⟨fun | 138 => 66 | 195 => 107 | 218 => 108 | 143 => 109 | 219 => 142 | 217 => 150 | 225 => 155 | 224 => 156 | 267 => 157 | 266 => 162 | 314 => 165 | n => n, fun | 9 => 9 | 3 => 3 | 4 => 4 | 5 => 5 | 0 => 0 | 46 => 166 | 146 => 201 | 51 => 200 | n => n, fun | 1 => 0 | n => n⟩
theorem Tryz.lays138 : Go.Proofs.Lays.n138 Tryz.prog Tryz.lays138_ren := {
 mixed := by kernel_rfl
 f138 := Tryz.func66.trans (congrArg some (by kernel_rfl))
 f143 := Tryz.func109.trans (congrArg some (by kernel_rfl))
 f195 := Tryz.func107.trans (congrArg some (by kernel_rfl))
 f217 := Tryz.func150.trans (congrArg some (by kernel_rfl))
 f218 := Tryz.func108.trans (congrArg some (by kernel_rfl))
 f219 := Tryz.func142.trans (congrArg some (by kernel_rfl))
 f224 := Tryz.func156.trans (congrArg some (by kernel_rfl))
 f225 := Tryz.func155.trans (congrArg some (by kernel_rfl))
 f266 := Tryz.func162.trans (congrArg some (by kernel_rfl))
 f267 := Tryz.func157.trans (congrArg some (by kernel_rfl))
 f314 := Tryz.func165.trans (congrArg some (by kernel_rfl))
 t0 := Tryz.underlying0
 a0 := Tryz.isAgg0
 z0 := Tryz.sizeOf0
 v0 := Tryz.zeroValue0
 t3 := Tryz.underlying3
 a3 := Tryz.isAgg3
 z3 := Tryz.sizeOf3
 v3 := Tryz.zeroValue3
 t4 := Tryz.underlying4
 a4 := Tryz.isAgg4
 z4 := Tryz.sizeOf4
 v4 := Tryz.zeroValue4
 t5 := Tryz.underlying5
 a5 := Tryz.isAgg5
 z5 := Tryz.sizeOf5
 v5 := Tryz.zeroValue5
 t9 := Tryz.underlying9
 a9 := Tryz.isAgg9
 z9 := Tryz.sizeOf9
 v9 := Tryz.zeroValue9
 t46 := Tryz.underlying166
 a46 := Tryz.isAgg166
 z46 := Tryz.sizeOf166
 v46 := Tryz.zeroValue166
 t51 := Tryz.underlying200
 a51 := Tryz.isAgg200
 z51 := Tryz.sizeOf200
 v51 := Tryz.zeroValue200
 t146 := Tryz.underlying201
 a146 := Tryz.isAgg201
 z146 := Tryz.sizeOf201
 v146 := Tryz.zeroValue201
 g1 := by kernel_rfl }
open Go.RowKit Go.Lib in
theorem Tryz.strings_Count_one (s : ByteArray) (c : UInt8) (w : World) :
  Calls Tryz.prog 66 #[.string s, .string ⟨#[c]⟩] w fun e w' => e = .returned (.int .i64 (Lib.countByte s.data.toList c)) ∧ w' = w := Any.strings_Count_one Tryz.lays138 s c w
open Go.RowKit Go.Lib in
def Tryz.lays101_ren : Go.Shelf.Ren := ⟨fun | 101 => 158 | 208 => 166 | 206 => 181 | n => n, fun | 9 => 9 | 4 => 4 | 3 => 3 | n => n, fun | n => n⟩
theorem Tryz.lays101 : Go.Proofs.Lays.n101 Tryz.prog Tryz.lays101_ren := {
 mixed := by kernel_rfl
 f101 := Tryz.func158.trans (congrArg some (by kernel_rfl))
 f206 := Tryz.func181.trans (congrArg some (by kernel_rfl))
 f208 := Tryz.func166.trans (congrArg some (by kernel_rfl))
 t3 := Tryz.underlying3
 a3 := Tryz.isAgg3
 z3 := Tryz.sizeOf3
 v3 := Tryz.zeroValue3
 t4 := Tryz.underlying4
 a4 := Tryz.isAgg4
 z4 := Tryz.sizeOf4
 v4 := Tryz.zeroValue4
 t9 := Tryz.underlying9
 a9 := Tryz.isAgg9
 z9 := Tryz.sizeOf9
 v9 := Tryz.zeroValue9 }
open Go.RowKit Go.Lib in
theorem Tryz.strings_TrimPrefix (s p : ByteArray) (w : World) :
  Calls Tryz.prog 158 #[.string s, .string p] w fun e w' => e = .returned (.string ⟨(Lib.trimPrefix s.data.toList p.data.toList).toArray⟩) ∧ w' = w := Any.strings_TrimPrefix Tryz.lays101 s p w
end Go.Proofs
