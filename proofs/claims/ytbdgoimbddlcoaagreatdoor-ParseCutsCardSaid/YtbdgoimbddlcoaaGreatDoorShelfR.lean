/- Contracts of Go's library at this seat's numbers: written by the kit's lay-shelf and lay-plain; those that are used. -/
import Derived.Shelf.Strings.Builder1
import Derived.Shelf.Strings.Builder2
import Derived.Shelf.Strings.OnBuilder
import Derived.Shelf.Strings.Trim
import Derived.Shelf.Small.Utf8
import Derived.Shelf.Small.Strs
import Derived.Shelf.Strings.BuilderF
import Derived.Shelf.Strings.BuilderK
import Derived.Shelf.Utf8.RuneCount
import Derived.Shelf.Strconv.Itoa0
import Derived.Shelf.Strconv.Itoa1
import Derived.Shelf.LaysM
import Derived.Shelf.Strconv.Itoa2
import Derived.Shelf.Strconv.Itoa3
import Derived.Shelf.Strconv.Itoa4
import Derived.Shelf.Strconv.ParseIntEmpty
import Derived.Shelf.Strconv.Clone
import Derived.Shelf.Strconv.SyntaxError
import Derived.Shelf.LaysC
import Derived.Shelf.Strconv.ToError
import Derived.Shelf.Strconv.Lower
import Derived.Shelf.Strconv.ParseUint10
import Derived.Shelf.Strconv.ParseUint10Empty
import Derived.Shelf.Strconv.ParseUint10Any
import Derived.Shelf.Strconv.ParseInt10
import Derived.Shelf.Strconv.RangeError
import Derived.Shelf.Strconv.ToErrorRange
import Derived.Shelf.Strconv.ParseUintEmpty
import Derived.Shelf.Strconv.ParseUint10b64
import Derived.Shelf.Strconv.ParseUint10b32
import Derived.Shelf.Strconv.ParseUint10b16
import Derived.Shelf.Strconv.ParseUint10b8
import Derived.Shelf.Strconv.ParseUint10At
import Derived.Shelf.Strconv.ParseInt10At64
import Derived.Shelf.Strconv.ParseInt10At32
import Derived.Shelf.Strconv.ParseInt10At16
import Derived.Shelf.Strconv.ParseInt10At8
import Derived.Shelf.Strconv.ParseInt10All
import Derived.Shelf.Strconv.ParseIntPublic10
import Derived.Shelf.Strconv.ErrVarParseInt
import Derived.Shelf.Strings.Search1
import Derived.Shelf.Strings.Search2
import Derived.Shelf.Strings.Search3
import Derived.Shelf.Strings.Count
import Derived.Shelf.Strings.Shaped
import Derived.Shelf.Strings.Prefix
import Derived.Shelf.Strings.Split
import Derived.Shelf.Strings.Replace
import Derived.Shelf.Strings.SplitShaped
import Derived.Shelf.Unicode.Decode
import Derived.Shelf.Strings.Runes
import Derived.Shelf.Strings.RuneCount
import Derived.Shelf.Strings.AsciiSet
import Derived.Shelf.Strings.Explode
import Derived.Shelf.Unicode.DecodeSlow
import Derived.Shelf.Unicode.DecodeAny
import Derived.Shelf.Unicode.DecodeLast
import Derived.Test.YtbdgoimbddlcoaaGreatDoorProg
import Derived.Test.YtbdgoimbddlcoaaGreatDoorShelf
namespace Go.Proofs
open Go.Shelf
def Tryz.lays156_ren : Go.Shelf.Ren := ⟨fun | 156 => 43 | 165 => 83 | 166 => 81 | 169 => 45 | 240 => 135 | 241 => 137 | 276 => 160 | 277 => 165 | n => n, fun | 31 => 25 | 9 => 9 | 3 => 3 | 4 => 4 | 0 => 0 | 20 => 20 | 72 => 85 | 76 => 137 | 70 => 82 | 37 => 83 | 75 => 136 | 127 => 141 | 164 => 183 | 5 => 5 | 80 => 93 | n => n, fun | n => n⟩
theorem Tryz.lays156 : Go.Proofs.Lays.n156 Tryz.prog Tryz.lays156_ren := {
 mixed := by kernel_rfl
 f156 := Tryz.func43.trans (congrArg some (by kernel_rfl))
 f165 := Tryz.func83.trans (congrArg some (by kernel_rfl))
 f166 := Tryz.func81.trans (congrArg some (by kernel_rfl))
 f169 := Tryz.func45.trans (congrArg some (by kernel_rfl))
 f240 := Tryz.func135.trans (congrArg some (by kernel_rfl))
 f241 := Tryz.func137.trans (congrArg some (by kernel_rfl))
 f276 := Tryz.func160.trans (congrArg some (by kernel_rfl))
 f277 := Tryz.func165.trans (congrArg some (by kernel_rfl))
 t0 := Tryz.underlying0
 a0 := Tryz.isAgg0
 z0 := Tryz.sizeOf0
 v0 := Tryz.zeroValue0
 t3 := Tryz.underlying3
 a3 := Tryz.isAgg3
 z3 := Tryz.sizeOf3
 v3 := Tryz.zeroValue3
 t4 := Tryz.underlying4
 a4 := Tryz.isAgg4
 z4 := Tryz.sizeOf4
 v4 := Tryz.zeroValue4
 t9 := Tryz.underlying9
 a9 := Tryz.isAgg9
 z9 := Tryz.sizeOf9
 v9 := Tryz.zeroValue9
 t20 := Tryz.underlying20
 a20 := Tryz.isAgg20
 z20 := Tryz.sizeOf20
 v20 := Tryz.zeroValue20
 t31 := Tryz.underlying25
 a31 := Tryz.isAgg25
 z31 := Tryz.sizeOf25
 v31 := Tryz.zeroValue25
 t37 := Tryz.underlying83
 a37 := Tryz.isAgg83
 z37 := Tryz.sizeOf83
 v37 := Tryz.zeroValue83
 t70 := Tryz.underlying82
 a70 := Tryz.isAgg82
 z70 := Tryz.sizeOf82
 v70 := Tryz.zeroValue82
 t72 := Tryz.underlying85
 a72 := Tryz.isAgg85
 z72 := Tryz.sizeOf85
 v72 := Tryz.zeroValue85
 t75 := Tryz.underlying136
 a75 := Tryz.isAgg136
 z75 := Tryz.sizeOf136
 v75 := Tryz.zeroValue136
 t76 := Tryz.underlying137
 a76 := Tryz.isAgg137
 z76 := Tryz.sizeOf137
 v76 := Tryz.zeroValue137
 t127 := Tryz.underlying141
 a127 := Tryz.isAgg141
 z127 := Tryz.sizeOf141
 v127 := Tryz.zeroValue141
 t164 := Tryz.underlying183
 a164 := Tryz.isAgg183
 z164 := Tryz.sizeOf183
 v164 := Tryz.zeroValue183 }
theorem Tryz.Builder_Extra_156 : Builder.Extra Tryz.prog Tryz.lays156_ren := {
 sizeBuilder := by kernel_rfl
 liesBuilder := by kernel_rfl
 t5 := Tryz.underlying5
 a5 := Tryz.isAgg5
 z5 := Tryz.sizeOf5
 v5 := Tryz.zeroValue5
 infoByte := by kernel_rfl
 cellsByte := by kernel_rfl
 sizeByte := by kernel_rfl
 neB5 := by decide }
open Go.RowKit in
/-- No element: the empty string; the world is as it was. (Whatever the slice's address and capacity: a nil slice too.) (LAID: no walk: one application.) -/
theorem Tryz.strings_Join_none (a : Option Addr) (c : Nat) (sep : ByteArray) (w : World) :
  Calls Tryz.prog 43 #[.slice a 0 c, .string sep] w fun e w' => e = .returned (.string ⟨#[]⟩) ∧ w' = w := Any.strings_Join_none Tryz.lays156 Tryz.Builder_Extra_156 a c sep w
open Go.RowKit in
/-- strings.Join: "Join concatenates the elements of its first argument to create a single string. The separator string sep is placed between elements in the resulting string.": HOWEVER MANY ELEMENTS. Below the heap's end the world is as it was. (LAID: no walk: one application.) -/
theorem Tryz.strings_Join (bk o c : Nat) (xs : List ByteArray) (sep : ByteArray) (w : World) (hcells : ∀ (j : Nat) x, xs[j]? = some x → w.cell? ⟨bk, o + j, none⟩ = some (.string x)) (hbk : bk < w.heap.size) (hN : xs.length ≤ 140737488355328) (hcap : xs.length ≤ c) (hlen : (Lib.join (xs.map (·.data.toList)) sep.data.toList).length ≤ 140737488355328) :
  Calls Tryz.prog 43 #[.slice (some ⟨bk, o, none⟩) xs.length c, .string sep] w fun e w' => e = .returned (.string ⟨(Lib.join (xs.map (·.data.toList)) sep.data.toList).toArray⟩) ∧ Below w.heap.size w w' := Any.strings_Join Tryz.lays156 Tryz.Builder_Extra_156 bk o c xs sep w hcells hbk hN hcap hlen
def Tryz.lays155_ren : Go.Shelf.Ren := ⟨fun | 155 => 222 | 154 => 234 | 138 => 65 | 165 => 83 | 143 => 118 | 166 => 81 | 197 => 221 | 169 => 45 | 195 => 116 | 218 => 117 | 240 => 135 | 241 => 137 | 219 => 156 | 260 => 233 | 276 => 160 | 277 => 165 | 217 => 174 | 225 => 180 | 224 => 181 | 267 => 182 | 266 => 195 | 314 => 201 | n => n, fun | 9 => 9 | 3 => 3 | 4 => 4 | 72 => 85 | 0 => 0 | 76 => 137 | 105 => 223 | 21 => 21 | 5 => 5 | 70 => 82 | 20 => 20 | 37 => 83 | 75 => 136 | 127 => 141 | 164 => 183 | 46 => 168 | 119 => 241 | 139 => 244 | 138 => 243 | 146 => 208 | 51 => 201 | 80 => 93 | n => n, fun | 1 => 0 | 3 => 6 | 4 => 7 | n => n⟩
theorem Tryz.lays155 : Go.Proofs.Lays.n155 Tryz.prog Tryz.lays155_ren := {
 mixed := by kernel_rfl
 f138 := Tryz.func65.trans (congrArg some (by kernel_rfl))
 f143 := Tryz.func118.trans (congrArg some (by kernel_rfl))
 f154 := Tryz.func234.trans (congrArg some (by kernel_rfl))
 f155 := Tryz.func222.trans (congrArg some (by kernel_rfl))
 f165 := Tryz.func83.trans (congrArg some (by kernel_rfl))
 f166 := Tryz.func81.trans (congrArg some (by kernel_rfl))
 f169 := Tryz.func45.trans (congrArg some (by kernel_rfl))
 f195 := Tryz.func116.trans (congrArg some (by kernel_rfl))
 f197 := Tryz.func221.trans (congrArg some (by kernel_rfl))
 f217 := Tryz.func174.trans (congrArg some (by kernel_rfl))
 f218 := Tryz.func117.trans (congrArg some (by kernel_rfl))
 f219 := Tryz.func156.trans (congrArg some (by kernel_rfl))
 f224 := Tryz.func181.trans (congrArg some (by kernel_rfl))
 f225 := Tryz.func180.trans (congrArg some (by kernel_rfl))
 f240 := Tryz.func135.trans (congrArg some (by kernel_rfl))
 f241 := Tryz.func137.trans (congrArg some (by kernel_rfl))
 f260 := Tryz.func233.trans (congrArg some (by kernel_rfl))
 f266 := Tryz.func195.trans (congrArg some (by kernel_rfl))
 f267 := Tryz.func182.trans (congrArg some (by kernel_rfl))
 f276 := Tryz.func160.trans (congrArg some (by kernel_rfl))
 f277 := Tryz.func165.trans (congrArg some (by kernel_rfl))
 f314 := Tryz.func201.trans (congrArg some (by kernel_rfl))
 t0 := Tryz.underlying0
 a0 := Tryz.isAgg0
 z0 := Tryz.sizeOf0
 v0 := Tryz.zeroValue0
 t3 := Tryz.underlying3
 a3 := Tryz.isAgg3
 z3 := Tryz.sizeOf3
 v3 := Tryz.zeroValue3
 t4 := Tryz.underlying4
 a4 := Tryz.isAgg4
 z4 := Tryz.sizeOf4
 v4 := Tryz.zeroValue4
 t5 := Tryz.underlying5
 a5 := Tryz.isAgg5
 z5 := Tryz.sizeOf5
 v5 := Tryz.zeroValue5
 t9 := Tryz.underlying9
 a9 := Tryz.isAgg9
 z9 := Tryz.sizeOf9
 v9 := Tryz.zeroValue9
 t20 := Tryz.underlying20
 a20 := Tryz.isAgg20
 z20 := Tryz.sizeOf20
 v20 := Tryz.zeroValue20
 t21 := Tryz.underlying21
 a21 := Tryz.isAgg21
 z21 := Tryz.sizeOf21
 v21 := Tryz.zeroValue21
 t37 := Tryz.underlying83
 a37 := Tryz.isAgg83
 z37 := Tryz.sizeOf83
 v37 := Tryz.zeroValue83
 t46 := Tryz.underlying168
 a46 := Tryz.isAgg168
 z46 := Tryz.sizeOf168
 v46 := Tryz.zeroValue168
 t51 := Tryz.underlying201
 a51 := Tryz.isAgg201
 z51 := Tryz.sizeOf201
 v51 := Tryz.zeroValue201
 t70 := Tryz.underlying82
 a70 := Tryz.isAgg82
 z70 := Tryz.sizeOf82
 v70 := Tryz.zeroValue82
 t72 := Tryz.underlying85
 a72 := Tryz.isAgg85
 z72 := Tryz.sizeOf85
 v72 := Tryz.zeroValue85
 t75 := Tryz.underlying136
 a75 := Tryz.isAgg136
 z75 := Tryz.sizeOf136
 v75 := Tryz.zeroValue136
 t76 := Tryz.underlying137
 a76 := Tryz.isAgg137
 z76 := Tryz.sizeOf137
 v76 := Tryz.zeroValue137
 t105 := Tryz.underlying223
 a105 := Tryz.isAgg223
 z105 := Tryz.sizeOf223
 v105 := Tryz.zeroValue223
 t119 := Tryz.underlying241
 a119 := Tryz.isAgg241
 z119 := Tryz.sizeOf241
 t127 := Tryz.underlying141
 a127 := Tryz.isAgg141
 z127 := Tryz.sizeOf141
 v127 := Tryz.zeroValue141
 t138 := Tryz.underlying243
 a138 := Tryz.isAgg243
 z138 := Tryz.sizeOf243
 v138 := Tryz.zeroValue243
 t139 := Tryz.underlying244
 a139 := Tryz.isAgg244
 z139 := Tryz.sizeOf244
 v139 := Tryz.zeroValue244
 t146 := Tryz.underlying208
 a146 := Tryz.isAgg208
 z146 := Tryz.sizeOf208
 v146 := Tryz.zeroValue208
 t164 := Tryz.underlying183
 a164 := Tryz.isAgg183
 z164 := Tryz.sizeOf183
 v164 := Tryz.zeroValue183
 g1 := by kernel_rfl
 g3 := by kernel_rfl
 g4 := by kernel_rfl }
theorem Tryz.Builder_Extra_155 : Builder.Extra Tryz.prog Tryz.lays155_ren := {
 sizeBuilder := by kernel_rfl
 liesBuilder := by kernel_rfl
 t5 := Tryz.underlying5
 a5 := Tryz.isAgg5
 z5 := Tryz.sizeOf5
 v5 := Tryz.zeroValue5
 infoByte := by kernel_rfl
 cellsByte := by kernel_rfl
 sizeByte := by kernel_rfl
 neB5 := by decide }
open Go.RowKit Go.Lib in
/-- strings.ReplaceAll: "ReplaceAll returns a copy of the string s with all non-overlapping instances of old replaced by new.": AT AN old THAT IS NOT EMPTY: 'Lib.replaceAll s old new'. (LAID: no walk: one application.) -/
theorem Tryz.strings_ReplaceAll (s old new : ByteArray) (m : Int) (w : World) (hs : s.size < 4294967281) (hm : w.cell? ⟨0, 0, none⟩ = some (.int .i64 m)) (h1 : 1 ≤ old.size) (hlen : s.size + Lib.countB s old * new.size ≤ 140737488355328) :
  Calls Tryz.prog 222 #[.string s, .string old, .string new] w fun e w' =>
   e = .returned (.string ⟨(Lib.replaceAll s.data.toList old.data.toList new.data.toList).toArray⟩) ∧ Below w.heap.size w w' := Any.strings_ReplaceAll Tryz.lays155 Tryz.Builder_Extra_155 s old new m w hs hm h1 hlen
end Go.Proofs
