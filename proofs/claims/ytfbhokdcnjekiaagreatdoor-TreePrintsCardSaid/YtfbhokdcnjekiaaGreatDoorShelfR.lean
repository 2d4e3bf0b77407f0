/- Contracts of Go's library at this seat's numbers: written by the kit's lay-shelf and lay-plain; those that are used. -/
import Derived.Shelf.Strings.Builder1
import Derived.Shelf.Strings.Builder2
import Derived.Shelf.Strings.OnBuilder
import Derived.Shelf.Strings.Trim
import Derived.Shelf.Small.Utf8
import Derived.Shelf.Small.Strs
import Derived.Shelf.Strings.BuilderF
import Derived.Shelf.Strings.BuilderK
import Derived.Shelf.Utf8.RuneCount
import Derived.Shelf.Strconv.Itoa0
import Derived.Shelf.Strconv.Itoa1
import Derived.Shelf.LaysM
import Derived.Shelf.Strconv.Itoa2
import Derived.Shelf.Strconv.Itoa3
import Derived.Shelf.Strconv.Itoa4
import Derived.Shelf.Strconv.ParseIntEmpty
import Derived.Shelf.Strconv.Clone
import Derived.Shelf.Strconv.SyntaxError
import Derived.Shelf.LaysC
import Derived.Shelf.Strconv.ToError
import Derived.Shelf.Strconv.Lower
import Derived.Shelf.Strconv.ParseUint10
import Derived.Shelf.Strconv.ParseUint10Empty
import Derived.Shelf.Strconv.ParseUint10Any
import Derived.Shelf.Strconv.ParseInt10
import Derived.Shelf.Strconv.RangeError
import Derived.Shelf.Strconv.ToErrorRange
import Derived.Shelf.Strconv.ParseUintEmpty
import Derived.Shelf.Strconv.ParseUint10b64
import Derived.Shelf.Strconv.ParseUint10b32
import Derived.Shelf.Strconv.ParseUint10b16
import Derived.Shelf.Strconv.ParseUint10b8
import Derived.Shelf.Strconv.ParseUint10At
import Derived.Shelf.Strconv.ParseInt10At64
import Derived.Shelf.Strconv.ParseInt10At32
import Derived.Shelf.Strconv.ParseInt10At16
import Derived.Shelf.Strconv.ParseInt10At8
import Derived.Shelf.Strconv.ParseInt10All
import Derived.Shelf.Strconv.ParseIntPublic10
import Derived.Shelf.Strconv.ErrVarParseInt
import Derived.Shelf.Strings.Search1
import Derived.Shelf.Strings.Search2
import Derived.Shelf.Strings.Search3
import Derived.Shelf.Strings.Count
import Derived.Shelf.Strings.Shaped
import Derived.Shelf.Strings.Prefix
import Derived.Shelf.Strings.Split
import Derived.Shelf.Strings.Replace
import Derived.Shelf.Strings.SplitShaped
import Derived.Shelf.Unicode.Decode
import Derived.Shelf.Strings.Runes
import Derived.Shelf.Strings.RuneCount
import Derived.Shelf.Strings.AsciiSet
import Derived.Shelf.Strings.Explode
import Derived.Shelf.Unicode.DecodeSlow
import Derived.Shelf.Unicode.DecodeAny
import Derived.Shelf.Unicode.DecodeLast
import Derived.Test.YtfbhokdcnjekiaaGreatDoorProg
import Derived.Test.YtfbhokdcnjekiaaGreatDoorShelf
namespace Go.Proofs
open Go.Shelf
def Tryz.lays156_ren : Go.Shelf.Ren := ⟨fun | 156 => 44 | 165 => 82 | 166 => 80 | 169 => 46 | 240 => 109 | 241 => 111 | 276 => 127 | 277 => 132 | n => n, fun | 31 => 22 | 9 => 9 | 3 => 3 | 4 => 4 | 0 => 0 | 20 => 20 | 72 => 70 | 76 => 102 | 70 => 67 | 37 => 68 | 75 => 101 | 127 => 106 | 164 => 123 | 5 => 5 | 80 => 78 | n => n, fun | n => n⟩
theorem Tryz.lays156 : Go.Proofs.Lays.n156 Tryz.prog Tryz.lays156_ren := {
 mixed := by kernel_rfl
 f156 := Tryz.func44.trans (congrArg some (by kernel_rfl))
 f165 := Tryz.func82.trans (congrArg some (by kernel_rfl))
 f166 := Tryz.func80.trans (congrArg some (by kernel_rfl))
 f169 := Tryz.func46.trans (congrArg some (by kernel_rfl))
 f240 := Tryz.func109.trans (congrArg some (by kernel_rfl))
 f241 := Tryz.func111.trans (congrArg some (by kernel_rfl))
 f276 := Tryz.func127.trans (congrArg some (by kernel_rfl))
 f277 := Tryz.func132.trans (congrArg some (by kernel_rfl))
 t0 := Tryz.underlying0
 a0 := Tryz.isAgg0
 z0 := Tryz.sizeOf0
 v0 := Tryz.zeroValue0
 t3 := Tryz.underlying3
 a3 := Tryz.isAgg3
 z3 := Tryz.sizeOf3
 v3 := Tryz.zeroValue3
 t4 := Tryz.underlying4
 a4 := Tryz.isAgg4
 z4 := Tryz.sizeOf4
 v4 := Tryz.zeroValue4
 t9 := Tryz.underlying9
 a9 := Tryz.isAgg9
 z9 := Tryz.sizeOf9
 v9 := Tryz.zeroValue9
 t20 := Tryz.underlying20
 a20 := Tryz.isAgg20
 z20 := Tryz.sizeOf20
 v20 := Tryz.zeroValue20
 t31 := Tryz.underlying22
 a31 := Tryz.isAgg22
 z31 := Tryz.sizeOf22
 v31 := Tryz.zeroValue22
 t37 := Tryz.underlying68
 a37 := Tryz.isAgg68
 z37 := Tryz.sizeOf68
 v37 := Tryz.zeroValue68
 t70 := Tryz.underlying67
 a70 := Tryz.isAgg67
 z70 := Tryz.sizeOf67
 v70 := Tryz.zeroValue67
 t72 := Tryz.underlying70
 a72 := Tryz.isAgg70
 z72 := Tryz.sizeOf70
 v72 := Tryz.zeroValue70
 t75 := Tryz.underlying101
 a75 := Tryz.isAgg101
 z75 := Tryz.sizeOf101
 v75 := Tryz.zeroValue101
 t76 := Tryz.underlying102
 a76 := Tryz.isAgg102
 z76 := Tryz.sizeOf102
 v76 := Tryz.zeroValue102
 t127 := Tryz.underlying106
 a127 := Tryz.isAgg106
 z127 := Tryz.sizeOf106
 v127 := Tryz.zeroValue106
 t164 := Tryz.underlying123
 a164 := Tryz.isAgg123
 z164 := Tryz.sizeOf123
 v164 := Tryz.zeroValue123 }
theorem Tryz.Builder_Extra_156 : Builder.Extra Tryz.prog Tryz.lays156_ren := {
 sizeBuilder := by kernel_rfl
 liesBuilder := by kernel_rfl
 t5 := Tryz.underlying5
 a5 := Tryz.isAgg5
 z5 := Tryz.sizeOf5
 v5 := Tryz.zeroValue5
 infoByte := by kernel_rfl
 cellsByte := by kernel_rfl
 sizeByte := by kernel_rfl
 neB5 := by decide }
open Go.RowKit in
/-- No element: the empty string; the world is as it was. (Whatever the slice's address and capacity: a nil slice too.) (LAID: no walk: one application.) -/
theorem Tryz.strings_Join_none (a : Option Addr) (c : Nat) (sep : ByteArray) (w : World) :
  Calls Tryz.prog 44 #[.slice a 0 c, .string sep] w fun e w' => e = .returned (.string ⟨#[]⟩) ∧ w' = w := Any.strings_Join_none Tryz.lays156 Tryz.Builder_Extra_156 a c sep w
open Go.RowKit in
/-- strings.Join: "Join concatenates the elements of its first argument to create a single string. The separator string sep is placed between elements in the resulting string.": HOWEVER MANY ELEMENTS. Below the heap's end the world is as it was. (LAID: no walk: one application.) -/
theorem Tryz.strings_Join (bk o c : Nat) (xs : List ByteArray) (sep : ByteArray) (w : World) (hcells : ∀ (j : Nat) x, xs[j]? = some x → w.cell? ⟨bk, o + j, none⟩ = some (.string x)) (hbk : bk < w.heap.size) (hN : xs.length ≤ 140737488355328) (hcap : xs.length ≤ c) (hlen : (Lib.join (xs.map (·.data.toList)) sep.data.toList).length ≤ 140737488355328) :
  Calls Tryz.prog 44 #[.slice (some ⟨bk, o, none⟩) xs.length c, .string sep] w fun e w' => e = .returned (.string ⟨(Lib.join (xs.map (·.data.toList)) sep.data.toList).toArray⟩) ∧ Below w.heap.size w w' := Any.strings_Join Tryz.lays156 Tryz.Builder_Extra_156 bk o c xs sep w hcells hbk hN hcap hlen
def Tryz.lays155_ren : Go.Shelf.Ren := ⟨fun | 155 => 168 | 154 => 176 | 138 => 60 | 165 => 82 | 143 => 90 | 166 => 80 | 197 => 167 | 169 => 46 | 195 => 88 | 218 => 89 | 240 => 109 | 241 => 111 | 219 => 122 | 260 => 175 | 276 => 127 | 277 => 132 | 217 => 139 | 225 => 140 | 224 => 141 | 267 => 142 | 266 => 154 | 314 => 155 | n => n, fun | 9 => 9 | 3 => 3 | 4 => 4 | 72 => 70 | 0 => 0 | 76 => 102 | 105 => 168 | 21 => 21 | 5 => 5 | 70 => 67 | 20 => 20 | 37 => 68 | 75 => 101 | 127 => 106 | 164 => 123 | 46 => 115 | 119 => 182 | 139 => 185 | 138 => 184 | 146 => 154 | 51 => 144 | 80 => 78 | n => n, fun | 1 => 0 | 3 => 4 | 4 => 5 | n => n⟩
theorem Tryz.lays155 : Go.Proofs.Lays.n155 Tryz.prog Tryz.lays155_ren := {
 mixed := by kernel_rfl
 f138 := Tryz.func60.trans (congrArg some (by kernel_rfl))
 f143 := Tryz.func90.trans (congrArg some (by kernel_rfl))
 f154 := Tryz.func176.trans (congrArg some (by kernel_rfl))
 f155 := Tryz.func168.trans (congrArg some (by kernel_rfl))
 f165 := Tryz.func82.trans (congrArg some (by kernel_rfl))
 f166 := Tryz.func80.trans (congrArg some (by kernel_rfl))
 f169 := Tryz.func46.trans (congrArg some (by kernel_rfl))
 f195 := Tryz.func88.trans (congrArg some (by kernel_rfl))
 f197 := Tryz.func167.trans (congrArg some (by kernel_rfl))
 f217 := Tryz.func139.trans (congrArg some (by kernel_rfl))
 f218 := Tryz.func89.trans (congrArg some (by kernel_rfl))
 f219 := Tryz.func122.trans (congrArg some (by kernel_rfl))
 f224 := Tryz.func141.trans (congrArg some (by kernel_rfl))
 f225 := Tryz.func140.trans (congrArg some (by kernel_rfl))
 f240 := Tryz.func109.trans (congrArg some (by kernel_rfl))
 f241 := Tryz.func111.trans (congrArg some (by kernel_rfl))
 f260 := Tryz.func175.trans (congrArg some (by kernel_rfl))
 f266 := Tryz.func154.trans (congrArg some (by kernel_rfl))
 f267 := Tryz.func142.trans (congrArg some (by kernel_rfl))
 f276 := Tryz.func127.trans (congrArg some (by kernel_rfl))
 f277 := Tryz.func132.trans (congrArg some (by kernel_rfl))
 f314 := Tryz.func155.trans (congrArg some (by kernel_rfl))
 t0 := Tryz.underlying0
 a0 := Tryz.isAgg0
 z0 := Tryz.sizeOf0
 v0 := Tryz.zeroValue0
 t3 := Tryz.underlying3
 a3 := Tryz.isAgg3
 z3 := Tryz.sizeOf3
 v3 := Tryz.zeroValue3
 t4 := Tryz.underlying4
 a4 := Tryz.isAgg4
 z4 := Tryz.sizeOf4
 v4 := Tryz.zeroValue4
 t5 := Tryz.underlying5
 a5 := Tryz.isAgg5
 z5 := Tryz.sizeOf5
 v5 := Tryz.zeroValue5
 t9 := Tryz.underlying9
 a9 := Tryz.isAgg9
 z9 := Tryz.sizeOf9
 v9 := Tryz.zeroValue9
 t20 := Tryz.underlying20
 a20 := Tryz.isAgg20
 z20 := Tryz.sizeOf20
 v20 := Tryz.zeroValue20
 t21 := Tryz.underlying21
 a21 := Tryz.isAgg21
 z21 := Tryz.sizeOf21
 v21 := Tryz.zeroValue21
 t37 := Tryz.underlying68
 a37 := Tryz.isAgg68
 z37 := Tryz.sizeOf68
 v37 := Tryz.zeroValue68
 t46 := Tryz.underlying115
 a46 := Tryz.isAgg115
 z46 := Tryz.sizeOf115
 v46 := Tryz.zeroValue115
 t51 := Tryz.underlying144
 a51 := Tryz.isAgg144
 z51 := Tryz.sizeOf144
 v51 := Tryz.zeroValue144
 t70 := Tryz.underlying67
 a70 := Tryz.isAgg67
 z70 := Tryz.sizeOf67
 v70 := Tryz.zeroValue67
 t72 := Tryz.underlying70
 a72 := Tryz.isAgg70
 z72 := Tryz.sizeOf70
 v72 := Tryz.zeroValue70
 t75 := Tryz.underlying101
 a75 := Tryz.isAgg101
 z75 := Tryz.sizeOf101
 v75 := Tryz.zeroValue101
 t76 := Tryz.underlying102
 a76 := Tryz.isAgg102
 z76 := Tryz.sizeOf102
 v76 := Tryz.zeroValue102
 t105 := Tryz.underlying168
 a105 := Tryz.isAgg168
 z105 := Tryz.sizeOf168
 v105 := Tryz.zeroValue168
 t119 := Tryz.underlying182
 a119 := Tryz.isAgg182
 z119 := Tryz.sizeOf182
 t127 := Tryz.underlying106
 a127 := Tryz.isAgg106
 z127 := Tryz.sizeOf106
 v127 := Tryz.zeroValue106
 t138 := Tryz.underlying184
 a138 := Tryz.isAgg184
 z138 := Tryz.sizeOf184
 v138 := Tryz.zeroValue184
 t139 := Tryz.underlying185
 a139 := Tryz.isAgg185
 z139 := Tryz.sizeOf185
 v139 := Tryz.zeroValue185
 t146 := Tryz.underlying154
 a146 := Tryz.isAgg154
 z146 := Tryz.sizeOf154
 v146 := Tryz.zeroValue154
 t164 := Tryz.underlying123
 a164 := Tryz.isAgg123
 z164 := Tryz.sizeOf123
 v164 := Tryz.zeroValue123
 g1 := by kernel_rfl
 g3 := by kernel_rfl
 g4 := by kernel_rfl }
theorem Tryz.Builder_Extra_155 : Builder.Extra Tryz.prog Tryz.lays155_ren := {
 sizeBuilder := by kernel_rfl
 liesBuilder := by kernel_rfl
 t5 := Tryz.underlying5
 a5 := Tryz.isAgg5
 z5 := Tryz.sizeOf5
 v5 := Tryz.zeroValue5
 infoByte := by kernel_rfl
 cellsByte := by kernel_rfl
 sizeByte := by kernel_rfl
 neB5 := by decide }
open Go.RowKit Go.Lib in
/-- strings.ReplaceAll: "ReplaceAll returns a copy of the string s with all non-overlapping instances of old replaced by new.": AT AN old THAT IS NOT EMPTY: 'Lib.replaceAll s old new'. (LAID: no walk: one application.) -/
theorem Tryz.strings_ReplaceAll (s old new : ByteArray) (m : Int) (w : World) (hs : s.size < 4294967281) (hm : w.cell? ⟨0, 0, none⟩ = some (.int .i64 m)) (h1 : 1 ≤ old.size) (hlen : s.size + Lib.countB s old * new.size ≤ 140737488355328) :
  Calls Tryz.prog 168 #[.string s, .string old, .string new] w fun e w' =>
   e = .returned (.string ⟨(Lib.replaceAll s.data.toList old.data.toList new.data.toList).toArray⟩) ∧ Below w.heap.size w w' := Any.strings_ReplaceAll Tryz.lays155 Tryz.Builder_Extra_155 s old new m w hs hm h1 hlen
end Go.Proofs
