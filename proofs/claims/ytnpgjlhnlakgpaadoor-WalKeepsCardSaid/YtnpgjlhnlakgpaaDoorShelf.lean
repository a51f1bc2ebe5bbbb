/-
  DERIVED: THE SHELF's CONTRACTS AT THIS DUMP, IN PLAIN WORDS (tools/lay-plain.mjs out of 'TrydShelf.lean', which tools/lay-shelf.mjs wrote): THE SAME DECLARATIONS UNDER THE SAME NAMES: 'import', 'namespace', 'open', 'def', 'theorem' AND NOTHING ELSE: no command of the shelf's: FOR A HAND-IN. Each laying: the table of numbers ('.._ren') and one theorem, a field a fact of the dump's own or the kernel's comparison; each contract: ONE APPLICATION.
-/
import Derived.Shelf.Strings.Builder1
import Derived.Shelf.Strings.Builder2
import Derived.Shelf.Strings.OnBuilder
import Derived.Shelf.Small.Utf8
import Derived.Shelf.Small.Bits
import Derived.Shelf.Small.Strs
import Derived.Shelf.Strings.BuilderF
import Derived.Shelf.Strings.BuilderK
import Derived.Shelf.Strings.BuilderRune
import Derived.Shelf.Strings.Builder2Cap
import Derived.Shelf.Strconv.Itoa0
import Derived.Shelf.Strconv.Itoa1
import Derived.Shelf.LaysM
import Derived.Shelf.Strconv.Itoa2
import Derived.Shelf.Strconv.Itoa3
import Derived.Shelf.Strings.Search1
import Derived.Shelf.Sort.Plain
import Derived.Shelf.Strings.Prefix
import Derived.Shelf.Strings.Fields
import Derived.Shelf.Strings.SplitShaped
import Derived.Shelf.Unicode.Latin
import Derived.Shelf.Unicode.Decode
import Derived.Shelf.Bits.Mul64
import Derived.Shelf.Strings.Repeat
import Derived.Shelf.Unicode.DecodeSlow
import Derived.Shelf.Unicode.DecodeAny
import Derived.Shelf.Unicode.Is16White
import Derived.Shelf.Unicode.IsSpaceAny
import Derived.Shelf.Unicode.Is16WhiteD
import Derived.Shelf.Unicode.CaseLookup
import Derived.Shelf.Unicode.CaseConvert
import Derived.Shelf.Unicode.CaseTo
import Derived.Shelf.Unicode.CaseLaid
import Derived.Shelf.Unicode.Is16Any
import Derived.Shelf.Unicode.Is32Any
import Derived.Shelf.Unicode.ExclAny
import Derived.Shelf.Slices.In.SortNone
import Derived.Test.YtnpgjlhnlakgpaaDoorProg
namespace Go.Proofs
open Go.Shelf
def Tryd.lays170_ren : Go.Shelf.Ren := ⟨fun | 170 => 114 | n => n, fun | 70 => 138 | 3 => 3 | 0 => 0 | 72 => 140 | 37 => 49 | 5 => 5 | n => n, fun | n => n⟩
theorem Tryd.lays170 : Go.Proofs.Lays.n170 Tryd.prog Tryd.lays170_ren := {
  mixed := by kernel_rfl
  f170 := Tryd.func114.trans (congrArg some (by kernel_rfl))
  t0 := Tryd.underlying0
  a0 := Tryd.isAgg0
  z0 := Tryd.sizeOf0
  v0 := Tryd.zeroValue0
  t3 := Tryd.underlying3
  a3 := Tryd.isAgg3
  z3 := Tryd.sizeOf3
  v3 := Tryd.zeroValue3
  t37 := Tryd.underlying49
  a37 := Tryd.isAgg49
  z37 := Tryd.sizeOf49
  v37 := Tryd.zeroValue49
  t70 := Tryd.underlying138
  a70 := Tryd.isAgg138
  z70 := Tryd.sizeOf138
  v70 := Tryd.zeroValue138
  t72 := Tryd.underlying140
  a72 := Tryd.isAgg140
  z72 := Tryd.sizeOf140
  v72 := Tryd.zeroValue140 }
open Go.RowKit in
/-- (*strings.Builder).Len: "Len returns the number of accumulated bytes; b.Len() == len(b.String()).": the world is as it was. (LAID: no walk: one application.) -/
theorem Tryd.Builder_Len (B b : Nat) (bs : List Value) (w : World) (h : Lib.IsBuilder 140 5 B b bs w) :
    Calls Tryd.prog 114 #[.pointer (some ⟨b, 0, none⟩)] w fun e w' => e = .returned (.int .i64 bs.length) ∧ w' = w := Any.Builder_Len Tryd.lays170 B b bs w h
def Tryd.lays169_ren : Go.Shelf.Ren := ⟨fun | 169 => 115 | n => n, fun | 70 => 138 | 9 => 9 | 0 => 0 | 72 => 140 | 37 => 49 | 127 => 170 | 3 => 3 | 5 => 5 | n => n, fun | n => n⟩
theorem Tryd.lays169 : Go.Proofs.Lays.n169 Tryd.prog Tryd.lays169_ren := {
  mixed := by kernel_rfl
  f169 := Tryd.func115.trans (congrArg some (by kernel_rfl))
  t0 := Tryd.underlying0
  a0 := Tryd.isAgg0
  z0 := Tryd.sizeOf0
  v0 := Tryd.zeroValue0
  t3 := Tryd.underlying3
  a3 := Tryd.isAgg3
  z3 := Tryd.sizeOf3
  v3 := Tryd.zeroValue3
  t9 := Tryd.underlying9
  a9 := Tryd.isAgg9
  z9 := Tryd.sizeOf9
  v9 := Tryd.zeroValue9
  t37 := Tryd.underlying49
  a37 := Tryd.isAgg49
  z37 := Tryd.sizeOf49
  v37 := Tryd.zeroValue49
  t70 := Tryd.underlying138
  a70 := Tryd.isAgg138
  z70 := Tryd.sizeOf138
  v70 := Tryd.zeroValue138
  t72 := Tryd.underlying140
  a72 := Tryd.isAgg140
  z72 := Tryd.sizeOf140
  v72 := Tryd.zeroValue140
  t127 := Tryd.underlying170
  a127 := Tryd.isAgg170
  z127 := Tryd.sizeOf170
  v127 := Tryd.zeroValue170 }
theorem Tryd.Builder_Extra_169 : Builder.Extra Tryd.prog Tryd.lays169_ren := {
  sizeBuilder := by kernel_rfl
  liesBuilder := by kernel_rfl
  t5 := Tryd.underlying5
  a5 := Tryd.isAgg5
  z5 := Tryd.sizeOf5
  v5 := Tryd.zeroValue5
  infoByte := by kernel_rfl
  cellsByte := by kernel_rfl
  sizeByte := by kernel_rfl
  neB5 := by decide }
open Go.RowKit in
/-- (*strings.Builder).String: "String returns the accumulated string.": OF A BUILDER THAT HOLDS AT LEAST ONE BYTE. ✋ THE MODEL FREEZES THOSE BYTES IN THE BUFFER (unsafe.String): a later write INTO them ends the model's run without an answer; a later append BEHIND them goes on. The statement's order of evaluation is drawn: one draw. (LAID: no walk: one application.) -/
theorem Tryd.Builder_String (B b : Nat) (l : List UInt8) (w : World) (h : Lib.IsBuilder 140 5 B b (Lib.byteCells l) w) (h0 : l ≠ []) :
    Calls Tryd.prog 115 #[.pointer (some ⟨b, 0, none⟩)] w fun e w' => e = .returned (.string ⟨l.toArray⟩) ∧ Below B w w' := Any.Builder_String Tryd.lays169 Tryd.Builder_Extra_169 B b l w h h0
open Go.RowKit in
/-- (*strings.Builder).String OF A BUILDER THAT HOLDS NO BYTE: the empty string. (Its buffer is nil, or a row of which it has taken nothing yet; where that row has NO capacity the model lays one new block for unsafe.SliceData's 'some address'.) One draw. (LAID: no walk: one application.) -/
theorem Tryd.Builder_String_empty (B b : Nat) (w : World) (h : Lib.IsBuilder 140 5 B b [] w) (hBw : B ≤ w.heap.size) :
    Calls Tryd.prog 115 #[.pointer (some ⟨b, 0, none⟩)] w fun e w' => e = .returned (.string ⟨#[]⟩) ∧ Below B w w' := Any.Builder_String_empty Tryd.lays169 Tryd.Builder_Extra_169 B b w h hBw
open Go.RowKit in
/-- (*strings.Builder).String: "String returns the accumulated string.": WHATEVER THE BUILDER HOLDS. (LAID: no walk: one application.) -/
theorem Tryd.Builder_String_any (B b : Nat) (l : List UInt8) (w : World) (h : Lib.IsBuilder 140 5 B b (Lib.byteCells l) w) (hBw : B ≤ w.heap.size) :
    Calls Tryd.prog 115 #[.pointer (some ⟨b, 0, none⟩)] w fun e w' => e = .returned (.string ⟨l.toArray⟩) ∧ Below B w w' := Any.Builder_String_any Tryd.lays169 Tryd.Builder_Extra_169 B b l w h hBw
def Tryd.lays241_ren : Go.Shelf.Ren := ⟨fun | 241 => 150 | 277 => 174 | n => n, fun | 70 => 138 | 3 => 3 | 0 => 0 | 72 => 140 | 37 => 49 | 5 => 5 | n => n, fun | n => n⟩
theorem Tryd.lays241 : Go.Proofs.Lays.n241 Tryd.prog Tryd.lays241_ren := {
  mixed := by kernel_rfl
  f241 := Tryd.func150.trans (congrArg some (by kernel_rfl))
  f277 := Tryd.func174.trans (congrArg some (by kernel_rfl))
  t0 := Tryd.underlying0
  a0 := Tryd.isAgg0
  z0 := Tryd.sizeOf0
  v0 := Tryd.zeroValue0
  t3 := Tryd.underlying3
  a3 := Tryd.isAgg3
  z3 := Tryd.sizeOf3
  v3 := Tryd.zeroValue3
  t37 := Tryd.underlying49
  a37 := Tryd.isAgg49
  z37 := Tryd.sizeOf49
  v37 := Tryd.zeroValue49
  t70 := Tryd.underlying138
  a70 := Tryd.isAgg138
  z70 := Tryd.sizeOf138
  v70 := Tryd.zeroValue138
  t72 := Tryd.underlying140
  a72 := Tryd.isAgg140
  z72 := Tryd.sizeOf140
  v72 := Tryd.zeroValue140 }
theorem Tryd.Builder_Extra_241 : Builder.Extra Tryd.prog Tryd.lays241_ren := {
  sizeBuilder := by kernel_rfl
  liesBuilder := by kernel_rfl
  t5 := Tryd.underlying5
  a5 := Tryd.isAgg5
  z5 := Tryd.sizeOf5
  v5 := Tryd.zeroValue5
  infoByte := by kernel_rfl
  cellsByte := by kernel_rfl
  sizeByte := by kernel_rfl
  neB5 := by decide }
open Go.RowKit in
/-- (*strings.Builder).grow (no doc but "grow copies the buffer to a new, larger buffer so that there are at least n bytes of capacity beyond len(b.buf)."): AT A BUILDER WITHOUT A BUFFER: a new row of whatever bytes for its buffer, none of them its own yet. Three draws. (LAID: no walk: one application.) -/
theorem Tryd.Builder_grow_fresh (B b n : Nat) (w : World) (hB : B ≤ b) (hbk : w.heap[b]? = some (.cells #[.pointer (some ⟨b, 0, none⟩), .slice none 0 0] 140 (0, 0))) (hBw : B ≤ w.heap.size) (hn : n ≤ 281474976710656) :
    Calls Tryd.prog 150 #[.pointer (some ⟨b, 0, none⟩), .int .i64 n] w fun e w' => e = .returned (.tuple #[]) ∧ (Lib.BuilderAt 140 5 B b (.pointer (some ⟨b, 0, none⟩)) [] w' ∧ Below B w w') := Any.Builder_grow_fresh Tryd.lays241 Tryd.Builder_Extra_241 B b n w hB hbk hBw hn
def Tryd.lays165_ren : Go.Shelf.Ren := ⟨fun | 165 => 128 | 240 => 138 | 241 => 150 | 276 => 168 | 277 => 174 | n => n, fun | 70 => 138 | 3 => 3 | 0 => 0 | 4 => 4 | 9 => 9 | 20 => 20 | 72 => 140 | 37 => 49 | 164 => 204 | 5 => 5 | n => n, fun | n => n⟩
theorem Tryd.lays165 : Go.Proofs.Lays.n165 Tryd.prog Tryd.lays165_ren := {
  mixed := by kernel_rfl
  f165 := Tryd.func128.trans (congrArg some (by kernel_rfl))
  f240 := Tryd.func138.trans (congrArg some (by kernel_rfl))
  f241 := Tryd.func150.trans (congrArg some (by kernel_rfl))
  f276 := Tryd.func168.trans (congrArg some (by kernel_rfl))
  f277 := Tryd.func174.trans (congrArg some (by kernel_rfl))
  t0 := Tryd.underlying0
  a0 := Tryd.isAgg0
  z0 := Tryd.sizeOf0
  v0 := Tryd.zeroValue0
  t3 := Tryd.underlying3
  a3 := Tryd.isAgg3
  z3 := Tryd.sizeOf3
  v3 := Tryd.zeroValue3
  t4 := Tryd.underlying4
  a4 := Tryd.isAgg4
  z4 := Tryd.sizeOf4
  v4 := Tryd.zeroValue4
  t9 := Tryd.underlying9
  a9 := Tryd.isAgg9
  z9 := Tryd.sizeOf9
  v9 := Tryd.zeroValue9
  t20 := Tryd.underlying20
  a20 := Tryd.isAgg20
  z20 := Tryd.sizeOf20
  v20 := Tryd.zeroValue20
  t37 := Tryd.underlying49
  a37 := Tryd.isAgg49
  z37 := Tryd.sizeOf49
  v37 := Tryd.zeroValue49
  t70 := Tryd.underlying138
  a70 := Tryd.isAgg138
  z70 := Tryd.sizeOf138
  v70 := Tryd.zeroValue138
  t72 := Tryd.underlying140
  a72 := Tryd.isAgg140
  z72 := Tryd.sizeOf140
  v72 := Tryd.zeroValue140
  t164 := Tryd.underlying204
  a164 := Tryd.isAgg204
  z164 := Tryd.sizeOf204
  v164 := Tryd.zeroValue204 }
theorem Tryd.Builder_Extra_165 : Builder.Extra Tryd.prog Tryd.lays165_ren := {
  sizeBuilder := by kernel_rfl
  liesBuilder := by kernel_rfl
  t5 := Tryd.underlying5
  a5 := Tryd.isAgg5
  z5 := Tryd.sizeOf5
  v5 := Tryd.zeroValue5
  infoByte := by kernel_rfl
  cellsByte := by kernel_rfl
  sizeByte := by kernel_rfl
  neB5 := by decide }
open Go.RowKit in
/-- (*strings.Builder).Grow AT A BUILDER THAT HAS NOT BEEN WRITTEN ('var b strings.Builder; b.Grow(n)'): "Grow grows b's capacity, if necessary, to guarantee space for another n bytes.": it holds no byte behind it as before it. (LAID: no walk: one application.) -/
theorem Tryd.Builder_Grow_fresh (B b n : Nat) (w : World) (hB : B ≤ b) (hbk : w.heap[b]? = some (.cells #[.pointer none, .slice none 0 0] 140 (0, 0))) (hBw : B ≤ w.heap.size) (hn : n ≤ 281474976710656) :
    Calls Tryd.prog 128 #[.pointer (some ⟨b, 0, none⟩), .int .i64 n] w fun e w' => e = .returned (.tuple #[]) ∧ (Lib.BuilderAt 140 5 B b (.pointer (some ⟨b, 0, none⟩)) [] w' ∧ Below B w w') := Any.Builder_Grow_fresh Tryd.lays165 Tryd.Builder_Extra_165 B b n w hB hbk hBw hn
def Tryd.lays158_ren : Go.Shelf.Ren := ⟨fun | 158 => 109 | 165 => 128 | 166 => 129 | 167 => 134 | 169 => 115 | 230 => 135 | 203 => 136 | 240 => 138 | 241 => 150 | 197 => 164 | 118 => 165 | 168 => 113 | 270 => 166 | 262 => 167 | 276 => 168 | 277 => 174 | 260 => 181 | 242 => 139 | 313 => 182 | 278 => 169 | 274 => 186 | 275 => 187 | n => n, fun | 9 => 9 | 4 => 4 | 3 => 3 | 5 => 5 | 72 => 140 | 0 => 0 | 76 => 143 | 75 => 142 | 107 => 168 | 70 => 138 | 20 => 20 | 37 => 49 | 127 => 170 | 21 => 21 | 105 => 200 | 164 => 204 | 162 => 222 | 203 => 220 | 119 => 132 | 46 => 106 | 139 => 228 | 138 => 227 | 51 => 46 | 160 => 229 | 208 => 237 | 206 => 235 | 80 => 114 | n => n, fun | 13 => 4 | 3 => 5 | 4 => 6 | n => n⟩
theorem Tryd.lays158 : Go.Proofs.Lays.n158 Tryd.prog Tryd.lays158_ren := {
  mixed := by kernel_rfl
  f118 := Tryd.func165.trans (congrArg some (by kernel_rfl))
  f158 := Tryd.func109.trans (congrArg some (by kernel_rfl))
  f165 := Tryd.func128.trans (congrArg some (by kernel_rfl))
  f166 := Tryd.func129.trans (congrArg some (by kernel_rfl))
  f167 := Tryd.func134.trans (congrArg some (by kernel_rfl))
  f168 := Tryd.func113.trans (congrArg some (by kernel_rfl))
  f169 := Tryd.func115.trans (congrArg some (by kernel_rfl))
  f197 := Tryd.func164.trans (congrArg some (by kernel_rfl))
  f203 := Tryd.func136.trans (congrArg some (by kernel_rfl))
  f230 := Tryd.func135.trans (congrArg some (by kernel_rfl))
  f240 := Tryd.func138.trans (congrArg some (by kernel_rfl))
  f241 := Tryd.func150.trans (congrArg some (by kernel_rfl))
  f242 := Tryd.func139.trans (congrArg some (by kernel_rfl))
  f260 := Tryd.func181.trans (congrArg some (by kernel_rfl))
  f262 := Tryd.func167.trans (congrArg some (by kernel_rfl))
  f270 := Tryd.func166.trans (congrArg some (by kernel_rfl))
  f274 := Tryd.func186.trans (congrArg some (by kernel_rfl))
  f275 := Tryd.func187.trans (congrArg some (by kernel_rfl))
  f276 := Tryd.func168.trans (congrArg some (by kernel_rfl))
  f277 := Tryd.func174.trans (congrArg some (by kernel_rfl))
  f278 := Tryd.func169.trans (congrArg some (by kernel_rfl))
  f313 := Tryd.func182.trans (congrArg some (by kernel_rfl))
  t0 := Tryd.underlying0
  a0 := Tryd.isAgg0
  z0 := Tryd.sizeOf0
  v0 := Tryd.zeroValue0
  t3 := Tryd.underlying3
  a3 := Tryd.isAgg3
  z3 := Tryd.sizeOf3
  v3 := Tryd.zeroValue3
  t4 := Tryd.underlying4
  a4 := Tryd.isAgg4
  z4 := Tryd.sizeOf4
  v4 := Tryd.zeroValue4
  t5 := Tryd.underlying5
  a5 := Tryd.isAgg5
  z5 := Tryd.sizeOf5
  v5 := Tryd.zeroValue5
  t9 := Tryd.underlying9
  a9 := Tryd.isAgg9
  z9 := Tryd.sizeOf9
  v9 := Tryd.zeroValue9
  t20 := Tryd.underlying20
  a20 := Tryd.isAgg20
  z20 := Tryd.sizeOf20
  v20 := Tryd.zeroValue20
  t21 := Tryd.underlying21
  a21 := Tryd.isAgg21
  z21 := Tryd.sizeOf21
  v21 := Tryd.zeroValue21
  t37 := Tryd.underlying49
  a37 := Tryd.isAgg49
  z37 := Tryd.sizeOf49
  v37 := Tryd.zeroValue49
  t46 := Tryd.underlying106
  a46 := Tryd.isAgg106
  z46 := Tryd.sizeOf106
  v46 := Tryd.zeroValue106
  t51 := Tryd.underlying46
  a51 := Tryd.isAgg46
  z51 := Tryd.sizeOf46
  v51 := Tryd.zeroValue46
  t70 := Tryd.underlying138
  a70 := Tryd.isAgg138
  z70 := Tryd.sizeOf138
  v70 := Tryd.zeroValue138
  t72 := Tryd.underlying140
  a72 := Tryd.isAgg140
  z72 := Tryd.sizeOf140
  v72 := Tryd.zeroValue140
  t75 := Tryd.underlying142
  a75 := Tryd.isAgg142
  z75 := Tryd.sizeOf142
  v75 := Tryd.zeroValue142
  t76 := Tryd.underlying143
  a76 := Tryd.isAgg143
  z76 := Tryd.sizeOf143
  v76 := Tryd.zeroValue143
  t105 := Tryd.underlying200
  a105 := Tryd.isAgg200
  z105 := Tryd.sizeOf200
  v105 := Tryd.zeroValue200
  t107 := Tryd.underlying168
  a107 := Tryd.isAgg168
  z107 := Tryd.sizeOf168
  v107 := Tryd.zeroValue168
  t119 := Tryd.underlying132
  a119 := Tryd.isAgg132
  z119 := Tryd.sizeOf132
  t127 := Tryd.underlying170
  a127 := Tryd.isAgg170
  z127 := Tryd.sizeOf170
  v127 := Tryd.zeroValue170
  t138 := Tryd.underlying227
  a138 := Tryd.isAgg227
  z138 := Tryd.sizeOf227
  v138 := Tryd.zeroValue227
  t139 := Tryd.underlying228
  a139 := Tryd.isAgg228
  z139 := Tryd.sizeOf228
  v139 := Tryd.zeroValue228
  t160 := Tryd.underlying229
  a160 := Tryd.isAgg229
  z160 := Tryd.sizeOf229
  v160 := Tryd.zeroValue229
  t162 := Tryd.underlying222
  a162 := Tryd.isAgg222
  z162 := Tryd.sizeOf222
  v162 := Tryd.zeroValue222
  t164 := Tryd.underlying204
  a164 := Tryd.isAgg204
  z164 := Tryd.sizeOf204
  v164 := Tryd.zeroValue204
  t203 := Tryd.underlying220
  a203 := Tryd.isAgg220
  z203 := Tryd.sizeOf220
  v203 := Tryd.zeroValue220
  t206 := Tryd.underlying235
  a206 := Tryd.isAgg235
  z206 := Tryd.sizeOf235
  v206 := Tryd.zeroValue235
  t208 := Tryd.underlying237
  a208 := Tryd.isAgg237
  z208 := Tryd.sizeOf237
  v208 := Tryd.zeroValue237
  g3 := by kernel_rfl
  g4 := by kernel_rfl
  g13 := by kernel_rfl }
theorem Tryd.Builder_Extra_158 : Builder.Extra Tryd.prog Tryd.lays158_ren := {
  sizeBuilder := by kernel_rfl
  liesBuilder := by kernel_rfl
  t5 := Tryd.underlying5
  a5 := Tryd.isAgg5
  z5 := Tryd.sizeOf5
  v5 := Tryd.zeroValue5
  infoByte := by kernel_rfl
  cellsByte := by kernel_rfl
  sizeByte := by kernel_rfl
  neB5 := by decide }
open Go.RowKit in
/-- strings.ToUpper: "ToUpper returns s with all Unicode letters mapped to their upper case.": ON ASCII TEXT OF AT MOST 2^47 BYTES. Below the heap's end the world is as it was: where a letter turns, the call makes a builder and its buffer. (LAID: no walk: one application.) -/
theorem Tryd.strings_ToUpper_ascii (s : ByteArray) (w : World) (hs : s.size ≤ 140737488355328) (hascii : ∀ (j : Nat) (b : UInt8), s.data.toList[j]? = some b → b.toNat < 128) :
    Calls Tryd.prog 109 #[.string s] w fun e w' => e = .returned (.string ⟨(Lib.toUpperA s.data.toList).toArray⟩) ∧ Below w.heap.size w w' := Any.strings_ToUpper_ascii Tryd.lays158 Tryd.Builder_Extra_158 s w hs hascii
def Tryd.lays159_ren : Go.Shelf.Ren := ⟨fun | 159 => 111 | 165 => 128 | 166 => 129 | 167 => 134 | 169 => 115 | 230 => 135 | 204 => 137 | 240 => 138 | 241 => 150 | 197 => 164 | 118 => 165 | 168 => 113 | 270 => 166 | 262 => 167 | 276 => 168 | 277 => 174 | 260 => 181 | 242 => 139 | 313 => 182 | 278 => 169 | 274 => 186 | 275 => 187 | n => n, fun | 9 => 9 | 4 => 4 | 3 => 3 | 5 => 5 | 72 => 140 | 0 => 0 | 76 => 143 | 75 => 142 | 107 => 168 | 70 => 138 | 20 => 20 | 37 => 49 | 127 => 170 | 21 => 21 | 105 => 200 | 164 => 204 | 162 => 222 | 203 => 220 | 119 => 132 | 46 => 106 | 139 => 228 | 138 => 227 | 51 => 46 | 160 => 229 | 208 => 237 | 206 => 235 | 80 => 114 | n => n, fun | 13 => 4 | 3 => 5 | 4 => 6 | n => n⟩
theorem Tryd.lays159 : Go.Proofs.Lays.n159 Tryd.prog Tryd.lays159_ren := {
  mixed := by kernel_rfl
  f118 := Tryd.func165.trans (congrArg some (by kernel_rfl))
  f159 := Tryd.func111.trans (congrArg some (by kernel_rfl))
  f165 := Tryd.func128.trans (congrArg some (by kernel_rfl))
  f166 := Tryd.func129.trans (congrArg some (by kernel_rfl))
  f167 := Tryd.func134.trans (congrArg some (by kernel_rfl))
  f168 := Tryd.func113.trans (congrArg some (by kernel_rfl))
  f169 := Tryd.func115.trans (congrArg some (by kernel_rfl))
  f197 := Tryd.func164.trans (congrArg some (by kernel_rfl))
  f204 := Tryd.func137.trans (congrArg some (by kernel_rfl))
  f230 := Tryd.func135.trans (congrArg some (by kernel_rfl))
  f240 := Tryd.func138.trans (congrArg some (by kernel_rfl))
  f241 := Tryd.func150.trans (congrArg some (by kernel_rfl))
  f242 := Tryd.func139.trans (congrArg some (by kernel_rfl))
  f260 := Tryd.func181.trans (congrArg some (by kernel_rfl))
  f262 := Tryd.func167.trans (congrArg some (by kernel_rfl))
  f270 := Tryd.func166.trans (congrArg some (by kernel_rfl))
  f274 := Tryd.func186.trans (congrArg some (by kernel_rfl))
  f275 := Tryd.func187.trans (congrArg some (by kernel_rfl))
  f276 := Tryd.func168.trans (congrArg some (by kernel_rfl))
  f277 := Tryd.func174.trans (congrArg some (by kernel_rfl))
  f278 := Tryd.func169.trans (congrArg some (by kernel_rfl))
  f313 := Tryd.func182.trans (congrArg some (by kernel_rfl))
  t0 := Tryd.underlying0
  a0 := Tryd.isAgg0
  z0 := Tryd.sizeOf0
  v0 := Tryd.zeroValue0
  t3 := Tryd.underlying3
  a3 := Tryd.isAgg3
  z3 := Tryd.sizeOf3
  v3 := Tryd.zeroValue3
  t4 := Tryd.underlying4
  a4 := Tryd.isAgg4
  z4 := Tryd.sizeOf4
  v4 := Tryd.zeroValue4
  t5 := Tryd.underlying5
  a5 := Tryd.isAgg5
  z5 := Tryd.sizeOf5
  v5 := Tryd.zeroValue5
  t9 := Tryd.underlying9
  a9 := Tryd.isAgg9
  z9 := Tryd.sizeOf9
  v9 := Tryd.zeroValue9
  t20 := Tryd.underlying20
  a20 := Tryd.isAgg20
  z20 := Tryd.sizeOf20
  v20 := Tryd.zeroValue20
  t21 := Tryd.underlying21
  a21 := Tryd.isAgg21
  z21 := Tryd.sizeOf21
  v21 := Tryd.zeroValue21
  t37 := Tryd.underlying49
  a37 := Tryd.isAgg49
  z37 := Tryd.sizeOf49
  v37 := Tryd.zeroValue49
  t46 := Tryd.underlying106
  a46 := Tryd.isAgg106
  z46 := Tryd.sizeOf106
  v46 := Tryd.zeroValue106
  t51 := Tryd.underlying46
  a51 := Tryd.isAgg46
  z51 := Tryd.sizeOf46
  v51 := Tryd.zeroValue46
  t70 := Tryd.underlying138
  a70 := Tryd.isAgg138
  z70 := Tryd.sizeOf138
  v70 := Tryd.zeroValue138
  t72 := Tryd.underlying140
  a72 := Tryd.isAgg140
  z72 := Tryd.sizeOf140
  v72 := Tryd.zeroValue140
  t75 := Tryd.underlying142
  a75 := Tryd.isAgg142
  z75 := Tryd.sizeOf142
  v75 := Tryd.zeroValue142
  t76 := Tryd.underlying143
  a76 := Tryd.isAgg143
  z76 := Tryd.sizeOf143
  v76 := Tryd.zeroValue143
  t105 := Tryd.underlying200
  a105 := Tryd.isAgg200
  z105 := Tryd.sizeOf200
  v105 := Tryd.zeroValue200
  t107 := Tryd.underlying168
  a107 := Tryd.isAgg168
  z107 := Tryd.sizeOf168
  v107 := Tryd.zeroValue168
  t119 := Tryd.underlying132
  a119 := Tryd.isAgg132
  z119 := Tryd.sizeOf132
  t127 := Tryd.underlying170
  a127 := Tryd.isAgg170
  z127 := Tryd.sizeOf170
  v127 := Tryd.zeroValue170
  t138 := Tryd.underlying227
  a138 := Tryd.isAgg227
  z138 := Tryd.sizeOf227
  v138 := Tryd.zeroValue227
  t139 := Tryd.underlying228
  a139 := Tryd.isAgg228
  z139 := Tryd.sizeOf228
  v139 := Tryd.zeroValue228
  t160 := Tryd.underlying229
  a160 := Tryd.isAgg229
  z160 := Tryd.sizeOf229
  v160 := Tryd.zeroValue229
  t162 := Tryd.underlying222
  a162 := Tryd.isAgg222
  z162 := Tryd.sizeOf222
  v162 := Tryd.zeroValue222
  t164 := Tryd.underlying204
  a164 := Tryd.isAgg204
  z164 := Tryd.sizeOf204
  v164 := Tryd.zeroValue204
  t203 := Tryd.underlying220
  a203 := Tryd.isAgg220
  z203 := Tryd.sizeOf220
  v203 := Tryd.zeroValue220
  t206 := Tryd.underlying235
  a206 := Tryd.isAgg235
  z206 := Tryd.sizeOf235
  v206 := Tryd.zeroValue235
  t208 := Tryd.underlying237
  a208 := Tryd.isAgg237
  z208 := Tryd.sizeOf237
  v208 := Tryd.zeroValue237
  g3 := by kernel_rfl
  g4 := by kernel_rfl
  g13 := by kernel_rfl }
theorem Tryd.Builder_Extra_159 : Builder.Extra Tryd.prog Tryd.lays159_ren := {
  sizeBuilder := by kernel_rfl
  liesBuilder := by kernel_rfl
  t5 := Tryd.underlying5
  a5 := Tryd.isAgg5
  z5 := Tryd.sizeOf5
  v5 := Tryd.zeroValue5
  infoByte := by kernel_rfl
  cellsByte := by kernel_rfl
  sizeByte := by kernel_rfl
  neB5 := by decide }
open Go.RowKit in
/-- strings.ToLower: "ToLower returns s with all Unicode letters mapped to their lower case.": ON ASCII TEXT OF AT MOST 2^47 BYTES. Below the heap's end the world is as it was: where a letter turns, the call makes a builder and its buffer. (LAID: no walk: one application.) -/
theorem Tryd.strings_ToLower_ascii (s : ByteArray) (w : World) (hs : s.size ≤ 140737488355328) (hascii : ∀ (j : Nat) (b : UInt8), s.data.toList[j]? = some b → b.toNat < 128) :
    Calls Tryd.prog 111 #[.string s] w fun e w' => e = .returned (.string ⟨(Lib.toLowerA s.data.toList).toArray⟩) ∧ Below w.heap.size w w' := Any.strings_ToLower_ascii Tryd.lays159 Tryd.Builder_Extra_159 s w hs hascii
def Tryd.lays118_ren : Go.Shelf.Ren := ⟨fun | 118 => 165 | n => n, fun | 21 => 21 | 3 => 3 | 4 => 4 | n => n, fun | n => n⟩
theorem Tryd.lays118 : Go.Proofs.Lays.n118 Tryd.prog Tryd.lays118_ren := {
  mixed := by kernel_rfl
  f118 := Tryd.func165.trans (congrArg some (by kernel_rfl))
  t3 := Tryd.underlying3
  a3 := Tryd.isAgg3
  z3 := Tryd.sizeOf3
  v3 := Tryd.zeroValue3
  t4 := Tryd.underlying4
  a4 := Tryd.isAgg4
  z4 := Tryd.sizeOf4
  v4 := Tryd.zeroValue4
  t21 := Tryd.underlying21
  a21 := Tryd.isAgg21
  z21 := Tryd.sizeOf21
  v21 := Tryd.zeroValue21 }
/-- utf8.RuneLen: "RuneLen returns the number of bytes in the UTF-8 encoding of the rune. It returns -1 if the rune is not a valid value to encode in UTF-8.": IT RETURNS 'Lib.runeLen r'; the world is as it was. (LAID: no walk: one application.) -/
theorem Tryd.utf8_RuneLen (r : Int) (w : World) :
    Calls Tryd.prog 165 #[.int .i32 r] w fun e w' => e = .returned (.int .i64 (Lib.runeLen r)) ∧ w' = w := Any.utf8_RuneLen Tryd.lays118 r w
def Tryd.lays128_ren : Go.Shelf.Ren := ⟨fun | 128 => 160 | n => n, fun | 51 => 46 | 3 => 3 | 4 => 4 | 46 => 106 | 5 => 5 | 9 => 9 | n => n, fun | n => n⟩
theorem Tryd.lays128 : Go.Proofs.Lays.n128 Tryd.prog Tryd.lays128_ren := {
  mixed := by kernel_rfl
  f128 := Tryd.func160.trans (congrArg some (by kernel_rfl))
  t3 := Tryd.underlying3
  a3 := Tryd.isAgg3
  z3 := Tryd.sizeOf3
  v3 := Tryd.zeroValue3
  t4 := Tryd.underlying4
  a4 := Tryd.isAgg4
  z4 := Tryd.sizeOf4
  v4 := Tryd.zeroValue4
  t5 := Tryd.underlying5
  a5 := Tryd.isAgg5
  z5 := Tryd.sizeOf5
  v5 := Tryd.zeroValue5
  t9 := Tryd.underlying9
  a9 := Tryd.isAgg9
  z9 := Tryd.sizeOf9
  v9 := Tryd.zeroValue9
  t46 := Tryd.underlying106
  a46 := Tryd.isAgg106
  z46 := Tryd.sizeOf106
  v46 := Tryd.zeroValue106
  t51 := Tryd.underlying46
  a51 := Tryd.isAgg46
  z51 := Tryd.sizeOf46
  v51 := Tryd.zeroValue46 }
/-- bits.Len32: "Len32 returns the minimum number of bits required to represent x; the result is 0 for x == 0.": IT RETURNS 'Lib.bitLen x'; the world is as it was. ('h0', 'h1': x is a uint32.) (LAID: no walk: one application.) -/
theorem Tryd.bits_Len32 (x : Int) (w : World) (h0 : 0 ≤ x) (h1 : x ≤ 4294967295) :
    Calls Tryd.prog 160 #[.int .u32 x] w fun e w' => e = .returned (.int .i64 (Lib.bitLen x.toNat)) ∧ w' = w := Any.bits_Len32 Tryd.lays128 x w h0 h1
def Tryd.lays125_ren : Go.Shelf.Ren := ⟨fun | 125 => 131 | 128 => 160 | 129 => 161 | n => n, fun | 46 => 106 | 3 => 3 | 51 => 46 | 53 => 98 | 4 => 4 | 5 => 5 | 9 => 9 | n => n, fun | n => n⟩
theorem Tryd.lays125 : Go.Proofs.Lays.n125 Tryd.prog Tryd.lays125_ren := {
  mixed := by kernel_rfl
  f125 := Tryd.func131.trans (congrArg some (by kernel_rfl))
  f128 := Tryd.func160.trans (congrArg some (by kernel_rfl))
  f129 := Tryd.func161.trans (congrArg some (by kernel_rfl))
  t3 := Tryd.underlying3
  a3 := Tryd.isAgg3
  z3 := Tryd.sizeOf3
  v3 := Tryd.zeroValue3
  t4 := Tryd.underlying4
  a4 := Tryd.isAgg4
  z4 := Tryd.sizeOf4
  v4 := Tryd.zeroValue4
  t5 := Tryd.underlying5
  a5 := Tryd.isAgg5
  z5 := Tryd.sizeOf5
  v5 := Tryd.zeroValue5
  t9 := Tryd.underlying9
  a9 := Tryd.isAgg9
  z9 := Tryd.sizeOf9
  v9 := Tryd.zeroValue9
  t46 := Tryd.underlying106
  a46 := Tryd.isAgg106
  z46 := Tryd.sizeOf106
  v46 := Tryd.zeroValue106
  t51 := Tryd.underlying46
  a51 := Tryd.isAgg46
  z51 := Tryd.sizeOf46
  v51 := Tryd.zeroValue46
  t53 := Tryd.underlying98
  a53 := Tryd.isAgg98
  z53 := Tryd.sizeOf98
  v53 := Tryd.zeroValue98 }
/-- bits.Len: "Len returns the minimum number of bits required to represent x; the result is 0 for x == 0.": IT RETURNS 'Lib.bitLen x'; the world is as it was. (A uint has 64 bits in the model.) ITS CALLEE bits.Len64 IS MET BY ITS OWN CONTRACT OFF THE SHELF (lay that first). (LAID: no walk: one application.) -/
theorem Tryd.bits_Len (x : Int) (w : World) (h0 : 0 ≤ x) (h1 : x ≤ 18446744073709551615) :
    Calls Tryd.prog 131 #[.int .u64 x] w fun e w' => e = .returned (.int .i64 (Lib.bitLen x.toNat)) ∧ w' = w := Any.bits_Len Tryd.lays125 x w h0 h1
def Tryd.lays137_ren : Go.Shelf.Ren := ⟨fun | 137 => 78 | 217 => 106 | 266 => 133 | n => n, fun | 9 => 9 | 5 => 5 | 3 => 3 | n => n, fun | n => n⟩
theorem Tryd.lays137 : Go.Proofs.Lays.n137 Tryd.prog Tryd.lays137_ren := {
  mixed := by kernel_rfl
  f137 := Tryd.func78.trans (congrArg some (by kernel_rfl))
  f217 := Tryd.func106.trans (congrArg some (by kernel_rfl))
  f266 := Tryd.func133.trans (congrArg some (by kernel_rfl))
  t3 := Tryd.underlying3
  a3 := Tryd.isAgg3
  z3 := Tryd.sizeOf3
  v3 := Tryd.zeroValue3
  t5 := Tryd.underlying5
  a5 := Tryd.isAgg5
  z5 := Tryd.sizeOf5
  v5 := Tryd.zeroValue5
  t9 := Tryd.underlying9
  a9 := Tryd.isAgg9
  z9 := Tryd.sizeOf9
  v9 := Tryd.zeroValue9 }
open Go.RowKit in
/-- strings.IndexByte: "IndexByte returns the index of the first instance of c in s, or -1 if c is not present in s.": IT RETURNS 'Lib.indexByte s c'; the world is as it was. (LAID: no walk: one application.) -/
theorem Tryd.strings_IndexByte (s : ByteArray) (c : Int) (w : World) :
    Calls Tryd.prog 78 #[.string s, .int .u8 c] w fun e w' => e = .returned (.int .i64 (Lib.indexByte s.data.toList c.toNat.toUInt8)) ∧ w' = w := Any.strings_IndexByte Tryd.lays137 s c w
open Go.RowKit in
/-- (*strings.Builder).Len: "Len returns the number of accumulated bytes; b.Len() == len(b.String()).": the world is as it was. (THE FORM '_f': 'Lib.IsBuilderF'.) (LAID: no walk: one application.) -/
theorem Tryd.Builder_Len_f (B b : Nat) (bs : List Value) (w : World) (h : Lib.IsBuilderF 140 5 B b bs w) :
    Calls Tryd.prog 114 #[.pointer (some ⟨b, 0, none⟩)] w fun e w' => e = .returned (.int .i64 bs.length) ∧ w' = w := Any.Builder_Len_f Tryd.lays170 B b bs w h
open Go.RowKit in
/-- (*strings.Builder).String: "String returns the accumulated string.": OF A BUILDER THAT HOLDS AT LEAST ONE BYTE. ✋ THE MODEL FREEZES THOSE BYTES IN THE BUFFER (unsafe.String): a later write INTO them ends the model's run without an answer; a later append BEHIND them goes on. The statement's order of evaluation is drawn: one draw. THE FORM '_f': IT SAYS BESIDES THAT THE BUILDER IS A BUILDER STILL ('Lib.IsBuilderF', the same bytes): SO IT CAN BE WRITTEN ON: 'b.WriteString(b.String()[:k])'. (LAID: no walk: one application.) -/
theorem Tryd.Builder_String_f (B b : Nat) (l : List UInt8) (w : World) (h : Lib.IsBuilderF 140 5 B b (Lib.byteCells l) w) (h0 : l ≠ []) :
    Calls Tryd.prog 115 #[.pointer (some ⟨b, 0, none⟩)] w fun e w' => e = .returned (.string ⟨l.toArray⟩) ∧ (Lib.IsBuilderF 140 5 B b (Lib.byteCells l) w' ∧ Below B w w') := Any.Builder_String_f Tryd.lays169 Tryd.Builder_Extra_169 B b l w h h0
open Go.RowKit in
/-- (*strings.Builder).String OF A BUILDER THAT HOLDS NO BYTE: the empty string; THE FORM '_f': a builder still. (LAID: no walk: one application.) -/
theorem Tryd.Builder_String_empty_f (B b : Nat) (w : World) (h : Lib.IsBuilderF 140 5 B b [] w) (hBw : B ≤ w.heap.size) :
    Calls Tryd.prog 115 #[.pointer (some ⟨b, 0, none⟩)] w fun e w' => e = .returned (.string ⟨#[]⟩) ∧ (Lib.IsBuilderF 140 5 B b [] w' ∧ Below B w w') := Any.Builder_String_empty_f Tryd.lays169 Tryd.Builder_Extra_169 B b w h hBw
open Go.RowKit in
/-- (*strings.Builder).String: "String returns the accumulated string.": WHATEVER THE BUILDER HOLDS; THE FORM '_f': OF A BUILDER THAT MAY HAVE BEEN READ BEFORE; AND IT IS A BUILDER STILL, holding the same bytes: it can be written on. (LAID: no walk: one application.) -/
theorem Tryd.Builder_String_any_f (B b : Nat) (l : List UInt8) (w : World) (h : Lib.IsBuilderF 140 5 B b (Lib.byteCells l) w) (hBw : B ≤ w.heap.size) :
    Calls Tryd.prog 115 #[.pointer (some ⟨b, 0, none⟩)] w fun e w' => e = .returned (.string ⟨l.toArray⟩) ∧ (Lib.IsBuilderF 140 5 B b (Lib.byteCells l) w' ∧ Below B w w') := Any.Builder_String_any_f Tryd.lays169 Tryd.Builder_Extra_169 B b l w h hBw
open Go.RowKit in
/-- (*strings.Builder).String: "String returns the accumulated string.": OF A BUILDER THAT HOLDS AT LEAST ONE BYTE. ✋ THE MODEL FREEZES THOSE BYTES IN THE BUFFER (unsafe.String): a later write INTO them ends the model's run without an answer; a later append BEHIND them goes on. The statement's order of evaluation is drawn: one draw. THE FORM '_k': OVER 'Lib.IsBuilderF' (a builder that 'String()' may have read), AND WITH THE FRAME THAT REACHES ABOVE THE BUILDER: 'Lib.OthersKept': every block that is not b and is no row of uint8's stands as it stood: the iterator of a range among them. (LAID: no walk: one application.) -/
theorem Tryd.Builder_String_k (B b : Nat) (l : List UInt8) (w : World) (h : Lib.IsBuilderF 140 5 B b (Lib.byteCells l) w) (h0 : l ≠ []) :
    Calls Tryd.prog 115 #[.pointer (some ⟨b, 0, none⟩)] w fun e w' => e = .returned (.string ⟨l.toArray⟩) ∧ (Lib.IsBuilderF 140 5 B b (Lib.byteCells l) w' ∧ Below B w w' ∧ Lib.OthersKept 5 (some b) w w') := Any.Builder_String_k Tryd.lays169 Tryd.Builder_Extra_169 B b l w h h0
open Go.RowKit in
/-- (*strings.Builder).String OF A BUILDER THAT HOLDS NO BYTE: the empty string; THE FORM '_k': OVER 'Lib.IsBuilderF' (a builder that 'String()' may have read), AND WITH THE FRAME THAT REACHES ABOVE THE BUILDER: 'Lib.OthersKept': every block that is not b and is no row of uint8's stands as it stood: the iterator of a range among them. (LAID: no walk: one application.) -/
theorem Tryd.Builder_String_empty_k (B b : Nat) (w : World) (h : Lib.IsBuilderF 140 5 B b [] w) (hBw : B ≤ w.heap.size) :
    Calls Tryd.prog 115 #[.pointer (some ⟨b, 0, none⟩)] w fun e w' => e = .returned (.string ⟨#[]⟩) ∧ (Lib.IsBuilderF 140 5 B b [] w' ∧ Below B w w' ∧ Lib.OthersKept 5 (some b) w w') := Any.Builder_String_empty_k Tryd.lays169 Tryd.Builder_Extra_169 B b w h hBw
open Go.RowKit in
/-- (*strings.Builder).String: "String returns the accumulated string.": WHATEVER THE BUILDER HOLDS; THE FORM '_k': OVER 'Lib.IsBuilderF' (a builder that 'String()' may have read), AND WITH THE FRAME THAT REACHES ABOVE THE BUILDER: 'Lib.OthersKept': every block that is not b and is no row of uint8's stands as it stood: the iterator of a range among them. (LAID: no walk: one application.) -/
theorem Tryd.Builder_String_any_k (B b : Nat) (l : List UInt8) (w : World) (h : Lib.IsBuilderF 140 5 B b (Lib.byteCells l) w) (hBw : B ≤ w.heap.size) :
    Calls Tryd.prog 115 #[.pointer (some ⟨b, 0, none⟩)] w fun e w' => e = .returned (.string ⟨l.toArray⟩) ∧ (Lib.IsBuilderF 140 5 B b (Lib.byteCells l) w' ∧ Below B w w' ∧ Lib.OthersKept 5 (some b) w w') := Any.Builder_String_any_k Tryd.lays169 Tryd.Builder_Extra_169 B b l w h hBw
open Go.RowKit in
/-- (*strings.Builder).grow (no doc but "grow copies the buffer to a new, larger buffer so that there are at least n bytes of capacity beyond len(b.buf)."): AT A BUILDER WITHOUT A BUFFER: a new row of whatever bytes for its buffer, none of them its own yet. Three draws. (LAID: no walk: one application.) -/
theorem Tryd.Builder_grow_fresh_cap (B b n : Nat) (w : World) (hB : B ≤ b) (hbk : w.heap[b]? = some (.cells #[.pointer (some ⟨b, 0, none⟩), .slice none 0 0] 140 (0, 0))) (hBw : B ≤ w.heap.size) (hn : n ≤ 281474976710656) :
    Calls Tryd.prog 150 #[.pointer (some ⟨b, 0, none⟩), .int .i64 n] w fun e w' => e = .returned (.tuple #[]) ∧ (Lib.BuilderAt 140 5 B b (.pointer (some ⟨b, 0, none⟩)) [] w' ∧ Below B w w') ∧ ∃ p cap, w'.cell? ⟨b, 1, none⟩ = some (.slice p 0 cap) ∧ n ≤ cap := Any.Builder_grow_fresh_cap Tryd.lays241 Tryd.Builder_Extra_241 B b n w hB hbk hBw hn
open Go.RowKit in
/-- (*strings.Builder).Grow AT A BUILDER THAT HAS NOT BEEN WRITTEN ('var b strings.Builder; b.Grow(n)'): "Grow grows b's capacity, if necessary, to guarantee space for another n bytes.": it holds no byte behind it as before it. (LAID: no walk: one application.) -/
theorem Tryd.Builder_Grow_fresh_cap (B b n : Nat) (w : World) (hB : B ≤ b) (hbk : w.heap[b]? = some (.cells #[.pointer none, .slice none 0 0] 140 (0, 0))) (hBw : B ≤ w.heap.size) (hn : n ≤ 281474976710656) :
    Calls Tryd.prog 128 #[.pointer (some ⟨b, 0, none⟩), .int .i64 n] w fun e w' => e = .returned (.tuple #[]) ∧ (Lib.BuilderAt 140 5 B b (.pointer (some ⟨b, 0, none⟩)) [] w' ∧ Below B w w') ∧ ∃ p cap, w'.cell? ⟨b, 1, none⟩ = some (.slice p 0 cap) ∧ n ≤ cap := Any.Builder_Grow_fresh_cap Tryd.lays165 Tryd.Builder_Extra_165 B b n w hB hbk hBw hn
def Tryd.lays129_ren : Go.Shelf.Ren := ⟨fun | 129 => 161 | n => n, fun | 53 => 98 | 3 => 3 | 4 => 4 | 46 => 106 | 5 => 5 | 9 => 9 | n => n, fun | n => n⟩
theorem Tryd.lays129 : Go.Proofs.Lays.n129 Tryd.prog Tryd.lays129_ren := {
  mixed := by kernel_rfl
  f129 := Tryd.func161.trans (congrArg some (by kernel_rfl))
  t3 := Tryd.underlying3
  a3 := Tryd.isAgg3
  z3 := Tryd.sizeOf3
  v3 := Tryd.zeroValue3
  t4 := Tryd.underlying4
  a4 := Tryd.isAgg4
  z4 := Tryd.sizeOf4
  v4 := Tryd.zeroValue4
  t5 := Tryd.underlying5
  a5 := Tryd.isAgg5
  z5 := Tryd.sizeOf5
  v5 := Tryd.zeroValue5
  t9 := Tryd.underlying9
  a9 := Tryd.isAgg9
  z9 := Tryd.sizeOf9
  v9 := Tryd.zeroValue9
  t46 := Tryd.underlying106
  a46 := Tryd.isAgg106
  z46 := Tryd.sizeOf106
  v46 := Tryd.zeroValue106
  t53 := Tryd.underlying98
  a53 := Tryd.isAgg98
  z53 := Tryd.sizeOf98
  v53 := Tryd.zeroValue98 }
/-- bits.Len64: "Len64 returns the minimum number of bits required to represent x; the result is 0 for x == 0.": IT RETURNS 'Lib.bitLen x'; the world is as it was. ('h0', 'h1': x is a uint64.) (LAID: no walk: one application.) -/
theorem Tryd.bits_Len64 (x : Int) (w : World) (h0 : 0 ≤ x) (h1 : x ≤ 18446744073709551615) :
    Calls Tryd.prog 161 #[.int .u64 x] w fun e w' => e = .returned (.int .i64 (Lib.bitLen x.toNat)) ∧ w' = w := Any.bits_Len64 Tryd.lays129 x w h0 h1
def Tryd.lays317_ren : Go.Shelf.Ren := ⟨fun | 317 => 170 | n => n, fun | 3 => 3 | 46 => 106 | n => n, fun | n => n⟩
theorem Tryd.lays317 : Go.Proofs.Lays.n317 Tryd.prog Tryd.lays317_ren := {
  mixed := by kernel_rfl
  f317 := Tryd.func170.trans (congrArg some (by kernel_rfl))
  t3 := Tryd.underlying3
  a3 := Tryd.isAgg3
  z3 := Tryd.sizeOf3
  v3 := Tryd.zeroValue3
  t46 := Tryd.underlying106
  a46 := Tryd.isAgg106
  z46 := Tryd.sizeOf106
  v46 := Tryd.zeroValue106 }
open Go.Lib in
/-- internal/strconv.log10Pow2: "log10Pow2(x) returns ⌊log₁₀ 2**x⌋ = ⌊x * log₁₀ 2⌋.": '(x * 78913) >> 18', at an x up to 64 (a length in bits). The world is as it was. (LAID: no walk: one application.) -/
theorem Tryd.internal_strconv_log10Pow2 (x : Nat) (h : x ≤ 64) (w : World) :
    Calls Tryd.prog 170 #[.int .i64 x] w fun e w' => e = .returned (.int .i64 (Lib.l10 x)) ∧ w' = w := Any.internal_strconv_log10Pow2 Tryd.lays317 x h w
def Tryd.lays318_ren : Go.Shelf.Ren := ⟨fun | 318 => 171 | n => n, fun | 3 => 3 | 4 => 4 | n => n, fun | n => n⟩
theorem Tryd.lays318 : Go.Proofs.Lays.n318 Tryd.prog Tryd.lays318_ren := {
  mixed := by kernel_rfl
  f318 := Tryd.func171.trans (congrArg some (by kernel_rfl))
  t3 := Tryd.underlying3
  a3 := Tryd.isAgg3
  z3 := Tryd.sizeOf3
  v3 := Tryd.zeroValue3
  t4 := Tryd.underlying4
  a4 := Tryd.isAgg4
  z4 := Tryd.sizeOf4
  v4 := Tryd.zeroValue4 }
open Go.Lib in
/-- internal/strconv.bool2: "bool2 converts b to an integer: 1 for true, 0 for false." The world is as it was. (LAID: no walk: one application.) -/
theorem Tryd.internal_strconv_bool2_int (b : Bool) (w : World) :
    Calls Tryd.prog 171 #[.bool b] w fun e w' => e = .returned (.int .i64 (if b then 1 else 0)) ∧ w' = w := Any.internal_strconv_bool2_int Tryd.lays318 b w
def Tryd.lays283_ren : Go.Shelf.Ren := ⟨fun | 283 => 144 | n => n, fun | 3 => 3 | 9 => 9 | 4 => 4 | n => n, fun | n => n⟩
theorem Tryd.lays283 : Go.Proofs.Lays.n283 Tryd.prog Tryd.lays283_ren := {
  mixed := by kernel_rfl
  f283 := Tryd.func144.trans (congrArg some (by kernel_rfl))
  t3 := Tryd.underlying3
  a3 := Tryd.isAgg3
  z3 := Tryd.sizeOf3
  v3 := Tryd.zeroValue3
  t4 := Tryd.underlying4
  a4 := Tryd.isAgg4
  z4 := Tryd.sizeOf4
  v4 := Tryd.zeroValue4
  t9 := Tryd.underlying9
  a9 := Tryd.isAgg9
  z9 := Tryd.sizeOf9
  v9 := Tryd.zeroValue9 }
open Go.Lib in
/-- internal/strconv.small: "small returns the string for an i with 0 <= i < nSmalls.": i's decimal numeral. The world is as it was. (LAID: no walk: one application.) -/
theorem Tryd.internal_strconv_small (i : Nat) (h : i < 100) (w : World) :
    Calls Tryd.prog 144 #[.int .i64 i] w fun e w' => e = .returned (.string ⟨(Lib.decDigits i).toArray⟩) ∧ w' = w := Any.internal_strconv_small Tryd.lays283 i h w
def Tryd.laysM284_ren : Go.Shelf.Ren := ⟨fun | 284 => 145 | 129 => 161 | 317 => 170 | 318 => 171 | n => n, fun | 53 => 98 | 3 => 3 | 212 => 208 | 0 => 0 | 4 => 4 | 46 => 106 | 5 => 5 | 9 => 9 | n => n, fun | 17 => 3 | n => n⟩
theorem Tryd.laysM284 : Go.Proofs.LaysM.n284 Tryd.prog Tryd.laysM284_ren := {
  mixed := by kernel_rfl
  f129 := Tryd.func161.trans (congrArg some (by kernel_rfl))
  f284 := Tryd.func145.trans (congrArg some (by kernel_rfl))
  f317 := Tryd.func170.trans (congrArg some (by kernel_rfl))
  f318 := Tryd.func171.trans (congrArg some (by kernel_rfl))
  t0 := Tryd.underlying0
  a0 := Tryd.isAgg0
  z0 := Tryd.sizeOf0
  v0 := Tryd.zeroValue0
  t3 := Tryd.underlying3
  a3 := Tryd.isAgg3
  z3 := Tryd.sizeOf3
  v3 := Tryd.zeroValue3
  t4 := Tryd.underlying4
  a4 := Tryd.isAgg4
  z4 := Tryd.sizeOf4
  v4 := Tryd.zeroValue4
  t5 := Tryd.underlying5
  a5 := Tryd.isAgg5
  z5 := Tryd.sizeOf5
  v5 := Tryd.zeroValue5
  t9 := Tryd.underlying9
  a9 := Tryd.isAgg9
  z9 := Tryd.sizeOf9
  v9 := Tryd.zeroValue9
  t46 := Tryd.underlying106
  a46 := Tryd.isAgg106
  z46 := Tryd.sizeOf106
  v46 := Tryd.zeroValue106
  t53 := Tryd.underlying98
  a53 := Tryd.isAgg98
  z53 := Tryd.sizeOf98
  v53 := Tryd.zeroValue98
  t212 := Tryd.underlying208
  a212 := Tryd.isAgg208
  z212 := Tryd.sizeOf208
  v212 := Tryd.zeroValue208
  g17 := by kernel_rfl
  i0 := by kernel_rfl
  i3 := by kernel_rfl
  i4 := by kernel_rfl
  i5 := by kernel_rfl
  i9 := by kernel_rfl
  i46 := by kernel_rfl
  i53 := by kernel_rfl
  i212 := by kernel_rfl
  m17 := by kernel_rfl }
open Go.Lib in
/-- internal/strconv.numDigits, at a d that is not 0: THE NUMBER OF d's DECIMAL DIGITS. The world is as it was. (LAID: no walk: one application.) -/
theorem Tryd.internal_strconv_numDigits (u : Nat) (h1 : 1 ≤ u) (h2 : u < 18446744073709551616) (w : World) (htab : Lib.TabIs Tryd.prog w "internal/strconv.uint64pow10" .u64 Lib.pow10Tab) :
    Calls Tryd.prog 145 #[.int .u64 u] w fun e w' => e = .returned (.int .i64 (Lib.nDigits u)) ∧ w' = w := Any.internal_strconv_numDigits Tryd.laysM284 u h1 h2 w htab
def Tryd.lays285_ren : Go.Shelf.Ren := ⟨fun | 285 => 146 | n => n, fun | 37 => 49 | 53 => 98 | 3 => 3 | 4 => 4 | 51 => 46 | 9 => 9 | 5 => 5 | 0 => 0 | n => n, fun | n => n⟩
theorem Tryd.lays285 : Go.Proofs.Lays.n285 Tryd.prog Tryd.lays285_ren := {
  mixed := by kernel_rfl
  f285 := Tryd.func146.trans (congrArg some (by kernel_rfl))
  t0 := Tryd.underlying0
  a0 := Tryd.isAgg0
  z0 := Tryd.sizeOf0
  v0 := Tryd.zeroValue0
  t3 := Tryd.underlying3
  a3 := Tryd.isAgg3
  z3 := Tryd.sizeOf3
  v3 := Tryd.zeroValue3
  t4 := Tryd.underlying4
  a4 := Tryd.isAgg4
  z4 := Tryd.sizeOf4
  v4 := Tryd.zeroValue4
  t5 := Tryd.underlying5
  a5 := Tryd.isAgg5
  z5 := Tryd.sizeOf5
  v5 := Tryd.zeroValue5
  t9 := Tryd.underlying9
  a9 := Tryd.isAgg9
  z9 := Tryd.sizeOf9
  v9 := Tryd.zeroValue9
  t37 := Tryd.underlying49
  a37 := Tryd.isAgg49
  z37 := Tryd.sizeOf49
  v37 := Tryd.zeroValue49
  t51 := Tryd.underlying46
  a51 := Tryd.isAgg46
  z51 := Tryd.sizeOf46
  v51 := Tryd.zeroValue46
  t53 := Tryd.underlying98
  a53 := Tryd.isAgg98
  z53 := Tryd.sizeOf98
  v53 := Tryd.zeroValue98 }
open Go.RowKit Go.Sort Go.Lib in
/-- internal/strconv.formatBase10: "formatBase10 formats the decimal representation of u into a. The caller is responsible for ensuring that a is big enough to hold u. If a is too big, leading zeros will be filled in as needed.": THE ROW HOLDS u's DIGITS ('FmtInv .. 0 ..': every place t holds 'dg u (len - 1 - t)'); all else is as it was but for the count of draws. (LAID: no walk: one application.) -/
theorem Tryd.internal_strconv_formatBase10 (blk off cap : Nat) (u : Nat) (d : Array UInt8) (w : World) (hH : Holds (fun (b : UInt8) => Value.int .u8 (b.toNat : Int)) w blk off d) (hu : u < 10 ^ d.size) (hu64 : u < 18446744073709551616) (hsz : d.size < 4611686018427387904) :
    Calls Tryd.prog 146 #[.slice (some ⟨blk, off, none⟩) d.size cap, .int .u64 u] w fun e w' =>
      e = .returned (.tuple #[]) ∧ ∃ (n v' : Nat) (dk : Array UInt8), w' = (putRow (fun (b : UInt8) => Value.int .u8 (b.toNat : Int)) w blk off dk).drewN n ∧ FmtInv d.size u 0 v' dk := Any.internal_strconv_formatBase10 Tryd.lays285 blk off cap u d w hH hu hu64 hsz
def Tryd.laysM246_ren : Go.Shelf.Ren := ⟨fun | 246 => 125 | 283 => 144 | 284 => 145 | 285 => 146 | 286 => 147 | 129 => 161 | 317 => 170 | 318 => 171 | 319 => 172 | 320 => 173 | 337 => 183 | 338 => 184 | n => n, fun | 2 => 2 | 3 => 3 | 9 => 9 | 4 => 4 | 171 => 172 | 0 => 0 | 53 => 98 | 37 => 49 | 5 => 5 | 173 => 175 | 212 => 208 | 51 => 46 | 20 => 20 | 213 => 209 | 46 => 106 | 232 => 232 | 233 => 233 | n => n, fun | 17 => 3 | 18 => 7 | 19 => 8 | n => n⟩
theorem Tryd.laysM246 : Go.Proofs.LaysM.n246 Tryd.prog Tryd.laysM246_ren := {
  mixed := by kernel_rfl
  f129 := Tryd.func161.trans (congrArg some (by kernel_rfl))
  f246 := Tryd.func125.trans (congrArg some (by kernel_rfl))
  f283 := Tryd.func144.trans (congrArg some (by kernel_rfl))
  f284 := Tryd.func145.trans (congrArg some (by kernel_rfl))
  f285 := Tryd.func146.trans (congrArg some (by kernel_rfl))
  f286 := Tryd.func147.trans (congrArg some (by kernel_rfl))
  f317 := Tryd.func170.trans (congrArg some (by kernel_rfl))
  f318 := Tryd.func171.trans (congrArg some (by kernel_rfl))
  f319 := Tryd.func172.trans (congrArg some (by kernel_rfl))
  f320 := Tryd.func173.trans (congrArg some (by kernel_rfl))
  f337 := Tryd.func183.trans (congrArg some (by kernel_rfl))
  f338 := Tryd.func184.trans (congrArg some (by kernel_rfl))
  t0 := Tryd.underlying0
  a0 := Tryd.isAgg0
  z0 := Tryd.sizeOf0
  v0 := Tryd.zeroValue0
  t2 := Tryd.underlying2
  a2 := Tryd.isAgg2
  z2 := Tryd.sizeOf2
  v2 := Tryd.zeroValue2
  t3 := Tryd.underlying3
  a3 := Tryd.isAgg3
  z3 := Tryd.sizeOf3
  v3 := Tryd.zeroValue3
  t4 := Tryd.underlying4
  a4 := Tryd.isAgg4
  z4 := Tryd.sizeOf4
  v4 := Tryd.zeroValue4
  t5 := Tryd.underlying5
  a5 := Tryd.isAgg5
  z5 := Tryd.sizeOf5
  v5 := Tryd.zeroValue5
  t9 := Tryd.underlying9
  a9 := Tryd.isAgg9
  z9 := Tryd.sizeOf9
  v9 := Tryd.zeroValue9
  t20 := Tryd.underlying20
  a20 := Tryd.isAgg20
  z20 := Tryd.sizeOf20
  v20 := Tryd.zeroValue20
  t37 := Tryd.underlying49
  a37 := Tryd.isAgg49
  z37 := Tryd.sizeOf49
  v37 := Tryd.zeroValue49
  t46 := Tryd.underlying106
  a46 := Tryd.isAgg106
  z46 := Tryd.sizeOf106
  v46 := Tryd.zeroValue106
  t51 := Tryd.underlying46
  a51 := Tryd.isAgg46
  z51 := Tryd.sizeOf46
  v51 := Tryd.zeroValue46
  t53 := Tryd.underlying98
  a53 := Tryd.isAgg98
  z53 := Tryd.sizeOf98
  v53 := Tryd.zeroValue98
  t171 := Tryd.underlying172
  a171 := Tryd.isAgg172
  z171 := Tryd.sizeOf172
  v171 := Tryd.zeroValue172
  t173 := Tryd.underlying175
  a173 := Tryd.isAgg175
  z173 := Tryd.sizeOf175
  v173 := Tryd.zeroValue175
  t212 := Tryd.underlying208
  a212 := Tryd.isAgg208
  z212 := Tryd.sizeOf208
  v212 := Tryd.zeroValue208
  t213 := Tryd.underlying209
  a213 := Tryd.isAgg209
  z213 := Tryd.sizeOf209
  t232 := Tryd.underlying232
  a232 := Tryd.isAgg232
  z232 := Tryd.sizeOf232
  v232 := Tryd.zeroValue232
  t233 := Tryd.underlying233
  a233 := Tryd.isAgg233
  z233 := Tryd.sizeOf233
  v233 := Tryd.zeroValue233
  g17 := by kernel_rfl
  g18 := by kernel_rfl
  g19 := by kernel_rfl
  i0 := by kernel_rfl
  i2 := by kernel_rfl
  i3 := by kernel_rfl
  i4 := by kernel_rfl
  i5 := by kernel_rfl
  i9 := by kernel_rfl
  i20 := by kernel_rfl
  i37 := by kernel_rfl
  i46 := by kernel_rfl
  i51 := by kernel_rfl
  i53 := by kernel_rfl
  i171 := by kernel_rfl
  i173 := by kernel_rfl
  i212 := by kernel_rfl
  i232 := by kernel_rfl
  i233 := by kernel_rfl
  m17 := by kernel_rfl
  m18 := by kernel_rfl
  m19 := by kernel_rfl }
open Go.RowKit Go.Sort Go.Lib in
/-- internal/strconv.FormatInt: "FormatInt returns the string representation of i in the given base": AT BASE 10: i's decimal numeral, for every int64. The world behind the call: the world before it, new blocks behind the heap, draws. (LAID: no walk: one application.) -/
theorem Tryd.internal_strconv_FormatInt_10 (n : Int) (h0 : -9223372036854775808 ≤ n) (h1 : n ≤ 9223372036854775807) (w : World) (htab : Lib.TabIs Tryd.prog w "internal/strconv.uint64pow10" .u64 Lib.pow10Tab) :
    Calls Tryd.prog 125 #[.int .i64 n, .int .i64 10] w fun e w' => e = .returned (.string ⟨(Lib.itoa n).toArray⟩) ∧ ∃ k os, w' = grow (w.drewN k) os := Any.internal_strconv_FormatInt_10 Tryd.laysM246 n h0 h1 w htab
def Tryd.lays246_ren : Go.Shelf.Ren := ⟨fun | 246 => 125 | 283 => 144 | 284 => 145 | 285 => 146 | 286 => 147 | 129 => 161 | 317 => 170 | 318 => 171 | 319 => 172 | 320 => 173 | 337 => 183 | 338 => 184 | n => n, fun | 2 => 2 | 3 => 3 | 9 => 9 | 4 => 4 | 171 => 172 | 0 => 0 | 53 => 98 | 37 => 49 | 5 => 5 | 173 => 175 | 212 => 208 | 51 => 46 | 20 => 20 | 213 => 209 | 46 => 106 | 232 => 232 | 233 => 233 | n => n, fun | 17 => 3 | 18 => 7 | 19 => 8 | n => n⟩
theorem Tryd.lays246 : Go.Proofs.Lays.n246 Tryd.prog Tryd.lays246_ren := {
  mixed := by kernel_rfl
  f129 := Tryd.func161.trans (congrArg some (by kernel_rfl))
  f246 := Tryd.func125.trans (congrArg some (by kernel_rfl))
  f283 := Tryd.func144.trans (congrArg some (by kernel_rfl))
  f284 := Tryd.func145.trans (congrArg some (by kernel_rfl))
  f285 := Tryd.func146.trans (congrArg some (by kernel_rfl))
  f286 := Tryd.func147.trans (congrArg some (by kernel_rfl))
  f317 := Tryd.func170.trans (congrArg some (by kernel_rfl))
  f318 := Tryd.func171.trans (congrArg some (by kernel_rfl))
  f319 := Tryd.func172.trans (congrArg some (by kernel_rfl))
  f320 := Tryd.func173.trans (congrArg some (by kernel_rfl))
  f337 := Tryd.func183.trans (congrArg some (by kernel_rfl))
  f338 := Tryd.func184.trans (congrArg some (by kernel_rfl))
  t0 := Tryd.underlying0
  a0 := Tryd.isAgg0
  z0 := Tryd.sizeOf0
  v0 := Tryd.zeroValue0
  t2 := Tryd.underlying2
  a2 := Tryd.isAgg2
  z2 := Tryd.sizeOf2
  v2 := Tryd.zeroValue2
  t3 := Tryd.underlying3
  a3 := Tryd.isAgg3
  z3 := Tryd.sizeOf3
  v3 := Tryd.zeroValue3
  t4 := Tryd.underlying4
  a4 := Tryd.isAgg4
  z4 := Tryd.sizeOf4
  v4 := Tryd.zeroValue4
  t5 := Tryd.underlying5
  a5 := Tryd.isAgg5
  z5 := Tryd.sizeOf5
  v5 := Tryd.zeroValue5
  t9 := Tryd.underlying9
  a9 := Tryd.isAgg9
  z9 := Tryd.sizeOf9
  v9 := Tryd.zeroValue9
  t20 := Tryd.underlying20
  a20 := Tryd.isAgg20
  z20 := Tryd.sizeOf20
  v20 := Tryd.zeroValue20
  t37 := Tryd.underlying49
  a37 := Tryd.isAgg49
  z37 := Tryd.sizeOf49
  v37 := Tryd.zeroValue49
  t46 := Tryd.underlying106
  a46 := Tryd.isAgg106
  z46 := Tryd.sizeOf106
  v46 := Tryd.zeroValue106
  t51 := Tryd.underlying46
  a51 := Tryd.isAgg46
  z51 := Tryd.sizeOf46
  v51 := Tryd.zeroValue46
  t53 := Tryd.underlying98
  a53 := Tryd.isAgg98
  z53 := Tryd.sizeOf98
  v53 := Tryd.zeroValue98
  t171 := Tryd.underlying172
  a171 := Tryd.isAgg172
  z171 := Tryd.sizeOf172
  v171 := Tryd.zeroValue172
  t173 := Tryd.underlying175
  a173 := Tryd.isAgg175
  z173 := Tryd.sizeOf175
  v173 := Tryd.zeroValue175
  t212 := Tryd.underlying208
  a212 := Tryd.isAgg208
  z212 := Tryd.sizeOf208
  v212 := Tryd.zeroValue208
  t213 := Tryd.underlying209
  a213 := Tryd.isAgg209
  z213 := Tryd.sizeOf209
  t232 := Tryd.underlying232
  a232 := Tryd.isAgg232
  z232 := Tryd.sizeOf232
  v232 := Tryd.zeroValue232
  t233 := Tryd.underlying233
  a233 := Tryd.isAgg233
  z233 := Tryd.sizeOf233
  v233 := Tryd.zeroValue233
  g17 := by kernel_rfl
  g18 := by kernel_rfl
  g19 := by kernel_rfl }
open Go.RowKit Go.Sort Go.Lib in
/-- THE ROAD WITHOUT THE TABLE: 0 <= i < 100: two constants are read, nothing is laid: no premise on the world, and the world is as it was. (LAID: no walk: one application.) -/
theorem Tryd.internal_strconv_FormatInt_10_small (i : Nat) (hi : i < 100) (w : World) :
    Calls Tryd.prog 125 #[.int .i64 i, .int .i64 10] w fun e w' => e = .returned (.string ⟨(Lib.decDigits i).toArray⟩) ∧ w' = w := Any.internal_strconv_FormatInt_10_small Tryd.lays246 i hi w
def Tryd.laysM243_ren : Go.Shelf.Ren := ⟨fun | 243 => 91 | 246 => 125 | 283 => 144 | 284 => 145 | 285 => 146 | 286 => 147 | 129 => 161 | 317 => 170 | 318 => 171 | 319 => 172 | 320 => 173 | 337 => 183 | 338 => 184 | n => n, fun | 3 => 3 | 9 => 9 | 2 => 2 | 4 => 4 | 171 => 172 | 0 => 0 | 53 => 98 | 37 => 49 | 5 => 5 | 173 => 175 | 212 => 208 | 51 => 46 | 20 => 20 | 213 => 209 | 46 => 106 | 232 => 232 | 233 => 233 | n => n, fun | 17 => 3 | 18 => 7 | 19 => 8 | n => n⟩
theorem Tryd.laysM243 : Go.Proofs.LaysM.n243 Tryd.prog Tryd.laysM243_ren := {
  mixed := by kernel_rfl
  f129 := Tryd.func161.trans (congrArg some (by kernel_rfl))
  f243 := Tryd.func91.trans (congrArg some (by kernel_rfl))
  f246 := Tryd.func125.trans (congrArg some (by kernel_rfl))
  f283 := Tryd.func144.trans (congrArg some (by kernel_rfl))
  f284 := Tryd.func145.trans (congrArg some (by kernel_rfl))
  f285 := Tryd.func146.trans (congrArg some (by kernel_rfl))
  f286 := Tryd.func147.trans (congrArg some (by kernel_rfl))
  f317 := Tryd.func170.trans (congrArg some (by kernel_rfl))
  f318 := Tryd.func171.trans (congrArg some (by kernel_rfl))
  f319 := Tryd.func172.trans (congrArg some (by kernel_rfl))
  f320 := Tryd.func173.trans (congrArg some (by kernel_rfl))
  f337 := Tryd.func183.trans (congrArg some (by kernel_rfl))
  f338 := Tryd.func184.trans (congrArg some (by kernel_rfl))
  t0 := Tryd.underlying0
  a0 := Tryd.isAgg0
  z0 := Tryd.sizeOf0
  v0 := Tryd.zeroValue0
  t2 := Tryd.underlying2
  a2 := Tryd.isAgg2
  z2 := Tryd.sizeOf2
  v2 := Tryd.zeroValue2
  t3 := Tryd.underlying3
  a3 := Tryd.isAgg3
  z3 := Tryd.sizeOf3
  v3 := Tryd.zeroValue3
  t4 := Tryd.underlying4
  a4 := Tryd.isAgg4
  z4 := Tryd.sizeOf4
  v4 := Tryd.zeroValue4
  t5 := Tryd.underlying5
  a5 := Tryd.isAgg5
  z5 := Tryd.sizeOf5
  v5 := Tryd.zeroValue5
  t9 := Tryd.underlying9
  a9 := Tryd.isAgg9
  z9 := Tryd.sizeOf9
  v9 := Tryd.zeroValue9
  t20 := Tryd.underlying20
  a20 := Tryd.isAgg20
  z20 := Tryd.sizeOf20
  v20 := Tryd.zeroValue20
  t37 := Tryd.underlying49
  a37 := Tryd.isAgg49
  z37 := Tryd.sizeOf49
  v37 := Tryd.zeroValue49
  t46 := Tryd.underlying106
  a46 := Tryd.isAgg106
  z46 := Tryd.sizeOf106
  v46 := Tryd.zeroValue106
  t51 := Tryd.underlying46
  a51 := Tryd.isAgg46
  z51 := Tryd.sizeOf46
  v51 := Tryd.zeroValue46
  t53 := Tryd.underlying98
  a53 := Tryd.isAgg98
  z53 := Tryd.sizeOf98
  v53 := Tryd.zeroValue98
  t171 := Tryd.underlying172
  a171 := Tryd.isAgg172
  z171 := Tryd.sizeOf172
  v171 := Tryd.zeroValue172
  t173 := Tryd.underlying175
  a173 := Tryd.isAgg175
  z173 := Tryd.sizeOf175
  v173 := Tryd.zeroValue175
  t212 := Tryd.underlying208
  a212 := Tryd.isAgg208
  z212 := Tryd.sizeOf208
  v212 := Tryd.zeroValue208
  t213 := Tryd.underlying209
  a213 := Tryd.isAgg209
  z213 := Tryd.sizeOf209
  t232 := Tryd.underlying232
  a232 := Tryd.isAgg232
  z232 := Tryd.sizeOf232
  v232 := Tryd.zeroValue232
  t233 := Tryd.underlying233
  a233 := Tryd.isAgg233
  z233 := Tryd.sizeOf233
  v233 := Tryd.zeroValue233
  g17 := by kernel_rfl
  g18 := by kernel_rfl
  g19 := by kernel_rfl
  i0 := by kernel_rfl
  i2 := by kernel_rfl
  i3 := by kernel_rfl
  i4 := by kernel_rfl
  i5 := by kernel_rfl
  i9 := by kernel_rfl
  i20 := by kernel_rfl
  i37 := by kernel_rfl
  i46 := by kernel_rfl
  i51 := by kernel_rfl
  i53 := by kernel_rfl
  i171 := by kernel_rfl
  i173 := by kernel_rfl
  i212 := by kernel_rfl
  i232 := by kernel_rfl
  i233 := by kernel_rfl
  m17 := by kernel_rfl
  m18 := by kernel_rfl
  m19 := by kernel_rfl }
open Go.RowKit Go.Sort Go.Lib in
/-- internal/strconv.Itoa: "Itoa is equivalent to FormatInt(int64(i), 10).": i's decimal numeral, for every int. (LAID: no walk: one application.) -/
theorem Tryd.internal_strconv_Itoa (n : Int) (h0 : -9223372036854775808 ≤ n) (h1 : n ≤ 9223372036854775807) (w : World) (htab : Lib.TabIs Tryd.prog w "internal/strconv.uint64pow10" .u64 Lib.pow10Tab) :
    Calls Tryd.prog 91 #[.int .i64 n] w fun e w' => e = .returned (.string ⟨(Lib.itoa n).toArray⟩) ∧ ∃ k os, w' = grow (w.drewN k) os := Any.internal_strconv_Itoa Tryd.laysM243 n h0 h1 w htab
def Tryd.lays243_ren : Go.Shelf.Ren := ⟨fun | 243 => 91 | 246 => 125 | 283 => 144 | 284 => 145 | 285 => 146 | 286 => 147 | 129 => 161 | 317 => 170 | 318 => 171 | 319 => 172 | 320 => 173 | 337 => 183 | 338 => 184 | n => n, fun | 3 => 3 | 9 => 9 | 2 => 2 | 4 => 4 | 171 => 172 | 0 => 0 | 53 => 98 | 37 => 49 | 5 => 5 | 173 => 175 | 212 => 208 | 51 => 46 | 20 => 20 | 213 => 209 | 46 => 106 | 232 => 232 | 233 => 233 | n => n, fun | 17 => 3 | 18 => 7 | 19 => 8 | n => n⟩
theorem Tryd.lays243 : Go.Proofs.Lays.n243 Tryd.prog Tryd.lays243_ren := {
  mixed := by kernel_rfl
  f129 := Tryd.func161.trans (congrArg some (by kernel_rfl))
  f243 := Tryd.func91.trans (congrArg some (by kernel_rfl))
  f246 := Tryd.func125.trans (congrArg some (by kernel_rfl))
  f283 := Tryd.func144.trans (congrArg some (by kernel_rfl))
  f284 := Tryd.func145.trans (congrArg some (by kernel_rfl))
  f285 := Tryd.func146.trans (congrArg some (by kernel_rfl))
  f286 := Tryd.func147.trans (congrArg some (by kernel_rfl))
  f317 := Tryd.func170.trans (congrArg some (by kernel_rfl))
  f318 := Tryd.func171.trans (congrArg some (by kernel_rfl))
  f319 := Tryd.func172.trans (congrArg some (by kernel_rfl))
  f320 := Tryd.func173.trans (congrArg some (by kernel_rfl))
  f337 := Tryd.func183.trans (congrArg some (by kernel_rfl))
  f338 := Tryd.func184.trans (congrArg some (by kernel_rfl))
  t0 := Tryd.underlying0
  a0 := Tryd.isAgg0
  z0 := Tryd.sizeOf0
  v0 := Tryd.zeroValue0
  t2 := Tryd.underlying2
  a2 := Tryd.isAgg2
  z2 := Tryd.sizeOf2
  v2 := Tryd.zeroValue2
  t3 := Tryd.underlying3
  a3 := Tryd.isAgg3
  z3 := Tryd.sizeOf3
  v3 := Tryd.zeroValue3
  t4 := Tryd.underlying4
  a4 := Tryd.isAgg4
  z4 := Tryd.sizeOf4
  v4 := Tryd.zeroValue4
  t5 := Tryd.underlying5
  a5 := Tryd.isAgg5
  z5 := Tryd.sizeOf5
  v5 := Tryd.zeroValue5
  t9 := Tryd.underlying9
  a9 := Tryd.isAgg9
  z9 := Tryd.sizeOf9
  v9 := Tryd.zeroValue9
  t20 := Tryd.underlying20
  a20 := Tryd.isAgg20
  z20 := Tryd.sizeOf20
  v20 := Tryd.zeroValue20
  t37 := Tryd.underlying49
  a37 := Tryd.isAgg49
  z37 := Tryd.sizeOf49
  v37 := Tryd.zeroValue49
  t46 := Tryd.underlying106
  a46 := Tryd.isAgg106
  z46 := Tryd.sizeOf106
  v46 := Tryd.zeroValue106
  t51 := Tryd.underlying46
  a51 := Tryd.isAgg46
  z51 := Tryd.sizeOf46
  v51 := Tryd.zeroValue46
  t53 := Tryd.underlying98
  a53 := Tryd.isAgg98
  z53 := Tryd.sizeOf98
  v53 := Tryd.zeroValue98
  t171 := Tryd.underlying172
  a171 := Tryd.isAgg172
  z171 := Tryd.sizeOf172
  v171 := Tryd.zeroValue172
  t173 := Tryd.underlying175
  a173 := Tryd.isAgg175
  z173 := Tryd.sizeOf175
  v173 := Tryd.zeroValue175
  t212 := Tryd.underlying208
  a212 := Tryd.isAgg208
  z212 := Tryd.sizeOf208
  v212 := Tryd.zeroValue208
  t213 := Tryd.underlying209
  a213 := Tryd.isAgg209
  z213 := Tryd.sizeOf209
  t232 := Tryd.underlying232
  a232 := Tryd.isAgg232
  z232 := Tryd.sizeOf232
  v232 := Tryd.zeroValue232
  t233 := Tryd.underlying233
  a233 := Tryd.isAgg233
  z233 := Tryd.sizeOf233
  v233 := Tryd.zeroValue233
  g17 := by kernel_rfl
  g18 := by kernel_rfl
  g19 := by kernel_rfl }
open Go.RowKit Go.Sort Go.Lib in
/-- THE ROAD WITHOUT THE TABLE: 0 <= i < 100. (LAID: no walk: one application.) -/
theorem Tryd.internal_strconv_Itoa_small (i : Nat) (hi : i < 100) (w : World) :
    Calls Tryd.prog 91 #[.int .i64 i] w fun e w' => e = .returned (.string ⟨(Lib.decDigits i).toArray⟩) ∧ w' = w := Any.internal_strconv_Itoa_small Tryd.lays243 i hi w
def Tryd.laysM171_ren : Go.Shelf.Ren := ⟨fun | 171 => 55 | 243 => 91 | 246 => 125 | 283 => 144 | 284 => 145 | 285 => 146 | 286 => 147 | 129 => 161 | 317 => 170 | 318 => 171 | 319 => 172 | 320 => 173 | 337 => 183 | 338 => 184 | n => n, fun | 3 => 3 | 9 => 9 | 2 => 2 | 4 => 4 | 171 => 172 | 0 => 0 | 53 => 98 | 37 => 49 | 5 => 5 | 173 => 175 | 212 => 208 | 51 => 46 | 20 => 20 | 213 => 209 | 46 => 106 | 232 => 232 | 233 => 233 | n => n, fun | 17 => 3 | 18 => 7 | 19 => 8 | n => n⟩
theorem Tryd.laysM171 : Go.Proofs.LaysM.n171 Tryd.prog Tryd.laysM171_ren := {
  mixed := by kernel_rfl
  f129 := Tryd.func161.trans (congrArg some (by kernel_rfl))
  f171 := Tryd.func55.trans (congrArg some (by kernel_rfl))
  f243 := Tryd.func91.trans (congrArg some (by kernel_rfl))
  f246 := Tryd.func125.trans (congrArg some (by kernel_rfl))
  f283 := Tryd.func144.trans (congrArg some (by kernel_rfl))
  f284 := Tryd.func145.trans (congrArg some (by kernel_rfl))
  f285 := Tryd.func146.trans (congrArg some (by kernel_rfl))
  f286 := Tryd.func147.trans (congrArg some (by kernel_rfl))
  f317 := Tryd.func170.trans (congrArg some (by kernel_rfl))
  f318 := Tryd.func171.trans (congrArg some (by kernel_rfl))
  f319 := Tryd.func172.trans (congrArg some (by kernel_rfl))
  f320 := Tryd.func173.trans (congrArg some (by kernel_rfl))
  f337 := Tryd.func183.trans (congrArg some (by kernel_rfl))
  f338 := Tryd.func184.trans (congrArg some (by kernel_rfl))
  t0 := Tryd.underlying0
  a0 := Tryd.isAgg0
  z0 := Tryd.sizeOf0
  v0 := Tryd.zeroValue0
  t2 := Tryd.underlying2
  a2 := Tryd.isAgg2
  z2 := Tryd.sizeOf2
  v2 := Tryd.zeroValue2
  t3 := Tryd.underlying3
  a3 := Tryd.isAgg3
  z3 := Tryd.sizeOf3
  v3 := Tryd.zeroValue3
  t4 := Tryd.underlying4
  a4 := Tryd.isAgg4
  z4 := Tryd.sizeOf4
  v4 := Tryd.zeroValue4
  t5 := Tryd.underlying5
  a5 := Tryd.isAgg5
  z5 := Tryd.sizeOf5
  v5 := Tryd.zeroValue5
  t9 := Tryd.underlying9
  a9 := Tryd.isAgg9
  z9 := Tryd.sizeOf9
  v9 := Tryd.zeroValue9
  t20 := Tryd.underlying20
  a20 := Tryd.isAgg20
  z20 := Tryd.sizeOf20
  v20 := Tryd.zeroValue20
  t37 := Tryd.underlying49
  a37 := Tryd.isAgg49
  z37 := Tryd.sizeOf49
  v37 := Tryd.zeroValue49
  t46 := Tryd.underlying106
  a46 := Tryd.isAgg106
  z46 := Tryd.sizeOf106
  v46 := Tryd.zeroValue106
  t51 := Tryd.underlying46
  a51 := Tryd.isAgg46
  z51 := Tryd.sizeOf46
  v51 := Tryd.zeroValue46
  t53 := Tryd.underlying98
  a53 := Tryd.isAgg98
  z53 := Tryd.sizeOf98
  v53 := Tryd.zeroValue98
  t171 := Tryd.underlying172
  a171 := Tryd.isAgg172
  z171 := Tryd.sizeOf172
  v171 := Tryd.zeroValue172
  t173 := Tryd.underlying175
  a173 := Tryd.isAgg175
  z173 := Tryd.sizeOf175
  v173 := Tryd.zeroValue175
  t212 := Tryd.underlying208
  a212 := Tryd.isAgg208
  z212 := Tryd.sizeOf208
  v212 := Tryd.zeroValue208
  t213 := Tryd.underlying209
  a213 := Tryd.isAgg209
  z213 := Tryd.sizeOf209
  t232 := Tryd.underlying232
  a232 := Tryd.isAgg232
  z232 := Tryd.sizeOf232
  v232 := Tryd.zeroValue232
  t233 := Tryd.underlying233
  a233 := Tryd.isAgg233
  z233 := Tryd.sizeOf233
  v233 := Tryd.zeroValue233
  g17 := by kernel_rfl
  g18 := by kernel_rfl
  g19 := by kernel_rfl
  i0 := by kernel_rfl
  i2 := by kernel_rfl
  i3 := by kernel_rfl
  i4 := by kernel_rfl
  i5 := by kernel_rfl
  i9 := by kernel_rfl
  i20 := by kernel_rfl
  i37 := by kernel_rfl
  i46 := by kernel_rfl
  i51 := by kernel_rfl
  i53 := by kernel_rfl
  i171 := by kernel_rfl
  i173 := by kernel_rfl
  i212 := by kernel_rfl
  i232 := by kernel_rfl
  i233 := by kernel_rfl
  m17 := by kernel_rfl
  m18 := by kernel_rfl
  m19 := by kernel_rfl }
open Go.RowKit Go.Sort Go.Lib in
/-- strconv.Itoa: "Itoa is equivalent to FormatInt(int64(i), 10).": i's DECIMAL NUMERAL ('Lib.itoa': a '-' where i is negative, then the digits), FOR EVERY int. The world behind the call: the world before it, new blocks behind the heap (the library's 'var a [24]byte'), draws. (LAID: no walk: one application.) -/
theorem Tryd.strconv_Itoa (n : Int) (h0 : -9223372036854775808 ≤ n) (h1 : n ≤ 9223372036854775807) (w : World) (htab : Lib.TabIs Tryd.prog w "internal/strconv.uint64pow10" .u64 Lib.pow10Tab) :
    Calls Tryd.prog 55 #[.int .i64 n] w fun e w' => e = .returned (.string ⟨(Lib.itoa n).toArray⟩) ∧ ∃ k os, w' = grow (w.drewN k) os := Any.strconv_Itoa Tryd.laysM171 n h0 h1 w htab
def Tryd.lays171_ren : Go.Shelf.Ren := ⟨fun | 171 => 55 | 243 => 91 | 246 => 125 | 283 => 144 | 284 => 145 | 285 => 146 | 286 => 147 | 129 => 161 | 317 => 170 | 318 => 171 | 319 => 172 | 320 => 173 | 337 => 183 | 338 => 184 | n => n, fun | 3 => 3 | 9 => 9 | 2 => 2 | 4 => 4 | 171 => 172 | 0 => 0 | 53 => 98 | 37 => 49 | 5 => 5 | 173 => 175 | 212 => 208 | 51 => 46 | 20 => 20 | 213 => 209 | 46 => 106 | 232 => 232 | 233 => 233 | n => n, fun | 17 => 3 | 18 => 7 | 19 => 8 | n => n⟩
theorem Tryd.lays171 : Go.Proofs.Lays.n171 Tryd.prog Tryd.lays171_ren := {
  mixed := by kernel_rfl
  f129 := Tryd.func161.trans (congrArg some (by kernel_rfl))
  f171 := Tryd.func55.trans (congrArg some (by kernel_rfl))
  f243 := Tryd.func91.trans (congrArg some (by kernel_rfl))
  f246 := Tryd.func125.trans (congrArg some (by kernel_rfl))
  f283 := Tryd.func144.trans (congrArg some (by kernel_rfl))
  f284 := Tryd.func145.trans (congrArg some (by kernel_rfl))
  f285 := Tryd.func146.trans (congrArg some (by kernel_rfl))
  f286 := Tryd.func147.trans (congrArg some (by kernel_rfl))
  f317 := Tryd.func170.trans (congrArg some (by kernel_rfl))
  f318 := Tryd.func171.trans (congrArg some (by kernel_rfl))
  f319 := Tryd.func172.trans (congrArg some (by kernel_rfl))
  f320 := Tryd.func173.trans (congrArg some (by kernel_rfl))
  f337 := Tryd.func183.trans (congrArg some (by kernel_rfl))
  f338 := Tryd.func184.trans (congrArg some (by kernel_rfl))
  t0 := Tryd.underlying0
  a0 := Tryd.isAgg0
  z0 := Tryd.sizeOf0
  v0 := Tryd.zeroValue0
  t2 := Tryd.underlying2
  a2 := Tryd.isAgg2
  z2 := Tryd.sizeOf2
  v2 := Tryd.zeroValue2
  t3 := Tryd.underlying3
  a3 := Tryd.isAgg3
  z3 := Tryd.sizeOf3
  v3 := Tryd.zeroValue3
  t4 := Tryd.underlying4
  a4 := Tryd.isAgg4
  z4 := Tryd.sizeOf4
  v4 := Tryd.zeroValue4
  t5 := Tryd.underlying5
  a5 := Tryd.isAgg5
  z5 := Tryd.sizeOf5
  v5 := Tryd.zeroValue5
  t9 := Tryd.underlying9
  a9 := Tryd.isAgg9
  z9 := Tryd.sizeOf9
  v9 := Tryd.zeroValue9
  t20 := Tryd.underlying20
  a20 := Tryd.isAgg20
  z20 := Tryd.sizeOf20
  v20 := Tryd.zeroValue20
  t37 := Tryd.underlying49
  a37 := Tryd.isAgg49
  z37 := Tryd.sizeOf49
  v37 := Tryd.zeroValue49
  t46 := Tryd.underlying106
  a46 := Tryd.isAgg106
  z46 := Tryd.sizeOf106
  v46 := Tryd.zeroValue106
  t51 := Tryd.underlying46
  a51 := Tryd.isAgg46
  z51 := Tryd.sizeOf46
  v51 := Tryd.zeroValue46
  t53 := Tryd.underlying98
  a53 := Tryd.isAgg98
  z53 := Tryd.sizeOf98
  v53 := Tryd.zeroValue98
  t171 := Tryd.underlying172
  a171 := Tryd.isAgg172
  z171 := Tryd.sizeOf172
  v171 := Tryd.zeroValue172
  t173 := Tryd.underlying175
  a173 := Tryd.isAgg175
  z173 := Tryd.sizeOf175
  v173 := Tryd.zeroValue175
  t212 := Tryd.underlying208
  a212 := Tryd.isAgg208
  z212 := Tryd.sizeOf208
  v212 := Tryd.zeroValue208
  t213 := Tryd.underlying209
  a213 := Tryd.isAgg209
  z213 := Tryd.sizeOf209
  t232 := Tryd.underlying232
  a232 := Tryd.isAgg232
  z232 := Tryd.sizeOf232
  v232 := Tryd.zeroValue232
  t233 := Tryd.underlying233
  a233 := Tryd.isAgg233
  z233 := Tryd.sizeOf233
  v233 := Tryd.zeroValue233
  g17 := by kernel_rfl
  g18 := by kernel_rfl
  g19 := by kernel_rfl }
open Go.RowKit Go.Sort Go.Lib in
/-- THE ROAD WITHOUT THE TABLE: 0 <= i < 100: NO PREMISE ON THE WORLD, AND THE WORLD IS AS IT WAS: a row that keeps its argument in that range need list no table ('laid = []'). (LAID: no walk: one application.) -/
theorem Tryd.strconv_Itoa_small (i : Nat) (hi : i < 100) (w : World) :
    Calls Tryd.prog 55 #[.int .i64 i] w fun e w' => e = .returned (.string ⟨(Lib.decDigits i).toArray⟩) ∧ w' = w := Any.strconv_Itoa_small Tryd.lays171 i hi w
def Tryd.lays217_ren : Go.Shelf.Ren := ⟨fun | 217 => 106 | 266 => 133 | n => n, fun | 9 => 9 | 5 => 5 | 3 => 3 | n => n, fun | n => n⟩
theorem Tryd.lays217 : Go.Proofs.Lays.n217 Tryd.prog Tryd.lays217_ren := {
  mixed := by kernel_rfl
  f217 := Tryd.func106.trans (congrArg some (by kernel_rfl))
  f266 := Tryd.func133.trans (congrArg some (by kernel_rfl))
  t3 := Tryd.underlying3
  a3 := Tryd.isAgg3
  z3 := Tryd.sizeOf3
  v3 := Tryd.zeroValue3
  t5 := Tryd.underlying5
  a5 := Tryd.isAgg5
  z5 := Tryd.sizeOf5
  v5 := Tryd.zeroValue5
  t9 := Tryd.underlying9
  a9 := Tryd.isAgg9
  z9 := Tryd.sizeOf9
  v9 := Tryd.zeroValue9 }
open Go.RowKit Go.Lib in
/-- internal/stringslite.IndexByte (what strings.IndexByte calls): IT RETURNS 'Lib.indexByte s c'; the world is as it was. (LAID: no walk: one application.) -/
theorem Tryd.stringslite_IndexByte (s : ByteArray) (c : Int) (w : World) :
    Calls Tryd.prog 106 #[.string s, .int .u8 c] w fun e w' => e = .returned (.int .i64 (Lib.indexByte s.data.toList c.toNat.toUInt8)) ∧ w' = w := Any.stringslite_IndexByte Tryd.lays217 s c w
def Tryd.lays190_ren : Go.Shelf.Ren := ⟨fun | 190 => 101 | 125 => 131 | 258 => 130 | 128 => 160 | 129 => 161 | 302 => 151 | 303 => 152 | 304 => 153 | 305 => 154 | 306 => 155 | 307 => 156 | 308 => 157 | 309 => 158 | 310 => 159 | 333 => 175 | 329 => 176 | 330 => 177 | 334 => 178 | 335 => 179 | 336 => 180 | 344 => 185 | n => n, fun | 31 => 43 | 9 => 9 | 3 => 3 | 46 => 106 | 0 => 0 | 51 => 46 | 53 => 98 | 4 => 4 | 183 => 183 | 182 => 182 | 131 => 96 | 5 => 5 | 218 => 212 | 222 => 216 | 228 => 223 | 229 => 224 | n => n, fun | n => n⟩
theorem Tryd.lays190 : Go.Proofs.Lays.n190 Tryd.prog Tryd.lays190_ren := {
  mixed := by kernel_rfl
  f125 := Tryd.func131.trans (congrArg some (by kernel_rfl))
  f128 := Tryd.func160.trans (congrArg some (by kernel_rfl))
  f129 := Tryd.func161.trans (congrArg some (by kernel_rfl))
  f190 := Tryd.func101.trans (congrArg some (by kernel_rfl))
  f258 := Tryd.func130.trans (congrArg some (by kernel_rfl))
  f302 := Tryd.func151.trans (congrArg some (by kernel_rfl))
  f303 := Tryd.func152.trans (congrArg some (by kernel_rfl))
  f304 := Tryd.func153.trans (congrArg some (by kernel_rfl))
  f305 := Tryd.func154.trans (congrArg some (by kernel_rfl))
  f306 := Tryd.func155.trans (congrArg some (by kernel_rfl))
  f307 := Tryd.func156.trans (congrArg some (by kernel_rfl))
  f308 := Tryd.func157.trans (congrArg some (by kernel_rfl))
  f309 := Tryd.func158.trans (congrArg some (by kernel_rfl))
  f310 := Tryd.func159.trans (congrArg some (by kernel_rfl))
  f329 := Tryd.func176.trans (congrArg some (by kernel_rfl))
  f330 := Tryd.func177.trans (congrArg some (by kernel_rfl))
  f333 := Tryd.func175.trans (congrArg some (by kernel_rfl))
  f334 := Tryd.func178.trans (congrArg some (by kernel_rfl))
  f335 := Tryd.func179.trans (congrArg some (by kernel_rfl))
  f336 := Tryd.func180.trans (congrArg some (by kernel_rfl))
  f344 := Tryd.func185.trans (congrArg some (by kernel_rfl))
  t0 := Tryd.underlying0
  a0 := Tryd.isAgg0
  z0 := Tryd.sizeOf0
  v0 := Tryd.zeroValue0
  t3 := Tryd.underlying3
  a3 := Tryd.isAgg3
  z3 := Tryd.sizeOf3
  v3 := Tryd.zeroValue3
  t4 := Tryd.underlying4
  a4 := Tryd.isAgg4
  z4 := Tryd.sizeOf4
  v4 := Tryd.zeroValue4
  t5 := Tryd.underlying5
  a5 := Tryd.isAgg5
  z5 := Tryd.sizeOf5
  v5 := Tryd.zeroValue5
  t9 := Tryd.underlying9
  a9 := Tryd.isAgg9
  z9 := Tryd.sizeOf9
  v9 := Tryd.zeroValue9
  t31 := Tryd.underlying43
  a31 := Tryd.isAgg43
  z31 := Tryd.sizeOf43
  v31 := Tryd.zeroValue43
  t46 := Tryd.underlying106
  a46 := Tryd.isAgg106
  z46 := Tryd.sizeOf106
  v46 := Tryd.zeroValue106
  t51 := Tryd.underlying46
  a51 := Tryd.isAgg46
  z51 := Tryd.sizeOf46
  v51 := Tryd.zeroValue46
  t53 := Tryd.underlying98
  a53 := Tryd.isAgg98
  z53 := Tryd.sizeOf98
  v53 := Tryd.zeroValue98
  t131 := Tryd.underlying96
  a131 := Tryd.isAgg96
  z131 := Tryd.sizeOf96
  v131 := Tryd.zeroValue96
  t182 := Tryd.underlying182
  a182 := Tryd.isAgg182
  z182 := Tryd.sizeOf182
  v182 := Tryd.zeroValue182
  t183 := Tryd.underlying183
  a183 := Tryd.isAgg183
  z183 := Tryd.sizeOf183
  v183 := Tryd.zeroValue183
  t218 := Tryd.underlying212
  a218 := Tryd.isAgg212
  z218 := Tryd.sizeOf212
  v218 := Tryd.zeroValue212
  t222 := Tryd.underlying216
  a222 := Tryd.isAgg216
  z222 := Tryd.sizeOf216
  v222 := Tryd.zeroValue216
  t228 := Tryd.underlying223
  a228 := Tryd.isAgg223
  z228 := Tryd.sizeOf223
  v228 := Tryd.zeroValue223
  t229 := Tryd.underlying224
  a229 := Tryd.isAgg224
  z229 := Tryd.sizeOf224
  v229 := Tryd.zeroValue224 }
open Go.Sort Go.RowKit in
theorem Tryd.slices_Sort_string (blk off cap : Nat) (ss : List (List UInt8)) (w : World) (hH : Holds encStr w blk off ss.toArray) (hblk : blk < w.heap.size) (hsz : ss.length < 4611686018427387904) :
    Calls Tryd.prog 101 #[.slice (some ⟨blk, off, none⟩) ss.length cap] w fun e w' =>
      e = .returned (.tuple #[]) ∧ ∃ n os, w' = grow (putRow encStr (Sort.ahead w n) blk off (ss.mergeSort fun x y => decide (x ≤ y)).toArray) os := Any.slices_Sort_string Tryd.lays190 blk off cap ss w hH hblk hsz
def Tryd.lays206_ren : Go.Shelf.Ren := ⟨fun | 206 => 94 | n => n, fun | 9 => 9 | 4 => 4 | 3 => 3 | n => n, fun | n => n⟩
theorem Tryd.lays206 : Go.Proofs.Lays.n206 Tryd.prog Tryd.lays206_ren := {
  mixed := by kernel_rfl
  f206 := Tryd.func94.trans (congrArg some (by kernel_rfl))
  t3 := Tryd.underlying3
  a3 := Tryd.isAgg3
  z3 := Tryd.sizeOf3
  v3 := Tryd.zeroValue3
  t4 := Tryd.underlying4
  a4 := Tryd.isAgg4
  z4 := Tryd.sizeOf4
  v4 := Tryd.zeroValue4
  t9 := Tryd.underlying9
  a9 := Tryd.isAgg9
  z9 := Tryd.sizeOf9
  v9 := Tryd.zeroValue9 }
open Go.RowKit Go.Lib in
/-- internal/stringslite.HasPrefix (what strings.HasPrefix calls). (LAID: no walk: one application.) -/
theorem Tryd.stringslite_HasPrefix (s p : ByteArray) (w : World) :
    Calls Tryd.prog 94 #[.string s, .string p] w fun e w' => e = .returned (.bool (Lib.hasPrefix s.data.toList p.data.toList)) ∧ w' = w := Any.stringslite_HasPrefix Tryd.lays206 s p w
def Tryd.lays99_ren : Go.Shelf.Ren := ⟨fun | 99 => 64 | 206 => 94 | n => n, fun | 9 => 9 | 4 => 4 | 3 => 3 | n => n, fun | n => n⟩
theorem Tryd.lays99 : Go.Proofs.Lays.n99 Tryd.prog Tryd.lays99_ren := {
  mixed := by kernel_rfl
  f99 := Tryd.func64.trans (congrArg some (by kernel_rfl))
  f206 := Tryd.func94.trans (congrArg some (by kernel_rfl))
  t3 := Tryd.underlying3
  a3 := Tryd.isAgg3
  z3 := Tryd.sizeOf3
  v3 := Tryd.zeroValue3
  t4 := Tryd.underlying4
  a4 := Tryd.isAgg4
  z4 := Tryd.sizeOf4
  v4 := Tryd.zeroValue4
  t9 := Tryd.underlying9
  a9 := Tryd.isAgg9
  z9 := Tryd.sizeOf9
  v9 := Tryd.zeroValue9 }
open Go.RowKit Go.Lib in
/-- strings.HasPrefix: "HasPrefix reports whether the string s begins with prefix.": IT RETURNS 'Lib.hasPrefix s prefix'; the world is as it was. (LAID: no walk: one application.) -/
theorem Tryd.strings_HasPrefix (s p : ByteArray) (w : World) :
    Calls Tryd.prog 64 #[.string s, .string p] w fun e w' => e = .returned (.bool (Lib.hasPrefix s.data.toList p.data.toList)) ∧ w' = w := Any.strings_HasPrefix Tryd.lays99 s p w
def Tryd.lays208_ren : Go.Shelf.Ren := ⟨fun | 208 => 126 | 206 => 94 | n => n, fun | 9 => 9 | 4 => 4 | 3 => 3 | n => n, fun | n => n⟩
theorem Tryd.lays208 : Go.Proofs.Lays.n208 Tryd.prog Tryd.lays208_ren := {
  mixed := by kernel_rfl
  f206 := Tryd.func94.trans (congrArg some (by kernel_rfl))
  f208 := Tryd.func126.trans (congrArg some (by kernel_rfl))
  t3 := Tryd.underlying3
  a3 := Tryd.isAgg3
  z3 := Tryd.sizeOf3
  v3 := Tryd.zeroValue3
  t4 := Tryd.underlying4
  a4 := Tryd.isAgg4
  z4 := Tryd.sizeOf4
  v4 := Tryd.zeroValue4
  t9 := Tryd.underlying9
  a9 := Tryd.isAgg9
  z9 := Tryd.sizeOf9
  v9 := Tryd.zeroValue9 }
open Go.RowKit Go.Lib in
/-- internal/stringslite.TrimPrefix (what strings.TrimPrefix calls). (LAID: no walk: one application.) -/
theorem Tryd.stringslite_TrimPrefix (s p : ByteArray) (w : World) :
    Calls Tryd.prog 126 #[.string s, .string p] w fun e w' => e = .returned (.string ⟨(Lib.trimPrefix s.data.toList p.data.toList).toArray⟩) ∧ w' = w := Any.stringslite_TrimPrefix Tryd.lays208 s p w
def Tryd.lays101_ren : Go.Shelf.Ren := ⟨fun | 101 => 95 | 208 => 126 | 206 => 94 | n => n, fun | 9 => 9 | 4 => 4 | 3 => 3 | n => n, fun | n => n⟩
theorem Tryd.lays101 : Go.Proofs.Lays.n101 Tryd.prog Tryd.lays101_ren := {
  mixed := by kernel_rfl
  f101 := Tryd.func95.trans (congrArg some (by kernel_rfl))
  f206 := Tryd.func94.trans (congrArg some (by kernel_rfl))
  f208 := Tryd.func126.trans (congrArg some (by kernel_rfl))
  t3 := Tryd.underlying3
  a3 := Tryd.isAgg3
  z3 := Tryd.sizeOf3
  v3 := Tryd.zeroValue3
  t4 := Tryd.underlying4
  a4 := Tryd.isAgg4
  z4 := Tryd.sizeOf4
  v4 := Tryd.zeroValue4
  t9 := Tryd.underlying9
  a9 := Tryd.isAgg9
  z9 := Tryd.sizeOf9
  v9 := Tryd.zeroValue9 }
open Go.RowKit Go.Lib in
/-- strings.TrimPrefix: "TrimPrefix returns s without the provided leading prefix string. If s doesn't start with prefix, s is returned unchanged.": IT RETURNS 'Lib.trimPrefix s prefix'; the world is as it was. (LAID: no walk: one application.) -/
theorem Tryd.strings_TrimPrefix (s p : ByteArray) (w : World) :
    Calls Tryd.prog 95 #[.string s, .string p] w fun e w' => e = .returned (.string ⟨(Lib.trimPrefix s.data.toList p.data.toList).toArray⟩) ∧ w' = w := Any.strings_TrimPrefix Tryd.lays101 s p w
def Tryd.lays157_ren : Go.Shelf.Ren := ⟨fun | 157 => 76 | 229 => 104 | 199 => 105 | 261 => 132 | 311 => 162 | 312 => 163 | n => n, fun | 9 => 9 | 31 => 43 | 3 => 3 | 5 => 5 | 4 => 4 | 119 => 132 | 0 => 0 | 40 => 134 | 152 => 161 | 21 => 21 | 154 => 163 | 51 => 46 | 141 => 165 | 196 => 192 | 193 => 189 | 198 => 195 | 49 => 193 | 194 => 190 | 201 => 198 | 226 => 218 | 46 => 106 | 227 => 219 | n => n, fun | 0 => 0 | 6 => 1 | n => n⟩
theorem Tryd.lays157 : Go.Proofs.Lays.n157 Tryd.prog Tryd.lays157_ren := {
  mixed := by kernel_rfl
  f157 := Tryd.func76.trans (congrArg some (by kernel_rfl))
  f199 := Tryd.func105.trans (congrArg some (by kernel_rfl))
  f229 := Tryd.func104.trans (congrArg some (by kernel_rfl))
  f261 := Tryd.func132.trans (congrArg some (by kernel_rfl))
  f311 := Tryd.func162.trans (congrArg some (by kernel_rfl))
  f312 := Tryd.func163.trans (congrArg some (by kernel_rfl))
  t0 := Tryd.underlying0
  a0 := Tryd.isAgg0
  z0 := Tryd.sizeOf0
  v0 := Tryd.zeroValue0
  t3 := Tryd.underlying3
  a3 := Tryd.isAgg3
  z3 := Tryd.sizeOf3
  v3 := Tryd.zeroValue3
  t4 := Tryd.underlying4
  a4 := Tryd.isAgg4
  z4 := Tryd.sizeOf4
  v4 := Tryd.zeroValue4
  t5 := Tryd.underlying5
  a5 := Tryd.isAgg5
  z5 := Tryd.sizeOf5
  v5 := Tryd.zeroValue5
  t9 := Tryd.underlying9
  a9 := Tryd.isAgg9
  z9 := Tryd.sizeOf9
  v9 := Tryd.zeroValue9
  t21 := Tryd.underlying21
  a21 := Tryd.isAgg21
  z21 := Tryd.sizeOf21
  v21 := Tryd.zeroValue21
  t31 := Tryd.underlying43
  a31 := Tryd.isAgg43
  z31 := Tryd.sizeOf43
  v31 := Tryd.zeroValue43
  t40 := Tryd.underlying134
  a40 := Tryd.isAgg134
  z40 := Tryd.sizeOf134
  v40 := Tryd.zeroValue134
  t46 := Tryd.underlying106
  a46 := Tryd.isAgg106
  z46 := Tryd.sizeOf106
  v46 := Tryd.zeroValue106
  t49 := Tryd.underlying193
  a49 := Tryd.isAgg193
  z49 := Tryd.sizeOf193
  v49 := Tryd.zeroValue193
  t51 := Tryd.underlying46
  a51 := Tryd.isAgg46
  z51 := Tryd.sizeOf46
  v51 := Tryd.zeroValue46
  t119 := Tryd.underlying132
  a119 := Tryd.isAgg132
  z119 := Tryd.sizeOf132
  t141 := Tryd.underlying165
  a141 := Tryd.isAgg165
  z141 := Tryd.sizeOf165
  v141 := Tryd.zeroValue165
  t152 := Tryd.underlying161
  a152 := Tryd.isAgg161
  z152 := Tryd.sizeOf161
  v152 := Tryd.zeroValue161
  t154 := Tryd.underlying163
  a154 := Tryd.isAgg163
  z154 := Tryd.sizeOf163
  v154 := Tryd.zeroValue163
  t193 := Tryd.underlying189
  a193 := Tryd.isAgg189
  z193 := Tryd.sizeOf189
  v193 := Tryd.zeroValue189
  t194 := Tryd.underlying190
  a194 := Tryd.isAgg190
  z194 := Tryd.sizeOf190
  v194 := Tryd.zeroValue190
  t196 := Tryd.underlying192
  a196 := Tryd.isAgg192
  z196 := Tryd.sizeOf192
  v196 := Tryd.zeroValue192
  t198 := Tryd.underlying195
  a198 := Tryd.isAgg195
  z198 := Tryd.sizeOf195
  v198 := Tryd.zeroValue195
  t201 := Tryd.underlying198
  a201 := Tryd.isAgg198
  z201 := Tryd.sizeOf198
  v201 := Tryd.zeroValue198
  t226 := Tryd.underlying218
  a226 := Tryd.isAgg218
  z226 := Tryd.sizeOf218
  v226 := Tryd.zeroValue218
  t227 := Tryd.underlying219
  a227 := Tryd.isAgg219
  z227 := Tryd.sizeOf219
  v227 := Tryd.zeroValue219
  g0 := by kernel_rfl
  g6 := by kernel_rfl }
open Go.RowKit Go.Lib in
/-- strings.Fields, the table by 'Lib.TabIs' (as strings.TrimSpace's contract). 'hg': the table's number, by its name: at a dump 'by kernel_rfl'. (LAID: no walk: one application.) -/
theorem Tryd.strings_Fields (s : ByteArray) (w : World) (hs : s.size < 4294967281) (hascii : ∀ (j : Nat) b, s.data.toList[j]? = some b → b.toNat < 128) (htab : Lib.TabIs Tryd.prog w "strings.asciiSpace" .u8 Lib.asciiSpaceTab) :
    Calls Tryd.prog 76 #[.string s] w fun e w' =>
      e = .returned (.slice (some ⟨w.heap.size, 0, none⟩) (Lib.fields s.data.toList).length (Lib.fields s.data.toList).length) ∧ w' = w.alloc (.cells ((Lib.fields s.data.toList).map fun l => Value.string ⟨l.toArray⟩).toArray 9) := Any.strings_Fields Tryd.lays157 (by kernel_rfl) (by kernel_rfl) s w hs hascii htab
def Tryd.laysM157_ren : Go.Shelf.Ren := ⟨fun | 157 => 76 | 229 => 104 | 199 => 105 | 261 => 132 | 311 => 162 | 312 => 163 | n => n, fun | 9 => 9 | 31 => 43 | 3 => 3 | 5 => 5 | 4 => 4 | 119 => 132 | 0 => 0 | 40 => 134 | 152 => 161 | 21 => 21 | 154 => 163 | 51 => 46 | 141 => 165 | 196 => 192 | 193 => 189 | 198 => 195 | 49 => 193 | 194 => 190 | 201 => 198 | 226 => 218 | 46 => 106 | 227 => 219 | n => n, fun | 0 => 0 | 6 => 1 | n => n⟩
theorem Tryd.laysM157 : Go.Proofs.LaysM.n157 Tryd.prog Tryd.laysM157_ren := {
  mixed := by kernel_rfl
  f157 := Tryd.func76.trans (congrArg some (by kernel_rfl))
  f199 := Tryd.func105.trans (congrArg some (by kernel_rfl))
  f229 := Tryd.func104.trans (congrArg some (by kernel_rfl))
  f261 := Tryd.func132.trans (congrArg some (by kernel_rfl))
  f311 := Tryd.func162.trans (congrArg some (by kernel_rfl))
  f312 := Tryd.func163.trans (congrArg some (by kernel_rfl))
  t0 := Tryd.underlying0
  a0 := Tryd.isAgg0
  z0 := Tryd.sizeOf0
  v0 := Tryd.zeroValue0
  t3 := Tryd.underlying3
  a3 := Tryd.isAgg3
  z3 := Tryd.sizeOf3
  v3 := Tryd.zeroValue3
  t4 := Tryd.underlying4
  a4 := Tryd.isAgg4
  z4 := Tryd.sizeOf4
  v4 := Tryd.zeroValue4
  t5 := Tryd.underlying5
  a5 := Tryd.isAgg5
  z5 := Tryd.sizeOf5
  v5 := Tryd.zeroValue5
  t9 := Tryd.underlying9
  a9 := Tryd.isAgg9
  z9 := Tryd.sizeOf9
  v9 := Tryd.zeroValue9
  t21 := Tryd.underlying21
  a21 := Tryd.isAgg21
  z21 := Tryd.sizeOf21
  v21 := Tryd.zeroValue21
  t31 := Tryd.underlying43
  a31 := Tryd.isAgg43
  z31 := Tryd.sizeOf43
  v31 := Tryd.zeroValue43
  t40 := Tryd.underlying134
  a40 := Tryd.isAgg134
  z40 := Tryd.sizeOf134
  v40 := Tryd.zeroValue134
  t46 := Tryd.underlying106
  a46 := Tryd.isAgg106
  z46 := Tryd.sizeOf106
  v46 := Tryd.zeroValue106
  t49 := Tryd.underlying193
  a49 := Tryd.isAgg193
  z49 := Tryd.sizeOf193
  v49 := Tryd.zeroValue193
  t51 := Tryd.underlying46
  a51 := Tryd.isAgg46
  z51 := Tryd.sizeOf46
  v51 := Tryd.zeroValue46
  t119 := Tryd.underlying132
  a119 := Tryd.isAgg132
  z119 := Tryd.sizeOf132
  t141 := Tryd.underlying165
  a141 := Tryd.isAgg165
  z141 := Tryd.sizeOf165
  v141 := Tryd.zeroValue165
  t152 := Tryd.underlying161
  a152 := Tryd.isAgg161
  z152 := Tryd.sizeOf161
  v152 := Tryd.zeroValue161
  t154 := Tryd.underlying163
  a154 := Tryd.isAgg163
  z154 := Tryd.sizeOf163
  v154 := Tryd.zeroValue163
  t193 := Tryd.underlying189
  a193 := Tryd.isAgg189
  z193 := Tryd.sizeOf189
  v193 := Tryd.zeroValue189
  t194 := Tryd.underlying190
  a194 := Tryd.isAgg190
  z194 := Tryd.sizeOf190
  v194 := Tryd.zeroValue190
  t196 := Tryd.underlying192
  a196 := Tryd.isAgg192
  z196 := Tryd.sizeOf192
  v196 := Tryd.zeroValue192
  t198 := Tryd.underlying195
  a198 := Tryd.isAgg195
  z198 := Tryd.sizeOf195
  v198 := Tryd.zeroValue195
  t201 := Tryd.underlying198
  a201 := Tryd.isAgg198
  z201 := Tryd.sizeOf198
  v201 := Tryd.zeroValue198
  t226 := Tryd.underlying218
  a226 := Tryd.isAgg218
  z226 := Tryd.sizeOf218
  v226 := Tryd.zeroValue218
  t227 := Tryd.underlying219
  a227 := Tryd.isAgg219
  z227 := Tryd.sizeOf219
  v227 := Tryd.zeroValue219
  g0 := by kernel_rfl
  g6 := by kernel_rfl
  i0 := by kernel_rfl
  i3 := by kernel_rfl
  i4 := by kernel_rfl
  i5 := by kernel_rfl
  i9 := by kernel_rfl
  i21 := by kernel_rfl
  i31 := by kernel_rfl
  i40 := by kernel_rfl
  i46 := by kernel_rfl
  i49 := by kernel_rfl
  i51 := by kernel_rfl
  i141 := by kernel_rfl
  i152 := by kernel_rfl
  i154 := by kernel_rfl
  i193 := by kernel_rfl
  i194 := by kernel_rfl
  i196 := by kernel_rfl
  i198 := by kernel_rfl
  i201 := by kernel_rfl
  i226 := by kernel_rfl
  i227 := by kernel_rfl
  m0 := by kernel_rfl
  m6 := by kernel_rfl }
open Go.RowKit Go.Lib in
/-- strings.Fields on ASCII bytes. (The table: 'Lib.TabIs', as strings.TrimSpace's contract asks it.) (LAID: no walk: one application.) -/
theorem Tryd.strings_Fields_laid (s : ByteArray) (w : World) (hs : s.size < 4294967281) (hascii : ∀ (j : Nat) b, s.data.toList[j]? = some b → b.toNat < 128) (htab : Lib.TabIs Tryd.prog w "strings.asciiSpace" .u8 Lib.asciiSpaceTab) :
    Calls Tryd.prog 76 #[.string s] w fun e w' =>
      e = .returned (.slice (some ⟨w.heap.size, 0, none⟩) (Lib.fields s.data.toList).length (Lib.fields s.data.toList).length) ∧ w' = w.alloc (.cells ((Lib.fields s.data.toList).map fun l => Value.string ⟨l.toArray⟩).toArray 9) := Any.strings_Fields_laid Tryd.laysM157 s w hs hascii htab
def Tryd.lays199_ren : Go.Shelf.Ren := ⟨fun | 199 => 105 | 261 => 132 | 311 => 162 | 312 => 163 | n => n, fun | 21 => 21 | 4 => 4 | 51 => 46 | 141 => 165 | 0 => 0 | 196 => 192 | 193 => 189 | 3 => 3 | 198 => 195 | 49 => 193 | 194 => 190 | 201 => 198 | 226 => 218 | 46 => 106 | 227 => 219 | n => n, fun | 6 => 1 | n => n⟩
theorem Tryd.lays199 : Go.Proofs.Lays.n199 Tryd.prog Tryd.lays199_ren := {
  mixed := by kernel_rfl
  f199 := Tryd.func105.trans (congrArg some (by kernel_rfl))
  f261 := Tryd.func132.trans (congrArg some (by kernel_rfl))
  f311 := Tryd.func162.trans (congrArg some (by kernel_rfl))
  f312 := Tryd.func163.trans (congrArg some (by kernel_rfl))
  t0 := Tryd.underlying0
  a0 := Tryd.isAgg0
  z0 := Tryd.sizeOf0
  v0 := Tryd.zeroValue0
  t3 := Tryd.underlying3
  a3 := Tryd.isAgg3
  z3 := Tryd.sizeOf3
  v3 := Tryd.zeroValue3
  t4 := Tryd.underlying4
  a4 := Tryd.isAgg4
  z4 := Tryd.sizeOf4
  v4 := Tryd.zeroValue4
  t21 := Tryd.underlying21
  a21 := Tryd.isAgg21
  z21 := Tryd.sizeOf21
  v21 := Tryd.zeroValue21
  t46 := Tryd.underlying106
  a46 := Tryd.isAgg106
  z46 := Tryd.sizeOf106
  v46 := Tryd.zeroValue106
  t49 := Tryd.underlying193
  a49 := Tryd.isAgg193
  z49 := Tryd.sizeOf193
  v49 := Tryd.zeroValue193
  t51 := Tryd.underlying46
  a51 := Tryd.isAgg46
  z51 := Tryd.sizeOf46
  v51 := Tryd.zeroValue46
  t141 := Tryd.underlying165
  a141 := Tryd.isAgg165
  z141 := Tryd.sizeOf165
  v141 := Tryd.zeroValue165
  t193 := Tryd.underlying189
  a193 := Tryd.isAgg189
  z193 := Tryd.sizeOf189
  v193 := Tryd.zeroValue189
  t194 := Tryd.underlying190
  a194 := Tryd.isAgg190
  z194 := Tryd.sizeOf190
  v194 := Tryd.zeroValue190
  t196 := Tryd.underlying192
  a196 := Tryd.isAgg192
  z196 := Tryd.sizeOf192
  v196 := Tryd.zeroValue192
  t198 := Tryd.underlying195
  a198 := Tryd.isAgg195
  z198 := Tryd.sizeOf195
  v198 := Tryd.zeroValue195
  t201 := Tryd.underlying198
  a201 := Tryd.isAgg198
  z201 := Tryd.sizeOf198
  v201 := Tryd.zeroValue198
  t226 := Tryd.underlying218
  a226 := Tryd.isAgg218
  z226 := Tryd.sizeOf218
  v226 := Tryd.zeroValue218
  t227 := Tryd.underlying219
  a227 := Tryd.isAgg219
  z227 := Tryd.sizeOf219
  v227 := Tryd.zeroValue219
  g6 := by kernel_rfl }
open Go.RowKit Go.Lib in
theorem Tryd.unicode_IsSpace (r : Int) (w : World) (h0 : 0 ≤ r) (h : r ≤ 255) :
    Calls Tryd.prog 105 #[.int .i32 r] w fun e w' => e = .returned (.bool (Lib.isSpaceL r)) ∧ w' = w := Any.unicode_IsSpace Tryd.lays199 r w h0 h
def Tryd.lays203_ren : Go.Shelf.Ren := ⟨fun | 203 => 136 | 262 => 167 | 313 => 182 | 274 => 186 | 275 => 187 | n => n, fun | 21 => 21 | 4 => 4 | 3 => 3 | 162 => 222 | 203 => 220 | 160 => 229 | 46 => 106 | 0 => 0 | 208 => 237 | 51 => 46 | 206 => 235 | n => n, fun | 13 => 4 | n => n⟩
theorem Tryd.lays203 : Go.Proofs.Lays.n203 Tryd.prog Tryd.lays203_ren := {
  mixed := by kernel_rfl
  f203 := Tryd.func136.trans (congrArg some (by kernel_rfl))
  f262 := Tryd.func167.trans (congrArg some (by kernel_rfl))
  f274 := Tryd.func186.trans (congrArg some (by kernel_rfl))
  f275 := Tryd.func187.trans (congrArg some (by kernel_rfl))
  f313 := Tryd.func182.trans (congrArg some (by kernel_rfl))
  t0 := Tryd.underlying0
  a0 := Tryd.isAgg0
  z0 := Tryd.sizeOf0
  v0 := Tryd.zeroValue0
  t3 := Tryd.underlying3
  a3 := Tryd.isAgg3
  z3 := Tryd.sizeOf3
  v3 := Tryd.zeroValue3
  t4 := Tryd.underlying4
  a4 := Tryd.isAgg4
  z4 := Tryd.sizeOf4
  v4 := Tryd.zeroValue4
  t21 := Tryd.underlying21
  a21 := Tryd.isAgg21
  z21 := Tryd.sizeOf21
  v21 := Tryd.zeroValue21
  t46 := Tryd.underlying106
  a46 := Tryd.isAgg106
  z46 := Tryd.sizeOf106
  v46 := Tryd.zeroValue106
  t51 := Tryd.underlying46
  a51 := Tryd.isAgg46
  z51 := Tryd.sizeOf46
  v51 := Tryd.zeroValue46
  t160 := Tryd.underlying229
  a160 := Tryd.isAgg229
  z160 := Tryd.sizeOf229
  v160 := Tryd.zeroValue229
  t162 := Tryd.underlying222
  a162 := Tryd.isAgg222
  z162 := Tryd.sizeOf222
  v162 := Tryd.zeroValue222
  t203 := Tryd.underlying220
  a203 := Tryd.isAgg220
  z203 := Tryd.sizeOf220
  v203 := Tryd.zeroValue220
  t206 := Tryd.underlying235
  a206 := Tryd.isAgg235
  z206 := Tryd.sizeOf235
  v206 := Tryd.zeroValue235
  t208 := Tryd.underlying237
  a208 := Tryd.isAgg237
  z208 := Tryd.sizeOf237
  v208 := Tryd.zeroValue237
  g13 := by kernel_rfl }
open Go.RowKit Go.Lib in
theorem Tryd.unicode_ToUpper (r : Int) (w : World) (h : r ≤ 127) :
    Calls Tryd.prog 136 #[.int .i32 r] w fun e w' => e = .returned (.int .i32 (Lib.toUpperR r)) ∧ w' = w := Any.unicode_ToUpper Tryd.lays203 r w h
def Tryd.lays204_ren : Go.Shelf.Ren := ⟨fun | 204 => 137 | 262 => 167 | 313 => 182 | 274 => 186 | 275 => 187 | n => n, fun | 21 => 21 | 4 => 4 | 3 => 3 | 162 => 222 | 203 => 220 | 160 => 229 | 46 => 106 | 0 => 0 | 208 => 237 | 51 => 46 | 206 => 235 | n => n, fun | 13 => 4 | n => n⟩
theorem Tryd.lays204 : Go.Proofs.Lays.n204 Tryd.prog Tryd.lays204_ren := {
  mixed := by kernel_rfl
  f204 := Tryd.func137.trans (congrArg some (by kernel_rfl))
  f262 := Tryd.func167.trans (congrArg some (by kernel_rfl))
  f274 := Tryd.func186.trans (congrArg some (by kernel_rfl))
  f275 := Tryd.func187.trans (congrArg some (by kernel_rfl))
  f313 := Tryd.func182.trans (congrArg some (by kernel_rfl))
  t0 := Tryd.underlying0
  a0 := Tryd.isAgg0
  z0 := Tryd.sizeOf0
  v0 := Tryd.zeroValue0
  t3 := Tryd.underlying3
  a3 := Tryd.isAgg3
  z3 := Tryd.sizeOf3
  v3 := Tryd.zeroValue3
  t4 := Tryd.underlying4
  a4 := Tryd.isAgg4
  z4 := Tryd.sizeOf4
  v4 := Tryd.zeroValue4
  t21 := Tryd.underlying21
  a21 := Tryd.isAgg21
  z21 := Tryd.sizeOf21
  v21 := Tryd.zeroValue21
  t46 := Tryd.underlying106
  a46 := Tryd.isAgg106
  z46 := Tryd.sizeOf106
  v46 := Tryd.zeroValue106
  t51 := Tryd.underlying46
  a51 := Tryd.isAgg46
  z51 := Tryd.sizeOf46
  v51 := Tryd.zeroValue46
  t160 := Tryd.underlying229
  a160 := Tryd.isAgg229
  z160 := Tryd.sizeOf229
  v160 := Tryd.zeroValue229
  t162 := Tryd.underlying222
  a162 := Tryd.isAgg222
  z162 := Tryd.sizeOf222
  v162 := Tryd.zeroValue222
  t203 := Tryd.underlying220
  a203 := Tryd.isAgg220
  z203 := Tryd.sizeOf220
  v203 := Tryd.zeroValue220
  t206 := Tryd.underlying235
  a206 := Tryd.isAgg235
  z206 := Tryd.sizeOf235
  v206 := Tryd.zeroValue235
  t208 := Tryd.underlying237
  a208 := Tryd.isAgg237
  z208 := Tryd.sizeOf237
  v208 := Tryd.zeroValue237
  g13 := by kernel_rfl }
open Go.RowKit Go.Lib in
theorem Tryd.unicode_ToLower (r : Int) (w : World) (h : r ≤ 127) :
    Calls Tryd.prog 137 #[.int .i32 r] w fun e w' => e = .returned (.int .i32 (Lib.toLowerR r)) ∧ w' = w := Any.unicode_ToLower Tryd.lays204 r w h
def Tryd.lays197_ren : Go.Shelf.Ren := ⟨fun | 197 => 164 | 260 => 181 | n => n, fun | 9 => 9 | 21 => 21 | 3 => 3 | 4 => 4 | 5 => 5 | 105 => 200 | 119 => 132 | 0 => 0 | 46 => 106 | 139 => 228 | 138 => 227 | n => n, fun | 3 => 5 | 4 => 6 | n => n⟩
theorem Tryd.lays197 : Go.Proofs.Lays.n197 Tryd.prog Tryd.lays197_ren := {
  mixed := by kernel_rfl
  f197 := Tryd.func164.trans (congrArg some (by kernel_rfl))
  f260 := Tryd.func181.trans (congrArg some (by kernel_rfl))
  t0 := Tryd.underlying0
  a0 := Tryd.isAgg0
  z0 := Tryd.sizeOf0
  v0 := Tryd.zeroValue0
  t3 := Tryd.underlying3
  a3 := Tryd.isAgg3
  z3 := Tryd.sizeOf3
  v3 := Tryd.zeroValue3
  t4 := Tryd.underlying4
  a4 := Tryd.isAgg4
  z4 := Tryd.sizeOf4
  v4 := Tryd.zeroValue4
  t5 := Tryd.underlying5
  a5 := Tryd.isAgg5
  z5 := Tryd.sizeOf5
  v5 := Tryd.zeroValue5
  t9 := Tryd.underlying9
  a9 := Tryd.isAgg9
  z9 := Tryd.sizeOf9
  v9 := Tryd.zeroValue9
  t21 := Tryd.underlying21
  a21 := Tryd.isAgg21
  z21 := Tryd.sizeOf21
  v21 := Tryd.zeroValue21
  t46 := Tryd.underlying106
  a46 := Tryd.isAgg106
  z46 := Tryd.sizeOf106
  v46 := Tryd.zeroValue106
  t105 := Tryd.underlying200
  a105 := Tryd.isAgg200
  z105 := Tryd.sizeOf200
  v105 := Tryd.zeroValue200
  t119 := Tryd.underlying132
  a119 := Tryd.isAgg132
  z119 := Tryd.sizeOf132
  t138 := Tryd.underlying227
  a138 := Tryd.isAgg227
  z138 := Tryd.sizeOf227
  v138 := Tryd.zeroValue227
  t139 := Tryd.underlying228
  a139 := Tryd.isAgg228
  z139 := Tryd.sizeOf228
  v139 := Tryd.zeroValue228
  g3 := by kernel_rfl
  g4 := by kernel_rfl }
open Go.RowKit Go.Lib in
/-- unicode/utf8.DecodeRuneInString: "DecodeRuneInString is like DecodeRune but its input is a string.": ("DecodeRune unpacks the first UTF-8 encoding in p and returns the rune and its width in bytes."): WHERE s BEGINS WITH AN ASCII BYTE x: (x, 1). (LAID: no walk: one application.) -/
theorem Tryd.utf8_DecodeRuneInString_ascii (s : ByteArray) (x : UInt8) (w : World) (h0 : s.data.toList[0]? = some x) (hx : x.toNat < 128) :
    Calls Tryd.prog 164 #[.string s] w fun e w' => e = .returned (.tuple #[.int .i32 x.toNat, .int .i64 1]) ∧ w' = w := Any.utf8_DecodeRuneInString_ascii Tryd.lays197 s x w h0 hx
def Tryd.lays264_ren : Go.Shelf.Ren := ⟨fun | 264 => 149 | n => n, fun | 53 => 98 | 46 => 106 | n => n, fun | n => n⟩
theorem Tryd.lays264 : Go.Proofs.Lays.n264 Tryd.prog Tryd.lays264_ren := {
  mixed := by kernel_rfl
  f264 := Tryd.func149.trans (congrArg some (by kernel_rfl))
  t46 := Tryd.underlying106
  a46 := Tryd.isAgg106
  z46 := Tryd.sizeOf106
  v46 := Tryd.zeroValue106
  t53 := Tryd.underlying98
  a53 := Tryd.isAgg98
  z53 := Tryd.sizeOf98
  v53 := Tryd.zeroValue98 }
open Go.RowKit Go.Lib in
theorem Tryd.bits_Mul64 (x y : Nat) (hx : x < 18446744073709551616) (hy : y < 18446744073709551616) (w : World) :
    Calls Tryd.prog 149 #[.int .u64 x, .int .u64 y] w fun e w' => e = .returned (.tuple #[.int .u64 ((x * y / 18446744073709551616 : Nat) : Int), .int .u64 ((x * y % 18446744073709551616 : Nat) : Int)]) ∧ w' = w := Any.bits_Mul64 Tryd.lays264 x y hx hy w
def Tryd.lays212_ren : Go.Shelf.Ren := ⟨fun | 212 => 127 | 263 => 148 | 264 => 149 | n => n, fun | 46 => 106 | 51 => 46 | 146 => 177 | 53 => 98 | 148 => 179 | n => n, fun | n => n⟩
theorem Tryd.lays212 : Go.Proofs.Lays.n212 Tryd.prog Tryd.lays212_ren := {
  mixed := by kernel_rfl
  f212 := Tryd.func127.trans (congrArg some (by kernel_rfl))
  f263 := Tryd.func148.trans (congrArg some (by kernel_rfl))
  f264 := Tryd.func149.trans (congrArg some (by kernel_rfl))
  t46 := Tryd.underlying106
  a46 := Tryd.isAgg106
  z46 := Tryd.sizeOf106
  v46 := Tryd.zeroValue106
  t51 := Tryd.underlying46
  a51 := Tryd.isAgg46
  z51 := Tryd.sizeOf46
  v51 := Tryd.zeroValue46
  t53 := Tryd.underlying98
  a53 := Tryd.isAgg98
  z53 := Tryd.sizeOf98
  v53 := Tryd.zeroValue98
  t146 := Tryd.underlying177
  a146 := Tryd.isAgg177
  z146 := Tryd.sizeOf177
  v146 := Tryd.zeroValue177
  t148 := Tryd.underlying179
  a148 := Tryd.isAgg179
  z148 := Tryd.sizeOf179
  v148 := Tryd.zeroValue179 }
open Go.RowKit Go.Lib in
/-- math/bits.Mul: "Mul returns the full-width product of x and y": on a machine of 64 bits: Mul64's. (LAID: no walk: one application.) -/
theorem Tryd.bits_Mul (x y : Nat) (hx : x < 18446744073709551616) (hy : y < 18446744073709551616) (w : World) :
    Calls Tryd.prog 127 #[.int .u64 x, .int .u64 y] w fun e w' => e = .returned (.tuple #[.int .u64 ((x * y / 18446744073709551616 : Nat) : Int), .int .u64 ((x * y % 18446744073709551616 : Nat) : Int)]) ∧ w' = w := Any.bits_Mul Tryd.lays212 x y hx hy w
def Tryd.lays105_ren : Go.Shelf.Ren := ⟨fun | 105 => 98 | 212 => 127 | 99 => 64 | 165 => 128 | 166 => 129 | 170 => 114 | 169 => 115 | 263 => 148 | 264 => 149 | 206 => 94 | 240 => 138 | 241 => 150 | 276 => 168 | 277 => 174 | n => n, fun | 9 => 9 | 3 => 3 | 4 => 4 | 20 => 20 | 0 => 0 | 46 => 106 | 109 => 156 | 5 => 5 | 72 => 140 | 76 => 143 | 51 => 46 | 146 => 177 | 53 => 98 | 148 => 179 | 70 => 138 | 37 => 49 | 75 => 142 | 127 => 170 | 164 => 204 | 80 => 114 | n => n, fun | n => n⟩
theorem Tryd.lays105 : Go.Proofs.Lays.n105 Tryd.prog Tryd.lays105_ren := {
  mixed := by kernel_rfl
  f99 := Tryd.func64.trans (congrArg some (by kernel_rfl))
  f105 := Tryd.func98.trans (congrArg some (by kernel_rfl))
  f165 := Tryd.func128.trans (congrArg some (by kernel_rfl))
  f166 := Tryd.func129.trans (congrArg some (by kernel_rfl))
  f169 := Tryd.func115.trans (congrArg some (by kernel_rfl))
  f170 := Tryd.func114.trans (congrArg some (by kernel_rfl))
  f206 := Tryd.func94.trans (congrArg some (by kernel_rfl))
  f212 := Tryd.func127.trans (congrArg some (by kernel_rfl))
  f240 := Tryd.func138.trans (congrArg some (by kernel_rfl))
  f241 := Tryd.func150.trans (congrArg some (by kernel_rfl))
  f263 := Tryd.func148.trans (congrArg some (by kernel_rfl))
  f264 := Tryd.func149.trans (congrArg some (by kernel_rfl))
  f276 := Tryd.func168.trans (congrArg some (by kernel_rfl))
  f277 := Tryd.func174.trans (congrArg some (by kernel_rfl))
  t0 := Tryd.underlying0
  a0 := Tryd.isAgg0
  z0 := Tryd.sizeOf0
  v0 := Tryd.zeroValue0
  t3 := Tryd.underlying3
  a3 := Tryd.isAgg3
  z3 := Tryd.sizeOf3
  v3 := Tryd.zeroValue3
  t4 := Tryd.underlying4
  a4 := Tryd.isAgg4
  z4 := Tryd.sizeOf4
  v4 := Tryd.zeroValue4
  t5 := Tryd.underlying5
  a5 := Tryd.isAgg5
  z5 := Tryd.sizeOf5
  v5 := Tryd.zeroValue5
  t9 := Tryd.underlying9
  a9 := Tryd.isAgg9
  z9 := Tryd.sizeOf9
  v9 := Tryd.zeroValue9
  t20 := Tryd.underlying20
  a20 := Tryd.isAgg20
  z20 := Tryd.sizeOf20
  v20 := Tryd.zeroValue20
  t37 := Tryd.underlying49
  a37 := Tryd.isAgg49
  z37 := Tryd.sizeOf49
  v37 := Tryd.zeroValue49
  t46 := Tryd.underlying106
  a46 := Tryd.isAgg106
  z46 := Tryd.sizeOf106
  v46 := Tryd.zeroValue106
  t51 := Tryd.underlying46
  a51 := Tryd.isAgg46
  z51 := Tryd.sizeOf46
  v51 := Tryd.zeroValue46
  t53 := Tryd.underlying98
  a53 := Tryd.isAgg98
  z53 := Tryd.sizeOf98
  v53 := Tryd.zeroValue98
  t70 := Tryd.underlying138
  a70 := Tryd.isAgg138
  z70 := Tryd.sizeOf138
  v70 := Tryd.zeroValue138
  t72 := Tryd.underlying140
  a72 := Tryd.isAgg140
  z72 := Tryd.sizeOf140
  v72 := Tryd.zeroValue140
  t75 := Tryd.underlying142
  a75 := Tryd.isAgg142
  z75 := Tryd.sizeOf142
  v75 := Tryd.zeroValue142
  t76 := Tryd.underlying143
  a76 := Tryd.isAgg143
  z76 := Tryd.sizeOf143
  v76 := Tryd.zeroValue143
  t109 := Tryd.underlying156
  a109 := Tryd.isAgg156
  z109 := Tryd.sizeOf156
  v109 := Tryd.zeroValue156
  t127 := Tryd.underlying170
  a127 := Tryd.isAgg170
  z127 := Tryd.sizeOf170
  v127 := Tryd.zeroValue170
  t146 := Tryd.underlying177
  a146 := Tryd.isAgg177
  z146 := Tryd.sizeOf177
  v146 := Tryd.zeroValue177
  t148 := Tryd.underlying179
  a148 := Tryd.isAgg179
  z148 := Tryd.sizeOf179
  v148 := Tryd.zeroValue179
  t164 := Tryd.underlying204
  a164 := Tryd.isAgg204
  z164 := Tryd.sizeOf204
  v164 := Tryd.zeroValue204 }
theorem Tryd.Builder_Extra_105 : Builder.Extra Tryd.prog Tryd.lays105_ren := {
  sizeBuilder := by kernel_rfl
  liesBuilder := by kernel_rfl
  t5 := Tryd.underlying5
  a5 := Tryd.isAgg5
  z5 := Tryd.sizeOf5
  v5 := Tryd.zeroValue5
  infoByte := by kernel_rfl
  cellsByte := by kernel_rfl
  sizeByte := by kernel_rfl
  neB5 := by decide }
open Go.RowKit Go.Lib in
/-- THE MAIN CASE: at least two copies of a string that is not empty. (LAID: no walk: one application.) -/
theorem Tryd.strings_Repeat_main (s : ByteArray) (c : Nat) (w : World) (hc2 : 2 ≤ c) (hc : c ≤ 9223372036854775807) (hlen : s.size * c ≤ 140737488355328) (h0 : 0 < s.size) :
    Calls Tryd.prog 98 #[.string s, .int .i64 c] w fun e w' => e = .returned (.string ⟨(Lib.repeatL s.data.toList c).toArray⟩) ∧ Below w.heap.size w w' := Any.strings_Repeat_main Tryd.lays105 Tryd.Builder_Extra_105 s c w hc2 hc hlen h0
open Go.RowKit Go.Lib in
theorem Tryd.strings_Repeat_zero (s : ByteArray) (w : World) :
    Calls Tryd.prog 98 #[.string s, .int .i64 0] w fun e w' => e = .returned (.string ⟨#[]⟩) ∧ w' = w := Any.strings_Repeat_zero Tryd.lays105 s w
open Go.RowKit Go.Lib in
theorem Tryd.strings_Repeat_one (s : ByteArray) (w : World) :
    Calls Tryd.prog 98 #[.string s, .int .i64 1] w fun e w' => e = .returned (.string s) ∧ w' = w := Any.strings_Repeat_one Tryd.lays105 s w
open Go.RowKit Go.Lib in
/-- Copies of the empty string. (LAID: no walk: one application.) -/
theorem Tryd.strings_Repeat_empty (s : ByteArray) (c : Nat) (w : World) (hc2 : 2 ≤ c) (hc : c ≤ 9223372036854775807) (h0 : s.size = 0) :
    Calls Tryd.prog 98 #[.string s, .int .i64 c] w fun e w' => e = .returned (.string ⟨#[]⟩) ∧ w' = w := Any.strings_Repeat_empty Tryd.lays105 s c w hc2 hc h0
open Go.RowKit Go.Lib in
/-- count < 0: "It panics if count is negative". (LAID: no walk: one application.) -/
theorem Tryd.strings_Repeat_negative (s : ByteArray) (c : Int) (w : World) (hc : c < 0) :
    Calls Tryd.prog 98 #[.string s, .int .i64 c] w fun e w' => e = .panicked [{ v := repeatPanic Tryd.lays105_ren "strings: negative Repeat count", recovered := false }] ∧ w' = w := Any.strings_Repeat_negative Tryd.lays105 s c w hc
open Go.RowKit Go.Lib in
/-- len(s) * count is no int: ".. or if the result of (len(s) * count) overflows". (LAID: no walk: one application.) -/
theorem Tryd.strings_Repeat_overflow (s : ByteArray) (c : Nat) (w : World) (hc : c ≤ 9223372036854775807) (hs : s.size ≤ 9223372036854775807) (hbig : 9223372036854775807 < s.size * c) :
    Calls Tryd.prog 98 #[.string s, .int .i64 c] w fun e w' => e = .panicked [{ v := repeatPanic Tryd.lays105_ren "strings: Repeat output length overflow", recovered := false }] ∧ w' = w := Any.strings_Repeat_overflow Tryd.lays105 s c w hc hs hbig
open Go.RowKit Go.Lib in
/-- **strings.Repeat: count ≥ 0, the result within one allocation: count copies of s.** (LAID: no walk: one application.) -/
theorem Tryd.strings_Repeat (s : ByteArray) (c : Nat) (w : World) (hc : c ≤ 9223372036854775807) (hlen : s.size * c ≤ 140737488355328) :
    Calls Tryd.prog 98 #[.string s, .int .i64 c] w fun e w' => e = .returned (.string ⟨(Lib.repeatL s.data.toList c).toArray⟩) ∧ Below w.heap.size w w' := Any.strings_Repeat Tryd.lays105 Tryd.Builder_Extra_105 s c w hc hlen
def Tryd.lays260_ren : Go.Shelf.Ren := ⟨fun | 260 => 181 | n => n, fun | 9 => 9 | 21 => 21 | 3 => 3 | 4 => 4 | 5 => 5 | 119 => 132 | 0 => 0 | 46 => 106 | 139 => 228 | 138 => 227 | n => n, fun | 3 => 5 | 4 => 6 | n => n⟩
theorem Tryd.lays260 : Go.Proofs.Lays.n260 Tryd.prog Tryd.lays260_ren := {
  mixed := by kernel_rfl
  f260 := Tryd.func181.trans (congrArg some (by kernel_rfl))
  t0 := Tryd.underlying0
  a0 := Tryd.isAgg0
  z0 := Tryd.sizeOf0
  v0 := Tryd.zeroValue0
  t3 := Tryd.underlying3
  a3 := Tryd.isAgg3
  z3 := Tryd.sizeOf3
  v3 := Tryd.zeroValue3
  t4 := Tryd.underlying4
  a4 := Tryd.isAgg4
  z4 := Tryd.sizeOf4
  v4 := Tryd.zeroValue4
  t5 := Tryd.underlying5
  a5 := Tryd.isAgg5
  z5 := Tryd.sizeOf5
  v5 := Tryd.zeroValue5
  t9 := Tryd.underlying9
  a9 := Tryd.isAgg9
  z9 := Tryd.sizeOf9
  v9 := Tryd.zeroValue9
  t21 := Tryd.underlying21
  a21 := Tryd.isAgg21
  z21 := Tryd.sizeOf21
  v21 := Tryd.zeroValue21
  t46 := Tryd.underlying106
  a46 := Tryd.isAgg106
  z46 := Tryd.sizeOf106
  v46 := Tryd.zeroValue106
  t119 := Tryd.underlying132
  a119 := Tryd.isAgg132
  z119 := Tryd.sizeOf132
  t138 := Tryd.underlying227
  a138 := Tryd.isAgg227
  z138 := Tryd.sizeOf227
  v138 := Tryd.zeroValue227
  t139 := Tryd.underlying228
  a139 := Tryd.isAgg228
  z139 := Tryd.sizeOf228
  v139 := Tryd.zeroValue228
  g3 := by kernel_rfl
  g4 := by kernel_rfl }
open Go.RowKit Go.Lib in
theorem Tryd.utf8_decodeRuneInStringSlow (s : ByteArray) (w : World) (hT : Lib.Utf8Tabs 5 6 w) :
    Calls Tryd.prog 181 #[.string s] w fun e w' => e = .returned (.tuple #[.int .i32 (Lib.decodeGo s).1, .int .i64 (Lib.decodeGo s).2]) ∧ Below w.heap.size w w' := Any.utf8_decodeRuneInStringSlow Tryd.lays260 s w hT
open Go.RowKit Go.Lib in
/-- **unicode/utf8.DecodeRuneInString AT EVERY STRING.** (LAID: no walk: one application.) -/
theorem Tryd.utf8_DecodeRuneInString (s : ByteArray) (w : World) (hT : Lib.Utf8Tabs 5 6 w) :
    Calls Tryd.prog 164 #[.string s] w fun e w' => e = .returned (.tuple #[.int .i32 (Lib.decodeGo s).1, .int .i64 (Lib.decodeGo s).2]) ∧ Below w.heap.size w w' := Any.utf8_DecodeRuneInString Tryd.lays197 s w hT
def Tryd.lays311_ren : Go.Shelf.Ren := ⟨fun | 311 => 162 | n => n, fun | 193 => 189 | 49 => 193 | 4 => 4 | 3 => 3 | 0 => 0 | 226 => 218 | 198 => 195 | 46 => 106 | n => n, fun | n => n⟩
theorem Tryd.lays311 : Go.Proofs.Lays.n311 Tryd.prog Tryd.lays311_ren := {
  mixed := by kernel_rfl
  f311 := Tryd.func162.trans (congrArg some (by kernel_rfl))
  t0 := Tryd.underlying0
  a0 := Tryd.isAgg0
  z0 := Tryd.sizeOf0
  v0 := Tryd.zeroValue0
  t3 := Tryd.underlying3
  a3 := Tryd.isAgg3
  z3 := Tryd.sizeOf3
  v3 := Tryd.zeroValue3
  t4 := Tryd.underlying4
  a4 := Tryd.isAgg4
  z4 := Tryd.sizeOf4
  v4 := Tryd.zeroValue4
  t46 := Tryd.underlying106
  a46 := Tryd.isAgg106
  z46 := Tryd.sizeOf106
  v46 := Tryd.zeroValue106
  t49 := Tryd.underlying193
  a49 := Tryd.isAgg193
  z49 := Tryd.sizeOf193
  v49 := Tryd.zeroValue193
  t193 := Tryd.underlying189
  a193 := Tryd.isAgg189
  z193 := Tryd.sizeOf189
  v193 := Tryd.zeroValue189
  t198 := Tryd.underlying195
  a198 := Tryd.isAgg195
  z198 := Tryd.sizeOf195
  v198 := Tryd.zeroValue195
  t226 := Tryd.underlying218
  a226 := Tryd.isAgg218
  z226 := Tryd.sizeOf218
  v226 := Tryd.zeroValue218 }
open Go.RowKit Go.Lib in
theorem Tryd.unicode_is16_white (R oR : Nat) (z : Nat) (w : World) (hz : z < 65536) (hz0 : 255 < z) (c6 : w.cell? ⟨R, oR + 6, none⟩ = some (.int .u16 160)) (c7 : w.cell? ⟨R, oR + 7, none⟩ = some (.int .u16 5760)) (c8 : w.cell? ⟨R, oR + 8, none⟩ = some (.int .u16 5600)) (c9 : w.cell? ⟨R, oR + 9, none⟩ = some (.int .u16 8192)) (c10 : w.cell? ⟨R, oR + 10, none⟩ = some (.int .u16 8202)) (c11 : w.cell? ⟨R, oR + 11, none⟩ = some (.int .u16 1)) (c12 : w.cell? ⟨R, oR + 12, none⟩ = some (.int .u16 8232)) (c13 : w.cell? ⟨R, oR + 13, none⟩ = some (.int .u16 8233)) (c14 : w.cell? ⟨R, oR + 14, none⟩ = some (.int .u16 1)) (c15 : w.cell? ⟨R, oR + 15, none⟩ = some (.int .u16 8239)) (c16 : w.cell? ⟨R, oR + 16, none⟩ = some (.int .u16 8287)) (c17 : w.cell? ⟨R, oR + 17, none⟩ = some (.int .u16 48)) (c18 : w.cell? ⟨R, oR + 18, none⟩ = some (.int .u16 12288)) (c19 : w.cell? ⟨R, oR + 19, none⟩ = some (.int .u16 12288)) (c20 : w.cell? ⟨R, oR + 20, none⟩ = some (.int .u16 1)) :
    Calls Tryd.prog 162 #[.slice (some ⟨R, oR + 6, none⟩) 5 5, .int .u16 z] w fun e w' => e = .returned (.bool (Lib.isSpaceR z)) ∧ Below w.heap.size w w' := Any.unicode_is16_white Tryd.lays311 R oR z w hz hz0 c6 c7 c8 c9 c10 c11 c12 c13 c14 c15 c16 c17 c18 c19 c20
def Tryd.lays261_ren : Go.Shelf.Ren := ⟨fun | 261 => 132 | 311 => 162 | 312 => 163 | n => n, fun | 141 => 165 | 21 => 21 | 4 => 4 | 0 => 0 | 196 => 192 | 193 => 189 | 3 => 3 | 51 => 46 | 198 => 195 | 49 => 193 | 194 => 190 | 201 => 198 | 226 => 218 | 46 => 106 | 227 => 219 | n => n, fun | n => n⟩
theorem Tryd.lays261 : Go.Proofs.Lays.n261 Tryd.prog Tryd.lays261_ren := {
  mixed := by kernel_rfl
  f261 := Tryd.func132.trans (congrArg some (by kernel_rfl))
  f311 := Tryd.func162.trans (congrArg some (by kernel_rfl))
  f312 := Tryd.func163.trans (congrArg some (by kernel_rfl))
  t0 := Tryd.underlying0
  a0 := Tryd.isAgg0
  z0 := Tryd.sizeOf0
  v0 := Tryd.zeroValue0
  t3 := Tryd.underlying3
  a3 := Tryd.isAgg3
  z3 := Tryd.sizeOf3
  v3 := Tryd.zeroValue3
  t4 := Tryd.underlying4
  a4 := Tryd.isAgg4
  z4 := Tryd.sizeOf4
  v4 := Tryd.zeroValue4
  t21 := Tryd.underlying21
  a21 := Tryd.isAgg21
  z21 := Tryd.sizeOf21
  v21 := Tryd.zeroValue21
  t46 := Tryd.underlying106
  a46 := Tryd.isAgg106
  z46 := Tryd.sizeOf106
  v46 := Tryd.zeroValue106
  t49 := Tryd.underlying193
  a49 := Tryd.isAgg193
  z49 := Tryd.sizeOf193
  v49 := Tryd.zeroValue193
  t51 := Tryd.underlying46
  a51 := Tryd.isAgg46
  z51 := Tryd.sizeOf46
  v51 := Tryd.zeroValue46
  t141 := Tryd.underlying165
  a141 := Tryd.isAgg165
  z141 := Tryd.sizeOf165
  v141 := Tryd.zeroValue165
  t193 := Tryd.underlying189
  a193 := Tryd.isAgg189
  z193 := Tryd.sizeOf189
  v193 := Tryd.zeroValue189
  t194 := Tryd.underlying190
  a194 := Tryd.isAgg190
  z194 := Tryd.sizeOf190
  v194 := Tryd.zeroValue190
  t196 := Tryd.underlying192
  a196 := Tryd.isAgg192
  z196 := Tryd.sizeOf192
  v196 := Tryd.zeroValue192
  t198 := Tryd.underlying195
  a198 := Tryd.isAgg195
  z198 := Tryd.sizeOf195
  v198 := Tryd.zeroValue195
  t201 := Tryd.underlying198
  a201 := Tryd.isAgg198
  z201 := Tryd.sizeOf198
  v201 := Tryd.zeroValue198
  t226 := Tryd.underlying218
  a226 := Tryd.isAgg218
  z226 := Tryd.sizeOf218
  v226 := Tryd.zeroValue218
  t227 := Tryd.underlying219
  a227 := Tryd.isAgg219
  z227 := Tryd.sizeOf219
  v227 := Tryd.zeroValue219 }
open Go.RowKit Go.Lib in
/-- unicode.isExcludingLatin(White_Space, r), r beyond U+00FF or negative. (LAID: no walk: one application.) -/
theorem Tryd.unicode_isExcludingLatin_white (T oT R oR : Nat) (r : Int) (w : World) (hlo : -2147483648 ≤ r) (hhi : r ≤ 2147483647) (hr : r < 0 ∨ 255 < r) (h2 : w.cell? ⟨T, oT, none⟩ = some (.slice (some ⟨R, oR, none⟩) 7 7)) (h3 : w.cell? ⟨T, oT + 1, none⟩ = some (.slice none 0 0)) (h4 : w.cell? ⟨T, oT + 2, none⟩ = some (.int .i64 2)) (h5 : ∀ i, i < 21 → w.cell? ⟨R, oR + i, none⟩ = some (.int .u16 (whiteT.getD i 0))) :
    Calls Tryd.prog 132 #[.pointer (some ⟨T, oT, none⟩), .int .i32 r] w fun e w' => e = .returned (.bool (Lib.isSpaceZ r)) ∧ Below w.heap.size w w' := Any.unicode_isExcludingLatin_white Tryd.lays261 T oT R oR r w hlo hhi hr h2 h3 h4 h5
open Go.RowKit Go.Lib in
/-- **unicode.IsSpace AT EVERY int32.** (LAID: no walk: one application.) -/
theorem Tryd.unicode_IsSpace_any (r : Int) (w : World) (hlo : -2147483648 ≤ r) (hhi : r ≤ 2147483647) (hW : Lib.WhiteTab 1 w) :
    Calls Tryd.prog 105 #[.int .i32 r] w fun e w' => e = .returned (.bool (Lib.isSpaceZ r)) ∧ Below w.heap.size w w' := Any.unicode_IsSpace_any Tryd.lays199 r w hlo hhi hW
open Go.RowKit Go.Lib in
theorem Tryd.unicode_is16_white_d (R oR : Nat) (z : Nat) (w : World) (hz : z < 65536) (hz0 : 255 < z) (c6 : w.cell? ⟨R, oR + 6, none⟩ = some (.int .u16 160)) (c7 : w.cell? ⟨R, oR + 7, none⟩ = some (.int .u16 5760)) (c8 : w.cell? ⟨R, oR + 8, none⟩ = some (.int .u16 5600)) (c9 : w.cell? ⟨R, oR + 9, none⟩ = some (.int .u16 8192)) (c10 : w.cell? ⟨R, oR + 10, none⟩ = some (.int .u16 8202)) (c11 : w.cell? ⟨R, oR + 11, none⟩ = some (.int .u16 1)) (c12 : w.cell? ⟨R, oR + 12, none⟩ = some (.int .u16 8232)) (c13 : w.cell? ⟨R, oR + 13, none⟩ = some (.int .u16 8233)) (c14 : w.cell? ⟨R, oR + 14, none⟩ = some (.int .u16 1)) (c15 : w.cell? ⟨R, oR + 15, none⟩ = some (.int .u16 8239)) (c16 : w.cell? ⟨R, oR + 16, none⟩ = some (.int .u16 8287)) (c17 : w.cell? ⟨R, oR + 17, none⟩ = some (.int .u16 48)) (c18 : w.cell? ⟨R, oR + 18, none⟩ = some (.int .u16 12288)) (c19 : w.cell? ⟨R, oR + 19, none⟩ = some (.int .u16 12288)) (c20 : w.cell? ⟨R, oR + 20, none⟩ = some (.int .u16 1)) :
    Calls Tryd.prog 162 #[.slice (some ⟨R, oR + 6, none⟩) 5 5, .int .u16 z] w fun e w' => e = .returned (.bool (Lib.isSpaceR z)) ∧ ∃ q, w' = w.drewN q := Any.unicode_is16_white_d Tryd.lays311 R oR z w hz hz0 c6 c7 c8 c9 c10 c11 c12 c13 c14 c15 c16 c17 c18 c19 c20
def Tryd.lays274_ren : Go.Shelf.Ren := ⟨fun | 274 => 186 | n => n, fun | 21 => 21 | 162 => 222 | 160 => 229 | 3 => 3 | 4 => 4 | 46 => 106 | 0 => 0 | 208 => 237 | 51 => 46 | 206 => 235 | n => n, fun | n => n⟩
theorem Tryd.lays274 : Go.Proofs.Lays.n274 Tryd.prog Tryd.lays274_ren := {
  mixed := by kernel_rfl
  f274 := Tryd.func186.trans (congrArg some (by kernel_rfl))
  t0 := Tryd.underlying0
  a0 := Tryd.isAgg0
  z0 := Tryd.sizeOf0
  v0 := Tryd.zeroValue0
  t3 := Tryd.underlying3
  a3 := Tryd.isAgg3
  z3 := Tryd.sizeOf3
  v3 := Tryd.zeroValue3
  t4 := Tryd.underlying4
  a4 := Tryd.isAgg4
  z4 := Tryd.sizeOf4
  v4 := Tryd.zeroValue4
  t21 := Tryd.underlying21
  a21 := Tryd.isAgg21
  z21 := Tryd.sizeOf21
  v21 := Tryd.zeroValue21
  t46 := Tryd.underlying106
  a46 := Tryd.isAgg106
  z46 := Tryd.sizeOf106
  v46 := Tryd.zeroValue106
  t51 := Tryd.underlying46
  a51 := Tryd.isAgg46
  z51 := Tryd.sizeOf46
  v51 := Tryd.zeroValue46
  t160 := Tryd.underlying229
  a160 := Tryd.isAgg229
  z160 := Tryd.sizeOf229
  v160 := Tryd.zeroValue229
  t162 := Tryd.underlying222
  a162 := Tryd.isAgg222
  z162 := Tryd.sizeOf222
  v162 := Tryd.zeroValue222
  t208 := Tryd.underlying237
  a208 := Tryd.isAgg237
  z208 := Tryd.sizeOf237
  v208 := Tryd.zeroValue237 }
open Go.RowKit Go.Lib in
theorem Tryd.unicode_lookupCaseRange (T : Array CaseRow) (R oR cap : Nat) (r : Int) (w : World) (hT : CaseTab R oR T w) (hok : CaseOk T) (hn : T.size ≤ 1000000000) :
    Calls Tryd.prog 186 #[.int .i32 r, .slice (some ⟨R, oR, none⟩) T.size cap] w fun e w' =>
      e = .returned (match lookupIdx T r (T.size + 1) 0 T.size with | some i => .pointer (some ⟨R, oR + i * 5, none⟩) | none => .pointer none) ∧ w' = w := Any.unicode_lookupCaseRange Tryd.lays274 T R oR cap r w hT hok hn
def Tryd.lays275_ren : Go.Shelf.Ren := ⟨fun | 275 => 187 | n => n, fun | 3 => 3 | 21 => 21 | 160 => 229 | 0 => 0 | 208 => 237 | 206 => 235 | 4 => 4 | 51 => 46 | n => n, fun | n => n⟩
theorem Tryd.lays275 : Go.Proofs.Lays.n275 Tryd.prog Tryd.lays275_ren := {
  mixed := by kernel_rfl
  f275 := Tryd.func187.trans (congrArg some (by kernel_rfl))
  t0 := Tryd.underlying0
  a0 := Tryd.isAgg0
  z0 := Tryd.sizeOf0
  v0 := Tryd.zeroValue0
  t3 := Tryd.underlying3
  a3 := Tryd.isAgg3
  z3 := Tryd.sizeOf3
  v3 := Tryd.zeroValue3
  t4 := Tryd.underlying4
  a4 := Tryd.isAgg4
  z4 := Tryd.sizeOf4
  v4 := Tryd.zeroValue4
  t21 := Tryd.underlying21
  a21 := Tryd.isAgg21
  z21 := Tryd.sizeOf21
  v21 := Tryd.zeroValue21
  t51 := Tryd.underlying46
  a51 := Tryd.isAgg46
  z51 := Tryd.sizeOf46
  v51 := Tryd.zeroValue46
  t160 := Tryd.underlying229
  a160 := Tryd.isAgg229
  z160 := Tryd.sizeOf229
  v160 := Tryd.zeroValue229
  t206 := Tryd.underlying235
  a206 := Tryd.isAgg235
  z206 := Tryd.sizeOf235
  v206 := Tryd.zeroValue235
  t208 := Tryd.underlying237
  a208 := Tryd.isAgg237
  z208 := Tryd.sizeOf237
  v208 := Tryd.zeroValue237 }
open Go.RowKit Go.Lib in
theorem Tryd.unicode_convertCase (c : Nat) (hc : c < 3) (r : Int) (A o : Nat) (x : CaseRow) (w : World) (hlo : (x.1 : Int) ≤ r) (hhi : r ≤ (x.2.1 : Int)) (hH : x.2.1 < 2147483647) (c0 : w.cell? ⟨A, o, none⟩ = some (.int .u32 x.1)) (cD : w.cell? ⟨A, o + 2 + c, none⟩ = some (.int .i32 (x.delta c))) :
    Calls Tryd.prog 187 #[.int .i64 c, .int .i32 r, .pointer (some ⟨A, o, none⟩)] w fun e w' => e = .returned (.int .i32 (wrap32 (convertR c r x))) ∧ ∃ q, w' = w.drewN q := Any.unicode_convertCase Tryd.lays275 c hc r A o x w hlo hhi hH c0 cD
def Tryd.lays313_ren : Go.Shelf.Ren := ⟨fun | 313 => 182 | 274 => 186 | 275 => 187 | n => n, fun | 3 => 3 | 21 => 21 | 162 => 222 | 4 => 4 | 160 => 229 | 46 => 106 | 0 => 0 | 208 => 237 | 51 => 46 | 206 => 235 | n => n, fun | n => n⟩
theorem Tryd.lays313 : Go.Proofs.Lays.n313 Tryd.prog Tryd.lays313_ren := {
  mixed := by kernel_rfl
  f274 := Tryd.func186.trans (congrArg some (by kernel_rfl))
  f275 := Tryd.func187.trans (congrArg some (by kernel_rfl))
  f313 := Tryd.func182.trans (congrArg some (by kernel_rfl))
  t0 := Tryd.underlying0
  a0 := Tryd.isAgg0
  z0 := Tryd.sizeOf0
  v0 := Tryd.zeroValue0
  t3 := Tryd.underlying3
  a3 := Tryd.isAgg3
  z3 := Tryd.sizeOf3
  v3 := Tryd.zeroValue3
  t4 := Tryd.underlying4
  a4 := Tryd.isAgg4
  z4 := Tryd.sizeOf4
  v4 := Tryd.zeroValue4
  t21 := Tryd.underlying21
  a21 := Tryd.isAgg21
  z21 := Tryd.sizeOf21
  v21 := Tryd.zeroValue21
  t46 := Tryd.underlying106
  a46 := Tryd.isAgg106
  z46 := Tryd.sizeOf106
  v46 := Tryd.zeroValue106
  t51 := Tryd.underlying46
  a51 := Tryd.isAgg46
  z51 := Tryd.sizeOf46
  v51 := Tryd.zeroValue46
  t160 := Tryd.underlying229
  a160 := Tryd.isAgg229
  z160 := Tryd.sizeOf229
  v160 := Tryd.zeroValue229
  t162 := Tryd.underlying222
  a162 := Tryd.isAgg222
  z162 := Tryd.sizeOf222
  v162 := Tryd.zeroValue222
  t206 := Tryd.underlying235
  a206 := Tryd.isAgg235
  z206 := Tryd.sizeOf235
  v206 := Tryd.zeroValue235
  t208 := Tryd.underlying237
  a208 := Tryd.isAgg237
  z208 := Tryd.sizeOf237
  v208 := Tryd.zeroValue237 }
open Go.RowKit Go.Lib in
theorem Tryd.unicode_to (c : Nat) (hc : c < 3) (r : Int) (T : Array CaseRow) (R oR cap : Nat) (w : World) (hT : CaseTab R oR T w) (hok : CaseOk2 T) (hn : T.size ≤ 1000000000) :
    Calls Tryd.prog 182 #[.int .i64 c, .int .i32 r, .slice (some ⟨R, oR, none⟩) T.size cap] w fun e w' => e = .returned (.tuple #[.int .i32 (toW T c r), .bool (lookupIdx T r (T.size + 1) 0 T.size).isSome]) ∧ ∃ q, w' = w.drewN q := Any.unicode_to Tryd.lays313 c hc r T R oR cap w hT hok hn
def Tryd.lays262_ren : Go.Shelf.Ren := ⟨fun | 262 => 167 | 313 => 182 | 274 => 186 | 275 => 187 | n => n, fun | 3 => 3 | 21 => 21 | 162 => 222 | 203 => 220 | 4 => 4 | 160 => 229 | 46 => 106 | 0 => 0 | 208 => 237 | 51 => 46 | 206 => 235 | n => n, fun | 13 => 4 | n => n⟩
theorem Tryd.lays262 : Go.Proofs.Lays.n262 Tryd.prog Tryd.lays262_ren := {
  mixed := by kernel_rfl
  f262 := Tryd.func167.trans (congrArg some (by kernel_rfl))
  f274 := Tryd.func186.trans (congrArg some (by kernel_rfl))
  f275 := Tryd.func187.trans (congrArg some (by kernel_rfl))
  f313 := Tryd.func182.trans (congrArg some (by kernel_rfl))
  t0 := Tryd.underlying0
  a0 := Tryd.isAgg0
  z0 := Tryd.sizeOf0
  v0 := Tryd.zeroValue0
  t3 := Tryd.underlying3
  a3 := Tryd.isAgg3
  z3 := Tryd.sizeOf3
  v3 := Tryd.zeroValue3
  t4 := Tryd.underlying4
  a4 := Tryd.isAgg4
  z4 := Tryd.sizeOf4
  v4 := Tryd.zeroValue4
  t21 := Tryd.underlying21
  a21 := Tryd.isAgg21
  z21 := Tryd.sizeOf21
  v21 := Tryd.zeroValue21
  t46 := Tryd.underlying106
  a46 := Tryd.isAgg106
  z46 := Tryd.sizeOf106
  v46 := Tryd.zeroValue106
  t51 := Tryd.underlying46
  a51 := Tryd.isAgg46
  z51 := Tryd.sizeOf46
  v51 := Tryd.zeroValue46
  t160 := Tryd.underlying229
  a160 := Tryd.isAgg229
  z160 := Tryd.sizeOf229
  v160 := Tryd.zeroValue229
  t162 := Tryd.underlying222
  a162 := Tryd.isAgg222
  z162 := Tryd.sizeOf222
  v162 := Tryd.zeroValue222
  t203 := Tryd.underlying220
  a203 := Tryd.isAgg220
  z203 := Tryd.sizeOf220
  v203 := Tryd.zeroValue220
  t206 := Tryd.underlying235
  a206 := Tryd.isAgg235
  z206 := Tryd.sizeOf235
  v206 := Tryd.zeroValue235
  t208 := Tryd.underlying237
  a208 := Tryd.isAgg237
  z208 := Tryd.sizeOf237
  v208 := Tryd.zeroValue237
  g13 := by kernel_rfl }
open Go.RowKit Go.Lib in
theorem Tryd.unicode_To (c : Nat) (hc : c < 3) (r : Int) (T : Array CaseRow) (w : World) (hV : CaseVar 4 T w) (hok : CaseOk2 T) (hn : T.size ≤ 1000000000) :
    Calls Tryd.prog 167 #[.int .i64 c, .int .i32 r] w fun e w' => e = .returned (.int .i32 (toW T c r)) ∧ ∃ q, w' = w.drewN q := Any.unicode_To Tryd.lays262 c hc r T w hV hok hn
open Go.RowKit Go.Lib in
theorem Tryd.unicode_ToLower_any (r : Int) (T : Array CaseRow) (w : World) (hV : CaseVar 4 T w) (hok : CaseOk2 T) (hn : T.size ≤ 1000000000) :
    Calls Tryd.prog 137 #[.int .i32 r] w fun e w' => e = .returned (.int .i32 (Lib.toLowerW T r)) ∧ ∃ q, w' = w.drewN q := Any.unicode_ToLower_any Tryd.lays204 r T w hV hok hn
open Go.RowKit Go.Lib in
theorem Tryd.unicode_ToUpper_any (r : Int) (T : Array CaseRow) (w : World) (hV : CaseVar 4 T w) (hok : CaseOk2 T) (hn : T.size ≤ 1000000000) :
    Calls Tryd.prog 136 #[.int .i32 r] w fun e w' => e = .returned (.int .i32 (Lib.toUpperW T r)) ∧ ∃ q, w' = w.drewN q := Any.unicode_ToUpper_any Tryd.lays203 r T w hV hok hn
open Go.RowKit Go.Lib in
theorem Tryd.unicode_ToLower_laid (r : Int) (w : World) (hV : CaseVar 4 caseA w) :
    Calls Tryd.prog 137 #[.int .i32 r] w fun e w' => e = .returned (.int .i32 (toLowerU r)) ∧ ∃ q, w' = w.drewN q := Any.unicode_ToLower_laid Tryd.lays204 r w hV
open Go.RowKit Go.Lib in
theorem Tryd.unicode_ToUpper_laid (r : Int) (w : World) (hV : CaseVar 4 caseA w) :
    Calls Tryd.prog 136 #[.int .i32 r] w fun e w' => e = .returned (.int .i32 (toUpperU r)) ∧ ∃ q, w' = w.drewN q := Any.unicode_ToUpper_laid Tryd.lays203 r w hV
open Go.RowKit Go.Lib in
theorem Tryd.unicode_is16_any (T : Array Rg) (R oR cap : Nat) (z : Nat) (w : World) (hz : z < 65536) (hT : RgTab .u16 R oR T w) (hok : RgOk 65536 T) (hn : T.size ≤ 1000000000) :
    Calls Tryd.prog 162 #[.slice (some ⟨R, oR, none⟩) T.size cap, .int .u16 z] w fun e w' => e = .returned (.bool (is16Go T z)) ∧ ∃ q, w' = w.drewN q := Any.unicode_is16_any Tryd.lays311 T R oR cap z w hz hT hok hn
def Tryd.lays312_ren : Go.Shelf.Ren := ⟨fun | 312 => 163 | n => n, fun | 194 => 190 | 51 => 46 | 4 => 4 | 3 => 3 | 0 => 0 | 227 => 219 | 201 => 198 | 46 => 106 | n => n, fun | n => n⟩
theorem Tryd.lays312 : Go.Proofs.Lays.n312 Tryd.prog Tryd.lays312_ren := {
  mixed := by kernel_rfl
  f312 := Tryd.func163.trans (congrArg some (by kernel_rfl))
  t0 := Tryd.underlying0
  a0 := Tryd.isAgg0
  z0 := Tryd.sizeOf0
  v0 := Tryd.zeroValue0
  t3 := Tryd.underlying3
  a3 := Tryd.isAgg3
  z3 := Tryd.sizeOf3
  v3 := Tryd.zeroValue3
  t4 := Tryd.underlying4
  a4 := Tryd.isAgg4
  z4 := Tryd.sizeOf4
  v4 := Tryd.zeroValue4
  t46 := Tryd.underlying106
  a46 := Tryd.isAgg106
  z46 := Tryd.sizeOf106
  v46 := Tryd.zeroValue106
  t51 := Tryd.underlying46
  a51 := Tryd.isAgg46
  z51 := Tryd.sizeOf46
  v51 := Tryd.zeroValue46
  t194 := Tryd.underlying190
  a194 := Tryd.isAgg190
  z194 := Tryd.sizeOf190
  v194 := Tryd.zeroValue190
  t201 := Tryd.underlying198
  a201 := Tryd.isAgg198
  z201 := Tryd.sizeOf198
  v201 := Tryd.zeroValue198
  t227 := Tryd.underlying219
  a227 := Tryd.isAgg219
  z227 := Tryd.sizeOf219
  v227 := Tryd.zeroValue219 }
open Go.RowKit Go.Lib in
theorem Tryd.unicode_is32_any (T : Array Rg) (R oR cap : Nat) (z : Nat) (w : World) (hz : z < 4294967296) (hT : RgTab .u32 R oR T w) (hok : RgOk 4294967296 T) (hn : T.size ≤ 1000000000) :
    Calls Tryd.prog 163 #[.slice (some ⟨R, oR, none⟩) T.size cap, .int .u32 z] w fun e w' => e = .returned (.bool (is32Go T z)) ∧ Below w.heap.size w w' := Any.unicode_is32_any Tryd.lays312 T R oR cap z w hz hT hok hn
open Go.RowKit Go.Lib in
theorem Tryd.unicode_isExcludingLatin_any (Tb oT : Nat) (T : RTab) (r : Int) (w : World) (hlo : -2147483648 ≤ r) (hhi : r ≤ 2147483647) (hA : RTabAt Tb oT T w) (hok : RTabOk T) :
    Calls Tryd.prog 132 #[.pointer (some ⟨Tb, oT, none⟩), .int .i32 r] w fun e w' => e = .returned (.bool (exclGo T r)) ∧ Below w.heap.size w w' := Any.unicode_isExcludingLatin_any Tryd.lays261 Tb oT T r w hlo hhi hA hok
open Go.RowKit Go.Sort in
/-- .. and plain. (LAID: no walk: one application.) -/
theorem Tryd.slices_Sort_string_none (p : Option Addr) (cap : Nat) (w : World) :
    Calls Tryd.prog 101 #[.slice p 0 cap] w fun e w' => e = .returned (.tuple #[]) ∧ w' = w := Any.slices_Sort_string_none Tryd.lays190 p cap w
end Go.Proofs
