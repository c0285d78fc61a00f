import Derived.Shelf.Utf8.RuneCount
import Derived.Shelf.Strconv.Atoi
import Derived.Shelf.Strconv.Itoa0
import Derived.Shelf.Strconv.Itoa1
import Derived.Shelf.LaysM
import Derived.Shelf.Strconv.Itoa2
import Derived.Shelf.Strconv.Itoa3
import Derived.Shelf.Strconv.AtoiErrFast
import Derived.Shelf.Strconv.ParseIntEmpty
import Derived.Shelf.Strconv.AtoiFail
import Derived.Shelf.Strconv.Clone
import Derived.Shelf.Strconv.SyntaxError
import Derived.Shelf.LaysC
import Derived.Shelf.Strconv.ToError
import Derived.Shelf.Strconv.AtoiErr
import Derived.Shelf.Strconv.ErrVar
import Derived.Shelf.Strconv.Lower
import Derived.Shelf.Strconv.ParseUint10
import Derived.Shelf.Strconv.ParseUint10Empty
import Derived.Shelf.Strconv.ParseUint10Any
import Derived.Shelf.Strconv.ParseInt10
import Derived.Shelf.Strconv.AtoiLong
import Derived.Shelf.Strconv.AtoiInnerAll
import Derived.Shelf.Strconv.RangeError
import Derived.Shelf.Strconv.ToErrorRange
import Derived.Shelf.Strconv.AtoiAll
import Derived.Shelf.Strconv.ErrVarAll
import Derived.Shelf.Strconv.ParseUintEmpty
import Derived.Shelf.Strconv.ParseUint10b64
import Derived.Shelf.Strconv.ParseUint10b32
import Derived.Shelf.Strconv.ParseUint10b16
import Derived.Shelf.Strconv.ParseUint10b8
import Derived.Shelf.Strconv.ParseUint10At
import Derived.Shelf.Strconv.ParseInt10At64
import Derived.Shelf.Strconv.ParseInt10At32
import Derived.Shelf.Strconv.ParseInt10At16
import Derived.Shelf.Strconv.ParseInt10At8
import Derived.Shelf.Strconv.ParseInt10All
import Derived.Shelf.Strings.Search1
import Derived.Shelf.Strings.Search2
import Derived.Shelf.Strings.Search3
import Derived.Shelf.Strings.Cut
import Derived.Shelf.Strings.Count
import Derived.Shelf.Strings.Shaped
import Derived.Shelf.Strings.Prefix
import Derived.Shelf.Strings.Split
import Derived.Shelf.Strings.SplitShaped
import Derived.Shelf.Unicode.Decode
import Derived.Shelf.Strings.RuneCount
import Derived.Shelf.Strings.Explode
import Derived.Shelf.Unicode.DecodeSlow
import Derived.Shelf.Unicode.DecodeAny
import Derived.Shelf.Strings.FieldsFuncAny
import Derived.Shelf.Strings.FieldsFuncGrows
import Derived.Test.YtljlfmmhoceihaaDoorProg
import Derived.Test.YtljlfmmhoceihaaDoorK2
/-
  DERIVED: THE SHELF's CONTRACTS AT THIS DUMP, IN PLAIN WORDS (tools/lay-plain.mjs out of 'TrydShelf.lean', which tools/lay-shelf.mjs wrote): THE SAME DECLARATIONS UNDER THE SAME NAMES: 'import', 'namespace', 'open', 'def', 'theorem' AND NOTHING ELSE: no command of the shelf's: FOR A HAND-IN. Each laying: the table of numbers ('.._ren') and one theorem, a field a fact of the dump's own or the kernel's comparison; each contract: ONE APPLICATION.
-/
namespace Go.Proofs
open Go.Shelf
def Tryd.lays195_ren : Go.Shelf.Ren := ⟨fun | 195 => 65 | n => n, fun | 9 => 9 | 3 => 3 | 0 => 0 | 4 => 4 | n => n, fun | n => n⟩
theorem Tryd.lays195 : Go.Proofs.Lays.n195 Tryd.prog Tryd.lays195_ren := {
  mixed := by kernel_rfl
  f195 := Tryd.func65.trans (congrArg some (by kernel_rfl))
  t0 := Tryd.underlying0
  a0 := Tryd.isAgg0
  z0 := Tryd.sizeOf0
  v0 := Tryd.zeroValue0
  t3 := Tryd.underlying3
  a3 := Tryd.isAgg3
  z3 := Tryd.sizeOf3
  v3 := Tryd.zeroValue3
  t4 := Tryd.underlying4
  a4 := Tryd.isAgg4
  z4 := Tryd.sizeOf4
  v4 := Tryd.zeroValue4
  t9 := Tryd.underlying9
  a9 := Tryd.isAgg9
  z9 := Tryd.sizeOf9
  v9 := Tryd.zeroValue9 }
open Go.RowKit in
/-- unicode/utf8.RuneCountInString: "RuneCountInString is like RuneCount but its input is a string." ("RuneCount returns the number of runes in p. Erroneous and short encodings are treated as single runes of width 1 byte."): EVERY STRING, valid UTF-8 or not: 'Lib.runeCount s' (plain Lean over the model's own 'Utf8.decode'; 'Lib.runeCount_le': at most len(s); 'Lib.runeCount_ascii': on ASCII: len(s)). THE ONE CONDITION: len(s) below 2^63 - 1 (the counter does not wrap): the form's reach pays it. THE WORLD BEHIND THE CALL: ONE BLOCK MORE: the model's iterator over s, at its end: all else as it was. (LAID: no walk: one application.) -/
theorem Tryd.utf8_RuneCountInString (s : ByteArray) (w : World) (hs : s.size < 9223372036854775807) :
    Calls Tryd.prog 65 #[.string s] w fun e w' => e = .returned (.int .i64 (Lib.runeCount s)) ∧ ∃ pos, w' = w.iter s pos := Any.utf8_RuneCountInString Tryd.lays195 s w hs
def Tryd.lays244_ren : Go.Shelf.Ren := ⟨fun | 244 => 42 | 247 => 48 | 287 => 62 | 321 => 77 | 322 => 78 | n => n, fun | 9 => 9 | 3 => 3 | 75 => 68 | 4 => 4 | 5 => 5 | 167 => 88 | 37 => 80 | 0 => 0 | 85 => 89 | 2 => 2 | 53 => 65 | 175 => 101 | 46 => 34 | 21 => 21 | 80 => 132 | n => n, fun | n => n⟩
theorem Tryd.lays244 : Go.Proofs.Lays.n244 Tryd.prog Tryd.lays244_ren := {
  mixed := by kernel_rfl
  f244 := Tryd.func42.trans (congrArg some (by kernel_rfl))
  f247 := Tryd.func48.trans (congrArg some (by kernel_rfl))
  f287 := Tryd.func62.trans (congrArg some (by kernel_rfl))
  f321 := Tryd.func77.trans (congrArg some (by kernel_rfl))
  f322 := Tryd.func78.trans (congrArg some (by kernel_rfl))
  t0 := Tryd.underlying0
  a0 := Tryd.isAgg0
  z0 := Tryd.sizeOf0
  v0 := Tryd.zeroValue0
  t2 := Tryd.underlying2
  a2 := Tryd.isAgg2
  z2 := Tryd.sizeOf2
  v2 := Tryd.zeroValue2
  t3 := Tryd.underlying3
  a3 := Tryd.isAgg3
  z3 := Tryd.sizeOf3
  v3 := Tryd.zeroValue3
  t4 := Tryd.underlying4
  a4 := Tryd.isAgg4
  z4 := Tryd.sizeOf4
  v4 := Tryd.zeroValue4
  t5 := Tryd.underlying5
  a5 := Tryd.isAgg5
  z5 := Tryd.sizeOf5
  v5 := Tryd.zeroValue5
  t9 := Tryd.underlying9
  a9 := Tryd.isAgg9
  z9 := Tryd.sizeOf9
  v9 := Tryd.zeroValue9
  t21 := Tryd.underlying21
  a21 := Tryd.isAgg21
  z21 := Tryd.sizeOf21
  v21 := Tryd.zeroValue21
  t37 := Tryd.underlying80
  a37 := Tryd.isAgg80
  z37 := Tryd.sizeOf80
  v37 := Tryd.zeroValue80
  t46 := Tryd.underlying34
  a46 := Tryd.isAgg34
  z46 := Tryd.sizeOf34
  v46 := Tryd.zeroValue34
  t53 := Tryd.underlying65
  a53 := Tryd.isAgg65
  z53 := Tryd.sizeOf65
  v53 := Tryd.zeroValue65
  t75 := Tryd.underlying68
  a75 := Tryd.isAgg68
  z75 := Tryd.sizeOf68
  v75 := Tryd.zeroValue68
  t85 := Tryd.underlying89
  a85 := Tryd.isAgg89
  z85 := Tryd.sizeOf89
  v85 := Tryd.zeroValue89
  t167 := Tryd.underlying88
  a167 := Tryd.isAgg88
  z167 := Tryd.sizeOf88
  v167 := Tryd.zeroValue88
  t175 := Tryd.underlying101
  a175 := Tryd.isAgg101
  z175 := Tryd.sizeOf101
  v175 := Tryd.zeroValue101 }
open Go.RowKit in
/-- internal/strconv.Atoi, at a decimal numeral of at most 18 bytes: ITS VALUE, AND NO ERROR. The world behind the call: the one new row that '[]byte(s)' lays. (LAID: no walk: one application.) -/
theorem Tryd.internal_strconv_Atoi (s : ByteArray) (n : Int) (hl : s.size ≤ 18) (h : Lib.atoi s.data.toList = some n) (w : World) :
    Calls Tryd.prog 42 #[.string s] w fun e w' => e = .returned (.tuple #[.int .i64 n, .nilIface]) ∧ ∃ t, w' = Lib.bytesWorld w 5 t := Any.internal_strconv_Atoi Tryd.lays244 s n hl h w
def Tryd.lays172_ren : Go.Shelf.Ren := ⟨fun | 172 => 33 | 244 => 42 | 245 => 43 | 247 => 48 | 279 => 49 | 280 => 50 | 281 => 51 | 282 => 52 | 287 => 62 | 316 => 63 | 171 => 30 | 205 => 64 | 321 => 77 | 322 => 78 | 243 => 41 | 246 => 47 | 283 => 58 | 284 => 59 | 285 => 60 | 286 => 61 | 129 => 73 | 317 => 72 | 318 => 74 | 319 => 75 | 320 => 76 | 337 => 82 | 338 => 83 | n => n, fun | 9 => 9 | 3 => 3 | 75 => 68 | 76 => 69 | 4 => 4 | 5 => 5 | 167 => 88 | 37 => 80 | 0 => 0 | 85 => 89 | 2 => 2 | 168 => 91 | 53 => 65 | 175 => 101 | 46 => 34 | 210 => 105 | 127 => 119 | 145 => 122 | 143 => 120 | 21 => 21 | 171 => 96 | 173 => 99 | 212 => 113 | 51 => 114 | 20 => 20 | 213 => 115 | 232 => 130 | 233 => 131 | 80 => 132 | n => n, fun | 15 => 0 | 16 => 1 | 17 => 3 | 18 => 6 | 19 => 7 | n => n⟩
theorem Tryd.lays172 : Go.Proofs.Lays.n172 Tryd.prog Tryd.lays172_ren := {
  mixed := by kernel_rfl
  f129 := Tryd.func73.trans (congrArg some (by kernel_rfl))
  f171 := Tryd.func30.trans (congrArg some (by kernel_rfl))
  f172 := Tryd.func33.trans (congrArg some (by kernel_rfl))
  f205 := Tryd.func64.trans (congrArg some (by kernel_rfl))
  f243 := Tryd.func41.trans (congrArg some (by kernel_rfl))
  f244 := Tryd.func42.trans (congrArg some (by kernel_rfl))
  f245 := Tryd.func43.trans (congrArg some (by kernel_rfl))
  f246 := Tryd.func47.trans (congrArg some (by kernel_rfl))
  f247 := Tryd.func48.trans (congrArg some (by kernel_rfl))
  f279 := Tryd.func49.trans (congrArg some (by kernel_rfl))
  f280 := Tryd.func50.trans (congrArg some (by kernel_rfl))
  f281 := Tryd.func51.trans (congrArg some (by kernel_rfl))
  f282 := Tryd.func52.trans (congrArg some (by kernel_rfl))
  f283 := Tryd.func58.trans (congrArg some (by kernel_rfl))
  f284 := Tryd.func59.trans (congrArg some (by kernel_rfl))
  f285 := Tryd.func60.trans (congrArg some (by kernel_rfl))
  f286 := Tryd.func61.trans (congrArg some (by kernel_rfl))
  f287 := Tryd.func62.trans (congrArg some (by kernel_rfl))
  f316 := Tryd.func63.trans (congrArg some (by kernel_rfl))
  f317 := Tryd.func72.trans (congrArg some (by kernel_rfl))
  f318 := Tryd.func74.trans (congrArg some (by kernel_rfl))
  f319 := Tryd.func75.trans (congrArg some (by kernel_rfl))
  f320 := Tryd.func76.trans (congrArg some (by kernel_rfl))
  f321 := Tryd.func77.trans (congrArg some (by kernel_rfl))
  f322 := Tryd.func78.trans (congrArg some (by kernel_rfl))
  f337 := Tryd.func82.trans (congrArg some (by kernel_rfl))
  f338 := Tryd.func83.trans (congrArg some (by kernel_rfl))
  t0 := Tryd.underlying0
  a0 := Tryd.isAgg0
  z0 := Tryd.sizeOf0
  v0 := Tryd.zeroValue0
  t2 := Tryd.underlying2
  a2 := Tryd.isAgg2
  z2 := Tryd.sizeOf2
  v2 := Tryd.zeroValue2
  t3 := Tryd.underlying3
  a3 := Tryd.isAgg3
  z3 := Tryd.sizeOf3
  v3 := Tryd.zeroValue3
  t4 := Tryd.underlying4
  a4 := Tryd.isAgg4
  z4 := Tryd.sizeOf4
  v4 := Tryd.zeroValue4
  t5 := Tryd.underlying5
  a5 := Tryd.isAgg5
  z5 := Tryd.sizeOf5
  v5 := Tryd.zeroValue5
  t9 := Tryd.underlying9
  a9 := Tryd.isAgg9
  z9 := Tryd.sizeOf9
  v9 := Tryd.zeroValue9
  t20 := Tryd.underlying20
  a20 := Tryd.isAgg20
  z20 := Tryd.sizeOf20
  v20 := Tryd.zeroValue20
  t21 := Tryd.underlying21
  a21 := Tryd.isAgg21
  z21 := Tryd.sizeOf21
  v21 := Tryd.zeroValue21
  t37 := Tryd.underlying80
  a37 := Tryd.isAgg80
  z37 := Tryd.sizeOf80
  v37 := Tryd.zeroValue80
  t46 := Tryd.underlying34
  a46 := Tryd.isAgg34
  z46 := Tryd.sizeOf34
  v46 := Tryd.zeroValue34
  t51 := Tryd.underlying114
  a51 := Tryd.isAgg114
  z51 := Tryd.sizeOf114
  v51 := Tryd.zeroValue114
  t53 := Tryd.underlying65
  a53 := Tryd.isAgg65
  z53 := Tryd.sizeOf65
  v53 := Tryd.zeroValue65
  t75 := Tryd.underlying68
  a75 := Tryd.isAgg68
  z75 := Tryd.sizeOf68
  v75 := Tryd.zeroValue68
  t76 := Tryd.underlying69
  a76 := Tryd.isAgg69
  z76 := Tryd.sizeOf69
  v76 := Tryd.zeroValue69
  t85 := Tryd.underlying89
  a85 := Tryd.isAgg89
  z85 := Tryd.sizeOf89
  v85 := Tryd.zeroValue89
  t127 := Tryd.underlying119
  a127 := Tryd.isAgg119
  z127 := Tryd.sizeOf119
  v127 := Tryd.zeroValue119
  t143 := Tryd.underlying120
  a143 := Tryd.isAgg120
  z143 := Tryd.sizeOf120
  v143 := Tryd.zeroValue120
  t145 := Tryd.underlying122
  a145 := Tryd.isAgg122
  z145 := Tryd.sizeOf122
  v145 := Tryd.zeroValue122
  t167 := Tryd.underlying88
  a167 := Tryd.isAgg88
  z167 := Tryd.sizeOf88
  v167 := Tryd.zeroValue88
  t168 := Tryd.underlying91
  a168 := Tryd.isAgg91
  z168 := Tryd.sizeOf91
  v168 := Tryd.zeroValue91
  t171 := Tryd.underlying96
  a171 := Tryd.isAgg96
  z171 := Tryd.sizeOf96
  v171 := Tryd.zeroValue96
  t173 := Tryd.underlying99
  a173 := Tryd.isAgg99
  z173 := Tryd.sizeOf99
  v173 := Tryd.zeroValue99
  t175 := Tryd.underlying101
  a175 := Tryd.isAgg101
  z175 := Tryd.sizeOf101
  v175 := Tryd.zeroValue101
  t210 := Tryd.underlying105
  a210 := Tryd.isAgg105
  z210 := Tryd.sizeOf105
  v210 := Tryd.zeroValue105
  t212 := Tryd.underlying113
  a212 := Tryd.isAgg113
  z212 := Tryd.sizeOf113
  v212 := Tryd.zeroValue113
  t213 := Tryd.underlying115
  a213 := Tryd.isAgg115
  z213 := Tryd.sizeOf115
  t232 := Tryd.underlying130
  a232 := Tryd.isAgg130
  z232 := Tryd.sizeOf130
  v232 := Tryd.zeroValue130
  t233 := Tryd.underlying131
  a233 := Tryd.isAgg131
  z233 := Tryd.sizeOf131
  v233 := Tryd.zeroValue131
  g15 := by kernel_rfl
  g16 := by kernel_rfl
  g17 := by kernel_rfl
  g18 := by kernel_rfl
  g19 := by kernel_rfl }
open Go.RowKit in
/-- strconv.Atoi: "Atoi is equivalent to ParseInt(s, 10, 0), converted to type int.": AT A DECIMAL NUMERAL OF AT MOST 18 BYTES: its value, and a nil error. The world behind the call: the one new row that the library's '[]byte(s)' lays. (LAID: no walk: one application.) -/
theorem Tryd.strconv_Atoi (s : ByteArray) (n : Int) (hl : s.size ≤ 18) (h : Lib.atoi s.data.toList = some n) (w : World) :
    Calls Tryd.prog 33 #[.string s] w fun e w' => e = .returned (.tuple #[.int .i64 n, .nilIface]) ∧ ∃ t, w' = Lib.bytesWorld w 5 t := Any.strconv_Atoi Tryd.lays172 s n hl h w
def Tryd.lays129_ren : Go.Shelf.Ren := ⟨fun | 129 => 73 | n => n, fun | 53 => 65 | 3 => 3 | 4 => 4 | 46 => 34 | 5 => 5 | 9 => 9 | n => n, fun | n => n⟩
theorem Tryd.lays129 : Go.Proofs.Lays.n129 Tryd.prog Tryd.lays129_ren := {
  mixed := by kernel_rfl
  f129 := Tryd.func73.trans (congrArg some (by kernel_rfl))
  t3 := Tryd.underlying3
  a3 := Tryd.isAgg3
  z3 := Tryd.sizeOf3
  v3 := Tryd.zeroValue3
  t4 := Tryd.underlying4
  a4 := Tryd.isAgg4
  z4 := Tryd.sizeOf4
  v4 := Tryd.zeroValue4
  t5 := Tryd.underlying5
  a5 := Tryd.isAgg5
  z5 := Tryd.sizeOf5
  v5 := Tryd.zeroValue5
  t9 := Tryd.underlying9
  a9 := Tryd.isAgg9
  z9 := Tryd.sizeOf9
  v9 := Tryd.zeroValue9
  t46 := Tryd.underlying34
  a46 := Tryd.isAgg34
  z46 := Tryd.sizeOf34
  v46 := Tryd.zeroValue34
  t53 := Tryd.underlying65
  a53 := Tryd.isAgg65
  z53 := Tryd.sizeOf65
  v53 := Tryd.zeroValue65 }
/-- bits.Len64: "Len64 returns the minimum number of bits required to represent x; the result is 0 for x == 0.": IT RETURNS 'Lib.bitLen x'; the world is as it was. ('h0', 'h1': x is a uint64.) (LAID: no walk: one application.) -/
theorem Tryd.bits_Len64 (x : Int) (w : World) (h0 : 0 ≤ x) (h1 : x ≤ 18446744073709551615) :
    Calls Tryd.prog 73 #[.int .u64 x] w fun e w' => e = .returned (.int .i64 (Lib.bitLen x.toNat)) ∧ w' = w := Any.bits_Len64 Tryd.lays129 x w h0 h1
def Tryd.lays317_ren : Go.Shelf.Ren := ⟨fun | 317 => 72 | n => n, fun | 3 => 3 | 46 => 34 | n => n, fun | n => n⟩
theorem Tryd.lays317 : Go.Proofs.Lays.n317 Tryd.prog Tryd.lays317_ren := {
  mixed := by kernel_rfl
  f317 := Tryd.func72.trans (congrArg some (by kernel_rfl))
  t3 := Tryd.underlying3
  a3 := Tryd.isAgg3
  z3 := Tryd.sizeOf3
  v3 := Tryd.zeroValue3
  t46 := Tryd.underlying34
  a46 := Tryd.isAgg34
  z46 := Tryd.sizeOf34
  v46 := Tryd.zeroValue34 }
open Go.Lib in
/-- internal/strconv.log10Pow2: "log10Pow2(x) returns ⌊log₁₀ 2**x⌋ = ⌊x * log₁₀ 2⌋.": '(x * 78913) >> 18', at an x up to 64 (a length in bits). The world is as it was. (LAID: no walk: one application.) -/
theorem Tryd.internal_strconv_log10Pow2 (x : Nat) (h : x ≤ 64) (w : World) :
    Calls Tryd.prog 72 #[.int .i64 x] w fun e w' => e = .returned (.int .i64 (Lib.l10 x)) ∧ w' = w := Any.internal_strconv_log10Pow2 Tryd.lays317 x h w
def Tryd.lays318_ren : Go.Shelf.Ren := ⟨fun | 318 => 74 | n => n, fun | 3 => 3 | 4 => 4 | n => n, fun | n => n⟩
theorem Tryd.lays318 : Go.Proofs.Lays.n318 Tryd.prog Tryd.lays318_ren := {
  mixed := by kernel_rfl
  f318 := Tryd.func74.trans (congrArg some (by kernel_rfl))
  t3 := Tryd.underlying3
  a3 := Tryd.isAgg3
  z3 := Tryd.sizeOf3
  v3 := Tryd.zeroValue3
  t4 := Tryd.underlying4
  a4 := Tryd.isAgg4
  z4 := Tryd.sizeOf4
  v4 := Tryd.zeroValue4 }
open Go.Lib in
/-- internal/strconv.bool2: "bool2 converts b to an integer: 1 for true, 0 for false." The world is as it was. (LAID: no walk: one application.) -/
theorem Tryd.internal_strconv_bool2_int (b : Bool) (w : World) :
    Calls Tryd.prog 74 #[.bool b] w fun e w' => e = .returned (.int .i64 (if b then 1 else 0)) ∧ w' = w := Any.internal_strconv_bool2_int Tryd.lays318 b w
def Tryd.lays283_ren : Go.Shelf.Ren := ⟨fun | 283 => 58 | n => n, fun | 3 => 3 | 9 => 9 | 4 => 4 | n => n, fun | n => n⟩
theorem Tryd.lays283 : Go.Proofs.Lays.n283 Tryd.prog Tryd.lays283_ren := {
  mixed := by kernel_rfl
  f283 := Tryd.func58.trans (congrArg some (by kernel_rfl))
  t3 := Tryd.underlying3
  a3 := Tryd.isAgg3
  z3 := Tryd.sizeOf3
  v3 := Tryd.zeroValue3
  t4 := Tryd.underlying4
  a4 := Tryd.isAgg4
  z4 := Tryd.sizeOf4
  v4 := Tryd.zeroValue4
  t9 := Tryd.underlying9
  a9 := Tryd.isAgg9
  z9 := Tryd.sizeOf9
  v9 := Tryd.zeroValue9 }
open Go.Lib in
/-- internal/strconv.small: "small returns the string for an i with 0 <= i < nSmalls.": i's decimal numeral. The world is as it was. (LAID: no walk: one application.) -/
theorem Tryd.internal_strconv_small (i : Nat) (h : i < 100) (w : World) :
    Calls Tryd.prog 58 #[.int .i64 i] w fun e w' => e = .returned (.string ⟨(Lib.decDigits i).toArray⟩) ∧ w' = w := Any.internal_strconv_small Tryd.lays283 i h w
def Tryd.laysM284_ren : Go.Shelf.Ren := ⟨fun | 284 => 59 | 129 => 73 | 317 => 72 | 318 => 74 | n => n, fun | 53 => 65 | 3 => 3 | 212 => 113 | 0 => 0 | 4 => 4 | 46 => 34 | 5 => 5 | 9 => 9 | n => n, fun | 17 => 3 | n => n⟩
theorem Tryd.laysM284 : Go.Proofs.LaysM.n284 Tryd.prog Tryd.laysM284_ren := {
  mixed := by kernel_rfl
  f129 := Tryd.func73.trans (congrArg some (by kernel_rfl))
  f284 := Tryd.func59.trans (congrArg some (by kernel_rfl))
  f317 := Tryd.func72.trans (congrArg some (by kernel_rfl))
  f318 := Tryd.func74.trans (congrArg some (by kernel_rfl))
  t0 := Tryd.underlying0
  a0 := Tryd.isAgg0
  z0 := Tryd.sizeOf0
  v0 := Tryd.zeroValue0
  t3 := Tryd.underlying3
  a3 := Tryd.isAgg3
  z3 := Tryd.sizeOf3
  v3 := Tryd.zeroValue3
  t4 := Tryd.underlying4
  a4 := Tryd.isAgg4
  z4 := Tryd.sizeOf4
  v4 := Tryd.zeroValue4
  t5 := Tryd.underlying5
  a5 := Tryd.isAgg5
  z5 := Tryd.sizeOf5
  v5 := Tryd.zeroValue5
  t9 := Tryd.underlying9
  a9 := Tryd.isAgg9
  z9 := Tryd.sizeOf9
  v9 := Tryd.zeroValue9
  t46 := Tryd.underlying34
  a46 := Tryd.isAgg34
  z46 := Tryd.sizeOf34
  v46 := Tryd.zeroValue34
  t53 := Tryd.underlying65
  a53 := Tryd.isAgg65
  z53 := Tryd.sizeOf65
  v53 := Tryd.zeroValue65
  t212 := Tryd.underlying113
  a212 := Tryd.isAgg113
  z212 := Tryd.sizeOf113
  v212 := Tryd.zeroValue113
  g17 := by kernel_rfl
  i0 := by kernel_rfl
  i3 := by kernel_rfl
  i4 := by kernel_rfl
  i5 := by kernel_rfl
  i9 := by kernel_rfl
  i46 := by kernel_rfl
  i53 := by kernel_rfl
  i212 := by kernel_rfl
  m17 := by kernel_rfl }
open Go.Lib in
/-- internal/strconv.numDigits, at a d that is not 0: THE NUMBER OF d's DECIMAL DIGITS. The world is as it was. (LAID: no walk: one application.) -/
theorem Tryd.internal_strconv_numDigits (u : Nat) (h1 : 1 ≤ u) (h2 : u < 18446744073709551616) (w : World) (htab : Lib.TabIs Tryd.prog w "internal/strconv.uint64pow10" .u64 Lib.pow10Tab) :
    Calls Tryd.prog 59 #[.int .u64 u] w fun e w' => e = .returned (.int .i64 (Lib.nDigits u)) ∧ w' = w := Any.internal_strconv_numDigits Tryd.laysM284 u h1 h2 w htab
def Tryd.lays285_ren : Go.Shelf.Ren := ⟨fun | 285 => 60 | n => n, fun | 37 => 80 | 53 => 65 | 3 => 3 | 4 => 4 | 51 => 114 | 9 => 9 | 5 => 5 | 0 => 0 | n => n, fun | n => n⟩
theorem Tryd.lays285 : Go.Proofs.Lays.n285 Tryd.prog Tryd.lays285_ren := {
  mixed := by kernel_rfl
  f285 := Tryd.func60.trans (congrArg some (by kernel_rfl))
  t0 := Tryd.underlying0
  a0 := Tryd.isAgg0
  z0 := Tryd.sizeOf0
  v0 := Tryd.zeroValue0
  t3 := Tryd.underlying3
  a3 := Tryd.isAgg3
  z3 := Tryd.sizeOf3
  v3 := Tryd.zeroValue3
  t4 := Tryd.underlying4
  a4 := Tryd.isAgg4
  z4 := Tryd.sizeOf4
  v4 := Tryd.zeroValue4
  t5 := Tryd.underlying5
  a5 := Tryd.isAgg5
  z5 := Tryd.sizeOf5
  v5 := Tryd.zeroValue5
  t9 := Tryd.underlying9
  a9 := Tryd.isAgg9
  z9 := Tryd.sizeOf9
  v9 := Tryd.zeroValue9
  t37 := Tryd.underlying80
  a37 := Tryd.isAgg80
  z37 := Tryd.sizeOf80
  v37 := Tryd.zeroValue80
  t51 := Tryd.underlying114
  a51 := Tryd.isAgg114
  z51 := Tryd.sizeOf114
  v51 := Tryd.zeroValue114
  t53 := Tryd.underlying65
  a53 := Tryd.isAgg65
  z53 := Tryd.sizeOf65
  v53 := Tryd.zeroValue65 }
open Go.RowKit Go.Sort Go.Lib in
/-- internal/strconv.formatBase10: "formatBase10 formats the decimal representation of u into a. The caller is responsible for ensuring that a is big enough to hold u. If a is too big, leading zeros will be filled in as needed.": THE ROW HOLDS u's DIGITS ('FmtInv .. 0 ..': every place t holds 'dg u (len - 1 - t)'); all else is as it was but for the count of draws. (LAID: no walk: one application.) -/
theorem Tryd.internal_strconv_formatBase10 (blk off cap : Nat) (u : Nat) (d : Array UInt8) (w : World) (hH : Holds (fun (b : UInt8) => Value.int .u8 (b.toNat : Int)) w blk off d) (hu : u < 10 ^ d.size) (hu64 : u < 18446744073709551616) (hsz : d.size < 4611686018427387904) :
    Calls Tryd.prog 60 #[.slice (some ⟨blk, off, none⟩) d.size cap, .int .u64 u] w fun e w' =>
      e = .returned (.tuple #[]) ∧ ∃ (n v' : Nat) (dk : Array UInt8), w' = (putRow (fun (b : UInt8) => Value.int .u8 (b.toNat : Int)) w blk off dk).drewN n ∧ FmtInv d.size u 0 v' dk := Any.internal_strconv_formatBase10 Tryd.lays285 blk off cap u d w hH hu hu64 hsz
def Tryd.laysM246_ren : Go.Shelf.Ren := ⟨fun | 246 => 47 | 283 => 58 | 284 => 59 | 285 => 60 | 286 => 61 | 129 => 73 | 317 => 72 | 318 => 74 | 319 => 75 | 320 => 76 | 337 => 82 | 338 => 83 | n => n, fun | 2 => 2 | 3 => 3 | 9 => 9 | 4 => 4 | 171 => 96 | 0 => 0 | 53 => 65 | 37 => 80 | 5 => 5 | 173 => 99 | 212 => 113 | 51 => 114 | 20 => 20 | 213 => 115 | 46 => 34 | 232 => 130 | 233 => 131 | n => n, fun | 17 => 3 | 18 => 6 | 19 => 7 | n => n⟩
theorem Tryd.laysM246 : Go.Proofs.LaysM.n246 Tryd.prog Tryd.laysM246_ren := {
  mixed := by kernel_rfl
  f129 := Tryd.func73.trans (congrArg some (by kernel_rfl))
  f246 := Tryd.func47.trans (congrArg some (by kernel_rfl))
  f283 := Tryd.func58.trans (congrArg some (by kernel_rfl))
  f284 := Tryd.func59.trans (congrArg some (by kernel_rfl))
  f285 := Tryd.func60.trans (congrArg some (by kernel_rfl))
  f286 := Tryd.func61.trans (congrArg some (by kernel_rfl))
  f317 := Tryd.func72.trans (congrArg some (by kernel_rfl))
  f318 := Tryd.func74.trans (congrArg some (by kernel_rfl))
  f319 := Tryd.func75.trans (congrArg some (by kernel_rfl))
  f320 := Tryd.func76.trans (congrArg some (by kernel_rfl))
  f337 := Tryd.func82.trans (congrArg some (by kernel_rfl))
  f338 := Tryd.func83.trans (congrArg some (by kernel_rfl))
  t0 := Tryd.underlying0
  a0 := Tryd.isAgg0
  z0 := Tryd.sizeOf0
  v0 := Tryd.zeroValue0
  t2 := Tryd.underlying2
  a2 := Tryd.isAgg2
  z2 := Tryd.sizeOf2
  v2 := Tryd.zeroValue2
  t3 := Tryd.underlying3
  a3 := Tryd.isAgg3
  z3 := Tryd.sizeOf3
  v3 := Tryd.zeroValue3
  t4 := Tryd.underlying4
  a4 := Tryd.isAgg4
  z4 := Tryd.sizeOf4
  v4 := Tryd.zeroValue4
  t5 := Tryd.underlying5
  a5 := Tryd.isAgg5
  z5 := Tryd.sizeOf5
  v5 := Tryd.zeroValue5
  t9 := Tryd.underlying9
  a9 := Tryd.isAgg9
  z9 := Tryd.sizeOf9
  v9 := Tryd.zeroValue9
  t20 := Tryd.underlying20
  a20 := Tryd.isAgg20
  z20 := Tryd.sizeOf20
  v20 := Tryd.zeroValue20
  t37 := Tryd.underlying80
  a37 := Tryd.isAgg80
  z37 := Tryd.sizeOf80
  v37 := Tryd.zeroValue80
  t46 := Tryd.underlying34
  a46 := Tryd.isAgg34
  z46 := Tryd.sizeOf34
  v46 := Tryd.zeroValue34
  t51 := Tryd.underlying114
  a51 := Tryd.isAgg114
  z51 := Tryd.sizeOf114
  v51 := Tryd.zeroValue114
  t53 := Tryd.underlying65
  a53 := Tryd.isAgg65
  z53 := Tryd.sizeOf65
  v53 := Tryd.zeroValue65
  t171 := Tryd.underlying96
  a171 := Tryd.isAgg96
  z171 := Tryd.sizeOf96
  v171 := Tryd.zeroValue96
  t173 := Tryd.underlying99
  a173 := Tryd.isAgg99
  z173 := Tryd.sizeOf99
  v173 := Tryd.zeroValue99
  t212 := Tryd.underlying113
  a212 := Tryd.isAgg113
  z212 := Tryd.sizeOf113
  v212 := Tryd.zeroValue113
  t213 := Tryd.underlying115
  a213 := Tryd.isAgg115
  z213 := Tryd.sizeOf115
  t232 := Tryd.underlying130
  a232 := Tryd.isAgg130
  z232 := Tryd.sizeOf130
  v232 := Tryd.zeroValue130
  t233 := Tryd.underlying131
  a233 := Tryd.isAgg131
  z233 := Tryd.sizeOf131
  v233 := Tryd.zeroValue131
  g17 := by kernel_rfl
  g18 := by kernel_rfl
  g19 := by kernel_rfl
  i0 := by kernel_rfl
  i2 := by kernel_rfl
  i3 := by kernel_rfl
  i4 := by kernel_rfl
  i5 := by kernel_rfl
  i9 := by kernel_rfl
  i20 := by kernel_rfl
  i37 := by kernel_rfl
  i46 := by kernel_rfl
  i51 := by kernel_rfl
  i53 := by kernel_rfl
  i171 := by kernel_rfl
  i173 := by kernel_rfl
  i212 := by kernel_rfl
  i232 := by kernel_rfl
  i233 := by kernel_rfl
  m17 := by kernel_rfl
  m18 := by kernel_rfl
  m19 := by kernel_rfl }
open Go.RowKit Go.Sort Go.Lib in
/-- internal/strconv.FormatInt: "FormatInt returns the string representation of i in the given base": AT BASE 10: i's decimal numeral, for every int64. The world behind the call: the world before it, new blocks behind the heap, draws. (LAID: no walk: one application.) -/
theorem Tryd.internal_strconv_FormatInt_10 (n : Int) (h0 : -9223372036854775808 ≤ n) (h1 : n ≤ 9223372036854775807) (w : World) (htab : Lib.TabIs Tryd.prog w "internal/strconv.uint64pow10" .u64 Lib.pow10Tab) :
    Calls Tryd.prog 47 #[.int .i64 n, .int .i64 10] w fun e w' => e = .returned (.string ⟨(Lib.itoa n).toArray⟩) ∧ ∃ k os, w' = grow (w.drewN k) os := Any.internal_strconv_FormatInt_10 Tryd.laysM246 n h0 h1 w htab
def Tryd.lays246_ren : Go.Shelf.Ren := ⟨fun | 246 => 47 | 283 => 58 | 284 => 59 | 285 => 60 | 286 => 61 | 129 => 73 | 317 => 72 | 318 => 74 | 319 => 75 | 320 => 76 | 337 => 82 | 338 => 83 | n => n, fun | 2 => 2 | 3 => 3 | 9 => 9 | 4 => 4 | 171 => 96 | 0 => 0 | 53 => 65 | 37 => 80 | 5 => 5 | 173 => 99 | 212 => 113 | 51 => 114 | 20 => 20 | 213 => 115 | 46 => 34 | 232 => 130 | 233 => 131 | n => n, fun | 17 => 3 | 18 => 6 | 19 => 7 | n => n⟩
theorem Tryd.lays246 : Go.Proofs.Lays.n246 Tryd.prog Tryd.lays246_ren := {
  mixed := by kernel_rfl
  f129 := Tryd.func73.trans (congrArg some (by kernel_rfl))
  f246 := Tryd.func47.trans (congrArg some (by kernel_rfl))
  f283 := Tryd.func58.trans (congrArg some (by kernel_rfl))
  f284 := Tryd.func59.trans (congrArg some (by kernel_rfl))
  f285 := Tryd.func60.trans (congrArg some (by kernel_rfl))
  f286 := Tryd.func61.trans (congrArg some (by kernel_rfl))
  f317 := Tryd.func72.trans (congrArg some (by kernel_rfl))
  f318 := Tryd.func74.trans (congrArg some (by kernel_rfl))
  f319 := Tryd.func75.trans (congrArg some (by kernel_rfl))
  f320 := Tryd.func76.trans (congrArg some (by kernel_rfl))
  f337 := Tryd.func82.trans (congrArg some (by kernel_rfl))
  f338 := Tryd.func83.trans (congrArg some (by kernel_rfl))
  t0 := Tryd.underlying0
  a0 := Tryd.isAgg0
  z0 := Tryd.sizeOf0
  v0 := Tryd.zeroValue0
  t2 := Tryd.underlying2
  a2 := Tryd.isAgg2
  z2 := Tryd.sizeOf2
  v2 := Tryd.zeroValue2
  t3 := Tryd.underlying3
  a3 := Tryd.isAgg3
  z3 := Tryd.sizeOf3
  v3 := Tryd.zeroValue3
  t4 := Tryd.underlying4
  a4 := Tryd.isAgg4
  z4 := Tryd.sizeOf4
  v4 := Tryd.zeroValue4
  t5 := Tryd.underlying5
  a5 := Tryd.isAgg5
  z5 := Tryd.sizeOf5
  v5 := Tryd.zeroValue5
  t9 := Tryd.underlying9
  a9 := Tryd.isAgg9
  z9 := Tryd.sizeOf9
  v9 := Tryd.zeroValue9
  t20 := Tryd.underlying20
  a20 := Tryd.isAgg20
  z20 := Tryd.sizeOf20
  v20 := Tryd.zeroValue20
  t37 := Tryd.underlying80
  a37 := Tryd.isAgg80
  z37 := Tryd.sizeOf80
  v37 := Tryd.zeroValue80
  t46 := Tryd.underlying34
  a46 := Tryd.isAgg34
  z46 := Tryd.sizeOf34
  v46 := Tryd.zeroValue34
  t51 := Tryd.underlying114
  a51 := Tryd.isAgg114
  z51 := Tryd.sizeOf114
  v51 := Tryd.zeroValue114
  t53 := Tryd.underlying65
  a53 := Tryd.isAgg65
  z53 := Tryd.sizeOf65
  v53 := Tryd.zeroValue65
  t171 := Tryd.underlying96
  a171 := Tryd.isAgg96
  z171 := Tryd.sizeOf96
  v171 := Tryd.zeroValue96
  t173 := Tryd.underlying99
  a173 := Tryd.isAgg99
  z173 := Tryd.sizeOf99
  v173 := Tryd.zeroValue99
  t212 := Tryd.underlying113
  a212 := Tryd.isAgg113
  z212 := Tryd.sizeOf113
  v212 := Tryd.zeroValue113
  t213 := Tryd.underlying115
  a213 := Tryd.isAgg115
  z213 := Tryd.sizeOf115
  t232 := Tryd.underlying130
  a232 := Tryd.isAgg130
  z232 := Tryd.sizeOf130
  v232 := Tryd.zeroValue130
  t233 := Tryd.underlying131
  a233 := Tryd.isAgg131
  z233 := Tryd.sizeOf131
  v233 := Tryd.zeroValue131
  g17 := by kernel_rfl
  g18 := by kernel_rfl
  g19 := by kernel_rfl }
open Go.RowKit Go.Sort Go.Lib in
/-- THE ROAD WITHOUT THE TABLE: 0 <= i < 100: two constants are read, nothing is laid: no premise on the world, and the world is as it was. (LAID: no walk: one application.) -/
theorem Tryd.internal_strconv_FormatInt_10_small (i : Nat) (hi : i < 100) (w : World) :
    Calls Tryd.prog 47 #[.int .i64 i, .int .i64 10] w fun e w' => e = .returned (.string ⟨(Lib.decDigits i).toArray⟩) ∧ w' = w := Any.internal_strconv_FormatInt_10_small Tryd.lays246 i hi w
def Tryd.laysM243_ren : Go.Shelf.Ren := ⟨fun | 243 => 41 | 246 => 47 | 283 => 58 | 284 => 59 | 285 => 60 | 286 => 61 | 129 => 73 | 317 => 72 | 318 => 74 | 319 => 75 | 320 => 76 | 337 => 82 | 338 => 83 | n => n, fun | 3 => 3 | 9 => 9 | 2 => 2 | 4 => 4 | 171 => 96 | 0 => 0 | 53 => 65 | 37 => 80 | 5 => 5 | 173 => 99 | 212 => 113 | 51 => 114 | 20 => 20 | 213 => 115 | 46 => 34 | 232 => 130 | 233 => 131 | n => n, fun | 17 => 3 | 18 => 6 | 19 => 7 | n => n⟩
theorem Tryd.laysM243 : Go.Proofs.LaysM.n243 Tryd.prog Tryd.laysM243_ren := {
  mixed := by kernel_rfl
  f129 := Tryd.func73.trans (congrArg some (by kernel_rfl))
  f243 := Tryd.func41.trans (congrArg some (by kernel_rfl))
  f246 := Tryd.func47.trans (congrArg some (by kernel_rfl))
  f283 := Tryd.func58.trans (congrArg some (by kernel_rfl))
  f284 := Tryd.func59.trans (congrArg some (by kernel_rfl))
  f285 := Tryd.func60.trans (congrArg some (by kernel_rfl))
  f286 := Tryd.func61.trans (congrArg some (by kernel_rfl))
  f317 := Tryd.func72.trans (congrArg some (by kernel_rfl))
  f318 := Tryd.func74.trans (congrArg some (by kernel_rfl))
  f319 := Tryd.func75.trans (congrArg some (by kernel_rfl))
  f320 := Tryd.func76.trans (congrArg some (by kernel_rfl))
  f337 := Tryd.func82.trans (congrArg some (by kernel_rfl))
  f338 := Tryd.func83.trans (congrArg some (by kernel_rfl))
  t0 := Tryd.underlying0
  a0 := Tryd.isAgg0
  z0 := Tryd.sizeOf0
  v0 := Tryd.zeroValue0
  t2 := Tryd.underlying2
  a2 := Tryd.isAgg2
  z2 := Tryd.sizeOf2
  v2 := Tryd.zeroValue2
  t3 := Tryd.underlying3
  a3 := Tryd.isAgg3
  z3 := Tryd.sizeOf3
  v3 := Tryd.zeroValue3
  t4 := Tryd.underlying4
  a4 := Tryd.isAgg4
  z4 := Tryd.sizeOf4
  v4 := Tryd.zeroValue4
  t5 := Tryd.underlying5
  a5 := Tryd.isAgg5
  z5 := Tryd.sizeOf5
  v5 := Tryd.zeroValue5
  t9 := Tryd.underlying9
  a9 := Tryd.isAgg9
  z9 := Tryd.sizeOf9
  v9 := Tryd.zeroValue9
  t20 := Tryd.underlying20
  a20 := Tryd.isAgg20
  z20 := Tryd.sizeOf20
  v20 := Tryd.zeroValue20
  t37 := Tryd.underlying80
  a37 := Tryd.isAgg80
  z37 := Tryd.sizeOf80
  v37 := Tryd.zeroValue80
  t46 := Tryd.underlying34
  a46 := Tryd.isAgg34
  z46 := Tryd.sizeOf34
  v46 := Tryd.zeroValue34
  t51 := Tryd.underlying114
  a51 := Tryd.isAgg114
  z51 := Tryd.sizeOf114
  v51 := Tryd.zeroValue114
  t53 := Tryd.underlying65
  a53 := Tryd.isAgg65
  z53 := Tryd.sizeOf65
  v53 := Tryd.zeroValue65
  t171 := Tryd.underlying96
  a171 := Tryd.isAgg96
  z171 := Tryd.sizeOf96
  v171 := Tryd.zeroValue96
  t173 := Tryd.underlying99
  a173 := Tryd.isAgg99
  z173 := Tryd.sizeOf99
  v173 := Tryd.zeroValue99
  t212 := Tryd.underlying113
  a212 := Tryd.isAgg113
  z212 := Tryd.sizeOf113
  v212 := Tryd.zeroValue113
  t213 := Tryd.underlying115
  a213 := Tryd.isAgg115
  z213 := Tryd.sizeOf115
  t232 := Tryd.underlying130
  a232 := Tryd.isAgg130
  z232 := Tryd.sizeOf130
  v232 := Tryd.zeroValue130
  t233 := Tryd.underlying131
  a233 := Tryd.isAgg131
  z233 := Tryd.sizeOf131
  v233 := Tryd.zeroValue131
  g17 := by kernel_rfl
  g18 := by kernel_rfl
  g19 := by kernel_rfl
  i0 := by kernel_rfl
  i2 := by kernel_rfl
  i3 := by kernel_rfl
  i4 := by kernel_rfl
  i5 := by kernel_rfl
  i9 := by kernel_rfl
  i20 := by kernel_rfl
  i37 := by kernel_rfl
  i46 := by kernel_rfl
  i51 := by kernel_rfl
  i53 := by kernel_rfl
  i171 := by kernel_rfl
  i173 := by kernel_rfl
  i212 := by kernel_rfl
  i232 := by kernel_rfl
  i233 := by kernel_rfl
  m17 := by kernel_rfl
  m18 := by kernel_rfl
  m19 := by kernel_rfl }
open Go.RowKit Go.Sort Go.Lib in
/-- internal/strconv.Itoa: "Itoa is equivalent to FormatInt(int64(i), 10).": i's decimal numeral, for every int. (LAID: no walk: one application.) -/
theorem Tryd.internal_strconv_Itoa (n : Int) (h0 : -9223372036854775808 ≤ n) (h1 : n ≤ 9223372036854775807) (w : World) (htab : Lib.TabIs Tryd.prog w "internal/strconv.uint64pow10" .u64 Lib.pow10Tab) :
    Calls Tryd.prog 41 #[.int .i64 n] w fun e w' => e = .returned (.string ⟨(Lib.itoa n).toArray⟩) ∧ ∃ k os, w' = grow (w.drewN k) os := Any.internal_strconv_Itoa Tryd.laysM243 n h0 h1 w htab
def Tryd.lays243_ren : Go.Shelf.Ren := ⟨fun | 243 => 41 | 246 => 47 | 283 => 58 | 284 => 59 | 285 => 60 | 286 => 61 | 129 => 73 | 317 => 72 | 318 => 74 | 319 => 75 | 320 => 76 | 337 => 82 | 338 => 83 | n => n, fun | 3 => 3 | 9 => 9 | 2 => 2 | 4 => 4 | 171 => 96 | 0 => 0 | 53 => 65 | 37 => 80 | 5 => 5 | 173 => 99 | 212 => 113 | 51 => 114 | 20 => 20 | 213 => 115 | 46 => 34 | 232 => 130 | 233 => 131 | n => n, fun | 17 => 3 | 18 => 6 | 19 => 7 | n => n⟩
theorem Tryd.lays243 : Go.Proofs.Lays.n243 Tryd.prog Tryd.lays243_ren := {
  mixed := by kernel_rfl
  f129 := Tryd.func73.trans (congrArg some (by kernel_rfl))
  f243 := Tryd.func41.trans (congrArg some (by kernel_rfl))
  f246 := Tryd.func47.trans (congrArg some (by kernel_rfl))
  f283 := Tryd.func58.trans (congrArg some (by kernel_rfl))
  f284 := Tryd.func59.trans (congrArg some (by kernel_rfl))
  f285 := Tryd.func60.trans (congrArg some (by kernel_rfl))
  f286 := Tryd.func61.trans (congrArg some (by kernel_rfl))
  f317 := Tryd.func72.trans (congrArg some (by kernel_rfl))
  f318 := Tryd.func74.trans (congrArg some (by kernel_rfl))
  f319 := Tryd.func75.trans (congrArg some (by kernel_rfl))
  f320 := Tryd.func76.trans (congrArg some (by kernel_rfl))
  f337 := Tryd.func82.trans (congrArg some (by kernel_rfl))
  f338 := Tryd.func83.trans (congrArg some (by kernel_rfl))
  t0 := Tryd.underlying0
  a0 := Tryd.isAgg0
  z0 := Tryd.sizeOf0
  v0 := Tryd.zeroValue0
  t2 := Tryd.underlying2
  a2 := Tryd.isAgg2
  z2 := Tryd.sizeOf2
  v2 := Tryd.zeroValue2
  t3 := Tryd.underlying3
  a3 := Tryd.isAgg3
  z3 := Tryd.sizeOf3
  v3 := Tryd.zeroValue3
  t4 := Tryd.underlying4
  a4 := Tryd.isAgg4
  z4 := Tryd.sizeOf4
  v4 := Tryd.zeroValue4
  t5 := Tryd.underlying5
  a5 := Tryd.isAgg5
  z5 := Tryd.sizeOf5
  v5 := Tryd.zeroValue5
  t9 := Tryd.underlying9
  a9 := Tryd.isAgg9
  z9 := Tryd.sizeOf9
  v9 := Tryd.zeroValue9
  t20 := Tryd.underlying20
  a20 := Tryd.isAgg20
  z20 := Tryd.sizeOf20
  v20 := Tryd.zeroValue20
  t37 := Tryd.underlying80
  a37 := Tryd.isAgg80
  z37 := Tryd.sizeOf80
  v37 := Tryd.zeroValue80
  t46 := Tryd.underlying34
  a46 := Tryd.isAgg34
  z46 := Tryd.sizeOf34
  v46 := Tryd.zeroValue34
  t51 := Tryd.underlying114
  a51 := Tryd.isAgg114
  z51 := Tryd.sizeOf114
  v51 := Tryd.zeroValue114
  t53 := Tryd.underlying65
  a53 := Tryd.isAgg65
  z53 := Tryd.sizeOf65
  v53 := Tryd.zeroValue65
  t171 := Tryd.underlying96
  a171 := Tryd.isAgg96
  z171 := Tryd.sizeOf96
  v171 := Tryd.zeroValue96
  t173 := Tryd.underlying99
  a173 := Tryd.isAgg99
  z173 := Tryd.sizeOf99
  v173 := Tryd.zeroValue99
  t212 := Tryd.underlying113
  a212 := Tryd.isAgg113
  z212 := Tryd.sizeOf113
  v212 := Tryd.zeroValue113
  t213 := Tryd.underlying115
  a213 := Tryd.isAgg115
  z213 := Tryd.sizeOf115
  t232 := Tryd.underlying130
  a232 := Tryd.isAgg130
  z232 := Tryd.sizeOf130
  v232 := Tryd.zeroValue130
  t233 := Tryd.underlying131
  a233 := Tryd.isAgg131
  z233 := Tryd.sizeOf131
  v233 := Tryd.zeroValue131
  g17 := by kernel_rfl
  g18 := by kernel_rfl
  g19 := by kernel_rfl }
open Go.RowKit Go.Sort Go.Lib in
/-- THE ROAD WITHOUT THE TABLE: 0 <= i < 100. (LAID: no walk: one application.) -/
theorem Tryd.internal_strconv_Itoa_small (i : Nat) (hi : i < 100) (w : World) :
    Calls Tryd.prog 41 #[.int .i64 i] w fun e w' => e = .returned (.string ⟨(Lib.decDigits i).toArray⟩) ∧ w' = w := Any.internal_strconv_Itoa_small Tryd.lays243 i hi w
def Tryd.laysM171_ren : Go.Shelf.Ren := ⟨fun | 171 => 30 | 243 => 41 | 246 => 47 | 283 => 58 | 284 => 59 | 285 => 60 | 286 => 61 | 129 => 73 | 317 => 72 | 318 => 74 | 319 => 75 | 320 => 76 | 337 => 82 | 338 => 83 | n => n, fun | 3 => 3 | 9 => 9 | 2 => 2 | 4 => 4 | 171 => 96 | 0 => 0 | 53 => 65 | 37 => 80 | 5 => 5 | 173 => 99 | 212 => 113 | 51 => 114 | 20 => 20 | 213 => 115 | 46 => 34 | 232 => 130 | 233 => 131 | n => n, fun | 17 => 3 | 18 => 6 | 19 => 7 | n => n⟩
theorem Tryd.laysM171 : Go.Proofs.LaysM.n171 Tryd.prog Tryd.laysM171_ren := {
  mixed := by kernel_rfl
  f129 := Tryd.func73.trans (congrArg some (by kernel_rfl))
  f171 := Tryd.func30.trans (congrArg some (by kernel_rfl))
  f243 := Tryd.func41.trans (congrArg some (by kernel_rfl))
  f246 := Tryd.func47.trans (congrArg some (by kernel_rfl))
  f283 := Tryd.func58.trans (congrArg some (by kernel_rfl))
  f284 := Tryd.func59.trans (congrArg some (by kernel_rfl))
  f285 := Tryd.func60.trans (congrArg some (by kernel_rfl))
  f286 := Tryd.func61.trans (congrArg some (by kernel_rfl))
  f317 := Tryd.func72.trans (congrArg some (by kernel_rfl))
  f318 := Tryd.func74.trans (congrArg some (by kernel_rfl))
  f319 := Tryd.func75.trans (congrArg some (by kernel_rfl))
  f320 := Tryd.func76.trans (congrArg some (by kernel_rfl))
  f337 := Tryd.func82.trans (congrArg some (by kernel_rfl))
  f338 := Tryd.func83.trans (congrArg some (by kernel_rfl))
  t0 := Tryd.underlying0
  a0 := Tryd.isAgg0
  z0 := Tryd.sizeOf0
  v0 := Tryd.zeroValue0
  t2 := Tryd.underlying2
  a2 := Tryd.isAgg2
  z2 := Tryd.sizeOf2
  v2 := Tryd.zeroValue2
  t3 := Tryd.underlying3
  a3 := Tryd.isAgg3
  z3 := Tryd.sizeOf3
  v3 := Tryd.zeroValue3
  t4 := Tryd.underlying4
  a4 := Tryd.isAgg4
  z4 := Tryd.sizeOf4
  v4 := Tryd.zeroValue4
  t5 := Tryd.underlying5
  a5 := Tryd.isAgg5
  z5 := Tryd.sizeOf5
  v5 := Tryd.zeroValue5
  t9 := Tryd.underlying9
  a9 := Tryd.isAgg9
  z9 := Tryd.sizeOf9
  v9 := Tryd.zeroValue9
  t20 := Tryd.underlying20
  a20 := Tryd.isAgg20
  z20 := Tryd.sizeOf20
  v20 := Tryd.zeroValue20
  t37 := Tryd.underlying80
  a37 := Tryd.isAgg80
  z37 := Tryd.sizeOf80
  v37 := Tryd.zeroValue80
  t46 := Tryd.underlying34
  a46 := Tryd.isAgg34
  z46 := Tryd.sizeOf34
  v46 := Tryd.zeroValue34
  t51 := Tryd.underlying114
  a51 := Tryd.isAgg114
  z51 := Tryd.sizeOf114
  v51 := Tryd.zeroValue114
  t53 := Tryd.underlying65
  a53 := Tryd.isAgg65
  z53 := Tryd.sizeOf65
  v53 := Tryd.zeroValue65
  t171 := Tryd.underlying96
  a171 := Tryd.isAgg96
  z171 := Tryd.sizeOf96
  v171 := Tryd.zeroValue96
  t173 := Tryd.underlying99
  a173 := Tryd.isAgg99
  z173 := Tryd.sizeOf99
  v173 := Tryd.zeroValue99
  t212 := Tryd.underlying113
  a212 := Tryd.isAgg113
  z212 := Tryd.sizeOf113
  v212 := Tryd.zeroValue113
  t213 := Tryd.underlying115
  a213 := Tryd.isAgg115
  z213 := Tryd.sizeOf115
  t232 := Tryd.underlying130
  a232 := Tryd.isAgg130
  z232 := Tryd.sizeOf130
  v232 := Tryd.zeroValue130
  t233 := Tryd.underlying131
  a233 := Tryd.isAgg131
  z233 := Tryd.sizeOf131
  v233 := Tryd.zeroValue131
  g17 := by kernel_rfl
  g18 := by kernel_rfl
  g19 := by kernel_rfl
  i0 := by kernel_rfl
  i2 := by kernel_rfl
  i3 := by kernel_rfl
  i4 := by kernel_rfl
  i5 := by kernel_rfl
  i9 := by kernel_rfl
  i20 := by kernel_rfl
  i37 := by kernel_rfl
  i46 := by kernel_rfl
  i51 := by kernel_rfl
  i53 := by kernel_rfl
  i171 := by kernel_rfl
  i173 := by kernel_rfl
  i212 := by kernel_rfl
  i232 := by kernel_rfl
  i233 := by kernel_rfl
  m17 := by kernel_rfl
  m18 := by kernel_rfl
  m19 := by kernel_rfl }
open Go.RowKit Go.Sort Go.Lib in
/-- strconv.Itoa: "Itoa is equivalent to FormatInt(int64(i), 10).": i's DECIMAL NUMERAL ('Lib.itoa': a '-' where i is negative, then the digits), FOR EVERY int. The world behind the call: the world before it, new blocks behind the heap (the library's 'var a [24]byte'), draws. (LAID: no walk: one application.) -/
theorem Tryd.strconv_Itoa (n : Int) (h0 : -9223372036854775808 ≤ n) (h1 : n ≤ 9223372036854775807) (w : World) (htab : Lib.TabIs Tryd.prog w "internal/strconv.uint64pow10" .u64 Lib.pow10Tab) :
    Calls Tryd.prog 30 #[.int .i64 n] w fun e w' => e = .returned (.string ⟨(Lib.itoa n).toArray⟩) ∧ ∃ k os, w' = grow (w.drewN k) os := Any.strconv_Itoa Tryd.laysM171 n h0 h1 w htab
def Tryd.lays171_ren : Go.Shelf.Ren := ⟨fun | 171 => 30 | 243 => 41 | 246 => 47 | 283 => 58 | 284 => 59 | 285 => 60 | 286 => 61 | 129 => 73 | 317 => 72 | 318 => 74 | 319 => 75 | 320 => 76 | 337 => 82 | 338 => 83 | n => n, fun | 3 => 3 | 9 => 9 | 2 => 2 | 4 => 4 | 171 => 96 | 0 => 0 | 53 => 65 | 37 => 80 | 5 => 5 | 173 => 99 | 212 => 113 | 51 => 114 | 20 => 20 | 213 => 115 | 46 => 34 | 232 => 130 | 233 => 131 | n => n, fun | 17 => 3 | 18 => 6 | 19 => 7 | n => n⟩
theorem Tryd.lays171 : Go.Proofs.Lays.n171 Tryd.prog Tryd.lays171_ren := {
  mixed := by kernel_rfl
  f129 := Tryd.func73.trans (congrArg some (by kernel_rfl))
  f171 := Tryd.func30.trans (congrArg some (by kernel_rfl))
  f243 := Tryd.func41.trans (congrArg some (by kernel_rfl))
  f246 := Tryd.func47.trans (congrArg some (by kernel_rfl))
  f283 := Tryd.func58.trans (congrArg some (by kernel_rfl))
  f284 := Tryd.func59.trans (congrArg some (by kernel_rfl))
  f285 := Tryd.func60.trans (congrArg some (by kernel_rfl))
  f286 := Tryd.func61.trans (congrArg some (by kernel_rfl))
  f317 := Tryd.func72.trans (congrArg some (by kernel_rfl))
  f318 := Tryd.func74.trans (congrArg some (by kernel_rfl))
  f319 := Tryd.func75.trans (congrArg some (by kernel_rfl))
  f320 := Tryd.func76.trans (congrArg some (by kernel_rfl))
  f337 := Tryd.func82.trans (congrArg some (by kernel_rfl))
  f338 := Tryd.func83.trans (congrArg some (by kernel_rfl))
  t0 := Tryd.underlying0
  a0 := Tryd.isAgg0
  z0 := Tryd.sizeOf0
  v0 := Tryd.zeroValue0
  t2 := Tryd.underlying2
  a2 := Tryd.isAgg2
  z2 := Tryd.sizeOf2
  v2 := Tryd.zeroValue2
  t3 := Tryd.underlying3
  a3 := Tryd.isAgg3
  z3 := Tryd.sizeOf3
  v3 := Tryd.zeroValue3
  t4 := Tryd.underlying4
  a4 := Tryd.isAgg4
  z4 := Tryd.sizeOf4
  v4 := Tryd.zeroValue4
  t5 := Tryd.underlying5
  a5 := Tryd.isAgg5
  z5 := Tryd.sizeOf5
  v5 := Tryd.zeroValue5
  t9 := Tryd.underlying9
  a9 := Tryd.isAgg9
  z9 := Tryd.sizeOf9
  v9 := Tryd.zeroValue9
  t20 := Tryd.underlying20
  a20 := Tryd.isAgg20
  z20 := Tryd.sizeOf20
  v20 := Tryd.zeroValue20
  t37 := Tryd.underlying80
  a37 := Tryd.isAgg80
  z37 := Tryd.sizeOf80
  v37 := Tryd.zeroValue80
  t46 := Tryd.underlying34
  a46 := Tryd.isAgg34
  z46 := Tryd.sizeOf34
  v46 := Tryd.zeroValue34
  t51 := Tryd.underlying114
  a51 := Tryd.isAgg114
  z51 := Tryd.sizeOf114
  v51 := Tryd.zeroValue114
  t53 := Tryd.underlying65
  a53 := Tryd.isAgg65
  z53 := Tryd.sizeOf65
  v53 := Tryd.zeroValue65
  t171 := Tryd.underlying96
  a171 := Tryd.isAgg96
  z171 := Tryd.sizeOf96
  v171 := Tryd.zeroValue96
  t173 := Tryd.underlying99
  a173 := Tryd.isAgg99
  z173 := Tryd.sizeOf99
  v173 := Tryd.zeroValue99
  t212 := Tryd.underlying113
  a212 := Tryd.isAgg113
  z212 := Tryd.sizeOf113
  v212 := Tryd.zeroValue113
  t213 := Tryd.underlying115
  a213 := Tryd.isAgg115
  z213 := Tryd.sizeOf115
  t232 := Tryd.underlying130
  a232 := Tryd.isAgg130
  z232 := Tryd.sizeOf130
  v232 := Tryd.zeroValue130
  t233 := Tryd.underlying131
  a233 := Tryd.isAgg131
  z233 := Tryd.sizeOf131
  v233 := Tryd.zeroValue131
  g17 := by kernel_rfl
  g18 := by kernel_rfl
  g19 := by kernel_rfl }
open Go.RowKit Go.Sort Go.Lib in
/-- THE ROAD WITHOUT THE TABLE: 0 <= i < 100: NO PREMISE ON THE WORLD, AND THE WORLD IS AS IT WAS: a row that keeps its argument in that range need list no table ('laid = []'). (LAID: no walk: one application.) -/
theorem Tryd.strconv_Itoa_small (i : Nat) (hi : i < 100) (w : World) :
    Calls Tryd.prog 30 #[.int .i64 i] w fun e w' => e = .returned (.string ⟨(Lib.decDigits i).toArray⟩) ∧ w' = w := Any.strconv_Itoa_small Tryd.lays171 i hi w
open Go.RowKit in
/-- internal/strconv.Atoi, at a string of 1 to 18 bytes THAT IS NO DECIMAL NUMERAL: 0, AND ErrSyntax (the package's own error number 2). The world behind the call: as it was, or with the one new row that '[]byte(s)' lays. (LAID: no walk: one application.) -/
theorem Tryd.internal_strconv_Atoi_err (s : ByteArray) (hl0 : 1 ≤ s.size) (hl : s.size ≤ 18) (h : Lib.atoi s.data.toList = none) (w : World) :
    Calls Tryd.prog 42 #[.string s] w fun e w' => e = .returned (.tuple #[.int .i64 0, (.iface 88 (.int .i64 2))]) ∧ (w' = w ∨ ∃ t, w' = Lib.bytesWorld w 5 t) := Any.internal_strconv_Atoi_err Tryd.lays244 s hl0 hl h w
def Tryd.lays247_ren : Go.Shelf.Ren := ⟨fun | 247 => 48 | 287 => 62 | 321 => 77 | 322 => 78 | n => n, fun | 9 => 9 | 3 => 3 | 2 => 2 | 75 => 68 | 4 => 4 | 167 => 88 | 5 => 5 | 53 => 65 | 175 => 101 | 46 => 34 | 37 => 80 | 0 => 0 | 21 => 21 | 80 => 132 | n => n, fun | n => n⟩
theorem Tryd.lays247 : Go.Proofs.Lays.n247 Tryd.prog Tryd.lays247_ren := {
  mixed := by kernel_rfl
  f247 := Tryd.func48.trans (congrArg some (by kernel_rfl))
  f287 := Tryd.func62.trans (congrArg some (by kernel_rfl))
  f321 := Tryd.func77.trans (congrArg some (by kernel_rfl))
  f322 := Tryd.func78.trans (congrArg some (by kernel_rfl))
  t0 := Tryd.underlying0
  a0 := Tryd.isAgg0
  z0 := Tryd.sizeOf0
  v0 := Tryd.zeroValue0
  t2 := Tryd.underlying2
  a2 := Tryd.isAgg2
  z2 := Tryd.sizeOf2
  v2 := Tryd.zeroValue2
  t3 := Tryd.underlying3
  a3 := Tryd.isAgg3
  z3 := Tryd.sizeOf3
  v3 := Tryd.zeroValue3
  t4 := Tryd.underlying4
  a4 := Tryd.isAgg4
  z4 := Tryd.sizeOf4
  v4 := Tryd.zeroValue4
  t5 := Tryd.underlying5
  a5 := Tryd.isAgg5
  z5 := Tryd.sizeOf5
  v5 := Tryd.zeroValue5
  t9 := Tryd.underlying9
  a9 := Tryd.isAgg9
  z9 := Tryd.sizeOf9
  v9 := Tryd.zeroValue9
  t21 := Tryd.underlying21
  a21 := Tryd.isAgg21
  z21 := Tryd.sizeOf21
  v21 := Tryd.zeroValue21
  t37 := Tryd.underlying80
  a37 := Tryd.isAgg80
  z37 := Tryd.sizeOf80
  v37 := Tryd.zeroValue80
  t46 := Tryd.underlying34
  a46 := Tryd.isAgg34
  z46 := Tryd.sizeOf34
  v46 := Tryd.zeroValue34
  t53 := Tryd.underlying65
  a53 := Tryd.isAgg65
  z53 := Tryd.sizeOf65
  v53 := Tryd.zeroValue65
  t75 := Tryd.underlying68
  a75 := Tryd.isAgg68
  z75 := Tryd.sizeOf68
  v75 := Tryd.zeroValue68
  t167 := Tryd.underlying88
  a167 := Tryd.isAgg88
  z167 := Tryd.sizeOf88
  v167 := Tryd.zeroValue88
  t175 := Tryd.underlying101
  a175 := Tryd.isAgg101
  z175 := Tryd.sizeOf101
  v175 := Tryd.zeroValue101 }
open Go.RowKit in
/-- internal/strconv.ParseInt at "": 'if s == "" { return 0, ErrSyntax }'. The world is as it was. (LAID: no walk: one application.) -/
theorem Tryd.internal_strconv_ParseInt_empty (base bits : Int) (w : World) :
    Calls Tryd.prog 48 #[.string ⟨#[]⟩, .int .i64 base, .int .i64 bits] w fun e w' => e = .returned (.tuple #[.int .i64 0, (.iface 88 (.int .i64 2))]) ∧ w' = w := Any.internal_strconv_ParseInt_empty Tryd.lays247 base bits w
open Go.RowKit in
/-- internal/strconv.Atoi at "". (LAID: no walk: one application.) -/
theorem Tryd.internal_strconv_Atoi_empty (w : World) :
    Calls Tryd.prog 42 #[.string ⟨#[]⟩] w fun e w' => e = .returned (.tuple #[.int .i64 0, (.iface 88 (.int .i64 2))]) ∧ w' = w := Any.internal_strconv_Atoi_empty Tryd.lays244 w
open Go.RowKit in
/-- internal/strconv.Atoi, AT EVERY STRING OF AT MOST 18 BYTES THAT IS NO DECIMAL NUMERAL: 0, and ErrSyntax. (LAID: no walk: one application.) -/
theorem Tryd.internal_strconv_Atoi_fail (s : ByteArray) (hl : s.size ≤ 18) (h : Lib.atoi s.data.toList = none) (w : World) :
    Calls Tryd.prog 42 #[.string s] w fun e w' => e = .returned (.tuple #[.int .i64 0, (.iface 88 (.int .i64 2))]) ∧ (w' = w ∨ ∃ t, w' = Lib.bytesWorld w 5 t) := Any.internal_strconv_Atoi_fail Tryd.lays244 s hl h w
def Tryd.laysM316_ren : Go.Shelf.Ren := ⟨fun | 316 => 63 | n => n, fun | 9 => 9 | 3 => 3 | 4 => 4 | 37 => 80 | 0 => 0 | 127 => 119 | 5 => 5 | n => n, fun | n => n⟩
theorem Tryd.laysM316 : Go.Proofs.LaysM.n316 Tryd.prog Tryd.laysM316_ren := {
  mixed := by kernel_rfl
  f316 := Tryd.func63.trans (congrArg some (by kernel_rfl))
  t0 := Tryd.underlying0
  a0 := Tryd.isAgg0
  z0 := Tryd.sizeOf0
  v0 := Tryd.zeroValue0
  t3 := Tryd.underlying3
  a3 := Tryd.isAgg3
  z3 := Tryd.sizeOf3
  v3 := Tryd.zeroValue3
  t4 := Tryd.underlying4
  a4 := Tryd.isAgg4
  z4 := Tryd.sizeOf4
  v4 := Tryd.zeroValue4
  t9 := Tryd.underlying9
  a9 := Tryd.isAgg9
  z9 := Tryd.sizeOf9
  v9 := Tryd.zeroValue9
  t37 := Tryd.underlying80
  a37 := Tryd.isAgg80
  z37 := Tryd.sizeOf80
  v37 := Tryd.zeroValue80
  t127 := Tryd.underlying119
  a127 := Tryd.isAgg119
  z127 := Tryd.sizeOf119
  v127 := Tryd.zeroValue119
  t5 := Tryd.underlying5
  a5 := Tryd.isAgg5
  z5 := Tryd.sizeOf5
  v5 := Tryd.zeroValue5
  i0 := by kernel_rfl
  i3 := by kernel_rfl
  i4 := by kernel_rfl
  i5 := by kernel_rfl
  i9 := by kernel_rfl
  i37 := by kernel_rfl
  i127 := by kernel_rfl }
open Go.RowKit in
/-- internal/stringslite.Clone (what strings.Clone calls): "Clone returns a fresh copy of s.": THE SAME BYTES. Of what was there nothing has turned (a new row is laid, and frozen, where s is not empty). (LAID: no walk: one application.) -/
theorem Tryd.stringslite_Clone (s : ByteArray) (w : World) (hlim : s.size ≤ 281474976710656) :
    Calls Tryd.prog 63 #[.string s] w fun e w' => e = .returned (.string s) ∧ Below w.heap.size w w' := Any.stringslite_Clone Tryd.laysM316 s w hlim
def Tryd.laysM279_ren : Go.Shelf.Ren := ⟨fun | 279 => 49 | 316 => 63 | n => n, fun | 9 => 9 | 168 => 91 | 75 => 68 | 210 => 105 | 3 => 3 | 4 => 4 | 37 => 80 | 0 => 0 | 127 => 119 | 80 => 132 | 5 => 5 | n => n, fun | 15 => 0 | n => n⟩
theorem Tryd.laysM279 : Go.Proofs.LaysM.n279 Tryd.prog Tryd.laysM279_ren := {
  mixed := by kernel_rfl
  f279 := Tryd.func49.trans (congrArg some (by kernel_rfl))
  f316 := Tryd.func63.trans (congrArg some (by kernel_rfl))
  t0 := Tryd.underlying0
  a0 := Tryd.isAgg0
  z0 := Tryd.sizeOf0
  v0 := Tryd.zeroValue0
  t3 := Tryd.underlying3
  a3 := Tryd.isAgg3
  z3 := Tryd.sizeOf3
  v3 := Tryd.zeroValue3
  t4 := Tryd.underlying4
  a4 := Tryd.isAgg4
  z4 := Tryd.sizeOf4
  v4 := Tryd.zeroValue4
  t9 := Tryd.underlying9
  a9 := Tryd.isAgg9
  z9 := Tryd.sizeOf9
  v9 := Tryd.zeroValue9
  t37 := Tryd.underlying80
  a37 := Tryd.isAgg80
  z37 := Tryd.sizeOf80
  v37 := Tryd.zeroValue80
  t75 := Tryd.underlying68
  a75 := Tryd.isAgg68
  z75 := Tryd.sizeOf68
  v75 := Tryd.zeroValue68
  t127 := Tryd.underlying119
  a127 := Tryd.isAgg119
  z127 := Tryd.sizeOf119
  v127 := Tryd.zeroValue119
  t168 := Tryd.underlying91
  a168 := Tryd.isAgg91
  z168 := Tryd.sizeOf91
  v168 := Tryd.zeroValue91
  t210 := Tryd.underlying105
  a210 := Tryd.isAgg105
  z210 := Tryd.sizeOf105
  v210 := Tryd.zeroValue105
  g15 := by kernel_rfl
  t5 := Tryd.underlying5
  a5 := Tryd.isAgg5
  z5 := Tryd.sizeOf5
  v5 := Tryd.zeroValue5
  t80 := Tryd.underlying132
  a80 := Tryd.isAgg132
  z80 := Tryd.sizeOf132
  v80 := Tryd.zeroValue132
  i0 := by kernel_rfl
  i3 := by kernel_rfl
  i4 := by kernel_rfl
  i5 := by kernel_rfl
  i9 := by kernel_rfl
  i37 := by kernel_rfl
  i75 := by kernel_rfl
  i80 := by kernel_rfl
  i127 := by kernel_rfl
  i168 := by kernel_rfl
  i210 := by kernel_rfl
  m15 := by kernel_rfl }
open Go.RowKit in
/-- strconv.syntaxError: '&NumError{fn, stringslite.Clone(str), ErrSyntax}': A POINTER TO A NEW BLOCK that holds fn, str's bytes, and what the variable ErrSyntax holds. Of what was there nothing has turned. (LAID: no walk: one application.) -/
theorem Tryd.strconv_syntaxError (fn s : ByteArray) (ev : Value) (w : World) (hlim : s.size ≤ 281474976710656) (hv : w.cell? ⟨0, 0, none⟩ = some ev) (hev : ev = .nilIface ∨ ∃ te pe, ev = .iface te pe) :
    Calls Tryd.prog 49 #[.string fn, .string s] w fun e w' => ∃ N, e = .returned (.pointer (some ⟨N, 0, none⟩)) ∧ w.heap.size ≤ N ∧ w'.heap[N]? = some (.cells #[.string fn, .string s, ev] 105 (0, 0)) ∧ Below w.heap.size w w' := Any.strconv_syntaxError Tryd.laysM279 fn s ev w hlim hv hev
def Tryd.laysC245_ren : Go.Shelf.Ren := ⟨fun | 245 => 43 | 279 => 49 | 280 => 50 | 281 => 51 | 282 => 52 | 316 => 63 | 171 => 30 | 205 => 64 | 243 => 41 | 246 => 47 | 283 => 58 | 284 => 59 | 285 => 60 | 286 => 61 | 129 => 73 | 317 => 72 | 318 => 74 | 319 => 75 | 320 => 76 | 337 => 82 | 338 => 83 | n => n, fun | 9 => 9 | 3 => 3 | 75 => 68 | 167 => 88 | 4 => 4 | 168 => 91 | 210 => 105 | 37 => 80 | 0 => 0 | 127 => 119 | 145 => 122 | 143 => 120 | 2 => 2 | 171 => 96 | 53 => 65 | 5 => 5 | 173 => 99 | 212 => 113 | 51 => 114 | 20 => 20 | 213 => 115 | 46 => 34 | 232 => 130 | 233 => 131 | 80 => 132 | n => n, fun | 15 => 0 | 16 => 1 | 17 => 3 | 18 => 6 | 19 => 7 | n => n⟩
theorem Tryd.laysC245 : Go.Proofs.LaysC.n245 Tryd.prog Tryd.laysC245_ren := {
  mixed := by kernel_rfl
  f129 := Tryd.func73.trans (congrArg some (by kernel_rfl))
  f171 := Tryd.func30.trans (congrArg some (by kernel_rfl))
  f205 := Tryd.func64.trans (congrArg some (by kernel_rfl))
  f243 := Tryd.func41.trans (congrArg some (by kernel_rfl))
  f245 := Tryd.func43.trans (congrArg some (by kernel_rfl))
  f246 := Tryd.func47.trans (congrArg some (by kernel_rfl))
  f279 := Tryd.func49.trans (congrArg some (by kernel_rfl))
  f280 := Tryd.func50.trans (congrArg some (by kernel_rfl))
  f281 := Tryd.func51.trans (congrArg some (by kernel_rfl))
  f282 := Tryd.func52.trans (congrArg some (by kernel_rfl))
  f283 := Tryd.func58.trans (congrArg some (by kernel_rfl))
  f284 := Tryd.func59.trans (congrArg some (by kernel_rfl))
  f285 := Tryd.func60.trans (congrArg some (by kernel_rfl))
  f286 := Tryd.func61.trans (congrArg some (by kernel_rfl))
  f316 := Tryd.func63.trans (congrArg some (by kernel_rfl))
  f317 := Tryd.func72.trans (congrArg some (by kernel_rfl))
  f318 := Tryd.func74.trans (congrArg some (by kernel_rfl))
  f319 := Tryd.func75.trans (congrArg some (by kernel_rfl))
  f320 := Tryd.func76.trans (congrArg some (by kernel_rfl))
  f337 := Tryd.func82.trans (congrArg some (by kernel_rfl))
  f338 := Tryd.func83.trans (congrArg some (by kernel_rfl))
  t0 := Tryd.underlying0
  a0 := Tryd.isAgg0
  z0 := Tryd.sizeOf0
  v0 := Tryd.zeroValue0
  t2 := Tryd.underlying2
  a2 := Tryd.isAgg2
  z2 := Tryd.sizeOf2
  v2 := Tryd.zeroValue2
  t3 := Tryd.underlying3
  a3 := Tryd.isAgg3
  z3 := Tryd.sizeOf3
  v3 := Tryd.zeroValue3
  t4 := Tryd.underlying4
  a4 := Tryd.isAgg4
  z4 := Tryd.sizeOf4
  v4 := Tryd.zeroValue4
  t5 := Tryd.underlying5
  a5 := Tryd.isAgg5
  z5 := Tryd.sizeOf5
  v5 := Tryd.zeroValue5
  t9 := Tryd.underlying9
  a9 := Tryd.isAgg9
  z9 := Tryd.sizeOf9
  v9 := Tryd.zeroValue9
  t20 := Tryd.underlying20
  a20 := Tryd.isAgg20
  z20 := Tryd.sizeOf20
  v20 := Tryd.zeroValue20
  t37 := Tryd.underlying80
  a37 := Tryd.isAgg80
  z37 := Tryd.sizeOf80
  v37 := Tryd.zeroValue80
  t46 := Tryd.underlying34
  a46 := Tryd.isAgg34
  z46 := Tryd.sizeOf34
  v46 := Tryd.zeroValue34
  t51 := Tryd.underlying114
  a51 := Tryd.isAgg114
  z51 := Tryd.sizeOf114
  v51 := Tryd.zeroValue114
  t53 := Tryd.underlying65
  a53 := Tryd.isAgg65
  z53 := Tryd.sizeOf65
  v53 := Tryd.zeroValue65
  t75 := Tryd.underlying68
  a75 := Tryd.isAgg68
  z75 := Tryd.sizeOf68
  v75 := Tryd.zeroValue68
  t127 := Tryd.underlying119
  a127 := Tryd.isAgg119
  z127 := Tryd.sizeOf119
  v127 := Tryd.zeroValue119
  t143 := Tryd.underlying120
  a143 := Tryd.isAgg120
  z143 := Tryd.sizeOf120
  v143 := Tryd.zeroValue120
  t145 := Tryd.underlying122
  a145 := Tryd.isAgg122
  z145 := Tryd.sizeOf122
  v145 := Tryd.zeroValue122
  t167 := Tryd.underlying88
  a167 := Tryd.isAgg88
  z167 := Tryd.sizeOf88
  v167 := Tryd.zeroValue88
  t168 := Tryd.underlying91
  a168 := Tryd.isAgg91
  z168 := Tryd.sizeOf91
  v168 := Tryd.zeroValue91
  t171 := Tryd.underlying96
  a171 := Tryd.isAgg96
  z171 := Tryd.sizeOf96
  v171 := Tryd.zeroValue96
  t173 := Tryd.underlying99
  a173 := Tryd.isAgg99
  z173 := Tryd.sizeOf99
  v173 := Tryd.zeroValue99
  t210 := Tryd.underlying105
  a210 := Tryd.isAgg105
  z210 := Tryd.sizeOf105
  v210 := Tryd.zeroValue105
  t212 := Tryd.underlying113
  a212 := Tryd.isAgg113
  z212 := Tryd.sizeOf113
  v212 := Tryd.zeroValue113
  t213 := Tryd.underlying115
  a213 := Tryd.isAgg115
  z213 := Tryd.sizeOf115
  t232 := Tryd.underlying130
  a232 := Tryd.isAgg130
  z232 := Tryd.sizeOf130
  v232 := Tryd.zeroValue130
  t233 := Tryd.underlying131
  a233 := Tryd.isAgg131
  z233 := Tryd.sizeOf131
  v233 := Tryd.zeroValue131
  g15 := by kernel_rfl
  g16 := by kernel_rfl
  g17 := by kernel_rfl
  g18 := by kernel_rfl
  g19 := by kernel_rfl
  t80 := Tryd.underlying132
  a80 := Tryd.isAgg132
  z80 := Tryd.sizeOf132
  v80 := Tryd.zeroValue132
  i0 := by kernel_rfl
  i2 := by kernel_rfl
  i3 := by kernel_rfl
  i4 := by kernel_rfl
  i5 := by kernel_rfl
  i9 := by kernel_rfl
  i20 := by kernel_rfl
  i37 := by kernel_rfl
  i46 := by kernel_rfl
  i51 := by kernel_rfl
  i53 := by kernel_rfl
  i75 := by kernel_rfl
  i80 := by kernel_rfl
  i127 := by kernel_rfl
  i143 := by kernel_rfl
  i145 := by kernel_rfl
  i167 := by kernel_rfl
  i168 := by kernel_rfl
  i171 := by kernel_rfl
  i173 := by kernel_rfl
  i210 := by kernel_rfl
  i212 := by kernel_rfl
  i232 := by kernel_rfl
  i233 := by kernel_rfl
  m15 := by kernel_rfl
  m16 := by kernel_rfl
  m17 := by kernel_rfl
  m18 := by kernel_rfl
  m19 := by kernel_rfl
  c0 := by kernel_rfl
  c2 := by kernel_rfl
  c3 := by kernel_rfl
  c4 := by kernel_rfl
  c5 := by kernel_rfl
  c9 := by kernel_rfl
  c20 := by kernel_rfl
  c37 := by kernel_rfl
  c46 := by kernel_rfl
  c51 := by kernel_rfl
  c53 := by kernel_rfl
  c75 := by kernel_rfl
  c80 := by kernel_rfl
  c127 := by kernel_rfl
  c143 := by kernel_rfl
  c145 := by kernel_rfl
  c167 := by kernel_rfl
  c168 := by kernel_rfl
  c171 := by kernel_rfl
  c173 := by kernel_rfl
  c210 := by kernel_rfl
  c212 := by kernel_rfl
  c213 := by kernel_rfl
  c232 := by kernel_rfl
  c233 := by kernel_rfl }
open Go.RowKit in
/-- strconv.toError, at the inner package's ErrSyntax: 'syntaxError(fn, s)' as an error: A *NumError IN A NEW BLOCK. (LAID: no walk: one application.) -/
theorem Tryd.strconv_toError_syntax (fn s : ByteArray) (base bits : Int) (ev : Value) (w : World) (hlim : s.size ≤ 281474976710656) (hv : w.cell? ⟨0, 0, none⟩ = some ev) (hev : ev = .nilIface ∨ ∃ te pe, ev = .iface te pe) :
    Calls Tryd.prog 43 #[.string fn, .string s, .int .i64 base, .int .i64 bits, .iface 88 (.int .i64 2)] w fun e w' => ∃ N, e = .returned (.iface 91 (.pointer (some ⟨N, 0, none⟩))) ∧ w.heap.size ≤ N ∧ w'.heap[N]? = some (.cells #[.string fn, .string s, ev] 105 (0, 0)) ∧ Below w.heap.size w w' := Any.strconv_toError_syntax Tryd.laysC245 fn s base bits ev w hlim hv hev
def Tryd.laysC172_ren : Go.Shelf.Ren := ⟨fun | 172 => 33 | 244 => 42 | 245 => 43 | 247 => 48 | 279 => 49 | 280 => 50 | 281 => 51 | 282 => 52 | 287 => 62 | 316 => 63 | 171 => 30 | 205 => 64 | 321 => 77 | 322 => 78 | 243 => 41 | 246 => 47 | 283 => 58 | 284 => 59 | 285 => 60 | 286 => 61 | 129 => 73 | 317 => 72 | 318 => 74 | 319 => 75 | 320 => 76 | 337 => 82 | 338 => 83 | n => n, fun | 9 => 9 | 3 => 3 | 75 => 68 | 76 => 69 | 4 => 4 | 5 => 5 | 167 => 88 | 37 => 80 | 0 => 0 | 85 => 89 | 2 => 2 | 168 => 91 | 53 => 65 | 175 => 101 | 46 => 34 | 210 => 105 | 127 => 119 | 145 => 122 | 143 => 120 | 21 => 21 | 171 => 96 | 173 => 99 | 212 => 113 | 51 => 114 | 20 => 20 | 213 => 115 | 232 => 130 | 233 => 131 | 80 => 132 | n => n, fun | 15 => 0 | 16 => 1 | 17 => 3 | 18 => 6 | 19 => 7 | n => n⟩
theorem Tryd.laysC172 : Go.Proofs.LaysC.n172 Tryd.prog Tryd.laysC172_ren := {
  mixed := by kernel_rfl
  f129 := Tryd.func73.trans (congrArg some (by kernel_rfl))
  f171 := Tryd.func30.trans (congrArg some (by kernel_rfl))
  f172 := Tryd.func33.trans (congrArg some (by kernel_rfl))
  f205 := Tryd.func64.trans (congrArg some (by kernel_rfl))
  f243 := Tryd.func41.trans (congrArg some (by kernel_rfl))
  f244 := Tryd.func42.trans (congrArg some (by kernel_rfl))
  f245 := Tryd.func43.trans (congrArg some (by kernel_rfl))
  f246 := Tryd.func47.trans (congrArg some (by kernel_rfl))
  f247 := Tryd.func48.trans (congrArg some (by kernel_rfl))
  f279 := Tryd.func49.trans (congrArg some (by kernel_rfl))
  f280 := Tryd.func50.trans (congrArg some (by kernel_rfl))
  f281 := Tryd.func51.trans (congrArg some (by kernel_rfl))
  f282 := Tryd.func52.trans (congrArg some (by kernel_rfl))
  f283 := Tryd.func58.trans (congrArg some (by kernel_rfl))
  f284 := Tryd.func59.trans (congrArg some (by kernel_rfl))
  f285 := Tryd.func60.trans (congrArg some (by kernel_rfl))
  f286 := Tryd.func61.trans (congrArg some (by kernel_rfl))
  f287 := Tryd.func62.trans (congrArg some (by kernel_rfl))
  f316 := Tryd.func63.trans (congrArg some (by kernel_rfl))
  f317 := Tryd.func72.trans (congrArg some (by kernel_rfl))
  f318 := Tryd.func74.trans (congrArg some (by kernel_rfl))
  f319 := Tryd.func75.trans (congrArg some (by kernel_rfl))
  f320 := Tryd.func76.trans (congrArg some (by kernel_rfl))
  f321 := Tryd.func77.trans (congrArg some (by kernel_rfl))
  f322 := Tryd.func78.trans (congrArg some (by kernel_rfl))
  f337 := Tryd.func82.trans (congrArg some (by kernel_rfl))
  f338 := Tryd.func83.trans (congrArg some (by kernel_rfl))
  t0 := Tryd.underlying0
  a0 := Tryd.isAgg0
  z0 := Tryd.sizeOf0
  v0 := Tryd.zeroValue0
  t2 := Tryd.underlying2
  a2 := Tryd.isAgg2
  z2 := Tryd.sizeOf2
  v2 := Tryd.zeroValue2
  t3 := Tryd.underlying3
  a3 := Tryd.isAgg3
  z3 := Tryd.sizeOf3
  v3 := Tryd.zeroValue3
  t4 := Tryd.underlying4
  a4 := Tryd.isAgg4
  z4 := Tryd.sizeOf4
  v4 := Tryd.zeroValue4
  t5 := Tryd.underlying5
  a5 := Tryd.isAgg5
  z5 := Tryd.sizeOf5
  v5 := Tryd.zeroValue5
  t9 := Tryd.underlying9
  a9 := Tryd.isAgg9
  z9 := Tryd.sizeOf9
  v9 := Tryd.zeroValue9
  t20 := Tryd.underlying20
  a20 := Tryd.isAgg20
  z20 := Tryd.sizeOf20
  v20 := Tryd.zeroValue20
  t21 := Tryd.underlying21
  a21 := Tryd.isAgg21
  z21 := Tryd.sizeOf21
  v21 := Tryd.zeroValue21
  t37 := Tryd.underlying80
  a37 := Tryd.isAgg80
  z37 := Tryd.sizeOf80
  v37 := Tryd.zeroValue80
  t46 := Tryd.underlying34
  a46 := Tryd.isAgg34
  z46 := Tryd.sizeOf34
  v46 := Tryd.zeroValue34
  t51 := Tryd.underlying114
  a51 := Tryd.isAgg114
  z51 := Tryd.sizeOf114
  v51 := Tryd.zeroValue114
  t53 := Tryd.underlying65
  a53 := Tryd.isAgg65
  z53 := Tryd.sizeOf65
  v53 := Tryd.zeroValue65
  t75 := Tryd.underlying68
  a75 := Tryd.isAgg68
  z75 := Tryd.sizeOf68
  v75 := Tryd.zeroValue68
  t76 := Tryd.underlying69
  a76 := Tryd.isAgg69
  z76 := Tryd.sizeOf69
  v76 := Tryd.zeroValue69
  t85 := Tryd.underlying89
  a85 := Tryd.isAgg89
  z85 := Tryd.sizeOf89
  v85 := Tryd.zeroValue89
  t127 := Tryd.underlying119
  a127 := Tryd.isAgg119
  z127 := Tryd.sizeOf119
  v127 := Tryd.zeroValue119
  t143 := Tryd.underlying120
  a143 := Tryd.isAgg120
  z143 := Tryd.sizeOf120
  v143 := Tryd.zeroValue120
  t145 := Tryd.underlying122
  a145 := Tryd.isAgg122
  z145 := Tryd.sizeOf122
  v145 := Tryd.zeroValue122
  t167 := Tryd.underlying88
  a167 := Tryd.isAgg88
  z167 := Tryd.sizeOf88
  v167 := Tryd.zeroValue88
  t168 := Tryd.underlying91
  a168 := Tryd.isAgg91
  z168 := Tryd.sizeOf91
  v168 := Tryd.zeroValue91
  t171 := Tryd.underlying96
  a171 := Tryd.isAgg96
  z171 := Tryd.sizeOf96
  v171 := Tryd.zeroValue96
  t173 := Tryd.underlying99
  a173 := Tryd.isAgg99
  z173 := Tryd.sizeOf99
  v173 := Tryd.zeroValue99
  t175 := Tryd.underlying101
  a175 := Tryd.isAgg101
  z175 := Tryd.sizeOf101
  v175 := Tryd.zeroValue101
  t210 := Tryd.underlying105
  a210 := Tryd.isAgg105
  z210 := Tryd.sizeOf105
  v210 := Tryd.zeroValue105
  t212 := Tryd.underlying113
  a212 := Tryd.isAgg113
  z212 := Tryd.sizeOf113
  v212 := Tryd.zeroValue113
  t213 := Tryd.underlying115
  a213 := Tryd.isAgg115
  z213 := Tryd.sizeOf115
  t232 := Tryd.underlying130
  a232 := Tryd.isAgg130
  z232 := Tryd.sizeOf130
  v232 := Tryd.zeroValue130
  t233 := Tryd.underlying131
  a233 := Tryd.isAgg131
  z233 := Tryd.sizeOf131
  v233 := Tryd.zeroValue131
  g15 := by kernel_rfl
  g16 := by kernel_rfl
  g17 := by kernel_rfl
  g18 := by kernel_rfl
  g19 := by kernel_rfl
  t80 := Tryd.underlying132
  a80 := Tryd.isAgg132
  z80 := Tryd.sizeOf132
  v80 := Tryd.zeroValue132
  i0 := by kernel_rfl
  i2 := by kernel_rfl
  i3 := by kernel_rfl
  i4 := by kernel_rfl
  i5 := by kernel_rfl
  i9 := by kernel_rfl
  i20 := by kernel_rfl
  i21 := by kernel_rfl
  i37 := by kernel_rfl
  i46 := by kernel_rfl
  i51 := by kernel_rfl
  i53 := by kernel_rfl
  i75 := by kernel_rfl
  i76 := by kernel_rfl
  i80 := by kernel_rfl
  i85 := by kernel_rfl
  i127 := by kernel_rfl
  i143 := by kernel_rfl
  i145 := by kernel_rfl
  i167 := by kernel_rfl
  i168 := by kernel_rfl
  i171 := by kernel_rfl
  i173 := by kernel_rfl
  i175 := by kernel_rfl
  i210 := by kernel_rfl
  i212 := by kernel_rfl
  i232 := by kernel_rfl
  i233 := by kernel_rfl
  m15 := by kernel_rfl
  m16 := by kernel_rfl
  m17 := by kernel_rfl
  m18 := by kernel_rfl
  m19 := by kernel_rfl
  c0 := by kernel_rfl
  c2 := by kernel_rfl
  c3 := by kernel_rfl
  c4 := by kernel_rfl
  c5 := by kernel_rfl
  c9 := by kernel_rfl
  c20 := by kernel_rfl
  c21 := by kernel_rfl
  c37 := by kernel_rfl
  c46 := by kernel_rfl
  c51 := by kernel_rfl
  c53 := by kernel_rfl
  c75 := by kernel_rfl
  c76 := by kernel_rfl
  c80 := by kernel_rfl
  c85 := by kernel_rfl
  c127 := by kernel_rfl
  c143 := by kernel_rfl
  c145 := by kernel_rfl
  c167 := by kernel_rfl
  c168 := by kernel_rfl
  c171 := by kernel_rfl
  c173 := by kernel_rfl
  c175 := by kernel_rfl
  c210 := by kernel_rfl
  c212 := by kernel_rfl
  c213 := by kernel_rfl
  c232 := by kernel_rfl
  c233 := by kernel_rfl }
open Go.RowKit in
/-- strconv.Atoi, AT EVERY STRING OF AT MOST 18 BYTES THAT IS NO DECIMAL NUMERAL (the empty one too): 0, AND AN ERROR THAT IS NOT nil: a *NumError in a new block N: {Func: "Atoi", Num: s's bytes, Err: what the variable ErrSyntax holds}. Of what was there nothing has turned. (LAID: no walk: one application.) -/
theorem Tryd.strconv_Atoi_err (s : ByteArray) (hl : s.size ≤ 18) (h : Lib.atoi s.data.toList = none) (ev : Value) (w : World) (hv : w.cell? ⟨0, 0, none⟩ = some ev) (hev : ev = .nilIface ∨ ∃ te pe, ev = .iface te pe) :
    Calls Tryd.prog 33 #[.string s] w fun e w' => ∃ N, e = .returned (.tuple #[.int .i64 0, .iface 91 (.pointer (some ⟨N, 0, none⟩))]) ∧ w.heap.size ≤ N ∧ w'.heap[N]? = some (.cells #[.string ⟨#[65, 116, 111, 105]⟩, .string s, ev] 105 (0, 0)) ∧ Below w.heap.size w w' := Any.strconv_Atoi_err Tryd.laysC172 s hl h ev w hv hev
open Go.RowKit in
theorem Tryd.strconv_Atoi_err_var (s : ByteArray) (hl : s.size ≤ 18) (h : Lib.atoi s.data.toList = none) (tp : TypeId) (p : Value) (w : World) (hvar : w.var? Tryd.prog "strconv.ErrSyntax" = some #[.iface tp p]) :
    Calls Tryd.prog 33 #[.string s] w fun e w' => ∃ N, e = .returned (.tuple #[.int .i64 0, .iface 91 (.pointer (some ⟨N, 0, none⟩))]) ∧ w.heap.size ≤ N ∧ w'.heap[N]? = some (.cells #[.string ⟨#[65, 116, 111, 105]⟩, .string s, .iface tp p] 105 (0, 0)) ∧ Below w.heap.size w w' := Any.strconv_Atoi_err_var Tryd.laysC172 s hl h tp p w hvar
def Tryd.lays321_ren : Go.Shelf.Ren := ⟨fun | 321 => 77 | n => n, fun | 5 => 5 | n => n, fun | n => n⟩
theorem Tryd.lays321 : Go.Proofs.Lays.n321 Tryd.prog Tryd.lays321_ren := {
  mixed := by kernel_rfl
  f321 := Tryd.func77.trans (congrArg some (by kernel_rfl))
  t5 := Tryd.underlying5
  a5 := Tryd.isAgg5
  z5 := Tryd.sizeOf5
  v5 := Tryd.zeroValue5 }
open Go.RowKit in
/-- internal/strconv.lower: 'c | ('x' - 'X')': the bit 32 set. The world is as it was. (LAID: no walk: one application.) -/
theorem Tryd.internal_strconv_lower (c : Int) (w : World) :
    Calls Tryd.prog 77 #[.int .u8 c] w fun e w' => e = .returned (.int .u8 (bits .or .u8 c 32)) ∧ w' = w := Any.internal_strconv_lower Tryd.lays321 c w
def Tryd.lays287_ren : Go.Shelf.Ren := ⟨fun | 287 => 62 | 321 => 77 | 322 => 78 | n => n, fun | 9 => 9 | 3 => 3 | 53 => 65 | 75 => 68 | 4 => 4 | 167 => 88 | 5 => 5 | 46 => 34 | 37 => 80 | 0 => 0 | 21 => 21 | 80 => 132 | n => n, fun | n => n⟩
theorem Tryd.lays287 : Go.Proofs.Lays.n287 Tryd.prog Tryd.lays287_ren := {
  mixed := by kernel_rfl
  f287 := Tryd.func62.trans (congrArg some (by kernel_rfl))
  f321 := Tryd.func77.trans (congrArg some (by kernel_rfl))
  f322 := Tryd.func78.trans (congrArg some (by kernel_rfl))
  t0 := Tryd.underlying0
  a0 := Tryd.isAgg0
  z0 := Tryd.sizeOf0
  v0 := Tryd.zeroValue0
  t3 := Tryd.underlying3
  a3 := Tryd.isAgg3
  z3 := Tryd.sizeOf3
  v3 := Tryd.zeroValue3
  t4 := Tryd.underlying4
  a4 := Tryd.isAgg4
  z4 := Tryd.sizeOf4
  v4 := Tryd.zeroValue4
  t5 := Tryd.underlying5
  a5 := Tryd.isAgg5
  z5 := Tryd.sizeOf5
  v5 := Tryd.zeroValue5
  t9 := Tryd.underlying9
  a9 := Tryd.isAgg9
  z9 := Tryd.sizeOf9
  v9 := Tryd.zeroValue9
  t21 := Tryd.underlying21
  a21 := Tryd.isAgg21
  z21 := Tryd.sizeOf21
  v21 := Tryd.zeroValue21
  t37 := Tryd.underlying80
  a37 := Tryd.isAgg80
  z37 := Tryd.sizeOf80
  v37 := Tryd.zeroValue80
  t46 := Tryd.underlying34
  a46 := Tryd.isAgg34
  z46 := Tryd.sizeOf34
  v46 := Tryd.zeroValue34
  t53 := Tryd.underlying65
  a53 := Tryd.isAgg65
  z53 := Tryd.sizeOf65
  v53 := Tryd.zeroValue65
  t75 := Tryd.underlying68
  a75 := Tryd.isAgg68
  z75 := Tryd.sizeOf68
  v75 := Tryd.zeroValue68
  t167 := Tryd.underlying88
  a167 := Tryd.isAgg88
  z167 := Tryd.sizeOf88
  v167 := Tryd.zeroValue88 }
open Go.RowKit in
/-- internal/strconv.ParseUint(s, 10, 0), s NOT EMPTY: 'Lib.parseUint10 0' OF ITS BYTES: the number; or (0, ErrSyntax); or (the greatest uint64, ErrRange). The world behind the call: the one new row that '[]byte(s)' lays. (LAID: no walk: one application.) -/
theorem Tryd.internal_strconv_ParseUint_10 (t : ByteArray) (hne : t.size ≠ 0) (hmax : t.size ≤ 9223372036854775806) (w : World) :
    Calls Tryd.prog 62 #[.string t, .int .i64 10, .int .i64 0] w fun e w' => e = .returned (Lib.uintTuple 88 (Lib.parseUint10 0 t.data.toList)) ∧ w' = Lib.bytesWorld w 5 t := Any.internal_strconv_ParseUint_10 Tryd.lays287 t hne hmax w
open Go.RowKit in
/-- internal/strconv.ParseUint("", 10, 0): (0, ErrSyntax). The world is as it was. (LAID: no walk: one application.) -/
theorem Tryd.internal_strconv_ParseUint_10_empty (w : World) :
    Calls Tryd.prog 62 #[.string ⟨#[]⟩, .int .i64 10, .int .i64 0] w fun e w' => e = .returned (Lib.uintTuple 88 .syntax) ∧ w' = w := Any.internal_strconv_ParseUint_10_empty Tryd.lays287 w
open Go.RowKit in
/-- internal/strconv.ParseUint(s, 10, 0): 'Lib.parseMag' OF ITS BYTES. The world: as it was (the empty string), or with the one new row that '[]byte(s)' lays. (LAID: no walk: one application.) -/
theorem Tryd.internal_strconv_ParseUint_10_any (t : ByteArray) (hmax : t.size ≤ 9223372036854775806) (w : World) :
    Calls Tryd.prog 62 #[.string t, .int .i64 10, .int .i64 0] w fun e w' => e = .returned (Lib.uintTuple 88 (Lib.parseMag t.data.toList)) ∧ (w' = w ∨ w' = Lib.bytesWorld w 5 t) := Any.internal_strconv_ParseUint_10_any Tryd.lays287 t hmax w
def Tryd.laysC247_ren : Go.Shelf.Ren := ⟨fun | 247 => 48 | 287 => 62 | 321 => 77 | 322 => 78 | n => n, fun | 9 => 9 | 3 => 3 | 2 => 2 | 75 => 68 | 4 => 4 | 167 => 88 | 5 => 5 | 53 => 65 | 175 => 101 | 46 => 34 | 37 => 80 | 0 => 0 | 21 => 21 | 80 => 132 | n => n, fun | n => n⟩
theorem Tryd.laysC247 : Go.Proofs.LaysC.n247 Tryd.prog Tryd.laysC247_ren := {
  mixed := by kernel_rfl
  f247 := Tryd.func48.trans (congrArg some (by kernel_rfl))
  f287 := Tryd.func62.trans (congrArg some (by kernel_rfl))
  f321 := Tryd.func77.trans (congrArg some (by kernel_rfl))
  f322 := Tryd.func78.trans (congrArg some (by kernel_rfl))
  t0 := Tryd.underlying0
  a0 := Tryd.isAgg0
  z0 := Tryd.sizeOf0
  v0 := Tryd.zeroValue0
  t2 := Tryd.underlying2
  a2 := Tryd.isAgg2
  z2 := Tryd.sizeOf2
  v2 := Tryd.zeroValue2
  t3 := Tryd.underlying3
  a3 := Tryd.isAgg3
  z3 := Tryd.sizeOf3
  v3 := Tryd.zeroValue3
  t4 := Tryd.underlying4
  a4 := Tryd.isAgg4
  z4 := Tryd.sizeOf4
  v4 := Tryd.zeroValue4
  t5 := Tryd.underlying5
  a5 := Tryd.isAgg5
  z5 := Tryd.sizeOf5
  v5 := Tryd.zeroValue5
  t9 := Tryd.underlying9
  a9 := Tryd.isAgg9
  z9 := Tryd.sizeOf9
  v9 := Tryd.zeroValue9
  t21 := Tryd.underlying21
  a21 := Tryd.isAgg21
  z21 := Tryd.sizeOf21
  v21 := Tryd.zeroValue21
  t37 := Tryd.underlying80
  a37 := Tryd.isAgg80
  z37 := Tryd.sizeOf80
  v37 := Tryd.zeroValue80
  t46 := Tryd.underlying34
  a46 := Tryd.isAgg34
  z46 := Tryd.sizeOf34
  v46 := Tryd.zeroValue34
  t53 := Tryd.underlying65
  a53 := Tryd.isAgg65
  z53 := Tryd.sizeOf65
  v53 := Tryd.zeroValue65
  t75 := Tryd.underlying68
  a75 := Tryd.isAgg68
  z75 := Tryd.sizeOf68
  v75 := Tryd.zeroValue68
  t167 := Tryd.underlying88
  a167 := Tryd.isAgg88
  z167 := Tryd.sizeOf88
  v167 := Tryd.zeroValue88
  t175 := Tryd.underlying101
  a175 := Tryd.isAgg101
  z175 := Tryd.sizeOf101
  v175 := Tryd.zeroValue101
  t80 := Tryd.underlying132
  a80 := Tryd.isAgg132
  z80 := Tryd.sizeOf132
  v80 := Tryd.zeroValue132
  i0 := by kernel_rfl
  i2 := by kernel_rfl
  i3 := by kernel_rfl
  i4 := by kernel_rfl
  i5 := by kernel_rfl
  i9 := by kernel_rfl
  i21 := by kernel_rfl
  i37 := by kernel_rfl
  i46 := by kernel_rfl
  i53 := by kernel_rfl
  i75 := by kernel_rfl
  i80 := by kernel_rfl
  i167 := by kernel_rfl
  i175 := by kernel_rfl
  c0 := by kernel_rfl
  c2 := by kernel_rfl
  c3 := by kernel_rfl
  c4 := by kernel_rfl
  c5 := by kernel_rfl
  c9 := by kernel_rfl
  c21 := by kernel_rfl
  c37 := by kernel_rfl
  c46 := by kernel_rfl
  c53 := by kernel_rfl
  c75 := by kernel_rfl
  c80 := by kernel_rfl
  c167 := by kernel_rfl
  c175 := by kernel_rfl }
open Go.RowKit in
/-- internal/strconv.ParseInt(s, 10, 0), s NOT EMPTY: 'Lib.atoiAll' OF ITS BYTES: (the number, nil); (0, ErrSyntax); (the greatest or the least int64 by the sign, ErrRange). The world: as it was, or with the one new row that '[]byte(..)' lays. (LAID: no walk: one application.) -/
theorem Tryd.internal_strconv_ParseInt_10 (s : ByteArray) (hne : s.size ≠ 0) (hmax : s.size ≤ 9223372036854775806) (w : World) :
    Calls Tryd.prog 48 #[.string s, .int .i64 10, .int .i64 0] w fun e w' => e = .returned (Lib.intTuple 88 (Lib.atoiSat s.data.toList) (Lib.atoiAll s.data.toList)) ∧ (w' = w ∨ ∃ t, w' = Lib.bytesWorld w 5 t) := Any.internal_strconv_ParseInt_10 Tryd.laysC247 s hne hmax w
def Tryd.laysC244_ren : Go.Shelf.Ren := ⟨fun | 244 => 42 | 247 => 48 | 287 => 62 | 321 => 77 | 322 => 78 | n => n, fun | 9 => 9 | 3 => 3 | 75 => 68 | 4 => 4 | 5 => 5 | 167 => 88 | 37 => 80 | 0 => 0 | 85 => 89 | 2 => 2 | 53 => 65 | 175 => 101 | 46 => 34 | 21 => 21 | 80 => 132 | n => n, fun | n => n⟩
theorem Tryd.laysC244 : Go.Proofs.LaysC.n244 Tryd.prog Tryd.laysC244_ren := {
  mixed := by kernel_rfl
  f244 := Tryd.func42.trans (congrArg some (by kernel_rfl))
  f247 := Tryd.func48.trans (congrArg some (by kernel_rfl))
  f287 := Tryd.func62.trans (congrArg some (by kernel_rfl))
  f321 := Tryd.func77.trans (congrArg some (by kernel_rfl))
  f322 := Tryd.func78.trans (congrArg some (by kernel_rfl))
  t0 := Tryd.underlying0
  a0 := Tryd.isAgg0
  z0 := Tryd.sizeOf0
  v0 := Tryd.zeroValue0
  t2 := Tryd.underlying2
  a2 := Tryd.isAgg2
  z2 := Tryd.sizeOf2
  v2 := Tryd.zeroValue2
  t3 := Tryd.underlying3
  a3 := Tryd.isAgg3
  z3 := Tryd.sizeOf3
  v3 := Tryd.zeroValue3
  t4 := Tryd.underlying4
  a4 := Tryd.isAgg4
  z4 := Tryd.sizeOf4
  v4 := Tryd.zeroValue4
  t5 := Tryd.underlying5
  a5 := Tryd.isAgg5
  z5 := Tryd.sizeOf5
  v5 := Tryd.zeroValue5
  t9 := Tryd.underlying9
  a9 := Tryd.isAgg9
  z9 := Tryd.sizeOf9
  v9 := Tryd.zeroValue9
  t21 := Tryd.underlying21
  a21 := Tryd.isAgg21
  z21 := Tryd.sizeOf21
  v21 := Tryd.zeroValue21
  t37 := Tryd.underlying80
  a37 := Tryd.isAgg80
  z37 := Tryd.sizeOf80
  v37 := Tryd.zeroValue80
  t46 := Tryd.underlying34
  a46 := Tryd.isAgg34
  z46 := Tryd.sizeOf34
  v46 := Tryd.zeroValue34
  t53 := Tryd.underlying65
  a53 := Tryd.isAgg65
  z53 := Tryd.sizeOf65
  v53 := Tryd.zeroValue65
  t75 := Tryd.underlying68
  a75 := Tryd.isAgg68
  z75 := Tryd.sizeOf68
  v75 := Tryd.zeroValue68
  t85 := Tryd.underlying89
  a85 := Tryd.isAgg89
  z85 := Tryd.sizeOf89
  v85 := Tryd.zeroValue89
  t167 := Tryd.underlying88
  a167 := Tryd.isAgg88
  z167 := Tryd.sizeOf88
  v167 := Tryd.zeroValue88
  t175 := Tryd.underlying101
  a175 := Tryd.isAgg101
  z175 := Tryd.sizeOf101
  v175 := Tryd.zeroValue101
  t80 := Tryd.underlying132
  a80 := Tryd.isAgg132
  z80 := Tryd.sizeOf132
  v80 := Tryd.zeroValue132
  i0 := by kernel_rfl
  i2 := by kernel_rfl
  i3 := by kernel_rfl
  i4 := by kernel_rfl
  i5 := by kernel_rfl
  i9 := by kernel_rfl
  i21 := by kernel_rfl
  i37 := by kernel_rfl
  i46 := by kernel_rfl
  i53 := by kernel_rfl
  i75 := by kernel_rfl
  i80 := by kernel_rfl
  i85 := by kernel_rfl
  i167 := by kernel_rfl
  i175 := by kernel_rfl
  c0 := by kernel_rfl
  c2 := by kernel_rfl
  c3 := by kernel_rfl
  c4 := by kernel_rfl
  c5 := by kernel_rfl
  c9 := by kernel_rfl
  c21 := by kernel_rfl
  c37 := by kernel_rfl
  c46 := by kernel_rfl
  c53 := by kernel_rfl
  c75 := by kernel_rfl
  c80 := by kernel_rfl
  c85 := by kernel_rfl
  c167 := by kernel_rfl
  c175 := by kernel_rfl }
open Go.RowKit in
/-- internal/strconv.Atoi, AT EVERY STRING OF 19 BYTES OR MORE: 'Lib.atoiAll' OF ITS BYTES: (the number, nil); (0, ErrSyntax); (the greatest or the least int by the sign, ErrRange). (LAID: no walk: one application.) -/
theorem Tryd.internal_strconv_Atoi_long (s : ByteArray) (h19 : 19 ≤ s.size) (hmax : s.size ≤ 9223372036854775806) (w : World) :
    Calls Tryd.prog 42 #[.string s] w fun e w' => e = .returned (Lib.intTuple 88 (Lib.atoiSat s.data.toList) (Lib.atoiAll s.data.toList)) ∧ (w' = w ∨ ∃ t, w' = Lib.bytesWorld w 5 t) := Any.internal_strconv_Atoi_long Tryd.laysC244 s h19 hmax w
open Go.RowKit in
/-- internal/strconv.Atoi, AT EVERY STRING: 'Lib.atoiAll' OF ITS BYTES: (the number, nil); (0, ErrSyntax); (the greatest or the least int by the sign, ErrRange). The world: as it was, or with the one new row that '[]byte(..)' lays. (LAID: no walk: one application.) -/
theorem Tryd.internal_strconv_Atoi_all (s : ByteArray) (hmax : s.size ≤ 9223372036854775806) (w : World) :
    Calls Tryd.prog 42 #[.string s] w fun e w' => e = .returned (Lib.intTuple 88 (Lib.atoiSat s.data.toList) (Lib.atoiAll s.data.toList)) ∧ (w' = w ∨ ∃ t, w' = Lib.bytesWorld w 5 t) := Any.internal_strconv_Atoi_all Tryd.laysC244 s hmax w
def Tryd.laysM280_ren : Go.Shelf.Ren := ⟨fun | 280 => 50 | 316 => 63 | n => n, fun | 9 => 9 | 168 => 91 | 75 => 68 | 210 => 105 | 3 => 3 | 4 => 4 | 37 => 80 | 0 => 0 | 127 => 119 | 80 => 132 | 5 => 5 | n => n, fun | 16 => 1 | n => n⟩
theorem Tryd.laysM280 : Go.Proofs.LaysM.n280 Tryd.prog Tryd.laysM280_ren := {
  mixed := by kernel_rfl
  f280 := Tryd.func50.trans (congrArg some (by kernel_rfl))
  f316 := Tryd.func63.trans (congrArg some (by kernel_rfl))
  t0 := Tryd.underlying0
  a0 := Tryd.isAgg0
  z0 := Tryd.sizeOf0
  v0 := Tryd.zeroValue0
  t3 := Tryd.underlying3
  a3 := Tryd.isAgg3
  z3 := Tryd.sizeOf3
  v3 := Tryd.zeroValue3
  t4 := Tryd.underlying4
  a4 := Tryd.isAgg4
  z4 := Tryd.sizeOf4
  v4 := Tryd.zeroValue4
  t9 := Tryd.underlying9
  a9 := Tryd.isAgg9
  z9 := Tryd.sizeOf9
  v9 := Tryd.zeroValue9
  t37 := Tryd.underlying80
  a37 := Tryd.isAgg80
  z37 := Tryd.sizeOf80
  v37 := Tryd.zeroValue80
  t75 := Tryd.underlying68
  a75 := Tryd.isAgg68
  z75 := Tryd.sizeOf68
  v75 := Tryd.zeroValue68
  t127 := Tryd.underlying119
  a127 := Tryd.isAgg119
  z127 := Tryd.sizeOf119
  v127 := Tryd.zeroValue119
  t168 := Tryd.underlying91
  a168 := Tryd.isAgg91
  z168 := Tryd.sizeOf91
  v168 := Tryd.zeroValue91
  t210 := Tryd.underlying105
  a210 := Tryd.isAgg105
  z210 := Tryd.sizeOf105
  v210 := Tryd.zeroValue105
  g16 := by kernel_rfl
  t5 := Tryd.underlying5
  a5 := Tryd.isAgg5
  z5 := Tryd.sizeOf5
  v5 := Tryd.zeroValue5
  t80 := Tryd.underlying132
  a80 := Tryd.isAgg132
  z80 := Tryd.sizeOf132
  v80 := Tryd.zeroValue132
  i0 := by kernel_rfl
  i3 := by kernel_rfl
  i4 := by kernel_rfl
  i5 := by kernel_rfl
  i9 := by kernel_rfl
  i37 := by kernel_rfl
  i75 := by kernel_rfl
  i80 := by kernel_rfl
  i127 := by kernel_rfl
  i168 := by kernel_rfl
  i210 := by kernel_rfl
  m16 := by kernel_rfl }
open Go.RowKit in
/-- strconv.rangeError: '&NumError{fn, stringslite.Clone(str), ErrRange}': A POINTER TO A NEW BLOCK that holds fn, str's bytes, and what the variable ErrRange holds. Of what was there nothing has turned. (LAID: no walk: one application.) -/
theorem Tryd.strconv_rangeError (fn s : ByteArray) (ev : Value) (w : World) (hlim : s.size ≤ 281474976710656) (hv : w.cell? ⟨1, 0, none⟩ = some ev) (hev : ev = .nilIface ∨ ∃ te pe, ev = .iface te pe) :
    Calls Tryd.prog 50 #[.string fn, .string s] w fun e w' => ∃ N, e = .returned (.pointer (some ⟨N, 0, none⟩)) ∧ w.heap.size ≤ N ∧ w'.heap[N]? = some (.cells #[.string fn, .string s, ev] 105 (0, 0)) ∧ Below w.heap.size w w' := Any.strconv_rangeError Tryd.laysM280 fn s ev w hlim hv hev
open Go.RowKit in
/-- strconv.toError, at the inner package's ErrRange: 'rangeError(fn, s)' as an error: A *NumError IN A NEW BLOCK. (LAID: no walk: one application.) -/
theorem Tryd.strconv_toError_range (fn s : ByteArray) (base bits : Int) (ev : Value) (w : World) (hlim : s.size ≤ 281474976710656) (hv : w.cell? ⟨1, 0, none⟩ = some ev) (hev : ev = .nilIface ∨ ∃ te pe, ev = .iface te pe) :
    Calls Tryd.prog 43 #[.string fn, .string s, .int .i64 base, .int .i64 bits, .iface 88 (.int .i64 1)] w fun e w' => ∃ N, e = .returned (.iface 91 (.pointer (some ⟨N, 0, none⟩))) ∧ w.heap.size ≤ N ∧ w'.heap[N]? = some (.cells #[.string fn, .string s, ev] 105 (0, 0)) ∧ Below w.heap.size w w' := Any.strconv_toError_range Tryd.laysC245 fn s base bits ev w hlim hv hev
open Go.RowKit in
/-- strconv.Atoi, AT EVERY STRING THAT SPELLS AN int ('Lib.atoiAll .. = .ok v'; of whatever length: leading zeros count): v, AND NO ERROR. The world: as it was, or with the one new row that '[]byte(..)' lays. (LAID: no walk: one application.) -/
theorem Tryd.strconv_Atoi_ok (s : ByteArray) (hmax : s.size ≤ 9223372036854775806) (v : Int) (h : Lib.atoiAll s.data.toList = .ok v) (w : World) :
    Calls Tryd.prog 33 #[.string s] w fun e w' => e = .returned (.tuple #[.int .i64 v, .nilIface]) ∧ (w' = w ∨ ∃ t, w' = Lib.bytesWorld w 5 t) := Any.strconv_Atoi_ok Tryd.laysC172 s hmax v h w
open Go.RowKit in
/-- strconv.Atoi, AT EVERY STRING THAT IS NO DECIMAL NUMERAL ('.syntax'): 0, AND AN ERROR THAT IS NOT nil: a *NumError in a new block N: {Func: "Atoi", Num: s's bytes, Err: what the variable ErrSyntax holds}. Of what was there nothing has turned. (LAID: no walk: one application.) -/
theorem Tryd.strconv_Atoi_syntax (s : ByteArray) (hlim : s.size ≤ 281474976710656) (h : Lib.atoiAll s.data.toList = .«syntax») (ev : Value) (w : World) (hv : w.cell? ⟨0, 0, none⟩ = some ev) (hev : ev = .nilIface ∨ ∃ te pe, ev = .iface te pe) :
    Calls Tryd.prog 33 #[.string s] w fun e w' => ∃ N, e = .returned (.tuple #[.int .i64 (0), .iface 91 (.pointer (some ⟨N, 0, none⟩))]) ∧ w.heap.size ≤ N ∧ w'.heap[N]? = some (.cells #[.string ⟨#[65, 116, 111, 105]⟩, .string s, ev] 105 (0, 0)) ∧ Below w.heap.size w w' := Any.strconv_Atoi_syntax Tryd.laysC172 s hlim h ev w hv hev
open Go.RowKit in
/-- strconv.Atoi, AT EVERY NUMERAL THAT NO int HOLDS ('.range'): THE GREATEST OR THE LEAST int, BY THE SIGN ('Lib.atoiSat'), AND AN ERROR THAT IS NOT nil: a *NumError in a new block N: {Func: "Atoi", Num: s's bytes, Err: what the variable ErrRange holds}. Of what was there nothing has turned. (LAID: no walk: one application.) -/
theorem Tryd.strconv_Atoi_range (s : ByteArray) (hlim : s.size ≤ 281474976710656) (h : Lib.atoiAll s.data.toList = .range) (ev : Value) (w : World) (hv : w.cell? ⟨1, 0, none⟩ = some ev) (hev : ev = .nilIface ∨ ∃ te pe, ev = .iface te pe) :
    Calls Tryd.prog 33 #[.string s] w fun e w' => ∃ N, e = .returned (.tuple #[.int .i64 (Lib.atoiSat s.data.toList), .iface 91 (.pointer (some ⟨N, 0, none⟩))]) ∧ w.heap.size ≤ N ∧ w'.heap[N]? = some (.cells #[.string ⟨#[65, 116, 111, 105]⟩, .string s, ev] 105 (0, 0)) ∧ Below w.heap.size w w' := Any.strconv_Atoi_range Tryd.laysC172 s hlim h ev w hv hev
open Go.RowKit in
theorem Tryd.strconv_Atoi_syntax_var (s : ByteArray) (hlim : s.size ≤ 281474976710656) (h : Lib.atoiAll s.data.toList = .«syntax») (tp : TypeId) (p : Value) (w : World) (hvar : w.var? Tryd.prog "strconv.ErrSyntax" = some #[.iface tp p]) :
    Calls Tryd.prog 33 #[.string s] w fun e w' => ∃ N, e = .returned (.tuple #[.int .i64 0, .iface 91 (.pointer (some ⟨N, 0, none⟩))]) ∧ w.heap.size ≤ N ∧ w'.heap[N]? = some (.cells #[.string ⟨#[65, 116, 111, 105]⟩, .string s, .iface tp p] 105 (0, 0)) ∧ Below w.heap.size w w' := Any.strconv_Atoi_syntax_var Tryd.laysC172 s hlim h tp p w hvar
open Go.RowKit in
theorem Tryd.strconv_Atoi_range_var (s : ByteArray) (hlim : s.size ≤ 281474976710656) (h : Lib.atoiAll s.data.toList = .range) (tp : TypeId) (p : Value) (w : World) (hvar : w.var? Tryd.prog "strconv.ErrRange" = some #[.iface tp p]) :
    Calls Tryd.prog 33 #[.string s] w fun e w' => ∃ N, e = .returned (.tuple #[.int .i64 (Lib.atoiSat s.data.toList), .iface 91 (.pointer (some ⟨N, 0, none⟩))]) ∧ w.heap.size ≤ N ∧ w'.heap[N]? = some (.cells #[.string ⟨#[65, 116, 111, 105]⟩, .string s, .iface tp p] 105 (0, 0)) ∧ Below w.heap.size w w' := Any.strconv_Atoi_range_var Tryd.laysC172 s hlim h tp p w hvar
open Go.RowKit in
/-- internal/strconv.ParseUint("", base, bitSize): (0, ErrSyntax): the first test of the text. The world is as it was. (LAID: no walk: one application.) -/
theorem Tryd.internal_strconv_ParseUint_empty (base bits : Int) (w : World) :
    Calls Tryd.prog 62 #[.string ⟨#[]⟩, .int .i64 base, .int .i64 bits] w fun e w' => e = .returned (.tuple #[.int .u64 0, .iface 88 (.int .i64 2)]) ∧ w' = w := Any.internal_strconv_ParseUint_empty Tryd.lays287 base bits w
open Go.RowKit in
/-- internal/strconv.ParseUint(s, 10, 64), s NOT EMPTY: 'Lib.parseUint10 0' OF ITS BYTES: the number; or (0, ErrSyntax); or (the greatest uint64, ErrRange). The world behind the call: the one new row that '[]byte(s)' lays. (LAID: no walk: one application.) -/
theorem Tryd.internal_strconv_ParseUint_10_b64 (t : ByteArray) (hne : t.size ≠ 0) (hmax : t.size ≤ 9223372036854775806) (w : World) :
    Calls Tryd.prog 62 #[.string t, .int .i64 10, .int .i64 64] w fun e w' => e = .returned (Lib.uintTuple 88 (Lib.parseUint10 0 t.data.toList)) ∧ w' = Lib.bytesWorld w 5 t := Any.internal_strconv_ParseUint_10_b64 Tryd.lays287 t hne hmax w
open Go.RowKit in
/-- internal/strconv.ParseUint(s, 10, 32), s NOT EMPTY: 'Lib.parseUintM 4294967295 0' OF ITS BYTES: the number; or (0, ErrSyntax); or (the greatest uint32, ErrRange). The world behind the call: the one new row that '[]byte(s)' lays. (LAID: no walk: one application.) -/
theorem Tryd.internal_strconv_ParseUint_10_b32 (t : ByteArray) (hne : t.size ≠ 0) (hmax : t.size ≤ 9223372036854775806) (w : World) :
    Calls Tryd.prog 62 #[.string t, .int .i64 10, .int .i64 32] w fun e w' => e = .returned (Lib.uintTupleM 88 4294967295 (Lib.parseUintM 4294967295 0 t.data.toList)) ∧ w' = Lib.bytesWorld w 5 t := Any.internal_strconv_ParseUint_10_b32 Tryd.lays287 t hne hmax w
open Go.RowKit in
/-- internal/strconv.ParseUint(s, 10, 16), s NOT EMPTY: 'Lib.parseUintM 65535 0' OF ITS BYTES: the number; or (0, ErrSyntax); or (the greatest uint16, ErrRange). The world behind the call: the one new row that '[]byte(s)' lays. (LAID: no walk: one application.) -/
theorem Tryd.internal_strconv_ParseUint_10_b16 (t : ByteArray) (hne : t.size ≠ 0) (hmax : t.size ≤ 9223372036854775806) (w : World) :
    Calls Tryd.prog 62 #[.string t, .int .i64 10, .int .i64 16] w fun e w' => e = .returned (Lib.uintTupleM 88 65535 (Lib.parseUintM 65535 0 t.data.toList)) ∧ w' = Lib.bytesWorld w 5 t := Any.internal_strconv_ParseUint_10_b16 Tryd.lays287 t hne hmax w
open Go.RowKit in
/-- internal/strconv.ParseUint(s, 10, 8), s NOT EMPTY: 'Lib.parseUintM 255 0' OF ITS BYTES: the number; or (0, ErrSyntax); or (the greatest uint8, ErrRange). The world behind the call: the one new row that '[]byte(s)' lays. (LAID: no walk: one application.) -/
theorem Tryd.internal_strconv_ParseUint_10_b8 (t : ByteArray) (hne : t.size ≠ 0) (hmax : t.size ≤ 9223372036854775806) (w : World) :
    Calls Tryd.prog 62 #[.string t, .int .i64 10, .int .i64 8] w fun e w' => e = .returned (Lib.uintTupleM 88 255 (Lib.parseUintM 255 0 t.data.toList)) ∧ w' = Lib.bytesWorld w 5 t := Any.internal_strconv_ParseUint_10_b8 Tryd.lays287 t hne hmax w
open Go.RowKit in
/-- internal/strconv.ParseUint(s, 10, 0): 'Lib.parseUintB 64' OF ITS BYTES. The world: as it was (the empty string), or with the one new row that '[]byte(s)' lays. (LAID: no walk: one application.) -/
theorem Tryd.internal_strconv_ParseUint_10_at0 (t : ByteArray) (hmax : t.size ≤ 9223372036854775806) (w : World) :
    Calls Tryd.prog 62 #[.string t, .int .i64 10, .int .i64 0] w fun e w' => e = .returned (Lib.uintTupleM 88 18446744073709551615 (Lib.parseUintB 64 t.data.toList)) ∧ (w' = w ∨ w' = Lib.bytesWorld w 5 t) := Any.internal_strconv_ParseUint_10_at0 Tryd.lays287 t hmax w
open Go.RowKit in
/-- internal/strconv.ParseUint(s, 10, 64): 'Lib.parseUintB 64' OF ITS BYTES. The world: as it was (the empty string), or with the one new row that '[]byte(s)' lays. (LAID: no walk: one application.) -/
theorem Tryd.internal_strconv_ParseUint_10_at64 (t : ByteArray) (hmax : t.size ≤ 9223372036854775806) (w : World) :
    Calls Tryd.prog 62 #[.string t, .int .i64 10, .int .i64 64] w fun e w' => e = .returned (Lib.uintTupleM 88 18446744073709551615 (Lib.parseUintB 64 t.data.toList)) ∧ (w' = w ∨ w' = Lib.bytesWorld w 5 t) := Any.internal_strconv_ParseUint_10_at64 Tryd.lays287 t hmax w
open Go.RowKit in
/-- internal/strconv.ParseUint(s, 10, 32): 'Lib.parseUintB 32' OF ITS BYTES. The world: as it was (the empty string), or with the one new row that '[]byte(s)' lays. (LAID: no walk: one application.) -/
theorem Tryd.internal_strconv_ParseUint_10_at32 (t : ByteArray) (hmax : t.size ≤ 9223372036854775806) (w : World) :
    Calls Tryd.prog 62 #[.string t, .int .i64 10, .int .i64 32] w fun e w' => e = .returned (Lib.uintTupleM 88 4294967295 (Lib.parseUintB 32 t.data.toList)) ∧ (w' = w ∨ w' = Lib.bytesWorld w 5 t) := Any.internal_strconv_ParseUint_10_at32 Tryd.lays287 t hmax w
open Go.RowKit in
/-- internal/strconv.ParseUint(s, 10, 16): 'Lib.parseUintB 16' OF ITS BYTES. The world: as it was (the empty string), or with the one new row that '[]byte(s)' lays. (LAID: no walk: one application.) -/
theorem Tryd.internal_strconv_ParseUint_10_at16 (t : ByteArray) (hmax : t.size ≤ 9223372036854775806) (w : World) :
    Calls Tryd.prog 62 #[.string t, .int .i64 10, .int .i64 16] w fun e w' => e = .returned (Lib.uintTupleM 88 65535 (Lib.parseUintB 16 t.data.toList)) ∧ (w' = w ∨ w' = Lib.bytesWorld w 5 t) := Any.internal_strconv_ParseUint_10_at16 Tryd.lays287 t hmax w
open Go.RowKit in
/-- internal/strconv.ParseUint(s, 10, 8): 'Lib.parseUintB 8' OF ITS BYTES. The world: as it was (the empty string), or with the one new row that '[]byte(s)' lays. (LAID: no walk: one application.) -/
theorem Tryd.internal_strconv_ParseUint_10_at8 (t : ByteArray) (hmax : t.size ≤ 9223372036854775806) (w : World) :
    Calls Tryd.prog 62 #[.string t, .int .i64 10, .int .i64 8] w fun e w' => e = .returned (Lib.uintTupleM 88 255 (Lib.parseUintB 8 t.data.toList)) ∧ (w' = w ∨ w' = Lib.bytesWorld w 5 t) := Any.internal_strconv_ParseUint_10_at8 Tryd.lays287 t hmax w
open Go.RowKit in
/-- internal/strconv.ParseInt(s, 10, 64), s NOT EMPTY: 'Lib.parseIntB 64' OF ITS BYTES: (the number, nil); (0, ErrSyntax); (the greatest or the least int64 by the sign, ErrRange). The world: as it was, or with the one new row that '[]byte(..)' lays. (LAID: no walk: one application.) -/
theorem Tryd.internal_strconv_ParseInt_10_at64 (s : ByteArray) (hne : s.size ≠ 0) (hmax : s.size ≤ 9223372036854775806) (w : World) :
    Calls Tryd.prog 48 #[.string s, .int .i64 10, .int .i64 64] w fun e w' => e = .returned (Lib.intTuple 88 (Lib.intSat 64 s.data.toList) (Lib.parseIntB 64 s.data.toList)) ∧ (w' = w ∨ ∃ t, w' = Lib.bytesWorld w 5 t) := Any.internal_strconv_ParseInt_10_at64 Tryd.laysC247 s hne hmax w
open Go.RowKit in
/-- internal/strconv.ParseInt(s, 10, 32), s NOT EMPTY: 'Lib.parseIntB 32' OF ITS BYTES: (the number, nil); (0, ErrSyntax); (the greatest or the least int32 by the sign, ErrRange). The world: as it was, or with the one new row that '[]byte(..)' lays. (LAID: no walk: one application.) -/
theorem Tryd.internal_strconv_ParseInt_10_at32 (s : ByteArray) (hne : s.size ≠ 0) (hmax : s.size ≤ 9223372036854775806) (w : World) :
    Calls Tryd.prog 48 #[.string s, .int .i64 10, .int .i64 32] w fun e w' => e = .returned (Lib.intTuple 88 (Lib.intSat 32 s.data.toList) (Lib.parseIntB 32 s.data.toList)) ∧ (w' = w ∨ ∃ t, w' = Lib.bytesWorld w 5 t) := Any.internal_strconv_ParseInt_10_at32 Tryd.laysC247 s hne hmax w
open Go.RowKit in
/-- internal/strconv.ParseInt(s, 10, 16), s NOT EMPTY: 'Lib.parseIntB 16' OF ITS BYTES: (the number, nil); (0, ErrSyntax); (the greatest or the least int16 by the sign, ErrRange). The world: as it was, or with the one new row that '[]byte(..)' lays. (LAID: no walk: one application.) -/
theorem Tryd.internal_strconv_ParseInt_10_at16 (s : ByteArray) (hne : s.size ≠ 0) (hmax : s.size ≤ 9223372036854775806) (w : World) :
    Calls Tryd.prog 48 #[.string s, .int .i64 10, .int .i64 16] w fun e w' => e = .returned (Lib.intTuple 88 (Lib.intSat 16 s.data.toList) (Lib.parseIntB 16 s.data.toList)) ∧ (w' = w ∨ ∃ t, w' = Lib.bytesWorld w 5 t) := Any.internal_strconv_ParseInt_10_at16 Tryd.laysC247 s hne hmax w
open Go.RowKit in
/-- internal/strconv.ParseInt(s, 10, 8), s NOT EMPTY: 'Lib.parseIntB 8' OF ITS BYTES: (the number, nil); (0, ErrSyntax); (the greatest or the least int8 by the sign, ErrRange). The world: as it was, or with the one new row that '[]byte(..)' lays. (LAID: no walk: one application.) -/
theorem Tryd.internal_strconv_ParseInt_10_at8 (s : ByteArray) (hne : s.size ≠ 0) (hmax : s.size ≤ 9223372036854775806) (w : World) :
    Calls Tryd.prog 48 #[.string s, .int .i64 10, .int .i64 8] w fun e w' => e = .returned (Lib.intTuple 88 (Lib.intSat 8 s.data.toList) (Lib.parseIntB 8 s.data.toList)) ∧ (w' = w ∨ ∃ t, w' = Lib.bytesWorld w 5 t) := Any.internal_strconv_ParseInt_10_at8 Tryd.laysC247 s hne hmax w
open Go.RowKit in
/-- internal/strconv.ParseInt(s, 10, 0), AT EVERY STRING: 'Lib.parseIntB 64' OF ITS BYTES. (LAID: no walk: one application.) -/
theorem Tryd.internal_strconv_ParseInt_10_all0 (s : ByteArray) (hmax : s.size ≤ 9223372036854775806) (w : World) :
    Calls Tryd.prog 48 #[.string s, .int .i64 10, .int .i64 0] w fun e w' => e = .returned (Lib.intTuple 88 (Lib.intSat 64 s.data.toList) (Lib.parseIntB 64 s.data.toList)) ∧ (w' = w ∨ ∃ t, w' = Lib.bytesWorld w 5 t) := Any.internal_strconv_ParseInt_10_all0 Tryd.laysC247 s hmax w
open Go.RowKit in
/-- internal/strconv.ParseInt(s, 10, 64), AT EVERY STRING: 'Lib.parseIntB 64' OF ITS BYTES. (LAID: no walk: one application.) -/
theorem Tryd.internal_strconv_ParseInt_10_all64 (s : ByteArray) (hmax : s.size ≤ 9223372036854775806) (w : World) :
    Calls Tryd.prog 48 #[.string s, .int .i64 10, .int .i64 64] w fun e w' => e = .returned (Lib.intTuple 88 (Lib.intSat 64 s.data.toList) (Lib.parseIntB 64 s.data.toList)) ∧ (w' = w ∨ ∃ t, w' = Lib.bytesWorld w 5 t) := Any.internal_strconv_ParseInt_10_all64 Tryd.laysC247 s hmax w
open Go.RowKit in
/-- internal/strconv.ParseInt(s, 10, 32), AT EVERY STRING: 'Lib.parseIntB 32' OF ITS BYTES. (LAID: no walk: one application.) -/
theorem Tryd.internal_strconv_ParseInt_10_all32 (s : ByteArray) (hmax : s.size ≤ 9223372036854775806) (w : World) :
    Calls Tryd.prog 48 #[.string s, .int .i64 10, .int .i64 32] w fun e w' => e = .returned (Lib.intTuple 88 (Lib.intSat 32 s.data.toList) (Lib.parseIntB 32 s.data.toList)) ∧ (w' = w ∨ ∃ t, w' = Lib.bytesWorld w 5 t) := Any.internal_strconv_ParseInt_10_all32 Tryd.laysC247 s hmax w
open Go.RowKit in
/-- internal/strconv.ParseInt(s, 10, 16), AT EVERY STRING: 'Lib.parseIntB 16' OF ITS BYTES. (LAID: no walk: one application.) -/
theorem Tryd.internal_strconv_ParseInt_10_all16 (s : ByteArray) (hmax : s.size ≤ 9223372036854775806) (w : World) :
    Calls Tryd.prog 48 #[.string s, .int .i64 10, .int .i64 16] w fun e w' => e = .returned (Lib.intTuple 88 (Lib.intSat 16 s.data.toList) (Lib.parseIntB 16 s.data.toList)) ∧ (w' = w ∨ ∃ t, w' = Lib.bytesWorld w 5 t) := Any.internal_strconv_ParseInt_10_all16 Tryd.laysC247 s hmax w
open Go.RowKit in
/-- internal/strconv.ParseInt(s, 10, 8), AT EVERY STRING: 'Lib.parseIntB 8' OF ITS BYTES. (LAID: no walk: one application.) -/
theorem Tryd.internal_strconv_ParseInt_10_all8 (s : ByteArray) (hmax : s.size ≤ 9223372036854775806) (w : World) :
    Calls Tryd.prog 48 #[.string s, .int .i64 10, .int .i64 8] w fun e w' => e = .returned (Lib.intTuple 88 (Lib.intSat 8 s.data.toList) (Lib.parseIntB 8 s.data.toList)) ∧ (w' = w ∨ ∃ t, w' = Lib.bytesWorld w 5 t) := Any.internal_strconv_ParseInt_10_all8 Tryd.laysC247 s hmax w
def Tryd.lays217_ren : Go.Shelf.Ren := ⟨fun | 217 => 68 | 266 => 80 | n => n, fun | 9 => 9 | 5 => 5 | 3 => 3 | n => n, fun | n => n⟩
theorem Tryd.lays217 : Go.Proofs.Lays.n217 Tryd.prog Tryd.lays217_ren := {
  mixed := by kernel_rfl
  f217 := Tryd.func68.trans (congrArg some (by kernel_rfl))
  f266 := Tryd.func80.trans (congrArg some (by kernel_rfl))
  t3 := Tryd.underlying3
  a3 := Tryd.isAgg3
  z3 := Tryd.sizeOf3
  v3 := Tryd.zeroValue3
  t5 := Tryd.underlying5
  a5 := Tryd.isAgg5
  z5 := Tryd.sizeOf5
  v5 := Tryd.zeroValue5
  t9 := Tryd.underlying9
  a9 := Tryd.isAgg9
  z9 := Tryd.sizeOf9
  v9 := Tryd.zeroValue9 }
open Go.RowKit Go.Lib in
/-- internal/stringslite.IndexByte (what strings.IndexByte calls): IT RETURNS 'Lib.indexByte s c'; the world is as it was. (LAID: no walk: one application.) -/
theorem Tryd.stringslite_IndexByte (s : ByteArray) (c : Int) (w : World) :
    Calls Tryd.prog 68 #[.string s, .int .u8 c] w fun e w' => e = .returned (.int .i64 (Lib.indexByte s.data.toList c.toNat.toUInt8)) ∧ w' = w := Any.stringslite_IndexByte Tryd.lays217 s c w
def Tryd.lays224_ren : Go.Shelf.Ren := ⟨fun | 224 => 70 | n => n, fun | 3 => 3 | n => n, fun | n => n⟩
theorem Tryd.lays224 : Go.Proofs.Lays.n224 Tryd.prog Tryd.lays224_ren := {
  mixed := by kernel_rfl
  f224 := Tryd.func70.trans (congrArg some (by kernel_rfl))
  t3 := Tryd.underlying3
  a3 := Tryd.isAgg3
  z3 := Tryd.sizeOf3
  v3 := Tryd.zeroValue3 }
open Go.RowKit Go.Lib in
/-- internal/bytealg.Cutover: "Cutover reports the number of failures of IndexByte we should tolerate before switching over to Index. n is the number of bytes processed so far.": on amd64: (n + 16) / 8. (LAID: no walk: one application.) -/
theorem Tryd.bytealg_Cutover (n : Int) (h0 : 0 ≤ n) (h1 : n < 4611686018427387904) (w : World) :
    Calls Tryd.prog 70 #[.int .i64 n] w fun e w' => e = .returned (.int .i64 ((n + 16) / 8)) ∧ w' = w := Any.bytealg_Cutover Tryd.lays224 n h0 h1 w
def Tryd.lays314_ren : Go.Shelf.Ren := ⟨fun | 314 => 81 | n => n, fun | 9 => 9 | 51 => 114 | 3 => 3 | 4 => 4 | 5 => 5 | 46 => 34 | n => n, fun | n => n⟩
theorem Tryd.lays314 : Go.Proofs.Lays.n314 Tryd.prog Tryd.lays314_ren := {
  mixed := by kernel_rfl
  f314 := Tryd.func81.trans (congrArg some (by kernel_rfl))
  t3 := Tryd.underlying3
  a3 := Tryd.isAgg3
  z3 := Tryd.sizeOf3
  v3 := Tryd.zeroValue3
  t4 := Tryd.underlying4
  a4 := Tryd.isAgg4
  z4 := Tryd.sizeOf4
  v4 := Tryd.zeroValue4
  t5 := Tryd.underlying5
  a5 := Tryd.isAgg5
  z5 := Tryd.sizeOf5
  v5 := Tryd.zeroValue5
  t9 := Tryd.underlying9
  a9 := Tryd.isAgg9
  z9 := Tryd.sizeOf9
  v9 := Tryd.zeroValue9
  t46 := Tryd.underlying34
  a46 := Tryd.isAgg34
  z46 := Tryd.sizeOf34
  v46 := Tryd.zeroValue34
  t51 := Tryd.underlying114
  a51 := Tryd.isAgg114
  z51 := Tryd.sizeOf114
  v51 := Tryd.zeroValue114 }
open Go.RowKit Go.Lib in
/-- hashStr: "returns the hash and the appropriate multiplicative factor for use in Rabin-Karp algorithm": THE HASH OF ALL OF sep, AND 16777619 ^ len(sep), both in uint32. (LAID: no walk: one application.) -/
theorem Tryd.bytealg_hashStr (sep : ByteArray) (hs : sep.size < 4294967281) (w : World) :
    Calls Tryd.prog 81 #[.string sep] w fun e w' => e = .returned (.tuple #[.int .u32 (RK.H sep.data.toList % 4294967296), .int .u32 (16777619 ^ sep.size % 4294967296)]) ∧ w' = w := Any.bytealg_hashStr Tryd.lays314 sep hs w
def Tryd.lays267_ren : Go.Shelf.Ren := ⟨fun | 267 => 71 | 314 => 81 | n => n, fun | 9 => 9 | 3 => 3 | 146 => 123 | 51 => 114 | 4 => 4 | 5 => 5 | 46 => 34 | n => n, fun | n => n⟩
theorem Tryd.lays267 : Go.Proofs.Lays.n267 Tryd.prog Tryd.lays267_ren := {
  mixed := by kernel_rfl
  f267 := Tryd.func71.trans (congrArg some (by kernel_rfl))
  f314 := Tryd.func81.trans (congrArg some (by kernel_rfl))
  t3 := Tryd.underlying3
  a3 := Tryd.isAgg3
  z3 := Tryd.sizeOf3
  v3 := Tryd.zeroValue3
  t4 := Tryd.underlying4
  a4 := Tryd.isAgg4
  z4 := Tryd.sizeOf4
  v4 := Tryd.zeroValue4
  t5 := Tryd.underlying5
  a5 := Tryd.isAgg5
  z5 := Tryd.sizeOf5
  v5 := Tryd.zeroValue5
  t9 := Tryd.underlying9
  a9 := Tryd.isAgg9
  z9 := Tryd.sizeOf9
  v9 := Tryd.zeroValue9
  t46 := Tryd.underlying34
  a46 := Tryd.isAgg34
  z46 := Tryd.sizeOf34
  v46 := Tryd.zeroValue34
  t51 := Tryd.underlying114
  a51 := Tryd.isAgg114
  z51 := Tryd.sizeOf114
  v51 := Tryd.zeroValue114
  t146 := Tryd.underlying123
  a146 := Tryd.isAgg123
  z146 := Tryd.sizeOf123
  v146 := Tryd.zeroValue123 }
open Go.RowKit Go.Lib in
theorem Tryd.bytealg_IndexRabinKarp (s sep : ByteArray) (h1 : 1 ≤ sep.size) (h2 : sep.size ≤ s.size) (hs : s.size < 4294967281) (w : World) :
    Calls Tryd.prog 71 #[.string s, .string sep] w fun e w' => e = .returned (.int .i64 (Lib.index s.data.toList sep.data.toList)) ∧ w' = w := Any.bytealg_IndexRabinKarp Tryd.lays267 s sep h1 h2 hs w
def Tryd.lays219_ren : Go.Shelf.Ren := ⟨fun | 219 => 57 | 217 => 68 | 225 => 69 | 224 => 70 | 267 => 71 | 266 => 80 | 314 => 81 | n => n, fun | 9 => 9 | 3 => 3 | 4 => 4 | 5 => 5 | 46 => 34 | 146 => 123 | 51 => 114 | n => n, fun | 1 => 2 | n => n⟩
theorem Tryd.lays219 : Go.Proofs.Lays.n219 Tryd.prog Tryd.lays219_ren := {
  mixed := by kernel_rfl
  f217 := Tryd.func68.trans (congrArg some (by kernel_rfl))
  f219 := Tryd.func57.trans (congrArg some (by kernel_rfl))
  f224 := Tryd.func70.trans (congrArg some (by kernel_rfl))
  f225 := Tryd.func69.trans (congrArg some (by kernel_rfl))
  f266 := Tryd.func80.trans (congrArg some (by kernel_rfl))
  f267 := Tryd.func71.trans (congrArg some (by kernel_rfl))
  f314 := Tryd.func81.trans (congrArg some (by kernel_rfl))
  t3 := Tryd.underlying3
  a3 := Tryd.isAgg3
  z3 := Tryd.sizeOf3
  v3 := Tryd.zeroValue3
  t4 := Tryd.underlying4
  a4 := Tryd.isAgg4
  z4 := Tryd.sizeOf4
  v4 := Tryd.zeroValue4
  t5 := Tryd.underlying5
  a5 := Tryd.isAgg5
  z5 := Tryd.sizeOf5
  v5 := Tryd.zeroValue5
  t9 := Tryd.underlying9
  a9 := Tryd.isAgg9
  z9 := Tryd.sizeOf9
  v9 := Tryd.zeroValue9
  t46 := Tryd.underlying34
  a46 := Tryd.isAgg34
  z46 := Tryd.sizeOf34
  v46 := Tryd.zeroValue34
  t51 := Tryd.underlying114
  a51 := Tryd.isAgg114
  z51 := Tryd.sizeOf114
  v51 := Tryd.zeroValue114
  t146 := Tryd.underlying123
  a146 := Tryd.isAgg123
  z146 := Tryd.sizeOf123
  v146 := Tryd.zeroValue123
  g1 := by kernel_rfl }
open Go.RowKit Go.Lib in
/-- internal/stringslite.Index (what strings.Index calls) AT A substr OF ONE BYTE c: IT RETURNS 'Lib.indexByte s c'; the world is as it was. (LAID: no walk: one application.) -/
theorem Tryd.stringslite_Index_one (s : ByteArray) (c : UInt8) (w : World) :
    Calls Tryd.prog 57 #[.string s, .string ⟨#[c]⟩] w fun e w' => e = .returned (.int .i64 (Lib.indexByte s.data.toList c)) ∧ w' = w := Any.stringslite_Index_one Tryd.lays219 s c w
open Go.RowKit Go.Lib in
/-- internal/stringslite.Index (what strings.Index calls) AT A substr OF WHATEVER LENGTH: IT RETURNS 'Lib.index s substr'; the world is as it was. 'm': what internal/bytealg.MaxLen holds: whatever. (LAID: no walk: one application.) -/
theorem Tryd.stringslite_Index (s sub : ByteArray) (m : Int) (w : World) (hs : s.size < 4294967281) (hm : w.cell? ⟨2, 0, none⟩ = some (.int .i64 m)) :
    Calls Tryd.prog 57 #[.string s, .string sub] w fun e w' => e = .returned (.int .i64 (Lib.index s.data.toList sub.data.toList)) ∧ w' = w := Any.stringslite_Index Tryd.lays219 s sub m w hs hm
def Tryd.lays143_ren : Go.Shelf.Ren := ⟨fun | 143 => 56 | 219 => 57 | 217 => 68 | 225 => 69 | 224 => 70 | 267 => 71 | 266 => 80 | 314 => 81 | n => n, fun | 9 => 9 | 3 => 3 | 4 => 4 | 5 => 5 | 46 => 34 | 146 => 123 | 51 => 114 | n => n, fun | 1 => 2 | n => n⟩
theorem Tryd.lays143 : Go.Proofs.Lays.n143 Tryd.prog Tryd.lays143_ren := {
  mixed := by kernel_rfl
  f143 := Tryd.func56.trans (congrArg some (by kernel_rfl))
  f217 := Tryd.func68.trans (congrArg some (by kernel_rfl))
  f219 := Tryd.func57.trans (congrArg some (by kernel_rfl))
  f224 := Tryd.func70.trans (congrArg some (by kernel_rfl))
  f225 := Tryd.func69.trans (congrArg some (by kernel_rfl))
  f266 := Tryd.func80.trans (congrArg some (by kernel_rfl))
  f267 := Tryd.func71.trans (congrArg some (by kernel_rfl))
  f314 := Tryd.func81.trans (congrArg some (by kernel_rfl))
  t3 := Tryd.underlying3
  a3 := Tryd.isAgg3
  z3 := Tryd.sizeOf3
  v3 := Tryd.zeroValue3
  t4 := Tryd.underlying4
  a4 := Tryd.isAgg4
  z4 := Tryd.sizeOf4
  v4 := Tryd.zeroValue4
  t5 := Tryd.underlying5
  a5 := Tryd.isAgg5
  z5 := Tryd.sizeOf5
  v5 := Tryd.zeroValue5
  t9 := Tryd.underlying9
  a9 := Tryd.isAgg9
  z9 := Tryd.sizeOf9
  v9 := Tryd.zeroValue9
  t46 := Tryd.underlying34
  a46 := Tryd.isAgg34
  z46 := Tryd.sizeOf34
  v46 := Tryd.zeroValue34
  t51 := Tryd.underlying114
  a51 := Tryd.isAgg114
  z51 := Tryd.sizeOf114
  v51 := Tryd.zeroValue114
  t146 := Tryd.underlying123
  a146 := Tryd.isAgg123
  z146 := Tryd.sizeOf123
  v146 := Tryd.zeroValue123
  g1 := by kernel_rfl }
open Go.RowKit Go.Lib in
/-- strings.Index: "Index returns the index of the first instance of substr in s, or -1 if substr is not present in s.": AT A substr OF ONE BYTE c: IT RETURNS 'Lib.indexByte s c'; the world is as it was. (LAID: no walk: one application.) -/
theorem Tryd.strings_Index_one (s : ByteArray) (c : UInt8) (w : World) :
    Calls Tryd.prog 56 #[.string s, .string ⟨#[c]⟩] w fun e w' => e = .returned (.int .i64 (Lib.indexByte s.data.toList c)) ∧ w' = w := Any.strings_Index_one Tryd.lays143 s c w
open Go.RowKit Go.Lib in
/-- strings.Index: "Index returns the index of the first instance of substr in s, or -1 if substr is not present in s.": IT RETURNS 'Lib.index s substr'; the world is as it was. (LAID: no walk: one application.) -/
theorem Tryd.strings_Index (s sub : ByteArray) (m : Int) (w : World) (hs : s.size < 4294967281) (hm : w.cell? ⟨2, 0, none⟩ = some (.int .i64 m)) :
    Calls Tryd.prog 56 #[.string s, .string sub] w fun e w' => e = .returned (.int .i64 (Lib.index s.data.toList sub.data.toList)) ∧ w' = w := Any.strings_Index Tryd.lays143 s sub m w hs hm
def Tryd.lays220_ren : Go.Shelf.Ren := ⟨fun | 220 => 46 | 219 => 57 | 217 => 68 | 225 => 69 | 224 => 70 | 267 => 71 | 266 => 80 | 314 => 81 | n => n, fun | 9 => 9 | 4 => 4 | 3 => 3 | 5 => 5 | 46 => 34 | 146 => 123 | 51 => 114 | n => n, fun | 1 => 2 | n => n⟩
theorem Tryd.lays220 : Go.Proofs.Lays.n220 Tryd.prog Tryd.lays220_ren := {
  mixed := by kernel_rfl
  f217 := Tryd.func68.trans (congrArg some (by kernel_rfl))
  f219 := Tryd.func57.trans (congrArg some (by kernel_rfl))
  f220 := Tryd.func46.trans (congrArg some (by kernel_rfl))
  f224 := Tryd.func70.trans (congrArg some (by kernel_rfl))
  f225 := Tryd.func69.trans (congrArg some (by kernel_rfl))
  f266 := Tryd.func80.trans (congrArg some (by kernel_rfl))
  f267 := Tryd.func71.trans (congrArg some (by kernel_rfl))
  f314 := Tryd.func81.trans (congrArg some (by kernel_rfl))
  t3 := Tryd.underlying3
  a3 := Tryd.isAgg3
  z3 := Tryd.sizeOf3
  v3 := Tryd.zeroValue3
  t4 := Tryd.underlying4
  a4 := Tryd.isAgg4
  z4 := Tryd.sizeOf4
  v4 := Tryd.zeroValue4
  t5 := Tryd.underlying5
  a5 := Tryd.isAgg5
  z5 := Tryd.sizeOf5
  v5 := Tryd.zeroValue5
  t9 := Tryd.underlying9
  a9 := Tryd.isAgg9
  z9 := Tryd.sizeOf9
  v9 := Tryd.zeroValue9
  t46 := Tryd.underlying34
  a46 := Tryd.isAgg34
  z46 := Tryd.sizeOf34
  v46 := Tryd.zeroValue34
  t51 := Tryd.underlying114
  a51 := Tryd.isAgg114
  z51 := Tryd.sizeOf114
  v51 := Tryd.zeroValue114
  t146 := Tryd.underlying123
  a146 := Tryd.isAgg123
  z146 := Tryd.sizeOf123
  v146 := Tryd.zeroValue123
  g1 := by kernel_rfl }
open Go.RowKit Go.Lib in
/-- internal/stringslite.Cut (what strings.Cut calls): IT RETURNS 'Lib.cut s sep'; the world is as it was but for the count of draws. (LAID: no walk: one application.) -/
theorem Tryd.stringslite_Cut (s sep : ByteArray) (m : Int) (w : World) (hs : s.size < 4294967281) (hm : w.cell? ⟨2, 0, none⟩ = some (.int .i64 m)) :
    Calls Tryd.prog 46 #[.string s, .string sep] w fun e w' => e = .returned (.tuple #[.string ⟨(Lib.cut s.data.toList sep.data.toList).1.toArray⟩, .string ⟨(Lib.cut s.data.toList sep.data.toList).2.1.toArray⟩, .bool (Lib.cut s.data.toList sep.data.toList).2.2]) ∧ ∃ n, w' = w.drewN n := Any.stringslite_Cut Tryd.lays220 s sep m w hs hm
def Tryd.lays145_ren : Go.Shelf.Ren := ⟨fun | 145 => 36 | 220 => 46 | 219 => 57 | 217 => 68 | 225 => 69 | 224 => 70 | 267 => 71 | 266 => 80 | 314 => 81 | n => n, fun | 9 => 9 | 4 => 4 | 59 => 73 | 3 => 3 | 5 => 5 | 46 => 34 | 146 => 123 | 51 => 114 | n => n, fun | 1 => 2 | n => n⟩
theorem Tryd.lays145 : Go.Proofs.Lays.n145 Tryd.prog Tryd.lays145_ren := {
  mixed := by kernel_rfl
  f145 := Tryd.func36.trans (congrArg some (by kernel_rfl))
  f217 := Tryd.func68.trans (congrArg some (by kernel_rfl))
  f219 := Tryd.func57.trans (congrArg some (by kernel_rfl))
  f220 := Tryd.func46.trans (congrArg some (by kernel_rfl))
  f224 := Tryd.func70.trans (congrArg some (by kernel_rfl))
  f225 := Tryd.func69.trans (congrArg some (by kernel_rfl))
  f266 := Tryd.func80.trans (congrArg some (by kernel_rfl))
  f267 := Tryd.func71.trans (congrArg some (by kernel_rfl))
  f314 := Tryd.func81.trans (congrArg some (by kernel_rfl))
  t3 := Tryd.underlying3
  a3 := Tryd.isAgg3
  z3 := Tryd.sizeOf3
  v3 := Tryd.zeroValue3
  t4 := Tryd.underlying4
  a4 := Tryd.isAgg4
  z4 := Tryd.sizeOf4
  v4 := Tryd.zeroValue4
  t5 := Tryd.underlying5
  a5 := Tryd.isAgg5
  z5 := Tryd.sizeOf5
  v5 := Tryd.zeroValue5
  t9 := Tryd.underlying9
  a9 := Tryd.isAgg9
  z9 := Tryd.sizeOf9
  v9 := Tryd.zeroValue9
  t46 := Tryd.underlying34
  a46 := Tryd.isAgg34
  z46 := Tryd.sizeOf34
  v46 := Tryd.zeroValue34
  t51 := Tryd.underlying114
  a51 := Tryd.isAgg114
  z51 := Tryd.sizeOf114
  v51 := Tryd.zeroValue114
  t59 := Tryd.underlying73
  a59 := Tryd.isAgg73
  z59 := Tryd.sizeOf73
  v59 := Tryd.zeroValue73
  t146 := Tryd.underlying123
  a146 := Tryd.isAgg123
  z146 := Tryd.sizeOf123
  v146 := Tryd.zeroValue123
  g1 := by kernel_rfl }
open Go.RowKit Go.Lib in
/-- strings.Cut: "Cut slices s around the first instance of sep, returning the text before and after sep. The found result reports whether sep appears in s. If sep does not appear in s, cut returns s, "", false.": IT RETURNS 'Lib.cut s sep'; the world is as it was but for the count of draws. (LAID: no walk: one application.) -/
theorem Tryd.strings_Cut (s sep : ByteArray) (m : Int) (w : World) (hs : s.size < 4294967281) (hm : w.cell? ⟨2, 0, none⟩ = some (.int .i64 m)) :
    Calls Tryd.prog 36 #[.string s, .string sep] w fun e w' => e = .returned (.tuple #[.string ⟨(Lib.cut s.data.toList sep.data.toList).1.toArray⟩, .string ⟨(Lib.cut s.data.toList sep.data.toList).2.1.toArray⟩, .bool (Lib.cut s.data.toList sep.data.toList).2.2]) ∧ ∃ n, w' = w.drewN n := Any.strings_Cut Tryd.lays145 s sep m w hs hm
def Tryd.lays138_ren : Go.Shelf.Ren := ⟨fun | 138 => 55 | 195 => 65 | 218 => 67 | 143 => 56 | 219 => 57 | 217 => 68 | 225 => 69 | 224 => 70 | 267 => 71 | 266 => 80 | 314 => 81 | n => n, fun | 9 => 9 | 3 => 3 | 4 => 4 | 5 => 5 | 0 => 0 | 46 => 34 | 146 => 123 | 51 => 114 | n => n, fun | 1 => 2 | n => n⟩
theorem Tryd.lays138 : Go.Proofs.Lays.n138 Tryd.prog Tryd.lays138_ren := {
  mixed := by kernel_rfl
  f138 := Tryd.func55.trans (congrArg some (by kernel_rfl))
  f143 := Tryd.func56.trans (congrArg some (by kernel_rfl))
  f195 := Tryd.func65.trans (congrArg some (by kernel_rfl))
  f217 := Tryd.func68.trans (congrArg some (by kernel_rfl))
  f218 := Tryd.func67.trans (congrArg some (by kernel_rfl))
  f219 := Tryd.func57.trans (congrArg some (by kernel_rfl))
  f224 := Tryd.func70.trans (congrArg some (by kernel_rfl))
  f225 := Tryd.func69.trans (congrArg some (by kernel_rfl))
  f266 := Tryd.func80.trans (congrArg some (by kernel_rfl))
  f267 := Tryd.func71.trans (congrArg some (by kernel_rfl))
  f314 := Tryd.func81.trans (congrArg some (by kernel_rfl))
  t0 := Tryd.underlying0
  a0 := Tryd.isAgg0
  z0 := Tryd.sizeOf0
  v0 := Tryd.zeroValue0
  t3 := Tryd.underlying3
  a3 := Tryd.isAgg3
  z3 := Tryd.sizeOf3
  v3 := Tryd.zeroValue3
  t4 := Tryd.underlying4
  a4 := Tryd.isAgg4
  z4 := Tryd.sizeOf4
  v4 := Tryd.zeroValue4
  t5 := Tryd.underlying5
  a5 := Tryd.isAgg5
  z5 := Tryd.sizeOf5
  v5 := Tryd.zeroValue5
  t9 := Tryd.underlying9
  a9 := Tryd.isAgg9
  z9 := Tryd.sizeOf9
  v9 := Tryd.zeroValue9
  t46 := Tryd.underlying34
  a46 := Tryd.isAgg34
  z46 := Tryd.sizeOf34
  v46 := Tryd.zeroValue34
  t51 := Tryd.underlying114
  a51 := Tryd.isAgg114
  z51 := Tryd.sizeOf114
  v51 := Tryd.zeroValue114
  t146 := Tryd.underlying123
  a146 := Tryd.isAgg123
  z146 := Tryd.sizeOf123
  v146 := Tryd.zeroValue123
  g1 := by kernel_rfl }
open Go.RowKit Go.Lib in
/-- strings.Count AT A substr OF ONE BYTE ('hp'): "Count counts the number of non-overlapping instances of substr in s.": IT RETURNS 'Lib.countByte s (that byte)'; the world is as it was. ✋ NO CONTRACT HERE YET at an empty substr (utf8.RuneCountInString) or at a longer one (a loop over strings.Index). (LAID: no walk: one application.) -/
theorem Tryd.strings_Count_one (s : ByteArray) (c : UInt8) (w : World) :
    Calls Tryd.prog 55 #[.string s, .string ⟨#[c]⟩] w fun e w' => e = .returned (.int .i64 (Lib.countByte s.data.toList c)) ∧ w' = w := Any.strings_Count_one Tryd.lays138 s c w
open Go.RowKit Go.Lib in
/-- strings.Count AT A substr OF TWO BYTES OR MORE: "Count counts the number of non-overlapping instances of substr in s.": IT RETURNS 'Lib.count s substr'; the world is as it was. (LAID: no walk: one application.) -/
theorem Tryd.strings_Count (s sub : ByteArray) (m : Int) (w : World) (hs : s.size < 4294967281) (hm : w.cell? ⟨2, 0, none⟩ = some (.int .i64 m)) (h2 : 2 ≤ sub.size) :
    Calls Tryd.prog 55 #[.string s, .string sub] w fun e w' => e = .returned (.int .i64 (Lib.countB s sub)) ∧ w' = w := Any.strings_Count Tryd.lays138 s sub m w hs hm h2
def Tryd.laysM219_ren : Go.Shelf.Ren := ⟨fun | 219 => 57 | 217 => 68 | 225 => 69 | 224 => 70 | 267 => 71 | 266 => 80 | 314 => 81 | n => n, fun | 9 => 9 | 3 => 3 | 4 => 4 | 5 => 5 | 46 => 34 | 146 => 123 | 51 => 114 | n => n, fun | 1 => 2 | n => n⟩
theorem Tryd.laysM219 : Go.Proofs.LaysM.n219 Tryd.prog Tryd.laysM219_ren := {
  mixed := by kernel_rfl
  f217 := Tryd.func68.trans (congrArg some (by kernel_rfl))
  f219 := Tryd.func57.trans (congrArg some (by kernel_rfl))
  f224 := Tryd.func70.trans (congrArg some (by kernel_rfl))
  f225 := Tryd.func69.trans (congrArg some (by kernel_rfl))
  f266 := Tryd.func80.trans (congrArg some (by kernel_rfl))
  f267 := Tryd.func71.trans (congrArg some (by kernel_rfl))
  f314 := Tryd.func81.trans (congrArg some (by kernel_rfl))
  t3 := Tryd.underlying3
  a3 := Tryd.isAgg3
  z3 := Tryd.sizeOf3
  v3 := Tryd.zeroValue3
  t4 := Tryd.underlying4
  a4 := Tryd.isAgg4
  z4 := Tryd.sizeOf4
  v4 := Tryd.zeroValue4
  t5 := Tryd.underlying5
  a5 := Tryd.isAgg5
  z5 := Tryd.sizeOf5
  v5 := Tryd.zeroValue5
  t9 := Tryd.underlying9
  a9 := Tryd.isAgg9
  z9 := Tryd.sizeOf9
  v9 := Tryd.zeroValue9
  t46 := Tryd.underlying34
  a46 := Tryd.isAgg34
  z46 := Tryd.sizeOf34
  v46 := Tryd.zeroValue34
  t51 := Tryd.underlying114
  a51 := Tryd.isAgg114
  z51 := Tryd.sizeOf114
  v51 := Tryd.zeroValue114
  t146 := Tryd.underlying123
  a146 := Tryd.isAgg123
  z146 := Tryd.sizeOf123
  v146 := Tryd.zeroValue123
  g1 := by kernel_rfl
  i3 := by kernel_rfl
  i4 := by kernel_rfl
  i5 := by kernel_rfl
  i9 := by kernel_rfl
  i46 := by kernel_rfl
  i51 := by kernel_rfl
  i146 := by kernel_rfl
  m1 := by kernel_rfl
  s1_3 := fun w h => Go.Proofs.cell_of_shapedOpen_int (zero := #[.int .i64 0]) (t := 3) h (of_decide_eq_true (by kernel_rfl)) (by kernel_rfl) rfl (by kernel_rfl) (by kernel_rfl) Tryd.underlying3 }
open Go.RowKit Go.Lib in
theorem Tryd.stringslite_Index_shaped (s sub : ByteArray) (w : World) (h : w.ShapedOpen Tryd.prog) (hs : s.size < 4294967281) :
    Calls Tryd.prog 57 #[.string s, .string sub] w fun e w' => e = .returned (.int .i64 (Lib.index s.data.toList sub.data.toList)) ∧ w' = w := Any.stringslite_Index_shaped Tryd.laysM219 s sub w h hs
def Tryd.laysM143_ren : Go.Shelf.Ren := ⟨fun | 143 => 56 | 219 => 57 | 217 => 68 | 225 => 69 | 224 => 70 | 267 => 71 | 266 => 80 | 314 => 81 | n => n, fun | 9 => 9 | 3 => 3 | 4 => 4 | 5 => 5 | 46 => 34 | 146 => 123 | 51 => 114 | n => n, fun | 1 => 2 | n => n⟩
theorem Tryd.laysM143 : Go.Proofs.LaysM.n143 Tryd.prog Tryd.laysM143_ren := {
  mixed := by kernel_rfl
  f143 := Tryd.func56.trans (congrArg some (by kernel_rfl))
  f217 := Tryd.func68.trans (congrArg some (by kernel_rfl))
  f219 := Tryd.func57.trans (congrArg some (by kernel_rfl))
  f224 := Tryd.func70.trans (congrArg some (by kernel_rfl))
  f225 := Tryd.func69.trans (congrArg some (by kernel_rfl))
  f266 := Tryd.func80.trans (congrArg some (by kernel_rfl))
  f267 := Tryd.func71.trans (congrArg some (by kernel_rfl))
  f314 := Tryd.func81.trans (congrArg some (by kernel_rfl))
  t3 := Tryd.underlying3
  a3 := Tryd.isAgg3
  z3 := Tryd.sizeOf3
  v3 := Tryd.zeroValue3
  t4 := Tryd.underlying4
  a4 := Tryd.isAgg4
  z4 := Tryd.sizeOf4
  v4 := Tryd.zeroValue4
  t5 := Tryd.underlying5
  a5 := Tryd.isAgg5
  z5 := Tryd.sizeOf5
  v5 := Tryd.zeroValue5
  t9 := Tryd.underlying9
  a9 := Tryd.isAgg9
  z9 := Tryd.sizeOf9
  v9 := Tryd.zeroValue9
  t46 := Tryd.underlying34
  a46 := Tryd.isAgg34
  z46 := Tryd.sizeOf34
  v46 := Tryd.zeroValue34
  t51 := Tryd.underlying114
  a51 := Tryd.isAgg114
  z51 := Tryd.sizeOf114
  v51 := Tryd.zeroValue114
  t146 := Tryd.underlying123
  a146 := Tryd.isAgg123
  z146 := Tryd.sizeOf123
  v146 := Tryd.zeroValue123
  g1 := by kernel_rfl
  i3 := by kernel_rfl
  i4 := by kernel_rfl
  i5 := by kernel_rfl
  i9 := by kernel_rfl
  i46 := by kernel_rfl
  i51 := by kernel_rfl
  i146 := by kernel_rfl
  m1 := by kernel_rfl
  s1_3 := fun w h => Go.Proofs.cell_of_shapedOpen_int (zero := #[.int .i64 0]) (t := 3) h (of_decide_eq_true (by kernel_rfl)) (by kernel_rfl) rfl (by kernel_rfl) (by kernel_rfl) Tryd.underlying3 }
open Go.RowKit Go.Lib in
theorem Tryd.strings_Index_shaped (s sub : ByteArray) (w : World) (h : w.ShapedOpen Tryd.prog) (hs : s.size < 4294967281) :
    Calls Tryd.prog 56 #[.string s, .string sub] w fun e w' => e = .returned (.int .i64 (Lib.index s.data.toList sub.data.toList)) ∧ w' = w := Any.strings_Index_shaped Tryd.laysM143 s sub w h hs
def Tryd.laysM220_ren : Go.Shelf.Ren := ⟨fun | 220 => 46 | 219 => 57 | 217 => 68 | 225 => 69 | 224 => 70 | 267 => 71 | 266 => 80 | 314 => 81 | n => n, fun | 9 => 9 | 4 => 4 | 3 => 3 | 5 => 5 | 46 => 34 | 146 => 123 | 51 => 114 | n => n, fun | 1 => 2 | n => n⟩
theorem Tryd.laysM220 : Go.Proofs.LaysM.n220 Tryd.prog Tryd.laysM220_ren := {
  mixed := by kernel_rfl
  f217 := Tryd.func68.trans (congrArg some (by kernel_rfl))
  f219 := Tryd.func57.trans (congrArg some (by kernel_rfl))
  f220 := Tryd.func46.trans (congrArg some (by kernel_rfl))
  f224 := Tryd.func70.trans (congrArg some (by kernel_rfl))
  f225 := Tryd.func69.trans (congrArg some (by kernel_rfl))
  f266 := Tryd.func80.trans (congrArg some (by kernel_rfl))
  f267 := Tryd.func71.trans (congrArg some (by kernel_rfl))
  f314 := Tryd.func81.trans (congrArg some (by kernel_rfl))
  t3 := Tryd.underlying3
  a3 := Tryd.isAgg3
  z3 := Tryd.sizeOf3
  v3 := Tryd.zeroValue3
  t4 := Tryd.underlying4
  a4 := Tryd.isAgg4
  z4 := Tryd.sizeOf4
  v4 := Tryd.zeroValue4
  t5 := Tryd.underlying5
  a5 := Tryd.isAgg5
  z5 := Tryd.sizeOf5
  v5 := Tryd.zeroValue5
  t9 := Tryd.underlying9
  a9 := Tryd.isAgg9
  z9 := Tryd.sizeOf9
  v9 := Tryd.zeroValue9
  t46 := Tryd.underlying34
  a46 := Tryd.isAgg34
  z46 := Tryd.sizeOf34
  v46 := Tryd.zeroValue34
  t51 := Tryd.underlying114
  a51 := Tryd.isAgg114
  z51 := Tryd.sizeOf114
  v51 := Tryd.zeroValue114
  t146 := Tryd.underlying123
  a146 := Tryd.isAgg123
  z146 := Tryd.sizeOf123
  v146 := Tryd.zeroValue123
  g1 := by kernel_rfl
  i3 := by kernel_rfl
  i4 := by kernel_rfl
  i5 := by kernel_rfl
  i9 := by kernel_rfl
  i46 := by kernel_rfl
  i51 := by kernel_rfl
  i146 := by kernel_rfl
  m1 := by kernel_rfl
  s1_3 := fun w h => Go.Proofs.cell_of_shapedOpen_int (zero := #[.int .i64 0]) (t := 3) h (of_decide_eq_true (by kernel_rfl)) (by kernel_rfl) rfl (by kernel_rfl) (by kernel_rfl) Tryd.underlying3 }
open Go.RowKit Go.Lib in
theorem Tryd.stringslite_Cut_shaped (s sep : ByteArray) (w : World) (h : w.ShapedOpen Tryd.prog) (hs : s.size < 4294967281) :
    Calls Tryd.prog 46 #[.string s, .string sep] w fun e w' => e = .returned (.tuple #[.string ⟨(Lib.cut s.data.toList sep.data.toList).1.toArray⟩, .string ⟨(Lib.cut s.data.toList sep.data.toList).2.1.toArray⟩, .bool (Lib.cut s.data.toList sep.data.toList).2.2]) ∧ ∃ n, w' = w.drewN n := Any.stringslite_Cut_shaped Tryd.laysM220 s sep w h hs
def Tryd.laysM145_ren : Go.Shelf.Ren := ⟨fun | 145 => 36 | 220 => 46 | 219 => 57 | 217 => 68 | 225 => 69 | 224 => 70 | 267 => 71 | 266 => 80 | 314 => 81 | n => n, fun | 9 => 9 | 4 => 4 | 59 => 73 | 3 => 3 | 5 => 5 | 46 => 34 | 146 => 123 | 51 => 114 | n => n, fun | 1 => 2 | n => n⟩
theorem Tryd.laysM145 : Go.Proofs.LaysM.n145 Tryd.prog Tryd.laysM145_ren := {
  mixed := by kernel_rfl
  f145 := Tryd.func36.trans (congrArg some (by kernel_rfl))
  f217 := Tryd.func68.trans (congrArg some (by kernel_rfl))
  f219 := Tryd.func57.trans (congrArg some (by kernel_rfl))
  f220 := Tryd.func46.trans (congrArg some (by kernel_rfl))
  f224 := Tryd.func70.trans (congrArg some (by kernel_rfl))
  f225 := Tryd.func69.trans (congrArg some (by kernel_rfl))
  f266 := Tryd.func80.trans (congrArg some (by kernel_rfl))
  f267 := Tryd.func71.trans (congrArg some (by kernel_rfl))
  f314 := Tryd.func81.trans (congrArg some (by kernel_rfl))
  t3 := Tryd.underlying3
  a3 := Tryd.isAgg3
  z3 := Tryd.sizeOf3
  v3 := Tryd.zeroValue3
  t4 := Tryd.underlying4
  a4 := Tryd.isAgg4
  z4 := Tryd.sizeOf4
  v4 := Tryd.zeroValue4
  t5 := Tryd.underlying5
  a5 := Tryd.isAgg5
  z5 := Tryd.sizeOf5
  v5 := Tryd.zeroValue5
  t9 := Tryd.underlying9
  a9 := Tryd.isAgg9
  z9 := Tryd.sizeOf9
  v9 := Tryd.zeroValue9
  t46 := Tryd.underlying34
  a46 := Tryd.isAgg34
  z46 := Tryd.sizeOf34
  v46 := Tryd.zeroValue34
  t51 := Tryd.underlying114
  a51 := Tryd.isAgg114
  z51 := Tryd.sizeOf114
  v51 := Tryd.zeroValue114
  t59 := Tryd.underlying73
  a59 := Tryd.isAgg73
  z59 := Tryd.sizeOf73
  v59 := Tryd.zeroValue73
  t146 := Tryd.underlying123
  a146 := Tryd.isAgg123
  z146 := Tryd.sizeOf123
  v146 := Tryd.zeroValue123
  g1 := by kernel_rfl
  i3 := by kernel_rfl
  i4 := by kernel_rfl
  i5 := by kernel_rfl
  i9 := by kernel_rfl
  i46 := by kernel_rfl
  i51 := by kernel_rfl
  i59 := by kernel_rfl
  i146 := by kernel_rfl
  m1 := by kernel_rfl
  s1_3 := fun w h => Go.Proofs.cell_of_shapedOpen_int (zero := #[.int .i64 0]) (t := 3) h (of_decide_eq_true (by kernel_rfl)) (by kernel_rfl) rfl (by kernel_rfl) (by kernel_rfl) Tryd.underlying3 }
open Go.RowKit Go.Lib in
theorem Tryd.strings_Cut_shaped (s sep : ByteArray) (w : World) (h : w.ShapedOpen Tryd.prog) (hs : s.size < 4294967281) :
    Calls Tryd.prog 36 #[.string s, .string sep] w fun e w' => e = .returned (.tuple #[.string ⟨(Lib.cut s.data.toList sep.data.toList).1.toArray⟩, .string ⟨(Lib.cut s.data.toList sep.data.toList).2.1.toArray⟩, .bool (Lib.cut s.data.toList sep.data.toList).2.2]) ∧ ∃ n, w' = w.drewN n := Any.strings_Cut_shaped Tryd.laysM145 s sep w h hs
def Tryd.laysM138_ren : Go.Shelf.Ren := ⟨fun | 138 => 55 | 195 => 65 | 218 => 67 | 143 => 56 | 219 => 57 | 217 => 68 | 225 => 69 | 224 => 70 | 267 => 71 | 266 => 80 | 314 => 81 | n => n, fun | 9 => 9 | 3 => 3 | 4 => 4 | 5 => 5 | 0 => 0 | 46 => 34 | 146 => 123 | 51 => 114 | n => n, fun | 1 => 2 | n => n⟩
theorem Tryd.laysM138 : Go.Proofs.LaysM.n138 Tryd.prog Tryd.laysM138_ren := {
  mixed := by kernel_rfl
  f138 := Tryd.func55.trans (congrArg some (by kernel_rfl))
  f143 := Tryd.func56.trans (congrArg some (by kernel_rfl))
  f195 := Tryd.func65.trans (congrArg some (by kernel_rfl))
  f217 := Tryd.func68.trans (congrArg some (by kernel_rfl))
  f218 := Tryd.func67.trans (congrArg some (by kernel_rfl))
  f219 := Tryd.func57.trans (congrArg some (by kernel_rfl))
  f224 := Tryd.func70.trans (congrArg some (by kernel_rfl))
  f225 := Tryd.func69.trans (congrArg some (by kernel_rfl))
  f266 := Tryd.func80.trans (congrArg some (by kernel_rfl))
  f267 := Tryd.func71.trans (congrArg some (by kernel_rfl))
  f314 := Tryd.func81.trans (congrArg some (by kernel_rfl))
  t0 := Tryd.underlying0
  a0 := Tryd.isAgg0
  z0 := Tryd.sizeOf0
  v0 := Tryd.zeroValue0
  t3 := Tryd.underlying3
  a3 := Tryd.isAgg3
  z3 := Tryd.sizeOf3
  v3 := Tryd.zeroValue3
  t4 := Tryd.underlying4
  a4 := Tryd.isAgg4
  z4 := Tryd.sizeOf4
  v4 := Tryd.zeroValue4
  t5 := Tryd.underlying5
  a5 := Tryd.isAgg5
  z5 := Tryd.sizeOf5
  v5 := Tryd.zeroValue5
  t9 := Tryd.underlying9
  a9 := Tryd.isAgg9
  z9 := Tryd.sizeOf9
  v9 := Tryd.zeroValue9
  t46 := Tryd.underlying34
  a46 := Tryd.isAgg34
  z46 := Tryd.sizeOf34
  v46 := Tryd.zeroValue34
  t51 := Tryd.underlying114
  a51 := Tryd.isAgg114
  z51 := Tryd.sizeOf114
  v51 := Tryd.zeroValue114
  t146 := Tryd.underlying123
  a146 := Tryd.isAgg123
  z146 := Tryd.sizeOf123
  v146 := Tryd.zeroValue123
  g1 := by kernel_rfl
  i0 := by kernel_rfl
  i3 := by kernel_rfl
  i4 := by kernel_rfl
  i5 := by kernel_rfl
  i9 := by kernel_rfl
  i46 := by kernel_rfl
  i51 := by kernel_rfl
  i146 := by kernel_rfl
  m1 := by kernel_rfl
  s1_3 := fun w h => Go.Proofs.cell_of_shapedOpen_int (zero := #[.int .i64 0]) (t := 3) h (of_decide_eq_true (by kernel_rfl)) (by kernel_rfl) rfl (by kernel_rfl) (by kernel_rfl) Tryd.underlying3 }
open Go.RowKit Go.Lib in
theorem Tryd.strings_Count_shaped (s sub : ByteArray) (w : World) (h : w.ShapedOpen Tryd.prog) (hs : s.size < 4294967281) (h2 : 2 ≤ sub.size) :
    Calls Tryd.prog 55 #[.string s, .string sub] w fun e w' => e = .returned (.int .i64 (Lib.countB s sub)) ∧ w' = w := Any.strings_Count_shaped Tryd.laysM138 s sub w h hs h2
def Tryd.lays206_ren : Go.Shelf.Ren := ⟨fun | 206 => 53 | n => n, fun | 9 => 9 | 4 => 4 | 3 => 3 | n => n, fun | n => n⟩
theorem Tryd.lays206 : Go.Proofs.Lays.n206 Tryd.prog Tryd.lays206_ren := {
  mixed := by kernel_rfl
  f206 := Tryd.func53.trans (congrArg some (by kernel_rfl))
  t3 := Tryd.underlying3
  a3 := Tryd.isAgg3
  z3 := Tryd.sizeOf3
  v3 := Tryd.zeroValue3
  t4 := Tryd.underlying4
  a4 := Tryd.isAgg4
  z4 := Tryd.sizeOf4
  v4 := Tryd.zeroValue4
  t9 := Tryd.underlying9
  a9 := Tryd.isAgg9
  z9 := Tryd.sizeOf9
  v9 := Tryd.zeroValue9 }
open Go.RowKit Go.Lib in
/-- internal/stringslite.HasPrefix (what strings.HasPrefix calls). (LAID: no walk: one application.) -/
theorem Tryd.stringslite_HasPrefix (s p : ByteArray) (w : World) :
    Calls Tryd.prog 53 #[.string s, .string p] w fun e w' => e = .returned (.bool (Lib.hasPrefix s.data.toList p.data.toList)) ∧ w' = w := Any.stringslite_HasPrefix Tryd.lays206 s p w
def Tryd.lays208_ren : Go.Shelf.Ren := ⟨fun | 208 => 44 | 206 => 53 | n => n, fun | 9 => 9 | 4 => 4 | 3 => 3 | n => n, fun | n => n⟩
theorem Tryd.lays208 : Go.Proofs.Lays.n208 Tryd.prog Tryd.lays208_ren := {
  mixed := by kernel_rfl
  f206 := Tryd.func53.trans (congrArg some (by kernel_rfl))
  f208 := Tryd.func44.trans (congrArg some (by kernel_rfl))
  t3 := Tryd.underlying3
  a3 := Tryd.isAgg3
  z3 := Tryd.sizeOf3
  v3 := Tryd.zeroValue3
  t4 := Tryd.underlying4
  a4 := Tryd.isAgg4
  z4 := Tryd.sizeOf4
  v4 := Tryd.zeroValue4
  t9 := Tryd.underlying9
  a9 := Tryd.isAgg9
  z9 := Tryd.sizeOf9
  v9 := Tryd.zeroValue9 }
open Go.RowKit Go.Lib in
/-- internal/stringslite.TrimPrefix (what strings.TrimPrefix calls). (LAID: no walk: one application.) -/
theorem Tryd.stringslite_TrimPrefix (s p : ByteArray) (w : World) :
    Calls Tryd.prog 44 #[.string s, .string p] w fun e w' => e = .returned (.string ⟨(Lib.trimPrefix s.data.toList p.data.toList).toArray⟩) ∧ w' = w := Any.stringslite_TrimPrefix Tryd.lays208 s p w
def Tryd.lays101_ren : Go.Shelf.Ren := ⟨fun | 101 => 34 | 208 => 44 | 206 => 53 | n => n, fun | 9 => 9 | 4 => 4 | 3 => 3 | n => n, fun | n => n⟩
theorem Tryd.lays101 : Go.Proofs.Lays.n101 Tryd.prog Tryd.lays101_ren := {
  mixed := by kernel_rfl
  f101 := Tryd.func34.trans (congrArg some (by kernel_rfl))
  f206 := Tryd.func53.trans (congrArg some (by kernel_rfl))
  f208 := Tryd.func44.trans (congrArg some (by kernel_rfl))
  t3 := Tryd.underlying3
  a3 := Tryd.isAgg3
  z3 := Tryd.sizeOf3
  v3 := Tryd.zeroValue3
  t4 := Tryd.underlying4
  a4 := Tryd.isAgg4
  z4 := Tryd.sizeOf4
  v4 := Tryd.zeroValue4
  t9 := Tryd.underlying9
  a9 := Tryd.isAgg9
  z9 := Tryd.sizeOf9
  v9 := Tryd.zeroValue9 }
open Go.RowKit Go.Lib in
/-- strings.TrimPrefix: "TrimPrefix returns s without the provided leading prefix string. If s doesn't start with prefix, s is returned unchanged.": IT RETURNS 'Lib.trimPrefix s prefix'; the world is as it was. (LAID: no walk: one application.) -/
theorem Tryd.strings_TrimPrefix (s p : ByteArray) (w : World) :
    Calls Tryd.prog 34 #[.string s, .string p] w fun e w' => e = .returned (.string ⟨(Lib.trimPrefix s.data.toList p.data.toList).toArray⟩) ∧ w' = w := Any.strings_TrimPrefix Tryd.lays101 s p w
open Go.RowKit Go.Lib in
/-- strings.Count at whatever sep that is not empty: the two roads under one statement. (LAID: no walk: one application.) -/
theorem Tryd.strings_Count_any (s sep : ByteArray) (m : Int) (w : World) (hs : s.size < 4294967281) (hm : w.cell? ⟨2, 0, none⟩ = some (.int .i64 m)) (h1 : 1 ≤ sep.size) :
    Calls Tryd.prog 55 #[.string s, .string sep] w fun e w' => e = .returned (.int .i64 (Lib.countB s sep)) ∧ w' = w := Any.strings_Count_any Tryd.lays138 s sep m w hs hm h1
def Tryd.lays221_ren : Go.Shelf.Ren := ⟨fun | 221 => 45 | 268 => 54 | 138 => 55 | 143 => 56 | 195 => 65 | 197 => 66 | 218 => 67 | 219 => 57 | 260 => 79 | 217 => 68 | 225 => 69 | 224 => 70 | 267 => 71 | 266 => 80 | 314 => 81 | n => n, fun | 9 => 9 | 3 => 3 | 31 => 22 | 4 => 4 | 0 => 0 | 105 => 108 | 21 => 21 | 5 => 5 | 46 => 34 | 119 => 126 | 139 => 129 | 138 => 128 | 146 => 123 | 51 => 114 | n => n, fun | 1 => 2 | 3 => 4 | 4 => 5 | n => n⟩
theorem Tryd.lays221 : Go.Proofs.Lays.n221 Tryd.prog Tryd.lays221_ren := {
  mixed := by kernel_rfl
  f138 := Tryd.func55.trans (congrArg some (by kernel_rfl))
  f143 := Tryd.func56.trans (congrArg some (by kernel_rfl))
  f195 := Tryd.func65.trans (congrArg some (by kernel_rfl))
  f197 := Tryd.func66.trans (congrArg some (by kernel_rfl))
  f217 := Tryd.func68.trans (congrArg some (by kernel_rfl))
  f218 := Tryd.func67.trans (congrArg some (by kernel_rfl))
  f219 := Tryd.func57.trans (congrArg some (by kernel_rfl))
  f221 := Tryd.func45.trans (congrArg some (by kernel_rfl))
  f224 := Tryd.func70.trans (congrArg some (by kernel_rfl))
  f225 := Tryd.func69.trans (congrArg some (by kernel_rfl))
  f260 := Tryd.func79.trans (congrArg some (by kernel_rfl))
  f266 := Tryd.func80.trans (congrArg some (by kernel_rfl))
  f267 := Tryd.func71.trans (congrArg some (by kernel_rfl))
  f268 := Tryd.func54.trans (congrArg some (by kernel_rfl))
  f314 := Tryd.func81.trans (congrArg some (by kernel_rfl))
  t0 := Tryd.underlying0
  a0 := Tryd.isAgg0
  z0 := Tryd.sizeOf0
  v0 := Tryd.zeroValue0
  t3 := Tryd.underlying3
  a3 := Tryd.isAgg3
  z3 := Tryd.sizeOf3
  v3 := Tryd.zeroValue3
  t4 := Tryd.underlying4
  a4 := Tryd.isAgg4
  z4 := Tryd.sizeOf4
  v4 := Tryd.zeroValue4
  t5 := Tryd.underlying5
  a5 := Tryd.isAgg5
  z5 := Tryd.sizeOf5
  v5 := Tryd.zeroValue5
  t9 := Tryd.underlying9
  a9 := Tryd.isAgg9
  z9 := Tryd.sizeOf9
  v9 := Tryd.zeroValue9
  t21 := Tryd.underlying21
  a21 := Tryd.isAgg21
  z21 := Tryd.sizeOf21
  v21 := Tryd.zeroValue21
  t31 := Tryd.underlying22
  a31 := Tryd.isAgg22
  z31 := Tryd.sizeOf22
  v31 := Tryd.zeroValue22
  t46 := Tryd.underlying34
  a46 := Tryd.isAgg34
  z46 := Tryd.sizeOf34
  v46 := Tryd.zeroValue34
  t51 := Tryd.underlying114
  a51 := Tryd.isAgg114
  z51 := Tryd.sizeOf114
  v51 := Tryd.zeroValue114
  t105 := Tryd.underlying108
  a105 := Tryd.isAgg108
  z105 := Tryd.sizeOf108
  v105 := Tryd.zeroValue108
  t119 := Tryd.underlying126
  a119 := Tryd.isAgg126
  z119 := Tryd.sizeOf126
  t138 := Tryd.underlying128
  a138 := Tryd.isAgg128
  z138 := Tryd.sizeOf128
  v138 := Tryd.zeroValue128
  t139 := Tryd.underlying129
  a139 := Tryd.isAgg129
  z139 := Tryd.sizeOf129
  v139 := Tryd.zeroValue129
  t146 := Tryd.underlying123
  a146 := Tryd.isAgg123
  z146 := Tryd.sizeOf123
  v146 := Tryd.zeroValue123
  g1 := by kernel_rfl
  g3 := by kernel_rfl
  g4 := by kernel_rfl }
open Go.RowKit Go.Lib in
theorem Tryd.strings_genSplit (s sep : ByteArray) (sv : Nat) (n : Int) (N : Nat) (m : Int) (w : World) (hs : s.size < 4294967281) (hm : w.cell? ⟨2, 0, none⟩ = some (.int .i64 m)) (h1 : 1 ≤ sep.size) (hsv : sv ≤ sep.size) (hn0 : n ≠ 0) (hn63 : n ≤ 9223372036854775807) (hN : (N : Int) = min (if n < 0 then (Lib.countB s sep : Int) + 1 else n) ((s.size : Int) + 1)) :
    Calls Tryd.prog 45 #[.string s, .string sep, .int .i64 sv, .int .i64 n] w fun e w' =>
      e = .returned (.slice (some ⟨w.heap.size, 0, none⟩) (Lib.splitB sep sv (N - 1) s).length N) ∧ w' = w.alloc (.cells (Lib.cellsOf (Lib.splitB sep sv (N - 1) s) N) 9) := Any.strings_genSplit Tryd.lays221 (by kernel_rfl) s sep sv n N m w hs hm h1 hsv hn0 hn63 hN
def Tryd.lays146_ren : Go.Shelf.Ren := ⟨fun | 146 => 35 | 221 => 45 | 268 => 54 | 138 => 55 | 143 => 56 | 195 => 65 | 197 => 66 | 218 => 67 | 219 => 57 | 260 => 79 | 217 => 68 | 225 => 69 | 224 => 70 | 267 => 71 | 266 => 80 | 314 => 81 | n => n, fun | 9 => 9 | 31 => 22 | 3 => 3 | 4 => 4 | 0 => 0 | 105 => 108 | 21 => 21 | 5 => 5 | 46 => 34 | 119 => 126 | 139 => 129 | 138 => 128 | 146 => 123 | 51 => 114 | n => n, fun | 1 => 2 | 3 => 4 | 4 => 5 | n => n⟩
theorem Tryd.lays146 : Go.Proofs.Lays.n146 Tryd.prog Tryd.lays146_ren := {
  mixed := by kernel_rfl
  f138 := Tryd.func55.trans (congrArg some (by kernel_rfl))
  f143 := Tryd.func56.trans (congrArg some (by kernel_rfl))
  f146 := Tryd.func35.trans (congrArg some (by kernel_rfl))
  f195 := Tryd.func65.trans (congrArg some (by kernel_rfl))
  f197 := Tryd.func66.trans (congrArg some (by kernel_rfl))
  f217 := Tryd.func68.trans (congrArg some (by kernel_rfl))
  f218 := Tryd.func67.trans (congrArg some (by kernel_rfl))
  f219 := Tryd.func57.trans (congrArg some (by kernel_rfl))
  f221 := Tryd.func45.trans (congrArg some (by kernel_rfl))
  f224 := Tryd.func70.trans (congrArg some (by kernel_rfl))
  f225 := Tryd.func69.trans (congrArg some (by kernel_rfl))
  f260 := Tryd.func79.trans (congrArg some (by kernel_rfl))
  f266 := Tryd.func80.trans (congrArg some (by kernel_rfl))
  f267 := Tryd.func71.trans (congrArg some (by kernel_rfl))
  f268 := Tryd.func54.trans (congrArg some (by kernel_rfl))
  f314 := Tryd.func81.trans (congrArg some (by kernel_rfl))
  t0 := Tryd.underlying0
  a0 := Tryd.isAgg0
  z0 := Tryd.sizeOf0
  v0 := Tryd.zeroValue0
  t3 := Tryd.underlying3
  a3 := Tryd.isAgg3
  z3 := Tryd.sizeOf3
  v3 := Tryd.zeroValue3
  t4 := Tryd.underlying4
  a4 := Tryd.isAgg4
  z4 := Tryd.sizeOf4
  v4 := Tryd.zeroValue4
  t5 := Tryd.underlying5
  a5 := Tryd.isAgg5
  z5 := Tryd.sizeOf5
  v5 := Tryd.zeroValue5
  t9 := Tryd.underlying9
  a9 := Tryd.isAgg9
  z9 := Tryd.sizeOf9
  v9 := Tryd.zeroValue9
  t21 := Tryd.underlying21
  a21 := Tryd.isAgg21
  z21 := Tryd.sizeOf21
  v21 := Tryd.zeroValue21
  t31 := Tryd.underlying22
  a31 := Tryd.isAgg22
  z31 := Tryd.sizeOf22
  v31 := Tryd.zeroValue22
  t46 := Tryd.underlying34
  a46 := Tryd.isAgg34
  z46 := Tryd.sizeOf34
  v46 := Tryd.zeroValue34
  t51 := Tryd.underlying114
  a51 := Tryd.isAgg114
  z51 := Tryd.sizeOf114
  v51 := Tryd.zeroValue114
  t105 := Tryd.underlying108
  a105 := Tryd.isAgg108
  z105 := Tryd.sizeOf108
  v105 := Tryd.zeroValue108
  t119 := Tryd.underlying126
  a119 := Tryd.isAgg126
  z119 := Tryd.sizeOf126
  t138 := Tryd.underlying128
  a138 := Tryd.isAgg128
  z138 := Tryd.sizeOf128
  v138 := Tryd.zeroValue128
  t139 := Tryd.underlying129
  a139 := Tryd.isAgg129
  z139 := Tryd.sizeOf129
  v139 := Tryd.zeroValue129
  t146 := Tryd.underlying123
  a146 := Tryd.isAgg123
  z146 := Tryd.sizeOf123
  v146 := Tryd.zeroValue123
  g1 := by kernel_rfl
  g3 := by kernel_rfl
  g4 := by kernel_rfl }
open Go.RowKit Go.Lib in
/-- strings.Split. (LAID: no walk: one application.) -/
theorem Tryd.strings_Split (s sep : ByteArray) (m : Int) (w : World) (hs : s.size < 4294967281) (hm : w.cell? ⟨2, 0, none⟩ = some (.int .i64 m)) (h1 : 1 ≤ sep.size) :
    Calls Tryd.prog 35 #[.string s, .string sep] w fun e w' =>
      e = .returned (.slice (some ⟨w.heap.size, 0, none⟩) (Lib.countB s sep + 1) (Lib.countB s sep + 1)) ∧ w' = w.alloc (.cells ((Lib.splitB sep 0 (Lib.countB s sep) s).map Value.string).toArray 9) := Any.strings_Split Tryd.lays146 (by kernel_rfl) s sep m w hs hm h1
def Tryd.laysM146_ren : Go.Shelf.Ren := ⟨fun | 146 => 35 | 221 => 45 | 268 => 54 | 138 => 55 | 143 => 56 | 195 => 65 | 197 => 66 | 218 => 67 | 219 => 57 | 260 => 79 | 217 => 68 | 225 => 69 | 224 => 70 | 267 => 71 | 266 => 80 | 314 => 81 | n => n, fun | 9 => 9 | 31 => 22 | 3 => 3 | 4 => 4 | 0 => 0 | 105 => 108 | 21 => 21 | 5 => 5 | 46 => 34 | 119 => 126 | 139 => 129 | 138 => 128 | 146 => 123 | 51 => 114 | n => n, fun | 1 => 2 | 3 => 4 | 4 => 5 | n => n⟩
theorem Tryd.laysM146 : Go.Proofs.LaysM.n146 Tryd.prog Tryd.laysM146_ren := {
  mixed := by kernel_rfl
  f138 := Tryd.func55.trans (congrArg some (by kernel_rfl))
  f143 := Tryd.func56.trans (congrArg some (by kernel_rfl))
  f146 := Tryd.func35.trans (congrArg some (by kernel_rfl))
  f195 := Tryd.func65.trans (congrArg some (by kernel_rfl))
  f197 := Tryd.func66.trans (congrArg some (by kernel_rfl))
  f217 := Tryd.func68.trans (congrArg some (by kernel_rfl))
  f218 := Tryd.func67.trans (congrArg some (by kernel_rfl))
  f219 := Tryd.func57.trans (congrArg some (by kernel_rfl))
  f221 := Tryd.func45.trans (congrArg some (by kernel_rfl))
  f224 := Tryd.func70.trans (congrArg some (by kernel_rfl))
  f225 := Tryd.func69.trans (congrArg some (by kernel_rfl))
  f260 := Tryd.func79.trans (congrArg some (by kernel_rfl))
  f266 := Tryd.func80.trans (congrArg some (by kernel_rfl))
  f267 := Tryd.func71.trans (congrArg some (by kernel_rfl))
  f268 := Tryd.func54.trans (congrArg some (by kernel_rfl))
  f314 := Tryd.func81.trans (congrArg some (by kernel_rfl))
  t0 := Tryd.underlying0
  a0 := Tryd.isAgg0
  z0 := Tryd.sizeOf0
  v0 := Tryd.zeroValue0
  t3 := Tryd.underlying3
  a3 := Tryd.isAgg3
  z3 := Tryd.sizeOf3
  v3 := Tryd.zeroValue3
  t4 := Tryd.underlying4
  a4 := Tryd.isAgg4
  z4 := Tryd.sizeOf4
  v4 := Tryd.zeroValue4
  t5 := Tryd.underlying5
  a5 := Tryd.isAgg5
  z5 := Tryd.sizeOf5
  v5 := Tryd.zeroValue5
  t9 := Tryd.underlying9
  a9 := Tryd.isAgg9
  z9 := Tryd.sizeOf9
  v9 := Tryd.zeroValue9
  t21 := Tryd.underlying21
  a21 := Tryd.isAgg21
  z21 := Tryd.sizeOf21
  v21 := Tryd.zeroValue21
  t31 := Tryd.underlying22
  a31 := Tryd.isAgg22
  z31 := Tryd.sizeOf22
  v31 := Tryd.zeroValue22
  t46 := Tryd.underlying34
  a46 := Tryd.isAgg34
  z46 := Tryd.sizeOf34
  v46 := Tryd.zeroValue34
  t51 := Tryd.underlying114
  a51 := Tryd.isAgg114
  z51 := Tryd.sizeOf114
  v51 := Tryd.zeroValue114
  t105 := Tryd.underlying108
  a105 := Tryd.isAgg108
  z105 := Tryd.sizeOf108
  v105 := Tryd.zeroValue108
  t119 := Tryd.underlying126
  a119 := Tryd.isAgg126
  z119 := Tryd.sizeOf126
  t138 := Tryd.underlying128
  a138 := Tryd.isAgg128
  z138 := Tryd.sizeOf128
  v138 := Tryd.zeroValue128
  t139 := Tryd.underlying129
  a139 := Tryd.isAgg129
  z139 := Tryd.sizeOf129
  v139 := Tryd.zeroValue129
  t146 := Tryd.underlying123
  a146 := Tryd.isAgg123
  z146 := Tryd.sizeOf123
  v146 := Tryd.zeroValue123
  g1 := by kernel_rfl
  g3 := by kernel_rfl
  g4 := by kernel_rfl
  i0 := by kernel_rfl
  i3 := by kernel_rfl
  i4 := by kernel_rfl
  i5 := by kernel_rfl
  i9 := by kernel_rfl
  i21 := by kernel_rfl
  i31 := by kernel_rfl
  i46 := by kernel_rfl
  i51 := by kernel_rfl
  i105 := by kernel_rfl
  i138 := by kernel_rfl
  i139 := by kernel_rfl
  i146 := by kernel_rfl
  m1 := by kernel_rfl
  s1_3 := fun w h => Go.Proofs.cell_of_shapedOpen_int (zero := #[.int .i64 0]) (t := 3) h (of_decide_eq_true (by kernel_rfl)) (by kernel_rfl) rfl (by kernel_rfl) (by kernel_rfl) Tryd.underlying3
  m3 := by kernel_rfl
  m4 := by kernel_rfl }
open Go.RowKit Go.Lib in
/-- strings.Split, sep not empty. (LAID: no walk: one application.) -/
theorem Tryd.strings_Split_shaped (s sep : ByteArray) (w : World) (h : w.ShapedOpen Tryd.prog) (hs : s.size < 4294967281) (h1 : 1 ≤ sep.size) :
    Calls Tryd.prog 35 #[.string s, .string sep] w fun e w' =>
      e = .returned (.slice (some ⟨w.heap.size, 0, none⟩) (Lib.countB s sep + 1) (Lib.countB s sep + 1)) ∧ w' = w.alloc (.cells ((Lib.splitB sep 0 (Lib.countB s sep) s).map Value.string).toArray 9) := Any.strings_Split_shaped Tryd.laysM146 s sep w h hs h1
def Tryd.lays197_ren : Go.Shelf.Ren := ⟨fun | 197 => 66 | 260 => 79 | n => n, fun | 9 => 9 | 21 => 21 | 3 => 3 | 4 => 4 | 5 => 5 | 105 => 108 | 119 => 126 | 0 => 0 | 46 => 34 | 139 => 129 | 138 => 128 | n => n, fun | 3 => 4 | 4 => 5 | n => n⟩
theorem Tryd.lays197 : Go.Proofs.Lays.n197 Tryd.prog Tryd.lays197_ren := {
  mixed := by kernel_rfl
  f197 := Tryd.func66.trans (congrArg some (by kernel_rfl))
  f260 := Tryd.func79.trans (congrArg some (by kernel_rfl))
  t0 := Tryd.underlying0
  a0 := Tryd.isAgg0
  z0 := Tryd.sizeOf0
  v0 := Tryd.zeroValue0
  t3 := Tryd.underlying3
  a3 := Tryd.isAgg3
  z3 := Tryd.sizeOf3
  v3 := Tryd.zeroValue3
  t4 := Tryd.underlying4
  a4 := Tryd.isAgg4
  z4 := Tryd.sizeOf4
  v4 := Tryd.zeroValue4
  t5 := Tryd.underlying5
  a5 := Tryd.isAgg5
  z5 := Tryd.sizeOf5
  v5 := Tryd.zeroValue5
  t9 := Tryd.underlying9
  a9 := Tryd.isAgg9
  z9 := Tryd.sizeOf9
  v9 := Tryd.zeroValue9
  t21 := Tryd.underlying21
  a21 := Tryd.isAgg21
  z21 := Tryd.sizeOf21
  v21 := Tryd.zeroValue21
  t46 := Tryd.underlying34
  a46 := Tryd.isAgg34
  z46 := Tryd.sizeOf34
  v46 := Tryd.zeroValue34
  t105 := Tryd.underlying108
  a105 := Tryd.isAgg108
  z105 := Tryd.sizeOf108
  v105 := Tryd.zeroValue108
  t119 := Tryd.underlying126
  a119 := Tryd.isAgg126
  z119 := Tryd.sizeOf126
  t138 := Tryd.underlying128
  a138 := Tryd.isAgg128
  z138 := Tryd.sizeOf128
  v138 := Tryd.zeroValue128
  t139 := Tryd.underlying129
  a139 := Tryd.isAgg129
  z139 := Tryd.sizeOf129
  v139 := Tryd.zeroValue129
  g3 := by kernel_rfl
  g4 := by kernel_rfl }
open Go.RowKit Go.Lib in
/-- unicode/utf8.DecodeRuneInString: "DecodeRuneInString is like DecodeRune but its input is a string.": ("DecodeRune unpacks the first UTF-8 encoding in p and returns the rune and its width in bytes."): WHERE s BEGINS WITH AN ASCII BYTE x: (x, 1). (LAID: no walk: one application.) -/
theorem Tryd.utf8_DecodeRuneInString_ascii (s : ByteArray) (x : UInt8) (w : World) (h0 : s.data.toList[0]? = some x) (hx : x.toNat < 128) :
    Calls Tryd.prog 66 #[.string s] w fun e w' => e = .returned (.tuple #[.int .i32 x.toNat, .int .i64 1]) ∧ w' = w := Any.utf8_DecodeRuneInString_ascii Tryd.lays197 s x w h0 hx
open Go.RowKit Go.Lib in
theorem Tryd.utf8_RuneCountInString_ascii (s : ByteArray) (w : World) (hs : s.size < 4294967281) (hascii : ∀ (j : Nat) b, s.data.toList[j]? = some b → b.toNat < 128) :
    Calls Tryd.prog 65 #[.string s] w fun e w' => e = .returned (.int .i64 s.size) ∧ w' = w.iter s s.size := Any.utf8_RuneCountInString_ascii Tryd.lays195 s w hs hascii
def Tryd.lays268_ren : Go.Shelf.Ren := ⟨fun | 268 => 54 | 195 => 65 | 197 => 66 | 260 => 79 | n => n, fun | 9 => 9 | 3 => 3 | 31 => 22 | 4 => 4 | 105 => 108 | 21 => 21 | 0 => 0 | 5 => 5 | 119 => 126 | 46 => 34 | 139 => 129 | 138 => 128 | n => n, fun | 3 => 4 | 4 => 5 | n => n⟩
theorem Tryd.lays268 : Go.Proofs.Lays.n268 Tryd.prog Tryd.lays268_ren := {
  mixed := by kernel_rfl
  f195 := Tryd.func65.trans (congrArg some (by kernel_rfl))
  f197 := Tryd.func66.trans (congrArg some (by kernel_rfl))
  f260 := Tryd.func79.trans (congrArg some (by kernel_rfl))
  f268 := Tryd.func54.trans (congrArg some (by kernel_rfl))
  t0 := Tryd.underlying0
  a0 := Tryd.isAgg0
  z0 := Tryd.sizeOf0
  v0 := Tryd.zeroValue0
  t3 := Tryd.underlying3
  a3 := Tryd.isAgg3
  z3 := Tryd.sizeOf3
  v3 := Tryd.zeroValue3
  t4 := Tryd.underlying4
  a4 := Tryd.isAgg4
  z4 := Tryd.sizeOf4
  v4 := Tryd.zeroValue4
  t5 := Tryd.underlying5
  a5 := Tryd.isAgg5
  z5 := Tryd.sizeOf5
  v5 := Tryd.zeroValue5
  t9 := Tryd.underlying9
  a9 := Tryd.isAgg9
  z9 := Tryd.sizeOf9
  v9 := Tryd.zeroValue9
  t21 := Tryd.underlying21
  a21 := Tryd.isAgg21
  z21 := Tryd.sizeOf21
  v21 := Tryd.zeroValue21
  t31 := Tryd.underlying22
  a31 := Tryd.isAgg22
  z31 := Tryd.sizeOf22
  v31 := Tryd.zeroValue22
  t46 := Tryd.underlying34
  a46 := Tryd.isAgg34
  z46 := Tryd.sizeOf34
  v46 := Tryd.zeroValue34
  t105 := Tryd.underlying108
  a105 := Tryd.isAgg108
  z105 := Tryd.sizeOf108
  v105 := Tryd.zeroValue108
  t119 := Tryd.underlying126
  a119 := Tryd.isAgg126
  z119 := Tryd.sizeOf126
  t138 := Tryd.underlying128
  a138 := Tryd.isAgg128
  z138 := Tryd.sizeOf128
  v138 := Tryd.zeroValue128
  t139 := Tryd.underlying129
  a139 := Tryd.isAgg129
  z139 := Tryd.sizeOf129
  v139 := Tryd.zeroValue129
  g3 := by kernel_rfl
  g4 := by kernel_rfl }
open Go.RowKit Go.Lib in
theorem Tryd.strings_explode_all (s : ByteArray) (n : Int) (w : World) (hn : n < 0) (hs : s.size < 4294967281) (hascii : ∀ (j : Nat) b, s.data.toList[j]? = some b → b.toNat < 128) :
    Calls Tryd.prog 54 #[.string s, .int .i64 n] w fun e w' =>
      e = .returned (.slice (some ⟨(w.iter s s.size).heap.size, 0, none⟩) s.size s.size) ∧ w' = (w.iter s s.size).alloc (.cells ((Lib.charsB s).map Value.string).toArray 9) := Any.strings_explode_all Tryd.lays268 (by kernel_rfl) s n w hn hs hascii
open Go.RowKit Go.Lib in
/-- strings.genSplit at sep == "", n < 0: 'return explode(s, n)'. (LAID: no walk: one application.) -/
theorem Tryd.strings_genSplit_chars (s sep : ByteArray) (sv n : Int) (w : World) (h0 : sep.size = 0) (hn : n < 0) (hs : s.size < 4294967281) (hascii : ∀ (j : Nat) b, s.data.toList[j]? = some b → b.toNat < 128) :
    Calls Tryd.prog 45 #[.string s, .string sep, .int .i64 sv, .int .i64 n] w fun e w' =>
      e = .returned (.slice (some ⟨(w.iter s s.size).heap.size, 0, none⟩) s.size s.size) ∧ w' = (w.iter s s.size).alloc (.cells ((Lib.charsB s).map Value.string).toArray 9) := Any.strings_genSplit_chars Tryd.lays221 (by kernel_rfl) s sep sv n w h0 hn hs hascii
open Go.RowKit Go.Lib in
/-- strings.Split(s, ""), s ASCII: a piece a byte. (LAID: no walk: one application.) -/
theorem Tryd.strings_Split_chars (s sep : ByteArray) (w : World) (h0 : sep.size = 0) (hs : s.size < 4294967281) (hascii : ∀ (j : Nat) b, s.data.toList[j]? = some b → b.toNat < 128) :
    Calls Tryd.prog 35 #[.string s, .string sep] w fun e w' =>
      e = .returned (.slice (some ⟨(w.iter s s.size).heap.size, 0, none⟩) s.size s.size) ∧ w' = (w.iter s s.size).alloc (.cells ((Lib.charsB s).map Value.string).toArray 9) := Any.strings_Split_chars Tryd.lays146 (by kernel_rfl) s sep w h0 hs hascii
def Tryd.lays260_ren : Go.Shelf.Ren := ⟨fun | 260 => 79 | n => n, fun | 9 => 9 | 21 => 21 | 3 => 3 | 4 => 4 | 5 => 5 | 119 => 126 | 0 => 0 | 46 => 34 | 139 => 129 | 138 => 128 | n => n, fun | 3 => 4 | 4 => 5 | n => n⟩
theorem Tryd.lays260 : Go.Proofs.Lays.n260 Tryd.prog Tryd.lays260_ren := {
  mixed := by kernel_rfl
  f260 := Tryd.func79.trans (congrArg some (by kernel_rfl))
  t0 := Tryd.underlying0
  a0 := Tryd.isAgg0
  z0 := Tryd.sizeOf0
  v0 := Tryd.zeroValue0
  t3 := Tryd.underlying3
  a3 := Tryd.isAgg3
  z3 := Tryd.sizeOf3
  v3 := Tryd.zeroValue3
  t4 := Tryd.underlying4
  a4 := Tryd.isAgg4
  z4 := Tryd.sizeOf4
  v4 := Tryd.zeroValue4
  t5 := Tryd.underlying5
  a5 := Tryd.isAgg5
  z5 := Tryd.sizeOf5
  v5 := Tryd.zeroValue5
  t9 := Tryd.underlying9
  a9 := Tryd.isAgg9
  z9 := Tryd.sizeOf9
  v9 := Tryd.zeroValue9
  t21 := Tryd.underlying21
  a21 := Tryd.isAgg21
  z21 := Tryd.sizeOf21
  v21 := Tryd.zeroValue21
  t46 := Tryd.underlying34
  a46 := Tryd.isAgg34
  z46 := Tryd.sizeOf34
  v46 := Tryd.zeroValue34
  t119 := Tryd.underlying126
  a119 := Tryd.isAgg126
  z119 := Tryd.sizeOf126
  t138 := Tryd.underlying128
  a138 := Tryd.isAgg128
  z138 := Tryd.sizeOf128
  v138 := Tryd.zeroValue128
  t139 := Tryd.underlying129
  a139 := Tryd.isAgg129
  z139 := Tryd.sizeOf129
  v139 := Tryd.zeroValue129
  g3 := by kernel_rfl
  g4 := by kernel_rfl }
open Go.RowKit Go.Lib in
theorem Tryd.utf8_decodeRuneInStringSlow (s : ByteArray) (w : World) (hT : Lib.Utf8Tabs 4 5 w) :
    Calls Tryd.prog 79 #[.string s] w fun e w' => e = .returned (.tuple #[.int .i32 (Lib.decodeGo s).1, .int .i64 (Lib.decodeGo s).2]) ∧ Below w.heap.size w w' := Any.utf8_decodeRuneInStringSlow Tryd.lays260 s w hT
open Go.RowKit Go.Lib in
/-- **unicode/utf8.DecodeRuneInString AT EVERY STRING.** (LAID: no walk: one application.) -/
theorem Tryd.utf8_DecodeRuneInString (s : ByteArray) (w : World) (hT : Lib.Utf8Tabs 4 5 w) :
    Calls Tryd.prog 66 #[.string s] w fun e w' => e = .returned (.tuple #[.int .i32 (Lib.decodeGo s).1, .int .i64 (Lib.decodeGo s).2]) ∧ Below w.heap.size w w' := Any.utf8_DecodeRuneInString Tryd.lays197 s w hT
def Tryd.lays229_ren : Go.Shelf.Ren := ⟨fun | 229 => 37 | n => n, fun | 9 => 9 | 40 => 52 | 31 => 22 | 152 => 83 | 3 => 3 | 0 => 0 | 4 => 4 | 21 => 21 | 154 => 85 | n => n, fun | n => n⟩
theorem Tryd.lays229 : Go.Proofs.Lays.n229 Tryd.prog Tryd.lays229_ren := {
  mixed := by kernel_rfl
  f229 := Tryd.func37.trans (congrArg some (by kernel_rfl))
  t0 := Tryd.underlying0
  a0 := Tryd.isAgg0
  z0 := Tryd.sizeOf0
  v0 := Tryd.zeroValue0
  t3 := Tryd.underlying3
  a3 := Tryd.isAgg3
  z3 := Tryd.sizeOf3
  v3 := Tryd.zeroValue3
  t4 := Tryd.underlying4
  a4 := Tryd.isAgg4
  z4 := Tryd.sizeOf4
  v4 := Tryd.zeroValue4
  t9 := Tryd.underlying9
  a9 := Tryd.isAgg9
  z9 := Tryd.sizeOf9
  v9 := Tryd.zeroValue9
  t21 := Tryd.underlying21
  a21 := Tryd.isAgg21
  z21 := Tryd.sizeOf21
  v21 := Tryd.zeroValue21
  t31 := Tryd.underlying22
  a31 := Tryd.isAgg22
  z31 := Tryd.sizeOf22
  v31 := Tryd.zeroValue22
  t40 := Tryd.underlying52
  a40 := Tryd.isAgg52
  z40 := Tryd.sizeOf52
  v40 := Tryd.zeroValue52
  t152 := Tryd.underlying83
  a152 := Tryd.isAgg83
  z152 := Tryd.sizeOf83
  v152 := Tryd.zeroValue83
  t154 := Tryd.underlying85
  a154 := Tryd.isAgg85
  z154 := Tryd.sizeOf85
  v154 := Tryd.zeroValue85 }
open Go.RowKit Go.Lib in
theorem Tryd.strings_FieldsFunc_runes (g : Nat) (lb : Array Value) (eg : ∀ args w, (callFunc g args).run Tryd.prog w = .ok (.enter g args) w) (p : Nat → Bool) (s : ByteArray) (w : World) (hs : s.size ≤ 4294967296) (hp : PredAtRunes Tryd.prog g lb p w) :
    Calls Tryd.prog 37 #[.string s, .func (.func g) #[] lb] w fun e w' => ∃ A, e = .returned (.slice (some ⟨A, 0, none⟩) (Lib.goFieldsP p s).length (Lib.goFieldsP p s).length) ∧ w.heap.size ≤ A ∧
      w'.ownsRow w.heap.size 9 1 (.slice (some ⟨A, 0, none⟩) (Lib.goFieldsP p s).length (Lib.goFieldsP p s).length) (Lib.goFieldsP p s).length ((Lib.goFieldsP p s).map Value.string) ∧ Below w.heap.size w w' := Any.strings_FieldsFunc_runes Tryd.lays229 g lb eg p s w hs hp (by kernel_rfl) (by kernel_rfl)
open Go.RowKit Go.Lib in
/-- .. over a hand of the authors' house's premise as it stands. (LAID: no walk: one application.) -/
theorem Tryd.strings_FieldsFunc (g : Nat) (lb : Array Value) (eg : ∀ args w, (callFunc g args).run Tryd.prog w = .ok (.enter g args) w) (p : Nat → Bool) (s : ByteArray) (w : World) (hs : s.size ≤ 4294967296) (hp : PredAt Tryd.prog g lb encR p w) :
    Calls Tryd.prog 37 #[.string s, .func (.func g) #[] lb] w fun e w' => ∃ A, e = .returned (.slice (some ⟨A, 0, none⟩) (Lib.goFieldsP p s).length (Lib.goFieldsP p s).length) ∧ w.heap.size ≤ A ∧
      w'.ownsRow w.heap.size 9 1 (.slice (some ⟨A, 0, none⟩) (Lib.goFieldsP p s).length (Lib.goFieldsP p s).length) (Lib.goFieldsP p s).length ((Lib.goFieldsP p s).map Value.string) ∧ Below w.heap.size w w' := Any.strings_FieldsFunc Tryd.lays229 g lb eg p s w hs hp (by kernel_rfl) (by kernel_rfl)
open Go.RowKit Go.Lib in
theorem Tryd.strings_FieldsFunc_grows (g : Nat) (lb : Array Value) (eg : ∀ args w, (callFunc g args).run Tryd.prog w = .ok (.enter g args) w) (p : Nat → Bool) (s : ByteArray) (w : World) (hs : s.size ≤ 4294967296) (hp : PredGrows Tryd.prog g lb p w) :
    Calls Tryd.prog 37 #[.string s, .func (.func g) #[] lb] w fun e w' => ∃ A, e = .returned (.slice (some ⟨A, 0, none⟩) (Lib.goFieldsP p s).length (Lib.goFieldsP p s).length) ∧ w.heap.size ≤ A ∧
      w'.ownsRow w.heap.size 9 1 (.slice (some ⟨A, 0, none⟩) (Lib.goFieldsP p s).length (Lib.goFieldsP p s).length) (Lib.goFieldsP p s).length ((Lib.goFieldsP p s).map Value.string) ∧ Below w.heap.size w w' := Any.strings_FieldsFunc_grows Tryd.lays229 g lb eg p s w hs hp (by kernel_rfl) (by kernel_rfl)
end Go.Proofs
/-
Words of a text: the library's functions off the shelf.
-/
set_option linter.unusedSimpArgs false
set_option linter.unusedVariables false
namespace Go.Proofs.YtljlfmmhoceihaaDoor
open Go.RowKit Ax
theorem cf_split (xs : Array Value) (w : World) : (callFunc 35 xs).run Tryd.prog w = .ok (.enter 35 xs) w := by kernel_rfl
theorem cf_cut (xs : Array Value) (w : World) : (callFunc 36 xs).run Tryd.prog w = .ok (.enter 36 xs) w := by kernel_rfl
theorem cf_trimp (xs : Array Value) (w : World) : (callFunc 34 xs).run Tryd.prog w = .ok (.enter 34 xs) w := by kernel_rfl
theorem cf_atoi (xs : Array Value) (w : World) : (callFunc 33 xs).run Tryd.prog w = .ok (.enter 33 xs) w := by kernel_rfl
theorem cf_itoa (xs : Array Value) (w : World) : (callFunc 30 xs).run Tryd.prog w = .ok (.enter 30 xs) w := by kernel_rfl
theorem g_cell {w : World} {R : Nat → Prop} (h : GlobAt w R) {nm : String} {p : Array Value → Prop} (hm : (nm, p) ∈ gfacts) {g : Nat} (hg : Tryd.prog.globalNamed nm = some g) : ∃ cs t z, w.heap[g]? = some (.cells cs t z) ∧ p cs := (h (nm, p) hm g hg).2
theorem g_max {w : World} {R : Nat → Prop} (h : GlobAt w R) : ∃ m, w.cell? ⟨2, 0, none⟩ = some (.int .i64 m) := by
  obtain ⟨cs, t, z, h1, m, rfl⟩ := g_cell h (nm := "internal/bytealg.MaxLen") (by unfold gfacts; exact .tail _ (.tail _ (.head _))) (g := 2) (by kernel_rfl)
  refine ⟨m, ?_⟩
  unfold World.cell?
  rw [show ((⟨2, 0, none⟩ : Addr).block) = 2 from rfl, h1]
  rfl
theorem g_syn {w : World} {R : Nat → Prop} (h : GlobAt w R) : ∃ te pe, w.cell? ⟨0, 0, none⟩ = some (.iface te pe) := by
  obtain ⟨cs, t, z, h1, te, pe, rfl⟩ := g_cell h (nm := "strconv.ErrSyntax") (by unfold gfacts; exact .head _) (g := 0) (by kernel_rfl)
  refine ⟨te, pe, ?_⟩
  unfold World.cell?
  rw [show ((⟨0, 0, none⟩ : Addr).block) = 0 from rfl, h1]
  rfl
theorem g_ran {w : World} {R : Nat → Prop} (h : GlobAt w R) : ∃ te pe, w.cell? ⟨1, 0, none⟩ = some (.iface te pe) := by
  obtain ⟨cs, t, z, h1, te, pe, rfl⟩ := g_cell h (nm := "strconv.ErrRange") (by unfold gfacts; exact .tail _ (.head _)) (g := 1) (by kernel_rfl)
  refine ⟨te, pe, ?_⟩
  unfold World.cell?
  rw [show ((⟨1, 0, none⟩ : Addr).block) = 1 from rfl, h1]
  rfl
theorem g_pow {w : World} {R : Nat → Prop} (h : GlobAt w R) : Lib.TabIs Tryd.prog w "internal/strconv.uint64pow10" .u64 Lib.pow10Tab := by
  obtain ⟨cs, t, z, h1, rfl⟩ := g_cell h (nm := "internal/strconv.uint64pow10") (by unfold gfacts; exact .tail _ (.tail _ (.tail _ (.head _)))) (g := 3) (by kernel_rfl)
  unfold Lib.TabIs World.var?
  rw [show Tryd.prog.globalNamed "internal/strconv.uint64pow10" = some 3 by kernel_rfl]
  show (match w.heap[3]? with | some (.cells cs _ _) => some cs | _ => none) = _
  rw [h1]
  rfl
def splitL (s sep : ByteArray) : List ByteArray := Lib.splitB sep 0 (Lib.countB s sep) s
noncomputable def con_split : Con Tryd.prog := ⟨35, [], _, cf_split, lib_con dec2s (fun x => .need (1 ≤ x.2.size ∧ x.1.size < 4294967281) (.ret (.one (.ds .str (splitL x.1 x.2))))) fun x args vs w R σ Q hd hl ha hg hQ => by
  obtain ⟨s, sep⟩ := x
  have hv := dec2s_ok hd hl ha
  subst hv
  obtain ⟨⟨h1, h2⟩, hQ⟩ := hQ
  obtain ⟨m, hm⟩ := g_max hg
  have hlen : (splitL s sep).length = Lib.countB s sep + 1 := Lib.splitB_all sep h1 0 _ s rfl
  refine ⟨_, hQ, (Tryd.strings_Split s sep m w h2 hm h1).mono fun e w' hr => ?_⟩
  obtain ⟨rfl, rfl⟩ := hr
  refine ⟨_, rfl, (keep_alloc w [] _).below, ?_⟩
  rw [← hlen]
  refine ds_strs (R := fun b => w.heap.size ≤ b ∧ b < (w.alloc _).heap.size) ⟨Nat.le_refl _, by simp⟩ (Nat.le_refl _) (heap_alloc_new w _) ?_
  rw [List.take_of_length_le (by rw [List.length_map]; exact Nat.le_refl _)]
  rfl⟩
noncomputable def con_trimp : Con Tryd.prog := ⟨34, [], _, cf_trimp, lib_con dec2s (fun x => .ret (.one (.v (.string ⟨(Lib.trimPrefix x.1.data.toList x.2.data.toList).toArray⟩)))) fun x args vs w R σ Q hd hl ha hg hQ => by
  obtain ⟨s, p⟩ := x
  have hv := dec2s_ok hd hl ha
  subst hv
  refine ⟨_, hQ, (Tryd.strings_TrimPrefix s p w).mono fun e w' hr => ?_⟩
  obtain ⟨rfl, rfl⟩ := hr
  exact ⟨_, rfl, Below.refl _ _, .val rfl⟩⟩
noncomputable def con_cut : Con Tryd.prog := ⟨36, [], _, cf_cut, lib_con dec2s (fun x => .need (x.1.size < 4294967281) (.ret (.tup [.one (.v (.string ⟨(Lib.cut x.1.data.toList x.2.data.toList).1.toArray⟩)), .one (.v (.string ⟨(Lib.cut x.1.data.toList x.2.data.toList).2.1.toArray⟩)), .one (.v (.bool (Lib.cut x.1.data.toList x.2.data.toList).2.2))]))) fun x args vs w R σ Q hd hl ha hg hQ => by
  obtain ⟨s, p⟩ := x
  have hv := dec2s_ok hd hl ha
  subst hv
  obtain ⟨h2, hQ⟩ := hQ
  obtain ⟨m, hm⟩ := g_max hg
  refine ⟨_, hQ, (Tryd.strings_Cut s p m w h2 hm).mono fun e w' hr => ?_⟩
  obtain ⟨rfl, n, rfl⟩ := hr
  refine ⟨_, rfl, below_drewNg w n, .tup [_, _, _] rfl fun i a u hi hu => ?_⟩
  match i, hi, hu with
  | 0, rfl, rfl => exact .val rfl
  | 1, rfl, rfl => exact .val rfl
  | 2, rfl, rfl => exact .val rfl⟩
open Go.Sort in
theorem below_grow (w : World) (os : Array Obj) : Below w.heap.size w (grow w os) := ⟨rfl, rfl, rfl, by simp [grow], fun k hk => by
  show (w.heap ++ os)[k]? = w.heap[k]?
  exact Array.getElem?_append_left hk⟩
noncomputable def con_itoa : Con Tryd.prog := ⟨30, [], _, cf_itoa, lib_con dec1i (fun x => .need (-9223372036854775808 ≤ x ∧ x ≤ 9223372036854775807) (.ret (.one (.v (.string ⟨(Lib.itoa x).toArray⟩))))) fun x args vs w R σ Q hd hl ha hg hQ => by
  have hv := dec1i_ok hd hl ha
  subst hv
  obtain ⟨⟨h1, h2⟩, hQ⟩ := hQ
  refine ⟨_, hQ, (Tryd.strconv_Itoa x h1 h2 w (g_pow hg)).mono fun e w' hr => ?_⟩
  obtain ⟨rfl, k, os, rfl⟩ := hr
  refine ⟨_, rfl, (below_drewNg w k).trans ?_, .val rfl⟩
  exact (below_grow (w.drewN k) os).mono (below_drewNg w k).size⟩
end Go.Proofs.YtljlfmmhoceihaaDoor
/-
Words of a text: strconv.Atoi off the shelf; the first environment.
-/
set_option linter.unusedSimpArgs false
set_option linter.unusedVariables false
namespace Go.Proofs.YtljlfmmhoceihaaDoor
open Go.RowKit Ax
def atoiB (s : ByteArray) : Bool := match Lib.atoiAll s.data.toList with | .ok _ => true | _ => false
def atoiV (s : ByteArray) : Int := match Lib.atoiAll s.data.toList with | .ok v => v | _ => 0
theorem ni_tup {w : World} {R : Nat → Prop} {z : Int} {t : TypeId} {v : Value} : AvIs w R [] (.tup [.any, .one .ni]) (.tuple #[.int .i64 z, .iface t v]) :=
  .tup [_, _] rfl fun i a u hi hu => by
    match i, hi, hu with
    | 0, rfl, rfl => exact .any
    | 1, rfl, rfl => exact .one rfl (.ni t v .nil)
noncomputable def con_atoi : Con Tryd.prog := ⟨33, [], _, cf_atoi, lib_con dec1s (fun x => .need (x.size ≤ 281474976710656) (.ite (atoiB x) (.ret (.tup [.one (.v (.int .i64 (atoiV x))), .one (.v .nilIface)])) (.ret (.tup [.any, .one .ni])))) fun x args vs w R σ Q hd hl ha hg hQ => by
  have hv := dec1s_ok hd hl ha
  subst hv
  obtain ⟨h1, hQ⟩ := hQ
  unfold atoiB atoiV at hQ
  cases hr : Lib.atoiAll x.data.toList with
  | ok v =>
    rw [hr] at hQ
    refine ⟨_, hQ.1 rfl, (Tryd.strconv_Atoi_ok x (by omega) v hr w).mono fun e w' h => ?_⟩
    obtain ⟨rfl, hw⟩ := h
    refine ⟨_, rfl, ?_, .tup [_, _] rfl fun i a u hi hu => ?_⟩
    · rcases hw with rfl | ⟨t, rfl⟩
      · exact Below.refl _ _
      · exact ⟨rfl, rfl, rfl, by rw [Lib.bytesWorld_size]; omega, fun j hj => Lib.bytesWorld_at_old w _ t j hj⟩
    · match i, hi, hu with
      | 0, rfl, rfl => exact .val rfl
      | 1, rfl, rfl => exact .val rfl
  | «syntax» =>
    rw [hr] at hQ
    obtain ⟨te, pe, hc⟩ := g_syn hg
    refine ⟨_, hQ.2 rfl, (Tryd.strconv_Atoi_syntax x h1 hr _ w hc (.inr ⟨te, pe, rfl⟩)).mono fun e w' h => ?_⟩
    obtain ⟨N, rfl, _, _, hb⟩ := h
    exact ⟨_, rfl, hb, ni_tup⟩
  | range =>
    rw [hr] at hQ
    obtain ⟨te, pe, hc⟩ := g_ran hg
    refine ⟨_, hQ.2 rfl, (Tryd.strconv_Atoi_range x h1 hr _ w hc (.inr ⟨te, pe, rfl⟩)).mono fun e w' h => ?_⟩
    obtain ⟨N, rfl, _, _, hb⟩ := h
    exact ⟨_, rfl, hb, ni_tup⟩⟩
noncomputable def L1 : Env Tryd.prog := ⟨[con_atoi, con_itoa, con_trimp, con_split, con_cut], [], [], fun _ => false, 0, fun _ => []⟩
theorem cf_lint (xs : Array Value) (w : World) : (callFunc 21 xs).run Tryd.prog w = .ok (.enter 21 xs) w := by kernel_rfl
theorem cf_rint (xs : Array Value) (w : World) : (callFunc 22 xs).run Tryd.prog w = .ok (.enter 22 xs) w := by kernel_rfl
theorem cf_lone (xs : Array Value) (w : World) : (callFunc 39 xs).run Tryd.prog w = .ok (.enter 39 xs) w := by kernel_rfl
theorem cf_lclo (xs : Array Value) (w : World) : (callFunc 38 xs).run Tryd.prog w = .ok (.enter 38 xs) w := by kernel_rfl
end Go.Proofs.YtljlfmmhoceihaaDoor
/-
lex.Int.
-/
set_option linter.unusedSimpArgs false
set_option linter.unusedVariables false
namespace Go.Proofs.YtljlfmmhoceihaaDoor
open Go.RowKit Ax
noncomputable def tr_lint (x : Els [(false, .str)]) : T Av :=
 .need (ByteArray.size (x.1) ≤ (281474976710656 : Nat)) (.ite (atoiB (x.1))
   (.ite (!true)
    (.ret (.tup [(.one (.v (.int .i64 ((0 : Int))))), (.one (.v (.bool (false))))]))
    (.need ((-9223372036854775808 : Int) ≤ atoiV (x.1) ∧ atoiV (x.1) ≤ (9223372036854775807 : Int)) (.ite (!ByteArray.toList { data := List.toArray (Go.Lib.itoa (atoiV (x.1))) } == ByteArray.toList (x.1))
      (.ret (.tup [(.one (.v (.int .i64 ((0 : Int))))), (.one (.v (.bool (false))))]))
      (.ite (decide ((↑(ByteArray.size { data := List.toArray (Go.Lib.trimPrefix (Array.toList (ByteArray.data (x.1))) (Array.toList (ByteArray.data { data := #[(45 : UInt8)] }))) }) : Int) > (9 : Int)))
       (.ret (.tup [(.one (.v (.int .i64 ((0 : Int))))), (.one (.v (.bool (false))))]))
       (.ret (.tup [(.one (.v (.int .i64 (atoiV (x.1))))), (.one (.v (.bool (true))))]))))))
   (.ret (.tup [(.one (.v (.int .i64 ((0 : Int))))), (.one (.v (.bool (false))))])))
theorem tr_lint_eq (x : Els [(false, .str)]) : fnP L1 (fun _ => none) Tryd.f21 (encs [(false, .str)] x) = tr_lint x := by kernel_rfl
end Go.Proofs.YtljlfmmhoceihaaDoor
/-
lex.one: what its loop carries; runes.
-/
set_option linter.unusedSimpArgs false
set_option linter.unusedVariables false
namespace Go.Proofs.YtljlfmmhoceihaaDoor
open Go.RowKit Ax
theorem mixed : Tryd.prog.follows .mixedOrders = true := by kernel_rfl
noncomputable def codR : Cod Tryd.prog := ⟨21, .int .i32, by kernel_rfl, ⟨.int .i32 0, fun w => by kernel_rfl⟩⟩
noncomputable def zeroR : Zero Tryd.prog := ⟨21, ck (.int .i32) (0 : Int), [.int .i32 0], by kernel_rfl, fun w R σ => .v rfl .nil⟩
noncomputable def L2 : Env Tryd.prog := ⟨L1.con, [zeroR], [codR], L1.sure, L1.base, L1.frz⟩
abbrev spOne : LSpec := ⟨17, [(0, false, .int .i32), (7, false, .sl (.int .i32)), (8, false, .int .i64), (9, false, .int .i64)], [], [], fun e => match e with | .ret => [4] | _ => []⟩
end Go.Proofs.YtljlfmmhoceihaaDoor
/-
lex.one: its loop.
-/
set_option linter.unusedSimpArgs false
set_option linter.unusedVariables false
namespace Go.Proofs.YtljlfmmhoceihaaDoor
open Go.RowKit Ax
noncomputable def tr_loneL (x : LSpec.X spOne × LSpec.Y spOne) : T (Rd spOne) :=
 .ite (decide (x.1.2.2.2.1 < x.1.2.2.1))
  (.get x.1.2.1 x.1.2.2.2.1 (fun v0 =>
   .ite (x.1.1 == v0)
    (.ret (.out (Go.Exit.ret) [(.one (.v (.bool (true))))] ()))
    (.ret (.again (x.1.1, (x.1.2.1, (x.1.2.2.1, (IntKind.wrap .i64 (x.1.2.2.2.1 + (1 : Int)), ())))) ()))))
  (.ret (.out (Go.Exit.exit (0 : Nat)) [] ()))
theorem tr_loneL_eq (x : LSpec.X spOne × LSpec.Y spOne) : LSpec.round spOne L2 (fun _ => none) (bodyOf Tryd.f39 0) x.1 x.2 = tr_loneL x := by kernel_rfl
def outOne (x : LSpec.X spOne) (y : LSpec.Y spOne) : T (Exit × List Av × LSpec.Y spOne) :=
  .need (0 ≤ x.2.2.2.1 ∧ x.2.2.1 = (List.length x.2.1 : Int) ∧ lenOk (List.length x.2.1)) (.ite (decide (x.1 ∈ (x.2.1 : List Int).drop x.2.2.2.1.toNat)) (.ret (.ret, [.one (.v (.bool true))], ())) (.ret (.exit 0, [], ())))
theorem loneL_core (c : Int) (l : List Int) (n i : Int) (Q : Exit × List Av × LSpec.Y spOne → Prop) (h : (outOne (c, l, n, i, ()) ()).wp Q) : (tr_loneL ((c, l, n, i, ()), ())).wp fun r => match r with
      | .again x' y' => (x'.2.2.1 - x'.2.2.2.1).toNat < (n - i).toNat ∧ (outOne x' y').wp Q
      | .out e avs y' => Q (e, avs, y') := by
  unfold tr_loneL
  unfold outOne at h ⊢
  simp only [T.wp] at h ⊢
  dsimp only [El, vts, spOne] at h ⊢
  obtain ⟨⟨i0, hn, hl⟩, hy, hz⟩ := h
  have hl' := hl
  unfold lenOk at hl'
  refine ⟨fun hlt => ?_, fun hge => ?_⟩
  · have hlt := of_decide_eq_true hlt
    obtain ⟨u, hu⟩ := elem_at (l := l) i0 (by omega)
    have hd := drop_at i0 hu
    rw [hd] at hy hz
    refine ⟨u, i0, hu, fun heq => ?_, fun hne => ?_⟩
    · have heq : c = u := by simpa using heq
      exact hy (by rw [heq]; simp)
    · have hne : c ≠ u := by simpa using hne
      rw [IntWalk.i64_in (i + 1) (by omega)]
      have e : decide (c ∈ u :: l.drop (i + 1).toNat) = decide (c ∈ l.drop (i + 1).toNat) := by
        rw [decide_eq_decide]; simp [hne]
      rw [e] at hy hz
      exact ⟨by omega, ⟨by omega, hn, hl⟩, hy, hz⟩
  · have hge := of_decide_eq_false hge
    rw [drop_end (by omega)] at hz
    exact hz (by simp)
theorem loneL_ok : LoopOk Tryd.prog 0 (bodyOf Tryd.f39 0) (spOne.run outOne) :=
  loop_ok (E := L2) (L := fun _ => none) mixed 0 (loops_none _ _ _) spOne (Nat.zero_le _) outOne (fun x _ => (x.2.2.1 - x.2.2.2.1).toNat) (by
    rintro ⟨c, l, n, i, ⟨⟩⟩ ⟨⟩ Q h
    rw [tr_loneL_eq ((c, l, n, i, ()), ())]
    exact loneL_core c l n i Q h)
noncomputable def lpOne : Loops := oneL 2 (spOne.run outOne)
end Go.Proofs.YtljlfmmhoceihaaDoor
/-
lex.one, the literal in lex.Lines: their trees.
-/
set_option linter.unusedSimpArgs false
set_option linter.unusedVariables false
namespace Go.Proofs.YtljlfmmhoceihaaDoor
open Go.RowKit Ax
noncomputable def tr_lone (x : Els [(false, .int .i32), (false, .sl (.int .i32))]) : T Av :=
 .need ((0 : El (Cd.int .i64)) ≤ (0 : Int) ∧ (↑(List.length x.2.1) : Int) = (↑(List.length x.2.1) : Int) ∧ lenOk (List.length x.2.1)) (.ite (decide (x.1 ∈ List.drop (Int.toNat (0 : Int)) x.2.1))
   (.ret (.one (.v (.bool (true)))))
   (.ret (.one (.v (.bool (false))))))
theorem tr_lone_eq (x : Els [(false, .int .i32), (false, .sl (.int .i32))]) : fnP L2 lpOne Tryd.f39 (encs [(false, .int .i32), (false, .sl (.int .i32))] x) = tr_lone x := by kernel_rfl
noncomputable def con_lone : Con Tryd.prog := ⟨39, [], _, cf_lone, val_con (E := L2) (L := lpOne) mixed Tryd.func39 (one_loop loneL_ok (by kernel_rfl)) [(false, .int .i32), (false, .sl (.int .i32))] (fun x => lenOk (List.length x.2.1)) (fun x => .one (.v (.bool (decide (x.1 ∈ (x.2.1 : List Int)))))) fun x hx => by
  rw [tr_lone_eq]
  obtain ⟨c, l, u⟩ := x
  revert c l
  intro (c : Int) (l : List Int) (hx : lenOk l.length)
  unfold tr_lone
  simp only [T.wp]
  refine ⟨⟨Int.le_refl 0, trivial, hx⟩, fun h => ?_, fun h => ?_⟩
  · have h : decide (c ∈ l) = true := h
    rw [h]
  · have h : decide (c ∈ l) = false := h
    rw [h]⟩
noncomputable def L3 : Env Tryd.prog := L2.add [con_lone]
end Go.Proofs.YtljlfmmhoceihaaDoor
/-
The literal in lex.Lines; strings.FieldsFunc with it.
-/
set_option linter.unusedSimpArgs false
set_option linter.unusedVariables false
namespace Go.Proofs.YtljlfmmhoceihaaDoor
open Go.RowKit Ax
noncomputable def tr_lclo (x : Els [(false, .int .i32)]) : T Av :=
 .need (lenOk (List.length [(32 : Int), (9 : Int), (13 : Int)])) (.ret (.one (.v (.bool (decide (x.1 ∈ [(32 : Int), (9 : Int), (13 : Int)]))))))
theorem tr_lclo_eq (x : Els [(false, .int .i32)]) : fnP L3 (fun _ => none) Tryd.f38 (encs [(false, .int .i32)] x) = tr_lclo x := by kernel_rfl
noncomputable def con_lclo : Con Tryd.prog := ⟨38, [], _, cf_lclo, val_con (E := L3) mixed Tryd.func38 no_loops [(false, .int .i32)] (fun x => True) (fun x => .one (.v (.bool (decide ((x.1 : Int) ∈ ([32, 9, 13] : List Int)))))) fun x hx => by
  rw [tr_lclo_eq]
  obtain ⟨c, u⟩ := x
  revert c
  intro (c : Int)
  unfold tr_lclo
  simp only [T.wp]
  exact ⟨by show ((3 : Nat) : Int) ≤ 4611686018427387904; omega, trivial⟩⟩
theorem glob_below {w W : World} {R : Nat → Prop} (hg : GlobAt w R) (hb : Below w.heap.size w W) : GlobAt W (Ro W [] []) := fun f hf g h => by
  obtain ⟨_, cs, t, z, h2, h3⟩ := hg f hf g h
  have hlt := (Array.getElem?_eq_some_iff.1 h2).1
  exact ⟨⟨Nat.lt_of_lt_of_le hlt hb.size, by simp, by simp⟩, cs, t, z, (hb.block g hlt).trans h2, h3⟩
/-- a blank -/
def blank (x : Nat) : Bool := decide (((x : Nat) : Int) ∈ ([32, 9, 13] : List Int))
theorem lclo_grows {w : World} {R : Nat → Prop} (hg : GlobAt w R) : PredGrows Tryd.prog 38 #[] blank w := fun W x hx hb => by
  have hm : MemOk W [] [] [] := ⟨rfl, by simp, by simp, glob_below hg hb, fun i t cs b h1 h2 => by simp at h1⟩
  have hc := con_lclo.ok W [] [] [] [.one (.v (.int .i32 x))] [.int .i32 x] (fun r => r = (.one (.v (.bool (blank x))), [])) hm rfl (fun i a v h1 h2 => by
    match i, h1, h2 with
    | 0, rfl, rfl => exact .val rfl) (by
    show (T.need True (.ret _)).wp _
    exact ⟨trivial, rfl⟩)
  refine hc.mono fun e w' hr => ?_
  obtain ⟨v, av, m', σ', rfl, hQ, _, hk, _, hav, _⟩ := hr
  cases hQ
  rw [val_of hav rfl]
  exact ⟨rfl, hk.below⟩
def decF : List Av → Option ByteArray
  | [.one (.v (.string s)), .one (.v (.func (.func g) a b))] => match decide (g = 38) && a.isEmpty && b.isEmpty with
    | true => some s
    | false => none
  | _ => none
theorem decF_ok {w : World} {R : Nat → Prop} {σ : List Nat} {args : List Av} {vs : List Value} {x : ByteArray} (h : decF args = some x) (hl : vs.length = args.length) (ha : ∀ (i : Nat) a v, args[i]? = some a → vs[i]? = some v → AvIs w R σ a v) : vs = [.string x, .func (.func 38) #[] #[]] := by
  unfold decF at h
  split at h
  · split at h
    · rename_i hq
      cases h
      simp only [Bool.and_eq_true, decide_eq_true_eq, Array.isEmpty_iff] at hq
      obtain ⟨⟨rfl, rfl⟩, rfl⟩ := hq
      match vs, hl with
      | [u, v], _ =>
        rw [is_str (ha 0 _ u rfl rfl), val_of (ha 1 _ v rfl rfl) rfl]
    · cases h
  · cases h
theorem cf_fields (xs : Array Value) (w : World) : (callFunc 37 xs).run Tryd.prog w = .ok (.enter 37 xs) w := by kernel_rfl
noncomputable def con_fields : Con Tryd.prog := ⟨37, [], _, cf_fields, lib_con decF (fun x => .need (x.size ≤ 4294967296) (.ret (.one (.ds .str (Lib.goFieldsP blank x))))) fun x args vs w R σ Q hd hl ha hg hQ => by
  have hv := decF_ok hd hl ha
  subst hv
  obtain ⟨h1, hQ⟩ := hQ
  refine ⟨_, hQ, (Tryd.strings_FieldsFunc_grows 38 #[] cf_lclo blank x w h1 (lclo_grows hg)).mono fun e w' hr => ?_⟩
  obtain ⟨A, rfl, hA, ho, hb⟩ := hr
  refine ⟨_, rfl, hb, ?_⟩
  obtain ⟨_, ho⟩ := ho
  rcases ho with ⟨hv, _⟩ | ⟨g, cap, cur, hv, hg1, hg2, hcap, _, _, htk⟩
  · cases hv
  · cases hv
    rw [Nat.mul_one] at htk
    have hlt := (Array.getElem?_eq_some_iff.1 hg2).1
    exact ds_strs (cells := cur.toList) (R := fun b => w.heap.size ≤ b ∧ b < w'.heap.size) ⟨hA, hlt⟩ (Nat.le_refl _) (by simpa using hg2) htk⟩
end Go.Proofs.YtljlfmmhoceihaaDoor
/-
lex.Int: what it tells.
-/
set_option linter.unusedSimpArgs false
set_option linter.unusedVariables false
namespace Go.Proofs.YtljlfmmhoceihaaDoor
open Go.RowKit Ax
theorem atoiV_in (s : ByteArray) : -9223372036854775808 ≤ atoiV s ∧ atoiV s ≤ 9223372036854775807 := by
  unfold atoiV
  generalize s.data.toList = l
  unfold Lib.atoiAll
  split
  · rename_i v hv
    split at hv
    · cases hv
    · dsimp only at hv
      split at hv
      · cases hv
      · cases hv
      · rename_i c r u hu
        split at hv
        · cases hv
        · split at hv
          · cases hv
          · cases hv
            split <;> omega
  · omega
def itoaS (z : Int) : ByteArray := ⟨(Lib.itoa z).toArray⟩
def trimM (s : ByteArray) : ByteArray := ⟨(Lib.trimPrefix s.data.toList [45]).toArray⟩
def lintB (s : ByteArray) : Bool := atoiB s && (itoaS (atoiV s)).toList == s.toList && decide ((trimM s).size ≤ 9)
noncomputable def con_lint : Con Tryd.prog := ⟨21, [], _, cf_lint, val_con (E := L1) mixed Tryd.func21 no_loops [(false, .str)] (fun x => ByteArray.size x.1 ≤ 281474976710656) (fun x => .tup [.one (.v (.int .i64 (if lintB x.1 = true then atoiV x.1 else 0))), .one (.v (.bool (lintB x.1)))]) fun x hx => by
  rw [tr_lint_eq]
  obtain ⟨s, u⟩ := x
  revert s
  intro (s : ByteArray) (hx : s.size ≤ 281474976710656)
  unfold tr_lint
  simp only [T.wp]
  have hin := atoiV_in s
  have eT : ByteArray.size ⟨List.toArray (Lib.trimPrefix (Array.toList (ByteArray.data s)) (Array.toList (ByteArray.data ⟨#[(45 : UInt8)]⟩)))⟩ = (trimM s).size := rfl
  rw [eT]
  have no : lintB s = false → Av.tup [.one (.v (.int .i64 0)), .one (.v (.bool false))] = .tup [.one (.v (.int .i64 (if lintB s = true then atoiV s else 0))), .one (.v (.bool (lintB s)))] := fun h => by rw [h]; rfl
  refine ⟨hx, fun h1 => ⟨fun h => Bool.noConfusion h, fun _ => ⟨hin, fun h2 => no ?_, fun h2 => ⟨fun h3 => no ?_, fun h3 => ?_⟩⟩⟩, fun h1 => no ?_⟩
  · have h2 : ((itoaS (atoiV s)).toList == s.toList) = false := by
      have h2 : (!((itoaS (atoiV s)).toList == s.toList)) = true := h2
      generalize ((itoaS (atoiV s)).toList == s.toList) = q at h2 ⊢
      cases q with
      | false => rfl
      | true => cases h2
    unfold lintB; rw [h2]; simp
  · have h3 := of_decide_eq_true h3
    unfold lintB; rw [decide_eq_false (by omega)]; simp
  · have h2 : ((itoaS (atoiV s)).toList == s.toList) = true := by
      have h2 : (!((itoaS (atoiV s)).toList == s.toList)) = false := h2
      generalize ((itoaS (atoiV s)).toList == s.toList) = q at h2 ⊢
      cases q with
      | true => rfl
      | false => cases h2
    have h3 := of_decide_eq_false h3
    have e : lintB s = true := by unfold lintB; rw [h1, h2, decide_eq_true (by omega)]; rfl
    rw [e]; rfl
  · unfold lintB; rw [h1]; rfl⟩
end Go.Proofs.YtljlfmmhoceihaaDoor
/-
Loops that build a row (append), or write one in place.
-/
set_option linter.unusedSimpArgs false
set_option linter.unusedVariables false
namespace Ax
open Go Go.RowKit

/-- ars an LSpec; and the slot that holds the row, its elements; 'fixed': it is the caller's, it stays where it is -/
structure RSpec where
  n : Nat
  vs : List (Nat × Bool × Cd)
  ps : List (Nat × Nat × Nat)
  bs : List (TypeId × Cd)
  ex : Exit → List Nat
  slot : Nat
  ty : TypeId
  c : Cd
  fixed : Bool
  /-- the row's slot at an exit -/
  sl : Exit → Nat
abbrev RSpec.X (sp : RSpec) : Type := Els (vts sp.vs)
abbrev RSpec.Y (sp : RSpec) : Type := Els (bts sp.bs)
/-- none yet; or its elements, its room -/
abbrev RSpec.G (sp : RSpec) : Type := Option (List (El sp.c) × Nat)
def RSpec.rowFr (sp : RSpec) : sp.G → Av
  | none => .one (.v (.slice none 0 0))
  | some r => .one (.os sp.bs.length r.1.length r.2)
def RSpec.rowMem (sp : RSpec) : sp.G → Mem
  | none => []
  | some r => [(sp.ty, [.row sp.c r.1 r.2])]
def RSpec.head (sp : RSpec) (x : sp.X) (y : sp.Y) (g : sp.G) : St := ⟨mkFr sp.n ((sp.slot, sp.rowFr g) :: ((sp.vs.map (·.1)).zip (encs (vts sp.vs) x) ++ pList sp.ps)), mkMem sp.bs y ++ sp.rowMem g⟩
def RSpec.exitSt (sp : RSpec) (e : Exit) (avs : List Av) (y : sp.Y) (g : sp.G) : St := ⟨mkFr sp.n ((sp.sl e, sp.rowFr g) :: ((sp.ex e).zip avs ++ pList sp.ps)), mkMem sp.bs y ++ sp.rowMem g⟩
def RSpec.decR (sp : RSpec) (sl : Nat) (st : St) : Option (sp.G × Nat × Prop) :=
  match st.fr[sl]? with
  | some (.one (.v (.slice none 0 0))) => match sp.fixed with
    | true => none
    | false => some (none, 0, True)
  | some (.one (.os j n cap)) => match decide (sp.bs.length ≤ j) && (!sp.fixed || decide (j = sp.bs.length)), st.mem[j]? with
    | true, some (ty, [.row c xs cap']) => match decide (ty = sp.ty), castRow c sp.c xs with
      | true, some ys => some (some (ys, cap), j, n = ys.length ∧ cap' = cap)
      | _, _ => none
    | _, _ => none
  | _ => none
def RSpec.dec (sp : RSpec) (st : St) : Option (sp.X × sp.Y × sp.G × Prop) :=
  match decide (st.fr.length = sp.n) && ptrsOk sp.bs.length st.fr sp.ps with
  | true => match getsA st.fr (sp.vs.map (·.1)), sp.decR sp.slot st with
    | some l, some (g, _, p) => match decs (vts sp.vs) l, decMem sp.bs st.mem with
      | some x, some y => some (x, y, g, p)
      | _, _ => none
    | _, _ => none
  | false => none
def RSpec.decE (sp : RSpec) (e : Exit) (st : St) : Option (List Av × sp.Y × sp.G × Prop) :=
  match decide (st.fr.length = sp.n) && ptrsOk sp.bs.length st.fr sp.ps with
  | true => match getsA st.fr (sp.ex e), sp.decR (sp.sl e) st with
    | some l, some (g, _, p) => match l.all noA, decMem sp.bs st.mem with
      | true, some y => some (l.map nA, y, g, p)
      | _, _ => none
    | _, _ => none
  | false => none

section
variable {P : Program} {E : Env P} {L : Loops} {w0 w : World} {φ σ0 σ : List Nat} {st : St} {a : Act}

theorem row_view (sp : RSpec) {sl : Nat} {y : sp.Y} {g : sp.G} {j : Nat} {p : Prop} (hS : Sat w0 φ σ0 σ st a w) (h0 : σ0.length ≤ sp.bs.length + (if sp.fixed then 1 else 0)) (hlen : st.fr.length = sp.n) (hps : ptrsOk sp.bs.length st.fr sp.ps = true)
    (hy : decMem sp.bs st.mem = some y) (hr : sp.decR sl st = some (g, j, p)) (hp : p) (l : List (Nat × Av)) (hl : ∀ q ∈ l, AvIs w (Ro w φ σ) [] q.2 (a.tmps.getD q.1 undef)) :
    ∃ σ', Sat w0 φ σ0 σ' ⟨mkFr sp.n ((sl, sp.rowFr g) :: (l ++ pList sp.ps)), mkMem sp.bs y ++ sp.rowMem g⟩ a w := by
  obtain ⟨g1, g2, g3⟩ := decMem_ok sp.bs st.mem y hy
  have hsl := hS.mem.len
  have hk : sp.bs.length ≤ σ.length := by omega
  obtain ⟨τ, eτ, hτ⟩ := hS.ext.pre
  -- the blocks that stay, and that of the row
  have core : ∀ (σ' : List Nat) (rest : List Nat), σ' = σ.take sp.bs.length ++ rest → rest.length = (sp.rowMem g).length → σ'.Nodup → (∀ b ∈ σ', b ∈ σ) → Ext w0 σ0 σ' →
      (∀ (i : Nat) t cs b, (sp.rowMem g)[i]? = some (t, cs) → rest[i]? = some b → ∃ us : List Value, w.heap[b]? = some (.cells us.toArray t (0, 0)) ∧ Is w (Ro w φ σ) [] cs us) →
      AvIs w (Ro w φ σ') σ' (sp.rowFr g) (a.tmps.getD sl undef) → Sat w0 φ σ0 σ' ⟨mkFr sp.n ((sl, sp.rowFr g) :: (l ++ pList sp.ps)), mkMem sp.bs y ++ sp.rowMem g⟩ a w := by
    intro σ' rest e hrl hnd hsub hext hrow hslot
    have hro : ∀ b, Ro w φ σ b → Ro w φ σ' b := fun b hb => ⟨hb.1, hb.2.1, fun h => hb.2.2 (hsub b h)⟩
    have htl : (σ.take sp.bs.length).length = sp.bs.length := by rw [List.length_take]; omega
    refine ⟨⟨(fr_len _ _).trans (hlen.symm.trans hS.fr.len), fun t av ht => ?_⟩, ⟨by rw [List.length_append, g2, e, List.length_append, htl, hrl], hnd, hS.mem.fo, hS.mem.gl.mono fun z hz => ⟨hro z hz, rfl⟩, fun i t cs b hi hb => ?_⟩, hext, hS.keep, hS.df⟩
    · rcases fr_at ht with rfl | ⟨q, hq, rfl, rfl⟩
      · exact .any
      · rcases List.mem_cons.1 hq with rfl | hq
        · exact hslot
        · rcases List.mem_append.1 hq with hq | hq
          · exact (hl q hq).ro hro _
          · unfold pList at hq
            obtain ⟨r, hr, rfl⟩ := List.mem_map.1 hq
            obtain ⟨hf, hlt⟩ := ptrs_ok sp.ps hps r hr
            have := hS.fr.at_ _ _ hf
            obtain ⟨b, hb, e1⟩ := is_one_p this
            simp only at e1 ⊢
            rw [e1]
            exact .one rfl (.p (by rw [e, List.getElem?_append_left (by omega), List.getElem?_take, if_pos hlt]; exact hb) .nil)
    · rcases Nat.lt_or_ge i sp.bs.length with hlt | hge
      · rw [List.getElem?_append_left (by omega)] at hi
        rw [e, List.getElem?_append_left (by omega), List.getElem?_take, if_pos hlt] at hb
        obtain ⟨cs', h1, h2⟩ := g3 i t cs hi
        obtain ⟨us, h3, h4⟩ := hS.mem.blk i t cs' b h1 hb
        exact ⟨us, h3, (h2 _ _ _ _ h4).mono (fun z hz => ⟨hro z hz, rfl⟩) (fun _ _ h => by simp at h)⟩
      · rw [List.getElem?_append_right (by omega), g2] at hi
        rw [e, List.getElem?_append_right (by omega), htl] at hb
        obtain ⟨us, h3, h4⟩ := hrow _ t cs b hi hb
        exact ⟨us, h3, h4.mono (fun z hz => ⟨hro z hz, rfl⟩) (fun _ _ h => by simp at h)⟩
  unfold RSpec.decR at hr
  split at hr
  · rename_i hfr
    split at hr
    · cases hr
    · rename_i hfx
      cases hr
      rw [if_neg (by rw [hfx]; simp), Nat.add_zero] at h0
      refine ⟨σ.take sp.bs.length ++ [], core _ [] rfl rfl ?_ ?_ ?_ (fun i t cs b hi _ => by simp [RSpec.rowMem] at hi) ?_⟩
      · rw [List.append_nil]; exact hS.mem.nodup.sublist (List.take_sublist _ _)
      · intro b hb; rw [List.append_nil] at hb; exact List.mem_of_mem_take hb
      · refine ⟨τ.take (sp.bs.length - σ0.length), ?_, fun b hb => hτ b (List.mem_of_mem_take hb)⟩
        rw [List.append_nil, eτ, List.take_append, List.take_of_length_le h0]
      · have := hS.fr.at_ _ _ hfr
        rw [val_of this rfl]
        exact .val rfl
  · rename_i j' n cap hfr
    split at hr
    · rename_i ty c xs cap' hc hmj
      split at hr
      · rename_i ys hty hcast
        cases hr
        have hty := of_decide_eq_true hty
        subst hty
        obtain ⟨hn, hcap⟩ := hp
        subst hn
        subst hcap
        simp only [Bool.and_eq_true, decide_eq_true_eq] at hc
        obtain ⟨b, hb, hncap, hve⟩ := is_one_os (hS.fr.at_ _ _ hfr)
        obtain ⟨us, hbl, his⟩ := hS.mem.blk j _ _ b hmj hb
        have his := castRow_is hcast his
        have hjl : j < σ.length := (List.getElem?_eq_some_iff.1 hb).1
        have hnot : b ∉ σ.take sp.bs.length := fun hm => by
          obtain ⟨i, hi, e⟩ := List.getElem_of_mem hm
          rw [List.getElem_take] at e
          obtain ⟨l2, e2⟩ := List.getElem?_eq_some_iff.1 hb
          rw [List.length_take] at hi
          have := (List.getElem_inj hS.mem.nodup).1 (e.trans e2.symm)
          omega
        refine ⟨σ.take sp.bs.length ++ [b], core _ [b] rfl rfl ?_ ?_ ?_ (fun i t cs b' hi hb' => ?_) ?_⟩
        · rw [List.nodup_append]
          exact ⟨hS.mem.nodup.sublist (List.take_sublist _ _), by simp, fun x hx z hz e => hnot (by
            rw [List.mem_singleton] at hz
            rw [← hz, ← e]; exact hx)⟩
        · intro z hz
          rcases List.mem_append.1 hz with h1 | h1
          · exact List.mem_of_mem_take h1
          · rw [List.mem_singleton.1 h1]; exact List.mem_of_getElem? hb
        · by_cases hcase : σ0.length ≤ sp.bs.length
          · refine ⟨τ.take (sp.bs.length - σ0.length) ++ [b], ?_, fun z hz => ?_⟩
            · rw [eτ, List.take_append, List.take_of_length_le hcase, List.append_assoc]
            · rcases List.mem_append.1 hz with h1 | h1
              · exact hτ z (List.mem_of_mem_take h1)
              · rw [List.mem_singleton.1 h1]
                refine hτ b ?_
                rw [eτ, List.getElem?_append_right (by omega)] at hb
                exact List.mem_of_getElem? hb
          · have hfx : sp.fixed = true := by
              cases hq : sp.fixed with
              | true => rfl
              | false => rw [hq] at h0; simp at h0; omega
            have hj : j = sp.bs.length := by
              have h2 := hc.2
              rw [hfx] at h2
              simpa using h2
            rw [hfx] at h0
            simp at h0
            have h0' : σ0.length = sp.bs.length + 1 := by omega
            have e2 : σ.take sp.bs.length ++ [b] = σ0 := by
              have : σ.take (sp.bs.length + 1) = σ.take sp.bs.length ++ [b] := by
                rw [List.take_add_one, ← hj, hb]; rfl
              rw [← this, eτ, ← h0', List.take_left']
              rfl
            rw [e2]
            exact Ext.refl _ _
        · rcases i with _ | i
          · simp only [RSpec.rowMem, List.getElem?_cons_zero, Option.some.injEq, Prod.mk.injEq] at hi hb'
            obtain ⟨rfl, rfl⟩ := hi
            subst hb'
            exact ⟨us, hbl, row_none his []⟩
          · simp [RSpec.rowMem] at hi
        · rw [hve]
          refine .one rfl (.os ?_ hncap .nil)
          have htl : (σ.take sp.bs.length).length = sp.bs.length := by rw [List.length_take]; omega
          rw [List.getElem?_append_right (by omega), htl, Nat.sub_self]; rfl
      · cases hr
    · cases hr
  · cases hr

theorem headR_ok (sp : RSpec) {x : sp.X} {y : sp.Y} {g : sp.G} {p : Prop} (hS : Sat w0 φ σ0 σ st a w) (h0 : σ0.length ≤ sp.bs.length + (if sp.fixed then 1 else 0)) (h : sp.dec st = some (x, y, g, p)) (hp : p) : ∃ σ', Sat w0 φ σ0 σ' (sp.head x y g) a w := by
  unfold RSpec.dec at h
  split at h
  · rename_i hc
    simp only [Bool.and_eq_true, decide_eq_true_eq] at hc
    split at h
    · rename_i l g' j p' hl hr
      split at h
      · rename_i x' y' hd hy
        cases h
        obtain ⟨k1, k2⟩ := gets_ok _ _ _ hl
        obtain ⟨d1, d2⟩ := decs_ok (w := w) (R := Ro w φ σ) (σ := σ) (vts sp.vs) l x ((sp.vs.map (·.1)).map fun s => a.tmps.getD s undef) hd (by simp at k1 ⊢; omega) (fun i b v hb hv => by
          rw [List.getElem?_map] at hv
          cases hq : (sp.vs.map (·.1))[i]? with
          | none => rw [hq] at hv; simp at hv
          | some s =>
            rw [hq] at hv
            simp only [Option.map_some, Option.some.injEq] at hv
            subst hv
            exact hS.fr.at_ s b (k2 i s b hq hb))
        refine row_view sp hS h0 hc.1 hc.2 hy hr hp _ fun q hq => ?_
        obtain ⟨i, hi, e⟩ := List.getElem_of_mem hq
        have hz : ((sp.vs.map (·.1)).zip (encs (vts sp.vs) x))[i]? = some q := by rw [List.getElem?_eq_getElem hi, e]
        rw [List.getElem?_zip_eq_some] at hz
        have hv : ((sp.vs.map (·.1)).map fun s => a.tmps.getD s undef)[i]? = some (a.tmps.getD q.1 undef) := by rw [List.getElem?_map, hz.1]; rfl
        exact d2 i _ _ hz.2 hv
      · cases h
    · cases h
  · cases h
theorem exitR_ok (sp : RSpec) {e : Exit} {avs : List Av} {y : sp.Y} {g : sp.G} {p : Prop} (hS : Sat w0 φ σ0 σ st a w) (h0 : σ0.length ≤ sp.bs.length + (if sp.fixed then 1 else 0)) (h : sp.decE e st = some (avs, y, g, p)) (hp : p) : ∃ σ', Sat w0 φ σ0 σ' (sp.exitSt e avs y g) a w := by
  unfold RSpec.decE at h
  split at h
  · rename_i hc
    simp only [Bool.and_eq_true, decide_eq_true_eq] at hc
    split at h
    · rename_i l g' j p' hl hr
      split at h
      · rename_i y' hno hy
        cases h
        obtain ⟨k1, k2⟩ := gets_ok _ _ _ hl
        refine row_view sp hS h0 hc.1 hc.2 hy hr hp _ fun q hq => ?_
        obtain ⟨i, hi, e1⟩ := List.getElem_of_mem hq
        have hz : ((sp.ex e).zip (l.map nA))[i]? = some q := by rw [List.getElem?_eq_getElem hi, e1]
        rw [List.getElem?_zip_eq_some] at hz
        have hz2 := hz.2
        rw [List.getElem?_map] at hz2
        cases hq : l[i]? with
        | none => rw [hq] at hz2; simp at hz2
        | some b =>
          rw [hq] at hz2
          simp only [Option.map_some, Option.some.injEq] at hz2
          rw [← hz2]
          have hb := hS.fr.at_ _ _ (k2 i _ b hz.1 hq)
          have hn := List.all_eq_true.1 hno b (List.mem_of_getElem? hq)
          exact nA_is (av_no hb hn)
      · cases h
    · cases h
  · cases h

inductive RRd (sp : RSpec) : Type
  | again (x : sp.X) (y : sp.Y) (g : sp.G)
  | out (e : Exit) (avs : List Av) (y : sp.Y) (g : sp.G)
def RSpec.round {P : Program} (sp : RSpec) (E : Env P) (L : Loops) (body : Code) (x : sp.X) (y : sp.Y) (g : sp.G) : T (RRd sp) :=
  (code (E.at_ (sp.bs.length + (if sp.fixed then 1 else 0))) L body (sp.head x y g)).bind fun r => match r.1 with
    | .normal => match sp.dec r.2 with
      | some (x', y', g', p) => .need p (.ret (.again x' y' g'))
      | none => .fail
    | e => match sp.decE e r.2 with
      | some (avs, y', g', p) => .need p (.ret (.out e avs y' g'))
      | none => .fail
def RSpec.run (sp : RSpec) (out : sp.X → sp.Y → sp.G → T (Exit × List Av × sp.Y × sp.G)) (st : St) : T (Exit × St) :=
  match sp.dec st with
  | some (x, y, g, p) => .need p ((out x y g).bind fun r => .ret (r.1, sp.exitSt r.1 r.2.1 r.2.2.1 r.2.2.2))
  | none => .fail

/-- THE LAW of a loop that builds a row. -/
theorem loopR_ok (hm : P.follows .mixedOrders = true) (k : Nat) {body : Code} (hL : LoopsOk P k L body) (sp : RSpec) (hk : k ≤ sp.bs.length + (if sp.fixed then 1 else 0)) (out : sp.X → sp.Y → sp.G → T (Exit × List Av × sp.Y × sp.G)) (μ : sp.X → sp.Y → sp.G → Nat)
    (hb : ∀ x y g Q, (out x y g).wp Q → (sp.round E L body x y g).wp fun r => match r with
      | .again x' y' g' => μ x' y' g' < μ x y g ∧ (out x' y' g').wp Q
      | .out e avs y' g' => Q (e, avs, y', g')) : LoopOk P k body (sp.run out) := by
  intro w0 φ σ0 σ st a w Q hσ hφ hS hrun
  unfold RSpec.run at hrun
  split at hrun
  · rename_i x y g p hd
    obtain ⟨hp, hrun⟩ := hrun
    rw [T.wp_bind] at hrun
    obtain ⟨σ1, h0⟩ := headR_ok sp hS (by omega) hd hp
    refine wp_loop_ghost (fun n a w => ∃ x y g σ, n = μ x y g ∧ Sat w0 φ σ0 σ (sp.head x y g) a w ∧ (out x y g).wp fun r => (T.ret (r.1, sp.exitSt r.1 r.2.1 r.2.2.1 r.2.2.2)).wp Q) _ ⟨x, y, g, _, rfl, h0, hrun⟩ fun n a w hI => ?_
    obtain ⟨x, y, g, σ, rfl, hS, hout⟩ := hI
    have h1 := hb x y g _ hout
    unfold RSpec.round at h1
    rw [T.wp_bind] at h1
    refine wp_mono (code_ok (E := E.at_ (sp.bs.length + (if sp.fixed then 1 else 0))) hm hσ (by show σ0.length ≤ sp.bs.length + _; omega) hφ body _ σ a w _ hL hS h1) fun e a' w' hr => ?_
    obtain ⟨hq, st', σ', h2, h3⟩ := hr
    cases e with
    | normal =>
      simp only [Exit.then]
      simp only at h2
      split at h2
      · rename_i x' y' g' p' hd'
        obtain ⟨hp', h2⟩ := h2
        obtain ⟨σ2, h4⟩ := headR_ok sp h3 (by omega) hd' hp'
        exact ⟨_, h2.1, x', y', g', _, rfl, h4, h2.2⟩
      · exact h2.elim
    | panic _ => cases hq
    | outgrown => cases hq
    | exit id =>
      simp only [Exit.then]
      simp only at h2
      split at h2
      · rename_i avs y' g' p' hd'
        obtain ⟨hp', h2⟩ := h2
        obtain ⟨σ2, h4⟩ := exitR_ok sp h3 (by omega) hd' hp'
        exact ⟨rfl, _, _, h2, h4⟩
      · exact h2.elim
    | ret =>
      simp only [Exit.then]
      simp only at h2
      split at h2
      · rename_i avs y' g' p' hd'
        obtain ⟨hp', h2⟩ := h2
        obtain ⟨σ2, h4⟩ := exitR_ok sp h3 (by omega) hd' hp'
        exact ⟨rfl, _, _, h2, h4⟩
      · exact h2.elim
    | goto l =>
      simp only [Exit.then]
      simp only at h2
      split at h2
      · rename_i avs y' g' p' hd'
        obtain ⟨hp', h2⟩ := h2
        obtain ⟨σ2, h4⟩ := exitR_ok sp h3 (by omega) hd' hp'
        exact ⟨rfl, _, _, h2, h4⟩
      · exact h2.elim
  · exact hrun.elim
end
end Ax
/-
Several loops in one function.
-/
set_option linter.unusedSimpArgs false
set_option linter.unusedVariables false
namespace Ax
open Go Go.RowKit
def manyL (l : List (Nat × (St → T (Exit × St)))) : Loops := fun k => (l.find? fun p => p.1 == k).map (·.2)
theorem find_key {β : Type _} : ∀ (l : List (Nat × β)) (i : Nat) (p : Nat × β), (l.map (·.1)).Nodup → l[i]? = some p → l.find? (fun q => q.1 == p.1) = some p
  | [], i, p, _, h => by simp at h
  | q :: r, 0, p, _, h => by
    obtain rfl : q = p := by simpa using h
    simp
  | q :: r, i + 1, p, hn, h => by
    have h' : r[i]? = some p := by simpa using h
    have hm : p.1 ∈ r.map (·.1) := List.mem_map.2 ⟨p, List.mem_of_getElem? h', rfl⟩
    have hne : q.1 ≠ p.1 := fun e => (List.nodup_cons.1 hn).1 (by show q.1 ∈ _; rw [e]; exact hm)
    rw [List.find?_cons_of_neg (by simpa using hne)]
    exact find_key r i p (List.nodup_cons.1 hn).2 h'
/-- the loops' keys -/
def keysOf (fn : Func) : List Nat := match fn.body with | some c => (loopsOf c).map Code.first | none => []
theorem many_loops {P : Program} {n : Nat} {fn : Func} {l : List (Nat × (St → T (Exit × St)))} (hk : keysOf fn = l.map (·.1)) (hn : (l.map (·.1)).Nodup)
    (h : ∀ (i : Nat) p, l[i]? = some p → LoopOk P n (bodyOf fn i) p.2) : ∀ c, fn.body = some c → LoopsOk P n (manyL l) c := by
  intro c hc
  unfold keysOf at hk
  rw [hc] at hk
  replace hk : (loopsOf c).map Code.first = l.map (·.1) := hk
  refine loops_of fun b hb r hr => ?_
  obtain ⟨i, hi, rfl⟩ := List.getElem_of_mem hb
  have hl : (loopsOf c).length = l.length := by have := congrArg List.length hk; simpa using this
  have hp : l[i]? = some (l[i]'(by omega)) := List.getElem?_eq_getElem _
  have hkey : Code.first (loopsOf c)[i] = (l[i]'(by omega)).1 := by
    have h1 : ((loopsOf c).map Code.first)[i]? = (l.map (·.1))[i]? := by rw [hk]
    rw [List.getElem?_map, List.getElem?_map, hp, List.getElem?_eq_getElem hi] at h1
    simpa using h1
  unfold manyL at hr
  rw [hkey, find_key l i _ hn hp] at hr
  cases hr
  have hb : bodyOf fn i = (loopsOf c)[i] := by
    unfold bodyOf
    rw [hc]
    simp [hi]
  rw [← hb]
  exact h i _ hp
theorem two_loops {P : Program} {n k1 k2 : Nat} {fn : Func} {r1 r2 : St → T (Exit × St)} (hk : keysOf fn = [k1, k2]) (hn : k1 ≠ k2) (h1 : LoopOk P n (bodyOf fn 0) r1) (h2 : LoopOk P n (bodyOf fn 1) r2) :
    ∀ c, fn.body = some c → LoopsOk P n (manyL [(k1, r1), (k2, r2)]) c :=
  many_loops hk (by simp [hn]) fun i p hp => by
    match i, hp with
    | 0, hp => cases hp; exact h1
    | 1, hp => cases hp; exact h2
    | i + 2, hp => simp at hp
/-! ### loops within a loop's body -/
def innerOf (c : Code) (i : Nat) : Code := (loopsOf c).getD i .skip
theorem inner_loops {P : Program} {n : Nat} {c : Code} {l : List (Nat × (St → T (Exit × St)))} (hk : (loopsOf c).map Code.first = l.map (·.1)) (hn : (l.map (·.1)).Nodup)
    (h : ∀ (i : Nat) p, l[i]? = some p → LoopOk P n (innerOf c i) p.2) : LoopsOk P n (manyL l) c :=
  many_loops (fn := { (default : Func) with body := some c }) hk hn (fun i p hp => by
    have := h i p hp
    unfold innerOf at this
    exact this) c rfl
theorem inner_one {P : Program} {n k1 : Nat} {c : Code} {r1 : St → T (Exit × St)} (hk : (loopsOf c).map Code.first = [k1]) (h1 : LoopOk P n (innerOf c 0) r1) : LoopsOk P n (manyL [(k1, r1)]) c :=
  inner_loops hk (by simp) fun i p hp => by
    match i, hp with
    | 0, hp => cases hp; exact h1
    | i + 1, hp => simp at hp
end Ax
/-
lex.Lines: what its loop carries.
-/
set_option linter.unusedSimpArgs false
set_option linter.unusedVariables false
namespace Go.Proofs.YtljlfmmhoceihaaDoor
open Go.RowKit Ax
theorem cf_llines (xs : Array Value) (w : World) : (callFunc 24 xs).run Tryd.prog w = .ok (.enter 24 xs) w := by kernel_rfl
abbrev cL : Cd := .pair (.int .i64) (.sl .str)
noncomputable def codL : Cod Tryd.prog := ⟨50, cL, by kernel_rfl, ⟨.agg #[.int .i64 0, .slice none 0 0], fun w => by kernel_rfl⟩⟩
noncomputable def zeroL : Zero Tryd.prog := ⟨50, ck cL ((0 : Int), []), [.int .i64 0, .slice none 0 0], by kernel_rfl, fun w R σ => .v rfl (.dn .nil)⟩
noncomputable def L4 : Env Tryd.prog := ⟨con_lint :: con_fields :: con_lclo :: L3.con, zeroL :: L3.zero, codL :: L3.cod, L3.sure, L3.base, L3.frz⟩
abbrev spLines : RSpec := ⟨35, [(8, false, .sl .str), (9, false, .int .i64), (10, false, .int .i64)], [], [], fun _ => [], 3, 50, cL, false, fun _ => 3⟩
end Go.Proofs.YtljlfmmhoceihaaDoor
/-
lex.Lines: its loop's trees.
-/
set_option linter.unusedSimpArgs false
set_option linter.unusedVariables false
namespace Go.Proofs.YtljlfmmhoceihaaDoor
open Go.RowKit Ax
noncomputable def tr_llinesL (x : RSpec.X spLines × RSpec.Y spLines × (List (El (RSpec.c spLines)) × Nat)) : T (RRd spLines) :=
 .ite (decide (x.1.2.2.1 < x.1.2.1))
  (.get x.1.1 x.1.2.2.1 (fun v0 =>
   .need (ByteArray.size v0 < (4294967281 : Nat)) (.need (ByteArray.size { data := List.toArray (Go.Lib.cut (Array.toList (ByteArray.data v0)) (Array.toList (ByteArray.data { data := #[(35 : UInt8)] }))).1 } ≤ (4294967296 : Nat)) (.ite (decide ((↑(List.length (Go.Lib.goFieldsP blank { data := List.toArray (Go.Lib.cut (Array.toList (ByteArray.data v0)) (Array.toList (ByteArray.data { data := #[(35 : UInt8)] }))).1 })) : Int) > (0 : Int)))
      (.need (List.length x.2.2.1 = List.length x.2.2.1 ∧ x.2.2.2 = x.2.2.2 ∧ (List.length x.2.2.1 + List.length [(IntKind.wrap .i64 (x.1.2.2.1 + (1 : Int)), Go.Lib.goFieldsP blank { data := List.toArray (Go.Lib.cut (Array.toList (ByteArray.data v0)) (Array.toList (ByteArray.data { data := #[(35 : UInt8)] }))).1 })]) * (nat_lit 31 + (1 : Nat)) ≤ (140737488355328 : Nat) ∧ List.length x.2.2.1 + List.length [(IntKind.wrap .i64 (x.1.2.2.1 + (1 : Int)), Go.Lib.goFieldsP blank { data := List.toArray (Go.Lib.cut (Array.toList (ByteArray.data v0)) (Array.toList (ByteArray.data { data := #[(35 : UInt8)] }))).1 })] ≤ Go.maxLen) (.and
        (.need (List.length x.2.2.1 + List.length [(IntKind.wrap .i64 (x.1.2.2.1 + (1 : Int)), Go.Lib.goFieldsP blank { data := List.toArray (Go.Lib.cut (Array.toList (ByteArray.data v0)) (Array.toList (ByteArray.data { data := #[(35 : UInt8)] }))).1 })] = List.length (x.2.2.1 ++ [(IntKind.wrap .i64 (x.1.2.2.1 + (1 : Int)), Go.Lib.goFieldsP blank { data := List.toArray (Go.Lib.cut (Array.toList (ByteArray.data v0)) (Array.toList (ByteArray.data { data := #[(35 : UInt8)] }))).1 })]) ∧ x.2.2.2 = x.2.2.2) (.ret (.again (x.1.1, (x.1.2.1, (IntKind.wrap .i64 (x.1.2.2.1 + (1 : Int)), ()))) () (some ((x.2.2.1 ++ [(IntKind.wrap .i64 (x.1.2.2.1 + (1 : Int)), Go.Lib.goFieldsP blank { data := List.toArray (Go.Lib.cut (Array.toList (ByteArray.data v0)) (Array.toList (ByteArray.data { data := #[(35 : UInt8)] }))).1 })], x.2.2.2))))))
        (.up (List.length x.2.2.1 + List.length [(IntKind.wrap .i64 (x.1.2.2.1 + (1 : Int)), Go.Lib.goFieldsP blank { data := List.toArray (Go.Lib.cut (Array.toList (ByteArray.data v0)) (Array.toList (ByteArray.data { data := #[(35 : UInt8)] }))).1 })]) (fun v1 =>
         .need (List.length x.2.2.1 + List.length [(IntKind.wrap .i64 (x.1.2.2.1 + (1 : Int)), Go.Lib.goFieldsP blank { data := List.toArray (Go.Lib.cut (Array.toList (ByteArray.data v0)) (Array.toList (ByteArray.data { data := #[(35 : UInt8)] }))).1 })] = List.length (x.2.2.1 ++ [(IntKind.wrap .i64 (x.1.2.2.1 + (1 : Int)), Go.Lib.goFieldsP blank { data := List.toArray (Go.Lib.cut (Array.toList (ByteArray.data v0)) (Array.toList (ByteArray.data { data := #[(35 : UInt8)] }))).1 })]) ∧ v1 = v1) (.ret (.again (x.1.1, (x.1.2.1, (IntKind.wrap .i64 (x.1.2.2.1 + (1 : Int)), ()))) () (some ((x.2.2.1 ++ [(IntKind.wrap .i64 (x.1.2.2.1 + (1 : Int)), Go.Lib.goFieldsP blank { data := List.toArray (Go.Lib.cut (Array.toList (ByteArray.data v0)) (Array.toList (ByteArray.data { data := #[(35 : UInt8)] }))).1 })], v1)))))))))
      (.need (List.length x.2.2.1 = List.length x.2.2.1 ∧ x.2.2.2 = x.2.2.2) (.ret (.again (x.1.1, (x.1.2.1, (IntKind.wrap .i64 (x.1.2.2.1 + (1 : Int)), ()))) () (some x.2.2))))))))
  (.need (List.length x.2.2.1 = List.length x.2.2.1 ∧ x.2.2.2 = x.2.2.2) (.ret (.out (Go.Exit.exit (0 : Nat)) [] () (some x.2.2))))
theorem tr_llinesL_eq (x : RSpec.X spLines × RSpec.Y spLines × (List (El (RSpec.c spLines)) × Nat)) : RSpec.round spLines L4 (fun _ => none) (bodyOf Tryd.f24 0) x.1 x.2.1 (some x.2.2) = tr_llinesL x := by kernel_rfl
noncomputable def tr_llinesL0 (x : RSpec.X spLines × RSpec.Y spLines) : T (RRd spLines) :=
 .ite (decide (x.1.2.2.1 < x.1.2.1))
  (.get x.1.1 x.1.2.2.1 (fun v0 =>
   .need (ByteArray.size v0 < (4294967281 : Nat)) (.need (ByteArray.size { data := List.toArray (Go.Lib.cut (Array.toList (ByteArray.data v0)) (Array.toList (ByteArray.data { data := #[(35 : UInt8)] }))).1 } ≤ (4294967296 : Nat)) (.ite (decide ((↑(List.length (Go.Lib.goFieldsP blank { data := List.toArray (Go.Lib.cut (Array.toList (ByteArray.data v0)) (Array.toList (ByteArray.data { data := #[(35 : UInt8)] }))).1 })) : Int) > (0 : Int)))
      (.need (List.length [(IntKind.wrap .i64 (x.1.2.2.1 + (1 : Int)), Go.Lib.goFieldsP blank { data := List.toArray (Go.Lib.cut (Array.toList (ByteArray.data v0)) (Array.toList (ByteArray.data { data := #[(35 : UInt8)] }))).1 })] * (nat_lit 31 + (1 : Nat)) ≤ (140737488355328 : Nat) ∧ List.length [(IntKind.wrap .i64 (x.1.2.2.1 + (1 : Int)), Go.Lib.goFieldsP blank { data := List.toArray (Go.Lib.cut (Array.toList (ByteArray.data v0)) (Array.toList (ByteArray.data { data := #[(35 : UInt8)] }))).1 })] ≤ Go.maxLen) (.up (List.length [(IntKind.wrap .i64 (x.1.2.2.1 + (1 : Int)), Go.Lib.goFieldsP blank { data := List.toArray (Go.Lib.cut (Array.toList (ByteArray.data v0)) (Array.toList (ByteArray.data { data := #[(35 : UInt8)] }))).1 })]) (fun v1 =>
        .need (List.length [(IntKind.wrap .i64 (x.1.2.2.1 + (1 : Int)), Go.Lib.goFieldsP blank { data := List.toArray (Go.Lib.cut (Array.toList (ByteArray.data v0)) (Array.toList (ByteArray.data { data := #[(35 : UInt8)] }))).1 })] = List.length [(IntKind.wrap .i64 (x.1.2.2.1 + (1 : Int)), Go.Lib.goFieldsP blank { data := List.toArray (Go.Lib.cut (Array.toList (ByteArray.data v0)) (Array.toList (ByteArray.data { data := #[(35 : UInt8)] }))).1 })] ∧ v1 = v1) (.ret (.again (x.1.1, (x.1.2.1, (IntKind.wrap .i64 (x.1.2.2.1 + (1 : Int)), ()))) () (some (([(IntKind.wrap .i64 (x.1.2.2.1 + (1 : Int)), Go.Lib.goFieldsP blank { data := List.toArray (Go.Lib.cut (Array.toList (ByteArray.data v0)) (Array.toList (ByteArray.data { data := #[(35 : UInt8)] }))).1 })], v1))))))))
      (.need (True) (.ret (.again (x.1.1, (x.1.2.1, (IntKind.wrap .i64 (x.1.2.2.1 + (1 : Int)), ()))) () none)))))))
  (.need (True) (.ret (.out (Go.Exit.exit (0 : Nat)) [] () none)))
theorem tr_llinesL0_eq (x : RSpec.X spLines × RSpec.Y spLines) : RSpec.round spLines L4 (fun _ => none) (bodyOf Tryd.f24 0) x.1 x.2 none = tr_llinesL0 x := by kernel_rfl
end Go.Proofs.YtljlfmmhoceihaaDoor
/-
lex.Lines: its loop.
-/
set_option linter.unusedSimpArgs false
set_option linter.unusedVariables false
namespace Go.Proofs.YtljlfmmhoceihaaDoor
open Go.RowKit Ax
def cutM (l : ByteArray) : ByteArray := ⟨(Lib.cut l.data.toList [35]).1.toArray⟩
def wordsOf (l : ByteArray) : List ByteArray := Lib.goFieldsP blank (cutM l)
def linesFrom : List ByteArray → Int → List (Int × List ByteArray)
  | [], _ => []
  | l :: r, i => if (wordsOf l).length > 0 then (i + 1, wordsOf l) :: linesFrom r (i + 1) else linesFrom r (i + 1)
def outLines (x : RSpec.X spLines) (y : RSpec.Y spLines) (g : RSpec.G spLines) : T (Exit × List Av × RSpec.Y spLines × RSpec.G spLines) :=
  .need (0 ≤ x.2.2.1 ∧ x.2.1 = (List.length x.1 : Int) ∧ List.length x.1 ≤ 1000000 ∧ ∀ l ∈ (x.1 : List ByteArray), l.size < 4294967281 ∧ (cutM l).size ≤ 4294967296)
    (match g with
    | none => .ite (decide (linesFrom ((x.1 : List ByteArray).drop x.2.2.1.toNat) x.2.2.1 = [])) (.ret (.exit 0, [], y, none)) (.up 0 fun k => .ret (.exit 0, [], y, some (linesFrom ((x.1 : List ByteArray).drop x.2.2.1.toNat) x.2.2.1, k)))
    | some r => .need ((r.1.length : Int) ≤ x.2.2.1) (.up 0 fun k => .ret (.exit 0, [], y, some ((r.1 : List (Int × List ByteArray)) ++ linesFrom ((x.1 : List ByteArray).drop x.2.2.1.toNat) x.2.2.1, k))))
theorem llinesL_core (l : List ByteArray) (n i : Int) (y : RSpec.Y spLines) (xs : List (Int × List ByteArray)) (cap : Nat) (Q : Exit × List Av × RSpec.Y spLines × RSpec.G spLines → Prop) (h : (outLines (l, n, i, ()) y (some (xs, cap))).wp Q) : (tr_llinesL ((l, n, i, ()), y, (xs, cap))).wp fun r => match r with
      | .again x' y' g' => (x'.2.1 - x'.2.2.1).toNat < (n - i).toNat ∧ (outLines x' y' g').wp Q
      | .out e avs y' g' => Q (e, avs, y', g') := by
  unfold tr_llinesL
  unfold outLines at h ⊢
  simp only [T.wp] at h ⊢
  dsimp only [El, vts, spLines, cL] at h ⊢
  obtain ⟨⟨i0, hn, hl, hw⟩, hr, hq⟩ := h
  refine ⟨fun hlt => ?_, fun hge => ?_⟩
  · have hlt := of_decide_eq_true hlt
    obtain ⟨u, hu⟩ := elem_at (l := l) i0 (by omega)
    have hd := drop_at i0 hu
    obtain ⟨w1, w2⟩ := hw u (List.mem_of_getElem? hu)
    rw [hd, linesFrom] at hq
    refine ⟨u, i0, hu, w1, w2, fun hp => ?_, fun hp => ?_⟩
    · have hp : (wordsOf u).length > 0 := by have := of_decide_eq_true hp; exact Int.ofNat_lt.1 this
      rw [if_pos hp] at hq
      rw [IntWalk.i64_in (i + 1) (by omega)]
      simp only [List.length_append, List.length_cons, List.length_nil, Go.maxLen, List.append_assoc, List.singleton_append, List.cons_append, List.nil_append] at hq ⊢
      exact ⟨⟨trivial, trivial, by omega, by omega⟩, ⟨⟨trivial, trivial⟩, by omega, ⟨by omega, hn, hl, hw⟩, by omega, hq⟩, fun k hk => ⟨⟨trivial, trivial⟩, by omega, ⟨by omega, hn, hl, hw⟩, by omega, hq⟩⟩
    · have hp : ¬ (wordsOf u).length > 0 := by have := of_decide_eq_false hp; exact fun h' => this (Int.ofNat_lt.2 h')
      rw [if_neg hp] at hq
      rw [IntWalk.i64_in (i + 1) (by omega)]
      exact ⟨⟨trivial, trivial⟩, by omega, ⟨by omega, hn, hl, hw⟩, by omega, hq⟩
  · have hge := of_decide_eq_false hge
    rw [drop_end (by omega), linesFrom, List.append_nil] at hq
    exact ⟨⟨trivial, trivial⟩, hq cap (Nat.zero_le _)⟩
theorem llinesL_core0 (l : List ByteArray) (n i : Int) (y : RSpec.Y spLines) (Q : Exit × List Av × RSpec.Y spLines × RSpec.G spLines → Prop) (h : (outLines (l, n, i, ()) y none).wp Q) : (tr_llinesL0 ((l, n, i, ()), y)).wp fun r => match r with
      | .again x' y' g' => (x'.2.1 - x'.2.2.1).toNat < (n - i).toNat ∧ (outLines x' y' g').wp Q
      | .out e avs y' g' => Q (e, avs, y', g') := by
  unfold tr_llinesL0
  unfold outLines at h ⊢
  simp only [T.wp] at h ⊢
  dsimp only [El, vts, spLines, cL] at h ⊢
  obtain ⟨⟨i0, hn, hl, hw⟩, hz, hq⟩ := h
  refine ⟨fun hlt => ?_, fun hge => ?_⟩
  · have hlt := of_decide_eq_true hlt
    obtain ⟨u, hu⟩ := elem_at (l := l) i0 (by omega)
    have hd := drop_at i0 hu
    obtain ⟨w1, w2⟩ := hw u (List.mem_of_getElem? hu)
    rw [hd, linesFrom] at hz hq
    refine ⟨u, i0, hu, w1, w2, fun hp => ?_, fun hp => ?_⟩
    · have hp : (wordsOf u).length > 0 := by have := of_decide_eq_true hp; exact Int.ofNat_lt.1 this
      rw [if_pos hp] at hq
      have hq := hq (decide_eq_false (by simp))
      rw [IntWalk.i64_in (i + 1) (by omega)]
      simp only [List.length_cons, List.length_nil, Go.maxLen, List.singleton_append, List.cons_append, List.nil_append] at hq ⊢
      exact ⟨⟨by omega, by omega⟩, fun k hk => ⟨⟨trivial, trivial⟩, by omega, ⟨by omega, hn, hl, hw⟩, by omega, hq⟩⟩
    · have hp : ¬ (wordsOf u).length > 0 := by have := of_decide_eq_false hp; exact fun h' => this (Int.ofNat_lt.2 h')
      rw [if_neg hp] at hz hq
      rw [IntWalk.i64_in (i + 1) (by omega)]
      exact ⟨trivial, by omega, ⟨by omega, hn, hl, hw⟩, hz, hq⟩
  · have hge := of_decide_eq_false hge
    rw [drop_end (by omega), linesFrom] at hz
    exact ⟨trivial, hz (decide_eq_true rfl)⟩
theorem llinesL_ok : LoopOk Tryd.prog 0 (bodyOf Tryd.f24 0) (spLines.run outLines) :=
  loopR_ok (E := L4) (L := fun _ => none) mixed 0 (loops_none _ _ _) spLines (Nat.zero_le _) outLines (fun x _ _ => (x.2.1 - x.2.2.1).toNat) (by
    rintro ⟨l, n, i, ⟨⟩⟩ y g Q h
    match g, h with
    | some (xs, cap), h =>
      rw [tr_llinesL_eq ((l, n, i, ()), y, (xs, cap))]
      exact llinesL_core l n i y xs cap Q h
    | none, h =>
      rw [tr_llinesL0_eq ((l, n, i, ()), y)]
      exact llinesL_core0 l n i y Q h)
noncomputable def lpLines : Loops := manyL [(3, spLines.run outLines)]
noncomputable def L4f : Env Tryd.prog := L4.fz [(10, [3])]
end Go.Proofs.YtljlfmmhoceihaaDoor
/-
lex.Lines: its tree.
-/
set_option linter.unusedSimpArgs false
set_option linter.unusedVariables false
namespace Go.Proofs.YtljlfmmhoceihaaDoor
open Go.RowKit Ax
noncomputable def tr_llines (x : Els [(false, .str)]) : T Av :=
 .need ((1 : Nat) ≤ ByteArray.size { data := #[(10 : UInt8)] } ∧ ByteArray.size (x.1) < (4294967281 : Nat)) (.need (True) (.need ((0 : El (Cd.int .i64)) ≤ (0 : Int) ∧ (↑(List.length (splitL (x.1) { data := #[(10 : UInt8)] })) : Int) = (↑(List.length (splitL (x.1) { data := #[(10 : UInt8)] })) : Int) ∧ List.length (splitL (x.1) { data := #[(10 : UInt8)] }) ≤ (1000000 : Nat) ∧ ∀ (l : El Cd.str), l ∈ splitL (x.1) { data := #[(10 : UInt8)] } → ByteArray.size l < (4294967281 : Nat) ∧ ByteArray.size (cutM l) ≤ (4294967296 : Nat)) (.ite (decide (linesFrom (List.drop (Int.toNat (0 : Int)) (splitL (x.1) { data := #[(10 : UInt8)] })) (0 : Int) = []))
     (.ret (.one (.v (Go.Value.slice Option.none (0 : Nat) (0 : Nat)))))
     (.up ((0 : Nat)) (fun v0 =>
      .need (List.length (linesFrom (List.drop (Int.toNat (0 : Int)) (splitL (x.1) { data := #[(10 : UInt8)] })) (0 : Int)) ≤ List.length (linesFrom (List.drop (Int.toNat (0 : Int)) (splitL (x.1) { data := #[(10 : UInt8)] })) (0 : Int))) (.ret (.one (.ds (Cd.pair (Cd.int .i64) (Cd.sl Cd.str)) (List.take (List.length (linesFrom (List.drop (Int.toNat (0 : Int)) (splitL (x.1) { data := #[(10 : UInt8)] })) (0 : Int))) (linesFrom (List.drop (Int.toNat (0 : Int)) (splitL (x.1) { data := #[(10 : UInt8)] })) (0 : Int)))))))))))
theorem tr_llines_eq (x : Els [(false, .str)]) : fnP L4f lpLines Tryd.f24 (encs [(false, .str)] x) = tr_llines x := by kernel_rfl
end Go.Proofs.YtljlfmmhoceihaaDoor
/-
lex.Lines: what it tells.
-/
set_option linter.unusedSimpArgs false
set_option linter.unusedVariables false
namespace Go.Proofs.YtljlfmmhoceihaaDoor
open Go.RowKit Ax
theorem val_con_w {P : Program} {E : Env P} {L : Loops} {f : FuncId} {fn : Func} (hm : P.follows .mixedOrders = true) (hf : P.funcs[f]? = some fn) (hL : ∀ c, fn.body = some c → LoopsOk P 0 L c) (ts : List (Bool × Cd)) (pre : Els ts → Prop) (F : Els ts → Av)
    (h : ∀ x, pre x → (fnP E L fn (encs ts x)).wp (fun a => ∀ w R σ v, AvIs w R σ a v → AvIs w R σ (F x) v)) : ConOk P f [] (pureRun' ts fun x => .need (pre x) (.ret (F x))) := by
  refine con_weaken (con_ok (E := E) (L := L) hm hf hL ts (fun x => fnP E L fn (encs ts x)) (fun x Q h => h)) fun args m Q hq => ?_
  unfold pureRun' at hq ⊢
  split at hq
  · rw [T.wp_bind] at hq ⊢
    exact T.wp_mono (fun a ha => ⟨_, hq.2, ha⟩) (h _ hq.1)
  · exact hq.elim
theorem nil_av1 {w : World} {R : Nat → Prop} {σ : List Nat} {c : Cd} {v : Value} (h : AvIs w R σ (.one (.v (.slice none 0 0))) v) : AvIs w R σ (.one (.ds c [])) v := by
  rw [val_of h rfl]
  exact .one rfl (.dn .nil)
def nl : ByteArray := ⟨#[10]⟩
/-- a text's lines that have words -/
def linesOf (s : ByteArray) : List (Int × List ByteArray) := linesFrom (splitL s nl) 0
/-- what the lines of a text may be -/
def LinesFit (s : ByteArray) : Prop := s.size < 4294967281 ∧ (splitL s nl).length ≤ 1000000 ∧ ∀ l ∈ splitL s nl, l.size < 4294967281 ∧ (cutM l).size ≤ 4294967296
noncomputable def con_llines : Con Tryd.prog := ⟨24, [], _, cf_llines, val_con_w (E := L4f) (L := lpLines) mixed Tryd.func24 (many_loops (by kernel_rfl) (by simp) (fun i p hp => by
    match i, hp with
    | 0, hp => cases hp; exact llinesL_ok
    | i + 1, hp => simp at hp)) [(false, .str)] (fun x => LinesFit x.1) (fun x => .one (.ds cL (linesOf x.1))) fun x hx => by
  rw [tr_llines_eq]
  obtain ⟨s, u⟩ := x
  revert s
  intro (s : ByteArray) (hx : LinesFit s)
  obtain ⟨h1, h2, h3⟩ := hx
  unfold tr_llines
  simp only [T.wp]
  refine ⟨⟨by decide, h1⟩, trivial, ⟨Int.le_refl 0, trivial, h2, h3⟩, fun he => ?_, fun he k hk => ⟨Nat.le_refl _, ?_⟩⟩
  · have he : linesOf s = [] := of_decide_eq_true he
    rw [he]
    exact fun w R σ v hv => nil_av1 hv
  · rw [List.take_length]
    exact fun w R σ v hv => hv⟩
end Go.Proofs.YtljlfmmhoceihaaDoor
/-
parquetref6.Int: what its loop carries.
-/
set_option linter.unusedSimpArgs false
set_option linter.unusedVariables false
namespace Go.Proofs.YtljlfmmhoceihaaDoor
open Go.RowKit Ax
noncomputable def L5 : Env Tryd.prog := ⟨con_llines :: L4.con, L4.zero, L4.cod, L4.sure, L4.base, L4.frz⟩
abbrev spInt : LSpec := ⟨68, [(0, false, .str), (4, false, .str), (5, false, .int .i64), (6, false, .int .i64)], [], [], fun e => match e with | .ret => [2, 3] | .exit _ => [0, 4, 5] | _ => []⟩
end Go.Proofs.YtljlfmmhoceihaaDoor
/-
parquetref6.Int: its loop's tree.
-/
set_option linter.unusedSimpArgs false
set_option linter.unusedVariables false
namespace Go.Proofs.YtljlfmmhoceihaaDoor
open Go.RowKit Ax
noncomputable def tr_rintL (x : LSpec.X spInt × LSpec.Y spInt) : T (Rd spInt) :=
 .ite (decide (x.1.2.2.2.1 < (↑(ByteArray.size x.1.2.1) : Int)))
  (.get (Array.toList (ByteArray.data x.1.2.1)) x.1.2.2.2.1 (fun v0 =>
   .ite (decide ((↑(UInt8.toNat v0) : Int) < (48 : Int)))
    (.ret (.out (Go.Exit.ret) [(.one (.v (.int .i64 ((0 : Int))))), (.one (.v (.bool (false))))] ()))
    (.get (Array.toList (ByteArray.data x.1.2.1)) x.1.2.2.2.1 (fun v1 =>
     .ite (decide ((↑(UInt8.toNat v1) : Int) > (57 : Int)))
      (.ret (.out (Go.Exit.ret) [(.one (.v (.int .i64 ((0 : Int))))), (.one (.v (.bool (false))))] ()))
      (.get (Array.toList (ByteArray.data x.1.2.1)) x.1.2.2.2.1 (fun v2 =>
       .ret (.again (x.1.1, (x.1.2.1, (IntKind.wrap .i64 (IntKind.wrap .i64 (x.1.2.2.1 * (10 : Int)) + IntKind.wrap .i64 (IntKind.wrap .u8 ((↑(UInt8.toNat v2) : Int) - (48 : Int)))), (IntKind.wrap .i64 (x.1.2.2.2.1 + (1 : Int)), ())))) ())))))))
  (.ret (.out (Go.Exit.exit (0 : Nat)) [(.one (.v (.string x.1.1))), (.one (.v (.string x.1.2.1))), (.one (.v (.int .i64 x.1.2.2.1)))] ()))
theorem tr_rintL_eq (x : LSpec.X spInt × LSpec.Y spInt) : LSpec.round spInt L5 (fun _ => none) (bodyOf Tryd.f22 0) x.1 x.2 = tr_rintL x := by kernel_rfl
end Go.Proofs.YtljlfmmhoceihaaDoor
/-
parquetref6.Int: its loop.
-/
set_option linter.unusedSimpArgs false
set_option linter.unusedVariables false
namespace Go.Proofs.YtljlfmmhoceihaaDoor
open Go.RowKit Ax
def dgAll (l : List UInt8) : Bool := l.all fun c => decide (48 ≤ c.toNat) && decide (c.toNat ≤ 57)
def dgVal : Int → List UInt8 → Int
  | n, [] => n
  | n, c :: r => dgVal (n * 10 + ((c.toNat : Int) - 48)) r
def outInt (x : LSpec.X spInt) (y : LSpec.Y spInt) : T (Exit × List Av × LSpec.Y spInt) :=
  .need (0 ≤ x.2.2.2.1 ∧ x.2.2.2.1 ≤ (ByteArray.size x.2.1 : Int) ∧ ByteArray.size x.2.1 ≤ 9 ∧ 0 ≤ x.2.2.1 ∧ x.2.2.1 < 10 ^ x.2.2.2.1.toNat)
    (.ite (dgAll (x.2.1.data.toList.drop x.2.2.2.1.toNat)) (.ret (.exit 0, [.one (.v (.string x.1)), .one (.v (.string x.2.1)), .one (.v (.int .i64 (dgVal x.2.2.1 (x.2.1.data.toList.drop x.2.2.2.1.toNat))))], ())) (.ret (.ret, [.one (.v (.int .i64 0)), .one (.v (.bool false))], ())))
theorem rintL_core (s t : ByteArray) (n i : Int) (Q : Exit × List Av × LSpec.Y spInt → Prop) (h : (outInt (s, t, n, i, ()) ()).wp Q) : (tr_rintL ((s, t, n, i, ()), ())).wp fun r => match r with
      | .again x' y' => ((ByteArray.size x'.2.1 : Int) - x'.2.2.2.1).toNat < ((t.size : Int) - i).toNat ∧ (outInt x' y').wp Q
      | .out e avs y' => Q (e, avs, y') := by
  unfold tr_rintL
  unfold outInt at h ⊢
  simp only [T.wp] at h ⊢
  dsimp only [El, vts, spInt] at h ⊢
  obtain ⟨⟨i0, i1, ht, n0, n1⟩, hy, hz⟩ := h
  have hsz : t.data.toList.length = t.size := rfl
  refine ⟨fun hlt => ?_, fun hge => ?_⟩
  · have hlt := of_decide_eq_true hlt
    obtain ⟨u, hu⟩ := elem_at (l := t.data.toList) i0 (by rw [hsz]; exact hlt)
    have hd := drop_at i0 hu
    have hb : u.toNat < 256 := u.toNat_lt
    rw [hd] at hy hz
    unfold dgAll at hy hz
    rw [List.all_cons] at hy hz
    refine ⟨u, i0, hu, fun h1 => ?_, fun h1 => ⟨u, i0, hu, fun h2 => ?_, fun h2 => ⟨u, i0, hu, ?_⟩⟩⟩
    · have h1 := of_decide_eq_true h1
      exact hz (by rw [decide_eq_false (show ¬ 48 ≤ u.toNat by omega)]; rfl)
    · have h2 := of_decide_eq_true h2
      exact hz (by rw [decide_eq_false (show ¬ u.toNat ≤ 57 by omega), Bool.and_false]; rfl)
    · have h1 := of_decide_eq_false h1
      have h2 := of_decide_eq_false h2
      rw [decide_eq_true (show 48 ≤ u.toNat by omega), decide_eq_true (show u.toNat ≤ 57 by omega), Bool.and_self, Bool.true_and] at hy hz
      rw [dgVal] at hy
      obtain ⟨k, hk⟩ : ∃ k : Nat, i = k := ⟨i.toNat, by omega⟩
      subst hk
      have hk8 : k ≤ 8 := by omega
      have hp : (10 : Int) ^ k ≤ 10 ^ 8 := by
        have : 10 ^ k ≤ 10 ^ 8 := Nat.pow_le_pow_right (by decide) hk8
        exact_mod_cast this
      rw [Int.toNat_natCast] at n1
      have hp8 : (10 : Int) ^ 8 = 100000000 := by decide
      have e1 : ((k : Int) + 1).toNat = k + 1 := by omega
      rw [IntWalk.u8_in ((u.toNat : Int) - 48) (by omega), IntWalk.i64_in ((u.toNat : Int) - 48) (by omega), IntWalk.i64_in (n * 10) (by omega), IntWalk.i64_in (n * 10 + ((u.toNat : Int) - 48)) (by omega), IntWalk.i64_in ((k : Int) + 1) (by omega)]
      refine ⟨by omega, ⟨by omega, by omega, ht, by omega, ?_⟩, hy, hz⟩
      rw [e1, Int.pow_succ]
      omega
  · have hge := of_decide_eq_false hge
    rw [drop_end (by rw [hsz]; omega)] at hy
    exact hy rfl
theorem rintL_ok : LoopOk Tryd.prog 0 (bodyOf Tryd.f22 0) (spInt.run outInt) :=
  loop_ok (E := L5) (L := fun _ => none) mixed 0 (loops_none _ _ _) spInt (Nat.zero_le _) outInt (fun x _ => ((ByteArray.size x.2.1 : Int) - x.2.2.2.1).toNat) (by
    rintro ⟨s, t, n, i, ⟨⟩⟩ ⟨⟩ Q h
    rw [tr_rintL_eq ((s, t, n, i, ()), ())]
    exact rintL_core s t n i Q h)
noncomputable def lpInt : Loops := oneL 8 (spInt.run outInt)
end Go.Proofs.YtljlfmmhoceihaaDoor
/-
parquetref6.Int: its tree.
-/
set_option linter.unusedSimpArgs false
set_option linter.unusedVariables false
namespace Go.Proofs.YtljlfmmhoceihaaDoor
open Go.RowKit Ax
noncomputable def tr_rint (x : Els [(false, .str)]) : T Av :=
 .ite (decide ((↑(ByteArray.size (x.1)) : Int) > (0 : Int)))
  (.get (Array.toList (ByteArray.data (x.1))) ((0 : Int)) (fun v0 =>
   .ite ((↑(UInt8.toNat v0) : Int) == (45 : Int))
    (.need ((0 : Int) ≤ (1 : Int) ∧ (1 : Int) ≤ (↑(ByteArray.size (x.1)) : Int) ∧ (↑(ByteArray.size (x.1)) : Int) ≤ (↑(ByteArray.size (x.1)) : Int)) (.lt (ByteArray.extract (x.1) (Int.toNat (1 : Int)) (Int.toNat (↑(ByteArray.size (x.1)) : Int))) (fun v1 =>
      .ite (decide ((↑(ByteArray.size v1) : Int) < (1 : Int)))
       (.ret (.tup [(.one (.v (.int .i64 ((0 : Int))))), (.one (.v (.bool (false))))]))
       (.ite (decide ((↑(ByteArray.size v1) : Int) > (9 : Int)))
        (.ret (.tup [(.one (.v (.int .i64 ((0 : Int))))), (.one (.v (.bool (false))))]))
        (.get (Array.toList (ByteArray.data v1)) ((0 : Int)) (fun v2 =>
         .ite ((↑(UInt8.toNat v2) : Int) == (48 : Int))
          (.ite (decide ((↑(ByteArray.size (x.1)) : Int) > (1 : Int)))
           (.ret (.tup [(.one (.v (.int .i64 ((0 : Int))))), (.one (.v (.bool (false))))]))
           (.need ((0 : El (Cd.int .i64)) ≤ (0 : Int) ∧ (0 : Int) ≤ (↑(ByteArray.size v1) : Int) ∧ ByteArray.size v1 ≤ (9 : Nat) ∧ (0 : El (Cd.int .i64)) ≤ (0 : Int) ∧ (0 : Int) < (10 : El (Cd.int .i64)) ^ Int.toNat (0 : Int)) (.ite (dgAll (List.drop (Int.toNat (0 : Int)) (Array.toList (ByteArray.data v1))))
             (.ite (decide ((↑(ByteArray.size v1) : Int) < (↑(ByteArray.size (x.1)) : Int)))
              (.ret (.tup [(.one (.v (.int .i64 (IntKind.wrap .i64 ((0 : Int) - dgVal (0 : Int) (List.drop (Int.toNat (0 : Int)) (Array.toList (ByteArray.data v1)))))))), (.one (.v (.bool (true))))]))
              (.ret (.tup [(.one (.v (.int .i64 (dgVal (0 : Int) (List.drop (Int.toNat (0 : Int)) (Array.toList (ByteArray.data v1))))))), (.one (.v (.bool (true))))])))
             (.ret (.tup [(.one (.v (.int .i64 ((0 : Int))))), (.one (.v (.bool (false))))])))))
          (.need ((0 : El (Cd.int .i64)) ≤ (0 : Int) ∧ (0 : Int) ≤ (↑(ByteArray.size v1) : Int) ∧ ByteArray.size v1 ≤ (9 : Nat) ∧ (0 : El (Cd.int .i64)) ≤ (0 : Int) ∧ (0 : Int) < (10 : El (Cd.int .i64)) ^ Int.toNat (0 : Int)) (.ite (dgAll (List.drop (Int.toNat (0 : Int)) (Array.toList (ByteArray.data v1))))
            (.ite (decide ((↑(ByteArray.size v1) : Int) < (↑(ByteArray.size (x.1)) : Int)))
             (.ret (.tup [(.one (.v (.int .i64 (IntKind.wrap .i64 ((0 : Int) - dgVal (0 : Int) (List.drop (Int.toNat (0 : Int)) (Array.toList (ByteArray.data v1)))))))), (.one (.v (.bool (true))))]))
             (.ret (.tup [(.one (.v (.int .i64 (dgVal (0 : Int) (List.drop (Int.toNat (0 : Int)) (Array.toList (ByteArray.data v1))))))), (.one (.v (.bool (true))))])))
            (.ret (.tup [(.one (.v (.int .i64 ((0 : Int))))), (.one (.v (.bool (false))))]))))))))))
    (.ite (decide ((↑(ByteArray.size (x.1)) : Int) < (1 : Int)))
     (.ret (.tup [(.one (.v (.int .i64 ((0 : Int))))), (.one (.v (.bool (false))))]))
     (.ite (decide ((↑(ByteArray.size (x.1)) : Int) > (9 : Int)))
      (.ret (.tup [(.one (.v (.int .i64 ((0 : Int))))), (.one (.v (.bool (false))))]))
      (.get (Array.toList (ByteArray.data (x.1))) ((0 : Int)) (fun v1 =>
       .ite ((↑(UInt8.toNat v1) : Int) == (48 : Int))
        (.ite (decide ((↑(ByteArray.size (x.1)) : Int) > (1 : Int)))
         (.ret (.tup [(.one (.v (.int .i64 ((0 : Int))))), (.one (.v (.bool (false))))]))
         (.need ((0 : El (Cd.int .i64)) ≤ (0 : Int) ∧ (0 : Int) ≤ (↑(ByteArray.size (x.1)) : Int) ∧ ByteArray.size (x.1) ≤ (9 : Nat) ∧ (0 : El (Cd.int .i64)) ≤ (0 : Int) ∧ (0 : Int) < (10 : El (Cd.int .i64)) ^ Int.toNat (0 : Int)) (.ite (dgAll (List.drop (Int.toNat (0 : Int)) (Array.toList (ByteArray.data (x.1)))))
           (.ite (decide ((↑(ByteArray.size (x.1)) : Int) < (↑(ByteArray.size (x.1)) : Int)))
            (.ret (.tup [(.one (.v (.int .i64 (IntKind.wrap .i64 ((0 : Int) - dgVal (0 : Int) (List.drop (Int.toNat (0 : Int)) (Array.toList (ByteArray.data (x.1))))))))), (.one (.v (.bool (true))))]))
            (.ret (.tup [(.one (.v (.int .i64 (dgVal (0 : Int) (List.drop (Int.toNat (0 : Int)) (Array.toList (ByteArray.data (x.1)))))))), (.one (.v (.bool (true))))])))
           (.ret (.tup [(.one (.v (.int .i64 ((0 : Int))))), (.one (.v (.bool (false))))])))))
        (.need ((0 : El (Cd.int .i64)) ≤ (0 : Int) ∧ (0 : Int) ≤ (↑(ByteArray.size (x.1)) : Int) ∧ ByteArray.size (x.1) ≤ (9 : Nat) ∧ (0 : El (Cd.int .i64)) ≤ (0 : Int) ∧ (0 : Int) < (10 : El (Cd.int .i64)) ^ Int.toNat (0 : Int)) (.ite (dgAll (List.drop (Int.toNat (0 : Int)) (Array.toList (ByteArray.data (x.1)))))
          (.ite (decide ((↑(ByteArray.size (x.1)) : Int) < (↑(ByteArray.size (x.1)) : Int)))
           (.ret (.tup [(.one (.v (.int .i64 (IntKind.wrap .i64 ((0 : Int) - dgVal (0 : Int) (List.drop (Int.toNat (0 : Int)) (Array.toList (ByteArray.data (x.1))))))))), (.one (.v (.bool (true))))]))
           (.ret (.tup [(.one (.v (.int .i64 (dgVal (0 : Int) (List.drop (Int.toNat (0 : Int)) (Array.toList (ByteArray.data (x.1)))))))), (.one (.v (.bool (true))))])))
          (.ret (.tup [(.one (.v (.int .i64 ((0 : Int))))), (.one (.v (.bool (false))))]))))))))))
  (.ite (decide ((↑(ByteArray.size (x.1)) : Int) < (1 : Int)))
   (.ret (.tup [(.one (.v (.int .i64 ((0 : Int))))), (.one (.v (.bool (false))))]))
   (.ite (decide ((↑(ByteArray.size (x.1)) : Int) > (9 : Int)))
    (.ret (.tup [(.one (.v (.int .i64 ((0 : Int))))), (.one (.v (.bool (false))))]))
    (.get (Array.toList (ByteArray.data (x.1))) ((0 : Int)) (fun v0 =>
     .ite ((↑(UInt8.toNat v0) : Int) == (48 : Int))
      (.ite (decide ((↑(ByteArray.size (x.1)) : Int) > (1 : Int)))
       (.ret (.tup [(.one (.v (.int .i64 ((0 : Int))))), (.one (.v (.bool (false))))]))
       (.need ((0 : El (Cd.int .i64)) ≤ (0 : Int) ∧ (0 : Int) ≤ (↑(ByteArray.size (x.1)) : Int) ∧ ByteArray.size (x.1) ≤ (9 : Nat) ∧ (0 : El (Cd.int .i64)) ≤ (0 : Int) ∧ (0 : Int) < (10 : El (Cd.int .i64)) ^ Int.toNat (0 : Int)) (.ite (dgAll (List.drop (Int.toNat (0 : Int)) (Array.toList (ByteArray.data (x.1)))))
         (.ite (decide ((↑(ByteArray.size (x.1)) : Int) < (↑(ByteArray.size (x.1)) : Int)))
          (.ret (.tup [(.one (.v (.int .i64 (IntKind.wrap .i64 ((0 : Int) - dgVal (0 : Int) (List.drop (Int.toNat (0 : Int)) (Array.toList (ByteArray.data (x.1))))))))), (.one (.v (.bool (true))))]))
          (.ret (.tup [(.one (.v (.int .i64 (dgVal (0 : Int) (List.drop (Int.toNat (0 : Int)) (Array.toList (ByteArray.data (x.1)))))))), (.one (.v (.bool (true))))])))
         (.ret (.tup [(.one (.v (.int .i64 ((0 : Int))))), (.one (.v (.bool (false))))])))))
      (.need ((0 : El (Cd.int .i64)) ≤ (0 : Int) ∧ (0 : Int) ≤ (↑(ByteArray.size (x.1)) : Int) ∧ ByteArray.size (x.1) ≤ (9 : Nat) ∧ (0 : El (Cd.int .i64)) ≤ (0 : Int) ∧ (0 : Int) < (10 : El (Cd.int .i64)) ^ Int.toNat (0 : Int)) (.ite (dgAll (List.drop (Int.toNat (0 : Int)) (Array.toList (ByteArray.data (x.1)))))
        (.ite (decide ((↑(ByteArray.size (x.1)) : Int) < (↑(ByteArray.size (x.1)) : Int)))
         (.ret (.tup [(.one (.v (.int .i64 (IntKind.wrap .i64 ((0 : Int) - dgVal (0 : Int) (List.drop (Int.toNat (0 : Int)) (Array.toList (ByteArray.data (x.1))))))))), (.one (.v (.bool (true))))]))
         (.ret (.tup [(.one (.v (.int .i64 (dgVal (0 : Int) (List.drop (Int.toNat (0 : Int)) (Array.toList (ByteArray.data (x.1)))))))), (.one (.v (.bool (true))))])))
        (.ret (.tup [(.one (.v (.int .i64 ((0 : Int))))), (.one (.v (.bool (false))))]))))))))
theorem tr_rint_eq (x : Els [(false, .str)]) : fnP L5 lpInt Tryd.f22 (encs [(false, .str)] x) = tr_rint x := by kernel_rfl
end Go.Proofs.YtljlfmmhoceihaaDoor
/-
Numbers of nine digits: the library's reading against the document's (plain).
-/
set_option linter.unusedSimpArgs false
set_option linter.unusedVariables false
namespace Go.Proofs.YtljlfmmhoceihaaDoor
open Go.RowKit Ax
theorem dgVal_app (a b : List UInt8) : ∀ n, dgVal n (a ++ b) = dgVal (dgVal n a) b := by
  induction a with
  | nil => intro n; rfl
  | cons c r ih => intro n; exact ih _
theorem dgAll_app (a b : List UInt8) : dgAll (a ++ b) = (dgAll a && dgAll b) := List.all_append
theorem dgAll_cons (c : UInt8) (r : List UInt8) : dgAll (c :: r) = (decide (48 ≤ c.toNat) && decide (c.toNat ≤ 57) && dgAll r) := rfl
theorem dg_one {u : Nat} (h : u < 10) : (UInt8.ofNat (48 + u)).toNat = 48 + u := by
  rw [UInt8.toNat_ofNat']; omega
theorem dgAll_one {u : Nat} (h : u < 10) : dgAll [UInt8.ofNat (48 + u)] = true := by
  rw [dgAll_cons, dg_one h, decide_eq_true (by omega), decide_eq_true (by omega)]; rfl
theorem dgVal_one {u : Nat} (h : u < 10) (n : Int) : dgVal n [UInt8.ofNat (48 + u)] = n * 10 + u := by
  rw [dgVal, dgVal, dg_one h]; omega
theorem dec_small {n : Nat} (h : n < 10) : Lib.decDigits n = [UInt8.ofNat (48 + n)] := by rw [Lib.decDigits, dif_pos h]
theorem dec_big {n : Nat} (h : ¬ n < 10) : Lib.decDigits n = Lib.decDigits (n / 10) ++ [UInt8.ofNat (48 + n % 10)] := by rw [Lib.decDigits, dif_neg h]
theorem dec_all (n : Nat) : dgAll (Lib.decDigits n) = true := by
  induction n using Nat.strongRecOn with
  | _ n ih =>
    by_cases h : n < 10
    · rw [dec_small h]; exact dgAll_one h
    · rw [dec_big h, dgAll_app, ih (n / 10) (by omega), dgAll_one (by omega)]; rfl
theorem dec_val (n : Nat) : dgVal 0 (Lib.decDigits n) = n := by
  induction n using Nat.strongRecOn with
  | _ n ih =>
    by_cases h : n < 10
    · rw [dec_small h, dgVal_one h]; omega
    · rw [dec_big h, dgVal_app, ih (n / 10) (by omega), dgVal_one (by omega)]; omega
theorem dec_head (n : Nat) : ∃ c r, Lib.decDigits n = c :: r ∧ 48 ≤ c.toNat ∧ c.toNat ≤ 57 ∧ (c = 48 → n = 0 ∧ r = []) := by
  induction n using Nat.strongRecOn with
  | _ n ih =>
    by_cases h : n < 10
    · rw [dec_small h]
      refine ⟨_, [], rfl, by rw [dg_one h]; omega, by rw [dg_one h]; omega, fun e => ⟨?_, rfl⟩⟩
      have := dg_one h
      rw [e] at this
      have e48 : (48 : UInt8).toNat = 48 := rfl
      omega
    · obtain ⟨c, r, e, h1, h2, h3⟩ := ih (n / 10) (by omega)
      rw [dec_big h, e]
      refine ⟨c, r ++ _, rfl, h1, h2, fun e => ?_⟩
      have := (h3 e).1
      omega
theorem digit_of {c : UInt8} {r : List UInt8} (h : dgAll (c :: r) = true) : 48 ≤ c.toNat ∧ c.toNat ≤ 57 ∧ dgAll r = true := by
  rw [dgAll_cons, Bool.and_eq_true, Bool.and_eq_true, decide_eq_true_eq, decide_eq_true_eq] at h
  exact ⟨h.1.1, h.1.2, h.2⟩
theorem parse_dg : ∀ (t : List UInt8) (acc : Nat), dgAll t = true → (acc + 1) * 10 ^ t.length ≤ 1000000000000000000 → ∃ u : Nat, Lib.parseUint10 acc t = .ok u ∧ (u : Int) = dgVal acc t ∧ u < (acc + 1) * 10 ^ t.length
  | [], acc, _, h => ⟨acc, rfl, rfl, by simp⟩
  | c :: r, acc, hd, h => by
    obtain ⟨h1, h2, h3⟩ := digit_of hd
    rw [List.length_cons, Nat.pow_succ] at h
    have e : (acc + 1) * (10 ^ r.length * 10) = (acc + 1) * 10 * 10 ^ r.length := by rw [Nat.mul_comm (10 ^ r.length) 10, Nat.mul_assoc]
    rw [e] at h
    have hle : (acc * 10 + (c.toNat - 48) + 1) * 10 ^ r.length ≤ (acc + 1) * 10 * 10 ^ r.length := Nat.mul_le_mul_right _ (by omega)
    have hp : 1 ≤ 10 ^ r.length := Nat.one_le_pow _ _ (by decide)
    have hb : (acc + 1) * 10 ≤ (acc + 1) * 10 * 10 ^ r.length := Nat.le_mul_of_pos_right _ hp
    obtain ⟨u, g1, g2, g3⟩ := parse_dg r (acc * 10 + (c.toNat - 48)) h3 (by omega)
    refine ⟨u, ?_, ?_, ?_⟩
    · rw [Lib.parseUint10, if_pos ⟨h1, h2⟩, if_neg (by omega), if_neg (by omega)]; exact g1
    · rw [g2, dgVal]; congr 1; omega
    · rw [List.length_cons, Nat.pow_succ, e]; omega
theorem byte_of {c : UInt8} {k : Nat} (h : c.toNat = k) : c = UInt8.ofNat k := by
  subst h; exact (UInt8.ofNat_toNat).symm
theorem dec_of : ∀ (k : Nat) (t : List UInt8), t.length = k → dgAll t = true → t ≠ [] → (t.head? = some 48 → t.length = 1) → ∃ u : Nat, (u : Int) = dgVal 0 t ∧ Lib.decDigits u = t ∧ (t.head? ≠ some 48 → 0 < u)
  | k, t, hk, hd, h0, hz => by
    rcases List.eq_nil_or_concat t with e | ⟨t', c, e⟩
    · exact absurd e h0
    · rw [List.concat_eq_append] at e
      subst e
      rw [dgAll_app, Bool.and_eq_true] at hd
      obtain ⟨h1, h2, _⟩ := digit_of hd.2
      have ec : UInt8.ofNat (48 + (c.toNat - 48)) = c := (byte_of (by omega)).symm
      by_cases ht : t' = []
      · subst ht
        refine ⟨c.toNat - 48, ?_, ?_, fun hne => ?_⟩
        · rw [List.nil_append, dgVal, dgVal]; omega
        · rw [dec_small (by omega), ec]; rfl
        · have hc : c ≠ 48 := fun e => hne (by rw [e]; rfl)
          have : c.toNat ≠ 48 := fun e => hc (byte_of e)
          omega
      · obtain ⟨a, r, rfl⟩ : ∃ a r, t' = a :: r := by
          cases t' with
          | nil => exact absurd rfl ht
          | cons a r => exact ⟨a, r, rfl⟩
        have hne : ((a :: r) ++ [c]).head? ≠ some 48 := fun e => by have := hz e; simp at this
        have hne' : (a :: r).head? ≠ some 48 := hne
        simp only [List.length_append, List.length_cons, List.length_nil] at hk
        obtain ⟨u, g1, g2, g3⟩ := dec_of (k - 1) (a :: r) (by simp only [List.length_cons]; omega) hd.1 ht (fun e => absurd e hne')
        have := g3 hne'
        refine ⟨u * 10 + (c.toNat - 48), ?_, ?_, fun _ => by omega⟩
        · rw [dgVal_app, ← g1, dgVal, dgVal]; omega
        · rw [dec_big (by omega), show (u * 10 + (c.toNat - 48)) / 10 = u by omega, show (u * 10 + (c.toNat - 48)) % 10 = c.toNat - 48 by omega, g2, ec]
termination_by k => k
decreasing_by
  simp only [List.length_append, List.length_cons, List.length_nil] at hk
  omega
/-- without its sign -/
def unm : List UInt8 → List UInt8
  | [] => []
  | c :: r => if c = 45 then r else c :: r
def numB (l : List UInt8) : Bool := decide (1 ≤ (unm l).length) && decide ((unm l).length ≤ 9) && !(decide ((unm l).head? = some 48) && decide (1 < l.length)) && dgAll (unm l)
def numV (l : List UInt8) : Int := if (unm l).length < l.length then - dgVal 0 (unm l) else dgVal 0 (unm l)
theorem trimM_size (s : ByteArray) : (trimM s).size = (unm s.data.toList).length := by
  obtain ⟨⟨l⟩⟩ := s
  show (Lib.trimPrefix l [45]).length = (unm l).length
  cases l with
  | nil => rfl
  | cons c r =>
    by_cases h : c = 45
    · subst h
      have hu : unm (45 :: r) = r := rfl
      unfold Lib.trimPrefix Lib.hasPrefix
      rw [hu]; simp
    · have hu : unm (c :: r) = c :: r := by rw [unm, if_neg h]
      have : ([45].isPrefixOf (c :: r)) = false := by
        show ((45 == c) && _) = false
        rw [beq_false_of_ne (Ne.symm h)]; rfl
      unfold Lib.trimPrefix Lib.hasPrefix
      rw [this, hu]; rfl
theorem itoa_num {v : Int} (h : (unm (Lib.itoa v)).length ≤ 9) : numB (Lib.itoa v) = true ∧ numV (Lib.itoa v) = v := by
  unfold Lib.itoa at h ⊢
  by_cases hv : v < 0
  · rw [if_pos hv] at h ⊢
    obtain ⟨c, r, e, h1, h2, h3⟩ := dec_head v.natAbs
    have hu : unm (45 :: Lib.decDigits v.natAbs) = Lib.decDigits v.natAbs := rfl
    unfold numB numV
    rw [hu] at h ⊢
    refine ⟨?_, ?_⟩
    · rw [dec_all, decide_eq_true h, e]
      have hc : c ≠ 48 := fun e => by have := (h3 e).1; omega
      simp [hc]
    · rw [if_pos (by simp), dec_val]; omega
  · rw [if_neg hv] at h ⊢
    obtain ⟨c, r, e, h1, h2, h3⟩ := dec_head v.toNat
    have hc : c ≠ 45 := fun e => by subst e; exact absurd h1 (by decide)
    have hu : unm (Lib.decDigits v.toNat) = Lib.decDigits v.toNat := by rw [e, unm, if_neg hc]
    unfold numB numV
    rw [hu] at h ⊢
    refine ⟨?_, ?_⟩
    · rw [dec_all, decide_eq_true h, e]
      by_cases h48 : c = 48
      · rw [(h3 h48).2]; simp
      · simp [h48]
    · rw [if_neg (Nat.lt_irrefl _), dec_val]; omega
theorem num_bnd {k : Nat} (h : k ≤ 9) : 10 ^ k ≤ 1000000000 := by
  have : 10 ^ k ≤ 10 ^ 9 := Nat.pow_le_pow_right (by decide) h
  exact this
theorem num_itoa {l : List UInt8} (h : numB l = true) : Lib.atoiAll l = .ok (numV l) ∧ Lib.itoa (numV l) = l := by
  unfold numB at h
  simp only [Bool.and_eq_true, decide_eq_true_eq, Bool.not_eq_true', Bool.and_eq_false_iff, decide_eq_false_iff_not] at h
  obtain ⟨⟨⟨h1, h2⟩, h3⟩, h4⟩ := h
  have hne : unm l ≠ [] := fun e => by rw [e] at h1; simp at h1
  have hp := num_bnd h2
  obtain ⟨u, p1, p2, p3⟩ := parse_dg (unm l) 0 h4 (by omega)
  have hm : Lib.parseMag (unm l) = .ok u := by unfold Lib.parseMag; rw [if_neg hne]; exact p1
  cases l with
  | nil => exact absurd rfl hne
  | cons c r =>
    by_cases hc : c = 45
    · subst hc
      have hu : unm (45 :: r) = r := rfl
      rw [hu] at hne h1 h2 h3 h4 hm p2 p3 hp
      have hl : 1 < (45 :: r : List UInt8).length := by rw [List.length_cons]; omega
      have h48 : r.head? ≠ some 48 := fun e => by rcases h3 with h | h; exact h e; exact h hl
      obtain ⟨u', q1, q2, q3⟩ := dec_of _ r rfl h4 hne (fun e => absurd e h48)
      have e : u' = u := by have : (u' : Int) = u := by rw [q1, p2]; rfl
                            omega
      subst e
      have hpos := q3 h48
      have hv : numV (45 :: r) = -(u' : Int) := by unfold numV; rw [hu, if_pos (by simp), ← q1]
      rw [hv]
      constructor
      · rw [Lib.atoiAll_minus, hm]
        unfold Lib.signed
        simp only []
        rw [if_neg (by omega)]
      · unfold Lib.itoa
        rw [if_pos (by omega), Int.natAbs_neg, Int.natAbs_natCast, q2]
    · have hu : unm (c :: r) = c :: r := by rw [unm, if_neg hc]
      rw [hu] at hne h1 h2 h3 h4 hm p2 p3 hp
      obtain ⟨d1, d2, _⟩ := digit_of h4
      obtain ⟨u', q1, q2, q3⟩ := dec_of _ (c :: r) rfl h4 hne (fun e => by rcases h3 with h | h; exact absurd e h; simp only [List.length_cons] at h ⊢; omega)
      have e : u' = u := by have : (u' : Int) = u := by rw [q1, p2]; rfl
                            omega
      subst e
      have hv : numV (c :: r) = (u' : Int) := by unfold numV; rw [hu, if_neg (Nat.lt_irrefl _), ← q1]
      rw [hv]
      constructor
      · rw [Lib.atoiAll_plain c r (by omega) (by omega), hm]
        unfold Lib.signless
        simp only []
        rw [if_neg (by omega)]
      · unfold Lib.itoa
        rw [if_neg (by omega), Int.toNat_natCast, q2]
/-- lex.Int tells what the document tells -/
theorem lint_num (s : ByteArray) : lintB s = numB s.data.toList ∧ (lintB s = true → atoiV s = numV s.data.toList) := by
  have key : lintB s = true → numB s.data.toList = true ∧ atoiV s = numV s.data.toList := fun h => by
    unfold lintB at h
    simp only [Bool.and_eq_true, decide_eq_true_eq, beq_iff_eq] at h
    obtain ⟨⟨h1, h2⟩, h3⟩ := h
    rw [Lib.toList_data, Lib.toList_data] at h2
    have h2 : Lib.itoa (atoiV s) = s.data.toList := by rw [← h2]; rfl
    rw [trimM_size, ← h2] at h3
    have := itoa_num h3
    rw [h2] at this
    exact ⟨this.1, this.2.symm⟩
  refine ⟨?_, fun h => (key h).2⟩
  rw [Bool.eq_iff_iff]
  refine ⟨fun h => (key h).1, fun h => ?_⟩
  obtain ⟨g1, g2⟩ := num_itoa h
  have hV : atoiV s = numV s.data.toList := by unfold atoiV; rw [g1]
  have hB : atoiB s = true := by unfold atoiB; rw [g1]
  have h9 : (trimM s).size ≤ 9 := by
    rw [trimM_size]
    unfold numB at h
    simp only [Bool.and_eq_true, decide_eq_true_eq] at h
    exact h.1.1.2
  unfold lintB
  rw [hB, decide_eq_true h9, Lib.toList_data, Lib.toList_data, hV, show (itoaS (numV s.data.toList)).data.toList = s.data.toList from g2]
  simp
end Go.Proofs.YtljlfmmhoceihaaDoor
/-
A text's lines and their words: the library's against the document's (plain).
-/
set_option linter.unusedSimpArgs false
set_option linter.unusedVariables false
namespace Go.Proofs.YtljlfmmhoceihaaDoor
open Go.RowKit Ax
/-- the pieces between line ends -/
def spl : List UInt8 → List (List UInt8)
  | [] => [[]]
  | c :: r => if c = 10 then [] :: spl r else match spl r with
    | h :: t => (c :: h) :: t
    | [] => [[c]]
theorem index_cons_ne {b c : UInt8} {l : List UInt8} (h : b ≠ c) : Lib.index (b :: l) [c] = if Lib.index l [c] == -1 then -1 else Lib.index l [c] + 1 := by
  conv => lhs; unfold Lib.index
  have e : ([c].isPrefixOf (b :: l)) = false := by
    show ((c == b) && _) = false
    rw [beq_false_of_ne (Ne.symm h)]; rfl
  rw [e]; rfl
theorem index_cons_eq (c : UInt8) (l : List UInt8) : Lib.index (c :: l) [c] = 0 := by
  unfold Lib.index
  have e : ([c].isPrefixOf (c :: l)) = true := by simp
  rw [e]; rfl
theorem index_cases (s sub : List UInt8) : Lib.index s sub = -1 ∨ ∃ i : Nat, Lib.index s sub = i := by
  rcases Lib.index_spec s sub with h | ⟨i, h, _⟩
  · exact .inl h.1
  · exact .inr ⟨i, h⟩
theorem splitK_spl : ∀ s : List UInt8, Lib.splitK [10] 0 (Lib.count s [10]) s = spl s
  | [] => rfl
  | c :: r => by
    have ih := splitK_spl r
    by_cases hc : c = 10
    · subst hc
      rw [Lib.count_cons_eq, Nat.add_comm, Lib.splitK, index_cons_eq, spl, if_pos rfl, ← ih]
      rfl
    · rw [Lib.count_cons_ne c 10 r hc, spl, if_neg hc, ← ih]
      rcases index_cases r [10] with h | ⟨i, h⟩
      · rw [Lib.count_miss h]; rfl
      · have hcount := Lib.count_hit (s := r) (sub := [10]) (i := i) (by simp) h
        rw [hcount, Nat.add_comm, Lib.splitK, Lib.splitK, index_cons_ne hc, h]
        have e1 : ((i : Int) == -1) = false := by rw [beq_eq_false_iff_ne]; omega
        have e2 : ((i : Int) + 1 == -1) = false := by rw [beq_eq_false_iff_ne]; omega
        have e3 : ((i : Int) + 1).toNat = i + 1 := by omega
        simp only [e1, e2, e3, Bool.false_eq_true, if_false, Int.toNat_natCast, Nat.add_zero, List.take_succ_cons, List.length_cons, List.length_nil, List.drop_succ_cons]
theorem splitL_spl (s : ByteArray) : (splitL s nl).map (·.data.toList) = spl s.data.toList := by
  unfold splitL
  rw [Lib.splitB_data]
  exact splitK_spl _
theorem cut_while (c : UInt8) : ∀ l : List UInt8, (Lib.cut l [c]).1 = l.takeWhile (· != c)
  | [] => rfl
  | b :: r => by
    have ih := cut_while c r
    by_cases hb : b = c
    · subst hb
      unfold Lib.cut
      rw [index_cons_eq, if_pos (Int.le_refl 0)]
      simp
    · have hbe : (b != c) = true := by simp [hb]
      rw [List.takeWhile_cons, hbe, if_pos rfl, ← ih]
      unfold Lib.cut
      rw [index_cons_ne hb]
      rcases index_cases r [c] with h | ⟨i, h⟩
      · rw [h]; rfl
      · rw [h]
        have e1 : ((i : Int) == -1) = false := by rw [beq_eq_false_iff_ne]; omega
        have e3 : ((i : Int) + 1).toNat = i + 1 := by omega
        simp only [e1, Bool.false_eq_true, if_false]
        rw [if_pos (by omega), if_pos (by omega), e3]
        simp
/-! ### words -/
def bl (c : UInt8) : Bool := blank c.toNat
def fgo : List UInt8 → List UInt8 → List (List UInt8)
  | cur, [] => if cur = [] then [] else [cur]
  | cur, c :: r => if bl c = true then (if cur = [] then fgo [] r else cur :: fgo [] r) else fgo (cur ++ [c]) r
theorem fgo_run : ∀ (l cur r : List UInt8), (∀ c ∈ l, bl c = false) → fgo cur (l ++ r) = fgo (cur ++ l) r
  | [], cur, r, _ => by simp
  | c :: l, cur, r, h => by
    rw [List.cons_append, fgo, if_neg (by rw [h c (by simp)]; exact Bool.false_ne_true), fgo_run l (cur ++ [c]) r (fun d hd => h d (by simp [hd]))]
    simp
theorem blank_small {x : Nat} (h : blank x = true) : x < 128 := by
  unfold blank at h
  have h := of_decide_eq_true h
  simp only [List.mem_cons, List.not_mem_nil, or_false] at h
  omega
theorem get_list (s : ByteArray) (i : Nat) (h : i < s.size) : s.data.toList[i]? = some (s.get! i) := by
  obtain ⟨⟨l⟩⟩ := s
  have h : i < l.length := h
  show l[i]? = some (l.toArray[i]!)
  rw [getElem!_pos l.toArray i (by simpa using h)]
  simp [h]
theorem drop_take_get (s : ByteArray) (pos k : Nat) (h : pos + k ≤ s.size) : ∀ c ∈ (s.data.toList.drop pos).take k, ∃ j, j < k ∧ c = s.get! (pos + j) := by
  intro c hc
  obtain ⟨j, hj⟩ := List.mem_iff_getElem?.1 hc
  rw [List.getElem?_take] at hj
  split at hj
  · rename_i hjk
    rw [List.getElem?_drop, get_list s (pos + j) (by omega)] at hj
    cases hj
    exact ⟨j, hjk, rfl⟩
  · cases hj
/-- a rune that isn't one byte of its own: its bytes are no blanks -/
theorem decode_big (s : ByteArray) (pos : Nat) (hp : pos < s.size) : ((s.get! pos).toNat < 128 ∧ Utf8.decode s pos = ((s.get! pos).toNat, 1)) ∨
    (128 ≤ (s.get! pos).toNat ∧ 128 ≤ (Utf8.decode s pos).1 ∧ 1 ≤ (Utf8.decode s pos).2 ∧ pos + (Utf8.decode s pos).2 ≤ s.size ∧ ∀ j, j < (Utf8.decode s pos).2 → 128 ≤ (s.get! (pos + j)).toNat) := by
  by_cases h : (s.get! pos).toNat < 128
  · left
    refine ⟨h, ?_⟩
    unfold Utf8.decode
    simp only [Nat.add_zero]
    rw [if_pos h]
  · right
    refine ⟨by omega, ?_⟩
    have one : ∀ j, j < 1 → 128 ≤ (s.get! (pos + j)).toNat := fun j hj => by
      obtain rfl : j = 0 := by omega
      exact Nat.not_lt.1 h
    unfold Utf8.decode
    simp only [Nat.add_zero]
    rw [if_neg h]
    have bad : 128 ≤ Utf8.runeError ∧ 1 ≤ 1 ∧ pos + 1 ≤ s.size ∧ ∀ j, j < 1 → 128 ≤ (s.get! (pos + j)).toNat := ⟨by decide, Nat.le_refl _, hp, one⟩
    split
    · rename_i h2
      split
      · rename_i h3
        simp only [Bool.and_eq_true, decide_eq_true_eq, beq_iff_eq] at h2
        refine ⟨h3, (by show 1 ≤ 2; decide), by simp only []; omega, fun j hj => ?_⟩
        simp only [] at hj
        match j, hj with
        | 0, _ => exact one 0 (by omega)
        | 1, _ => omega
      · exact bad
    · split
      · rename_i h2
        split
        · rename_i h3
          simp only [Bool.and_eq_true, decide_eq_true_eq, beq_iff_eq] at h2 h3
          refine ⟨by simp only []; omega, Nat.le_add_left 1 _, by simp only []; omega, fun j hj => ?_⟩
          simp only [] at hj
          match j, hj with
          | 0, _ => exact one 0 (by omega)
          | 1, _ => omega
          | 2, _ => omega
        · exact bad
      · split
        · rename_i h2
          split
          · rename_i h3
            simp only [Bool.and_eq_true, decide_eq_true_eq, beq_iff_eq] at h2 h3
            refine ⟨by simp only []; omega, Nat.le_add_left 1 _, by simp only []; omega, fun j hj => ?_⟩
            simp only [] at hj
            match j, hj with
            | 0, _ => exact one 0 (by omega)
            | 1, _ => omega
            | 2, _ => omega
            | 3, _ => omega
          · exact bad
        · exact bad
def openP (l : List UInt8) (st : Option Nat) (pos : Nat) : List UInt8 := match st with | some a => Lib.pieceU l a pos | none => []
theorem spans_fgo (s : ByteArray) : ∀ (f pos : Nat) (st : Option Nat) (acc : List (Nat × Nat)), s.size ≤ pos + f → pos ≤ s.size → (∀ a, st = some a → a < pos) →
    acc.map (fun p => Lib.pieceU s.data.toList p.1 p.2) ++ fgo (openP s.data.toList st pos) (s.data.toList.drop pos) = (Lib.closeSpans s (Lib.spansFromP blank s f pos st acc)).map (fun p => Lib.pieceU s.data.toList p.1 p.2) := by
  have fin : ∀ (f : Nat) (st : Option Nat) (acc : List (Nat × Nat)), (∀ a, st = some a → a < s.size) →
      acc.map (fun p => Lib.pieceU s.data.toList p.1 p.2) ++ fgo (openP s.data.toList st s.size) (s.data.toList.drop s.size) = (Lib.closeSpans s (Lib.spansFromP blank s f s.size st acc)).map (fun p => Lib.pieceU s.data.toList p.1 p.2) := fun f st acc hst => by
    have hd : s.data.toList.drop s.size = [] := List.drop_eq_nil_of_le (by rw [← Lib.size_eq]; exact Nat.le_refl _)
    rw [hd, Lib.spansFromP_end blank s _ _ _ _ (Nat.lt_irrefl _)]
    cases st with
    | none => simp [Lib.closeSpans, openP, fgo]
    | some a =>
      have := Lib.pieceU_ne s.data.toList a s.size (hst a rfl) (by rw [← Lib.size_eq]; exact Nat.le_refl _)
      simp [Lib.closeSpans, openP, fgo, this]
  intro f
  induction f with
  | zero =>
    intro pos st acc h hp hst
    obtain rfl : pos = s.size := by omega
    exact fin 0 st acc hst
  | succ f ih =>
    intro pos st acc h hp hst
    by_cases hlt : pos < s.size
    · unfold Lib.spansFromP
      rw [if_pos hlt]
      have hd : s.data.toList.drop pos = s.get! pos :: s.data.toList.drop (pos + 1) := by
        have := get_list s pos hlt
        rw [List.drop_eq_getElem?_toList_append, this]; rfl
      rcases decode_big s pos hlt with ⟨hb, e⟩ | ⟨hb, hr, hw, hwn, hall⟩
      · rw [e]
        simp only []
        cases hsp : blank (s.get! pos).toNat with
        | true =>
          rw [if_pos rfl, hd, fgo, if_pos (show bl (s.get! pos) = true from hsp)]
          cases st with
          | none =>
            have ih := ih (pos + 1) none acc (by omega) hlt (fun a h => by cases h)
            simpa [openP] using ih
          | some a =>
            have hpn := Lib.pieceU_ne s.data.toList a pos (hst a rfl) (by rw [← Lib.size_eq]; omega)
            have ih := ih (pos + 1) none (acc ++ [(a, pos)]) (by omega) hlt (fun a h => by cases h)
            simpa [openP, hpn] using ih
        | false =>
          have hbl : ¬ bl (s.get! pos) = true := by unfold bl; rw [hsp]; exact Bool.false_ne_true
          rw [if_neg Bool.false_ne_true, hd, fgo, if_neg hbl]
          have e1 : (s.data.toList.drop pos).take 1 = [s.get! pos] := by rw [hd]; rfl
          cases st with
          | none =>
            have ih := ih (pos + 1) (some pos) acc (by omega) hlt (fun a h => by cases h; omega)
            have e : ([] : List UInt8) ++ [s.get! pos] = Lib.pieceU s.data.toList pos (pos + 1) := by
              unfold Lib.pieceU
              rw [List.nil_append, Nat.add_sub_cancel_left, e1]
            simp only [openP] at ih ⊢
            rw [e]
            exact ih
          | some a =>
            have ih := ih (pos + 1) (some a) acc (by omega) hlt (fun b h => by cases h; have := hst a rfl; omega)
            simp only [openP] at ih ⊢
            rw [← e1, Lib.pieceU_grow _ _ _ _ (Nat.le_of_lt (hst a rfl))]
            exact ih
      · generalize Utf8.decode s pos = d at *
        obtain ⟨ru, k⟩ := d
        simp only [] at hr hw hwn hall ⊢
        have hnb : blank ru = false := by
          rw [Bool.eq_false_iff]; intro h; have := blank_small h; omega
        rw [hnb, if_neg Bool.false_ne_true]
        have hsplit : s.data.toList.drop pos = (s.data.toList.drop pos).take k ++ s.data.toList.drop (pos + k) := by
          rw [← List.drop_drop, List.take_append_drop]
        have hcl : ∀ c ∈ (s.data.toList.drop pos).take k, bl c = false := fun c hc => by
          obtain ⟨j, hj, rfl⟩ := drop_take_get s pos k hwn c hc
          have := hall j hj
          rw [Bool.eq_false_iff]; intro h; have := blank_small h; omega
        rw [hsplit, fgo_run _ _ _ hcl]
        cases st with
        | none =>
          have ih := ih (pos + k) (some pos) acc (by omega) hwn (fun a h => by cases h; omega)
          have e : ([] : List UInt8) ++ (s.data.toList.drop pos).take k = Lib.pieceU s.data.toList pos (pos + k) := by
            unfold Lib.pieceU
            rw [List.nil_append, Nat.add_sub_cancel_left]
          simp only [openP] at ih ⊢
          rw [e]
          exact ih
        | some a =>
          have ih := ih (pos + k) (some a) acc (by omega) hwn (fun b h => by cases h; have := hst a rfl; omega)
          simp only [openP] at ih ⊢
          rw [Lib.pieceU_grow _ _ _ _ (Nat.le_of_lt (hst a rfl))]
          exact ih
    · obtain rfl : pos = s.size := by omega
      exact fin _ st acc hst
def mkB (l : List UInt8) : ByteArray := ⟨l.toArray⟩
theorem mkB_data (s : ByteArray) : mkB s.data.toList = s := Lib.mk_data s
theorem data_mkB (l : List UInt8) : (mkB l).data.toList = l := rfl
theorem fields_fgo (s : ByteArray) : Lib.goFieldsP blank s = (fgo [] s.data.toList).map mkB := by
  have h := spans_fgo s s.size 0 none [] (by omega) (Nat.zero_le _) (fun a h => by cases h)
  simp only [List.map_nil, List.nil_append, openP, List.drop_zero] at h
  rw [h]
  unfold Lib.goFieldsP Lib.spansOfP
  rw [List.map_map]
  refine List.map_congr_left fun p _ => ?_
  show s.extract p.1 p.2 = mkB (Lib.pieceU s.data.toList p.1 p.2)
  rw [Lib.extract_eq]; rfl
/-- a line's words -/
def wordsB (l : List UInt8) : List ByteArray := (fgo [] (l.takeWhile (· != 35))).map mkB
theorem wordsOf_eq (u : ByteArray) : wordsOf u = wordsB u.data.toList := by
  unfold wordsOf wordsB cutM
  rw [fields_fgo]
  congr 2
  exact cut_while 35 _
/-! ### lines -/
def one1 (w : List UInt8) (n : Int) : List (Int × List ByteArray) := if (wordsB w).length > 0 then [(n + 1, wordsB w)] else []
def lf : List UInt8 → List UInt8 → Int → List (Int × List ByteArray)
  | cur, [], n => one1 cur n
  | cur, c :: r, n => if c = 10 then one1 cur n ++ lf [] r (n + 1) else lf (cur ++ [c]) r n
def lfrom : List (List UInt8) → Int → List (Int × List ByteArray)
  | [], _ => []
  | l :: r, i => one1 l i ++ lfrom r (i + 1)
theorem linesFrom_eq : ∀ (L : List ByteArray) (i : Int), linesFrom L i = lfrom (L.map (·.data.toList)) i
  | [], _ => rfl
  | l :: r, i => by
    rw [linesFrom, List.map_cons, lfrom, one1, ← wordsOf_eq, linesFrom_eq r (i + 1)]
    split <;> rfl
theorem spl_ne (l : List UInt8) : ∃ h t, spl l = h :: t := by
  cases l with
  | nil => exact ⟨_, _, rfl⟩
  | cons c r =>
    unfold spl
    split
    · exact ⟨_, _, rfl⟩
    · split <;> exact ⟨_, _, rfl⟩
theorem lf_spl : ∀ (l cur : List UInt8) (n : Int), lf cur l n = match spl l with | h :: t => one1 (cur ++ h) n ++ lfrom t (n + 1) | [] => []
  | [], cur, n => by simp [lf, spl, lfrom]
  | c :: r, cur, n => by
    rw [lf, spl]
    by_cases hc : c = 10
    · rw [if_pos hc, if_pos hc, lf_spl r [] (n + 1)]
      obtain ⟨h, t, e⟩ := spl_ne r
      rw [e]
      simp [lfrom]
    · rw [if_neg hc, if_neg hc, lf_spl r (cur ++ [c]) n]
      obtain ⟨h, t, e⟩ := spl_ne r
      rw [e]
      simp
theorem linesOf_lf (s : ByteArray) : linesOf s = lf [] s.data.toList 0 := by
  unfold linesOf
  rw [linesFrom_eq, splitL_spl, lf_spl]
  obtain ⟨h, t, e⟩ := spl_ne s.data.toList
  rw [e]; rfl
theorem spl_length (l : List UInt8) : (spl l).length ≤ l.length + 1 := by
  induction l with
  | nil => exact Nat.le_refl _
  | cons c r ih =>
    unfold spl
    split
    · simpa using ih
    · obtain ⟨h, t, e⟩ := spl_ne r
      rw [e] at ih ⊢
      simp only [List.length_cons] at ih ⊢; omega
theorem spl_mem : ∀ (l : List UInt8) (x : List UInt8), x ∈ spl l → x.length ≤ l.length
  | [], x, h => by simp [spl] at h; subst h; exact Nat.le_refl _
  | c :: r, x, h => by
    unfold spl at h
    split at h
    · rcases List.mem_cons.1 h with rfl | h
      · exact Nat.zero_le _
      · have := spl_mem r x h; simp only [List.length_cons]; omega
    · obtain ⟨a, t, e⟩ := spl_ne r
      rw [e] at h
      rcases List.mem_cons.1 h with rfl | h
      · have := spl_mem r a (by rw [e]; simp); simp only [List.length_cons]; omega
      · have := spl_mem r x (by rw [e]; simp [h]); simp only [List.length_cons]; omega
/-- a short text's lines fit -/
theorem fit_of (s : ByteArray) (h : s.size ≤ 900000) : LinesFit s := by
  have hl : (splitL s nl).length = (spl s.data.toList).length := by rw [← splitL_spl, List.length_map]
  have hs := spl_length s.data.toList
  rw [← Lib.size_eq] at hs
  have hm : ∀ l ∈ splitL s nl, l.size ≤ s.size := fun l hl => by
    have : l.data.toList ∈ spl s.data.toList := by rw [← splitL_spl]; exact List.mem_map.2 ⟨l, hl, rfl⟩
    have := spl_mem _ _ this
    rw [← Lib.size_eq, ← Lib.size_eq] at this
    exact this
  refine ⟨by omega, by omega, fun l hl => ⟨by have := hm l hl; omega, ?_⟩⟩
  have e : (cutM l).size ≤ l.size := by
    show (Lib.cut l.data.toList [35]).1.length ≤ _
    rw [cut_while, Lib.size_eq]
    exact (List.takeWhile_prefix _).length_le
  have := hm l hl
  omega
end Go.Proofs.YtljlfmmhoceihaaDoor
/-
parquetref6.Int: what it tells.
-/
set_option linter.unusedSimpArgs false
set_option linter.unusedVariables false
namespace Go.Proofs.YtljlfmmhoceihaaDoor
open Go.RowKit Ax
def resI (s : ByteArray) : Av := .tup [.one (.v (.int .i64 (if lintB s = true then atoiV s else 0))), .one (.v (.bool (lintB s)))]
def leafI (v : Int) (b : Bool) : T Av := .ret (.tup [.one (.v (.int .i64 v)), .one (.v (.bool b))])
def loopI (s t : ByteArray) : T Av := .need ((0 : Int) ≤ 0 ∧ (0 : Int) ≤ (ByteArray.size t : Int) ∧ ByteArray.size t ≤ 9 ∧ (0 : Int) ≤ 0 ∧ (0 : Int) < (10 : Int) ^ Int.toNat (0 : Int)) (.ite (dgAll (List.drop (Int.toNat (0 : Int)) (Array.toList (ByteArray.data t))))
  (.ite (decide ((ByteArray.size t : Int) < (ByteArray.size s : Int))) (leafI (IntKind.wrap .i64 ((0 : Int) - dgVal (0 : Int) (List.drop (Int.toNat (0 : Int)) (Array.toList (ByteArray.data t))))) true) (leafI (dgVal (0 : Int) (List.drop (Int.toNat (0 : Int)) (Array.toList (ByteArray.data t)))) true)) (leafI 0 false))
def subI (s t : ByteArray) : T Av := .ite (decide ((ByteArray.size t : Int) < (1 : Int))) (leafI 0 false) (.ite (decide ((ByteArray.size t : Int) > (9 : Int))) (leafI 0 false) (.get (Array.toList (ByteArray.data t)) (0 : Int) fun v => .ite ((UInt8.toNat v : Int) == (48 : Int)) (.ite (decide ((ByteArray.size s : Int) > (1 : Int))) (leafI 0 false) (loopI s t)) (loopI s t)))
theorem tr_rint_sub (s : ByteArray) : tr_rint (s, ()) = .ite (decide ((ByteArray.size s : Int) > (0 : Int))) (.get (Array.toList (ByteArray.data s)) (0 : Int) fun v => .ite ((UInt8.toNat v : Int) == (45 : Int)) (.need ((0 : Int) ≤ (1 : Int) ∧ (1 : Int) ≤ (ByteArray.size s : Int) ∧ (ByteArray.size s : Int) ≤ (ByteArray.size s : Int)) (.lt (ByteArray.extract s (Int.toNat (1 : Int)) (Int.toNat (ByteArray.size s : Int))) fun t => subI s t)) (subI s s)) (subI s s) := rfl
theorem subI_wp (s t : ByteArray) (h : unm s.data.toList = t.data.toList) : (subI s t).wp fun a => a = resI s := by
  have no : numB s.data.toList = false → Av.tup [.one (.v (.int .i64 0)), .one (.v (.bool false))] = resI s := fun e => by
    unfold resI; rw [(lint_num s).1, e]; rfl
  have yes : ∀ v, numB s.data.toList = true → numV s.data.toList = v → Av.tup [.one (.v (.int .i64 v)), .one (.v (.bool true))] = resI s := fun v e ev => by
    unfold resI
    rw [(lint_num s).2 ((lint_num s).1.trans e), (lint_num s).1, e, if_pos rfl, ev]
  unfold numB at no yes
  unfold numV at yes
  rw [h] at no yes
  have hsz : t.size = t.data.toList.length := Lib.size_eq t
  have hss : s.size = s.data.toList.length := Lib.size_eq s
  have lp : 1 ≤ t.size → t.size ≤ 9 → (t.data.toList.head? = some 48 → ¬ 1 < s.size) → (loopI s t).wp fun a => a = resI s := fun h1 h2 h3 => by
    have e3 : (!(decide (t.data.toList.head? = some 48) && decide (1 < s.data.toList.length))) = true := by
      rw [Bool.not_eq_true', Bool.and_eq_false_iff, decide_eq_false_iff_not, decide_eq_false_iff_not]
      by_cases h : t.data.toList.head? = some 48
      · right; rw [← hss]; exact h3 h
      · left; exact h
    rw [decide_eq_true (show 1 ≤ t.data.toList.length by omega), decide_eq_true (show t.data.toList.length ≤ 9 by omega), e3, Bool.true_and, Bool.true_and] at no yes
    unfold loopI leafI
    simp only [T.wp]
    have ed : List.drop (Int.toNat (0 : Int)) t.data.toList = t.data.toList := rfl
    rw [ed]
    refine ⟨⟨Int.le_refl 0, by omega, h2, Int.le_refl 0, by decide⟩, fun h4 => ⟨fun h5 => ?_, fun h5 => ?_⟩, fun h4 => no (by rw [h4]; rfl)⟩
    · have h5 := of_decide_eq_true h5
      have hp := num_bnd (show t.data.toList.length ≤ 9 by omega)
      obtain ⟨u, p1, p2, p3⟩ := parse_dg t.data.toList 0 h4 (by omega)
      have p2 : (u : Int) = dgVal 0 t.data.toList := p2
      rw [IntWalk.i64_in _ (by omega)]
      exact yes _ (by rw [h4]; rfl) (by rw [if_pos (by omega)]; omega)
    · have h5 := of_decide_eq_false h5
      exact yes _ (by rw [h4]; rfl) (by rw [if_neg (by omega)])
  unfold subI leafI
  simp only [T.wp]
  refine ⟨fun h1 => no ?_, fun h1 => ⟨fun h2 => no ?_, fun h2 => ?_⟩⟩
  · have h1 := of_decide_eq_true h1
    rw [decide_eq_false (show ¬ 1 ≤ t.data.toList.length by omega)]; rfl
  · have h2 := of_decide_eq_true h2
    rw [decide_eq_false (show ¬ t.data.toList.length ≤ 9 by omega), Bool.and_false]; rfl
  · have h1 := of_decide_eq_false h1
    have h2 := of_decide_eq_false h2
    obtain ⟨c, r, hc⟩ : ∃ c r, t.data.toList = c :: r := by
      cases e : t.data.toList with
      | nil =>
        have h0 : t.size = 0 := by rw [hsz, e]; rfl
        omega
      | cons c r => exact ⟨c, r, rfl⟩
    refine ⟨c, Int.le_refl 0, by rw [hc]; rfl, fun h3 => ⟨fun h4 => no ?_, fun h4 => lp (by omega) (by omega) ?_⟩, fun h3 => lp (by omega) (by omega) ?_⟩
    · have h4 := of_decide_eq_true h4
      have h3 : (c.toNat : Int) = 48 := by simpa using h3
      have h48 : t.data.toList.head? = some 48 := by
        rw [hc]; show some c = some 48
        rw [byte_of (c := c) (k := 48) (by omega)]; rfl
      rw [decide_eq_true h48, decide_eq_true (show 1 < s.data.toList.length by omega), Bool.and_self, Bool.not_true, Bool.and_false]; rfl
    · have h4 := of_decide_eq_false h4
      exact fun _ => by omega
    · intro e
      rw [hc] at e
      have e : c = 48 := by simpa using e
      subst e
      exact absurd h3 (by decide)
theorem rint_wp (s : ByteArray) : (tr_rint (s, ())).wp fun a => a = resI s := by
  rw [tr_rint_sub]
  simp only [T.wp]
  have hss : s.size = s.data.toList.length := Lib.size_eq s
  refine ⟨fun h1 => ?_, fun h1 => ?_⟩
  · have h1 := of_decide_eq_true h1
    obtain ⟨c, r, hc⟩ : ∃ c r, s.data.toList = c :: r := by
      cases e : s.data.toList with
      | nil =>
        have h0 : s.size = 0 := by rw [hss, e]; rfl
        omega
      | cons c r => exact ⟨c, r, rfl⟩
    refine ⟨c, Int.le_refl 0, by rw [hc]; rfl, fun h2 => ⟨⟨by decide, by omega, Int.le_refl _⟩, subI_wp _ _ ?_⟩, fun h2 => subI_wp _ _ ?_⟩
    · have h2 : (c.toNat : Int) = 45 := by simpa using h2
      have e45 : c = 45 := by rw [byte_of (c := c) (k := 45) (by omega)]; rfl
      rw [hc, unm, if_pos e45, Lib.extract_data]
      have e1 : Int.toNat (1 : Int) = 1 := rfl
      rw [e1, hc, List.drop_succ_cons, List.drop_zero, List.take_of_length_le]
      rw [hc, List.length_cons] at hss
      omega
    · have h2 : ¬ (c.toNat : Int) = 45 := by simpa using h2
      have e45 : c ≠ 45 := fun e => h2 (by rw [e]; rfl)
      rw [hc, unm, if_neg e45]
  · have h1 := of_decide_eq_false h1
    refine subI_wp _ _ ?_
    have e : s.data.toList = [] := List.eq_nil_of_length_eq_zero (by omega)
    rw [e]; rfl
noncomputable def con_rint : Con Tryd.prog := ⟨22, [], _, cf_rint, val_con (E := L5) (L := lpInt) mixed Tryd.func22 (one_loop rintL_ok (by kernel_rfl)) [(false, .str)] (fun x => True) (fun x => resI x.1) fun x _ => by
  rw [tr_rint_eq]
  obtain ⟨s, u⟩ := x
  exact rint_wp s⟩
end Go.Proofs.YtljlfmmhoceihaaDoor
/-
parquetref6.words: what its loop carries.
-/
set_option linter.unusedSimpArgs false
set_option linter.unusedVariables false
namespace Go.Proofs.YtljlfmmhoceihaaDoor
open Go.RowKit Ax
theorem cf_rwords (xs : Array Value) (w : World) : (callFunc 32 xs).run Tryd.prog w = .ok (.enter 32 xs) w := by kernel_rfl
theorem cf_rlines (xs : Array Value) (w : World) : (callFunc 20 xs).run Tryd.prog w = .ok (.enter 20 xs) w := by kernel_rfl
theorem cf_rnum (xs : Array Value) (w : World) : (callFunc 18 xs).run Tryd.prog w = .ok (.enter 18 xs) w := by kernel_rfl
theorem cf_rdig (xs : Array Value) (w : World) : (callFunc 31 xs).run Tryd.prog w = .ok (.enter 31 xs) w := by kernel_rfl
noncomputable def codS : Cod Tryd.prog := ⟨9, .str, by kernel_rfl, ⟨.string ⟨#[]⟩, fun w => by kernel_rfl⟩⟩
noncomputable def zeroS : Zero Tryd.prog := ⟨9, ck .str ⟨#[]⟩, [.string ⟨#[]⟩], by kernel_rfl, fun w R σ => .v rfl .nil⟩
noncomputable def codU : Cod Tryd.prog := ⟨5, .int .u8, by kernel_rfl, ⟨.int .u8 0, fun w => by kernel_rfl⟩⟩
noncomputable def zeroU : Zero Tryd.prog := ⟨5, ck (.int .u8) (0 : Int), [.int .u8 0], by kernel_rfl, fun w R σ => .v rfl .nil⟩
noncomputable def L6 : Env Tryd.prog := ⟨con_rint :: L5.con, zeroS :: zeroU :: L5.zero, codS :: codU :: L5.cod, L5.sure, L5.base, L5.frz⟩
abbrev spWords : RSpec := ⟨64, [(0, false, .str), (4, false, .int .i64), (5, false, .int .i64)], [], [], fun _ => [], 3, 9, .str, false, fun e => match e with | .ret => 2 | _ => 3⟩
end Go.Proofs.YtljlfmmhoceihaaDoor
/-
Rows that a loop builds: one more element, whichever way; what is left to be appended.
-/
set_option linter.unusedSimpArgs false
set_option linter.unusedVariables false
namespace Ax
open Go Go.RowKit
abbrev Gr (α : Type) : Type := Option (List α × Nat)
def gx {α : Type} : Gr α → List α
  | none => []
  | some r => r.1
def gl {α : Type} : Gr α → Nat
  | none => 0
  | some r => r.1.length
theorem gl_eq {α : Type} (g : Gr α) : gl g = (gx g).length := by cases g <;> rfl
/-- the slice's length is the row's -/
def gnd {α : Type} (n : Nat) : Gr α → Prop
  | none => True
  | some r => n = r.1.length ∧ r.2 = r.2
theorem gnd_gl {α : Type} (g : Gr α) : gnd (gl g) g := by
  cases g with
  | none => trivial
  | some r => exact ⟨rfl, rfl⟩
theorem gnd_app {α : Type} (g : Gr α) (v : α) (k : Nat) : gnd (gl g + 1) (some (gx g ++ [v], k)) := ⟨by rw [List.length_append, gl_eq]; rfl, rfl⟩
/-- append of one element of so many bytes (less one) -/
def appG {α β : Type} (b : Nat) (g : Gr α) (v : α) (K : Nat → Gr α → T β) : T β := match g with
  | none => .need (List.length [v] * (b + 1) ≤ 140737488355328 ∧ List.length [v] ≤ maxLen) (.up (List.length [v]) fun k => K (List.length [v]) (some ([v], k)))
  | some r => .need (List.length r.1 = List.length r.1 ∧ r.2 = r.2 ∧ (List.length r.1 + List.length [v]) * (b + 1) ≤ 140737488355328 ∧ List.length r.1 + List.length [v] ≤ maxLen) (.and (K (List.length r.1 + List.length [v]) (some (r.1 ++ [v], r.2))) (.up (List.length r.1 + List.length [v]) fun k => K (List.length r.1 + List.length [v]) (some (r.1 ++ [v], k))))
theorem appG_wp {α β : Type} {b : Nat} {g : Gr α} {v : α} {K : Nat → Gr α → T β} {R : β → Prop} (h1 : (gl g + 1) * (b + 1) ≤ 140737488355328) (h2 : gl g + 1 ≤ maxLen)
    (h : ∀ k, (K (gl g + 1) (some (gx g ++ [v], k))).wp R) : (appG b g v K).wp R := by
  cases g with
  | none =>
    have e : gl (none : Gr α) = 0 := rfl
    rw [e] at h1 h2
    exact ⟨⟨h1, h2⟩, fun k _ => h k⟩
  | some r => exact ⟨⟨rfl, rfl, h1, h2⟩, h r.2, fun k _ => h k⟩
/-- what is left to be appended is appended -/
def finG {α A B C : Type} (e : A) (avs : B) (y : C) (g : Gr α) (W : List α) : T (A × B × C × Gr α) := match g with
  | none => .ite W.isEmpty (.ret (e, avs, y, none)) (.up 0 fun k => .ret (e, avs, y, some (W, k)))
  | some r => .up 0 fun k => .ret (e, avs, y, some (r.1 ++ W, k))
theorem finG_nil {α A B C : Type} {e : A} {avs : B} {y : C} {g : Gr α} {Q : A × B × C × Gr α → Prop} (h : (finG e avs y g []).wp Q) : Q (e, avs, y, g) := by
  cases g with
  | none => exact h.1 rfl
  | some r =>
    have := h r.2 (Nat.zero_le _)
    rw [List.append_nil] at this
    exact this
theorem finG_cons {α A B C : Type} {e : A} {avs : B} {y : C} {g : Gr α} {v : α} {W : List α} {Q : A × B × C × Gr α → Prop} (h : (finG e avs y g (v :: W)).wp Q) (k : Nat) : (finG e avs y (some (gx g ++ [v], k)) W).wp Q := by
  cases g with
  | none => exact h.2 rfl
  | some r =>
    intro j hj
    have := h j hj
    show Q (e, avs, y, some ((r.1 ++ [v]) ++ W, j))
    rw [List.append_assoc]
    exact this
/-- a Bool that is known -/
theorem kb_con' {P : Program} {f : FuncId} {ts : List (Bool × Cd)} (h : ConOk P f [] (pureRun' ts fun _ => .ret (.one (.v (.bool true))))) : ConOk P f [] (pureRun' ts fun _ => .ret (.one (.kb true))) := by
  intro w φ σ m args vs Q hmem hlen hargs hrun
  unfold pureRun' at hrun
  split at hrun
  · rename_i x hx
    have h1 := h w φ σ m args vs (fun r => r = (.one (.v (.bool true)), m)) hmem hlen hargs (by
      unfold pureRun'
      rw [hx]
      rfl)
    refine h1.mono fun e w' hr => ?_
    obtain ⟨v, av, m', σ', rfl, hq, h2, h3, h4, h5, h6⟩ := hr
    cases hq
    have hv : v = .bool true := val_of h5 rfl
    subst hv
    exact ⟨_, .one (.kb true), m, σ', rfl, hrun, h2, h3, h4, .one rfl (.kb .nil), h6⟩
  · exact hrun.elim
end Ax
/-
parquetref6.words: its loop's tree (its like parts told once).
-/
set_option linter.unusedSimpArgs false
set_option linter.unusedVariables false
namespace Go.Proofs.YtljlfmmhoceihaaDoor
open Go.RowKit Ax
def wFin (s : ByteArray) (i : Int) (n : Nat) (g : Gr ByteArray) : T (RRd spWords) := .need (gnd n g) (.ret (.again (s, (-1 : Int), IntKind.wrap .i64 (i + (1 : Int)), ()) () g))
def wTail (s : ByteArray) (i : Int) (n : Nat) (g : Gr ByteArray) : T (RRd spWords) := .ite (decide (i < (ByteArray.size s : Int)))
  (.get (Array.toList (ByteArray.data s)) i fun c => .ite ((UInt8.toNat c : Int) == (35 : Int)) (.need (gnd n g) (.ret (.out Exit.ret [] () g))) (wFin s i n g)) (wFin s i n g)
def wClo (s : ByteArray) (f i : Int) (n : Nat) (g : Gr ByteArray) : T (RRd spWords) := .ite (decide (f ≥ (0 : Int)))
  (.need ((0 : Int) ≤ f ∧ f ≤ i ∧ i ≤ (ByteArray.size s : Int)) (.lt (ByteArray.extract s (Int.toNat f) (Int.toNat i)) fun v => appG 15 g v (wTail s i))) (wTail s i n g)
def wOpn (s : ByteArray) (f i : Int) (n : Nat) (g : Gr ByteArray) : T (RRd spWords) := .ite (decide (f < (0 : Int)))
  (.need (gnd n g) (.ret (.again (s, i, IntKind.wrap .i64 (i + (1 : Int)), ()) () g))) (.need (gnd n g) (.ret (.again (s, f, IntKind.wrap .i64 (i + (1 : Int)), ()) () g)))
def wRound (s : ByteArray) (f i : Int) (g : Gr ByteArray) : T (RRd spWords) := .ite (decide (i ≤ (ByteArray.size s : Int)))
  (.ite (i == (ByteArray.size s : Int)) (wClo s f i (gl g) g)
    (.get (Array.toList (ByteArray.data s)) i fun c => .ite ((UInt8.toNat c : Int) == (35 : Int)) (wClo s f i (gl g) g)
      (.get (Array.toList (ByteArray.data s)) i fun c => .ite ((UInt8.toNat c : Int) == (32 : Int)) (wClo s f i (gl g) g)
        (.get (Array.toList (ByteArray.data s)) i fun c => .ite ((UInt8.toNat c : Int) == (9 : Int)) (wClo s f i (gl g) g)
          (.get (Array.toList (ByteArray.data s)) i fun c => .ite ((UInt8.toNat c : Int) == (13 : Int)) (wClo s f i (gl g) g) (wOpn s f i (gl g) g))))))
  (.need (gnd (gl g) g) (.ret (.out (Exit.exit 0) [] () g)))
theorem tr_rwordsL_eq (s : ByteArray) (f i : Int) (xs : List ByteArray) (cap : Nat) : RSpec.round spWords L6 (fun _ => none) (bodyOf Tryd.f32 0) (s, f, i, ()) () (some (xs, cap)) = wRound s f i (some (xs, cap)) := by kernel_rfl
theorem tr_rwordsL0_eq (s : ByteArray) (f i : Int) : RSpec.round spWords L6 (fun _ => none) (bodyOf Tryd.f32 0) (s, f, i, ()) () none = wRound s f i none := by kernel_rfl
end Go.Proofs.YtljlfmmhoceihaaDoor
