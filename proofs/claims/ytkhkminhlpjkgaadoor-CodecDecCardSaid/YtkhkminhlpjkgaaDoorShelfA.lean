/-
  DERIVED: THE SHELF's CONTRACTS AT THIS DUMP, IN PLAIN WORDS (tools/lay-plain.mjs out of 'TrydShelf.lean', which tools/lay-shelf.mjs wrote): THE SAME DECLARATIONS UNDER THE SAME NAMES: 'import', 'namespace', 'open', 'def', 'theorem' AND NOTHING ELSE: no command of the shelf's: FOR A HAND-IN. Each laying: the table of numbers ('.._ren') and one theorem, a field a fact of the dump's own or the kernel's comparison; each contract: ONE APPLICATION.
-/
import Derived.Shelf.Strings.Trim
import Derived.Shelf.Small.Utf8
import Derived.Shelf.Small.Strs
import Derived.Shelf.Strconv.Itoa0
import Derived.Shelf.Strconv.Itoa1
import Derived.Shelf.LaysM
import Derived.Shelf.Strconv.Itoa2
import Derived.Shelf.Strconv.Itoa3
import Derived.Shelf.Strings.Search1
import Derived.Shelf.Strings.Prefix
import Derived.Shelf.Strings.Runes
import Derived.Shelf.Strings.AsciiSet
import Derived.Shelf.Unicode.DecodeSlow
import Derived.Shelf.Unicode.DecodeAny
import Derived.Shelf.Unicode.DecodeLast
import Derived.Test.YtkhkminhlpjkgaaDoorProg
namespace Go.Proofs
open Go.Shelf
def Tryd.lays161_ren : Go.Shelf.Ren := ⟨fun | 161 => 41 | 231 => 46 | 227 => 47 | 233 => 48 | 235 => 49 | 228 => 55 | 197 => 56 | 151 => 57 | 260 => 63 | 152 => 64 | 137 => 35 | 119 => 71 | 224 => 72 | 225 => 73 | 217 => 43 | 266 => 53 | n => n, fun | 9 => 9 | 4 => 4 | 3 => 3 | 5 => 5 | 117 => 55 | 116 => 54 | 0 => 0 | 124 => 58 | 105 => 61 | 21 => 21 | 119 => 77 | 46 => 46 | 139 => 80 | 138 => 79 | n => n, fun | 3 => 2 | 4 => 3 | n => n⟩
theorem Tryd.lays161 : Go.Proofs.Lays.n161 Tryd.prog Tryd.lays161_ren := {
  mixed := by kernel_rfl
  f119 := Tryd.func71.trans (congrArg some (by kernel_rfl))
  f137 := Tryd.func35.trans (congrArg some (by kernel_rfl))
  f151 := Tryd.func57.trans (congrArg some (by kernel_rfl))
  f152 := Tryd.func64.trans (congrArg some (by kernel_rfl))
  f161 := Tryd.func41.trans (congrArg some (by kernel_rfl))
  f197 := Tryd.func56.trans (congrArg some (by kernel_rfl))
  f217 := Tryd.func43.trans (congrArg some (by kernel_rfl))
  f224 := Tryd.func72.trans (congrArg some (by kernel_rfl))
  f225 := Tryd.func73.trans (congrArg some (by kernel_rfl))
  f227 := Tryd.func47.trans (congrArg some (by kernel_rfl))
  f228 := Tryd.func55.trans (congrArg some (by kernel_rfl))
  f231 := Tryd.func46.trans (congrArg some (by kernel_rfl))
  f233 := Tryd.func48.trans (congrArg some (by kernel_rfl))
  f235 := Tryd.func49.trans (congrArg some (by kernel_rfl))
  f260 := Tryd.func63.trans (congrArg some (by kernel_rfl))
  f266 := Tryd.func53.trans (congrArg some (by kernel_rfl))
  t0 := Tryd.underlying0
  a0 := Tryd.isAgg0
  z0 := Tryd.sizeOf0
  v0 := Tryd.zeroValue0
  t3 := Tryd.underlying3
  a3 := Tryd.isAgg3
  z3 := Tryd.sizeOf3
  v3 := Tryd.zeroValue3
  t4 := Tryd.underlying4
  a4 := Tryd.isAgg4
  z4 := Tryd.sizeOf4
  v4 := Tryd.zeroValue4
  t5 := Tryd.underlying5
  a5 := Tryd.isAgg5
  z5 := Tryd.sizeOf5
  v5 := Tryd.zeroValue5
  t9 := Tryd.underlying9
  a9 := Tryd.isAgg9
  z9 := Tryd.sizeOf9
  v9 := Tryd.zeroValue9
  t21 := Tryd.underlying21
  a21 := Tryd.isAgg21
  z21 := Tryd.sizeOf21
  v21 := Tryd.zeroValue21
  t46 := Tryd.underlying46
  a46 := Tryd.isAgg46
  z46 := Tryd.sizeOf46
  v46 := Tryd.zeroValue46
  t105 := Tryd.underlying61
  a105 := Tryd.isAgg61
  z105 := Tryd.sizeOf61
  v105 := Tryd.zeroValue61
  t116 := Tryd.underlying54
  a116 := Tryd.isAgg54
  z116 := Tryd.sizeOf54
  t117 := Tryd.underlying55
  a117 := Tryd.isAgg55
  z117 := Tryd.sizeOf55
  v117 := Tryd.zeroValue55
  t119 := Tryd.underlying77
  a119 := Tryd.isAgg77
  z119 := Tryd.sizeOf77
  t124 := Tryd.underlying58
  a124 := Tryd.isAgg58
  z124 := Tryd.sizeOf58
  v124 := Tryd.zeroValue58
  t138 := Tryd.underlying79
  a138 := Tryd.isAgg79
  z138 := Tryd.sizeOf79
  v138 := Tryd.zeroValue79
  t139 := Tryd.underlying80
  a139 := Tryd.isAgg80
  z139 := Tryd.sizeOf80
  v139 := Tryd.zeroValue80
  g3 := by kernel_rfl
  g4 := by kernel_rfl }
open Go.RowKit in
/-- strings.TrimLeft: "TrimLeft returns a slice of the string s with all leading Unicode code points contained in cutset removed.": AT A cutset OF ONE ASCII BYTE. The world is as it was. (LAID: no walk: one application.) -/
theorem Tryd.strings_TrimLeft_one (s : ByteArray) (c : UInt8) (hc : c.toNat < 128) (w : World) :
    Calls Tryd.prog 41 #[.string s, .string ⟨#[c]⟩] w fun e w' => e = .returned (.string ⟨(Lib.trimLeftB s.data.toList c).toArray⟩) ∧ w' = w := Any.strings_TrimLeft_one Tryd.lays161 s c hc w
def Tryd.lays160_ren : Go.Shelf.Ren := ⟨fun | 160 => 42 | 232 => 50 | 231 => 46 | 227 => 47 | 234 => 51 | 233 => 48 | 236 => 52 | 235 => 49 | 228 => 55 | 271 => 58 | 151 => 57 | 197 => 56 | 120 => 65 | 152 => 64 | 260 => 63 | 137 => 35 | 119 => 71 | 224 => 72 | 225 => 73 | 217 => 43 | 266 => 53 | n => n, fun | 9 => 9 | 4 => 4 | 3 => 3 | 5 => 5 | 117 => 55 | 116 => 54 | 0 => 0 | 124 => 58 | 21 => 21 | 105 => 61 | 46 => 46 | 119 => 77 | 139 => 80 | 138 => 79 | n => n, fun | 3 => 2 | 4 => 3 | n => n⟩
theorem Tryd.lays160 : Go.Proofs.Lays.n160 Tryd.prog Tryd.lays160_ren := {
  mixed := by kernel_rfl
  f119 := Tryd.func71.trans (congrArg some (by kernel_rfl))
  f120 := Tryd.func65.trans (congrArg some (by kernel_rfl))
  f137 := Tryd.func35.trans (congrArg some (by kernel_rfl))
  f151 := Tryd.func57.trans (congrArg some (by kernel_rfl))
  f152 := Tryd.func64.trans (congrArg some (by kernel_rfl))
  f160 := Tryd.func42.trans (congrArg some (by kernel_rfl))
  f197 := Tryd.func56.trans (congrArg some (by kernel_rfl))
  f217 := Tryd.func43.trans (congrArg some (by kernel_rfl))
  f224 := Tryd.func72.trans (congrArg some (by kernel_rfl))
  f225 := Tryd.func73.trans (congrArg some (by kernel_rfl))
  f227 := Tryd.func47.trans (congrArg some (by kernel_rfl))
  f228 := Tryd.func55.trans (congrArg some (by kernel_rfl))
  f231 := Tryd.func46.trans (congrArg some (by kernel_rfl))
  f232 := Tryd.func50.trans (congrArg some (by kernel_rfl))
  f233 := Tryd.func48.trans (congrArg some (by kernel_rfl))
  f234 := Tryd.func51.trans (congrArg some (by kernel_rfl))
  f235 := Tryd.func49.trans (congrArg some (by kernel_rfl))
  f236 := Tryd.func52.trans (congrArg some (by kernel_rfl))
  f260 := Tryd.func63.trans (congrArg some (by kernel_rfl))
  f266 := Tryd.func53.trans (congrArg some (by kernel_rfl))
  f271 := Tryd.func58.trans (congrArg some (by kernel_rfl))
  t0 := Tryd.underlying0
  a0 := Tryd.isAgg0
  z0 := Tryd.sizeOf0
  v0 := Tryd.zeroValue0
  t3 := Tryd.underlying3
  a3 := Tryd.isAgg3
  z3 := Tryd.sizeOf3
  v3 := Tryd.zeroValue3
  t4 := Tryd.underlying4
  a4 := Tryd.isAgg4
  z4 := Tryd.sizeOf4
  v4 := Tryd.zeroValue4
  t5 := Tryd.underlying5
  a5 := Tryd.isAgg5
  z5 := Tryd.sizeOf5
  v5 := Tryd.zeroValue5
  t9 := Tryd.underlying9
  a9 := Tryd.isAgg9
  z9 := Tryd.sizeOf9
  v9 := Tryd.zeroValue9
  t21 := Tryd.underlying21
  a21 := Tryd.isAgg21
  z21 := Tryd.sizeOf21
  v21 := Tryd.zeroValue21
  t46 := Tryd.underlying46
  a46 := Tryd.isAgg46
  z46 := Tryd.sizeOf46
  v46 := Tryd.zeroValue46
  t105 := Tryd.underlying61
  a105 := Tryd.isAgg61
  z105 := Tryd.sizeOf61
  v105 := Tryd.zeroValue61
  t116 := Tryd.underlying54
  a116 := Tryd.isAgg54
  z116 := Tryd.sizeOf54
  t117 := Tryd.underlying55
  a117 := Tryd.isAgg55
  z117 := Tryd.sizeOf55
  v117 := Tryd.zeroValue55
  t119 := Tryd.underlying77
  a119 := Tryd.isAgg77
  z119 := Tryd.sizeOf77
  t124 := Tryd.underlying58
  a124 := Tryd.isAgg58
  z124 := Tryd.sizeOf58
  v124 := Tryd.zeroValue58
  t138 := Tryd.underlying79
  a138 := Tryd.isAgg79
  z138 := Tryd.sizeOf79
  v138 := Tryd.zeroValue79
  t139 := Tryd.underlying80
  a139 := Tryd.isAgg80
  z139 := Tryd.sizeOf80
  v139 := Tryd.zeroValue80
  g3 := by kernel_rfl
  g4 := by kernel_rfl }
open Go.RowKit in
/-- strings.Trim: "Trim returns a slice of the string s with all leading and trailing Unicode code points contained in cutset removed.": AT A cutset OF ONE ASCII BYTE. THE WORLD BEHIND IT: as it was, or (where s is not empty) with ONE DRAW MORE off the tape: the statement 'return trimLeftByte(trimRightByte(s, c), c)' draws its order of evaluation. (LAID: no walk: one application.) -/
theorem Tryd.strings_Trim_one (s : ByteArray) (c : UInt8) (hc : c.toNat < 128) (w : World) (hs : s.size ≤ 9223372036854775807) :
    Calls Tryd.prog 42 #[.string s, .string ⟨#[c]⟩] w fun e w' => e = .returned (.string ⟨(Lib.trimB s.data.toList c).toArray⟩) ∧ (w' = w ∨ w' = w.drew) := Any.strings_Trim_one Tryd.lays160 s c hc w hs
def Tryd.lays137_ren : Go.Shelf.Ren := ⟨fun | 137 => 35 | 217 => 43 | 266 => 53 | n => n, fun | 9 => 9 | 5 => 5 | 3 => 3 | n => n, fun | n => n⟩
theorem Tryd.lays137 : Go.Proofs.Lays.n137 Tryd.prog Tryd.lays137_ren := {
  mixed := by kernel_rfl
  f137 := Tryd.func35.trans (congrArg some (by kernel_rfl))
  f217 := Tryd.func43.trans (congrArg some (by kernel_rfl))
  f266 := Tryd.func53.trans (congrArg some (by kernel_rfl))
  t3 := Tryd.underlying3
  a3 := Tryd.isAgg3
  z3 := Tryd.sizeOf3
  v3 := Tryd.zeroValue3
  t5 := Tryd.underlying5
  a5 := Tryd.isAgg5
  z5 := Tryd.sizeOf5
  v5 := Tryd.zeroValue5
  t9 := Tryd.underlying9
  a9 := Tryd.isAgg9
  z9 := Tryd.sizeOf9
  v9 := Tryd.zeroValue9 }
open Go.RowKit in
/-- strings.IndexByte: "IndexByte returns the index of the first instance of c in s, or -1 if c is not present in s.": IT RETURNS 'Lib.indexByte s c'; the world is as it was. (LAID: no walk: one application.) -/
theorem Tryd.strings_IndexByte (s : ByteArray) (c : Int) (w : World) :
    Calls Tryd.prog 35 #[.string s, .int .u8 c] w fun e w' => e = .returned (.int .i64 (Lib.indexByte s.data.toList c.toNat.toUInt8)) ∧ w' = w := Any.strings_IndexByte Tryd.lays137 s c w
def Tryd.lays100_ren : Go.Shelf.Ren := ⟨fun | 100 => 37 | 207 => 44 | n => n, fun | 9 => 9 | 4 => 4 | 3 => 3 | n => n, fun | n => n⟩
theorem Tryd.lays100 : Go.Proofs.Lays.n100 Tryd.prog Tryd.lays100_ren := {
  mixed := by kernel_rfl
  f100 := Tryd.func37.trans (congrArg some (by kernel_rfl))
  f207 := Tryd.func44.trans (congrArg some (by kernel_rfl))
  t3 := Tryd.underlying3
  a3 := Tryd.isAgg3
  z3 := Tryd.sizeOf3
  v3 := Tryd.zeroValue3
  t4 := Tryd.underlying4
  a4 := Tryd.isAgg4
  z4 := Tryd.sizeOf4
  v4 := Tryd.zeroValue4
  t9 := Tryd.underlying9
  a9 := Tryd.isAgg9
  z9 := Tryd.sizeOf9
  v9 := Tryd.zeroValue9 }
open Go.RowKit Go.Lib in
/-- strings.HasSuffix: "HasSuffix reports whether the string s ends with suffix.": IT RETURNS 'Lib.hasSuffix s suffix'; the world is as it was. ('hs': no Go string is longer: a caller has it of every string that it was handed.) (LAID: no walk: one application.) -/
theorem Tryd.strings_HasSuffix (s p : ByteArray) (w : World) (hs : s.size ≤ 9223372036854775807) :
    Calls Tryd.prog 37 #[.string s, .string p] w fun e w' => e = .returned (.bool (Lib.hasSuffix s.data.toList p.data.toList)) ∧ w' = w := Any.strings_HasSuffix Tryd.lays100 s p w hs
end Go.Proofs
