/-
  DERIVED: THE SHELF's CONTRACTS AT THIS DUMP, IN PLAIN WORDS (tools/lay-plain.mjs out of 'TryzShelf.lean', which tools/lay-shelf.mjs wrote): THE SAME DECLARATIONS UNDER THE SAME NAMES: 'import', 'namespace', 'open', 'def', 'theorem' AND NOTHING ELSE: no command of the shelf's: FOR A HAND-IN. Each laying: the table of numbers ('.._ren') and one theorem, a field a fact of the dump's own or the kernel's comparison; each contract: ONE APPLICATION.
-/
import Derived.Shelf.Strings.Builder1
import Derived.Shelf.Small.Strs
import Derived.Shelf.Small.Wraps
import Derived.Shelf.Utf8.RuneCount
import Derived.Shelf.Strconv.Itoa0
import Derived.Shelf.Strconv.Itoa1
import Derived.Shelf.LaysM
import Derived.Shelf.Strconv.Itoa2
import Derived.Shelf.Strconv.Itoa3
import Derived.Shelf.Strings.Search1
import Derived.Shelf.Strings.Search2
import Derived.Shelf.Strings.Search3
import Derived.Shelf.Strings.Cut
import Derived.Shelf.Strings.Count
import Derived.Shelf.Strings.Shaped
import Derived.Shelf.Strings.LastIndex
import Derived.Shelf.Strings.Prefix
import Derived.Shelf.Strings.Split
import Derived.Shelf.Strings.SplitShaped
import Derived.Shelf.Unicode.Decode
import Derived.Shelf.Strings.RuneCount
import Derived.Shelf.Strings.Explode
import Derived.Shelf.Unicode.DecodeSlow
import Derived.Shelf.Unicode.DecodeAny
import Derived.Test.YtdfpdmddiapnmaaGreatDoorProg
namespace Go.Proofs
open Go.Shelf
def Tryz.lays169_ren : Go.Shelf.Ren := ⟨fun | 169 => 34 | n => n, fun | 70 => 60 | 9 => 9 | 0 => 0 | 72 => 63 | 37 => 61 | 127 => 83 | 3 => 3 | 5 => 5 | n => n, fun | n => n⟩
theorem Tryz.lays169 : Go.Proofs.Lays.n169 Tryz.prog Tryz.lays169_ren := {
  mixed := by kernel_rfl
  f169 := Tryz.func34.trans (congrArg some (by kernel_rfl))
  t0 := Tryz.underlying0
  a0 := Tryz.isAgg0
  z0 := Tryz.sizeOf0
  v0 := Tryz.zeroValue0
  t3 := Tryz.underlying3
  a3 := Tryz.isAgg3
  z3 := Tryz.sizeOf3
  v3 := Tryz.zeroValue3
  t9 := Tryz.underlying9
  a9 := Tryz.isAgg9
  z9 := Tryz.sizeOf9
  v9 := Tryz.zeroValue9
  t37 := Tryz.underlying61
  a37 := Tryz.isAgg61
  z37 := Tryz.sizeOf61
  v37 := Tryz.zeroValue61
  t70 := Tryz.underlying60
  a70 := Tryz.isAgg60
  z70 := Tryz.sizeOf60
  v70 := Tryz.zeroValue60
  t72 := Tryz.underlying63
  a72 := Tryz.isAgg63
  z72 := Tryz.sizeOf63
  v72 := Tryz.zeroValue63
  t127 := Tryz.underlying83
  a127 := Tryz.isAgg83
  z127 := Tryz.sizeOf83
  v127 := Tryz.zeroValue83 }
theorem Tryz.Builder_Extra_169 : Builder.Extra Tryz.prog Tryz.lays169_ren := {
  sizeBuilder := by kernel_rfl
  liesBuilder := by kernel_rfl
  t5 := Tryz.underlying5
  a5 := Tryz.isAgg5
  z5 := Tryz.sizeOf5
  v5 := Tryz.zeroValue5
  infoByte := by kernel_rfl
  cellsByte := by kernel_rfl
  sizeByte := by kernel_rfl
  neB5 := by decide }
open Go.RowKit in
/-- (*strings.Builder).String: "String returns the accumulated string.": OF A BUILDER THAT HOLDS AT LEAST ONE BYTE. ✋ THE MODEL FREEZES THOSE BYTES IN THE BUFFER (unsafe.String): a later write INTO them ends the model's run without an answer; a later append BEHIND them goes on. The statement's order of evaluation is drawn: one draw. (LAID: no walk: one application.) -/
theorem Tryz.Builder_String (B b : Nat) (l : List UInt8) (w : World) (h : Lib.IsBuilder 63 5 B b (Lib.byteCells l) w) (h0 : l ≠ []) :
    Calls Tryz.prog 34 #[.pointer (some ⟨b, 0, none⟩)] w fun e w' => e = .returned (.string ⟨l.toArray⟩) ∧ Below B w w' := Any.Builder_String Tryz.lays169 Tryz.Builder_Extra_169 B b l w h h0
open Go.RowKit in
/-- (*strings.Builder).String OF A BUILDER THAT HOLDS NO BYTE: the empty string. (Its buffer is nil, or a row of which it has taken nothing yet; where that row has NO capacity the model lays one new block for unsafe.SliceData's 'some address'.) One draw. (LAID: no walk: one application.) -/
theorem Tryz.Builder_String_empty (B b : Nat) (w : World) (h : Lib.IsBuilder 63 5 B b [] w) (hBw : B ≤ w.heap.size) :
    Calls Tryz.prog 34 #[.pointer (some ⟨b, 0, none⟩)] w fun e w' => e = .returned (.string ⟨#[]⟩) ∧ Below B w w' := Any.Builder_String_empty Tryz.lays169 Tryz.Builder_Extra_169 B b w h hBw
open Go.RowKit in
/-- (*strings.Builder).String: "String returns the accumulated string.": WHATEVER THE BUILDER HOLDS. (LAID: no walk: one application.) -/
theorem Tryz.Builder_String_any (B b : Nat) (l : List UInt8) (w : World) (h : Lib.IsBuilder 63 5 B b (Lib.byteCells l) w) (hBw : B ≤ w.heap.size) :
    Calls Tryz.prog 34 #[.pointer (some ⟨b, 0, none⟩)] w fun e w' => e = .returned (.string ⟨l.toArray⟩) ∧ Below B w w' := Any.Builder_String_any Tryz.lays169 Tryz.Builder_Extra_169 B b l w h hBw
def Tryz.lays143_ren : Go.Shelf.Ren := ⟨fun | 143 => 62 | 219 => 58 | 217 => 74 | 225 => 75 | 224 => 76 | 267 => 77 | 266 => 87 | 314 => 88 | n => n, fun | 9 => 9 | 3 => 3 | 4 => 4 | 5 => 5 | 46 => 101 | 146 => 109 | 51 => 108 | n => n, fun | 1 => 2 | n => n⟩
theorem Tryz.lays143 : Go.Proofs.Lays.n143 Tryz.prog Tryz.lays143_ren := {
  mixed := by kernel_rfl
  f143 := Tryz.func62.trans (congrArg some (by kernel_rfl))
  f217 := Tryz.func74.trans (congrArg some (by kernel_rfl))
  f219 := Tryz.func58.trans (congrArg some (by kernel_rfl))
  f224 := Tryz.func76.trans (congrArg some (by kernel_rfl))
  f225 := Tryz.func75.trans (congrArg some (by kernel_rfl))
  f266 := Tryz.func87.trans (congrArg some (by kernel_rfl))
  f267 := Tryz.func77.trans (congrArg some (by kernel_rfl))
  f314 := Tryz.func88.trans (congrArg some (by kernel_rfl))
  t3 := Tryz.underlying3
  a3 := Tryz.isAgg3
  z3 := Tryz.sizeOf3
  v3 := Tryz.zeroValue3
  t4 := Tryz.underlying4
  a4 := Tryz.isAgg4
  z4 := Tryz.sizeOf4
  v4 := Tryz.zeroValue4
  t5 := Tryz.underlying5
  a5 := Tryz.isAgg5
  z5 := Tryz.sizeOf5
  v5 := Tryz.zeroValue5
  t9 := Tryz.underlying9
  a9 := Tryz.isAgg9
  z9 := Tryz.sizeOf9
  v9 := Tryz.zeroValue9
  t46 := Tryz.underlying101
  a46 := Tryz.isAgg101
  z46 := Tryz.sizeOf101
  v46 := Tryz.zeroValue101
  t51 := Tryz.underlying108
  a51 := Tryz.isAgg108
  z51 := Tryz.sizeOf108
  v51 := Tryz.zeroValue108
  t146 := Tryz.underlying109
  a146 := Tryz.isAgg109
  z146 := Tryz.sizeOf109
  v146 := Tryz.zeroValue109
  g1 := by kernel_rfl }
open Go.RowKit Go.Lib in
/-- strings.Index: "Index returns the index of the first instance of substr in s, or -1 if substr is not present in s.": AT A substr OF ONE BYTE c: IT RETURNS 'Lib.indexByte s c'; the world is as it was. (LAID: no walk: one application.) -/
theorem Tryz.strings_Index_one (s : ByteArray) (c : UInt8) (w : World) :
    Calls Tryz.prog 62 #[.string s, .string ⟨#[c]⟩] w fun e w' => e = .returned (.int .i64 (Lib.indexByte s.data.toList c)) ∧ w' = w := Any.strings_Index_one Tryz.lays143 s c w
open Go.RowKit Go.Lib in
/-- strings.Index: "Index returns the index of the first instance of substr in s, or -1 if substr is not present in s.": IT RETURNS 'Lib.index s substr'; the world is as it was. (LAID: no walk: one application.) -/
theorem Tryz.strings_Index (s sub : ByteArray) (m : Int) (w : World) (hs : s.size < 4294967281) (hm : w.cell? ⟨2, 0, none⟩ = some (.int .i64 m)) :
    Calls Tryz.prog 62 #[.string s, .string sub] w fun e w' => e = .returned (.int .i64 (Lib.index s.data.toList sub.data.toList)) ∧ w' = w := Any.strings_Index Tryz.lays143 s sub m w hs hm
def Tryz.lays138_ren : Go.Shelf.Ren := ⟨fun | 138 => 61 | 195 => 78 | 218 => 80 | 143 => 62 | 219 => 58 | 217 => 74 | 225 => 75 | 224 => 76 | 267 => 77 | 266 => 87 | 314 => 88 | n => n, fun | 9 => 9 | 3 => 3 | 4 => 4 | 5 => 5 | 0 => 0 | 46 => 101 | 146 => 109 | 51 => 108 | n => n, fun | 1 => 2 | n => n⟩
theorem Tryz.lays138 : Go.Proofs.Lays.n138 Tryz.prog Tryz.lays138_ren := {
  mixed := by kernel_rfl
  f138 := Tryz.func61.trans (congrArg some (by kernel_rfl))
  f143 := Tryz.func62.trans (congrArg some (by kernel_rfl))
  f195 := Tryz.func78.trans (congrArg some (by kernel_rfl))
  f217 := Tryz.func74.trans (congrArg some (by kernel_rfl))
  f218 := Tryz.func80.trans (congrArg some (by kernel_rfl))
  f219 := Tryz.func58.trans (congrArg some (by kernel_rfl))
  f224 := Tryz.func76.trans (congrArg some (by kernel_rfl))
  f225 := Tryz.func75.trans (congrArg some (by kernel_rfl))
  f266 := Tryz.func87.trans (congrArg some (by kernel_rfl))
  f267 := Tryz.func77.trans (congrArg some (by kernel_rfl))
  f314 := Tryz.func88.trans (congrArg some (by kernel_rfl))
  t0 := Tryz.underlying0
  a0 := Tryz.isAgg0
  z0 := Tryz.sizeOf0
  v0 := Tryz.zeroValue0
  t3 := Tryz.underlying3
  a3 := Tryz.isAgg3
  z3 := Tryz.sizeOf3
  v3 := Tryz.zeroValue3
  t4 := Tryz.underlying4
  a4 := Tryz.isAgg4
  z4 := Tryz.sizeOf4
  v4 := Tryz.zeroValue4
  t5 := Tryz.underlying5
  a5 := Tryz.isAgg5
  z5 := Tryz.sizeOf5
  v5 := Tryz.zeroValue5
  t9 := Tryz.underlying9
  a9 := Tryz.isAgg9
  z9 := Tryz.sizeOf9
  v9 := Tryz.zeroValue9
  t46 := Tryz.underlying101
  a46 := Tryz.isAgg101
  z46 := Tryz.sizeOf101
  v46 := Tryz.zeroValue101
  t51 := Tryz.underlying108
  a51 := Tryz.isAgg108
  z51 := Tryz.sizeOf108
  v51 := Tryz.zeroValue108
  t146 := Tryz.underlying109
  a146 := Tryz.isAgg109
  z146 := Tryz.sizeOf109
  v146 := Tryz.zeroValue109
  g1 := by kernel_rfl }
open Go.RowKit Go.Lib in
/-- strings.Count AT A substr OF ONE BYTE ('hp'): "Count counts the number of non-overlapping instances of substr in s.": IT RETURNS 'Lib.countByte s (that byte)'; the world is as it was. ✋ NO CONTRACT HERE YET at an empty substr (utf8.RuneCountInString) or at a longer one (a loop over strings.Index). (LAID: no walk: one application.) -/
theorem Tryz.strings_Count_one (s : ByteArray) (c : UInt8) (w : World) :
    Calls Tryz.prog 61 #[.string s, .string ⟨#[c]⟩] w fun e w' => e = .returned (.int .i64 (Lib.countByte s.data.toList c)) ∧ w' = w := Any.strings_Count_one Tryz.lays138 s c w
open Go.RowKit Go.Lib in
/-- strings.Count AT A substr OF TWO BYTES OR MORE: "Count counts the number of non-overlapping instances of substr in s.": IT RETURNS 'Lib.count s substr'; the world is as it was. (LAID: no walk: one application.) -/
theorem Tryz.strings_Count (s sub : ByteArray) (m : Int) (w : World) (hs : s.size < 4294967281) (hm : w.cell? ⟨2, 0, none⟩ = some (.int .i64 m)) (h2 : 2 ≤ sub.size) :
    Calls Tryz.prog 61 #[.string s, .string sub] w fun e w' => e = .returned (.int .i64 (Lib.countB s sub)) ∧ w' = w := Any.strings_Count Tryz.lays138 s sub m w hs hm h2
def Tryz.lays221_ren : Go.Shelf.Ren := ⟨fun | 221 => 41 | 268 => 60 | 138 => 61 | 143 => 62 | 195 => 78 | 197 => 79 | 218 => 80 | 219 => 58 | 260 => 89 | 217 => 74 | 225 => 75 | 224 => 76 | 267 => 77 | 266 => 87 | 314 => 88 | n => n, fun | 9 => 9 | 3 => 3 | 31 => 50 | 4 => 4 | 0 => 0 | 105 => 102 | 21 => 21 | 5 => 5 | 46 => 101 | 119 => 117 | 139 => 120 | 138 => 119 | 146 => 109 | 51 => 108 | n => n, fun | 1 => 2 | 3 => 3 | 4 => 4 | n => n⟩
theorem Tryz.lays221 : Go.Proofs.Lays.n221 Tryz.prog Tryz.lays221_ren := {
  mixed := by kernel_rfl
  f138 := Tryz.func61.trans (congrArg some (by kernel_rfl))
  f143 := Tryz.func62.trans (congrArg some (by kernel_rfl))
  f195 := Tryz.func78.trans (congrArg some (by kernel_rfl))
  f197 := Tryz.func79.trans (congrArg some (by kernel_rfl))
  f217 := Tryz.func74.trans (congrArg some (by kernel_rfl))
  f218 := Tryz.func80.trans (congrArg some (by kernel_rfl))
  f219 := Tryz.func58.trans (congrArg some (by kernel_rfl))
  f221 := Tryz.func41.trans (congrArg some (by kernel_rfl))
  f224 := Tryz.func76.trans (congrArg some (by kernel_rfl))
  f225 := Tryz.func75.trans (congrArg some (by kernel_rfl))
  f260 := Tryz.func89.trans (congrArg some (by kernel_rfl))
  f266 := Tryz.func87.trans (congrArg some (by kernel_rfl))
  f267 := Tryz.func77.trans (congrArg some (by kernel_rfl))
  f268 := Tryz.func60.trans (congrArg some (by kernel_rfl))
  f314 := Tryz.func88.trans (congrArg some (by kernel_rfl))
  t0 := Tryz.underlying0
  a0 := Tryz.isAgg0
  z0 := Tryz.sizeOf0
  v0 := Tryz.zeroValue0
  t3 := Tryz.underlying3
  a3 := Tryz.isAgg3
  z3 := Tryz.sizeOf3
  v3 := Tryz.zeroValue3
  t4 := Tryz.underlying4
  a4 := Tryz.isAgg4
  z4 := Tryz.sizeOf4
  v4 := Tryz.zeroValue4
  t5 := Tryz.underlying5
  a5 := Tryz.isAgg5
  z5 := Tryz.sizeOf5
  v5 := Tryz.zeroValue5
  t9 := Tryz.underlying9
  a9 := Tryz.isAgg9
  z9 := Tryz.sizeOf9
  v9 := Tryz.zeroValue9
  t21 := Tryz.underlying21
  a21 := Tryz.isAgg21
  z21 := Tryz.sizeOf21
  v21 := Tryz.zeroValue21
  t31 := Tryz.underlying50
  a31 := Tryz.isAgg50
  z31 := Tryz.sizeOf50
  v31 := Tryz.zeroValue50
  t46 := Tryz.underlying101
  a46 := Tryz.isAgg101
  z46 := Tryz.sizeOf101
  v46 := Tryz.zeroValue101
  t51 := Tryz.underlying108
  a51 := Tryz.isAgg108
  z51 := Tryz.sizeOf108
  v51 := Tryz.zeroValue108
  t105 := Tryz.underlying102
  a105 := Tryz.isAgg102
  z105 := Tryz.sizeOf102
  v105 := Tryz.zeroValue102
  t119 := Tryz.underlying117
  a119 := Tryz.isAgg117
  z119 := Tryz.sizeOf117
  t138 := Tryz.underlying119
  a138 := Tryz.isAgg119
  z138 := Tryz.sizeOf119
  v138 := Tryz.zeroValue119
  t139 := Tryz.underlying120
  a139 := Tryz.isAgg120
  z139 := Tryz.sizeOf120
  v139 := Tryz.zeroValue120
  t146 := Tryz.underlying109
  a146 := Tryz.isAgg109
  z146 := Tryz.sizeOf109
  v146 := Tryz.zeroValue109
  g1 := by kernel_rfl
  g3 := by kernel_rfl
  g4 := by kernel_rfl }
open Go.RowKit Go.Lib in
theorem Tryz.strings_genSplit (s sep : ByteArray) (sv : Nat) (n : Int) (N : Nat) (m : Int) (w : World) (hs : s.size < 4294967281) (hm : w.cell? ⟨2, 0, none⟩ = some (.int .i64 m)) (h1 : 1 ≤ sep.size) (hsv : sv ≤ sep.size) (hn0 : n ≠ 0) (hn63 : n ≤ 9223372036854775807) (hN : (N : Int) = min (if n < 0 then (Lib.countB s sep : Int) + 1 else n) ((s.size : Int) + 1)) :
    Calls Tryz.prog 41 #[.string s, .string sep, .int .i64 sv, .int .i64 n] w fun e w' =>
      e = .returned (.slice (some ⟨w.heap.size, 0, none⟩) (Lib.splitB sep sv (N - 1) s).length N) ∧ w' = w.alloc (.cells (Lib.cellsOf (Lib.splitB sep sv (N - 1) s) N) 9) := Any.strings_genSplit Tryz.lays221 (by kernel_rfl) s sep sv n N m w hs hm h1 hsv hn0 hn63 hN
def Tryz.lays146_ren : Go.Shelf.Ren := ⟨fun | 146 => 23 | 221 => 41 | 268 => 60 | 138 => 61 | 143 => 62 | 195 => 78 | 197 => 79 | 218 => 80 | 219 => 58 | 260 => 89 | 217 => 74 | 225 => 75 | 224 => 76 | 267 => 77 | 266 => 87 | 314 => 88 | n => n, fun | 9 => 9 | 31 => 50 | 3 => 3 | 4 => 4 | 0 => 0 | 105 => 102 | 21 => 21 | 5 => 5 | 46 => 101 | 119 => 117 | 139 => 120 | 138 => 119 | 146 => 109 | 51 => 108 | n => n, fun | 1 => 2 | 3 => 3 | 4 => 4 | n => n⟩
theorem Tryz.lays146 : Go.Proofs.Lays.n146 Tryz.prog Tryz.lays146_ren := {
  mixed := by kernel_rfl
  f138 := Tryz.func61.trans (congrArg some (by kernel_rfl))
  f143 := Tryz.func62.trans (congrArg some (by kernel_rfl))
  f146 := Tryz.func23.trans (congrArg some (by kernel_rfl))
  f195 := Tryz.func78.trans (congrArg some (by kernel_rfl))
  f197 := Tryz.func79.trans (congrArg some (by kernel_rfl))
  f217 := Tryz.func74.trans (congrArg some (by kernel_rfl))
  f218 := Tryz.func80.trans (congrArg some (by kernel_rfl))
  f219 := Tryz.func58.trans (congrArg some (by kernel_rfl))
  f221 := Tryz.func41.trans (congrArg some (by kernel_rfl))
  f224 := Tryz.func76.trans (congrArg some (by kernel_rfl))
  f225 := Tryz.func75.trans (congrArg some (by kernel_rfl))
  f260 := Tryz.func89.trans (congrArg some (by kernel_rfl))
  f266 := Tryz.func87.trans (congrArg some (by kernel_rfl))
  f267 := Tryz.func77.trans (congrArg some (by kernel_rfl))
  f268 := Tryz.func60.trans (congrArg some (by kernel_rfl))
  f314 := Tryz.func88.trans (congrArg some (by kernel_rfl))
  t0 := Tryz.underlying0
  a0 := Tryz.isAgg0
  z0 := Tryz.sizeOf0
  v0 := Tryz.zeroValue0
  t3 := Tryz.underlying3
  a3 := Tryz.isAgg3
  z3 := Tryz.sizeOf3
  v3 := Tryz.zeroValue3
  t4 := Tryz.underlying4
  a4 := Tryz.isAgg4
  z4 := Tryz.sizeOf4
  v4 := Tryz.zeroValue4
  t5 := Tryz.underlying5
  a5 := Tryz.isAgg5
  z5 := Tryz.sizeOf5
  v5 := Tryz.zeroValue5
  t9 := Tryz.underlying9
  a9 := Tryz.isAgg9
  z9 := Tryz.sizeOf9
  v9 := Tryz.zeroValue9
  t21 := Tryz.underlying21
  a21 := Tryz.isAgg21
  z21 := Tryz.sizeOf21
  v21 := Tryz.zeroValue21
  t31 := Tryz.underlying50
  a31 := Tryz.isAgg50
  z31 := Tryz.sizeOf50
  v31 := Tryz.zeroValue50
  t46 := Tryz.underlying101
  a46 := Tryz.isAgg101
  z46 := Tryz.sizeOf101
  v46 := Tryz.zeroValue101
  t51 := Tryz.underlying108
  a51 := Tryz.isAgg108
  z51 := Tryz.sizeOf108
  v51 := Tryz.zeroValue108
  t105 := Tryz.underlying102
  a105 := Tryz.isAgg102
  z105 := Tryz.sizeOf102
  v105 := Tryz.zeroValue102
  t119 := Tryz.underlying117
  a119 := Tryz.isAgg117
  z119 := Tryz.sizeOf117
  t138 := Tryz.underlying119
  a138 := Tryz.isAgg119
  z138 := Tryz.sizeOf119
  v138 := Tryz.zeroValue119
  t139 := Tryz.underlying120
  a139 := Tryz.isAgg120
  z139 := Tryz.sizeOf120
  v139 := Tryz.zeroValue120
  t146 := Tryz.underlying109
  a146 := Tryz.isAgg109
  z146 := Tryz.sizeOf109
  v146 := Tryz.zeroValue109
  g1 := by kernel_rfl
  g3 := by kernel_rfl
  g4 := by kernel_rfl }
open Go.RowKit Go.Lib in
/-- strings.Split. (LAID: no walk: one application.) -/
theorem Tryz.strings_Split (s sep : ByteArray) (m : Int) (w : World) (hs : s.size < 4294967281) (hm : w.cell? ⟨2, 0, none⟩ = some (.int .i64 m)) (h1 : 1 ≤ sep.size) :
    Calls Tryz.prog 23 #[.string s, .string sep] w fun e w' =>
      e = .returned (.slice (some ⟨w.heap.size, 0, none⟩) (Lib.countB s sep + 1) (Lib.countB s sep + 1)) ∧ w' = w.alloc (.cells ((Lib.splitB sep 0 (Lib.countB s sep) s).map Value.string).toArray 9) := Any.strings_Split Tryz.lays146 (by kernel_rfl) s sep m w hs hm h1
end Go.Proofs
