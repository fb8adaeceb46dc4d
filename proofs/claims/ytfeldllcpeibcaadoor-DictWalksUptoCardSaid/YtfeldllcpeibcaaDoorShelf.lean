/-
  DERIVED: THE SHELF's CONTRACTS AT THIS DUMP, IN PLAIN WORDS (tools/lay-plain.mjs out of 'YtfeldllcpeibcaaDoorShelf.lean', which tools/lay-shelf.mjs wrote): THE SAME DECLARATIONS UNDER THE SAME NAMES: 'import', 'namespace', 'open', 'def', 'theorem' AND NOTHING ELSE: no command of the shelf's: FOR A HAND-IN. Each laying: the table of numbers ('.._ren') and one theorem, a field a fact of the dump's own or the kernel's comparison; each contract: ONE APPLICATION.
-/
import Derived.Shelf.Sort.Plain
import Derived.Shelf.Strings.Prefix
import Derived.Shelf.Strings.Repeat
import Derived.Shelf.Slices.In.SortNone
import Derived.Shelf.Slices.In.SortNone2
import Derived.Test.YtfeldllcpeibcaaDoorProg
namespace Go.Proofs
open Go.Shelf
def Tryd.lays190_ren : Go.Shelf.Ren := ⟨fun | 190 => 74 | 125 => 82 | 258 => 81 | 128 => 95 | 129 => 96 | 302 => 86 | 303 => 87 | 304 => 88 | 305 => 89 | 306 => 90 | 307 => 91 | 308 => 92 | 309 => 93 | 310 => 94 | 333 => 97 | 329 => 98 | 330 => 99 | 334 => 100 | 335 => 101 | 336 => 102 | 344 => 103 | n => n, fun | 31 => 57 | 9 => 9 | 3 => 3 | 46 => 63 | 0 => 0 | 51 => 123 | 53 => 82 | 4 => 4 | 183 => 144 | 182 => 143 | 131 => 64 | 5 => 5 | 218 => 150 | 222 => 133 | 228 => 156 | 229 => 67 | n => n, fun | n => n⟩
theorem Tryd.lays190 : Go.Proofs.Lays.n190 Tryd.prog Tryd.lays190_ren := {
  mixed := by kernel_rfl
  f125 := Tryd.func82.trans (congrArg some (by kernel_rfl))
  f128 := Tryd.func95.trans (congrArg some (by kernel_rfl))
  f129 := Tryd.func96.trans (congrArg some (by kernel_rfl))
  f190 := Tryd.func74.trans (congrArg some (by kernel_rfl))
  f258 := Tryd.func81.trans (congrArg some (by kernel_rfl))
  f302 := Tryd.func86.trans (congrArg some (by kernel_rfl))
  f303 := Tryd.func87.trans (congrArg some (by kernel_rfl))
  f304 := Tryd.func88.trans (congrArg some (by kernel_rfl))
  f305 := Tryd.func89.trans (congrArg some (by kernel_rfl))
  f306 := Tryd.func90.trans (congrArg some (by kernel_rfl))
  f307 := Tryd.func91.trans (congrArg some (by kernel_rfl))
  f308 := Tryd.func92.trans (congrArg some (by kernel_rfl))
  f309 := Tryd.func93.trans (congrArg some (by kernel_rfl))
  f310 := Tryd.func94.trans (congrArg some (by kernel_rfl))
  f329 := Tryd.func98.trans (congrArg some (by kernel_rfl))
  f330 := Tryd.func99.trans (congrArg some (by kernel_rfl))
  f333 := Tryd.func97.trans (congrArg some (by kernel_rfl))
  f334 := Tryd.func100.trans (congrArg some (by kernel_rfl))
  f335 := Tryd.func101.trans (congrArg some (by kernel_rfl))
  f336 := Tryd.func102.trans (congrArg some (by kernel_rfl))
  f344 := Tryd.func103.trans (congrArg some (by kernel_rfl))
  t0 := Tryd.underlying0
  a0 := Tryd.isAgg0
  z0 := Tryd.sizeOf0
  v0 := Tryd.zeroValue0
  t3 := Tryd.underlying3
  a3 := Tryd.isAgg3
  z3 := Tryd.sizeOf3
  v3 := Tryd.zeroValue3
  t4 := Tryd.underlying4
  a4 := Tryd.isAgg4
  z4 := Tryd.sizeOf4
  v4 := Tryd.zeroValue4
  t5 := Tryd.underlying5
  a5 := Tryd.isAgg5
  z5 := Tryd.sizeOf5
  v5 := Tryd.zeroValue5
  t9 := Tryd.underlying9
  a9 := Tryd.isAgg9
  z9 := Tryd.sizeOf9
  v9 := Tryd.zeroValue9
  t31 := Tryd.underlying57
  a31 := Tryd.isAgg57
  z31 := Tryd.sizeOf57
  v31 := Tryd.zeroValue57
  t46 := Tryd.underlying63
  a46 := Tryd.isAgg63
  z46 := Tryd.sizeOf63
  v46 := Tryd.zeroValue63
  t51 := Tryd.underlying123
  a51 := Tryd.isAgg123
  z51 := Tryd.sizeOf123
  v51 := Tryd.zeroValue123
  t53 := Tryd.underlying82
  a53 := Tryd.isAgg82
  z53 := Tryd.sizeOf82
  v53 := Tryd.zeroValue82
  t131 := Tryd.underlying64
  a131 := Tryd.isAgg64
  z131 := Tryd.sizeOf64
  v131 := Tryd.zeroValue64
  t182 := Tryd.underlying143
  a182 := Tryd.isAgg143
  z182 := Tryd.sizeOf143
  v182 := Tryd.zeroValue143
  t183 := Tryd.underlying144
  a183 := Tryd.isAgg144
  z183 := Tryd.sizeOf144
  v183 := Tryd.zeroValue144
  t218 := Tryd.underlying150
  a218 := Tryd.isAgg150
  z218 := Tryd.sizeOf150
  v218 := Tryd.zeroValue150
  t222 := Tryd.underlying133
  a222 := Tryd.isAgg133
  z222 := Tryd.sizeOf133
  v222 := Tryd.zeroValue133
  t228 := Tryd.underlying156
  a228 := Tryd.isAgg156
  z228 := Tryd.sizeOf156
  v228 := Tryd.zeroValue156
  t229 := Tryd.underlying67
  a229 := Tryd.isAgg67
  z229 := Tryd.sizeOf67
  v229 := Tryd.zeroValue67 }
open Go.Sort Go.RowKit in
theorem Tryd.slices_Sort_string (blk off cap : Nat) (ss : List (List UInt8)) (w : World) (hH : Holds encStr w blk off ss.toArray) (hblk : blk < w.heap.size) (hsz : ss.length < 4611686018427387904) :
    Calls Tryd.prog 74 #[.slice (some ⟨blk, off, none⟩) ss.length cap] w fun e w' =>
      e = .returned (.tuple #[]) ∧ ∃ n os, w' = grow (putRow encStr (Sort.ahead w n) blk off (ss.mergeSort fun x y => decide (x ≤ y)).toArray) os := Any.slices_Sort_string Tryd.lays190 blk off cap ss w hH hblk hsz
def Tryd.lays192_ren : Go.Shelf.Ren := ⟨fun | 192 => 52 | 190 => 74 | 125 => 82 | 258 => 81 | 128 => 95 | 129 => 96 | 302 => 86 | 303 => 87 | 304 => 88 | 305 => 89 | 306 => 90 | 307 => 91 | 308 => 92 | 309 => 93 | 310 => 94 | 333 => 97 | 329 => 98 | 330 => 99 | 334 => 100 | 335 => 101 | 336 => 102 | 344 => 103 | n => n, fun | 31 => 57 | 0 => 0 | 9 => 9 | 3 => 3 | 46 => 63 | 51 => 123 | 53 => 82 | 4 => 4 | 183 => 144 | 182 => 143 | 131 => 64 | 5 => 5 | 218 => 150 | 222 => 133 | 228 => 156 | 229 => 67 | n => n, fun | n => n⟩
theorem Tryd.lays192 : Go.Proofs.Lays.n192 Tryd.prog Tryd.lays192_ren := {
  mixed := by kernel_rfl
  f125 := Tryd.func82.trans (congrArg some (by kernel_rfl))
  f128 := Tryd.func95.trans (congrArg some (by kernel_rfl))
  f129 := Tryd.func96.trans (congrArg some (by kernel_rfl))
  f190 := Tryd.func74.trans (congrArg some (by kernel_rfl))
  f192 := Tryd.func52.trans (congrArg some (by kernel_rfl))
  f258 := Tryd.func81.trans (congrArg some (by kernel_rfl))
  f302 := Tryd.func86.trans (congrArg some (by kernel_rfl))
  f303 := Tryd.func87.trans (congrArg some (by kernel_rfl))
  f304 := Tryd.func88.trans (congrArg some (by kernel_rfl))
  f305 := Tryd.func89.trans (congrArg some (by kernel_rfl))
  f306 := Tryd.func90.trans (congrArg some (by kernel_rfl))
  f307 := Tryd.func91.trans (congrArg some (by kernel_rfl))
  f308 := Tryd.func92.trans (congrArg some (by kernel_rfl))
  f309 := Tryd.func93.trans (congrArg some (by kernel_rfl))
  f310 := Tryd.func94.trans (congrArg some (by kernel_rfl))
  f329 := Tryd.func98.trans (congrArg some (by kernel_rfl))
  f330 := Tryd.func99.trans (congrArg some (by kernel_rfl))
  f333 := Tryd.func97.trans (congrArg some (by kernel_rfl))
  f334 := Tryd.func100.trans (congrArg some (by kernel_rfl))
  f335 := Tryd.func101.trans (congrArg some (by kernel_rfl))
  f336 := Tryd.func102.trans (congrArg some (by kernel_rfl))
  f344 := Tryd.func103.trans (congrArg some (by kernel_rfl))
  t0 := Tryd.underlying0
  a0 := Tryd.isAgg0
  z0 := Tryd.sizeOf0
  v0 := Tryd.zeroValue0
  t3 := Tryd.underlying3
  a3 := Tryd.isAgg3
  z3 := Tryd.sizeOf3
  v3 := Tryd.zeroValue3
  t4 := Tryd.underlying4
  a4 := Tryd.isAgg4
  z4 := Tryd.sizeOf4
  v4 := Tryd.zeroValue4
  t5 := Tryd.underlying5
  a5 := Tryd.isAgg5
  z5 := Tryd.sizeOf5
  v5 := Tryd.zeroValue5
  t9 := Tryd.underlying9
  a9 := Tryd.isAgg9
  z9 := Tryd.sizeOf9
  v9 := Tryd.zeroValue9
  t31 := Tryd.underlying57
  a31 := Tryd.isAgg57
  z31 := Tryd.sizeOf57
  v31 := Tryd.zeroValue57
  t46 := Tryd.underlying63
  a46 := Tryd.isAgg63
  z46 := Tryd.sizeOf63
  v46 := Tryd.zeroValue63
  t51 := Tryd.underlying123
  a51 := Tryd.isAgg123
  z51 := Tryd.sizeOf123
  v51 := Tryd.zeroValue123
  t53 := Tryd.underlying82
  a53 := Tryd.isAgg82
  z53 := Tryd.sizeOf82
  v53 := Tryd.zeroValue82
  t131 := Tryd.underlying64
  a131 := Tryd.isAgg64
  z131 := Tryd.sizeOf64
  v131 := Tryd.zeroValue64
  t182 := Tryd.underlying143
  a182 := Tryd.isAgg143
  z182 := Tryd.sizeOf143
  v182 := Tryd.zeroValue143
  t183 := Tryd.underlying144
  a183 := Tryd.isAgg144
  z183 := Tryd.sizeOf144
  v183 := Tryd.zeroValue144
  t218 := Tryd.underlying150
  a218 := Tryd.isAgg150
  z218 := Tryd.sizeOf150
  v218 := Tryd.zeroValue150
  t222 := Tryd.underlying133
  a222 := Tryd.isAgg133
  z222 := Tryd.sizeOf133
  v222 := Tryd.zeroValue133
  t228 := Tryd.underlying156
  a228 := Tryd.isAgg156
  z228 := Tryd.sizeOf156
  v228 := Tryd.zeroValue156
  t229 := Tryd.underlying67
  a229 := Tryd.isAgg67
  z229 := Tryd.sizeOf67
  v229 := Tryd.zeroValue67 }
open Go.Sort Go.RowKit in
theorem Tryd.sort_Strings (blk off cap : Nat) (ss : List (List UInt8)) (w : World) (hH : Holds encStr w blk off ss.toArray) (hblk : blk < w.heap.size) (hsz : ss.length < 4611686018427387904) :
    Calls Tryd.prog 52 #[.slice (some ⟨blk, off, none⟩) ss.length cap] w fun e w' =>
      e = .returned (.tuple #[]) ∧ ∃ n os, w' = grow (putRow encStr (Sort.ahead w n) blk off (ss.mergeSort fun x y => decide (x ≤ y)).toArray) os := Any.sort_Strings Tryd.lays192 blk off cap ss w hH hblk hsz
def Tryd.lays206_ren : Go.Shelf.Ren := ⟨fun | 206 => 57 | n => n, fun | 9 => 9 | 4 => 4 | 3 => 3 | n => n, fun | n => n⟩
theorem Tryd.lays206 : Go.Proofs.Lays.n206 Tryd.prog Tryd.lays206_ren := {
  mixed := by kernel_rfl
  f206 := Tryd.func57.trans (congrArg some (by kernel_rfl))
  t3 := Tryd.underlying3
  a3 := Tryd.isAgg3
  z3 := Tryd.sizeOf3
  v3 := Tryd.zeroValue3
  t4 := Tryd.underlying4
  a4 := Tryd.isAgg4
  z4 := Tryd.sizeOf4
  v4 := Tryd.zeroValue4
  t9 := Tryd.underlying9
  a9 := Tryd.isAgg9
  z9 := Tryd.sizeOf9
  v9 := Tryd.zeroValue9 }
open Go.RowKit Go.Lib in
/-- internal/stringslite.HasPrefix (what strings.HasPrefix calls). (LAID: no walk: one application.) -/
theorem Tryd.stringslite_HasPrefix (s p : ByteArray) (w : World) :
    Calls Tryd.prog 57 #[.string s, .string p] w fun e w' => e = .returned (.bool (Lib.hasPrefix s.data.toList p.data.toList)) ∧ w' = w := Any.stringslite_HasPrefix Tryd.lays206 s p w
def Tryd.lays99_ren : Go.Shelf.Ren := ⟨fun | 99 => 30 | 206 => 57 | n => n, fun | 9 => 9 | 4 => 4 | 3 => 3 | n => n, fun | n => n⟩
theorem Tryd.lays99 : Go.Proofs.Lays.n99 Tryd.prog Tryd.lays99_ren := {
  mixed := by kernel_rfl
  f99 := Tryd.func30.trans (congrArg some (by kernel_rfl))
  f206 := Tryd.func57.trans (congrArg some (by kernel_rfl))
  t3 := Tryd.underlying3
  a3 := Tryd.isAgg3
  z3 := Tryd.sizeOf3
  v3 := Tryd.zeroValue3
  t4 := Tryd.underlying4
  a4 := Tryd.isAgg4
  z4 := Tryd.sizeOf4
  v4 := Tryd.zeroValue4
  t9 := Tryd.underlying9
  a9 := Tryd.isAgg9
  z9 := Tryd.sizeOf9
  v9 := Tryd.zeroValue9 }
open Go.RowKit Go.Lib in
/-- strings.HasPrefix: "HasPrefix reports whether the string s begins with prefix.": IT RETURNS 'Lib.hasPrefix s prefix'; the world is as it was. (LAID: no walk: one application.) -/
theorem Tryd.strings_HasPrefix (s p : ByteArray) (w : World) :
    Calls Tryd.prog 30 #[.string s, .string p] w fun e w' => e = .returned (.bool (Lib.hasPrefix s.data.toList p.data.toList)) ∧ w' = w := Any.strings_HasPrefix Tryd.lays99 s p w
def Tryd.lays105_ren : Go.Shelf.Ren := ⟨fun | 105 => 31 | 212 => 58 | 99 => 30 | 165 => 59 | 166 => 60 | 170 => 61 | 169 => 62 | 263 => 75 | 264 => 76 | 206 => 57 | 240 => 77 | 241 => 78 | 276 => 83 | 277 => 84 | n => n, fun | 9 => 9 | 3 => 3 | 4 => 4 | 20 => 20 | 0 => 0 | 46 => 63 | 109 => 100 | 5 => 5 | 72 => 104 | 76 => 106 | 51 => 123 | 146 => 124 | 53 => 82 | 148 => 126 | 70 => 102 | 37 => 22 | 75 => 26 | 127 => 128 | 164 => 137 | 80 => 108 | n => n, fun | n => n⟩
theorem Tryd.lays105 : Go.Proofs.Lays.n105 Tryd.prog Tryd.lays105_ren := {
  mixed := by kernel_rfl
  f99 := Tryd.func30.trans (congrArg some (by kernel_rfl))
  f105 := Tryd.func31.trans (congrArg some (by kernel_rfl))
  f165 := Tryd.func59.trans (congrArg some (by kernel_rfl))
  f166 := Tryd.func60.trans (congrArg some (by kernel_rfl))
  f169 := Tryd.func62.trans (congrArg some (by kernel_rfl))
  f170 := Tryd.func61.trans (congrArg some (by kernel_rfl))
  f206 := Tryd.func57.trans (congrArg some (by kernel_rfl))
  f212 := Tryd.func58.trans (congrArg some (by kernel_rfl))
  f240 := Tryd.func77.trans (congrArg some (by kernel_rfl))
  f241 := Tryd.func78.trans (congrArg some (by kernel_rfl))
  f263 := Tryd.func75.trans (congrArg some (by kernel_rfl))
  f264 := Tryd.func76.trans (congrArg some (by kernel_rfl))
  f276 := Tryd.func83.trans (congrArg some (by kernel_rfl))
  f277 := Tryd.func84.trans (congrArg some (by kernel_rfl))
  t0 := Tryd.underlying0
  a0 := Tryd.isAgg0
  z0 := Tryd.sizeOf0
  v0 := Tryd.zeroValue0
  t3 := Tryd.underlying3
  a3 := Tryd.isAgg3
  z3 := Tryd.sizeOf3
  v3 := Tryd.zeroValue3
  t4 := Tryd.underlying4
  a4 := Tryd.isAgg4
  z4 := Tryd.sizeOf4
  v4 := Tryd.zeroValue4
  t5 := Tryd.underlying5
  a5 := Tryd.isAgg5
  z5 := Tryd.sizeOf5
  v5 := Tryd.zeroValue5
  t9 := Tryd.underlying9
  a9 := Tryd.isAgg9
  z9 := Tryd.sizeOf9
  v9 := Tryd.zeroValue9
  t20 := Tryd.underlying20
  a20 := Tryd.isAgg20
  z20 := Tryd.sizeOf20
  v20 := Tryd.zeroValue20
  t37 := Tryd.underlying22
  a37 := Tryd.isAgg22
  z37 := Tryd.sizeOf22
  v37 := Tryd.zeroValue22
  t46 := Tryd.underlying63
  a46 := Tryd.isAgg63
  z46 := Tryd.sizeOf63
  v46 := Tryd.zeroValue63
  t51 := Tryd.underlying123
  a51 := Tryd.isAgg123
  z51 := Tryd.sizeOf123
  v51 := Tryd.zeroValue123
  t53 := Tryd.underlying82
  a53 := Tryd.isAgg82
  z53 := Tryd.sizeOf82
  v53 := Tryd.zeroValue82
  t70 := Tryd.underlying102
  a70 := Tryd.isAgg102
  z70 := Tryd.sizeOf102
  v70 := Tryd.zeroValue102
  t72 := Tryd.underlying104
  a72 := Tryd.isAgg104
  z72 := Tryd.sizeOf104
  v72 := Tryd.zeroValue104
  t75 := Tryd.underlying26
  a75 := Tryd.isAgg26
  z75 := Tryd.sizeOf26
  v75 := Tryd.zeroValue26
  t76 := Tryd.underlying106
  a76 := Tryd.isAgg106
  z76 := Tryd.sizeOf106
  v76 := Tryd.zeroValue106
  t109 := Tryd.underlying100
  a109 := Tryd.isAgg100
  z109 := Tryd.sizeOf100
  v109 := Tryd.zeroValue100
  t127 := Tryd.underlying128
  a127 := Tryd.isAgg128
  z127 := Tryd.sizeOf128
  v127 := Tryd.zeroValue128
  t146 := Tryd.underlying124
  a146 := Tryd.isAgg124
  z146 := Tryd.sizeOf124
  v146 := Tryd.zeroValue124
  t148 := Tryd.underlying126
  a148 := Tryd.isAgg126
  z148 := Tryd.sizeOf126
  v148 := Tryd.zeroValue126
  t164 := Tryd.underlying137
  a164 := Tryd.isAgg137
  z164 := Tryd.sizeOf137
  v164 := Tryd.zeroValue137 }
theorem Tryd.Builder_Extra_105 : Builder.Extra Tryd.prog Tryd.lays105_ren := {
  sizeBuilder := by kernel_rfl
  liesBuilder := by kernel_rfl
  t5 := Tryd.underlying5
  a5 := Tryd.isAgg5
  z5 := Tryd.sizeOf5
  v5 := Tryd.zeroValue5
  infoByte := by kernel_rfl
  cellsByte := by kernel_rfl
  sizeByte := by kernel_rfl
  neB5 := by decide }
open Go.RowKit Go.Lib in
/-- THE MAIN CASE: at least two copies of a string that is not empty. (LAID: no walk: one application.) -/
theorem Tryd.strings_Repeat_main (s : ByteArray) (c : Nat) (w : World) (hc2 : 2 ≤ c) (hc : c ≤ 9223372036854775807) (hlen : s.size * c ≤ 140737488355328) (h0 : 0 < s.size) :
    Calls Tryd.prog 31 #[.string s, .int .i64 c] w fun e w' => e = .returned (.string ⟨(Lib.repeatL s.data.toList c).toArray⟩) ∧ Below w.heap.size w w' := Any.strings_Repeat_main Tryd.lays105 Tryd.Builder_Extra_105 s c w hc2 hc hlen h0
open Go.RowKit Go.Lib in
theorem Tryd.strings_Repeat_zero (s : ByteArray) (w : World) :
    Calls Tryd.prog 31 #[.string s, .int .i64 0] w fun e w' => e = .returned (.string ⟨#[]⟩) ∧ w' = w := Any.strings_Repeat_zero Tryd.lays105 s w
open Go.RowKit Go.Lib in
theorem Tryd.strings_Repeat_one (s : ByteArray) (w : World) :
    Calls Tryd.prog 31 #[.string s, .int .i64 1] w fun e w' => e = .returned (.string s) ∧ w' = w := Any.strings_Repeat_one Tryd.lays105 s w
open Go.RowKit Go.Lib in
/-- Copies of the empty string. (LAID: no walk: one application.) -/
theorem Tryd.strings_Repeat_empty (s : ByteArray) (c : Nat) (w : World) (hc2 : 2 ≤ c) (hc : c ≤ 9223372036854775807) (h0 : s.size = 0) :
    Calls Tryd.prog 31 #[.string s, .int .i64 c] w fun e w' => e = .returned (.string ⟨#[]⟩) ∧ w' = w := Any.strings_Repeat_empty Tryd.lays105 s c w hc2 hc h0
open Go.RowKit Go.Lib in
/-- count < 0: "It panics if count is negative". (LAID: no walk: one application.) -/
theorem Tryd.strings_Repeat_negative (s : ByteArray) (c : Int) (w : World) (hc : c < 0) :
    Calls Tryd.prog 31 #[.string s, .int .i64 c] w fun e w' => e = .panicked [{ v := repeatPanic Tryd.lays105_ren "strings: negative Repeat count", recovered := false }] ∧ w' = w := Any.strings_Repeat_negative Tryd.lays105 s c w hc
open Go.RowKit Go.Lib in
/-- len(s) * count is no int: ".. or if the result of (len(s) * count) overflows". (LAID: no walk: one application.) -/
theorem Tryd.strings_Repeat_overflow (s : ByteArray) (c : Nat) (w : World) (hc : c ≤ 9223372036854775807) (hs : s.size ≤ 9223372036854775807) (hbig : 9223372036854775807 < s.size * c) :
    Calls Tryd.prog 31 #[.string s, .int .i64 c] w fun e w' => e = .panicked [{ v := repeatPanic Tryd.lays105_ren "strings: Repeat output length overflow", recovered := false }] ∧ w' = w := Any.strings_Repeat_overflow Tryd.lays105 s c w hc hs hbig
open Go.RowKit Go.Lib in
/-- **strings.Repeat: count ≥ 0, the result within one allocation: count copies of s.** (LAID: no walk: one application.) -/
theorem Tryd.strings_Repeat (s : ByteArray) (c : Nat) (w : World) (hc : c ≤ 9223372036854775807) (hlen : s.size * c ≤ 140737488355328) :
    Calls Tryd.prog 31 #[.string s, .int .i64 c] w fun e w' => e = .returned (.string ⟨(Lib.repeatL s.data.toList c).toArray⟩) ∧ Below w.heap.size w w' := Any.strings_Repeat Tryd.lays105 Tryd.Builder_Extra_105 s c w hc hlen
open Go.RowKit Go.Sort in
/-- .. and plain. (LAID: no walk: one application.) -/
theorem Tryd.slices_Sort_string_none (p : Option Addr) (cap : Nat) (w : World) :
    Calls Tryd.prog 74 #[.slice p 0 cap] w fun e w' => e = .returned (.tuple #[]) ∧ w' = w := Any.slices_Sort_string_none Tryd.lays190 p cap w
open Go.RowKit Go.Sort in
/-- .. and plain. (LAID: no walk: one application.) -/
theorem Tryd.sort_Strings_none (p : Option Addr) (cap : Nat) (w : World) :
    Calls Tryd.prog 52 #[.slice p 0 cap] w fun e w' => e = .returned (.tuple #[]) ∧ w' = w := Any.sort_Strings_none Tryd.lays192 p cap w
end Go.Proofs
