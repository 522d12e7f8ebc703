/-
  DERIVED: THE SHELF's CONTRACTS AT THIS DUMP, IN PLAIN WORDS (tools/lay-plain.mjs out of 'YtknoemdkfhkkhaaShelf.lean', which tools/lay-shelf.mjs wrote): THE SAME DECLARATIONS UNDER THE SAME NAMES: 'import', 'namespace', 'open', 'def', 'theorem' AND NOTHING ELSE: no command of the shelf's: FOR A HAND-IN. Each laying: the table of numbers ('.._ren') and one theorem, a field a fact of the dump's own or the kernel's comparison; each contract: ONE APPLICATION.
-/
import Derived.Shelf.Strings.Repeat
import Derived.Test.YtknoemdkfhkkhaaProg
namespace Go.Proofs
open Go.Shelf
def Try.lays105_ren : Go.Shelf.Ren := ⟨fun | 105 => 81 | 212 => 111 | 99 => 112 | 165 => 113 | 166 => 83 | 170 => 114 | 169 => 84 | 263 => 130 | 264 => 131 | 206 => 132 | 240 => 116 | 241 => 133 | 276 => 135 | 277 => 141 | n => n, fun | 9 => 9 | 3 => 3 | 4 => 4 | 20 => 20 | 0 => 0 | 46 => 32 | 109 => 130 | 5 => 5 | 72 => 94 | 76 => 97 | 51 => 33 | 146 => 143 | 53 => 52 | 148 => 145 | 70 => 92 | 37 => 22 | 75 => 96 | 127 => 132 | 164 => 147 | 80 => 59 | n => n, fun | n => n⟩
theorem Try.lays105 : Go.Proofs.Lays.n105 Try.prog Try.lays105_ren := {
  mixed := by kernel_rfl
  f99 := Try.func112.trans (congrArg some (by kernel_rfl))
  f105 := Try.func81.trans (congrArg some (by kernel_rfl))
  f165 := Try.func113.trans (congrArg some (by kernel_rfl))
  f166 := Try.func83.trans (congrArg some (by kernel_rfl))
  f169 := Try.func84.trans (congrArg some (by kernel_rfl))
  f170 := Try.func114.trans (congrArg some (by kernel_rfl))
  f206 := Try.func132.trans (congrArg some (by kernel_rfl))
  f212 := Try.func111.trans (congrArg some (by kernel_rfl))
  f240 := Try.func116.trans (congrArg some (by kernel_rfl))
  f241 := Try.func133.trans (congrArg some (by kernel_rfl))
  f263 := Try.func130.trans (congrArg some (by kernel_rfl))
  f264 := Try.func131.trans (congrArg some (by kernel_rfl))
  f276 := Try.func135.trans (congrArg some (by kernel_rfl))
  f277 := Try.func141.trans (congrArg some (by kernel_rfl))
  t0 := Try.underlying0
  a0 := Try.isAgg0
  z0 := Try.sizeOf0
  v0 := Try.zeroValue0
  t3 := Try.underlying3
  a3 := Try.isAgg3
  z3 := Try.sizeOf3
  v3 := Try.zeroValue3
  t4 := Try.underlying4
  a4 := Try.isAgg4
  z4 := Try.sizeOf4
  v4 := Try.zeroValue4
  t5 := Try.underlying5
  a5 := Try.isAgg5
  z5 := Try.sizeOf5
  v5 := Try.zeroValue5
  t9 := Try.underlying9
  a9 := Try.isAgg9
  z9 := Try.sizeOf9
  v9 := Try.zeroValue9
  t20 := Try.underlying20
  a20 := Try.isAgg20
  z20 := Try.sizeOf20
  v20 := Try.zeroValue20
  t37 := Try.underlying22
  a37 := Try.isAgg22
  z37 := Try.sizeOf22
  v37 := Try.zeroValue22
  t46 := Try.underlying32
  a46 := Try.isAgg32
  z46 := Try.sizeOf32
  v46 := Try.zeroValue32
  t51 := Try.underlying33
  a51 := Try.isAgg33
  z51 := Try.sizeOf33
  v51 := Try.zeroValue33
  t53 := Try.underlying52
  a53 := Try.isAgg52
  z53 := Try.sizeOf52
  v53 := Try.zeroValue52
  t70 := Try.underlying92
  a70 := Try.isAgg92
  z70 := Try.sizeOf92
  v70 := Try.zeroValue92
  t72 := Try.underlying94
  a72 := Try.isAgg94
  z72 := Try.sizeOf94
  v72 := Try.zeroValue94
  t75 := Try.underlying96
  a75 := Try.isAgg96
  z75 := Try.sizeOf96
  v75 := Try.zeroValue96
  t76 := Try.underlying97
  a76 := Try.isAgg97
  z76 := Try.sizeOf97
  v76 := Try.zeroValue97
  t109 := Try.underlying130
  a109 := Try.isAgg130
  z109 := Try.sizeOf130
  v109 := Try.zeroValue130
  t127 := Try.underlying132
  a127 := Try.isAgg132
  z127 := Try.sizeOf132
  v127 := Try.zeroValue132
  t146 := Try.underlying143
  a146 := Try.isAgg143
  z146 := Try.sizeOf143
  v146 := Try.zeroValue143
  t148 := Try.underlying145
  a148 := Try.isAgg145
  z148 := Try.sizeOf145
  v148 := Try.zeroValue145
  t164 := Try.underlying147
  a164 := Try.isAgg147
  z164 := Try.sizeOf147
  v164 := Try.zeroValue147 }
theorem Try.Builder_Extra_105 : Builder.Extra Try.prog Try.lays105_ren := {
  sizeBuilder := by kernel_rfl
  liesBuilder := by kernel_rfl
  t5 := Try.underlying5
  a5 := Try.isAgg5
  z5 := Try.sizeOf5
  v5 := Try.zeroValue5
  infoByte := by kernel_rfl
  cellsByte := by kernel_rfl
  sizeByte := by kernel_rfl
  neB5 := by decide }
open Go.RowKit Go.Lib in
/-- THE MAIN CASE: at least two copies of a string that is not empty. (LAID: no walk: one application.) -/
theorem Try.strings_Repeat_main (s : ByteArray) (c : Nat) (w : World) (hc2 : 2 ≤ c) (hc : c ≤ 9223372036854775807) (hlen : s.size * c ≤ 140737488355328) (h0 : 0 < s.size) :
    Calls Try.prog 81 #[.string s, .int .i64 c] w fun e w' => e = .returned (.string ⟨(Lib.repeatL s.data.toList c).toArray⟩) ∧ Below w.heap.size w w' := Any.strings_Repeat_main Try.lays105 Try.Builder_Extra_105 s c w hc2 hc hlen h0
open Go.RowKit Go.Lib in
theorem Try.strings_Repeat_zero (s : ByteArray) (w : World) :
    Calls Try.prog 81 #[.string s, .int .i64 0] w fun e w' => e = .returned (.string ⟨#[]⟩) ∧ w' = w := Any.strings_Repeat_zero Try.lays105 s w
open Go.RowKit Go.Lib in
theorem Try.strings_Repeat_one (s : ByteArray) (w : World) :
    Calls Try.prog 81 #[.string s, .int .i64 1] w fun e w' => e = .returned (.string s) ∧ w' = w := Any.strings_Repeat_one Try.lays105 s w
open Go.RowKit Go.Lib in
/-- Copies of the empty string. (LAID: no walk: one application.) -/
theorem Try.strings_Repeat_empty (s : ByteArray) (c : Nat) (w : World) (hc2 : 2 ≤ c) (hc : c ≤ 9223372036854775807) (h0 : s.size = 0) :
    Calls Try.prog 81 #[.string s, .int .i64 c] w fun e w' => e = .returned (.string ⟨#[]⟩) ∧ w' = w := Any.strings_Repeat_empty Try.lays105 s c w hc2 hc h0
open Go.RowKit Go.Lib in
/-- count < 0: "It panics if count is negative". (LAID: no walk: one application.) -/
theorem Try.strings_Repeat_negative (s : ByteArray) (c : Int) (w : World) (hc : c < 0) :
    Calls Try.prog 81 #[.string s, .int .i64 c] w fun e w' => e = .panicked [{ v := repeatPanic Try.lays105_ren "strings: negative Repeat count", recovered := false }] ∧ w' = w := Any.strings_Repeat_negative Try.lays105 s c w hc
open Go.RowKit Go.Lib in
/-- len(s) * count is no int: ".. or if the result of (len(s) * count) overflows". (LAID: no walk: one application.) -/
theorem Try.strings_Repeat_overflow (s : ByteArray) (c : Nat) (w : World) (hc : c ≤ 9223372036854775807) (hs : s.size ≤ 9223372036854775807) (hbig : 9223372036854775807 < s.size * c) :
    Calls Try.prog 81 #[.string s, .int .i64 c] w fun e w' => e = .panicked [{ v := repeatPanic Try.lays105_ren "strings: Repeat output length overflow", recovered := false }] ∧ w' = w := Any.strings_Repeat_overflow Try.lays105 s c w hc hs hbig
open Go.RowKit Go.Lib in
/-- **strings.Repeat: count ≥ 0, the result within one allocation: count copies of s.** (LAID: no walk: one application.) -/
theorem Try.strings_Repeat (s : ByteArray) (c : Nat) (w : World) (hc : c ≤ 9223372036854775807) (hlen : s.size * c ≤ 140737488355328) :
    Calls Try.prog 81 #[.string s, .int .i64 c] w fun e w' => e = .returned (.string ⟨(Lib.repeatL s.data.toList c).toArray⟩) ∧ Below w.heap.size w w' := Any.strings_Repeat Try.lays105 Try.Builder_Extra_105 s c w hc hlen
end Go.Proofs
