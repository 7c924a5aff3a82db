/-
  DERIVED: THE SHELF's CONTRACTS AT THIS DUMP, IN PLAIN WORDS (tools/lay-plain.mjs out of 'YtakagcofhbnjdaaShelf.lean', which tools/lay-shelf.mjs wrote): THE SAME DECLARATIONS UNDER THE SAME NAMES: 'import', 'namespace', 'open', 'def', 'theorem' AND NOTHING ELSE: no command of the shelf's: FOR A HAND-IN. Each laying: the table of numbers ('.._ren') and one theorem, a field a fact of the dump's own or the kernel's comparison; each contract: ONE APPLICATION.
-/
import Derived.Test.YtakagcofhbnjdaaProg
import Derived.Ground.NamesProg
import Derived.Shelf.Strings.IndexAnyAll
namespace Go.Proofs.Ytakagcofhbnjdaa.VS
open Go.Shelf Go.Proofs
def lays150_ren : Go.Shelf.Ren := ⟨fun | 150 => 99 | 153 => 119 | 152 => 125 | 226 => 126 | 227 => 127 | 228 => 128 | 137 => 130 | 119 => 131 | 224 => 132 | 225 => 133 | 217 => 134 | 266 => 135 | n => n, fun | 9 => 9 | 4 => 4 | 3 => 3 | 5 => 5 | 21 => 21 | 117 => 159 | 116 => 158 | 0 => 0 | 46 => 139 | 124 => 166 | n => n, fun | n => n⟩
theorem lays150 : Lays.n150 Try.prog lays150_ren := {
  mixed := by kernel_rfl
  f119 := Try.func131.trans (congrArg some (by kernel_rfl))
  f137 := Try.func130.trans (congrArg some (by kernel_rfl))
  f150 := Try.func99.trans (congrArg some (by kernel_rfl))
  f152 := Try.func125.trans (congrArg some (by kernel_rfl))
  f153 := Try.func119.trans (congrArg some (by kernel_rfl))
  f217 := Try.func134.trans (congrArg some (by kernel_rfl))
  f224 := Try.func132.trans (congrArg some (by kernel_rfl))
  f225 := Try.func133.trans (congrArg some (by kernel_rfl))
  f226 := Try.func126.trans (congrArg some (by kernel_rfl))
  f227 := Try.func127.trans (congrArg some (by kernel_rfl))
  f228 := Try.func128.trans (congrArg some (by kernel_rfl))
  f266 := Try.func135.trans (congrArg some (by kernel_rfl))
  t0 := Try.underlying0
  a0 := Try.isAgg0
  z0 := Try.sizeOf0
  v0 := Try.zeroValue0
  t3 := Try.underlying3
  a3 := Try.isAgg3
  z3 := Try.sizeOf3
  v3 := Try.zeroValue3
  t4 := Try.underlying4
  a4 := Try.isAgg4
  z4 := Try.sizeOf4
  v4 := Try.zeroValue4
  t5 := Try.underlying5
  a5 := Try.isAgg5
  z5 := Try.sizeOf5
  v5 := Try.zeroValue5
  t9 := Try.underlying9
  a9 := Try.isAgg9
  z9 := Try.sizeOf9
  v9 := Try.zeroValue9
  t21 := Try.underlying21
  a21 := Try.isAgg21
  z21 := Try.sizeOf21
  v21 := Try.zeroValue21
  t46 := Try.underlying139
  a46 := Try.isAgg139
  z46 := Try.sizeOf139
  v46 := Try.zeroValue139
  t116 := Try.underlying158
  a116 := Try.isAgg158
  z116 := Try.sizeOf158
  t117 := Try.underlying159
  a117 := Try.isAgg159
  z117 := Try.sizeOf159
  v117 := Try.zeroValue159
  t124 := Try.underlying166
  a124 := Try.isAgg166
  z124 := Try.sizeOf166
  v124 := Try.zeroValue166 }
end Go.Proofs.Ytakagcofhbnjdaa.VS
