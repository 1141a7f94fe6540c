/-
  DERIVED: THE SHELF's CONTRACTS AT THIS DUMP, IN PLAIN WORDS (tools/lay-plain.mjs out of 'YtnmgambilpoeiaaSortLay.lean', which tools/lay-shelf.mjs wrote): THE SAME DECLARATIONS UNDER THE SAME NAMES: 'import', 'namespace', 'open', 'def', 'theorem' AND NOTHING ELSE: no command of the shelf's: FOR A HAND-IN. Each laying: the table of numbers ('.._ren') and one theorem, a field a fact of the dump's own or the kernel's comparison; each contract: ONE APPLICATION.
-/
import Derived.Shelf.Sort.Plain
import Derived.Shelf.Slices.In.SortNone
import Derived.Ground.SlgnProg
import Derived.Test.YtnmgambilpoeiaaProg
namespace Go.Proofs
open Go.Shelf
def Try.lays189_ren : Go.Shelf.Ren := ⟨fun | 189 => 56 | 125 => 62 | 257 => 61 | 128 => 72 | 129 => 73 | 294 => 63 | 295 => 64 | 296 => 65 | 297 => 66 | 298 => 67 | 299 => 68 | 216 => 69 | 300 => 70 | 301 => 71 | 328 => 74 | 329 => 75 | 330 => 76 | 331 => 77 | 332 => 78 | 215 => 79 | 343 => 80 | n => n, fun | 28 => 22 | 3 => 3 | 46 => 82 | 0 => 0 | 51 => 92 | 53 => 65 | 4 => 4 | 183 => 85 | 182 => 84 | 131 => 71 | 5 => 5 | 9 => 9 | 218 => 94 | 222 => 98 | 228 => 100 | 229 => 101 | n => n, fun | n => n⟩
theorem Try.lays189 : Go.Proofs.Lays.n189 Try.prog Try.lays189_ren := {
  mixed := by kernel_rfl
  f125 := Try.func62.trans (congrArg some (by kernel_rfl))
  f128 := Try.func72.trans (congrArg some (by kernel_rfl))
  f129 := Try.func73.trans (congrArg some (by kernel_rfl))
  f189 := Try.func56.trans (congrArg some (by kernel_rfl))
  f215 := Try.func79.trans (congrArg some (by kernel_rfl))
  f216 := Try.func69.trans (congrArg some (by kernel_rfl))
  f257 := Try.func61.trans (congrArg some (by kernel_rfl))
  f294 := Try.func63.trans (congrArg some (by kernel_rfl))
  f295 := Try.func64.trans (congrArg some (by kernel_rfl))
  f296 := Try.func65.trans (congrArg some (by kernel_rfl))
  f297 := Try.func66.trans (congrArg some (by kernel_rfl))
  f298 := Try.func67.trans (congrArg some (by kernel_rfl))
  f299 := Try.func68.trans (congrArg some (by kernel_rfl))
  f300 := Try.func70.trans (congrArg some (by kernel_rfl))
  f301 := Try.func71.trans (congrArg some (by kernel_rfl))
  f328 := Try.func74.trans (congrArg some (by kernel_rfl))
  f329 := Try.func75.trans (congrArg some (by kernel_rfl))
  f330 := Try.func76.trans (congrArg some (by kernel_rfl))
  f331 := Try.func77.trans (congrArg some (by kernel_rfl))
  f332 := Try.func78.trans (congrArg some (by kernel_rfl))
  f343 := Try.func80.trans (congrArg some (by kernel_rfl))
  t0 := Try.underlying0
  a0 := Try.isAgg0
  z0 := Try.sizeOf0
  v0 := Try.zeroValue0
  t3 := Try.underlying3
  a3 := Try.isAgg3
  z3 := Try.sizeOf3
  v3 := Try.zeroValue3
  t4 := Try.underlying4
  a4 := Try.isAgg4
  z4 := Try.sizeOf4
  v4 := Try.zeroValue4
  t5 := Try.underlying5
  a5 := Try.isAgg5
  z5 := Try.sizeOf5
  v5 := Try.zeroValue5
  t9 := Try.underlying9
  a9 := Try.isAgg9
  z9 := Try.sizeOf9
  v9 := Try.zeroValue9
  t28 := Try.underlying22
  a28 := Try.isAgg22
  z28 := Try.sizeOf22
  v28 := Try.zeroValue22
  t46 := Try.underlying82
  a46 := Try.isAgg82
  z46 := Try.sizeOf82
  v46 := Try.zeroValue82
  t51 := Try.underlying92
  a51 := Try.isAgg92
  z51 := Try.sizeOf92
  v51 := Try.zeroValue92
  t53 := Try.underlying65
  a53 := Try.isAgg65
  z53 := Try.sizeOf65
  v53 := Try.zeroValue65
  t131 := Try.underlying71
  a131 := Try.isAgg71
  z131 := Try.sizeOf71
  v131 := Try.zeroValue71
  t182 := Try.underlying84
  a182 := Try.isAgg84
  z182 := Try.sizeOf84
  v182 := Try.zeroValue84
  t183 := Try.underlying85
  a183 := Try.isAgg85
  z183 := Try.sizeOf85
  v183 := Try.zeroValue85
  t218 := Try.underlying94
  a218 := Try.isAgg94
  z218 := Try.sizeOf94
  v218 := Try.zeroValue94
  t222 := Try.underlying98
  a222 := Try.isAgg98
  z222 := Try.sizeOf98
  v222 := Try.zeroValue98
  t228 := Try.underlying100
  a228 := Try.isAgg100
  z228 := Try.sizeOf100
  v228 := Try.zeroValue100
  t229 := Try.underlying101
  a229 := Try.isAgg101
  z229 := Try.sizeOf101
  v229 := Try.zeroValue101 }
open Go.Sort Go.RowKit in
theorem Try.slices_Sort_int (blk off cap : Nat) (zs : List Int) (w : World) (hH : Holds (Value.int .i64) w blk off zs.toArray) (hblk : blk < w.heap.size) (hsz : zs.length < 4611686018427387904) :
    Calls Try.prog 56 #[.slice (some ⟨blk, off, none⟩) zs.length cap] w fun e w' =>
      e = .returned (.tuple #[]) ∧ ∃ n os, w' = grow (putRow (Value.int .i64) (Sort.ahead w n) blk off (zs.mergeSort fun x y => decide (x ≤ y)).toArray) os := Any.slices_Sort_int Try.lays189 blk off cap zs w hH hblk hsz
open Go.RowKit Go.Sort in
/-- .. and plain. (LAID: no walk: one application.) -/
theorem Try.slices_Sort_int_none (p : Option Addr) (cap : Nat) (w : World) :
    Calls Try.prog 56 #[.slice p 0 cap] w fun e w' => e = .returned (.tuple #[]) ∧ w' = w := Any.slices_Sort_int_none Try.lays189 p cap w
end Go.Proofs
