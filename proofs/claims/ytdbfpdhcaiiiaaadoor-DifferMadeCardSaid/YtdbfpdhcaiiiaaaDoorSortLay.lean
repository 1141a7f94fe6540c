/-
  DERIVED: THE SHELF's CONTRACTS AT THIS DUMP, IN PLAIN WORDS (tools/lay-plain.mjs out of 'YtdbfpdhcaiiiaaaDoorSortLay.lean', which tools/lay-shelf.mjs wrote): THE SAME DECLARATIONS UNDER THE SAME NAMES: 'import', 'namespace', 'open', 'def', 'theorem' AND NOTHING ELSE: no command of the shelf's: FOR A HAND-IN. Each laying: the table of numbers ('.._ren') and one theorem, a field a fact of the dump's own or the kernel's comparison; each contract: ONE APPLICATION.
-/
import Derived.Shelf.Sort.Plain
import Derived.Shelf.Slices.In.SortNone
import Derived.Test.YtdbfpdhcaiiiaaaDoorProg
namespace Go.Proofs
open Go.Shelf
def Tryd.lays189_ren : Go.Shelf.Ren := ⟨fun | 189 => 38 | 125 => 61 | 257 => 60 | 128 => 81 | 129 => 82 | 294 => 72 | 295 => 73 | 296 => 74 | 297 => 75 | 298 => 76 | 299 => 77 | 216 => 78 | 300 => 79 | 301 => 80 | 328 => 85 | 329 => 86 | 330 => 87 | 331 => 88 | 332 => 89 | 215 => 90 | 343 => 93 | n => n, fun | 28 => 22 | 3 => 3 | 46 => 84 | 0 => 0 | 51 => 104 | 53 => 106 | 4 => 4 | 183 => 96 | 182 => 95 | 131 => 101 | 5 => 5 | 9 => 9 | 218 => 109 | 222 => 113 | 228 => 116 | 229 => 117 | n => n, fun | n => n⟩
theorem Tryd.lays189 : Go.Proofs.Lays.n189 Tryd.prog Tryd.lays189_ren := {
  mixed := by kernel_rfl
  f125 := Tryd.func61.trans (congrArg some (by kernel_rfl))
  f128 := Tryd.func81.trans (congrArg some (by kernel_rfl))
  f129 := Tryd.func82.trans (congrArg some (by kernel_rfl))
  f189 := Tryd.func38.trans (congrArg some (by kernel_rfl))
  f215 := Tryd.func90.trans (congrArg some (by kernel_rfl))
  f216 := Tryd.func78.trans (congrArg some (by kernel_rfl))
  f257 := Tryd.func60.trans (congrArg some (by kernel_rfl))
  f294 := Tryd.func72.trans (congrArg some (by kernel_rfl))
  f295 := Tryd.func73.trans (congrArg some (by kernel_rfl))
  f296 := Tryd.func74.trans (congrArg some (by kernel_rfl))
  f297 := Tryd.func75.trans (congrArg some (by kernel_rfl))
  f298 := Tryd.func76.trans (congrArg some (by kernel_rfl))
  f299 := Tryd.func77.trans (congrArg some (by kernel_rfl))
  f300 := Tryd.func79.trans (congrArg some (by kernel_rfl))
  f301 := Tryd.func80.trans (congrArg some (by kernel_rfl))
  f328 := Tryd.func85.trans (congrArg some (by kernel_rfl))
  f329 := Tryd.func86.trans (congrArg some (by kernel_rfl))
  f330 := Tryd.func87.trans (congrArg some (by kernel_rfl))
  f331 := Tryd.func88.trans (congrArg some (by kernel_rfl))
  f332 := Tryd.func89.trans (congrArg some (by kernel_rfl))
  f343 := Tryd.func93.trans (congrArg some (by kernel_rfl))
  t0 := Tryd.underlying0
  a0 := Tryd.isAgg0
  z0 := Tryd.sizeOf0
  v0 := Tryd.zeroValue0
  t3 := Tryd.underlying3
  a3 := Tryd.isAgg3
  z3 := Tryd.sizeOf3
  v3 := Tryd.zeroValue3
  t4 := Tryd.underlying4
  a4 := Tryd.isAgg4
  z4 := Tryd.sizeOf4
  v4 := Tryd.zeroValue4
  t5 := Tryd.underlying5
  a5 := Tryd.isAgg5
  z5 := Tryd.sizeOf5
  v5 := Tryd.zeroValue5
  t9 := Tryd.underlying9
  a9 := Tryd.isAgg9
  z9 := Tryd.sizeOf9
  v9 := Tryd.zeroValue9
  t28 := Tryd.underlying22
  a28 := Tryd.isAgg22
  z28 := Tryd.sizeOf22
  v28 := Tryd.zeroValue22
  t46 := Tryd.underlying84
  a46 := Tryd.isAgg84
  z46 := Tryd.sizeOf84
  v46 := Tryd.zeroValue84
  t51 := Tryd.underlying104
  a51 := Tryd.isAgg104
  z51 := Tryd.sizeOf104
  v51 := Tryd.zeroValue104
  t53 := Tryd.underlying106
  a53 := Tryd.isAgg106
  z53 := Tryd.sizeOf106
  v53 := Tryd.zeroValue106
  t131 := Tryd.underlying101
  a131 := Tryd.isAgg101
  z131 := Tryd.sizeOf101
  v131 := Tryd.zeroValue101
  t182 := Tryd.underlying95
  a182 := Tryd.isAgg95
  z182 := Tryd.sizeOf95
  v182 := Tryd.zeroValue95
  t183 := Tryd.underlying96
  a183 := Tryd.isAgg96
  z183 := Tryd.sizeOf96
  v183 := Tryd.zeroValue96
  t218 := Tryd.underlying109
  a218 := Tryd.isAgg109
  z218 := Tryd.sizeOf109
  v218 := Tryd.zeroValue109
  t222 := Tryd.underlying113
  a222 := Tryd.isAgg113
  z222 := Tryd.sizeOf113
  v222 := Tryd.zeroValue113
  t228 := Tryd.underlying116
  a228 := Tryd.isAgg116
  z228 := Tryd.sizeOf116
  v228 := Tryd.zeroValue116
  t229 := Tryd.underlying117
  a229 := Tryd.isAgg117
  z229 := Tryd.sizeOf117
  v229 := Tryd.zeroValue117 }
open Go.Sort Go.RowKit in
theorem Tryd.slices_Sort_int (blk off cap : Nat) (zs : List Int) (w : World) (hH : Holds (Value.int .i64) w blk off zs.toArray) (hblk : blk < w.heap.size) (hsz : zs.length < 4611686018427387904) :
    Calls Tryd.prog 38 #[.slice (some ⟨blk, off, none⟩) zs.length cap] w fun e w' =>
      e = .returned (.tuple #[]) ∧ ∃ n os, w' = grow (putRow (Value.int .i64) (Sort.ahead w n) blk off (zs.mergeSort fun x y => decide (x ≤ y)).toArray) os := Any.slices_Sort_int Tryd.lays189 blk off cap zs w hH hblk hsz
open Go.RowKit Go.Sort in
/-- .. and plain. (LAID: no walk: one application.) -/
theorem Tryd.slices_Sort_int_none (p : Option Addr) (cap : Nat) (w : World) :
    Calls Tryd.prog 38 #[.slice p 0 cap] w fun e w' => e = .returned (.tuple #[]) ∧ w' = w := Any.slices_Sort_int_none Tryd.lays189 p cap w
end Go.Proofs
