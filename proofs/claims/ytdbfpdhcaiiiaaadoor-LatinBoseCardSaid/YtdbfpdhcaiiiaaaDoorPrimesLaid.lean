/-
  What the condition on the table of primes gives: its cells. No condition but that.
-/
import Derived.Test.YtdbfpdhcaiiiaaaDoorFPrime
import Derived.Test.YtdbfpdhcaiiiaaaDoorRows
import Derived.ProofKit
import Derived.LaidMore
import Derived.OpenShut
import Derived.Lib.LaidTab
import Derived.Stop.Joined
namespace Go.Proofs.YtdbfpdhcaiiiaaaDoor
open Go.RowKit

def primesLaid : List (String × DataW Unit) := [("parterre/field.primes", Rows.laid_parterre_field_primes)]
theorem gPrimes : Tryd.prog.globalNamed "parterre/field.primes" = some 0 := by kernel_rfl
theorem tPrimes : (Tryd.prog.globals[0]?).map (·.type) = some 119 := by kernel_rfl
theorem c18 : Tryd.prog.cellsOf 119 = 18 := by kernel_rfl
theorem cIntP : Tryd.prog.cellsOf 3 = 1 := by kernel_rfl
theorem primes_met (os : Os) (args : Array Value) : laidMetH Tryd.prog primesLaid ((World.doorLaid Tryd.prog 400 os).forCall (fun _ _ => 0) ⟨#[], args, []⟩).memory :=
  laidMetH_of_parts3 (fuel := 8) (laidMet_of_run' 8 (by kernel_rfl) (by kernel_rfl)) (by kernel_rfl) (by kernel_rfl)
theorem primes_tab {H : Type} : (Rows.laid_parterre_field_primes : DataW H) = Lib.tabData .i64 primesL := rfl
theorem primes_of_laid {W : World} (h : laidMetH Tryd.prog primesLaid W) : PrimesAt W := by
  rw [MakeChecks.laidMetH_plain _ _ _ (by kernel_rfl)] at h
  obtain ⟨ps, ⟨g0, t0, cs0, f0, p0, q0, hg0, ht0, hv0, hd0, _, _⟩, _, _⟩ := h
  obtain rfl := Option.some.inj (gPrimes.symm.trans hg0)
  obtain rfl := Option.some.inj (tPrimes.symm.trans ht0)
  have hc := Lib.cells_of_tab (zs := primesL) Tryd.underlying119 Tryd.underlying3 cIntP c18 hd0
  have key : ∀ k, k < 18 → W.cell? ⟨0, k, none⟩ = some (.int .i64 (ix primesL k)) := by
    intro k hk
    rw [World.var?_cell hg0 hv0 k, ← Array.getElem?_toList, hc]
    rw [List.getElem?_map, List.getElem?_eq_getElem (show k < primesL.length from hk)]
    rw [ix_lt (show k < primesL.length from hk)]
    rfl
  exact ⟨World.block_lt_of_cell? W _ (key 0 (by omega)), key⟩
end Go.Proofs.YtdbfpdhcaiiiaaaDoor
