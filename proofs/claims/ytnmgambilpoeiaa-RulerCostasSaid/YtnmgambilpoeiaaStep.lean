/-
  Keys that are structs of two numbers: what they read as; the map of a block. No condition.
-/
import Derived.DeepKeys4
import Derived.Maps.Keyed
import Derived.Maps.Own
import Derived.Test.YtnmgambilpoeiaaSlice
namespace Go.Proofs.Ytnmgambilpoeiaa
open Go.RowKit Go.Maps

theorem key_step : Keyed Try.prog 70 := Keyed.of_law (deep_law_laid (m := 4) (by kernel_rfl) (by decide) (of_decide_eq_true (by kernel_rfl)) (by kernel_rfl) (by kernel_rfl))
theorem types_pos : ∃ m, Try.prog.types.size = m + 1 := Nat.exists_eq_succ_of_ne_zero (Nat.ne_of_gt (of_decide_eq_true (show decide (0 < Try.prog.types.size) = true by kernel_rfl)))
theorem keyOf_step {a b : Int} (wa : (Lit.int .i64 a).wf = true) (wb : (Lit.int .i64 b).wf = true) :
    keyOf Try.prog 70 (.agg #[.int .i64 a, .int .i64 b]) = some (.string (keyBytes [.int .i64 a, .int .i64 b])) := by
  have hkt : Try.prog.keyType 70 = true := by kernel_rfl
  have hc : Try.prog.cellsOf 70 = 2 := by kernel_rfl
  have hi : Try.prog.cellsOf 3 = 1 := by kernel_rfl
  obtain ⟨m, hm⟩ := types_pos
  unfold keyOf
  simp only [Try.underlying70]
  rw [if_pos (by simp [hkt, Value.formed, Try.underlying70, hc]), hm]
  unfold Program.keyLits
  simp only [Try.underlying70, Value.cells]
  rw [if_pos ⟨by rw [hc]; rfl, by kernel_rfl⟩]
  simp [Program.keyLits, Try.underlying3, hi, wa, wb]
end Go.Proofs.Ytnmgambilpoeiaa
