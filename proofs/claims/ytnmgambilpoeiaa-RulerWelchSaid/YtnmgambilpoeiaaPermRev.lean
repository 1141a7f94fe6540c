/-
  Plain law: a permutation read from behind is one. No program in sight. No condition.
-/
import Derived.Test.YtnmgambilpoeiaaCosRev
import Derived.Test.YtnmgambilpoeiaaPermLaw
namespace Go.Proofs.Ytnmgambilpoeiaa
open Go.RowKit

theorem PermP.rev {xs : List Int} (h : PermP xs) : PermP xs.reverse := by
  refine ⟨by rw [List.length_reverse]; exact h.few, fun k hk => ?_, fun i j hi hj e => ?_⟩
  · rw [List.length_reverse] at hk ⊢
    rw [ix_rev hk]; exact h.rng _ (by omega)
  · rw [List.length_reverse] at hi hj
    rw [ix_rev hi, ix_rev hj] at e
    have := h.inj _ _ (by omega) (by omega) e
    omega
end Go.Proofs.Ytnmgambilpoeiaa
