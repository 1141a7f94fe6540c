/-
  Contract: the reference's PermFault: what it passes is a permutation. No condition.
-/
import Derived.Test.YtkmfhnjadpdkeaaDoorSlice
import Derived.Deep.QuietTactic
namespace Go.Proofs.YtkmfhnjadpdkeaaDoor
open Go.RowKit

structure PermQ (xs : List Int) : Prop where
  few : xs.length ≤ 12
  rng : ∀ k, k < xs.length → 0 ≤ ix xs k ∧ ix xs k < xs.length
  inj : ∀ i j, i < xs.length → j < xs.length → ix xs i = ix xs j → i = j
theorem permQ_fine {xs : List Int} (hl : ¬ 12 < xs.length) (hr : ∀ k, k < xs.length → 0 ≤ ix xs k ∧ ix xs k < xs.length) (h : ∀ i j, i < xs.length → j < i → ix xs i ≠ ix xs j) : PermQ xs := by
  refine ⟨by omega, hr, fun i j hi hj e => ?_⟩
  rcases Nat.lt_trichotomy i j with h1 | h1 | h1
  · exact absurd e.symm (h j i hj h1)
  · exact h1
  · exact absurd e (h i j hi h1)
/-- What PermFault hands back. -/
def PFPost (xs : List Int) (w : World) : Ending → World → Prop := fun e w' => ∃ z : Int, e = .returned (.int .i64 z) ∧ (z = 0 → PermQ xs) ∧ ∃ nd, w' = w.drewN nd

end Go.Proofs.YtkmfhnjadpdkeaaDoor
