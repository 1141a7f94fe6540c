/-
  Contracts: the reference's Golomb, the program's apart: are all differences unlike? No condition.
-/
import Derived.Test.YtnmgambilpoeiaaGolLaw
import Derived.Test.YtnmgambilpoeiaaLies
import Derived.Maps.OwnSet
namespace Go.Proofs.Ytnmgambilpoeiaa
open Go.RowKit Go.Maps

/-- All lie between 0 and a bound. -/
def Upto (B : Int) (xs : List Int) : Prop := ∀ k, k < xs.length → 0 ≤ ix xs k ∧ ix xs k ≤ B

/-- The map of a block holds these numbers as keys. -/
def SetIs (w : World) (b : Nat) (acc : List Int) : Prop := ∃ (n : Nat) (D : DataW Unit), n ≤ acc.length ∧ w.ownsMap Try.prog 3 (plainElem Try.prog 3) b n D ∧ IsMap D ∧ ∀ x, Maps.has D (.int .i64 x) = mem acc x
theorem key_int : Keyed Try.prog 3 := int_keyed Try.underlying3
theorem zero_int (w : World) : (zeroValue 3).run Try.prog w = .ok (.int .i64 0) w := by kernel_rfl
end Go.Proofs.Ytnmgambilpoeiaa
