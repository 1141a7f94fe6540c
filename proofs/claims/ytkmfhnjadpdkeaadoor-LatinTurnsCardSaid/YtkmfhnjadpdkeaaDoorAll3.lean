/-
  The reference's UnitOf, Closed, PartsOf of a Latin square. No condition.
-/
import Derived.Test.YtkmfhnjadpdkeaaDoorAll
import Derived.Test.YtkmfhnjadpdkeaaDoorBits
import Derived.Test.YtkmfhnjadpdkeaaDoorTrans
namespace Go.Proofs.YtkmfhnjadpdkeaaDoor
open Go.RowKit
theorem shr_and_one (c j : Nat) (hc : c < 9223372036854775808) : (bits .and .i64 ((c : Int) / 2 ^ j) 1 == 1) = tb c j := by
  rw [shr_and c j hc]; cases tb c j <;> rfl
/-- Is it a way out of a set? -/
def outP (n : Nat) (xs : List Int) (c x y : Nat) : Bool := !(tb c x && tb c y && !tb c (qn n xs x y))
def clY (n : Nat) (xs : List Int) (c x : Nat) : Bool := allTo (outP n xs c x) n
def closedB (n : Nat) (xs : List Int) (c : Nat) : Bool := allTo (clY n xs c) n

/-- How many sets below c are closed. -/
def partsC (n : Nat) (xs : List Int) : Nat → Nat
  | 0 => 0
  | c + 1 => partsC n xs c + if closedB n xs (c + 1) then 1 else 0
theorem partsC_le (n : Nat) (xs : List Int) : ∀ c, partsC n xs c ≤ c
  | 0 => Nat.le_refl _
  | c + 1 => by have := partsC_le n xs c; rw [partsC]; split <;> omega
theorem pow_le {n : Nat} (h : n ≤ 8) : 2 ^ n ≤ 256 ∧ 1 ≤ 2 ^ n := ⟨pow256 h, Nat.one_le_two_pow⟩

end Go.Proofs.YtkmfhnjadpdkeaaDoor
