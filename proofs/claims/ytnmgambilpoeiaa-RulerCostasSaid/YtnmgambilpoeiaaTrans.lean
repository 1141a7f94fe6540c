/-
  Contract: the count of transversals, row by row. No condition.
-/
import Derived.Test.YtnmgambilpoeiaaRows
import Derived.Test.YtnmgambilpoeiaaLaw1
import Derived.Test.YtnmgambilpoeiaaBits
namespace Go.Proofs.Ytnmgambilpoeiaa
open Go.RowKit

def sumTo (f : Nat → Nat) : Nat → Nat
  | 0 => 0
  | k + 1 => sumTo f k + f k
theorem sumTo_le {f : Nat → Nat} {M : Nat} : ∀ k, (∀ i, i < k → f i ≤ M) → sumTo f k ≤ k * M
  | 0, _ => by simp [sumTo]
  | k + 1, h => by
    have h1 := sumTo_le k (fun i hi => h i (by omega))
    have h2 := h k (by omega)
    rw [sumTo, Nat.succ_mul]; omega

/-- How many ways there are to choose l rows more, from a row on, columns and numbers being taken. -/
def transM (n : Nat) (xs : List Int) : Nat → Nat → Nat → Nat → Nat
  | 0, _, _, _ => 1
  | l + 1, r, C, D => sumTo (fun k => if tb C k || tb D (qat n xs r k).toNat then 0 else transM n xs l (r + 1) (sb C k) (sb D (qat n xs r k).toNat)) n
def transF (n : Nat) (xs : List Int) (l r C D k : Nat) : Nat := if tb C k || tb D (qat n xs r k).toNat then 0 else transM n xs l (r + 1) (sb C k) (sb D (qat n xs r k).toNat)
def transTo (n : Nat) (xs : List Int) (l r C D k : Nat) : Nat := sumTo (transF n xs l r C D) k
theorem transM_succ (n : Nat) (xs : List Int) (l r C D : Nat) : transM n xs (l + 1) r C D = transTo n xs l r C D n := rfl
theorem transTo_succ (n : Nat) (xs : List Int) (l r C D k : Nat) : transTo n xs l r C D (k + 1) = transTo n xs l r C D k + transF n xs l r C D k := rfl
theorem transM_le (n : Nat) (xs : List Int) (hn : n ≤ 8) : ∀ l r C D, transM n xs l r C D ≤ 8 ^ l
  | 0, _, _, _ => Nat.le_refl _
  | l + 1, r, C, D => by
    rw [transM_succ]
    have := sumTo_le (f := transF n xs l r C D) (M := 8 ^ l) n (fun i _ => by
      unfold transF; split
      · exact Nat.zero_le _
      · exact transM_le n xs hn _ _ _ _)
    have h2 : n * 8 ^ l ≤ 8 * 8 ^ l := Nat.mul_le_mul hn (Nat.le_refl _)
    have h3 : 8 * 8 ^ l = 8 ^ (l + 1) := by rw [Nat.pow_succ, Nat.mul_comm]
    unfold transTo; omega
theorem transTo_le (n : Nat) (xs : List Int) (hn : n ≤ 8) (l r C D k : Nat) (hl : l ≤ 7) (hk : k ≤ 8) : transTo n xs l r C D k ≤ 16777216 := by
  have h1 := sumTo_le (f := transF n xs l r C D) (M := 8 ^ l) k (fun i _ => by
    unfold transF; split
    · exact Nat.zero_le _
    · exact transM_le n xs hn _ _ _ _)
  have h2 : 8 ^ l ≤ 8 ^ 7 := Nat.pow_le_pow_right (by omega) hl
  have h3 : k * 8 ^ l ≤ 8 * 8 ^ 7 := Nat.mul_le_mul hk h2
  unfold transTo; omega
theorem pow256 {n : Nat} (h : n ≤ 8) : 2 ^ n ≤ 256 := Nat.pow_le_pow_right (show 0 < 2 by omega) h
theorem int_val {a b : Int} (h : a = b) : Value.int .i64 a = Value.int .i64 b := by rw [h]
theorem wrap_mul8 {i n : Nat} (hi : i ≤ 64) (hn : n ≤ 64) : wrap64 ((i : Int) * (n : Int)) = ((i * n : Nat) : Int) := by
  have : i * n ≤ 64 * 64 := Nat.mul_le_mul hi hn
  rw [← Int.natCast_mul]
  generalize i * n = q at *
  exact IntWalk.wrap64_in _ ⟨by omega, by omega⟩

end Go.Proofs.Ytnmgambilpoeiaa
