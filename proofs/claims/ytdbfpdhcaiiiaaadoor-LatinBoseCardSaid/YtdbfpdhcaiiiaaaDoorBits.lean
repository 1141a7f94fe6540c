/-
  Bits of small ints: the walk's and, or, shifts in Lean's own words. No condition.
-/
import Derived.Test.YtdbfpdhcaiiiaaaDoorLib
import Derived.Laws.BitsAllLaws
namespace Go.Proofs.YtdbfpdhcaiiiaaaDoor
open Go.RowKit

theorem ofInt_i64 (a : Nat) (ha : a < 9223372036854775808) : (BitVec.ofInt 64 (a : Int)).toNat = a := by
  rw [BitVec.ofInt_natCast, BitVec.toNat_ofNat]; exact Nat.mod_eq_of_lt (by omega)
theorem i64_and_nat (a b : Nat) (ha : a < 9223372036854775808) (hb : b < 9223372036854775808) : bits .and .i64 (a : Int) (b : Int) = ((a &&& b : Nat) : Int) := by
  have hx : a &&& b < 2 ^ 63 := Nat.and_lt_two_pow _ (by omega)
  show IntKind.i64.wrap ((BitVec.ofInt 64 (a : Int) &&& BitVec.ofInt 64 (b : Int)).toNat : Int) = _
  rw [BitVec.toNat_and, ofInt_i64 a ha, ofInt_i64 b hb]
  generalize a &&& b = q at *

  exact IntWalk.i64_in _ (by omega)
theorem i64_or_nat (a b : Nat) (ha : a < 9223372036854775808) (hb : b < 9223372036854775808) : bits .or .i64 (a : Int) (b : Int) = ((a ||| b : Nat) : Int) := by
  have hx : a ||| b < 2 ^ 63 := Nat.or_lt_two_pow (by omega) (by omega)
  show IntKind.i64.wrap ((BitVec.ofInt 64 (a : Int) ||| BitVec.ofInt 64 (b : Int)).toNat : Int) = _
  rw [BitVec.toNat_or, ofInt_i64 a ha, ofInt_i64 b hb]
  generalize a ||| b = q at *

  exact IntWalk.i64_in _ (by omega)

/-- Is bit j set? -/
def tb (c j : Nat) : Bool := c.testBit j
/-- Set bit j. -/
def sb (c j : Nat) : Nat := c ||| 2 ^ j
theorem shr_and (c j : Nat) (hc : c < 9223372036854775808) : bits .and .i64 ((c : Int) / 2 ^ j) 1 = if tb c j then 1 else 0 := by
  have h1 : ((c : Int) / 2 ^ j) = ((c / 2 ^ j : Nat) : Int) := by rw [Int.natCast_ediv, Int.natCast_pow]; rfl
  have h2 : c / 2 ^ j ≤ c := Nat.div_le_self _ _
  rw [h1, show (1 : Int) = ((1 : Nat) : Int) from rfl, i64_and_nat _ _ (by omega) (by omega), Nat.and_one_is_mod]
  unfold tb
  rw [Nat.testBit_eq_decide_div_mod_eq]
  have := Nat.mod_two_eq_zero_or_one (c / 2 ^ j)
  rcases this with e | e <;> simp [e]
theorem shr_and_zero (c j : Nat) (hc : c < 9223372036854775808) : (bits .and .i64 ((c : Int) / 2 ^ j) 1 == 0) = !tb c j := by
  rw [shr_and c j hc]; cases tb c j <;> rfl
theorem tb_sb (c j k : Nat) : tb (sb c j) k = (tb c k || j == k) := by
  unfold tb sb
  rw [Nat.testBit_or, Nat.testBit_two_pow]
  congr 1
theorem sb_lt {c j m : Nat} (hc : c < 2 ^ m) (hj : j < m) : sb c j < 2 ^ m := Nat.or_lt_two_pow hc (Nat.pow_lt_pow_right (by omega) hj)
theorem or_shl (c j : Nat) (hc : c < 9223372036854775808) (hj : j < 63) : bits .or .i64 (c : Int) ((2 : Int) ^ j) = ((sb c j : Nat) : Int) := by
  have h1 : ((2 : Int) ^ j) = ((2 ^ j : Nat) : Int) := by rw [Int.natCast_pow]; rfl
  have h2 : 2 ^ j < 2 ^ 63 := Nat.pow_lt_pow_right (by omega) hj
  rw [h1, i64_or_nat _ _ hc (by omega)]; rfl

/-- One, shifted. -/
def sh1 (j : Nat) : Nat := 2 ^ j
theorem shl_val {j : Nat} (hj : j < 60) : Value.int .i64 (wrap64 ((2 : Int) ^ j)) = Value.int .i64 ((sh1 j : Nat) : Int) := by
  have h2 : 2 ^ j < 2 ^ 60 := Nat.pow_lt_pow_right (by omega) hj
  have h1 : ((2 : Int) ^ j) = ((2 ^ j : Nat) : Int) := by rw [Int.natCast_pow]; rfl
  rw [h1]; unfold sh1
  generalize 2 ^ j = q at *
  rw [IntWalk.wrap64_in _ ⟨by omega, by omega⟩]
theorem or_val {c j : Nat} (hc : c < 9223372036854775808) (hj : j < 60) : Value.int .i64 (bits .or .i64 (c : Int) ((sh1 j : Nat) : Int)) = Value.int .i64 ((sb c j : Nat) : Int) := by
  have h2 : 2 ^ j < 2 ^ 60 := Nat.pow_lt_pow_right (by omega) hj
  unfold sh1
  rw [i64_or_nat _ _ hc (by omega)]; rfl

theorem or_raw {c j : Nat} (hc : c < 9223372036854775808) (hj : j < 60) : Value.int .i64 (bits .or .i64 (c : Int) (wrap64 ((2 : Int) ^ j))) = Value.int .i64 ((sb c j : Nat) : Int) := by
  have h := shl_val hj
  injection h with _ h
  rw [h]; exact or_val hc hj

end Go.Proofs.YtdbfpdhcaiiiaaaDoor
