/-
  Plain words: a set's multipliers. No program in sight. No condition.
-/
import Derived.Test.YtnmgambilpoeiaaDiffMove
import Derived.Test.YtnmgambilpoeiaaInts
namespace Go.Proofs.Ytnmgambilpoeiaa
open Go.RowKit

/-- Is the set, times t, among the first s of those that are moved? -/
def anyS (v : Nat) (xs : List Int) (t : Nat) : Nat → Bool
  | 0 => false
  | s + 1 => anyS v xs t s || eqI (movL v 1 s xs) (movL v t 0 xs)
def mulT (v : Nat) (xs : List Int) (t : Nat) : Bool := decide (1 ≤ t ∧ Nat.gcd t v = 1) && anyS v xs t v
def multL (v : Nat) (xs : List Int) : List Int := pickL (mulT v xs) v
theorem eqI_comm (xs ys : List Int) : eqI xs ys = eqI ys xs := by unfold eqI; exact decide_eq_decide.2 ⟨Eq.symm, Eq.symm⟩
theorem anyS_next {v : Nat} {xs : List Int} {t s : Nat} (h : anyS v xs t s = false) : anyS v xs t (s + 1) = eqI (movL v 1 s xs) (movL v t 0 xs) := by rw [anyS, h]; rfl
theorem anyS_up {v : Nat} {xs : List Int} {t : Nat} : ∀ {m s : Nat}, anyS v xs t s = true → s ≤ m → anyS v xs t m = true
  | 0, s, h, hs => by obtain rfl : s = 0 := by omega
                      exact h
  | m + 1, s, h, hs => by
    by_cases e : s = m + 1
    · subst e; exact h
    · rw [anyS, anyS_up h (by omega)]; rfl
theorem mulT_hit {v : Nat} {xs : List Int} {t s : Nat} (h1 : 1 ≤ t) (hg : Nat.gcd t v = 1) (hs : s < v) (h : eqI (movL v 1 s xs) (movL v t 0 xs) = true) : mulT v xs t = true := by
  unfold mulT
  have : anyS v xs t (s + 1) = true := by rw [anyS, h]; simp
  rw [anyS_up this hs]; simp [h1, hg]
theorem mulT_all {v : Nat} {xs : List Int} {t : Nat} (h1 : 1 ≤ t) (hg : Nat.gcd t v = 1) : mulT v xs t = anyS v xs t v := by unfold mulT; simp [h1, hg]
theorem mulT_gcd {v : Nat} {xs : List Int} {t : Nat} (hg : Nat.gcd t v ≠ 1) : mulT v xs t = false := by unfold mulT; simp [hg]
theorem mulT_one (v : Nat) (xs : List Int) : pickL (mulT v xs) 1 = [] := by rw [pickL_no (by unfold mulT; simp)]; rfl
end Go.Proofs.Ytnmgambilpoeiaa
