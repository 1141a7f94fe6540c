/-
  Contracts: the reference's Lists, Designs (are two designs the same?). No condition.
-/
import Derived.Test.YtnmgambilpoeiaaInts
namespace Go.Proofs.Ytnmgambilpoeiaa
open Go.RowKit

def eqL (xss yss : List (List Int)) : Bool := decide (xss = yss)
theorem eqL_refl (xss : List (List Int)) : eqL xss xss = true := by simp [eqL]
theorem eqL_len {xss yss : List (List Int)} (h : xss.length ≠ yss.length) : eqL xss yss = false := by
  simp only [eqL, decide_eq_false_iff_not]
  intro e; subst e; exact h rfl
theorem eqL_at {xss yss : List (List Int)} {k : Nat} (h : eqI (rx xss k) (rx yss k) = false) : eqL xss yss = false := by
  simp only [eqL, decide_eq_false_iff_not]
  intro e; subst e; rw [eqI_refl] at h; cases h
theorem ext_rx {xss yss : List (List Int)} (h : xss.length = yss.length) (ha : ∀ k, k < xss.length → rx xss k = rx yss k) : xss = yss := by
  apply List.ext_getElem h
  intro i h1 h2
  have := ha i h1
  rw [rx_lt h1, rx_lt h2] at this; exact this
theorem eqL_all {xss yss : List (List Int)} (h : xss.length = yss.length) (ha : ∀ k, k < xss.length → eqI (rx xss k) (rx yss k) = true) : eqL xss yss = true := by
  rw [ext_rx h fun k hk => eqI_iff.1 (ha k hk)]; exact eqL_refl _

end Go.Proofs.Ytnmgambilpoeiaa
