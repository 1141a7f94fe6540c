/-
  Plain law: what is undone is a permutation, and Costas with it. No program in sight. No condition.
-/
import Derived.Test.YtnmgambilpoeiaaInvLaw
import Derived.Test.YtnmgambilpoeiaaCosLaw
import Derived.Test.YtnmgambilpoeiaaInts
namespace Go.Proofs.Ytnmgambilpoeiaa
open Go.RowKit

theorem inv_spec {xs : List Int} (h : PermP xs) {q : Nat} (hq : q < xs.length) : ∃ i : Nat, i < xs.length ∧ ix (invL xs) q = (i : Int) ∧ ix xs i = (q : Int) := by
  obtain ⟨i, hi, e⟩ := h.onto hq
  exact ⟨i, hi, by rw [invL_ix hq]; exact icell_at h hi e hi (Nat.le_refl _), e⟩
theorem PermP.inv {xs : List Int} (h : PermP xs) : PermP (invL xs) := by
  refine ⟨by rw [invL_len]; exact h.few, fun k hk => ?_, fun i j hi hj e => ?_⟩
  · rw [invL_len] at hk ⊢
    obtain ⟨i, h1, h2, h3⟩ := inv_spec h hk; omega
  · rw [invL_len] at hi hj
    obtain ⟨a, h1, h2, h3⟩ := inv_spec h hi
    obtain ⟨b, g1, g2, g3⟩ := inv_spec h hj
    obtain rfl : a = b := by omega
    omega
theorem CosP.inv {xs : List Int} (h : PermP xs) (hc : CosP xs) : CosP (invL xs) := by
  intro j m k q h1 h2 h3 h4 h5 h6
  rw [invL_len] at h4
  obtain ⟨a, a1, a2, a3⟩ := inv_spec h (show j < xs.length by omega)
  obtain ⟨b, b1, b2, b3⟩ := inv_spec h (show m < xs.length by omega)
  obtain ⟨c, c1, c2, c3⟩ := inv_spec h (show k < xs.length by omega)
  obtain ⟨d, d1, d2, d3⟩ := inv_spec h (show q < xs.length by omega)
  rw [a2, b2, c2, d2] at h6
  have hab : a ≠ b := fun e => by subst e; omega
  have hac : a ≠ c := fun e => by subst e; omega
  have hbd : b ≠ d := fun e => by subst e; omega
  rcases Nat.lt_or_ge b a with hl | hl
  · rcases Nat.lt_or_ge a c with g | g
    · exact hc a b c d hl g (by omega) c1 (by omega) (by omega)
    · exact hc c d a b (by omega) (by omega) hl a1 (by omega) (by omega)
  · rcases Nat.lt_or_ge b d with g | g
    · exact hc b a d c (by omega) g (by omega) d1 (by omega) (by omega)
    · exact hc d c b a (by omega) (by omega) (by omega) b1 (by omega) (by omega)
theorem inv_inv {xs : List Int} (h : PermP xs) : invL (invL xs) = xs := by
  refine ext_ix (by rw [invL_len, invL_len]) fun k hk => ?_
  rw [invL_len, invL_len] at hk
  obtain ⟨i, h1, h2, h3⟩ := inv_spec h.inv (q := k) (by rw [invL_len]; exact hk)
  rw [invL_len] at h1
  obtain ⟨a, g1, g2, g3⟩ := inv_spec h h1
  rw [h2, show k = a by omega, g3]
theorem cosB_inv {xs : List Int} (h : PermP xs) : cosB (invL xs) = cosB xs := by
  rw [Bool.eq_iff_iff, cosB_iff, cosB_iff]
  exact ⟨fun hc => by have := CosP.inv h.inv hc; rwa [inv_inv h] at this, CosP.inv h⟩
end Go.Proofs.Ytnmgambilpoeiaa
