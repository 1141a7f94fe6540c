/-
  Plain law: a Costas list read from behind is one. No program in sight. No condition.
-/
import Derived.Test.YtnmgambilpoeiaaCosLaw
namespace Go.Proofs.Ytnmgambilpoeiaa
open Go.RowKit

theorem ix_rev {xs : List Int} {j : Nat} (h : j < xs.length) : ix xs.reverse j = ix xs (xs.length - 1 - j) := by
  rw [ix_lt (by simpa using h), ix_lt (by omega), List.getElem_reverse]
theorem CosP.rev {xs : List Int} (h : CosP xs) : CosP xs.reverse := by
  intro j m k q h1 h2 h3 h4 h5 h6
  rw [List.length_reverse] at h4
  rw [ix_rev (by omega), ix_rev (by omega), ix_rev (by omega), ix_rev (by omega)] at h6
  exact h (xs.length - 1 - q) (xs.length - 1 - k) (xs.length - 1 - m) (xs.length - 1 - j) (by omega) (by omega) (by omega) (by omega) (by omega) (by omega)
theorem cosB_rev (xs : List Int) : cosB xs.reverse = cosB xs := by
  rw [Bool.eq_iff_iff, cosB_iff, cosB_iff]
  exact ⟨fun h => by have := h.rev; rwa [List.reverse_reverse] at this, CosP.rev⟩
end Go.Proofs.Ytnmgambilpoeiaa
