/-
  Plain law: Welch's lists are Costas. No program in sight. No condition.
-/
import Derived.Test.YtnmgambilpoeiaaCostasC
import Derived.Test.YtnmgambilpoeiaaWelch
namespace Go.Proofs.Ytnmgambilpoeiaa
open Go.RowKit

def wAll (p : Int) : Bool := (List.range 13).all fun r => decide (¬ (1 ≤ (r : Int) ∧ (r : Int) < p)) || !nodB (wl p (r : Int) (p - 1).toNat) || (decide (permF (wl p (r : Int) (p - 1).toNat) = 0) && cosB (wl p (r : Int) (p - 1).toNat))
theorem wAll_ok : wAll 3 = true ∧ wAll 5 = true ∧ wAll 7 = true ∧ wAll 11 = true ∧ wAll 13 = true := by decide +kernel
theorem welch_costas {p r : Int} (h : wOk p r) (hn : nodB (wl p r (p - 1).toNat) = true) : permF (wl p r (p - 1).toNat) = 0 ∧ cosB (wl p r (p - 1).toNat) = true := by
  obtain ⟨hp, h1, h2⟩ := h
  have hw : wAll p = true := by
    rcases hp with rfl | rfl | rfl | rfl | rfl
    · exact wAll_ok.1
    · exact wAll_ok.2.1
    · exact wAll_ok.2.2.1
    · exact wAll_ok.2.2.2.1
    · exact wAll_ok.2.2.2.2
  obtain ⟨R, rfl⟩ := Int.eq_ofNat_of_zero_le (show 0 ≤ r by omega)
  have := List.all_eq_true.1 hw R (List.mem_range.2 (by omega))
  rw [hn, decide_eq_false (fun hc => hc ⟨h1, h2⟩)] at this
  simpa using this
end Go.Proofs.Ytnmgambilpoeiaa
