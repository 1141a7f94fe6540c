/-
  For DesignTurns: what the program and the reference answer alike. No condition.
-/
import Derived.Test.YtkmcmahpfhlkhaaDual2
import Derived.Test.YtkmcmahpfhlkhaaRes2
import Derived.Test.YtkmcmahpfhlkhaaDer2
import Derived.Test.YtkmcmahpfhlkhaaDesF
namespace Go.Proofs.Ytkmcmahpfhlkhaa
open Go.RowKit

/-- A function of a design and what else, at a design: it answers so, in whatever world. -/
def DesAns (f : FuncId) (n : Int) (more : Array Value) (xss : List (List Int)) (p : Int) (yss : List (List Int)) (e0 : Int) : Prop :=
  ∀ (v : Value) (w : World), RowsAt w v xss → Calls Try.prog f (#[.agg #[.int .i64 n, v]] ++ more) w (DesPostT p yss e0 w)
theorem dual_both {n : Nat} {xss : List (List Int)} (hD : IsDes n xss) : ∃ p yss e0, DesAns 22 n #[] xss p yss e0 ∧ DesAns 26 n #[] xss p yss e0 := by
  have hn := hD.hi
  by_cases h1 : 40 < xss.length
  · exact ⟨0, [], 3, fun v w h => dual_full n v xss w h hD h1, fun v w h => dualOf_full n v xss w h h1⟩
  · by_cases h2 : xss.length = 0
    · obtain rfl : xss = [] := List.eq_nil_of_length_eq_zero h2
      exact ⟨0, [], 4, fun v w h => dual_none n v w h hD, fun v w h => dualOf_none n v w h⟩
    · exact ⟨_, _, 0, fun v w h => dual_any n v xss w h hD (by omega) (by omega), fun v w h => dualOf_any n v xss w h (by omega) (by omega) (by omega)⟩
theorem der_both {n : Nat} {xss : List (List Int)} (hD : IsDes n xss) (q : Int) : ∃ p yss e0, DesAns 23 n #[.int .i64 q] xss p yss e0 ∧ DesAns 27 n #[.int .i64 q] xss p yss e0 := by
  have hn := hD.hi
  have hn1 := hD.lo
  have hl := hD.few
  by_cases h1 : q < 0 ∨ (n : Int) ≤ q
  · exact ⟨0, [], 1, fun v w h => der_range n q v xss w h hD h1, fun v w _ => derOf_range n q v w h1⟩
  · obtain ⟨k, rfl⟩ := Int.eq_ofNat_of_zero_le (show 0 ≤ q by omega)
    by_cases h2 : n = 1
    · subst h2
      obtain rfl : k = 0 := by omega
      exact ⟨0, [], 2, fun v w h => der_one v xss w h hD, fun v w _ => derOf_one v w⟩
    · obtain ⟨m, rfl⟩ : ∃ m, n = m + 1 := ⟨n - 1, by omega⟩
      exact ⟨_, _, 0, fun v w h => der_any m k v xss w h hD (by omega) (by omega), fun v w h => derOf_any m k v xss w h (by omega) (by omega) (by omega) hl⟩
theorem res_both {n : Nat} {xss : List (List Int)} (hD : IsDes n xss) (q : Int) : ∃ p yss e0, DesAns 24 n #[.int .i64 q] xss p yss e0 ∧ DesAns 28 n #[.int .i64 q] xss p yss e0 := by
  have hn := hD.hi
  have hl := hD.few
  by_cases h1 : q < 0 ∨ (xss.length : Int) ≤ q
  · exact ⟨0, [], 1, fun v w h => res_range n q v xss w h hD h1, fun v w h => resOf_range n q v xss w h h1⟩
  · obtain ⟨k, rfl⟩ := Int.eq_ofNat_of_zero_le (show 0 ≤ q by omega)
    have hr := fun v w h => res_any n k v xss w h hD (by omega)
    have hr2 := fun v w h => resOf_any n k v xss w h (by omega) (by omega) hl
    by_cases h2 : (leftOf n (rx xss k)).length = 0
    · refine ⟨0, [], 2, fun v w h => (hr v w h).mono fun e w' hp => ?_, fun v w h => (hr2 v w h).mono fun e w' hp => ?_⟩
      · unfold ResPost at hp; rw [if_pos h2] at hp; exact hp
      · unfold ResPost at hp; rw [if_pos h2] at hp; exact hp
    · refine ⟨((leftOf n (rx xss k)).length : Int), resL n k xss, 0, fun v w h => (hr v w h).mono fun e w' hp => ?_, fun v w h => (hr2 v w h).mono fun e w' hp => ?_⟩
      · unfold ResPost at hp; rw [if_neg h2] at hp; exact hp
      · unfold ResPost at hp; rw [if_neg h2] at hp; exact hp
/-- What is built of a design's answer: it is put into a box of its own. -/
theorem shape_rows {w : World} {v : Value} {xss : List (List Int)} (h : RowsAt w v xss) : ∃ a c, v = .slice a xss.length c := by
  obtain ⟨a, c, _, e, _⟩ := h; exact ⟨a, c, e⟩
end Go.Proofs.Ytkmcmahpfhlkhaa
