/-
  Plain words: the numbers that are picked, in order; sums over them. No program in sight. No condition.
-/
import Derived.Test.YtnmgambilpoeiaaSumL
import Derived.Test.YtnmgambilpoeiaaRise
namespace Go.Proofs.Ytnmgambilpoeiaa
open Go.RowKit

theorem pickL_mem {p : Nat → Bool} {n x : Nat} (hx : x < n) : mem (pickL p n) (x : Int) = p x := by
  rw [Bool.eq_iff_iff, mem_iff, mem_pickL]
  constructor
  · rintro ⟨j, h1, h2, h3⟩; obtain rfl : x = j := by omega
    exact h2
  · intro h; exact ⟨x, hx, h, rfl⟩
/-- The sum over the numbers that are picked. -/
theorem sum_pick (p : Nat → Bool) (g : Int → Int) : ∀ n, sumL (pickL p n) g = sumL (List.range n) (fun y => ind (p y) * g (y : Int))
  | 0 => rfl
  | n + 1 => by
    rw [range_succ_sum]
    cases e : p n
    · rw [pickL_no e, sum_pick p g n, ind_false]; omega
    · rw [pickL_yes e, sumL_append, sum_pick p g n, ind_true]; simp [sumL]
theorem sum_ix (g : Int → Int) : ∀ l : List Int, sumL (List.range l.length) (fun x => g (ix l x)) = sumL l g
  | [] => rfl
  | a :: l => by
    rw [List.length_cons, List.range_succ_eq_map]
    show g (ix (a :: l) 0) + sumL ((List.range l.length).map Nat.succ) _ = g a + sumL l g
    rw [sumL_map, ← sum_ix g l]
    rfl
end Go.Proofs.Ytnmgambilpoeiaa
