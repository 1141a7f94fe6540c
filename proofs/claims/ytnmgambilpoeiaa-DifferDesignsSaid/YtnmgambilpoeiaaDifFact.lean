/-
  Contract: the closed fact on sets of differences. No condition.
-/
import Derived.Test.YtnmgambilpoeiaaDLevel
namespace Go.Proofs.Ytnmgambilpoeiaa
open Go.RowKit

theorem dfact_level : difE 7 [1, 2, 4] = 0 ∧ difL 7 [1, 2, 4] = 1 := by decide +kernel
theorem ints_three (w : World) (a b c : Int) : IntsAt (w.alloc (.cells #[.int .i64 a, .int .i64 b, .int .i64 c] 3)) (.slice (some ⟨w.heap.size, 0, none⟩) 3 3) [a, b, c] := by
  refine ⟨some ⟨w.heap.size, 0, none⟩, 3, rfl, Nat.le_refl _, by omega, (fun h => by cases h), fun i hi => ⟨w.heap.size, 0, rfl, by simp, fun j hj => ?_⟩⟩
  rw [World.cell?_alloc_new, Nat.zero_add]
  simp only [List.length_cons, List.length_nil] at hj
  rcases j with _ | _ | _ | j
  · rfl
  · rfl
  · rfl
  · omega
set_option maxRecDepth 100000 in
theorem differFact_any (w : World) : Calls Try.prog 9 #[] w fun e w' => e = .returned (.bool true) ∧ Below w.heap.size w w' := by
  have H := Lib.hid (dlevel_any 7 _ _ _ (ints_three w 1 2 4))
  rw [dfact_level.1, dfact_level.2] at H
  go_enter Try.func9, Try.ntmps9
  go_wp2_with fail
  refine (H.out).mono ?_
  rintro e w1 ⟨rfl, hb⟩
  have HB := Lib.hid (belowTrans (below_box w _) hb)
  clear hb H
  go_wp2_with fail
  go_ret
  exact ⟨rfl, HB.out⟩
end Go.Proofs.Ytnmgambilpoeiaa
