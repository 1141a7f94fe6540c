/-
  Contract: the closed fact on Latin squares. No condition.
-/
import Derived.Test.YtdbfpdhcaiiiaaaDoorCyclic2
namespace Go.Proofs.YtdbfpdhcaiiiaaaDoor
open Go.RowKit

theorem cyc_fault {n : Nat} (h1 : 1 ≤ n) (h8 : n ≤ 8) : latinFault n (cycTo n (n * n)) = 0 := by
  have : n = 1 ∨ n = 2 ∨ n = 3 ∨ n = 4 ∨ n = 5 ∨ n = 6 ∨ n = 7 ∨ n = 8 := by omega
  rcases this with rfl | rfl | rfl | rfl | rfl | rfl | rfl | rfl <;> decide +kernel
theorem cyc_count3 : transM 3 (cycTo 3 9) 3 0 0 0 = 3 := by decide +kernel
theorem cyc_fits {n : Nat} (h8 : n ≤ 8) : (cycTo n (n * n)).length ≤ 9223372036854775807 := by
  rw [cycTo_len]; have : n * n ≤ 8 * 8 := Nat.mul_le_mul h8 h8; omega

set_option maxHeartbeats 1000000 in
theorem latinFact_any (w : World) : Calls Tryd.prog 12 #[] w fun e w' => e = .returned (.bool true) ∧ Below w.heap.size w w' := by
  have hf := cyc_fault (n := 3) (by omega) (by omega)
  have ht : transFault 3 (cycTo 3 (3 * 3)) = 0 := by unfold transFault; rw [if_neg (by simpa using hf)]; rfl
  have hc : transCount 3 (cycTo 3 (3 * 3)) = 3 := by unfold transCount; rw [if_pos ht]; exact cyc_count3
  have HT := Lib.hid ht; have HC := Lib.hid hc
  clear hf ht hc
  go_enter Tryd.func12, Tryd.ntmps12
  go_wp2_with fail
  refine (cyclic_yes 3 _ (by omega) (by omega)).mono ?_
  rintro e w1 ⟨v, rfl, ho, hb1⟩
  obtain ⟨va, vl, vc, rfl⟩ := ho.shape
  have HI := Lib.hid (ho.intsAt (cyc_fits (by omega)))
  clear ho
  go_wp2_with fail
  refine (trans_any 3 _ _ _ (HI.out.below (below_box _ _))).mono ?_
  rw [HT.out, HC.out]
  rintro e w2 ⟨rfl, hb2⟩
  go_wp2
  go_ret
  exact ⟨rfl, belowTrans hb1 (belowTrans (below_box _ _) hb2)⟩
end Go.Proofs.YtdbfpdhcaiiiaaaDoor
