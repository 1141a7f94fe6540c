/-
  Contract: the closed fact on quasigroups. No condition.
-/
import Derived.Test.YtkmfhnjadpdkeaaLatinFact
import Derived.Test.YtkmfhnjadpdkeaaAsk4
namespace Go.Proofs.Ytkmfhnjadpdkeaa
open Go.RowKit

theorem cyc3_unit : first (unitU 3 (cycTo 3 (3 * 3))) 3 = 0 := by decide +kernel
theorem cyc3_assoc : allTo (assocY 3 (cycTo 3 (3 * 3))) 3 = true := by decide +kernel
theorem cyc3_left : qat 3 (cycTo 3 (3 * 3)) 1 2 = 0 := by decide +kernel

set_option maxHeartbeats 1000000 in
theorem quasiFact_any (w : World) : Calls Try.prog 42 #[] w fun e w' => e = .returned (.bool true) ∧ Below w.heap.size w w' := by
  have HL : Hid (IsLatin (3 : Nat) (cycTo 3 (3 * 3))) := latin_of (cyc_fault (n := 3) (by omega) (by omega))
  have HU := Lib.hid cyc3_unit; have HA := Lib.hid cyc3_assoc; have HE := Lib.hid cyc3_left
  go_enter Try.func42, Try.ntmps42
  go_wp2_with fail
  refine (cyclic_yes 3 _ (by omega) (by omega)).mono ?_
  rintro e w1 ⟨v, rfl, ho, hb1⟩
  obtain ⟨va, vl, vc, rfl⟩ := ho.shape
  have HI := Lib.hid ((ho.intsAt (cyc_fits (by omega))).below (below_box w1 (.cells #[.int .i64 3, .slice va vl vc] 24)))
  have HB := Lib.hid (belowTrans hb1 (below_box w1 (.cells #[.int .i64 3, .slice va vl vc] 24)))
  clear ho hb1
  go_wp2_with fail
  refine (unit_yes 3 _ _ _ HI.out HL.out).mono ?_
  rw [HU.out]
  rintro e w2 ⟨rfl, hb⟩
  have H2 := Lib.hid hb; clear hb
  obtain ⟨hz, k0, k1⟩ := box1 H2.out
  go_wp2_with fail
  refine (assoc_yes 3 _ _ _ (HI.out.below H2.out) HL.out).mono ?_
  rw [HA.out]
  rintro e w3 ⟨rfl, hb⟩
  have H3 := Lib.hid (belowTrans H2.out hb); clear hb hz k0 k1
  obtain ⟨hz, k0, k1⟩ := box1 H3.out
  go_wp2_with fail
  refine (left_yes 3 1 0 2 _ _ _ (HI.out.below H3.out) HL.out (by omega) (by omega) (by omega) HE.out).mono ?_
  rintro e w4 ⟨rfl, hb⟩
  have H4 := Lib.hid (belowTrans H3.out hb); clear hb
  go_wp2
  go_ret
  exact ⟨rfl, belowTrans HB.out H4.out⟩
end Go.Proofs.Ytkmfhnjadpdkeaa
