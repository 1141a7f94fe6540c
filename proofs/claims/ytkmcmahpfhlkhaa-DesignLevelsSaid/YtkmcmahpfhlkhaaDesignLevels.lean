/-
  The law DesignLevels, walked: it returns true whatever the design. No condition.
-/
import Derived.Test.YtkmcmahpfhlkhaaDesF
import Derived.Test.YtkmcmahpfhlkhaaLevel2
import Derived.Test.YtkmcmahpfhlkhaaLevelOf
namespace Go.Proofs.Ytkmcmahpfhlkhaa
open Go.RowKit

set_option maxRecDepth 100000 in
set_option maxHeartbeats 1000000 in
theorem designLevels_walk (n : Int) (v : Value) (xss : List (List Int)) (t : Int) (w : World) (_hn : -9223372036854775808 ≤ n ∧ n ≤ 9223372036854775807) (h : RowsAt w v xss) (_hx : ∀ xs ∈ xss, Fits xs) (_ht : -9223372036854775808 ≤ t ∧ t ≤ 9223372036854775807) :
    Calls Try.prog 4 #[.agg #[.int .i64 n, v], .int .i64 t] w fun e w' => e = .returned (.bool true) ∧ Below w.heap.size w w' := by
  have HV := Lib.hid h
  have HA0 := Lib.hid (pair_new w (.int .i64 n) v 24 _ rfl)
  have HB0 := Lib.hid (below_box w (.cells #[.int .i64 n, v] 24))
  obtain ⟨a, c, V, rfl, h1, h2, _, h3⟩ := h
  clear h3
  have HD : Hid (∀ w1, RowsAt w1 (.slice a xss.length c) xss → Calls Try.prog 12 #[.agg #[.int .i64 n, .slice a xss.length c]] w1 fun e w' => e = .returned (.int .i64 (desFault n xss)) ∧ Below w1.heap.size w1 w') := fun w1 hw => desFault_any n _ xss w1 hw
  have HC : Hid (∀ w1, RowsAt w1 (.slice a xss.length c) xss → Calls Try.prog 16 #[.agg #[.int .i64 n, .slice a xss.length c]] w1 fun e w' => e = .returned (.int .i64 (desFault n xss)) ∧ Below w1.heap.size w1 w') := fun w1 hw => check_any n _ xss w1 hw
  have HL : Hid (∀ w1, RowsAt w1 (.slice a xss.length c) xss → Calls Try.prog 17 #[.agg #[.int .i64 n, .slice a xss.length c], .int .i64 t] w1 (LevPost (levK n xss t) (levL n xss t) (levE n xss t) w1)) := fun w1 hw => level_any n t _ xss w1 hw
  have HLO : Hid (desFault n xss = 0 → ∀ w1, RowsAt w1 (.slice a xss.length c) xss → Calls Try.prog 18 #[.agg #[.int .i64 n, .slice a xss.length c], .int .i64 t] w1 (LevPost (levK n xss t) (levL n xss t) (levE n xss t) w1)) := fun hf w1 hw => levelOf_any n t _ xss w1 hw hf
  by_cases hf : desFault n xss = 0
  · have HLO2 := Lib.hid (HLO.out hf)
    rw [hf] at HD HC
    clear hf HLO
    generalize levE n xss t = e0 at *
    generalize levK n xss t = k0 at *
    generalize levL n xss t = l0 at *
    go_enter Try.func4, Try.ntmps4
    go_wp2_with fail
    refine (HD.out _ (HV.out.below HB0.out)).mono ?_
    rintro e w1 ⟨rfl, hb⟩
    have HB1 := Lib.hid (belowTrans HB0.out hb); have HA1 := Lib.hid (HA0.out.below hb); clear hb
    have b0 := HA1.out.cell (show 0 < 2 by omega); have b1 := HA1.out.cell (show 1 < 2 by omega)
    go_wp2_with fail
    refine (HC.out _ (HV.out.below HB1.out)).mono ?_
    rintro e w2 ⟨rfl, hb⟩
    have HB2 := Lib.hid (belowTrans HB1.out hb); have HA2 := Lib.hid (HA1.out.below hb); clear hb b0 b1
    have b0 := HA2.out.cell (show 0 < 2 by omega); have b1 := HA2.out.cell (show 1 < 2 by omega)
    go_wp2_with fail
    refine (HL.out _ (HV.out.below HB2.out)).mono ?_
    rintro e w3 ⟨rfl, hb⟩
    have HB3 := Lib.hid (belowTrans HB2.out hb); have HA3 := Lib.hid (HA2.out.below hb); clear hb b0 b1
    have b0 := HA3.out.cell (show 0 < 2 by omega); have b1 := HA3.out.cell (show 1 < 2 by omega)
    go_wp2_with fail
    refine (HLO2.out _ (HV.out.below HB3.out)).mono ?_
    rintro e w4 ⟨rfl, hb⟩
    have HB4 := Lib.hid (belowTrans HB3.out hb); clear hb
    go_wp2_with fail
    go_ret
    exact ⟨rfl, HB4.out⟩
  · have hE := levE_fault (t := t) hf
    obtain ⟨z1, z2⟩ := lev_zero (n := n) (t := t) (xss := xss) (by rw [hE]; exact hf)
    rw [z1, z2, hE] at HL
    have hne : (desFault n xss != 0) = true := by simpa using hf
    clear HLO hE z1 z2 hf
    generalize desFault n xss = e0 at *
    go_enter Try.func4, Try.ntmps4
    go_wp2_with fail
    refine (HD.out _ (HV.out.below HB0.out)).mono ?_
    rintro e w1 ⟨rfl, hb⟩
    have HB1 := Lib.hid (belowTrans HB0.out hb); have HA1 := Lib.hid (HA0.out.below hb); clear hb
    have b0 := HA1.out.cell (show 0 < 2 by omega); have b1 := HA1.out.cell (show 1 < 2 by omega)
    go_wp2_with fail
    refine (HC.out _ (HV.out.below HB1.out)).mono ?_
    rintro e w2 ⟨rfl, hb⟩
    have HB2 := Lib.hid (belowTrans HB1.out hb); have HA2 := Lib.hid (HA1.out.below hb); clear hb b0 b1
    have b0 := HA2.out.cell (show 0 < 2 by omega); have b1 := HA2.out.cell (show 1 < 2 by omega)
    go_wp2_with fail
    refine (HL.out _ (HV.out.below HB2.out)).mono ?_
    rintro e w3 ⟨rfl, hb⟩
    have HB3 := Lib.hid (belowTrans HB2.out hb); have HA3 := Lib.hid (HA2.out.below hb); clear hb b0 b1
    have b0 := HA3.out.cell (show 0 < 2 by omega); have b1 := HA3.out.cell (show 1 < 2 by omega)
    go_wp2_with fail
    go_ret
    exact ⟨rfl, HB3.out⟩
end Go.Proofs.Ytkmcmahpfhlkhaa
