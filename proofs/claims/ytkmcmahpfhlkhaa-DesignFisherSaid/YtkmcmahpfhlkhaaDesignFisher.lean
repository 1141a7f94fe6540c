/-
  The law DesignFisher, walked: it returns true whatever the design. No condition.
-/
import Derived.Test.YtkmcmahpfhlkhaaDesFact
import Derived.Test.YtkmcmahpfhlkhaaFisher
namespace Go.Proofs.Ytkmcmahpfhlkhaa
open Go.RowKit

set_option maxRecDepth 100000 in
set_option maxHeartbeats 1000000 in
theorem designFisher_walk (n : Int) (v : Value) (xss : List (List Int)) (w : World) (_hn : -9223372036854775808 ≤ n ∧ n ≤ 9223372036854775807) (h : RowsAt w v xss) (_hx : ∀ xs ∈ xss, Fits xs) :
    Calls Try.prog 5 #[.agg #[.int .i64 n, v]] w fun e w' => e = .returned (.bool true) ∧ Below w.heap.size w w' := by
  have HV := Lib.hid h
  have HA0 := Lib.hid (pair_new w (.int .i64 n) v 24 _ rfl)
  have HB0 := Lib.hid (below_box w (.cells #[.int .i64 n, v] 24))
  obtain ⟨a, c, V, rfl, h1, h2, _, h3⟩ := h
  clear h3
  have HLv : Hid (∀ w1, RowsAt w1 (.slice a xss.length c) xss → Calls Try.prog 17 #[.agg #[.int .i64 n, .slice a xss.length c], .int .i64 2] w1 (LevPost (levK n xss 2) (levL n xss 2) (levE n xss 2) w1)) := fun w1 hw => level_any n 2 _ xss w1 hw
  have HF : Hid (levE n xss 2 = 0 → 2 ≤ levK n xss 2 → levK n xss 2 < n → 1 ≤ levL n xss 2 → n ≤ xss.length) := fun h0 => by
    obtain ⟨N, T, k, l, rfl, hT, hk, hl, hL⟩ := lev_ok h0
    rw [hk, hl]
    obtain rfl : T = 2 := by omega
    intro g1 g2 g3
    have := fisher hL (by omega) (by omega) (by omega)
    omega
  generalize levE n xss 2 = e0 at *
  generalize levK n xss 2 = k0 at *
  generalize levL n xss 2 = l0 at *
  by_cases c1 : e0 = 0
  · subst c1
    by_cases c2 : k0 < 2
    · have d2 : decide (k0 < 2) = true := by simpa using c2
      go_enter Try.func5, Try.ntmps5
      go_wp2_with fail
      refine (designFact_any _).mono ?_
      rintro e w1 ⟨rfl, hb⟩
      have HA1 := Lib.hid (HA0.out.below hb)
      have HB1 := Lib.hid (belowTrans HB0.out hb)
      have b0 := HA1.out.cell (show 0 < 2 by omega); have b1 := HA1.out.cell (show 1 < 2 by omega)
      clear hb
      go_wp2_with fail
      refine (HLv.out _ (HV.out.below HB1.out)).mono ?_
      rintro e w2 ⟨rfl, hb⟩
      have HB2 := Lib.hid (belowTrans HB1.out hb)
      clear hb b0 b1
      go_wp2_with fail
      go_ret
      exact ⟨rfl, HB2.out⟩
    · have d2 : decide (k0 < 2) = false := by simpa using c2
      by_cases c3 : n ≤ k0
      · have d3 : decide (n ≤ k0) = true := by simpa using c3
        go_enter Try.func5, Try.ntmps5
        go_wp2_with fail
        refine (designFact_any _).mono ?_
        rintro e w1 ⟨rfl, hb⟩
        have HA1 := Lib.hid (HA0.out.below hb)
        have HB1 := Lib.hid (belowTrans HB0.out hb)
        have b0 := HA1.out.cell (show 0 < 2 by omega); have b1 := HA1.out.cell (show 1 < 2 by omega)
        clear hb
        go_wp2_with fail
        refine (HLv.out _ (HV.out.below HB1.out)).mono ?_
        rintro e w2 ⟨rfl, hb⟩
        have HB2 := Lib.hid (belowTrans HB1.out hb)
        have HA2 := Lib.hid (HA1.out.below hb)
        clear hb b0 b1
        have b0 := HA2.out.cell (show 0 < 2 by omega); have b1 := HA2.out.cell (show 1 < 2 by omega)
        go_wp2_with fail
        go_ret
        exact ⟨rfl, HB2.out⟩
      · have d3 : decide (n ≤ k0) = false := by simpa using c3
        by_cases c4 : l0 < 1
        all_goals
          first
          | have d4 : decide (l0 < 1) = true := by simpa using c4
          | (have d4 : decide (l0 < 1) = false := by simpa using c4
             have hle := HF.out rfl (by omega) (by omega) (by omega)
             have d5 : decide (n ≤ ((xss.length : Nat) : Int)) = true := by simpa using hle
             clear hle)
          clear c2 c3 c4
          go_enter Try.func5, Try.ntmps5
          go_wp2_with fail
          refine (designFact_any _).mono ?_
          rintro e w1 ⟨rfl, hb⟩
          have HA1 := Lib.hid (HA0.out.below hb)
          have HB1 := Lib.hid (belowTrans HB0.out hb)
          have b0 := HA1.out.cell (show 0 < 2 by omega); have b1 := HA1.out.cell (show 1 < 2 by omega)
          clear hb
          go_wp2_with fail
          refine (HLv.out _ (HV.out.below HB1.out)).mono ?_
          rintro e w2 ⟨rfl, hb⟩
          have HB2 := Lib.hid (belowTrans HB1.out hb)
          have HA2 := Lib.hid (HA1.out.below hb)
          clear hb b0 b1
          have b0 := HA2.out.cell (show 0 < 2 by omega); have b1 := HA2.out.cell (show 1 < 2 by omega)
          go_wp2_with fail
          go_ret
          exact ⟨rfl, HB2.out⟩
  · have d1 : (e0 != 0) = true := by simpa using c1
    go_enter Try.func5, Try.ntmps5
    go_wp2_with fail
    refine (designFact_any _).mono ?_
    rintro e w1 ⟨rfl, hb⟩
    have HA1 := Lib.hid (HA0.out.below hb)
    have HB1 := Lib.hid (belowTrans HB0.out hb)
    have b0 := HA1.out.cell (show 0 < 2 by omega); have b1 := HA1.out.cell (show 1 < 2 by omega)
    clear hb
    go_wp2_with fail
    refine (HLv.out _ (HV.out.below HB1.out)).mono ?_
    rintro e w2 ⟨rfl, hb⟩
    have HB2 := Lib.hid (belowTrans HB1.out hb)
    clear hb b0 b1
    go_wp2_with fail
    go_ret
    exact ⟨rfl, HB2.out⟩
end Go.Proofs.Ytkmcmahpfhlkhaa
