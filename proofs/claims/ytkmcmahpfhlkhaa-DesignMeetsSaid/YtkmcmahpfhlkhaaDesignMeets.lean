/-
  The law DesignMeets, walked: it returns true whatever the design. No condition.
-/
import Derived.Test.YtkmcmahpfhlkhaaDesF
import Derived.Test.YtkmcmahpfhlkhaaMeets
import Derived.Test.YtkmcmahpfhlkhaaMeetsOf
import Derived.Test.YtkmcmahpfhlkhaaInts
namespace Go.Proofs.Ytkmcmahpfhlkhaa
open Go.RowKit

set_option maxRecDepth 100000 in
set_option maxHeartbeats 1000000 in
theorem designMeets_walk (n : Int) (v : Value) (xss : List (List Int)) (w : World) (_hn : -9223372036854775808 ≤ n ∧ n ≤ 9223372036854775807) (h : RowsAt w v xss) (_hx : ∀ xs ∈ xss, Fits xs) :
    Calls Try.prog 10 #[.agg #[.int .i64 n, v]] w fun e w' => e = .returned (.bool true) ∧ Below w.heap.size w w' := by
  have HV := Lib.hid h
  have HA0 := Lib.hid (pair_new w (.int .i64 n) v 24 _ rfl)
  have HB0 := Lib.hid (below_box w (.cells #[.int .i64 n, v] 24))
  obtain ⟨a, c, V, rfl, h1, h2, _, h3⟩ := h
  clear h3
  have HD : Hid (∀ w1, RowsAt w1 (.slice a xss.length c) xss → Calls Try.prog 12 #[.agg #[.int .i64 n, .slice a xss.length c]] w1 fun e w' => e = .returned (.int .i64 (desFault n xss)) ∧ Below w1.heap.size w1 w') := fun w1 hw => desFault_any n _ xss w1 hw
  by_cases hf : desFault n xss = 0
  · have hD := des_of hf
    have hlo := hD.lo
    obtain ⟨m, rfl⟩ := Int.eq_ofNat_of_zero_le (show 0 ≤ n by omega)
    have HDes := Lib.hid hD
    rw [hf] at HD
    clear hf hD hlo
    go_enter Try.func10, Try.ntmps10
    go_wp2_with fail
    refine (HD.out _ (HV.out.below HB0.out)).mono ?_
    rintro e w1 ⟨rfl, hb⟩
    have HB1 := Lib.hid (belowTrans HB0.out hb); have HA1 := Lib.hid (HA0.out.below hb); clear hb
    have b0 := HA1.out.cell (show 0 < 2 by omega); have b1 := HA1.out.cell (show 1 < 2 by omega)
    go_wp2_with fail
    refine (meets_any m _ xss _ (HV.out.below HB1.out) HDes.out).mono ?_
    rintro e w2 ⟨u, rfl, hi, hb⟩
    have HB2 := Lib.hid (belowTrans HB1.out hb)
    have HA2 := Lib.hid (HA1.out.below hb)
    clear b0 b1
    have b0 := HA2.out.cell (show 0 < 2 by omega); have b1 := HA2.out.cell (show 1 < 2 by omega)
    have HI := Lib.hid hi
    obtain ⟨ua, uc, rfl, _⟩ := hi
    obtain ⟨ln, hln⟩ : ∃ ln, ln = (meetsL m xss).length := ⟨_, rfl⟩
    rw [← hln] at HI ⊢
    clear hb hln
    go_wp2_with fail
    refine (meetsOf_any m _ xss _ (HV.out.below HB2.out) HDes.out).mono ?_
    rintro e w3 ⟨u3, rfl, hi, hb⟩
    have HB3 := Lib.hid (belowTrans HB2.out hb)
    have HIn := Lib.hid (ints_bel _ _ _ _ w3 (HI.out.below hb) hi)
    rw [eqI_refl] at HIn
    clear hi hb
    go_wp2_with fail
    refine (HIn.out).mono ?_
    rintro e w4 ⟨rfl, hb⟩
    have HB4 := Lib.hid (belowTrans HB3.out hb)
    clear hb
    go_wp2_with fail
    go_ret
    exact ⟨rfl, HB4.out⟩
  · have HM : Hid (∀ w1, RowsAt w1 (.slice a xss.length c) xss → Calls Try.prog 29 #[.agg #[.int .i64 n, .slice a xss.length c]] w1 (NumsPost [] (desFault n xss) w1)) := fun w1 hw => meets_bad n _ xss w1 hw hf
    have hne : (desFault n xss != 0) = true := by simpa using hf
    clear hf
    generalize desFault n xss = e0 at *
    go_enter Try.func10, Try.ntmps10
    go_wp2_with fail
    refine (HD.out _ (HV.out.below HB0.out)).mono ?_
    rintro e w1 ⟨rfl, hb⟩
    have HB1 := Lib.hid (belowTrans HB0.out hb); have HA1 := Lib.hid (HA0.out.below hb); clear hb
    have b0 := HA1.out.cell (show 0 < 2 by omega); have b1 := HA1.out.cell (show 1 < 2 by omega)
    go_wp2_with fail
    refine (HM.out _ (HV.out.below HB1.out)).mono ?_
    rintro e w2 ⟨u, rfl, hi, hb⟩
    have HB2 := Lib.hid (belowTrans HB1.out hb)
    have HA2 := Lib.hid (HA1.out.below hb)
    clear b0 b1
    have b0 := HA2.out.cell (show 0 < 2 by omega); have b1 := HA2.out.cell (show 1 < 2 by omega)
    obtain ⟨ua, uc, rfl, _⟩ := hi
    simp only [List.length_nil]
    clear hb
    go_wp2_with fail
    go_ret
    exact ⟨rfl, HB2.out⟩
end Go.Proofs.Ytkmcmahpfhlkhaa
