/-
  The law DesignParallel, walked: it returns true whatever the design. No condition.
-/
import Derived.Test.YtkmcmahpfhlkhaaParallel
import Derived.Test.YtkmcmahpfhlkhaaParallelOf
import Derived.Test.YtkmcmahpfhlkhaaDesF
import Derived.Test.YtkmcmahpfhlkhaaInts
namespace Go.Proofs.Ytkmcmahpfhlkhaa
open Go.RowKit

set_option maxRecDepth 100000 in
set_option maxHeartbeats 1000000 in
theorem designParallel_walk (n : Int) (v : Value) (xss : List (List Int)) (w : World) (_hn : -9223372036854775808 ≤ n ∧ n ≤ 9223372036854775807) (h : RowsAt w v xss) (_hx : ∀ xs ∈ xss, Fits xs) :
    Calls Try.prog 3 #[.agg #[.int .i64 n, v]] w fun e w' => e = .returned (.bool true) ∧ Below w.heap.size w w' := by
  have HV := Lib.hid h
  have HA0 := Lib.hid (pair_new w (.int .i64 n) v 24 _ rfl)
  have HB0 := Lib.hid (below_box w (.cells #[.int .i64 n, v] 24))
  obtain ⟨a, c, V, rfl, h1, h2, _, h3⟩ := h
  clear h3
  have HD : Hid (∀ w1, RowsAt w1 (.slice a xss.length c) xss → Calls Try.prog 12 #[.agg #[.int .i64 n, .slice a xss.length c]] w1 fun e w' => e = .returned (.int .i64 (desFault n xss)) ∧ Below w1.heap.size w1 w') := fun w1 hw => desFault_any n _ xss w1 hw
  by_cases hf : desFault n xss = 0
  · have hD := des_of hf
    have hlo := hD.lo
    obtain ⟨m, rfl⟩ := Int.eq_ofNat_of_zero_le (show 0 ≤ n by omega)
    have HDes := Lib.hid hD
    rw [hf] at HD
    clear hf hD hlo
    by_cases hm : 15 < m
    · have hgt : decide ((15 : Int) < (m : Int)) = true := decide_eq_true (by omega)
      go_enter Try.func3, Try.ntmps3
      go_wp2_with fail
      refine (HD.out _ (HV.out.below HB0.out)).mono ?_
      rintro e w1 ⟨rfl, hb⟩
      have HB1 := Lib.hid (belowTrans HB0.out hb); have HA1 := Lib.hid (HA0.out.below hb); clear hb
      have b0 := HA1.out.cell (show 0 < 2 by omega); have b1 := HA1.out.cell (show 1 < 2 by omega)
      go_wp2_with fail
      refine (parallel_big m _ xss _ (HV.out.below HB1.out) HDes.out hm).mono ?_
      rintro e w2 ⟨rfl, hb⟩
      have HB2 := Lib.hid (belowTrans HB1.out hb)
      clear hb b0 b1
      go_wp2_with fail
      go_ret
      exact ⟨rfl, HB2.out⟩
    · have hgt : decide ((15 : Int) < (m : Int)) = false := decide_eq_false (by omega)
      have hm15 : m ≤ 15 := by omega
      go_enter Try.func3, Try.ntmps3
      go_wp2_with fail
      refine (HD.out _ (HV.out.below HB0.out)).mono ?_
      rintro e w1 ⟨rfl, hb⟩
      have HB1 := Lib.hid (belowTrans HB0.out hb); have HA1 := Lib.hid (HA0.out.below hb); clear hb
      have b0 := HA1.out.cell (show 0 < 2 by omega); have b1 := HA1.out.cell (show 1 < 2 by omega)
      go_wp2_with fail
      refine (parallel_ok m _ xss _ (HV.out.below HB1.out) HDes.out hm15).mono ?_
      intro e w2 hp
      unfold ParPost at hp
      clear b0 b1
      cases ep : par (blkS xss) xss.length xss.length (fullS m) with
      | none =>
        rw [ep] at hp
        dsimp only at hp
        obtain ⟨rfl, hb⟩ := hp
        have HB2 := Lib.hid (belowTrans HB1.out hb)
        have HA2 := Lib.hid (HA1.out.below hb)
        have b0 := HA2.out.cell (show 0 < 2 by omega); have b1 := HA2.out.cell (show 1 < 2 by omega)
        have HE := Lib.hid ep
        clear hb ep
        go_wp2_with fail
        refine (parallelOf_any m _ xss _ (HV.out.below HB2.out) HDes.out).mono ?_
        intro e w3 hp
        unfold ParPost at hp
        rw [HE.out] at hp
        dsimp only at hp
        obtain ⟨rfl, hb⟩ := hp
        have HB3 := Lib.hid (belowTrans HB2.out hb)
        have HIn := Lib.hid (ints_bel _ _ _ _ w3 (intsAt_nil w3) (intsAt_nil w3))
        rw [eqI_refl] at HIn
        clear hb b0 b1
        go_wp2_with fail
        refine (HIn.out).mono ?_
        rintro e w4 ⟨rfl, hb⟩
        have HB4 := Lib.hid (belowTrans HB3.out hb)
        clear hb
        go_wp2_with fail
        go_ret
        exact ⟨rfl, HB4.out⟩
      | some l =>
        rw [ep] at hp
        dsimp only at hp
        obtain ⟨u, rfl, hi, hb⟩ := hp
        have HB2 := Lib.hid (belowTrans HB1.out hb)
        have HA2 := Lib.hid (HA1.out.below hb)
        have b0 := HA2.out.cell (show 0 < 2 by omega); have b1 := HA2.out.cell (show 1 < 2 by omega)
        have HE := Lib.hid ep
        have HI := Lib.hid hi
        clear hb ep hi
        go_wp2_with fail
        refine (parallelOf_any m _ xss _ (HV.out.below HB2.out) HDes.out).mono ?_
        intro e w3 hp
        unfold ParPost at hp
        rw [HE.out] at hp
        dsimp only at hp
        obtain ⟨u3, rfl, hi, hb⟩ := hp
        have HB3 := Lib.hid (belowTrans HB2.out hb)
        have HIn := Lib.hid (ints_bel _ _ _ _ w3 (HI.out.below hb) hi)
        rw [eqI_refl] at HIn
        clear hb b0 b1 hi
        go_wp2_with fail
        refine (HIn.out).mono ?_
        rintro e w4 ⟨rfl, hb⟩
        have HB4 := Lib.hid (belowTrans HB3.out hb)
        clear hb
        go_wp2_with fail
        go_ret
        exact ⟨rfl, HB4.out⟩
  · have hne : (desFault n xss != 0) = true := by simpa using hf
    have heq : (desFault n xss == 0) = false := by simpa using hf
    have HP : Hid (∀ w1, RowsAt w1 (.slice a xss.length c) xss → Calls Try.prog 13 #[.agg #[.int .i64 n, .slice a xss.length c]] w1 fun e w' => e = .returned (.tuple #[.slice none 0 0, .int .i64 (desFault n xss)]) ∧ Below w1.heap.size w1 w') := fun w1 hw => parallel_bad n _ xss w1 hw hf
    clear hf
    generalize desFault n xss = e0 at *
    go_enter Try.func3, Try.ntmps3
    go_wp2_with fail
    refine (HD.out _ (HV.out.below HB0.out)).mono ?_
    rintro e w1 ⟨rfl, hb⟩
    have HB1 := Lib.hid (belowTrans HB0.out hb); have HA1 := Lib.hid (HA0.out.below hb); clear hb
    have b0 := HA1.out.cell (show 0 < 2 by omega); have b1 := HA1.out.cell (show 1 < 2 by omega)
    go_wp2_with fail
    refine (HP.out _ (HV.out.below HB1.out)).mono ?_
    rintro e w2 ⟨rfl, hb⟩
    have HB2 := Lib.hid (belowTrans HB1.out hb)
    clear hb b0 b1
    go_wp2_with fail
    go_ret
    exact ⟨rfl, HB2.out⟩
end Go.Proofs.Ytkmcmahpfhlkhaa
