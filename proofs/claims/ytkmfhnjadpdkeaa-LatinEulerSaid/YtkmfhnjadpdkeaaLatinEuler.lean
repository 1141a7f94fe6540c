/-
  The walk of LatinEuler: it returns true, and what there was is as it was. No condition.
-/
import Derived.Test.YtkmfhnjadpdkeaaLatinFact
namespace Go.Proofs.Ytkmfhnjadpdkeaa
open Go.RowKit

theorem cyc_trans {n : Nat} (h1 : 1 ≤ n) (h7 : n ≤ 7) : decide (0 < transM n (cycTo n (n * n)) n 0 0 0) = (n % 2 == 1) := by
  have : n = 1 ∨ n = 2 ∨ n = 3 ∨ n = 4 ∨ n = 5 ∨ n = 6 ∨ n = 7 := by omega
  rcases this with rfl | rfl | rfl | rfl | rfl | rfl | rfl <;> decide +kernel

set_option maxHeartbeats 1000000 in
theorem latinEuler_walk (n : Int) (w : World) (_ : -9223372036854775808 ≤ n ∧ n ≤ 9223372036854775807) :
    Calls Try.prog 5 #[.int .i64 n] w fun e w' => e = .returned (.bool true) ∧ Below w.heap.size w w' := by
  by_cases hn : n < 1 ∨ 8 < n
  · go_enter Try.func5, Try.ntmps5
    go_wp2_with fail
    refine (latinFact_any _).mono ?_
    rintro e w1 ⟨rfl, hb1⟩
    go_wp2_with fail
    refine (cyclic_no n _ hn).mono ?_
    rintro e w2 ⟨rfl, hb2⟩
    go_wp2
    go_ret
    exact ⟨rfl, belowTrans hb1 (belowTrans hb2 (below_box _ _))⟩
  · obtain ⟨m, rfl⟩ := Int.eq_ofNat_of_zero_le (show 0 ≤ n by omega)
    have h1 : 1 ≤ m := by omega
    have h8 : m ≤ 8 := by omega
    have hf := cyc_fault h1 h8
    by_cases h7 : m ≤ 7
    · have ht : transFault m (cycTo m (m * m)) = 0 := by unfold transFault; rw [if_neg (by simpa using hf), if_neg (by omega)]
      have hc : transCount m (cycTo m (m * m)) = transM m (cycTo m (m * m)) m 0 0 0 := by unfold transCount; rw [if_pos ht, Int.toNat_natCast]
      have hp := cyc_trans h1 h7
      have HT := Lib.hid ht; have HC := Lib.hid hc; have HP := Lib.hid hp
      clear hf ht hc hp hn
      obtain ⟨t, htt⟩ : ∃ t, t = transM m (cycTo m (m * m)) m 0 0 0 := ⟨_, rfl⟩
      rw [← htt] at HC HP
      clear htt
      cases hB : (m % 2 == 1)
      all_goals
        have HP := HP.out
        rw [hB] at HP
        have Hd := Lib.hid HP
        have e2 : ((m : Int) % 2 == 1) = _ := (show ((m : Int) % 2 == 1) = (m % 2 == 1) by rw [Bool.eq_iff_iff]; simp only [beq_iff_eq]; omega).trans hB
        clear HP hB
        go_enter Try.func5, Try.ntmps5
        go_wp2_with fail
        refine (latinFact_any _).mono ?_
        rintro e w1 ⟨rfl, hb1⟩
        go_wp2_with fail
        refine (cyclic_yes m _ (by omega) (by omega)).mono ?_
        rintro e w2 ⟨v, rfl, ho, hb2⟩
        obtain ⟨va, vl, vc, rfl⟩ := ho.shape
        have HI := Lib.hid (ho.intsAt (cyc_fits (by omega)))
        clear ho
        go_wp2_with fail
        refine (trans_any m _ _ _ (HI.out.below (below_box _ _))).mono ?_
        rw [HT.out, HC.out]
        rintro e w3 ⟨rfl, hb3⟩
        go_wp2
        go_ret
        exact ⟨ret_bool (by rw [Hd.out] <;> rfl), belowTrans hb1 (belowTrans hb2 (belowTrans (below_box _ _) hb3))⟩
    · obtain rfl : m = 8 := by omega
      have ht : transFault 8 (cycTo 8 (8 * 8)) = 3 := by unfold transFault; rw [if_neg (by simpa using hf)]; rfl
      have hc : transCount 8 (cycTo 8 (8 * 8)) = 0 := by unfold transCount; rw [if_neg (by rw [ht]; decide)]
      have HT := Lib.hid ht; have HC := Lib.hid hc
      clear hf ht hc hn
      go_enter Try.func5, Try.ntmps5
      go_wp2_with fail
      refine (latinFact_any _).mono ?_
      rintro e w1 ⟨rfl, hb1⟩
      go_wp2_with fail
      refine (cyclic_yes 8 _ (by omega) (by omega)).mono ?_
      rintro e w2 ⟨v, rfl, ho, hb2⟩
      obtain ⟨va, vl, vc, rfl⟩ := ho.shape
      have HI := Lib.hid (ho.intsAt (cyc_fits (by omega)))
      clear ho
      go_wp2_with fail
      refine (trans_any 8 _ _ _ (HI.out.below (below_box _ _))).mono ?_
      rw [HT.out, HC.out]
      rintro e w3 ⟨rfl, hb3⟩
      go_wp2
      go_ret
      exact ⟨rfl, belowTrans hb1 (belowTrans hb2 (belowTrans (below_box _ _) hb3))⟩

end Go.Proofs.Ytkmfhnjadpdkeaa
