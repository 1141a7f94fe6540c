/-
  The walk of LatinChecks: it returns true, and what there was is as it was, where the table of orders reads as it is laid. No condition but that.
-/
import Derived.Test.YtkmfhnjadpdkeaaDoorConjOf2
import Derived.Test.YtkmfhnjadpdkeaaDoorLatin1
import Derived.Test.YtkmfhnjadpdkeaaDoorSquares
namespace Go.Proofs.YtkmfhnjadpdkeaaDoor
open Go.RowKit

set_option maxRecDepth 100000 in
set_option maxHeartbeats 2000000 in
theorem latinChecks_walk (s : Int) (v : Value) (xs : List Int) (k : Int) (w : World)
    (hs : -9223372036854775808 ≤ s ∧ s ≤ 9223372036854775807) (h : IntsAt w v xs) (_ : Fits xs) (_ : -9223372036854775808 ≤ k ∧ k ≤ 9223372036854775807) (hO : OrdersAt w) :
    Calls Tryd.prog 3 #[.agg #[.int .i64 s, v], .int .i64 k] w fun e w' => e = .returned (.bool true) ∧ Below w.heap.size w w' := by
  have HB := Lib.hid (below_box w (.cells #[.int .i64 s, v] 24))
  have HI := Lib.hid (h.below HB.out)
  have HO := Lib.hid (hO.below HB.out)
  obtain ⟨a, c, rfl, _, _, _, _⟩ := id h
  clear h hO
  by_cases hf : latinFault s xs = 0
  · have HF := Lib.hid hf
    have HL := Lib.hid (latin_of hf)
    obtain ⟨n, rfl⟩ := Int.eq_ofNat_of_zero_le (show 0 ≤ s by have := HL.out.lo; omega)
    clear hf
    by_cases hk : k < 0 ∨ 5 < k
    · have HK := Lib.hid hk
      have hkk : decide (k < 0) = true ∨ (decide (k < 0) = false ∧ decide (5 < k) = true) := by
        rcases hk with h | h
        · exact .inl (by simpa using h)
        · exact .inr ⟨by simp; omega, by simp; omega⟩
      clear hk
      rcases hkk with e1 | ⟨e1, e2⟩
      all_goals
        go_enter Tryd.func3, Tryd.ntmps3
        go_wp2_with fail
        refine (latinFault_any _ _ xs _ HI.out hs).mono ?_
        rw [HF.out]
        rintro e w1 ⟨rfl, hb⟩
        have H1 := Lib.hid hb; clear hb
        obtain ⟨hz, k0, k1⟩ := box1 H1.out
        go_wp2_with fail
        refine (check_any n _ xs _ (HI.out.below H1.out)).mono ?_
        rw [HF.out]
        rintro e w2 ⟨rfl, hb⟩
        have H2 := Lib.hid (belowTrans H1.out hb); clear hb hz k0 k1
        obtain ⟨hz, k0, k1⟩ := box1 H2.out
        go_wp2_with fail
        refine (conj_range n k _ xs _ (HI.out.below H2.out) HL.out HK.out).mono ?_
        intro e w3 hp
        obtain ⟨rfl, hb⟩ := hp
        have H3 := Lib.hid (belowTrans (belowTrans H2.out hb) (below_box _ (.cells #[.int .i64 0, .slice none 0 0] 24))); clear hb hz k0 k1
        obtain ⟨hz, k0, k1⟩ := box1 H3.out
        go_wp2_with fail
        refine (squares_any 0 0 _ _ [] [] _ (intsAt_nil _) (intsAt_nil _)).mono ?_
        rw [eqI_refl]
        rintro e w4 ⟨rfl, hb⟩
        have H4 := Lib.hid (belowTrans H3.out hb); clear hb
        go_wp2_with fail
        go_ret
        exact ⟨ret_bool (by simp), belowTrans HB.out H4.out⟩
    · obtain ⟨k, rfl⟩ := Int.eq_ofNat_of_zero_le (show 0 ≤ k by omega)
      have hk6 : k < 6 := by omega
      have e1 : decide ((k : Int) < 0) = false := by simp
      have e2 : decide ((5 : Int) < (k : Int)) = false := by rw [decide_eq_false_iff_not]; omega
      have e3 : decide (5 < k) = false := by rw [decide_eq_false_iff_not]; omega
      have hk0 : ¬ ((k : Int) < 0) := by omega
      have hk5 : ¬ ((5 : Int) < (k : Int)) := by omega
      clear hk
      go_enter Tryd.func3, Tryd.ntmps3
      go_wp2_with fail
      refine (latinFault_any _ _ xs _ HI.out hs).mono ?_
      rw [HF.out]
      rintro e w1 ⟨rfl, hb⟩
      have H1 := Lib.hid hb; clear hb
      obtain ⟨hz, k0, k1⟩ := box1 H1.out
      go_wp2_with fail
      refine (check_any n _ xs _ (HI.out.below H1.out)).mono ?_
      rw [HF.out]
      rintro e w2 ⟨rfl, hb⟩
      have H2 := Lib.hid (belowTrans H1.out hb); clear hb hz k0 k1
      obtain ⟨hz, k0, k1⟩ := box1 H2.out
      go_wp2_with fail
      refine (conj_yes n k _ xs _ (HI.out.below H2.out) HL.out hk6 (HO.out.below H2.out)).mono ?_
      rintro e w3 ⟨v3, rfl, hI3, hb⟩
      obtain ⟨va, vc, rfl, _⟩ := id hI3
      have HB3 := Lib.hid (below_box w3 (.cells #[.int .i64 n, .slice va (conjL n xs k).length vc] 24))
      have HI3 := Lib.hid (hI3.below HB3.out)
      have H3 := Lib.hid (belowTrans (belowTrans H2.out hb) HB3.out); clear hb hI3 hz k0 k1
      obtain ⟨hz, k0, k1⟩ := box1 H3.out
      go_wp2_with fail
      refine (conjOf_any n k _ xs _ (HI.out.below H3.out) HL.out hk6).mono ?_
      rintro e w4 ⟨v4, rfl, hI4, hb⟩
      obtain ⟨ua, uc, rfl, _⟩ := id hI4
      obtain ⟨g1, g2, g3⟩ := box1 hb
      have HB4 := Lib.hid (below_box w4 (.cells #[.int .i64 n, .slice ua (conjL n xs k).length uc] 24))
      have HI4 := Lib.hid (hI4.below HB4.out)
      have HI5 := Lib.hid ((HI3.out.below hb).below HB4.out)
      have H4 := Lib.hid (belowTrans (belowTrans H3.out hb) HB4.out); clear hb hI4 hz k0 k1
      obtain ⟨hz, k0, k1⟩ := box1 H4.out
      go_wp2_with fail
      refine (squares_any n n _ _ _ _ _ HI5.out HI4.out).mono ?_
      rw [eqI_refl]
      rintro e w5 ⟨rfl, hb⟩
      have H5 := Lib.hid (belowTrans H4.out hb); clear hb
      go_wp2_with fail
      go_ret
      exact ⟨ret_bool (by simp), belowTrans HB.out H5.out⟩
  · have HF := Lib.hid hf
    have e0 : (latinFault s xs == 0) = false := by simpa using hf
    have e2 : (latinFault s xs != 0) = true := by simpa using hf
    clear hf
    go_enter Tryd.func3, Tryd.ntmps3
    go_wp2_with fail
    refine (latinFault_any _ _ xs _ HI.out hs).mono ?_
    rintro e w1 ⟨rfl, hb⟩
    have H1 := Lib.hid hb; clear hb
    obtain ⟨hz, k0, k1⟩ := box1 H1.out
    go_wp2_with fail
    refine (check_any s _ xs _ (HI.out.below H1.out)).mono ?_
    rintro e w2 ⟨rfl, hb⟩
    have H2 := Lib.hid (belowTrans H1.out hb); clear hb hz k0 k1
    obtain ⟨hz, k0, k1⟩ := box1 H2.out
    go_wp2_with fail
    refine (conj_fault s k _ xs _ (HI.out.below H2.out) HF.out).mono ?_
    intro e w3 hp
    obtain ⟨rfl, hb⟩ := hp
    have H3 := Lib.hid (belowTrans (belowTrans H2.out hb) (below_box _ (.cells #[.int .i64 0, .slice none 0 0] 24))); clear hb hz k0 k1
    go_wp2_with fail
    refine (squares_any 0 0 _ _ [] [] _ (intsAt_nil _) (intsAt_nil _)).mono ?_
    rw [eqI_refl]
    rintro e w4 ⟨rfl, hb⟩
    have H4 := Lib.hid (belowTrans H3.out hb); clear hb
    go_wp2_with fail
    go_ret
    exact ⟨ret_bool (by simp), belowTrans HB.out H4.out⟩
end Go.Proofs.YtkmfhnjadpdkeaaDoor
