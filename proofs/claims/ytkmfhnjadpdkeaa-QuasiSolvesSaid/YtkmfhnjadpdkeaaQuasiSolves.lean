/-
  The walk of QuasiSolves: it returns true, and what there was is as it was. No condition.
-/
import Derived.Test.YtkmfhnjadpdkeaaQuasi2
namespace Go.Proofs.Ytkmfhnjadpdkeaa
open Go.RowKit

theorem solve_way (side a b : Int) :
    (decide (a < 0) = true) ∨ (decide (a < 0) = false ∧ decide (side ≤ a) = true) ∨
    (decide (a < 0) = false ∧ decide (side ≤ a) = false ∧ decide (b < 0) = true) ∨
    (decide (a < 0) = false ∧ decide (side ≤ a) = false ∧ decide (b < 0) = false ∧ decide (side ≤ b) = true) ∨
    (decide (a < 0) = false ∧ decide (side ≤ a) = false ∧ decide (b < 0) = false ∧ decide (side ≤ b) = false) := by
  cases decide (a < 0) <;> cases decide (side ≤ a) <;> cases decide (b < 0) <;> cases decide (side ≤ b) <;> simp

theorem solve_one {side : Int} {xs : List Int} {a b : Int} (h : latinFault side xs = 0) (ho : a < 0 ∨ side ≤ a ∨ b < 0 ∨ side ≤ b) : solveFault side xs a b = 1 := by
  unfold solveFault elemFault
  rw [if_neg (by simpa using h)]
  have : anyB (outB side) [a, b] = true := by unfold anyB outB; simp; omega
  rw [this]; rfl

set_option maxHeartbeats 1000000 in
theorem quasiSolves_walk (s : Int) (v : Value) (xs : List Int) (a b : Int) (w : World)
    (hs : -9223372036854775808 ≤ s ∧ s ≤ 9223372036854775807) (h : IntsAt w v xs) (_ : Fits xs) (_ : -9223372036854775808 ≤ a ∧ a ≤ 9223372036854775807) (_ : -9223372036854775808 ≤ b ∧ b ≤ 9223372036854775807) :
    Calls Try.prog 4 #[.agg #[.int .i64 s, v], .int .i64 a, .int .i64 b] w fun e w' => e = .returned (.bool true) ∧ Below w.heap.size w w' := by
  have HB := Lib.hid (below_box w (.cells #[.int .i64 s, v] 24))
  have HI := Lib.hid (h.below HB.out)
  clear h
  cases e1 : (latinFault s xs == 0)
  · have e1' : latinFault s xs ≠ 0 := by simpa using e1
    have e2 : (latinFault s xs != 0) = true := by simpa using e1'
    have Hf : Hid (solveFault s xs a b = latinFault s xs) := by show _ = _; unfold solveFault elemFault; rw [if_pos e1']
    have Hn : Hid (solveFault s xs a b ≠ 0) := by show _ ≠ _; rw [Hf.out]; exact e1'
    clear e1'
    go_enter Try.func4, Try.ntmps4
    go_wp2_with fail
    refine (latinFault_any _ _ xs _ HI.out hs).mono ?_
    rintro e w1 ⟨rfl, hb1⟩
    obtain ⟨hz, k0, k1⟩ := box1 hb1
    go_wp2_with fail
    refine (left_no s a b v xs _ (HI.out.below hb1) Hn.out).mono ?_
    rw [Hf.out]
    rintro e w2 ⟨rfl, hb2⟩
    have hb02 := belowTrans hb1 hb2
    clear hz k0 k1
    obtain ⟨hz, k0, k1⟩ := box1 hb02
    go_wp2_with fail
    refine (right_no s a b v xs _ (HI.out.below hb02) Hn.out).mono ?_
    rw [Hf.out]
    rintro e w3 ⟨rfl, hb3⟩
    go_wp2
    go_ret
    exact ⟨rfl, belowTrans HB.out (belowTrans hb02 hb3)⟩
  · have l0 : latinFault s xs = 0 := by simpa using e1
    have L0 := Lib.hid l0
    clear l0
    rcases solve_way s a b with d1 | ⟨d1, d2⟩ | ⟨d1, d2, d3⟩ | ⟨d1, d2, d3, d4⟩ | ⟨d1, d2, d3, d4⟩
    rotate_left 4
    · have ha0 : 0 ≤ a := by simpa using d1
      have has : a < s := by simpa using d2
      have hb0 : 0 ≤ b := by simpa using d3
      have hbs : b < s := by simpa using d4
      obtain ⟨n, rfl⟩ := Int.eq_ofNat_of_zero_le (show 0 ≤ s by omega)
      obtain ⟨i, rfl⟩ := Int.eq_ofNat_of_zero_le ha0
      obtain ⟨j, rfl⟩ := Int.eq_ofNat_of_zero_le hb0
      have HL := Lib.hid (latin_of L0.out)
      have hi : i < n := by omega
      have hj : j < n := by omega
      obtain ⟨y, hy, hye⟩ := HL.out.row_has hi (b := (j : Int)) (by omega)
      obtain ⟨x, hx, hxe⟩ := HL.out.col_has hi (b := (j : Int)) (by omega)
      have Hy := Lib.hid hye; have Hx := Lib.hid hxe
      clear hye hxe
      have hn8 : n ≤ 8 := by have := HL.out.hi; omega
      have hLen := HL.out.len
      have HLen := Lib.hid hLen; clear hLen
      go_enter Try.func4, Try.ntmps4
      go_wp2_with fail
      refine (latinFault_any _ _ xs _ HI.out hs).mono ?_
      rw [L0.out]
      rintro e w1 ⟨rfl, hb1⟩
      obtain ⟨hz, k0, k1⟩ := box1 hb1
      go_wp2_with fail
      refine (left_yes n i j y v xs _ (HI.out.below hb1) HL.out hi hj hy Hy.out).mono ?_
      rintro e w2 ⟨rfl, hb2⟩
      have hb02 := belowTrans hb1 hb2
      clear hz k0 k1 hb1 hb2
      obtain ⟨hz, k0, k1⟩ := box1 hb02
      go_wp2_with fail
      refine (right_yes n i j x v xs _ (HI.out.below hb02) HL.out hi hj hx Hx.out).mono ?_
      rintro e w3 ⟨rfl, hb3⟩
      have hb03 := belowTrans hb02 hb3
      clear hz k0 k1 hb02 hb3
      obtain ⟨hz, k0, k1⟩ := box1 hb03
      go_wp2_with fail
      refine (at_any n i y v xs _ (HI.out.below hb03) (by omega) HLen.out (by omega) (by omega)).mono ?_
      rintro e w4 ⟨rfl, hb4⟩
      have hb04 := belowTrans hb03 hb4
      clear hz k0 k1 hb03 hb4
      obtain ⟨hz, k0, k1⟩ := box1 hb04
      go_wp2_with fail
      refine (at_any n x i v xs _ (HI.out.below hb04) (by omega) HLen.out (by omega) (by omega)).mono ?_
      rintro e w5 ⟨rfl, hb5⟩
      have E1 : (ix xs ((i : Int).toNat * (n : Int).toNat + (y : Int).toNat) == (j : Int)) = true := by
        simp only [Int.toNat_natCast, beq_iff_eq]; exact Hy.out
      have E2 : (ix xs ((x : Int).toNat * (n : Int).toNat + (i : Int).toNat) == (j : Int)) = true := by
        simp only [Int.toNat_natCast, beq_iff_eq]; exact Hx.out
      simp only [Int.toNat_natCast] at E1 E2 ⊢
      go_wp2
      go_ret
      exact ⟨rfl, belowTrans HB.out (belowTrans hb04 hb5)⟩
    all_goals
      have Hf : Hid (solveFault s xs a b = 1) := by
        simp only [decide_eq_true_eq, decide_eq_false_iff_not] at *
        exact solve_one L0.out (by omega)
      have Hn : Hid (solveFault s xs a b ≠ 0) := by show _ ≠ _; rw [Hf.out]; decide
      go_enter Try.func4, Try.ntmps4
      go_wp2_with fail
      refine (latinFault_any _ _ xs _ HI.out hs).mono ?_
      rw [L0.out]
      rintro e w1 ⟨rfl, hb1⟩
      obtain ⟨hz, k0, k1⟩ := box1 hb1
      go_wp2_with fail
      refine (left_no s a b v xs _ (HI.out.below hb1) Hn.out).mono ?_
      rw [Hf.out]
      rintro e w2 ⟨rfl, hb2⟩
      have hb02 := belowTrans hb1 hb2
      clear hz k0 k1
      obtain ⟨hz, k0, k1⟩ := box1 hb02
      go_wp2_with fail
      refine (right_no s a b v xs _ (HI.out.below hb02) Hn.out).mono ?_
      rw [Hf.out]
      rintro e w3 ⟨rfl, hb3⟩
      go_wp2
      go_ret
      exact ⟨rfl, belowTrans HB.out (belowTrans hb02 hb3)⟩

end Go.Proofs.Ytkmfhnjadpdkeaa
