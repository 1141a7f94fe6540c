/-
  Contracts: quasi.Left, quasi.Right where there is a solution. No condition.
-/
import Derived.Test.YtkmfhnjadpdkeaaDoorQuasi1
namespace Go.Proofs.YtkmfhnjadpdkeaaDoor
open Go.RowKit

theorem elem_ok {n : Nat} {xs : List Int} (h : IsLatin n xs) {a b : Nat} (ha : a < n) (hb : b < n) : elemFault n xs [(a : Int), (b : Int)] = 0 := by
  unfold elemFault
  rw [if_neg (by simpa using h.fault)]
  have : anyB (outB n) [(a : Int), (b : Int)] = false := by
    unfold anyB outB
    rw [List.any_eq_false]
    intro x hx
    simp at hx
    rcases hx with rfl | rfl <;> simp <;> omega
  rw [this]; rfl

set_option maxHeartbeats 1000000 in
theorem left_yes (n a b y0 : Nat) (v : Value) (xs : List Int) (w : World) (h : IntsAt w v xs) (hL : IsLatin n xs) (ha : a < n) (hb : b < n) (hy : y0 < n) (he : qat n xs a y0 = b) :
    Calls Tryd.prog 17 #[.agg #[.int .i64 n, v], .int .i64 a, .int .i64 b] w fun e w' => e = .returned (.tuple #[.int .i64 y0, .int .i64 0]) ∧ Below w.heap.size w w' := by
  have HB1 := Lib.hid (below_box w (.cells #[.int .i64 n, v] 24))
  have HI := Lib.hid ((h.below HB1.out).below (below_box _ (.cells #[.int .i64 a, .int .i64 b] 3)))
  have hf1 : elemFault n xs [(a : Int), (b : Int)] = 0 := elem_ok hL ha hb
  have Hf := Lib.hid hf1
  have HL := Lib.hid hL
  have HE := Lib.hid he
  have hn8 : n ≤ 8 := by have := hL.hi; omega
  clear h he hL hf1
  go_enter Tryd.func17, Tryd.ntmps17
  go_wp2_with fail
  refine (open_any n v _ xs [(a : Int), (b : Int)] _ HI.out (by simpa using intsAt_two (w.alloc (.cells #[.int .i64 n, v] 24)) a b 3)).mono ?_
  rw [Hf.out, tabOf_ok Hf.out]
  rintro e w1 ⟨rfl, hb1⟩
  obtain ⟨W, q1, q2, q3, q4⟩ := run_store_tab (P := Tryd.prog) w1 58 Tryd.zeroCells58 (tfill n xs xs.length) 65 rfl
  have hB : Below w.heap.size w W := (belowTrans HB1.out (belowTrans (below_box _ _) hb1)).trans (q3.mono (belowTrans HB1.out (belowTrans (below_box _ _) hb1)).size)
  have HB := Lib.hid hB
  have Q2 := Lib.hid q2
  clear hB q2 q3
  go_wp2_with fail
  go_loop [10] (fun y => ∃ k : Nat, k ≤ y0 ∧ y = .int .i64 k) (fun y => y0 - (intOf y).toNat)
  case atStart => exact ⟨0, by omega, rfl⟩
  case round =>
    obtain ⟨k, hk, rfl⟩ := hrel
    have hc : W.cell? ⟨w1.heap.size, 1 + a * 8 + k, none⟩ = some (.int .i64 (qat n xs a k)) := by
      rw [Arr.cell Q2.out (show 1 + a * 8 + k < 65 by omega)]
      show some (Value.int .i64 (tfill n xs xs.length (1 + a * 8 + k))) = _
      rw [tab_cell HL.out ha (by omega)]
    have ha8 : ((a : Nat) : Int) < 8 := by omega
    have hk8 : ((k : Nat) : Int) < 8 := by omega
    have ha9 : a < 8 := by omega
    have hk9 : k < 8 := by omega
    by_cases hky : k = y0
    · subst hky
      rw [HE.out] at hc
      go_wp2
      go_ret2
      exact ⟨rfl, HB.out⟩
    · have hne : (qat n xs a k != (b : Int)) = true := by
        rw [bne_iff_ne]
        intro e
        rw [← HE.out] at e
        exact hky (HL.out.row_inj ha (by omega) hy e)
      go_wp2
      go_round
      case rel => exact ⟨k + 1, by omega, by go_num⟩
      case measure => simp [intOf]; omega

set_option maxHeartbeats 1000000 in
theorem right_yes (n a b x0 : Nat) (v : Value) (xs : List Int) (w : World) (h : IntsAt w v xs) (hL : IsLatin n xs) (ha : a < n) (hb : b < n) (hy : x0 < n) (he : qat n xs x0 a = b) :
    Calls Tryd.prog 18 #[.agg #[.int .i64 n, v], .int .i64 a, .int .i64 b] w fun e w' => e = .returned (.tuple #[.int .i64 x0, .int .i64 0]) ∧ Below w.heap.size w w' := by
  have HB1 := Lib.hid (below_box w (.cells #[.int .i64 n, v] 24))
  have HI := Lib.hid ((h.below HB1.out).below (below_box _ (.cells #[.int .i64 a, .int .i64 b] 3)))
  have hf1 : elemFault n xs [(a : Int), (b : Int)] = 0 := elem_ok hL ha hb
  have Hf := Lib.hid hf1
  have HL := Lib.hid hL
  have HE := Lib.hid he
  have hn8 : n ≤ 8 := by have := hL.hi; omega
  clear h he hL hf1
  go_enter Tryd.func18, Tryd.ntmps18
  go_wp2_with fail
  refine (open_any n v _ xs [(a : Int), (b : Int)] _ HI.out (by simpa using intsAt_two (w.alloc (.cells #[.int .i64 n, v] 24)) a b 3)).mono ?_
  rw [Hf.out, tabOf_ok Hf.out]
  rintro e w1 ⟨rfl, hb1⟩
  obtain ⟨W, q1, q2, q3, q4⟩ := run_store_tab (P := Tryd.prog) w1 58 Tryd.zeroCells58 (tfill n xs xs.length) 65 rfl
  have hB : Below w.heap.size w W := (belowTrans HB1.out (belowTrans (below_box _ _) hb1)).trans (q3.mono (belowTrans HB1.out (belowTrans (below_box _ _) hb1)).size)
  have HB := Lib.hid hB
  have Q2 := Lib.hid q2
  clear hB q2 q3
  go_wp2_with fail
  go_loop [10] (fun y => ∃ k : Nat, k ≤ x0 ∧ y = .int .i64 k) (fun y => x0 - (intOf y).toNat)
  case atStart => exact ⟨0, by omega, rfl⟩
  case round =>
    obtain ⟨k, hk, rfl⟩ := hrel
    have hc : W.cell? ⟨w1.heap.size, 1 + k * 8 + a, none⟩ = some (.int .i64 (qat n xs k a)) := by
      rw [Arr.cell Q2.out (show 1 + k * 8 + a < 65 by omega)]
      show some (Value.int .i64 (tfill n xs xs.length (1 + k * 8 + a))) = _
      rw [tab_cell HL.out (by omega) ha]
    have ha8 : ((a : Nat) : Int) < 8 := by omega
    have hk8 : ((k : Nat) : Int) < 8 := by omega
    have ha9 : a < 8 := by omega
    have hk9 : k < 8 := by omega
    by_cases hky : k = x0
    · subst hky
      rw [HE.out] at hc
      go_wp2
      go_ret2
      exact ⟨rfl, HB.out⟩
    · have hne : (qat n xs k a != (b : Int)) = true := by
        rw [bne_iff_ne]
        intro e
        rw [← HE.out] at e
        exact hky (HL.out.col_inj ha (by omega) hy e)
      go_wp2
      go_round
      case rel => exact ⟨k + 1, by omega, by go_num⟩
      case measure => simp [intOf]; omega

set_option maxHeartbeats 1000000 in
theorem right_no (side a b : Int) (v : Value) (xs : List Int) (w : World) (h : IntsAt w v xs) (hf : solveFault side xs a b ≠ 0) :
    Calls Tryd.prog 18 #[.agg #[.int .i64 side, v], .int .i64 a, .int .i64 b] w fun e w' => e = .returned (.tuple #[.int .i64 0, .int .i64 (solveFault side xs a b)]) ∧ Below w.heap.size w w' := by
  have HB1 := Lib.hid (below_box w (.cells #[.int .i64 side, v] 24))
  have HI := Lib.hid ((h.below HB1.out).below (below_box _ (.cells #[.int .i64 a, .int .i64 b] 3)))
  have hf1 : (elemFault side xs [a, b] != 0) = true := by simpa [solveFault] using hf
  have Hf : Hid (solveFault side xs a b = elemFault side xs [a, b]) := rfl
  clear h hf
  go_enter Tryd.func18, Tryd.ntmps18
  go_wp2_with fail
  refine (open_any side v _ xs [a, b] _ HI.out (by simpa using intsAt_two (w.alloc (.cells #[.int .i64 side, v] 24)) a b 3)).mono ?_
  rintro e w1 ⟨rfl, hb1⟩
  obtain ⟨W, q1, q2, q3, q4⟩ := run_store_tab (P := Tryd.prog) w1 58 Tryd.zeroCells58 (tabVal side xs [a, b]) 65 rfl
  unfold tabOf
  go_wp2_with fail
  go_ret2
  exact ⟨ret_tup2 rfl (by rw [Hf.out]; rfl), (belowTrans HB1.out (belowTrans (below_box _ _) hb1)).trans (q3.mono (by have := (belowTrans HB1.out (belowTrans (below_box _ _) hb1)).size; exact this))⟩

end Go.Proofs.YtkmfhnjadpdkeaaDoor
