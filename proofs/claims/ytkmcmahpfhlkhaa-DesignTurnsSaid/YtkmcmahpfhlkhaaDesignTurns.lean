/-
  The walk of DesignTurns. No condition.
-/
import Derived.Test.YtkmcmahpfhlkhaaTurns
namespace Go.Proofs.Ytkmcmahpfhlkhaa
open Go.RowKit

theorem designs_none {u : Value} (w : World) (h : RowsAt w u []) :
    Calls Try.prog 21 #[.agg #[.int .i64 0, u], .agg #[.int .i64 0, .slice none 0 0]] w fun e w' => e = .returned (.bool true) ∧ Below w.heap.size w w' := by
  have := designs_any 0 0 u (.slice none 0 0) [] [] w h (rows_nil w)
  rw [eqL_refl] at this
  exact this
set_option maxRecDepth 100000 in
set_option maxHeartbeats 4000000 in
theorem turns_bad (n : Int) (v : Value) (xss : List (List Int)) (pt bl : Int) (w : World) (h : RowsAt w v xss) (hf : desFault n xss ≠ 0) :
    Calls Try.prog 8 #[.agg #[.int .i64 n, v], .int .i64 pt, .int .i64 bl] w fun e w' => e = .returned (.bool true) ∧ Below w.heap.size w w' := by
  obtain ⟨a0, c0, rfl⟩ := shape_rows h
  have R0 := Lib.hid (h.below (below_box w (.cells #[.int .i64 n, .slice a0 xss.length c0] 24)))
  have A0 : Hid (Arr (w.alloc (.cells #[.int .i64 n, .slice a0 xss.length c0] 24)) w.heap.size 2 (fun j => if j = 0 then Value.int .i64 n else .slice a0 xss.length c0)) := pair_new _ _ _ _ _ rfl
  have F2 : Hid (DesAns 20 n #[] xss 0 [] (desFault n xss)) := fun v w h => comp_bad n v xss w h hf
  have F3 : Hid (DesAns 22 n #[] xss 0 [] (desFault n xss)) := fun v w h => dual_bad n v xss w h hf
  have F4 : Hid (DesAns 23 n #[.int .i64 pt] xss 0 [] (desFault n xss)) := fun v w h => der_bad n pt v xss w h hf
  have F5 : Hid (DesAns 24 n #[.int .i64 bl] xss 0 [] (desFault n xss)) := fun v w h => res_bad n bl v xss w h hf
  have F0 := Lib.hid (desFault_any n _ xss _ R0.out)
  have hne := desNe hf
  clear hf
  generalize desFault n xss = e0 at *
  have B0 := Lib.hid (below_box w (.cells #[.int .i64 n, .slice a0 xss.length c0] 24))
  clear h
  go_enter Try.func8, Try.ntmps8
  go_wp2_with fail
  refine (F0.out).mono ?_
  rintro e w1 ⟨rfl, hb⟩
  have B0 := Lib.hid (belowTrans B0.out hb)
  have R0 := Lib.hid (R0.out.below hb)
  have A0 := Lib.hid (A0.out.below hb)
  have x0 := A0.out.cell (show 0 < 2 by omega); have y0 := A0.out.cell (show 1 < 2 by omega); have l0 := A0.out.lt
  clear hb
  go_wp2_with fail
  refine (F2.out _ _ R0.out).mono ?_
  intro e w2 hp
  obtain ⟨u2, rfl, hr, hb, _⟩ := hp
  obtain ⟨a2, c2, rfl⟩ := shape_rows hr
  have B0 := Lib.hid (belowTrans B0.out hb)
  have R0 := Lib.hid (R0.out.below hb)
  have A0 := Lib.hid (A0.out.below hb)
  clear x0 y0 l0
  have x0 := A0.out.cell (show 0 < 2 by omega); have y0 := A0.out.cell (show 1 < 2 by omega); have l0 := A0.out.lt
  clear hb
  have R2 := Lib.hid hr; clear hr
  have A2 : Hid (Arr (w2.alloc (.cells #[.int .i64 0, .slice a2 0 c2] 24)) w2.heap.size 2 (fun j => if j = 0 then Value.int .i64 0 else .slice a2 0 c2)) := pair_new _ _ _ _ _ rfl
  have B0 := Lib.hid (belowTrans B0.out (below_box w2 (.cells #[.int .i64 0, .slice a2 0 c2] 24)))
  have A0 := Lib.hid (A0.out.alloc (.cells #[.int .i64 0, .slice a2 0 c2] 24))
  have R0 := Lib.hid (R0.out.below (below_box w2 (.cells #[.int .i64 0, .slice a2 0 c2] 24)))
  have R2 := Lib.hid (R2.out.below (below_box w2 (.cells #[.int .i64 0, .slice a2 0 c2] 24)))
  go_wp2_with fail
  refine (F3.out _ _ R0.out).mono ?_
  intro e w3 hp
  obtain ⟨u3, rfl, hr, hb, _⟩ := hp
  obtain ⟨a3, c3, rfl⟩ := shape_rows hr
  have B0 := Lib.hid (belowTrans B0.out hb)
  have R0 := Lib.hid (R0.out.below hb)
  have R2 := Lib.hid (R2.out.below hb)
  have A0 := Lib.hid (A0.out.below hb)
  have A2 := Lib.hid (A2.out.below hb)
  clear x0 y0 l0
  have x0 := A0.out.cell (show 0 < 2 by omega); have y0 := A0.out.cell (show 1 < 2 by omega); have l0 := A0.out.lt
  have x2 := A2.out.cell (show 0 < 2 by omega); have y2 := A2.out.cell (show 1 < 2 by omega); have l2 := A2.out.lt
  clear hb
  have R3 := Lib.hid hr; clear hr
  have A3 : Hid (Arr (w3.alloc (.cells #[.int .i64 0, .slice a3 0 c3] 24)) w3.heap.size 2 (fun j => if j = 0 then Value.int .i64 0 else .slice a3 0 c3)) := pair_new _ _ _ _ _ rfl
  have B0 := Lib.hid (belowTrans B0.out (below_box w3 (.cells #[.int .i64 0, .slice a3 0 c3] 24)))
  have A0 := Lib.hid (A0.out.alloc (.cells #[.int .i64 0, .slice a3 0 c3] 24))
  have A2 := Lib.hid (A2.out.alloc (.cells #[.int .i64 0, .slice a3 0 c3] 24))
  have R0 := Lib.hid (R0.out.below (below_box w3 (.cells #[.int .i64 0, .slice a3 0 c3] 24)))
  have R2 := Lib.hid (R2.out.below (below_box w3 (.cells #[.int .i64 0, .slice a3 0 c3] 24)))
  have R3 := Lib.hid (R3.out.below (below_box w3 (.cells #[.int .i64 0, .slice a3 0 c3] 24)))
  go_wp2_with fail
  refine (F4.out _ _ R0.out).mono ?_
  intro e w4 hp
  obtain ⟨u4, rfl, hr, hb, _⟩ := hp
  obtain ⟨a4, c4, rfl⟩ := shape_rows hr
  have B0 := Lib.hid (belowTrans B0.out hb)
  have R0 := Lib.hid (R0.out.below hb)
  have R2 := Lib.hid (R2.out.below hb)
  have R3 := Lib.hid (R3.out.below hb)
  have A0 := Lib.hid (A0.out.below hb)
  have A2 := Lib.hid (A2.out.below hb)
  have A3 := Lib.hid (A3.out.below hb)
  clear x0 y0 l0 x2 y2 l2
  have x0 := A0.out.cell (show 0 < 2 by omega); have y0 := A0.out.cell (show 1 < 2 by omega); have l0 := A0.out.lt
  have x2 := A2.out.cell (show 0 < 2 by omega); have y2 := A2.out.cell (show 1 < 2 by omega); have l2 := A2.out.lt
  have x3 := A3.out.cell (show 0 < 2 by omega); have y3 := A3.out.cell (show 1 < 2 by omega); have l3 := A3.out.lt
  clear hb
  have R4 := Lib.hid hr; clear hr
  have A4 : Hid (Arr (w4.alloc (.cells #[.int .i64 0, .slice a4 0 c4] 24)) w4.heap.size 2 (fun j => if j = 0 then Value.int .i64 0 else .slice a4 0 c4)) := pair_new _ _ _ _ _ rfl
  have B0 := Lib.hid (belowTrans B0.out (below_box w4 (.cells #[.int .i64 0, .slice a4 0 c4] 24)))
  have A0 := Lib.hid (A0.out.alloc (.cells #[.int .i64 0, .slice a4 0 c4] 24))
  have A2 := Lib.hid (A2.out.alloc (.cells #[.int .i64 0, .slice a4 0 c4] 24))
  have A3 := Lib.hid (A3.out.alloc (.cells #[.int .i64 0, .slice a4 0 c4] 24))
  have R0 := Lib.hid (R0.out.below (below_box w4 (.cells #[.int .i64 0, .slice a4 0 c4] 24)))
  have R2 := Lib.hid (R2.out.below (below_box w4 (.cells #[.int .i64 0, .slice a4 0 c4] 24)))
  have R3 := Lib.hid (R3.out.below (below_box w4 (.cells #[.int .i64 0, .slice a4 0 c4] 24)))
  have R4 := Lib.hid (R4.out.below (below_box w4 (.cells #[.int .i64 0, .slice a4 0 c4] 24)))
  go_wp2_with fail
  refine (F5.out _ _ R0.out).mono ?_
  intro e w5 hp
  obtain ⟨u5, rfl, hr, hb, _⟩ := hp
  obtain ⟨a5, c5, rfl⟩ := shape_rows hr
  have B0 := Lib.hid (belowTrans B0.out hb)
  have R0 := Lib.hid (R0.out.below hb)
  have R2 := Lib.hid (R2.out.below hb)
  have R3 := Lib.hid (R3.out.below hb)
  have R4 := Lib.hid (R4.out.below hb)
  have A0 := Lib.hid (A0.out.below hb)
  have A2 := Lib.hid (A2.out.below hb)
  have A3 := Lib.hid (A3.out.below hb)
  have A4 := Lib.hid (A4.out.below hb)
  clear x0 y0 l0 x2 y2 l2 x3 y3 l3
  have x0 := A0.out.cell (show 0 < 2 by omega); have y0 := A0.out.cell (show 1 < 2 by omega); have l0 := A0.out.lt
  have x2 := A2.out.cell (show 0 < 2 by omega); have y2 := A2.out.cell (show 1 < 2 by omega); have l2 := A2.out.lt
  have x3 := A3.out.cell (show 0 < 2 by omega); have y3 := A3.out.cell (show 1 < 2 by omega); have l3 := A3.out.lt
  have x4 := A4.out.cell (show 0 < 2 by omega); have y4 := A4.out.cell (show 1 < 2 by omega); have l4 := A4.out.lt
  clear hb
  have R5 := Lib.hid hr; clear hr
  have A5 : Hid (Arr (w5.alloc (.cells #[.int .i64 0, .slice a5 0 c5] 24)) w5.heap.size 2 (fun j => if j = 0 then Value.int .i64 0 else .slice a5 0 c5)) := pair_new _ _ _ _ _ rfl
  have B0 := Lib.hid (belowTrans B0.out (below_box w5 (.cells #[.int .i64 0, .slice a5 0 c5] 24)))
  have A0 := Lib.hid (A0.out.alloc (.cells #[.int .i64 0, .slice a5 0 c5] 24))
  have A2 := Lib.hid (A2.out.alloc (.cells #[.int .i64 0, .slice a5 0 c5] 24))
  have A3 := Lib.hid (A3.out.alloc (.cells #[.int .i64 0, .slice a5 0 c5] 24))
  have A4 := Lib.hid (A4.out.alloc (.cells #[.int .i64 0, .slice a5 0 c5] 24))
  have R0 := Lib.hid (R0.out.below (below_box w5 (.cells #[.int .i64 0, .slice a5 0 c5] 24)))
  have R2 := Lib.hid (R2.out.below (below_box w5 (.cells #[.int .i64 0, .slice a5 0 c5] 24)))
  have R3 := Lib.hid (R3.out.below (below_box w5 (.cells #[.int .i64 0, .slice a5 0 c5] 24)))
  have R4 := Lib.hid (R4.out.below (below_box w5 (.cells #[.int .i64 0, .slice a5 0 c5] 24)))
  have R5 := Lib.hid (R5.out.below (below_box w5 (.cells #[.int .i64 0, .slice a5 0 c5] 24)))
  go_wp2_with fail
  have A6 : Hid (Arr ((w5.alloc (.cells #[.int .i64 0, .slice a5 0 c5] 24)).alloc (.cells #[.int .i64 0, .slice none 0 0] 24)) (w5.heap.size + 1) 2 (fun j => if j = 0 then Value.int .i64 0 else .slice none 0 0)) := pair_new _ _ _ _ _ (by simp)
  have B0 := Lib.hid (belowTrans B0.out (below_box (w5.alloc (.cells #[.int .i64 0, .slice a5 0 c5] 24)) (.cells #[.int .i64 0, .slice none 0 0] 24)))
  have A0 := Lib.hid (A0.out.alloc (.cells #[.int .i64 0, .slice none 0 0] 24))
  have A2 := Lib.hid (A2.out.alloc (.cells #[.int .i64 0, .slice none 0 0] 24))
  have A3 := Lib.hid (A3.out.alloc (.cells #[.int .i64 0, .slice none 0 0] 24))
  have A4 := Lib.hid (A4.out.alloc (.cells #[.int .i64 0, .slice none 0 0] 24))
  have A5 := Lib.hid (A5.out.alloc (.cells #[.int .i64 0, .slice none 0 0] 24))
  have R0 := Lib.hid (R0.out.below (below_box (w5.alloc (.cells #[.int .i64 0, .slice a5 0 c5] 24)) (.cells #[.int .i64 0, .slice none 0 0] 24)))
  have R2 := Lib.hid (R2.out.below (below_box (w5.alloc (.cells #[.int .i64 0, .slice a5 0 c5] 24)) (.cells #[.int .i64 0, .slice none 0 0] 24)))
  have R3 := Lib.hid (R3.out.below (below_box (w5.alloc (.cells #[.int .i64 0, .slice a5 0 c5] 24)) (.cells #[.int .i64 0, .slice none 0 0] 24)))
  have R4 := Lib.hid (R4.out.below (below_box (w5.alloc (.cells #[.int .i64 0, .slice a5 0 c5] 24)) (.cells #[.int .i64 0, .slice none 0 0] 24)))
  have R5 := Lib.hid (R5.out.below (below_box (w5.alloc (.cells #[.int .i64 0, .slice a5 0 c5] 24)) (.cells #[.int .i64 0, .slice none 0 0] 24)))
  refine (designs_none _ R2.out).mono ?_
  rintro e v2 ⟨rfl, hb⟩
  have B0 := Lib.hid (belowTrans B0.out hb)
  have R0 := Lib.hid (R0.out.below hb)
  have R2 := Lib.hid (R2.out.below hb)
  have R3 := Lib.hid (R3.out.below hb)
  have R4 := Lib.hid (R4.out.below hb)
  have R5 := Lib.hid (R5.out.below hb)
  have A0 := Lib.hid (A0.out.below hb)
  have A2 := Lib.hid (A2.out.below hb)
  have A3 := Lib.hid (A3.out.below hb)
  have A4 := Lib.hid (A4.out.below hb)
  have A5 := Lib.hid (A5.out.below hb)
  have A6 := Lib.hid (A6.out.below hb)
  clear x0 y0 l0 x2 y2 l2 x3 y3 l3 x4 y4 l4
  have x0 := A0.out.cell (show 0 < 2 by omega); have y0 := A0.out.cell (show 1 < 2 by omega); have l0 := A0.out.lt
  have x2 := A2.out.cell (show 0 < 2 by omega); have y2 := A2.out.cell (show 1 < 2 by omega); have l2 := A2.out.lt
  have x3 := A3.out.cell (show 0 < 2 by omega); have y3 := A3.out.cell (show 1 < 2 by omega); have l3 := A3.out.lt
  have x4 := A4.out.cell (show 0 < 2 by omega); have y4 := A4.out.cell (show 1 < 2 by omega); have l4 := A4.out.lt
  have x5 := A5.out.cell (show 0 < 2 by omega); have y5 := A5.out.cell (show 1 < 2 by omega); have l5 := A5.out.lt
  have x6 := A6.out.cell (show 0 < 2 by omega); have y6 := A6.out.cell (show 1 < 2 by omega); have l6 := A6.out.lt
  clear hb
  go_wp2_with fail
  refine (designs_none _ R3.out).mono ?_
  rintro e v3 ⟨rfl, hb⟩
  have B0 := Lib.hid (belowTrans B0.out hb)
  have R0 := Lib.hid (R0.out.below hb)
  have R2 := Lib.hid (R2.out.below hb)
  have R3 := Lib.hid (R3.out.below hb)
  have R4 := Lib.hid (R4.out.below hb)
  have R5 := Lib.hid (R5.out.below hb)
  have A0 := Lib.hid (A0.out.below hb)
  have A2 := Lib.hid (A2.out.below hb)
  have A3 := Lib.hid (A3.out.below hb)
  have A4 := Lib.hid (A4.out.below hb)
  have A5 := Lib.hid (A5.out.below hb)
  have A6 := Lib.hid (A6.out.below hb)
  clear x0 y0 l0 x2 y2 l2 x3 y3 l3 x4 y4 l4 x5 y5 l5 x6 y6 l6
  have x0 := A0.out.cell (show 0 < 2 by omega); have y0 := A0.out.cell (show 1 < 2 by omega); have l0 := A0.out.lt
  have x2 := A2.out.cell (show 0 < 2 by omega); have y2 := A2.out.cell (show 1 < 2 by omega); have l2 := A2.out.lt
  have x3 := A3.out.cell (show 0 < 2 by omega); have y3 := A3.out.cell (show 1 < 2 by omega); have l3 := A3.out.lt
  have x4 := A4.out.cell (show 0 < 2 by omega); have y4 := A4.out.cell (show 1 < 2 by omega); have l4 := A4.out.lt
  have x5 := A5.out.cell (show 0 < 2 by omega); have y5 := A5.out.cell (show 1 < 2 by omega); have l5 := A5.out.lt
  have x6 := A6.out.cell (show 0 < 2 by omega); have y6 := A6.out.cell (show 1 < 2 by omega); have l6 := A6.out.lt
  clear hb
  go_wp2_with fail
  refine (designs_none _ R4.out).mono ?_
  rintro e v4 ⟨rfl, hb⟩
  have B0 := Lib.hid (belowTrans B0.out hb)
  have R0 := Lib.hid (R0.out.below hb)
  have R2 := Lib.hid (R2.out.below hb)
  have R3 := Lib.hid (R3.out.below hb)
  have R4 := Lib.hid (R4.out.below hb)
  have R5 := Lib.hid (R5.out.below hb)
  have A0 := Lib.hid (A0.out.below hb)
  have A2 := Lib.hid (A2.out.below hb)
  have A3 := Lib.hid (A3.out.below hb)
  have A4 := Lib.hid (A4.out.below hb)
  have A5 := Lib.hid (A5.out.below hb)
  have A6 := Lib.hid (A6.out.below hb)
  clear x0 y0 l0 x2 y2 l2 x3 y3 l3 x4 y4 l4 x5 y5 l5 x6 y6 l6
  have x0 := A0.out.cell (show 0 < 2 by omega); have y0 := A0.out.cell (show 1 < 2 by omega); have l0 := A0.out.lt
  have x2 := A2.out.cell (show 0 < 2 by omega); have y2 := A2.out.cell (show 1 < 2 by omega); have l2 := A2.out.lt
  have x3 := A3.out.cell (show 0 < 2 by omega); have y3 := A3.out.cell (show 1 < 2 by omega); have l3 := A3.out.lt
  have x4 := A4.out.cell (show 0 < 2 by omega); have y4 := A4.out.cell (show 1 < 2 by omega); have l4 := A4.out.lt
  have x5 := A5.out.cell (show 0 < 2 by omega); have y5 := A5.out.cell (show 1 < 2 by omega); have l5 := A5.out.lt
  have x6 := A6.out.cell (show 0 < 2 by omega); have y6 := A6.out.cell (show 1 < 2 by omega); have l6 := A6.out.lt
  clear hb
  go_wp2_with fail
  refine (designs_none _ R5.out).mono ?_
  rintro e v5 ⟨rfl, hb⟩
  have B0 := Lib.hid (belowTrans B0.out hb)
  have R0 := Lib.hid (R0.out.below hb)
  have R2 := Lib.hid (R2.out.below hb)
  have R3 := Lib.hid (R3.out.below hb)
  have R4 := Lib.hid (R4.out.below hb)
  have R5 := Lib.hid (R5.out.below hb)
  have A0 := Lib.hid (A0.out.below hb)
  have A2 := Lib.hid (A2.out.below hb)
  have A3 := Lib.hid (A3.out.below hb)
  have A4 := Lib.hid (A4.out.below hb)
  have A5 := Lib.hid (A5.out.below hb)
  have A6 := Lib.hid (A6.out.below hb)
  clear x0 y0 l0 x2 y2 l2 x3 y3 l3 x4 y4 l4 x5 y5 l5 x6 y6 l6
  have x0 := A0.out.cell (show 0 < 2 by omega); have y0 := A0.out.cell (show 1 < 2 by omega); have l0 := A0.out.lt
  have x2 := A2.out.cell (show 0 < 2 by omega); have y2 := A2.out.cell (show 1 < 2 by omega); have l2 := A2.out.lt
  have x3 := A3.out.cell (show 0 < 2 by omega); have y3 := A3.out.cell (show 1 < 2 by omega); have l3 := A3.out.lt
  have x4 := A4.out.cell (show 0 < 2 by omega); have y4 := A4.out.cell (show 1 < 2 by omega); have l4 := A4.out.lt
  have x5 := A5.out.cell (show 0 < 2 by omega); have y5 := A5.out.cell (show 1 < 2 by omega); have l5 := A5.out.lt
  have x6 := A6.out.cell (show 0 < 2 by omega); have y6 := A6.out.cell (show 1 < 2 by omega); have l6 := A6.out.lt
  clear hb
  go_wp2_with fail
  go_ret
  exact ⟨ret_bool (by simp), B0.out⟩
theorem designs_same {u u' : Value} {p : Int} {Y : List (List Int)} (w : World) (h : RowsAt w u Y) (g : RowsAt w u' Y) :
    Calls Try.prog 21 #[.agg #[.int .i64 p, u], .agg #[.int .i64 p, u']] w fun e w' => e = .returned (.bool true) ∧ Below w.heap.size w w' := by
  have := designs_any p p u u' Y Y w h g
  rw [eqL_refl, beq_self_eq_true] at this
  exact this
set_option maxRecDepth 100000 in
set_option maxHeartbeats 4000000 in
theorem turns_ok (n : Int) (v : Value) (xss : List (List Int)) (pt bl : Int) (w : World) (h : RowsAt w v xss) (hD : Hid (IsDes n xss)) (p2 p3 p4 p5 e3 e4 e5 : Int) (Y2 Y3 Y4 Y5 : List (List Int)) (F2 : Hid (DesAns 20 n #[] xss p2 Y2 0)) (G2 : Hid (∀ (v : Value) (w : World), RowsAt w v xss → Calls Try.prog 25 #[.agg #[.int .i64 n, v]] w (DesPost p2 Y2 w))) (G3 : Hid (DesAns 26 n #[] xss p3 Y3 e3)) (G4 : Hid (DesAns 27 n #[.int .i64 pt] xss p4 Y4 e4)) (G5 : Hid (DesAns 28 n #[.int .i64 bl] xss p5 Y5 e5)) (F3 : Hid (DesAns 22 n #[] xss p3 Y3 e3)) (F4 : Hid (DesAns 23 n #[.int .i64 pt] xss p4 Y4 e4)) (F5 : Hid (DesAns 24 n #[.int .i64 bl] xss p5 Y5 e5)) :
    Calls Try.prog 8 #[.agg #[.int .i64 n, v], .int .i64 pt, .int .i64 bl] w fun e w' => e = .returned (.bool true) ∧ Below w.heap.size w w' := by
  obtain ⟨a0, c0, rfl⟩ := shape_rows h
  have R0 := Lib.hid (h.below (below_box w (.cells #[.int .i64 n, .slice a0 xss.length c0] 24)))
  have A0 : Hid (Arr (w.alloc (.cells #[.int .i64 n, .slice a0 xss.length c0] 24)) w.heap.size 2 (fun j => if j = 0 then Value.int .i64 n else .slice a0 xss.length c0)) := pair_new _ _ _ _ _ rfl
  have B0 := Lib.hid (below_box w (.cells #[.int .i64 n, .slice a0 xss.length c0] 24))
  clear h
  go_enter Try.func8, Try.ntmps8
  go_wp2_with fail
  refine (desFault_any n _ xss _ R0.out).mono ?_
  rintro e w1 ⟨rfl, hb⟩
  rw [hD.out.fault]
  have B0 := Lib.hid (belowTrans B0.out hb)
  have R0 := Lib.hid (R0.out.below hb)
  have A0 := Lib.hid (A0.out.below hb)
  have x0 := A0.out.cell (show 0 < 2 by omega); have y0 := A0.out.cell (show 1 < 2 by omega); have l0 := A0.out.lt
  clear hb
  go_wp2_with fail
  refine (F2.out _ _ R0.out).mono ?_
  intro e w2 hp
  obtain ⟨u2, rfl, hr, hb, _⟩ := hp
  obtain ⟨a2, c2, rfl⟩ := shape_rows hr
  have B0 := Lib.hid (belowTrans B0.out hb)
  have R0 := Lib.hid (R0.out.below hb)
  have A0 := Lib.hid (A0.out.below hb)
  clear x0 y0 l0
  have x0 := A0.out.cell (show 0 < 2 by omega); have y0 := A0.out.cell (show 1 < 2 by omega); have l0 := A0.out.lt
  clear hb
  have R2 := Lib.hid hr; clear hr
  have A2 : Hid (Arr (w2.alloc (.cells #[.int .i64 p2, .slice a2 Y2.length c2] 24)) w2.heap.size 2 (fun j => if j = 0 then Value.int .i64 p2 else .slice a2 Y2.length c2)) := pair_new _ _ _ _ _ rfl
  have B0 := Lib.hid (belowTrans B0.out (below_box w2 (.cells #[.int .i64 p2, .slice a2 Y2.length c2] 24)))
  have A0 := Lib.hid (A0.out.alloc (.cells #[.int .i64 p2, .slice a2 Y2.length c2] 24))
  have R0 := Lib.hid (R0.out.below (below_box w2 (.cells #[.int .i64 p2, .slice a2 Y2.length c2] 24)))
  have R2 := Lib.hid (R2.out.below (below_box w2 (.cells #[.int .i64 p2, .slice a2 Y2.length c2] 24)))
  go_wp2_with fail
  refine (F3.out _ _ R0.out).mono ?_
  intro e w3 hp
  obtain ⟨u3, rfl, hr, hb, _⟩ := hp
  obtain ⟨a3, c3, rfl⟩ := shape_rows hr
  have B0 := Lib.hid (belowTrans B0.out hb)
  have R0 := Lib.hid (R0.out.below hb)
  have R2 := Lib.hid (R2.out.below hb)
  have A0 := Lib.hid (A0.out.below hb)
  have A2 := Lib.hid (A2.out.below hb)
  clear x0 y0 l0
  have x0 := A0.out.cell (show 0 < 2 by omega); have y0 := A0.out.cell (show 1 < 2 by omega); have l0 := A0.out.lt
  have x2 := A2.out.cell (show 0 < 2 by omega); have y2 := A2.out.cell (show 1 < 2 by omega); have l2 := A2.out.lt
  clear hb
  have R3 := Lib.hid hr; clear hr
  have A3 : Hid (Arr (w3.alloc (.cells #[.int .i64 p3, .slice a3 Y3.length c3] 24)) w3.heap.size 2 (fun j => if j = 0 then Value.int .i64 p3 else .slice a3 Y3.length c3)) := pair_new _ _ _ _ _ rfl
  have B0 := Lib.hid (belowTrans B0.out (below_box w3 (.cells #[.int .i64 p3, .slice a3 Y3.length c3] 24)))
  have A0 := Lib.hid (A0.out.alloc (.cells #[.int .i64 p3, .slice a3 Y3.length c3] 24))
  have A2 := Lib.hid (A2.out.alloc (.cells #[.int .i64 p3, .slice a3 Y3.length c3] 24))
  have R0 := Lib.hid (R0.out.below (below_box w3 (.cells #[.int .i64 p3, .slice a3 Y3.length c3] 24)))
  have R2 := Lib.hid (R2.out.below (below_box w3 (.cells #[.int .i64 p3, .slice a3 Y3.length c3] 24)))
  have R3 := Lib.hid (R3.out.below (below_box w3 (.cells #[.int .i64 p3, .slice a3 Y3.length c3] 24)))
  go_wp2_with fail
  refine (F4.out _ _ R0.out).mono ?_
  intro e w4 hp
  obtain ⟨u4, rfl, hr, hb, _⟩ := hp
  obtain ⟨a4, c4, rfl⟩ := shape_rows hr
  have B0 := Lib.hid (belowTrans B0.out hb)
  have R0 := Lib.hid (R0.out.below hb)
  have R2 := Lib.hid (R2.out.below hb)
  have R3 := Lib.hid (R3.out.below hb)
  have A0 := Lib.hid (A0.out.below hb)
  have A2 := Lib.hid (A2.out.below hb)
  have A3 := Lib.hid (A3.out.below hb)
  clear x0 y0 l0 x2 y2 l2
  have x0 := A0.out.cell (show 0 < 2 by omega); have y0 := A0.out.cell (show 1 < 2 by omega); have l0 := A0.out.lt
  have x2 := A2.out.cell (show 0 < 2 by omega); have y2 := A2.out.cell (show 1 < 2 by omega); have l2 := A2.out.lt
  have x3 := A3.out.cell (show 0 < 2 by omega); have y3 := A3.out.cell (show 1 < 2 by omega); have l3 := A3.out.lt
  clear hb
  have R4 := Lib.hid hr; clear hr
  have A4 : Hid (Arr (w4.alloc (.cells #[.int .i64 p4, .slice a4 Y4.length c4] 24)) w4.heap.size 2 (fun j => if j = 0 then Value.int .i64 p4 else .slice a4 Y4.length c4)) := pair_new _ _ _ _ _ rfl
  have B0 := Lib.hid (belowTrans B0.out (below_box w4 (.cells #[.int .i64 p4, .slice a4 Y4.length c4] 24)))
  have A0 := Lib.hid (A0.out.alloc (.cells #[.int .i64 p4, .slice a4 Y4.length c4] 24))
  have A2 := Lib.hid (A2.out.alloc (.cells #[.int .i64 p4, .slice a4 Y4.length c4] 24))
  have A3 := Lib.hid (A3.out.alloc (.cells #[.int .i64 p4, .slice a4 Y4.length c4] 24))
  have R0 := Lib.hid (R0.out.below (below_box w4 (.cells #[.int .i64 p4, .slice a4 Y4.length c4] 24)))
  have R2 := Lib.hid (R2.out.below (below_box w4 (.cells #[.int .i64 p4, .slice a4 Y4.length c4] 24)))
  have R3 := Lib.hid (R3.out.below (below_box w4 (.cells #[.int .i64 p4, .slice a4 Y4.length c4] 24)))
  have R4 := Lib.hid (R4.out.below (below_box w4 (.cells #[.int .i64 p4, .slice a4 Y4.length c4] 24)))
  go_wp2_with fail
  refine (F5.out _ _ R0.out).mono ?_
  intro e w5 hp
  obtain ⟨u5, rfl, hr, hb, _⟩ := hp
  obtain ⟨a5, c5, rfl⟩ := shape_rows hr
  have B0 := Lib.hid (belowTrans B0.out hb)
  have R0 := Lib.hid (R0.out.below hb)
  have R2 := Lib.hid (R2.out.below hb)
  have R3 := Lib.hid (R3.out.below hb)
  have R4 := Lib.hid (R4.out.below hb)
  have A0 := Lib.hid (A0.out.below hb)
  have A2 := Lib.hid (A2.out.below hb)
  have A3 := Lib.hid (A3.out.below hb)
  have A4 := Lib.hid (A4.out.below hb)
  clear x0 y0 l0 x2 y2 l2 x3 y3 l3
  have x0 := A0.out.cell (show 0 < 2 by omega); have y0 := A0.out.cell (show 1 < 2 by omega); have l0 := A0.out.lt
  have x2 := A2.out.cell (show 0 < 2 by omega); have y2 := A2.out.cell (show 1 < 2 by omega); have l2 := A2.out.lt
  have x3 := A3.out.cell (show 0 < 2 by omega); have y3 := A3.out.cell (show 1 < 2 by omega); have l3 := A3.out.lt
  have x4 := A4.out.cell (show 0 < 2 by omega); have y4 := A4.out.cell (show 1 < 2 by omega); have l4 := A4.out.lt
  clear hb
  have R5 := Lib.hid hr; clear hr
  have A5 : Hid (Arr (w5.alloc (.cells #[.int .i64 p5, .slice a5 Y5.length c5] 24)) w5.heap.size 2 (fun j => if j = 0 then Value.int .i64 p5 else .slice a5 Y5.length c5)) := pair_new _ _ _ _ _ rfl
  have B0 := Lib.hid (belowTrans B0.out (below_box w5 (.cells #[.int .i64 p5, .slice a5 Y5.length c5] 24)))
  have A0 := Lib.hid (A0.out.alloc (.cells #[.int .i64 p5, .slice a5 Y5.length c5] 24))
  have A2 := Lib.hid (A2.out.alloc (.cells #[.int .i64 p5, .slice a5 Y5.length c5] 24))
  have A3 := Lib.hid (A3.out.alloc (.cells #[.int .i64 p5, .slice a5 Y5.length c5] 24))
  have A4 := Lib.hid (A4.out.alloc (.cells #[.int .i64 p5, .slice a5 Y5.length c5] 24))
  have R0 := Lib.hid (R0.out.below (below_box w5 (.cells #[.int .i64 p5, .slice a5 Y5.length c5] 24)))
  have R2 := Lib.hid (R2.out.below (below_box w5 (.cells #[.int .i64 p5, .slice a5 Y5.length c5] 24)))
  have R3 := Lib.hid (R3.out.below (below_box w5 (.cells #[.int .i64 p5, .slice a5 Y5.length c5] 24)))
  have R4 := Lib.hid (R4.out.below (below_box w5 (.cells #[.int .i64 p5, .slice a5 Y5.length c5] 24)))
  have R5 := Lib.hid (R5.out.below (below_box w5 (.cells #[.int .i64 p5, .slice a5 Y5.length c5] 24)))
  go_wp2_with fail
  refine (G2.out _ _ R0.out).mono ?_
  intro e w6 hp
  obtain ⟨u6, rfl, hr, hb⟩ := hp
  obtain ⟨a6, c6, rfl⟩ := shape_rows hr
  have B0 := Lib.hid (belowTrans B0.out hb)
  have R0 := Lib.hid (R0.out.below hb)
  have R2 := Lib.hid (R2.out.below hb)
  have R3 := Lib.hid (R3.out.below hb)
  have R4 := Lib.hid (R4.out.below hb)
  have R5 := Lib.hid (R5.out.below hb)
  have A0 := Lib.hid (A0.out.below hb)
  have A2 := Lib.hid (A2.out.below hb)
  have A3 := Lib.hid (A3.out.below hb)
  have A4 := Lib.hid (A4.out.below hb)
  have A5 := Lib.hid (A5.out.below hb)
  clear x0 y0 l0 x2 y2 l2 x3 y3 l3 x4 y4 l4
  have x0 := A0.out.cell (show 0 < 2 by omega); have y0 := A0.out.cell (show 1 < 2 by omega); have l0 := A0.out.lt
  have x2 := A2.out.cell (show 0 < 2 by omega); have y2 := A2.out.cell (show 1 < 2 by omega); have l2 := A2.out.lt
  have x3 := A3.out.cell (show 0 < 2 by omega); have y3 := A3.out.cell (show 1 < 2 by omega); have l3 := A3.out.lt
  have x4 := A4.out.cell (show 0 < 2 by omega); have y4 := A4.out.cell (show 1 < 2 by omega); have l4 := A4.out.lt
  have x5 := A5.out.cell (show 0 < 2 by omega); have y5 := A5.out.cell (show 1 < 2 by omega); have l5 := A5.out.lt
  clear hb
  have R6 := Lib.hid hr; clear hr
  have m0 : w.heap.size < w6.heap.size := A0.out.lt
  have m2 : w2.heap.size < w6.heap.size := A2.out.lt
  have m3 : w3.heap.size < w6.heap.size := A3.out.lt
  have m4 : w4.heap.size < w6.heap.size := A4.out.lt
  have m5 : w5.heap.size < w6.heap.size := A5.out.lt
  have S0 := Lib.hid R0.out
  have S2 := Lib.hid R2.out
  have S3 := Lib.hid R3.out
  have S4 := Lib.hid R4.out
  have S5 := Lib.hid R5.out
  have T6 := Lib.hid (Below.refl w6.heap.size w6)
  have A6 : Hid (Arr (w6.alloc (.cells #[.int .i64 p2, .slice a6 Y2.length c6] 24)) w6.heap.size 2 (fun j => if j = 0 then Value.int .i64 p2 else .slice a6 Y2.length c6)) := pair_new _ _ _ _ _ rfl
  have B0 := Lib.hid (belowTrans B0.out (below_box w6 (.cells #[.int .i64 p2, .slice a6 Y2.length c6] 24)))
  have A0 := Lib.hid (A0.out.alloc (.cells #[.int .i64 p2, .slice a6 Y2.length c6] 24))
  have A2 := Lib.hid (A2.out.alloc (.cells #[.int .i64 p2, .slice a6 Y2.length c6] 24))
  have A3 := Lib.hid (A3.out.alloc (.cells #[.int .i64 p2, .slice a6 Y2.length c6] 24))
  have A4 := Lib.hid (A4.out.alloc (.cells #[.int .i64 p2, .slice a6 Y2.length c6] 24))
  have A5 := Lib.hid (A5.out.alloc (.cells #[.int .i64 p2, .slice a6 Y2.length c6] 24))
  have R0 := Lib.hid (R0.out.below (below_box w6 (.cells #[.int .i64 p2, .slice a6 Y2.length c6] 24)))
  have R2 := Lib.hid (R2.out.below (below_box w6 (.cells #[.int .i64 p2, .slice a6 Y2.length c6] 24)))
  have R3 := Lib.hid (R3.out.below (below_box w6 (.cells #[.int .i64 p2, .slice a6 Y2.length c6] 24)))
  have R4 := Lib.hid (R4.out.below (below_box w6 (.cells #[.int .i64 p2, .slice a6 Y2.length c6] 24)))
  have R5 := Lib.hid (R5.out.below (below_box w6 (.cells #[.int .i64 p2, .slice a6 Y2.length c6] 24)))
  have R6 := Lib.hid (R6.out.below (below_box w6 (.cells #[.int .i64 p2, .slice a6 Y2.length c6] 24)))
  have T6 := Lib.hid (below_box w6 (.cells #[.int .i64 p2, .slice a6 Y2.length c6] 24))
  go_wp2_with fail
  refine (designs_same _ R2.out R6.out).mono ?_
  rintro e w7 ⟨rfl, hb⟩
  have T6 := Lib.hid (T6.out.trans (hb.mono T6.out.size))
  have B0 := Lib.hid (belowTrans B0.out hb)
  have R0 := Lib.hid (R0.out.below hb)
  have R2 := Lib.hid (R2.out.below hb)
  have R3 := Lib.hid (R3.out.below hb)
  have R4 := Lib.hid (R4.out.below hb)
  have R5 := Lib.hid (R5.out.below hb)
  have R6 := Lib.hid (R6.out.below hb)
  have A0 := Lib.hid (A0.out.below hb)
  have A2 := Lib.hid (A2.out.below hb)
  have A3 := Lib.hid (A3.out.below hb)
  have A4 := Lib.hid (A4.out.below hb)
  have A5 := Lib.hid (A5.out.below hb)
  have A6 := Lib.hid (A6.out.below hb)
  clear x0 y0 l0 x2 y2 l2 x3 y3 l3 x4 y4 l4 x5 y5 l5
  have x0 := A0.out.cell (show 0 < 2 by omega); have y0 := A0.out.cell (show 1 < 2 by omega); have l0 := A0.out.lt
  have x2 := A2.out.cell (show 0 < 2 by omega); have y2 := A2.out.cell (show 1 < 2 by omega); have l2 := A2.out.lt
  have x3 := A3.out.cell (show 0 < 2 by omega); have y3 := A3.out.cell (show 1 < 2 by omega); have l3 := A3.out.lt
  have x4 := A4.out.cell (show 0 < 2 by omega); have y4 := A4.out.cell (show 1 < 2 by omega); have l4 := A4.out.lt
  have x5 := A5.out.cell (show 0 < 2 by omega); have y5 := A5.out.cell (show 1 < 2 by omega); have l5 := A5.out.lt
  have x6 := A6.out.cell (show 0 < 2 by omega); have y6 := A6.out.cell (show 1 < 2 by omega); have l6 := A6.out.lt
  clear hb
  go_wp2_with fail
  refine (G3.out _ _ R0.out).mono ?_
  intro e w8 hp
  obtain ⟨u8, rfl, hr, hb, hk⟩ := hp
  obtain ⟨a8, c8, rfl⟩ := shape_rows hr
  have T6 := Lib.hid (T6.out.trans (hb.mono T6.out.size))
  have HK := Lib.hid hk; clear hk hr
  have k6 := A6.out.lt
  have B0 := Lib.hid (belowTrans B0.out hb)
  have R0 := Lib.hid (R0.out.below hb)
  have R2 := Lib.hid (R2.out.below hb)
  have R3 := Lib.hid (R3.out.below hb)
  have R4 := Lib.hid (R4.out.below hb)
  have R5 := Lib.hid (R5.out.below hb)
  have R6 := Lib.hid (R6.out.below hb)
  have A0 := Lib.hid (A0.out.below hb)
  have A2 := Lib.hid (A2.out.below hb)
  have A3 := Lib.hid (A3.out.below hb)
  have A4 := Lib.hid (A4.out.below hb)
  have A5 := Lib.hid (A5.out.below hb)
  have A6 := Lib.hid (A6.out.below hb)
  clear x0 y0 l0 x2 y2 l2 x3 y3 l3 x4 y4 l4 x5 y5 l5 x6 y6 l6
  have x0 := A0.out.cell (show 0 < 2 by omega); have y0 := A0.out.cell (show 1 < 2 by omega); have l0 := A0.out.lt
  have x2 := A2.out.cell (show 0 < 2 by omega); have y2 := A2.out.cell (show 1 < 2 by omega); have l2 := A2.out.lt
  have x3 := A3.out.cell (show 0 < 2 by omega); have y3 := A3.out.cell (show 1 < 2 by omega); have l3 := A3.out.lt
  have x4 := A4.out.cell (show 0 < 2 by omega); have y4 := A4.out.cell (show 1 < 2 by omega); have l4 := A4.out.lt
  have x5 := A5.out.cell (show 0 < 2 by omega); have y5 := A5.out.cell (show 1 < 2 by omega); have l5 := A5.out.lt
  have x6 := A6.out.cell (show 0 < 2 by omega); have y6 := A6.out.cell (show 1 < 2 by omega); have l6 := A6.out.lt
  clear hb
  have z0 := A6.out.free (show 0 < 2 by omega); have z1 := A6.out.free (show 1 < 2 by omega)
  go_wp2_with fail
  have T6 := Lib.hid ((T6.out.setCell (p := ⟨w6.heap.size, 0, none⟩) (Nat.le_refl _) (.int .i64 p3)).setCell (p := ⟨w6.heap.size, 1, none⟩) (Nat.le_refl _) (.slice a8 Y3.length c8))
  have R6 : Hid (RowsAt ((w8.setCell ⟨w6.heap.size, 0, none⟩ (.int .i64 p3)).setCell ⟨w6.heap.size, 1, none⟩ (.slice a8 Y3.length c8)) (.slice a8 Y3.length c8) Y3) := HK.out _ (fun b o hb => by rw [World.cell?_setCell_other _ _ _ _ (by intro e; have := congrArg Addr.block e; dsimp only at this; omega), World.cell?_setCell_other _ _ _ _ (by intro e; have := congrArg Addr.block e; dsimp only at this; omega)]) (by simp)
  clear HK k6
  have B0 := Lib.hid ((B0.out.setCell (p := ⟨w6.heap.size, 0, none⟩) (by show _ ≤ w6.heap.size; omega) (.int .i64 p3)).setCell (p := ⟨w6.heap.size, 1, none⟩) (by show _ ≤ w6.heap.size; omega) (.slice a8 Y3.length c8))
  have A0 := Lib.hid ((A0.out.setOther (p := ⟨w6.heap.size, 0, none⟩) (by show w6.heap.size ≠ _; omega) (.int .i64 p3)).setOther (p := ⟨w6.heap.size, 1, none⟩) (by show w6.heap.size ≠ _; omega) (.slice a8 Y3.length c8))
  have A2 := Lib.hid ((A2.out.setOther (p := ⟨w6.heap.size, 0, none⟩) (by show w6.heap.size ≠ _; omega) (.int .i64 p3)).setOther (p := ⟨w6.heap.size, 1, none⟩) (by show w6.heap.size ≠ _; omega) (.slice a8 Y3.length c8))
  have A3 := Lib.hid ((A3.out.setOther (p := ⟨w6.heap.size, 0, none⟩) (by show w6.heap.size ≠ _; omega) (.int .i64 p3)).setOther (p := ⟨w6.heap.size, 1, none⟩) (by show w6.heap.size ≠ _; omega) (.slice a8 Y3.length c8))
  have A4 := Lib.hid ((A4.out.setOther (p := ⟨w6.heap.size, 0, none⟩) (by show w6.heap.size ≠ _; omega) (.int .i64 p3)).setOther (p := ⟨w6.heap.size, 1, none⟩) (by show w6.heap.size ≠ _; omega) (.slice a8 Y3.length c8))
  have A5 := Lib.hid ((A5.out.setOther (p := ⟨w6.heap.size, 0, none⟩) (by show w6.heap.size ≠ _; omega) (.int .i64 p3)).setOther (p := ⟨w6.heap.size, 1, none⟩) (by show w6.heap.size ≠ _; omega) (.slice a8 Y3.length c8))
  have A6 : Hid (Arr ((w8.setCell ⟨w6.heap.size, 0, none⟩ (.int .i64 p3)).setCell ⟨w6.heap.size, 1, none⟩ (.slice a8 Y3.length c8)) w6.heap.size 2 (fun j => if j = 0 then Value.int .i64 p3 else .slice a8 Y3.length c8)) := ((A6.out.set (show 0 < 2 by omega) (.int .i64 p3)).set (show 1 < 2 by omega) (.slice a8 Y3.length c8)).congr fun j hj => by (rcases j with _ | _ | j; rfl; rfl; omega)
  have R0 := Lib.hid (S0.out.below T6.out)
  have R2 := Lib.hid (S2.out.below T6.out)
  have R3 := Lib.hid (S3.out.below T6.out)
  have R4 := Lib.hid (S4.out.below T6.out)
  have R5 := Lib.hid (S5.out.below T6.out)
  refine (designs_same _ R3.out R6.out).mono ?_
  rintro e w9 ⟨rfl, hb⟩
  have T6 := Lib.hid (T6.out.trans (hb.mono T6.out.size))
  have B0 := Lib.hid (belowTrans B0.out hb)
  have R0 := Lib.hid (R0.out.below hb)
  have R2 := Lib.hid (R2.out.below hb)
  have R3 := Lib.hid (R3.out.below hb)
  have R4 := Lib.hid (R4.out.below hb)
  have R5 := Lib.hid (R5.out.below hb)
  have R6 := Lib.hid (R6.out.below hb)
  have A0 := Lib.hid (A0.out.below hb)
  have A2 := Lib.hid (A2.out.below hb)
  have A3 := Lib.hid (A3.out.below hb)
  have A4 := Lib.hid (A4.out.below hb)
  have A5 := Lib.hid (A5.out.below hb)
  have A6 := Lib.hid (A6.out.below hb)
  clear x0 y0 l0 x2 y2 l2 x3 y3 l3 x4 y4 l4 x5 y5 l5 x6 y6 l6 z0 z1
  have x0 := A0.out.cell (show 0 < 2 by omega); have y0 := A0.out.cell (show 1 < 2 by omega); have l0 := A0.out.lt
  have x2 := A2.out.cell (show 0 < 2 by omega); have y2 := A2.out.cell (show 1 < 2 by omega); have l2 := A2.out.lt
  have x3 := A3.out.cell (show 0 < 2 by omega); have y3 := A3.out.cell (show 1 < 2 by omega); have l3 := A3.out.lt
  have x4 := A4.out.cell (show 0 < 2 by omega); have y4 := A4.out.cell (show 1 < 2 by omega); have l4 := A4.out.lt
  have x5 := A5.out.cell (show 0 < 2 by omega); have y5 := A5.out.cell (show 1 < 2 by omega); have l5 := A5.out.lt
  have x6 := A6.out.cell (show 0 < 2 by omega); have y6 := A6.out.cell (show 1 < 2 by omega); have l6 := A6.out.lt
  clear hb
  go_wp2_with fail
  refine (G4.out _ _ R0.out).mono ?_
  intro e w10 hp
  obtain ⟨u10, rfl, hr, hb, hk⟩ := hp
  obtain ⟨a10, c10, rfl⟩ := shape_rows hr
  have T6 := Lib.hid (T6.out.trans (hb.mono T6.out.size))
  have HK := Lib.hid hk; clear hk hr
  have k6 := A6.out.lt
  have B0 := Lib.hid (belowTrans B0.out hb)
  have R0 := Lib.hid (R0.out.below hb)
  have R2 := Lib.hid (R2.out.below hb)
  have R3 := Lib.hid (R3.out.below hb)
  have R4 := Lib.hid (R4.out.below hb)
  have R5 := Lib.hid (R5.out.below hb)
  have R6 := Lib.hid (R6.out.below hb)
  have A0 := Lib.hid (A0.out.below hb)
  have A2 := Lib.hid (A2.out.below hb)
  have A3 := Lib.hid (A3.out.below hb)
  have A4 := Lib.hid (A4.out.below hb)
  have A5 := Lib.hid (A5.out.below hb)
  have A6 := Lib.hid (A6.out.below hb)
  clear x0 y0 l0 x2 y2 l2 x3 y3 l3 x4 y4 l4 x5 y5 l5 x6 y6 l6
  have x0 := A0.out.cell (show 0 < 2 by omega); have y0 := A0.out.cell (show 1 < 2 by omega); have l0 := A0.out.lt
  have x2 := A2.out.cell (show 0 < 2 by omega); have y2 := A2.out.cell (show 1 < 2 by omega); have l2 := A2.out.lt
  have x3 := A3.out.cell (show 0 < 2 by omega); have y3 := A3.out.cell (show 1 < 2 by omega); have l3 := A3.out.lt
  have x4 := A4.out.cell (show 0 < 2 by omega); have y4 := A4.out.cell (show 1 < 2 by omega); have l4 := A4.out.lt
  have x5 := A5.out.cell (show 0 < 2 by omega); have y5 := A5.out.cell (show 1 < 2 by omega); have l5 := A5.out.lt
  have x6 := A6.out.cell (show 0 < 2 by omega); have y6 := A6.out.cell (show 1 < 2 by omega); have l6 := A6.out.lt
  clear hb
  have z0 := A6.out.free (show 0 < 2 by omega); have z1 := A6.out.free (show 1 < 2 by omega)
  go_wp2_with fail
  have T6 := Lib.hid ((T6.out.setCell (p := ⟨w6.heap.size, 0, none⟩) (Nat.le_refl _) (.int .i64 p4)).setCell (p := ⟨w6.heap.size, 1, none⟩) (Nat.le_refl _) (.slice a10 Y4.length c10))
  have R6 : Hid (RowsAt ((w10.setCell ⟨w6.heap.size, 0, none⟩ (.int .i64 p4)).setCell ⟨w6.heap.size, 1, none⟩ (.slice a10 Y4.length c10)) (.slice a10 Y4.length c10) Y4) := HK.out _ (fun b o hb => by rw [World.cell?_setCell_other _ _ _ _ (by intro e; have := congrArg Addr.block e; dsimp only at this; omega), World.cell?_setCell_other _ _ _ _ (by intro e; have := congrArg Addr.block e; dsimp only at this; omega)]) (by simp)
  clear HK k6
  have B0 := Lib.hid ((B0.out.setCell (p := ⟨w6.heap.size, 0, none⟩) (by show _ ≤ w6.heap.size; omega) (.int .i64 p4)).setCell (p := ⟨w6.heap.size, 1, none⟩) (by show _ ≤ w6.heap.size; omega) (.slice a10 Y4.length c10))
  have A0 := Lib.hid ((A0.out.setOther (p := ⟨w6.heap.size, 0, none⟩) (by show w6.heap.size ≠ _; omega) (.int .i64 p4)).setOther (p := ⟨w6.heap.size, 1, none⟩) (by show w6.heap.size ≠ _; omega) (.slice a10 Y4.length c10))
  have A2 := Lib.hid ((A2.out.setOther (p := ⟨w6.heap.size, 0, none⟩) (by show w6.heap.size ≠ _; omega) (.int .i64 p4)).setOther (p := ⟨w6.heap.size, 1, none⟩) (by show w6.heap.size ≠ _; omega) (.slice a10 Y4.length c10))
  have A3 := Lib.hid ((A3.out.setOther (p := ⟨w6.heap.size, 0, none⟩) (by show w6.heap.size ≠ _; omega) (.int .i64 p4)).setOther (p := ⟨w6.heap.size, 1, none⟩) (by show w6.heap.size ≠ _; omega) (.slice a10 Y4.length c10))
  have A4 := Lib.hid ((A4.out.setOther (p := ⟨w6.heap.size, 0, none⟩) (by show w6.heap.size ≠ _; omega) (.int .i64 p4)).setOther (p := ⟨w6.heap.size, 1, none⟩) (by show w6.heap.size ≠ _; omega) (.slice a10 Y4.length c10))
  have A5 := Lib.hid ((A5.out.setOther (p := ⟨w6.heap.size, 0, none⟩) (by show w6.heap.size ≠ _; omega) (.int .i64 p4)).setOther (p := ⟨w6.heap.size, 1, none⟩) (by show w6.heap.size ≠ _; omega) (.slice a10 Y4.length c10))
  have A6 : Hid (Arr ((w10.setCell ⟨w6.heap.size, 0, none⟩ (.int .i64 p4)).setCell ⟨w6.heap.size, 1, none⟩ (.slice a10 Y4.length c10)) w6.heap.size 2 (fun j => if j = 0 then Value.int .i64 p4 else .slice a10 Y4.length c10)) := ((A6.out.set (show 0 < 2 by omega) (.int .i64 p4)).set (show 1 < 2 by omega) (.slice a10 Y4.length c10)).congr fun j hj => by (rcases j with _ | _ | j; rfl; rfl; omega)
  have R0 := Lib.hid (S0.out.below T6.out)
  have R2 := Lib.hid (S2.out.below T6.out)
  have R3 := Lib.hid (S3.out.below T6.out)
  have R4 := Lib.hid (S4.out.below T6.out)
  have R5 := Lib.hid (S5.out.below T6.out)
  refine (designs_same _ R4.out R6.out).mono ?_
  rintro e w11 ⟨rfl, hb⟩
  have T6 := Lib.hid (T6.out.trans (hb.mono T6.out.size))
  have B0 := Lib.hid (belowTrans B0.out hb)
  have R0 := Lib.hid (R0.out.below hb)
  have R2 := Lib.hid (R2.out.below hb)
  have R3 := Lib.hid (R3.out.below hb)
  have R4 := Lib.hid (R4.out.below hb)
  have R5 := Lib.hid (R5.out.below hb)
  have R6 := Lib.hid (R6.out.below hb)
  have A0 := Lib.hid (A0.out.below hb)
  have A2 := Lib.hid (A2.out.below hb)
  have A3 := Lib.hid (A3.out.below hb)
  have A4 := Lib.hid (A4.out.below hb)
  have A5 := Lib.hid (A5.out.below hb)
  have A6 := Lib.hid (A6.out.below hb)
  clear x0 y0 l0 x2 y2 l2 x3 y3 l3 x4 y4 l4 x5 y5 l5 x6 y6 l6 z0 z1
  have x0 := A0.out.cell (show 0 < 2 by omega); have y0 := A0.out.cell (show 1 < 2 by omega); have l0 := A0.out.lt
  have x2 := A2.out.cell (show 0 < 2 by omega); have y2 := A2.out.cell (show 1 < 2 by omega); have l2 := A2.out.lt
  have x3 := A3.out.cell (show 0 < 2 by omega); have y3 := A3.out.cell (show 1 < 2 by omega); have l3 := A3.out.lt
  have x4 := A4.out.cell (show 0 < 2 by omega); have y4 := A4.out.cell (show 1 < 2 by omega); have l4 := A4.out.lt
  have x5 := A5.out.cell (show 0 < 2 by omega); have y5 := A5.out.cell (show 1 < 2 by omega); have l5 := A5.out.lt
  have x6 := A6.out.cell (show 0 < 2 by omega); have y6 := A6.out.cell (show 1 < 2 by omega); have l6 := A6.out.lt
  clear hb
  go_wp2_with fail
  refine (G5.out _ _ R0.out).mono ?_
  intro e w12 hp
  obtain ⟨u12, rfl, hr, hb, hk⟩ := hp
  obtain ⟨a12, c12, rfl⟩ := shape_rows hr
  have T6 := Lib.hid (T6.out.trans (hb.mono T6.out.size))
  have HK := Lib.hid hk; clear hk hr
  have k6 := A6.out.lt
  have B0 := Lib.hid (belowTrans B0.out hb)
  have R0 := Lib.hid (R0.out.below hb)
  have R2 := Lib.hid (R2.out.below hb)
  have R3 := Lib.hid (R3.out.below hb)
  have R4 := Lib.hid (R4.out.below hb)
  have R5 := Lib.hid (R5.out.below hb)
  have R6 := Lib.hid (R6.out.below hb)
  have A0 := Lib.hid (A0.out.below hb)
  have A2 := Lib.hid (A2.out.below hb)
  have A3 := Lib.hid (A3.out.below hb)
  have A4 := Lib.hid (A4.out.below hb)
  have A5 := Lib.hid (A5.out.below hb)
  have A6 := Lib.hid (A6.out.below hb)
  clear x0 y0 l0 x2 y2 l2 x3 y3 l3 x4 y4 l4 x5 y5 l5 x6 y6 l6
  have x0 := A0.out.cell (show 0 < 2 by omega); have y0 := A0.out.cell (show 1 < 2 by omega); have l0 := A0.out.lt
  have x2 := A2.out.cell (show 0 < 2 by omega); have y2 := A2.out.cell (show 1 < 2 by omega); have l2 := A2.out.lt
  have x3 := A3.out.cell (show 0 < 2 by omega); have y3 := A3.out.cell (show 1 < 2 by omega); have l3 := A3.out.lt
  have x4 := A4.out.cell (show 0 < 2 by omega); have y4 := A4.out.cell (show 1 < 2 by omega); have l4 := A4.out.lt
  have x5 := A5.out.cell (show 0 < 2 by omega); have y5 := A5.out.cell (show 1 < 2 by omega); have l5 := A5.out.lt
  have x6 := A6.out.cell (show 0 < 2 by omega); have y6 := A6.out.cell (show 1 < 2 by omega); have l6 := A6.out.lt
  clear hb
  have z0 := A6.out.free (show 0 < 2 by omega); have z1 := A6.out.free (show 1 < 2 by omega)
  go_wp2_with fail
  have T6 := Lib.hid ((T6.out.setCell (p := ⟨w6.heap.size, 0, none⟩) (Nat.le_refl _) (.int .i64 p5)).setCell (p := ⟨w6.heap.size, 1, none⟩) (Nat.le_refl _) (.slice a12 Y5.length c12))
  have R6 : Hid (RowsAt ((w12.setCell ⟨w6.heap.size, 0, none⟩ (.int .i64 p5)).setCell ⟨w6.heap.size, 1, none⟩ (.slice a12 Y5.length c12)) (.slice a12 Y5.length c12) Y5) := HK.out _ (fun b o hb => by rw [World.cell?_setCell_other _ _ _ _ (by intro e; have := congrArg Addr.block e; dsimp only at this; omega), World.cell?_setCell_other _ _ _ _ (by intro e; have := congrArg Addr.block e; dsimp only at this; omega)]) (by simp)
  clear HK k6
  have B0 := Lib.hid ((B0.out.setCell (p := ⟨w6.heap.size, 0, none⟩) (by show _ ≤ w6.heap.size; omega) (.int .i64 p5)).setCell (p := ⟨w6.heap.size, 1, none⟩) (by show _ ≤ w6.heap.size; omega) (.slice a12 Y5.length c12))
  have A0 := Lib.hid ((A0.out.setOther (p := ⟨w6.heap.size, 0, none⟩) (by show w6.heap.size ≠ _; omega) (.int .i64 p5)).setOther (p := ⟨w6.heap.size, 1, none⟩) (by show w6.heap.size ≠ _; omega) (.slice a12 Y5.length c12))
  have A2 := Lib.hid ((A2.out.setOther (p := ⟨w6.heap.size, 0, none⟩) (by show w6.heap.size ≠ _; omega) (.int .i64 p5)).setOther (p := ⟨w6.heap.size, 1, none⟩) (by show w6.heap.size ≠ _; omega) (.slice a12 Y5.length c12))
  have A3 := Lib.hid ((A3.out.setOther (p := ⟨w6.heap.size, 0, none⟩) (by show w6.heap.size ≠ _; omega) (.int .i64 p5)).setOther (p := ⟨w6.heap.size, 1, none⟩) (by show w6.heap.size ≠ _; omega) (.slice a12 Y5.length c12))
  have A4 := Lib.hid ((A4.out.setOther (p := ⟨w6.heap.size, 0, none⟩) (by show w6.heap.size ≠ _; omega) (.int .i64 p5)).setOther (p := ⟨w6.heap.size, 1, none⟩) (by show w6.heap.size ≠ _; omega) (.slice a12 Y5.length c12))
  have A5 := Lib.hid ((A5.out.setOther (p := ⟨w6.heap.size, 0, none⟩) (by show w6.heap.size ≠ _; omega) (.int .i64 p5)).setOther (p := ⟨w6.heap.size, 1, none⟩) (by show w6.heap.size ≠ _; omega) (.slice a12 Y5.length c12))
  have A6 : Hid (Arr ((w12.setCell ⟨w6.heap.size, 0, none⟩ (.int .i64 p5)).setCell ⟨w6.heap.size, 1, none⟩ (.slice a12 Y5.length c12)) w6.heap.size 2 (fun j => if j = 0 then Value.int .i64 p5 else .slice a12 Y5.length c12)) := ((A6.out.set (show 0 < 2 by omega) (.int .i64 p5)).set (show 1 < 2 by omega) (.slice a12 Y5.length c12)).congr fun j hj => by (rcases j with _ | _ | j; rfl; rfl; omega)
  have R0 := Lib.hid (S0.out.below T6.out)
  have R2 := Lib.hid (S2.out.below T6.out)
  have R3 := Lib.hid (S3.out.below T6.out)
  have R4 := Lib.hid (S4.out.below T6.out)
  have R5 := Lib.hid (S5.out.below T6.out)
  refine (designs_same _ R5.out R6.out).mono ?_
  rintro e w13 ⟨rfl, hb⟩
  have T6 := Lib.hid (T6.out.trans (hb.mono T6.out.size))
  have B0 := Lib.hid (belowTrans B0.out hb)
  have R0 := Lib.hid (R0.out.below hb)
  have R2 := Lib.hid (R2.out.below hb)
  have R3 := Lib.hid (R3.out.below hb)
  have R4 := Lib.hid (R4.out.below hb)
  have R5 := Lib.hid (R5.out.below hb)
  have R6 := Lib.hid (R6.out.below hb)
  have A0 := Lib.hid (A0.out.below hb)
  have A2 := Lib.hid (A2.out.below hb)
  have A3 := Lib.hid (A3.out.below hb)
  have A4 := Lib.hid (A4.out.below hb)
  have A5 := Lib.hid (A5.out.below hb)
  have A6 := Lib.hid (A6.out.below hb)
  clear x0 y0 l0 x2 y2 l2 x3 y3 l3 x4 y4 l4 x5 y5 l5 x6 y6 l6 z0 z1
  have x0 := A0.out.cell (show 0 < 2 by omega); have y0 := A0.out.cell (show 1 < 2 by omega); have l0 := A0.out.lt
  have x2 := A2.out.cell (show 0 < 2 by omega); have y2 := A2.out.cell (show 1 < 2 by omega); have l2 := A2.out.lt
  have x3 := A3.out.cell (show 0 < 2 by omega); have y3 := A3.out.cell (show 1 < 2 by omega); have l3 := A3.out.lt
  have x4 := A4.out.cell (show 0 < 2 by omega); have y4 := A4.out.cell (show 1 < 2 by omega); have l4 := A4.out.lt
  have x5 := A5.out.cell (show 0 < 2 by omega); have y5 := A5.out.cell (show 1 < 2 by omega); have l5 := A5.out.lt
  have x6 := A6.out.cell (show 0 < 2 by omega); have y6 := A6.out.cell (show 1 < 2 by omega); have l6 := A6.out.lt
  clear hb
  go_wp2_with fail
  go_ret
  exact ⟨ret_bool (by simp), B0.out⟩
theorem designTurns_walk (n : Int) (v : Value) (xss : List (List Int)) (pt bl : Int) (w : World) (hn : -9223372036854775808 ≤ n ∧ n ≤ 9223372036854775807) (h : RowsAt w v xss) (_ : ∀ xs ∈ xss, Fits xs) (_ : -9223372036854775808 ≤ pt ∧ pt ≤ 9223372036854775807) (_ : -9223372036854775808 ≤ bl ∧ bl ≤ 9223372036854775807) :
    Calls Try.prog 8 #[.agg #[.int .i64 n, v], .int .i64 pt, .int .i64 bl] w fun e w' => e = .returned (.bool true) ∧ Below w.heap.size w w' := by
  by_cases hf : desFault n xss = 0
  · have hD := des_of hf
    obtain ⟨m, rfl⟩ := Int.eq_ofNat_of_zero_le (show 0 ≤ n by have := hD.lo; omega)
    obtain ⟨p3, Y3, e3, F3, G3⟩ := dual_both hD
    obtain ⟨p4, Y4, e4, F4, G4⟩ := der_both hD pt
    obtain ⟨p5, Y5, e5, F5, G5⟩ := res_both hD bl
    have hm := hD.hi
    exact turns_ok m v xss pt bl w h hD m p3 p4 p5 e3 e4 e5 (compL m xss) Y3 Y4 Y5 (fun v w h => comp_any m v xss w h hD) (fun v w h => compOf_any m v xss w h (by omega) hD.few) G3 G4 G5 F3 F4 F5
  · exact turns_bad n v xss pt bl w h hf
end Go.Proofs.Ytkmcmahpfhlkhaa
