/-
  Contracts: quasi.Unit, quasi.Parts. No condition.
-/
import Derived.Test.YtkmfhnjadpdkeaaDoorAsk3
namespace Go.Proofs.YtkmfhnjadpdkeaaDoor
open Go.RowKit

theorem closed_all (n : Nat) (xs : List Int) (c : Nat) : allX (fun x y _ => outP n xs c x y) (mostN n 2 0) (mostN n 2 1) (mostN n 2 2) = closedB n xs c := by
  show allTo (fun x => allTo (fun y => allTo (fun _ => outP n xs c x y) 1) n) n = _
  exact allTo_congr fun x _ => allTo_congr fun y _ => by simp [allTo]
theorem unit_all (n : Nat) (xs : List Int) (x : Nat) : allX (fun y _ _ => unitP n xs x y) (mostN n 1 0) (mostN n 1 1) (mostN n 1 2) = unitU n xs x := by
  show allTo (fun y => allTo (fun _ => allTo (fun _ => unitP n xs x y) 1) 1) n = _
  exact allTo_congr fun x _ => by simp [allTo]

set_option maxRecDepth 100000 in
set_option maxHeartbeats 1000000 in
theorem unit_no (side : Int) (v : Value) (xs : List Int) (w : World) (h : IntsAt w v xs) (hf : latinFault side xs ≠ 0) :
    Calls Tryd.prog 33 #[.agg #[.int .i64 side, v]] w fun e w' => e = .returned (.tuple #[.int .i64 0, .int .i64 (latinFault side xs)]) ∧ Below w.heap.size w w' := by
  have HB1 := Lib.hid (below_box w (.cells #[.int .i64 side, v] 24))
  have HI := Lib.hid (h.below HB1.out)
  have Hf := Lib.hid (elem_nil side xs)
  have e2 : (latinFault side xs != 0) = true := by simpa using hf
  clear h hf
  go_enter Tryd.func33, Tryd.ntmps33
  go_wp2_with fail
  refine (open_any side v _ xs [] _ HI.out (intsAt_nil _)).mono ?_
  rw [Hf.out]
  rintro e w1 ⟨rfl, hb1⟩
  obtain ⟨W, q1, q2, q3, q4⟩ := run_store_tab (P := Tryd.prog) w1 58 Tryd.zeroCells58 (tabVal side xs []) 65 rfl
  have hB : Below w.heap.size w W := (belowTrans HB1.out hb1).trans (q3.mono (belowTrans HB1.out hb1).size)
  have HB := Lib.hid hB
  clear hB q2 q3
  unfold tabOf
  go_wp2_with fail
  go_ret2
  exact ⟨rfl, HB.out⟩

set_option maxRecDepth 100000 in
set_option maxHeartbeats 1000000 in
theorem unit_yes (n : Nat) (v : Value) (xs : List Int) (w : World) (h : IntsAt w v xs) (hL : IsLatin n xs) :
    Calls Tryd.prog 33 #[.agg #[.int .i64 n, v]] w fun e w' => e = .returned (.tuple #[.int .i64 (if first (unitU n xs) n = -1 then 0 else first (unitU n xs) n), .int .i64 (if first (unitU n xs) n = -1 then 4 else 0)]) ∧ Below w.heap.size w w' := by
  have HB1 := Lib.hid (below_box w (.cells #[.int .i64 n, v] 24))
  have HI := Lib.hid (h.below HB1.out)
  have Hf : Hid (elemFault n xs [] = 0) := (elem_nil n xs).trans hL.fault
  have HL := Lib.hid hL
  have hn8 : n ≤ 8 := by have := hL.hi; omega
  have hn1 : 1 ≤ n := by have := hL.lo; omega
  obtain ⟨rx, hrx⟩ : ∃ rx, rx = Value.tuple #[.int .i64 (if first (unitU n xs) n = -1 then 0 else first (unitU n xs) n), .int .i64 (if first (unitU n xs) n = -1 then 4 else 0)] := ⟨_, rfl⟩
  rw [← hrx]
  have HRX := Lib.hid hrx
  clear h hL hrx
  go_enter Tryd.func33, Tryd.ntmps33
  go_wp2_with fail
  refine (open_any n v _ xs [] _ HI.out (intsAt_nil _)).mono ?_
  rw [Hf.out, tabOf_ok Hf.out]
  rintro e w1 ⟨rfl, hb1⟩
  obtain ⟨W, q1, q2, q3, q4⟩ := run_store_tab (P := Tryd.prog) w1 58 Tryd.zeroCells58 (tfill n xs xs.length) 65 rfl
  have hB : Below w.heap.size w W := (belowTrans HB1.out hb1).trans (q3.mono (belowTrans HB1.out hb1).size)
  have HB := Lib.hid hB
  have Q2 := Lib.hid q2
  have k0 := tab_side Q2.out
  clear hB q2 q3
  go_wp2_with fail
  clear k0
  go_loopw [17] (fun sx wr => ∃ x : Nat, x ≤ n ∧ sx = .int .i64 x ∧ first (unitU n xs) x = -1 ∧ Below W.heap.size W wr) (fun sx _ => n - (intOf sx).toNat)
  case atStart => exact ⟨0, by omega, rfl, rfl, Below.refl _ _⟩
  case round =>
    obtain ⟨x, hx, rfl, ha, hb⟩ := hrel
    have Hb := Lib.hid hb; clear hb
    have HA := Lib.hid ha; clear ha
    by_cases hlt : x < n
    · have Q3 : Hid (Nums (wr.alloc (.cells #[.int .i64 x] 3)) w1.heap.size 65 (tfill n xs xs.length)) := Arr.alloc (Arr.below Q2.out Hb.out) _
      have H5 := Lib.hid (Hb.out.alloc Hb.out.size (.cells #[.int .i64 x] 3))
      have HK : Hid ((wr.alloc (.cells #[.int .i64 x] 3)).cell? ⟨wr.heap.size, 0, none⟩ = some (.int .i64 x)) := World.cell?_alloc_new wr #[.int .i64 x] 3 0
      cases e : unitU n xs x
      all_goals
        have He := Lib.hid e; clear e
        go_wp2_with (with_reducible refine wpList_load_tab rfl 58 _ rfl _ rfl Q3.out Tryd.underlying58 rfl (by kernel_rfl) ?_)
        refine (all2_any 47 enters_unitC _ _ n 1 hn8 hn1 (by omega) (tfill n xs xs.length) (tfill_zero n xs _) (fun y _ _ => unitP n xs x y) _ (fun y z u w' hy _ _ hb => unitC_any HL.out y z u w1.heap.size x wr.heap.size w' hlt hy (Arr.below Q3.out hb) (by rw [hb.cell (p := ⟨wr.heap.size, 0, none⟩) (by simp)]; exact HK.out))).mono ?_
        rw [unit_all, He.out]
        rintro e w2 ⟨rfl, hb2⟩
        have H6 := Lib.hid (H5.out.trans (hb2.mono H5.out.size))
        have HK2 : Hid (w2.cell? ⟨wr.heap.size, 0, none⟩ = some (.int .i64 x)) := by
          show _ = _
          rw [hb2.cell (p := ⟨wr.heap.size, 0, none⟩) (by simp)]; exact HK.out
        clear hb2
        have kx := HK2.out
        go_wp2_with fail
      · go_roundw
        case rel => exact ⟨x + 1, by omega, by go_num, first_no HA.out He.out, H6.out⟩
        case measure => simp [intOf]; omega
      · have hfi := first_yes HA.out He.out hlt
        have hrx : rx = Value.tuple #[.int .i64 x, .int .i64 0] := by rw [HRX.out, hfi, if_neg (by omega), if_neg (by omega)]
        go_ret2
        exact ⟨by rw [hrx]; rfl, HB.out.trans (H6.out.mono HB.out.size)⟩
    · obtain rfl : x = n := by omega
      have hrx : rx = Value.tuple #[.int .i64 0, .int .i64 4] := by rw [HRX.out, if_pos HA.out, if_pos HA.out]
      have HR := Lib.hid hrx
      clear hrx
      go_wp2_with fail
      go_ret2
      exact ⟨by rw [HR.out]; rfl, HB.out.trans (Hb.out.mono HB.out.size)⟩

end Go.Proofs.YtkmfhnjadpdkeaaDoor
