/-
  Contracts: quasi.Unit, quasi.Parts. No condition.
-/
import Derived.Test.YtkmfhnjadpdkeaaAsk3
namespace Go.Proofs.Ytkmfhnjadpdkeaa
open Go.RowKit

theorem closed_all (n : Nat) (xs : List Int) (c : Nat) : allX (fun x y _ => outP n xs c x y) (mostN n 2 0) (mostN n 2 1) (mostN n 2 2) = closedB n xs c := by
  show allTo (fun x => allTo (fun y => allTo (fun _ => outP n xs c x y) 1) n) n = _
  exact allTo_congr fun x _ => allTo_congr fun y _ => by simp [allTo]
theorem unit_all (n : Nat) (xs : List Int) (x : Nat) : allX (fun y _ _ => unitP n xs x y) (mostN n 1 0) (mostN n 1 1) (mostN n 1 2) = unitU n xs x := by
  show allTo (fun y => allTo (fun _ => allTo (fun _ => unitP n xs x y) 1) 1) n = _
  exact allTo_congr fun x _ => by simp [allTo]

set_option maxRecDepth 100000 in
set_option maxHeartbeats 1000000 in
theorem closed_any (n c : Nat) (xs : List Int) (w : World) (hL : IsLatin n xs) (hc : c ≤ 256) :
    Calls Try.prog 66 #[.agg (rowOf 65 (tfill n xs xs.length)).toArray, .int .i64 c] w fun e w' => e = .returned (.bool (closedB n xs c)) ∧ Below w.heap.size w w' := by
  have HL := Lib.hid hL
  have hn8 : n ≤ 8 := by have := hL.hi; omega
  have hn1 : 1 ≤ n := by have := hL.lo; omega
  have Q2 : Hid (Nums ((w.alloc (.cells (rowOf 65 (tfill n xs xs.length)).toArray 60)).alloc (.cells #[.int .i64 c] 3)) w.heap.size 65 (tfill n xs xs.length)) := Arr.alloc (nums_row w 65 _ _) _
  have HB := Lib.hid (belowTrans (below_box w (.cells (rowOf 65 (tfill n xs xs.length)).toArray 60)) (below_box _ (.cells #[.int .i64 c] 3)))
  have HK : Hid (((w.alloc (.cells (rowOf 65 (tfill n xs xs.length)).toArray 60)).alloc (.cells #[.int .i64 c] 3)).cell? ⟨w.heap.size + 1, 0, none⟩ = some (.int .i64 c)) := by
    have := World.cell?_alloc_new (w.alloc (.cells (rowOf 65 (tfill n xs xs.length)).toArray 60)) #[.int .i64 c] 3 0
    rw [World.size_alloc] at this; exact this
  clear hL
  go_enter Try.func66, Try.ntmps66
  go_wp2_with (with_reducible refine wpList_load_tab rfl 60 _ rfl _ rfl Q2.out Try.underlying60 rfl (by kernel_rfl) ?_)
  refine (all2_any 71 enters_closedC _ _ n 2 hn8 hn1 (by omega) (tfill n xs xs.length) (tfill_zero n xs _) (fun x y _ => outP n xs c x y) _ (fun x y z w' hx hy _ hb => closedC_any HL.out x y z w.heap.size c (w.heap.size + 1) w' hx hy hc (Arr.below Q2.out hb) (by rw [hb.cell (p := ⟨w.heap.size + 1, 0, none⟩) (by simp)]; exact HK.out))).mono ?_
  rw [closed_all]
  rintro e w2 ⟨rfl, hb2⟩
  have Hb2 := Lib.hid (belowTrans HB.out hb2)
  clear hb2
  go_wp2_with fail
  go_ret
  exact ⟨rfl, Hb2.out⟩

set_option maxRecDepth 100000 in
set_option maxHeartbeats 1000000 in
theorem unit_no (side : Int) (v : Value) (xs : List Int) (w : World) (h : IntsAt w v xs) (hf : latinFault side xs ≠ 0) :
    Calls Try.prog 29 #[.agg #[.int .i64 side, v]] w fun e w' => e = .returned (.tuple #[.int .i64 0, .int .i64 (latinFault side xs)]) ∧ Below w.heap.size w w' := by
  have HB1 := Lib.hid (below_box w (.cells #[.int .i64 side, v] 24))
  have HI := Lib.hid (h.below HB1.out)
  have Hf := Lib.hid (elem_nil side xs)
  have e2 : (latinFault side xs != 0) = true := by simpa using hf
  clear h hf
  go_enter Try.func29, Try.ntmps29
  go_wp2_with fail
  refine (open_any side v _ xs [] _ HI.out (intsAt_nil _)).mono ?_
  rw [Hf.out]
  rintro e w1 ⟨rfl, hb1⟩
  obtain ⟨W, q1, q2, q3, q4⟩ := run_store_tab (P := Try.prog) w1 60 Try.zeroCells60 (tabVal side xs []) 65 rfl
  have hB : Below w.heap.size w W := (belowTrans HB1.out hb1).trans (q3.mono (belowTrans HB1.out hb1).size)
  have HB := Lib.hid hB
  clear hB q2 q3
  unfold tabOf
  go_wp2_with fail
  go_ret2
  exact ⟨rfl, HB.out⟩

set_option maxRecDepth 100000 in
set_option maxHeartbeats 1000000 in
theorem parts_no (side : Int) (v : Value) (xs : List Int) (w : World) (h : IntsAt w v xs) (hf : latinFault side xs ≠ 0) :
    Calls Try.prog 33 #[.agg #[.int .i64 side, v]] w fun e w' => e = .returned (.tuple #[.int .i64 0, .int .i64 (latinFault side xs)]) ∧ Below w.heap.size w w' := by
  have HB1 := Lib.hid (below_box w (.cells #[.int .i64 side, v] 24))
  have HI := Lib.hid (h.below HB1.out)
  have Hf := Lib.hid (elem_nil side xs)
  have e2 : (latinFault side xs != 0) = true := by simpa using hf
  clear h hf
  go_enter Try.func33, Try.ntmps33
  go_wp2_with fail
  refine (open_any side v _ xs [] _ HI.out (intsAt_nil _)).mono ?_
  rw [Hf.out]
  rintro e w1 ⟨rfl, hb1⟩
  obtain ⟨W, q1, q2, q3, q4⟩ := run_store_tab (P := Try.prog) w1 60 Try.zeroCells60 (tabVal side xs []) 65 rfl
  have hB : Below w.heap.size w W := (belowTrans HB1.out hb1).trans (q3.mono (belowTrans HB1.out hb1).size)
  have HB := Lib.hid hB
  clear hB q2 q3
  unfold tabOf
  go_wp2_with fail
  go_ret2
  exact ⟨rfl, HB.out⟩

set_option maxRecDepth 100000 in
set_option maxHeartbeats 1000000 in
theorem parts_yes (n : Nat) (v : Value) (xs : List Int) (w : World) (h : IntsAt w v xs) (hL : IsLatin n xs) :
    Calls Try.prog 33 #[.agg #[.int .i64 n, v]] w fun e w' => e = .returned (.tuple #[.int .i64 (partsC n xs (2 ^ n - 1)), .int .i64 0]) ∧ Below w.heap.size w w' := by
  have HB1 := Lib.hid (below_box w (.cells #[.int .i64 n, v] 24))
  have HI := Lib.hid (h.below HB1.out)
  have Hf : Hid (elemFault n xs [] = 0) := (elem_nil n xs).trans hL.fault
  have HL := Lib.hid hL
  have hn8 : n ≤ 8 := by have := hL.hi; omega
  have hn1 : 1 ≤ n := by have := hL.lo; omega
  obtain ⟨hp1, hp2⟩ := pow_le hn8
  obtain ⟨M, hM⟩ : ∃ M, M = 2 ^ n := ⟨_, rfl⟩
  rw [← hM] at hp1 hp2
  have hpI : (2 : Int) ^ n = (M : Int) := by rw [hM, Int.natCast_pow]; rfl
  rw [← hM]
  clear h hL hM
  go_enter Try.func33, Try.ntmps33
  go_wp2_with fail
  refine (open_any n v _ xs [] _ HI.out (intsAt_nil _)).mono ?_
  rw [Hf.out, tabOf_ok Hf.out]
  rintro e w1 ⟨rfl, hb1⟩
  obtain ⟨W, q1, q2, q3, q4⟩ := run_store_tab (P := Try.prog) w1 60 Try.zeroCells60 (tfill n xs xs.length) 65 rfl
  have hB : Below w.heap.size w W := (belowTrans HB1.out hb1).trans (q3.mono (belowTrans HB1.out hb1).size)
  have HB := Lib.hid hB
  have Q2 := Lib.hid q2
  clear hB q2 q3
  go_wp2_with fail
  go_loopw [6, 7] (fun sm sc wr => ∃ c : Nat, c + 1 ≤ M ∧ sc = .int .i64 ((c : Int) + 1) ∧ sm = .int .i64 (partsC n xs c) ∧ Below W.heap.size W wr) (fun _ sc _ => M - (intOf sc).toNat)
  case atStart => exact ⟨0, by omega, rfl, rfl, Below.refl _ _⟩
  case round =>
    obtain ⟨c, hc, rfl, rfl, hb⟩ := hrel
    have Hb := Lib.hid hb; clear hb
    have Q3 : Hid (Nums wr w1.heap.size 65 (tfill n xs xs.length)) := Arr.below Q2.out Hb.out
    have K0 := Lib.hid (tab_side Q3.out)
    have hle := partsC_le n xs c
    by_cases hlt : c + 1 < M
    · have Hs : Hid (partsC n xs (c + 1) = partsC n xs c + if closedB n xs (c + 1) then 1 else 0) := rfl
      cases e : closedB n xs (c + 1)
      all_goals
        have Hs2 := Hs.out
        rw [e] at Hs2
        have He := Lib.hid e; have Hn := Lib.hid Hs2
        clear e Hs Hs2
        go_wp2_with (first | (with_reducible refine wpList_load_tab rfl 60 _ rfl _ rfl Q3.out Try.underlying60 rfl (by kernel_rfl) ?_) | (have k0 := K0.out; refine wpList_step (fun _ _ => ?_); go_simp; (try go_bits); clear k0))
        refine (show Calls Try.prog 66 #[.agg (rowOf 65 (tfill n xs xs.length)).toArray, .int .i64 ((c : Int) + 1)] wr _ from by have := closed_any n (c + 1) xs wr HL.out (by omega); rw [He.out] at this; exact this).mono ?_
        rintro e w2 ⟨rfl, hb1⟩
        have Hb1 := Lib.hid (belowTrans Hb.out hb1); clear hb1
        go_wp2_with fail
        go_roundw
        case rel => exact ⟨c + 1, by omega, by go_num, by rw [Hn.out]; go_num, Hb1.out⟩
        case measure => simp [intOf]; omega
    · obtain rfl : M = c + 1 := by omega
      have k0 := K0.out
      go_wp2_with fail
      go_ret2
      exact ⟨rfl, HB.out.trans (Hb.out.mono HB.out.size)⟩

set_option maxRecDepth 100000 in
set_option maxHeartbeats 1000000 in
theorem unit_yes (n : Nat) (v : Value) (xs : List Int) (w : World) (h : IntsAt w v xs) (hL : IsLatin n xs) :
    Calls Try.prog 29 #[.agg #[.int .i64 n, v]] w fun e w' => e = .returned (.tuple #[.int .i64 (if first (unitU n xs) n = -1 then 0 else first (unitU n xs) n), .int .i64 (if first (unitU n xs) n = -1 then 4 else 0)]) ∧ Below w.heap.size w w' := by
  have HB1 := Lib.hid (below_box w (.cells #[.int .i64 n, v] 24))
  have HI := Lib.hid (h.below HB1.out)
  have Hf : Hid (elemFault n xs [] = 0) := (elem_nil n xs).trans hL.fault
  have HL := Lib.hid hL
  have hn8 : n ≤ 8 := by have := hL.hi; omega
  have hn1 : 1 ≤ n := by have := hL.lo; omega
  obtain ⟨rx, hrx⟩ : ∃ rx, rx = Value.tuple #[.int .i64 (if first (unitU n xs) n = -1 then 0 else first (unitU n xs) n), .int .i64 (if first (unitU n xs) n = -1 then 4 else 0)] := ⟨_, rfl⟩
  rw [← hrx]
  have HRX := Lib.hid hrx
  clear h hL hrx
  go_enter Try.func29, Try.ntmps29
  go_wp2_with fail
  refine (open_any n v _ xs [] _ HI.out (intsAt_nil _)).mono ?_
  rw [Hf.out, tabOf_ok Hf.out]
  rintro e w1 ⟨rfl, hb1⟩
  obtain ⟨W, q1, q2, q3, q4⟩ := run_store_tab (P := Try.prog) w1 60 Try.zeroCells60 (tfill n xs xs.length) 65 rfl
  have hB : Below w.heap.size w W := (belowTrans HB1.out hb1).trans (q3.mono (belowTrans HB1.out hb1).size)
  have HB := Lib.hid hB
  have Q2 := Lib.hid q2
  have k0 := tab_side Q2.out
  clear hB q2 q3
  go_wp2_with fail
  clear k0
  go_loopw [17] (fun sx wr => ∃ x : Nat, x ≤ n ∧ sx = .int .i64 x ∧ first (unitU n xs) x = -1 ∧ Below W.heap.size W wr) (fun sx _ => n - (intOf sx).toNat)
  case atStart => exact ⟨0, by omega, rfl, rfl, Below.refl _ _⟩
  case round =>
    obtain ⟨x, hx, rfl, ha, hb⟩ := hrel
    have Hb := Lib.hid hb; clear hb
    have HA := Lib.hid ha; clear ha
    by_cases hlt : x < n
    · have Q3 : Hid (Nums (wr.alloc (.cells #[.int .i64 x] 3)) w1.heap.size 65 (tfill n xs xs.length)) := Arr.alloc (Arr.below Q2.out Hb.out) _
      have H5 := Lib.hid (Hb.out.alloc Hb.out.size (.cells #[.int .i64 x] 3))
      have HK : Hid ((wr.alloc (.cells #[.int .i64 x] 3)).cell? ⟨wr.heap.size, 0, none⟩ = some (.int .i64 x)) := World.cell?_alloc_new wr #[.int .i64 x] 3 0
      cases e : unitU n xs x
      all_goals
        have He := Lib.hid e; clear e
        go_wp2_with (with_reducible refine wpList_load_tab rfl 60 _ rfl _ rfl Q3.out Try.underlying60 rfl (by kernel_rfl) ?_)
        refine (all2_any 62 enters_unitC _ _ n 1 hn8 hn1 (by omega) (tfill n xs xs.length) (tfill_zero n xs _) (fun y _ _ => unitP n xs x y) _ (fun y z u w' hy _ _ hb => unitC_any HL.out y z u w1.heap.size x wr.heap.size w' hlt hy (Arr.below Q3.out hb) (by rw [hb.cell (p := ⟨wr.heap.size, 0, none⟩) (by simp)]; exact HK.out))).mono ?_
        rw [unit_all, He.out]
        rintro e w2 ⟨rfl, hb2⟩
        have H6 := Lib.hid (H5.out.trans (hb2.mono H5.out.size))
        have HK2 : Hid (w2.cell? ⟨wr.heap.size, 0, none⟩ = some (.int .i64 x)) := by
          show _ = _
          rw [hb2.cell (p := ⟨wr.heap.size, 0, none⟩) (by simp)]; exact HK.out
        clear hb2
        have kx := HK2.out
        go_wp2_with fail
      · go_roundw
        case rel => exact ⟨x + 1, by omega, by go_num, first_no HA.out He.out, H6.out⟩
        case measure => simp [intOf]; omega
      · have hfi := first_yes HA.out He.out hlt
        have hrx : rx = Value.tuple #[.int .i64 x, .int .i64 0] := by rw [HRX.out, hfi, if_neg (by omega), if_neg (by omega)]
        go_ret2
        exact ⟨by rw [hrx]; rfl, HB.out.trans (H6.out.mono HB.out.size)⟩
    · obtain rfl : x = n := by omega
      have hrx : rx = Value.tuple #[.int .i64 0, .int .i64 4] := by rw [HRX.out, if_pos HA.out, if_pos HA.out]
      have HR := Lib.hid hrx
      clear hrx
      go_wp2_with fail
      go_ret2
      exact ⟨by rw [HR.out]; rfl, HB.out.trans (Hb.out.mono HB.out.size)⟩

end Go.Proofs.Ytkmfhnjadpdkeaa
