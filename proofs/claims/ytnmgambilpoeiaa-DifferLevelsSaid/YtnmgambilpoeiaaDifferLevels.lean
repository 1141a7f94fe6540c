/-
  The law DifferLevels, walked: it returns true whatever the numbers. No condition.
-/
import Derived.Test.YtnmgambilpoeiaaDifferOf
import Derived.Test.YtnmgambilpoeiaaMults
import Derived.Test.YtnmgambilpoeiaaMultsOf
import Derived.Test.YtnmgambilpoeiaaInts
namespace Go.Proofs.Ytnmgambilpoeiaa
open Go.RowKit

theorem beq_self_int (x : Int) : (x == x) = true := by simp
theorem bne_self_int (x : Int) : (x != x) = false := by simp
set_option maxRecDepth 100000 in
set_option maxHeartbeats 1000000 in
theorem dlevels_bad (n : Int) (v : Value) (xs : List Int) (w : World) (h : IntsAt w v xs) (hf : setFault n xs ≠ 0) :
    Calls Try.prog 6 #[.int .i64 n, v] w fun e w' => e = .returned (.bool true) ∧ Below w.heap.size w w' := by
  have HV := Lib.hid h
  have e1 : difE n xs = setFault n xs := by unfold difE; rw [if_pos hf]
  have e2 : difL n xs = 0 := by unfold difL; rw [if_neg (by rw [e1]; exact hf)]
  have HF : Hid (∀ w1, IntsAt w1 v xs → Calls Try.prog 23 #[.int .i64 n, v] w1 fun e w' => e = .returned (.int .i64 (setFault n xs)) ∧ Below w1.heap.size w1 w') := fun w1 hw => setFault_any n v xs w1 hw
  have HC : Hid (∀ w1, IntsAt w1 v xs → Calls Try.prog 24 #[.int .i64 n, v] w1 fun e w' => e = .returned (.int .i64 (setFault n xs)) ∧ Below w1.heap.size w1 w') := fun w1 hw => dcheck_any n v xs w1 hw
  have HL : Hid (∀ w1, IntsAt w1 v xs → Calls Try.prog 10 #[.int .i64 n, v] w1 (DifPost 0 (setFault n xs) w1)) := fun w1 hw => by
    have := dlevel_any n v xs w1 hw
    rw [e1, e2] at this; exact this
  have HM : Hid (∀ w1, IntsAt w1 v xs → Calls Try.prog 25 #[.int .i64 n, v] w1 fun e w' => e = .returned (.tuple #[.slice none 0 0, .int .i64 (setFault n xs)]) ∧ Below w1.heap.size w1 w') := fun w1 hw => mults_bad n v xs w1 hw hf
  have hne : (setFault n xs != 0) = true := by simpa using hf
  obtain ⟨a, c, rfl, _⟩ := h
  clear hf e1 e2
  generalize setFault n xs = e0 at *
  have q1 := beq_self_int e0
  have q2 := bne_self_int e0
  go_enter Try.func6, Try.ntmps6
  go_wp2_with fail
  refine (HF.out _ HV.out).mono ?_
  rintro e w1 ⟨rfl, hb⟩
  have HB1 := Lib.hid hb; clear hb
  go_wp2_with fail
  refine (HC.out _ (HV.out.below HB1.out)).mono ?_
  rintro e w2 ⟨rfl, hb⟩
  have HB2 := Lib.hid (belowTrans HB1.out hb); clear hb
  go_wp2_with fail
  refine (HL.out _ (HV.out.below HB2.out)).mono ?_
  rintro e w3 ⟨rfl, hb⟩
  have HB3 := Lib.hid (belowTrans HB2.out hb); clear hb
  go_wp2_with fail
  refine (HM.out _ (HV.out.below HB3.out)).mono ?_
  rintro e w4 ⟨rfl, hb⟩
  have HB4 := Lib.hid (belowTrans HB3.out hb); clear hb
  go_wp2_with fail
  go_ret
  exact ⟨rfl, HB4.out⟩

set_option maxRecDepth 100000 in
set_option maxHeartbeats 1000000 in
theorem dlevels_ok (n : Nat) (v : Value) (xs : List Int) (w : World) (h : IntsAt w v xs) (hS : IsSet n xs) :
    Calls Try.prog 6 #[.int .i64 (n : Nat), v] w fun e w' => e = .returned (.bool true) ∧ Below w.heap.size w w' := by
  have HV := Lib.hid h
  have hn1 := hS.lo; have hn2 := hS.hi
  have hlen : (multL n xs).length ≤ 1000 := by have := pickL_len (mulT n xs) n; unfold multL; omega
  have HF : Hid (∀ w1, IntsAt w1 v xs → Calls Try.prog 23 #[.int .i64 (n : Nat), v] w1 fun e w' => e = .returned (.int .i64 0) ∧ Below w1.heap.size w1 w') := fun w1 hw => by
    have := setFault_any n v xs w1 hw
    rw [hS.fault] at this; exact this
  have HC : Hid (∀ w1, IntsAt w1 v xs → Calls Try.prog 24 #[.int .i64 (n : Nat), v] w1 fun e w' => e = .returned (.int .i64 0) ∧ Below w1.heap.size w1 w') := fun w1 hw => by
    have := dcheck_any n v xs w1 hw
    rw [hS.fault] at this; exact this
  have HL : Hid (∀ w1, IntsAt w1 v xs → Calls Try.prog 10 #[.int .i64 (n : Nat), v] w1 (DifPost (difL n xs) (difE n xs) w1)) := fun w1 hw => dlevel_any n v xs w1 hw
  have HD : Hid (∀ w1, IntsAt w1 v xs → Calls Try.prog 26 #[.int .i64 (n : Nat), v] w1 (DifPost (difL n xs) (difE n xs) w1)) := fun w1 hw => differOf_any n v xs w1 hw hS
  have HM := Lib.hid (fun w1 hw => mults_ok n v xs w1 hw hS)
  have HO := Lib.hid (fun w1 hw => multsOf_any n v xs w1 hw hS)
  obtain ⟨a, c, rfl, _⟩ := h
  clear hS
  generalize difL n xs = l0 at *
  generalize difE n xs = e0 at *
  have q1 := beq_self_int e0
  have q2 := beq_self_int l0
  go_enter Try.func6, Try.ntmps6
  go_wp2_with fail
  refine (HF.out _ HV.out).mono ?_
  rintro e w1 ⟨rfl, hb⟩
  have HB1 := Lib.hid hb; clear hb
  go_wp2_with fail
  refine (HC.out _ (HV.out.below HB1.out)).mono ?_
  rintro e w2 ⟨rfl, hb⟩
  have HB2 := Lib.hid (belowTrans HB1.out hb); clear hb
  go_wp2_with fail
  refine (HL.out _ (HV.out.below HB2.out)).mono ?_
  rintro e w3 ⟨rfl, hb⟩
  have HB3 := Lib.hid (belowTrans HB2.out hb); clear hb
  go_wp2_with fail
  refine (HM.out _ (HV.out.below HB3.out)).mono ?_
  rintro e w4 ⟨u4, rfl, hown, hb⟩
  have HB4 := Lib.hid (belowTrans HB3.out hb)
  have HI4 := Lib.hid (hown.intsAt (by omega))
  obtain ⟨a4, l4, c4, rfl⟩ := hown.shape
  clear hb hown
  go_wp2_with fail
  refine (HD.out _ (HV.out.below HB4.out)).mono ?_
  rintro e w5 ⟨rfl, hb⟩
  have HB5 := Lib.hid (belowTrans HB4.out hb)
  have HI5 := Lib.hid (HI4.out.below hb)
  clear hb
  go_wp2_with fail
  refine (HO.out _ (HV.out.below HB5.out)).mono ?_
  rintro e w6 ⟨u6, rfl, hown, hb⟩
  have HB6 := Lib.hid (belowTrans HB5.out hb)
  have HE := Lib.hid (ints_any _ u6 _ _ w6 (HI5.out.below hb) (hown.intsAt (by omega)))
  rw [eqI_refl] at HE
  obtain ⟨a6, l6, c6, rfl⟩ := hown.shape
  clear hb hown
  go_wp2_with fail
  refine (HE.out).mono ?_
  rintro e w7 ⟨rfl, nd, rfl⟩
  go_wp2_with fail
  go_ret
  exact ⟨rfl, below_drewN HB6.out _⟩

/-- The law, walked. -/
theorem differLevels_walk (n : Int) (v : Value) (xs : List Int) (w : World) (_hn : -9223372036854775808 ≤ n ∧ n ≤ 9223372036854775807) (h : IntsAt w v xs) (_hx : Fits xs) :
    Calls Try.prog 6 #[.int .i64 n, v] w fun e w' => e = .returned (.bool true) ∧ Below w.heap.size w w' := by
  by_cases hf : setFault n xs = 0
  · have hS := set_of hf
    have := hS.lo
    obtain ⟨m, rfl⟩ := Int.eq_ofNat_of_zero_le (show 0 ≤ n by omega)
    exact dlevels_ok m v xs w h hS
  · exact dlevels_bad n v xs w h hf
end Go.Proofs.Ytnmgambilpoeiaa
