/-
  The walk of QuasiAsks: it returns true, and what there was is as it was. No condition.
-/
import Derived.Test.YtkmfhnjadpdkeaaAsk4
import Derived.Test.YtkmfhnjadpdkeaaAll2
import Derived.Test.YtkmfhnjadpdkeaaLatin1
namespace Go.Proofs.Ytkmfhnjadpdkeaa
open Go.RowKit

theorem first_ge (f : Nat → Bool) : ∀ n, -1 ≤ first f n
  | 0 => by simp [first]
  | n + 1 => by have := first_ge f n; rw [first]; split <;> (try split) <;> omega

set_option maxRecDepth 100000 in
set_option maxHeartbeats 2000000 in
theorem quasiAsks_walk (s : Int) (v : Value) (xs : List Int) (w : World)
    (hs : -9223372036854775808 ≤ s ∧ s ≤ 9223372036854775807) (h : IntsAt w v xs) (_ : Fits xs) :
    Calls Try.prog 8 #[.agg #[.int .i64 s, v]] w fun e w' => e = .returned (.bool true) ∧ Below w.heap.size w w' := by
  have HB := Lib.hid (below_box w (.cells #[.int .i64 s, v] 24))
  have HI := Lib.hid (h.below HB.out)
  clear h
  cases e1 : (latinFault s xs == 0)
  · have Hne : Hid (latinFault s xs ≠ 0) := by show _ ≠ _; simpa using e1
    have e2 : (latinFault s xs != 0) = true := by simpa using Hne.out
    clear e1
    go_enter Try.func8, Try.ntmps8
    go_wp2_with fail
    refine (latinFault_any _ _ xs _ HI.out hs).mono ?_
    rintro e w1 ⟨rfl, hb⟩
    have H1 := Lib.hid hb; clear hb
    obtain ⟨hz, k0, k1⟩ := box1 H1.out
    go_wp2_with fail
    refine (unit_no s v xs _ (HI.out.below H1.out) Hne.out).mono ?_
    rintro e w2 ⟨rfl, hb⟩
    have H2 := Lib.hid (belowTrans H1.out hb); clear hb hz k0 k1
    obtain ⟨hz, k0, k1⟩ := box1 H2.out
    go_wp2_with fail
    refine (comm_no s v xs _ (HI.out.below H2.out) Hne.out).mono ?_
    rintro e w3 ⟨rfl, hb⟩
    have H3 := Lib.hid (belowTrans H2.out hb); clear hb hz k0 k1
    obtain ⟨hz, k0, k1⟩ := box1 H3.out
    go_wp2_with fail
    refine (assoc_no s v xs _ (HI.out.below H3.out) Hne.out).mono ?_
    rintro e w4 ⟨rfl, hb⟩
    have H4 := Lib.hid (belowTrans H3.out hb); clear hb hz k0 k1
    obtain ⟨hz, k0, k1⟩ := box1 H4.out
    go_wp2_with fail
    refine (idem_no s v xs _ (HI.out.below H4.out) Hne.out).mono ?_
    rintro e w5 ⟨rfl, hb⟩
    have H5 := Lib.hid (belowTrans H4.out hb); clear hb hz k0 k1
    obtain ⟨hz, k0, k1⟩ := box1 H5.out
    go_wp2_with fail
    refine (parts_no s v xs _ (HI.out.below H5.out) Hne.out).mono ?_
    rintro e w6 ⟨rfl, hb⟩
    have H6 := Lib.hid (belowTrans H5.out hb); clear hb hz k0 k1
    obtain ⟨hz, k0, k1⟩ := box1 H6.out
    go_wp2_with fail
    go_ret
    exact ⟨rfl, belowTrans HB.out H6.out⟩
  · have L0 : Hid (latinFault s xs = 0) := by show _ = _; simpa using e1
    have HL := Lib.hid (latin_of L0.out)
    clear e1
    obtain ⟨n, rfl⟩ := Int.eq_ofNat_of_zero_le (show 0 ≤ s by have := HL.out.lo; omega)
    have HU := Lib.hid (unit_yes n v xs)
    have HV := Lib.hid (unitOf_any n v xs)
    have hge := first_ge (unitU n xs) n
    obtain ⟨U, hU⟩ : ∃ U, U = first (unitU n xs) n := ⟨_, rfl⟩
    have HU1 : Hid (∀ w, IntsAt w v xs → Calls Try.prog 29 #[.agg #[.int .i64 n, v]] w fun e w' => e = .returned (.tuple #[.int .i64 (if U = -1 then 0 else U), .int .i64 (if U = -1 then 4 else 0)]) ∧ Below w.heap.size w w') := fun w h => by rw [hU]; exact HU.out w h HL.out
    have HV1 : Hid (∀ w, IntsAt w v xs → Calls Try.prog 34 #[.agg #[.int .i64 n, v]] w fun e w' => e = .returned (.int .i64 U) ∧ Below w.heap.size w w') := fun w h => by rw [hU]; exact HV.out w h HL.out
    rw [← hU] at hge
    clear hU HU HV
    obtain ⟨C, hC⟩ : ∃ C, C = allTo (commY n xs) n := ⟨_, rfl⟩
    obtain ⟨A, hA⟩ : ∃ A, A = allTo (assocY n xs) n := ⟨_, rfl⟩
    obtain ⟨I, hI⟩ : ∃ I, I = allTo (idemP n xs) n := ⟨_, rfl⟩
    obtain ⟨P, hP⟩ : ∃ P, P = partsC n xs (2 ^ n - 1) := ⟨_, rfl⟩
    have HC := Lib.hid hC; have HA := Lib.hid hA; have HId := Lib.hid hI; have HP := Lib.hid hP
    clear hC hA hI hP
    by_cases hu : U = -1
    all_goals
      have HU2 := HU1.out
      first | rw [if_pos hu, if_pos hu] at HU2 | rw [if_neg hu, if_neg hu] at HU2
      have HU3 := Lib.hid HU2
      clear HU2 HU1
      go_enter Try.func8, Try.ntmps8
      go_wp2_with fail
      refine (latinFault_any _ _ xs _ HI.out hs).mono ?_
      rw [L0.out]
      rintro e w1 ⟨rfl, hb⟩
      have H1 := Lib.hid hb; clear hb
      obtain ⟨hz, k0, k1⟩ := box1 H1.out
      go_wp2_with fail
      refine (HU3.out _ (HI.out.below H1.out)).mono ?_
      rintro e w2 ⟨rfl, hb⟩
      have H2 := Lib.hid (belowTrans H1.out hb); clear hb hz k0 k1
      obtain ⟨hz, k0, k1⟩ := box1 H2.out
      go_wp2_with fail
      refine (comm_yes n v xs _ (HI.out.below H2.out) HL.out).mono ?_
      rw [← HC.out]
      rintro e w3 ⟨rfl, hb⟩
      have H3 := Lib.hid (belowTrans H2.out hb); clear hb hz k0 k1
      obtain ⟨hz, k0, k1⟩ := box1 H3.out
      go_wp2_with fail
      refine (assoc_yes n v xs _ (HI.out.below H3.out) HL.out).mono ?_
      rw [← HA.out]
      rintro e w4 ⟨rfl, hb⟩
      have H4 := Lib.hid (belowTrans H3.out hb); clear hb hz k0 k1
      obtain ⟨hz, k0, k1⟩ := box1 H4.out
      go_wp2_with fail
      refine (idem_yes n v xs _ (HI.out.below H4.out) HL.out).mono ?_
      rw [← HId.out]
      rintro e w5 ⟨rfl, hb⟩
      have H5 := Lib.hid (belowTrans H4.out hb); clear hb hz k0 k1
      obtain ⟨hz, k0, k1⟩ := box1 H5.out
      go_wp2_with fail
      refine (parts_yes n v xs _ (HI.out.below H5.out) HL.out).mono ?_
      rw [← HP.out]
      rintro e w6 ⟨rfl, hb⟩
      have H6 := Lib.hid (belowTrans H5.out hb); clear hb hz k0 k1
      obtain ⟨hz, k0, k1⟩ := box1 H6.out
      go_wp2_with fail
      refine (HV1.out _ (HI.out.below H6.out)).mono ?_
      rintro e w7 ⟨rfl, hb⟩
      have H7 := Lib.hid (belowTrans H6.out hb); clear hb hz k0 k1
      obtain ⟨hz, k0, k1⟩ := box1 H7.out
      go_wp2_with fail
      refine (commOf_any n v xs _ (HI.out.below H7.out) HL.out).mono ?_
      rw [← HC.out]
      rintro e w8 ⟨rfl, hb⟩
      have H8 := Lib.hid (belowTrans H7.out hb); clear hb hz k0 k1
      obtain ⟨hz, k0, k1⟩ := box1 H8.out
      go_wp2_with fail
      refine (assocOf_any n v xs _ (HI.out.below H8.out) HL.out).mono ?_
      rw [← HA.out]
      rintro e w9 ⟨rfl, hb⟩
      have H9 := Lib.hid (belowTrans H8.out hb); clear hb hz k0 k1
      obtain ⟨hz, k0, k1⟩ := box1 H9.out
      go_wp2_with fail
      refine (idemOf_any n v xs _ (HI.out.below H9.out) HL.out).mono ?_
      rw [← HId.out]
      rintro e w10 ⟨rfl, hb⟩
      have H10 := Lib.hid (belowTrans H9.out hb); clear hb hz k0 k1
      obtain ⟨hz, k0, k1⟩ := box1 H10.out
      go_wp2_with fail
      refine (partsOf_any n v xs _ (HI.out.below H10.out) HL.out).mono ?_
      rw [← HP.out]
      rintro e w11 ⟨rfl, hb⟩
      have H11 := Lib.hid (belowTrans H10.out hb); clear hb hz k0 k1
      obtain ⟨hz, k0, k1⟩ := box1 H11.out
      go_wp2_with fail
      go_ret
      exact ⟨ret_bool (by simp), belowTrans HB.out H11.out⟩

end Go.Proofs.Ytkmfhnjadpdkeaa
