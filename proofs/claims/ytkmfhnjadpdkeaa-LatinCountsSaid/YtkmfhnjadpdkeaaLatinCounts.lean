/-
  The walk of LatinCounts: it returns true, and what there was is as it was. No condition.
-/
import Derived.Test.YtkmfhnjadpdkeaaTransRef
import Derived.Test.YtkmfhnjadpdkeaaInter3
import Derived.Test.YtkmfhnjadpdkeaaTrans2
import Derived.Test.YtkmfhnjadpdkeaaLatin1
namespace Go.Proofs.Ytkmfhnjadpdkeaa
open Go.RowKit

set_option maxHeartbeats 1000000 in
theorem latinCounts_walk (s : Int) (v : Value) (xs : List Int) (w : World)
    (hs : -9223372036854775808 ≤ s ∧ s ≤ 9223372036854775807) (h : IntsAt w v xs) (_ : Fits xs) :
    Calls Try.prog 6 #[.agg #[.int .i64 s, v]] w fun e w' => e = .returned (.bool true) ∧ Below w.heap.size w w' := by
  have HB := Lib.hid (below_box w (.cells #[.int .i64 s, v] 24))
  have HI := Lib.hid (h.below HB.out)
  clear h
  cases e1 : (latinFault s xs == 0)
  · have e1' : latinFault s xs ≠ 0 := by simpa using e1
    have e2 : (latinFault s xs != 0) = true := by simpa using e1'
    have Hi : Hid (interCount s xs = 0) := by show _ = _; unfold interCount; rw [if_neg e1']
    have Hf : Hid (transFault s xs = latinFault s xs) := by show _ = _; unfold transFault; rw [if_pos e1']
    have Ht : Hid (transCount s xs = 0) := by show _ = _; unfold transCount; rw [if_neg (by rw [Hf.out]; exact e1')]
    clear e1'
    go_enter Try.func6, Try.ntmps6
    go_wp2_with fail
    refine (latinFault_any _ _ xs _ HI.out hs).mono ?_
    rintro e w1 ⟨rfl, hb1⟩
    obtain ⟨hz, k0, k1⟩ := box1 hb1
    go_wp2_with fail
    refine (inter_any s v xs _ (HI.out.below hb1)).mono ?_
    rw [Hi.out]
    rintro e w2 ⟨rfl, hb2⟩
    have hb02 := belowTrans hb1 hb2
    clear hz k0 k1
    obtain ⟨hz, k0, k1⟩ := box1 hb02
    go_wp2_with fail
    refine (trans_any s v xs _ (HI.out.below hb02)).mono ?_
    rw [Hf.out, Ht.out]
    rintro e w3 ⟨rfl, hb3⟩
    have hb03 := belowTrans hb02 hb3
    clear hz k0 k1
    obtain ⟨hz, k0, k1⟩ := box1 hb03
    go_wp2
    go_ret
    exact ⟨rfl, belowTrans HB.out hb03⟩
  · have l0 : latinFault s xs = 0 := by simpa using e1
    have L0 := Lib.hid l0
    have HL := Lib.hid (latin_of l0)
    clear l0 e1
    obtain ⟨n, rfl⟩ := Int.eq_ofNat_of_zero_le (show 0 ≤ s by have := HL.out.lo; omega)
    have hn8 : n ≤ 8 := by have := HL.out.hi; omega
    have Hi : Hid (interCount n xs = int0 n xs) := by show _ = _; unfold interCount; rw [if_pos L0.out, Int.toNat_natCast]
    cases e7 : decide (7 < (n : Int))
    · have h7 : ¬ 7 < (n : Int) := by simpa using e7
      have Hf : Hid (transFault n xs = 0) := by show _ = _; unfold transFault; rw [if_neg (by simpa using L0.out), if_neg h7]
      have Ht : Hid (transCount n xs = transM n xs n 0 0 0) := by show _ = _; unfold transCount; rw [if_pos Hf.out, Int.toNat_natCast]
      clear h7
      go_enter Try.func6, Try.ntmps6
      go_wp2_with fail
      refine (latinFault_any _ _ xs _ HI.out hs).mono ?_
      rw [L0.out]
      rintro e w1 ⟨rfl, hb1⟩
      obtain ⟨hz, k0, k1⟩ := box1 hb1
      go_wp2_with fail
      refine (inter_any n v xs _ (HI.out.below hb1)).mono ?_
      rw [Hi.out, L0.out]
      rintro e w2 ⟨rfl, hb2⟩
      have hb02 := belowTrans hb1 hb2
      clear hz k0 k1
      obtain ⟨hz, k0, k1⟩ := box1 hb02
      go_wp2_with fail
      refine (trans_any n v xs _ (HI.out.below hb02)).mono ?_
      rw [Hf.out, Ht.out]
      rintro e w3 ⟨rfl, hb3⟩
      have hb03 := belowTrans hb02 hb3
      clear hz k0 k1
      obtain ⟨hz, k0, k1⟩ := box1 hb03
      go_wp2_with fail
      refine (interOf_any n v xs _ (HI.out.below hb03) HL.out).mono ?_
      rintro e w4 ⟨rfl, hb4⟩
      have hb04 := belowTrans hb03 hb4
      clear hz k0 k1
      obtain ⟨hz, k0, k1⟩ := box1 hb04
      go_wp2_with fail
      refine (transOf_any n v xs _ (HI.out.below hb04) HL.out).mono ?_
      rintro e w5 ⟨rfl, hb5⟩
      go_wp2
      go_ret
      exact ⟨ret_bool (by simp), belowTrans HB.out (belowTrans hb04 hb5)⟩
    · have h7 : 7 < (n : Int) := by simpa using e7
      have Hf : Hid (transFault n xs = 3) := by show _ = _; unfold transFault; rw [if_neg (by simpa using L0.out), if_pos h7]
      have Ht : Hid (transCount n xs = 0) := by show _ = _; unfold transCount; rw [if_neg (by rw [Hf.out]; decide)]
      clear h7
      go_enter Try.func6, Try.ntmps6
      go_wp2_with fail
      refine (latinFault_any _ _ xs _ HI.out hs).mono ?_
      rw [L0.out]
      rintro e w1 ⟨rfl, hb1⟩
      obtain ⟨hz, k0, k1⟩ := box1 hb1
      go_wp2_with fail
      refine (inter_any n v xs _ (HI.out.below hb1)).mono ?_
      rw [Hi.out, L0.out]
      rintro e w2 ⟨rfl, hb2⟩
      have hb02 := belowTrans hb1 hb2
      clear hz k0 k1
      obtain ⟨hz, k0, k1⟩ := box1 hb02
      go_wp2_with fail
      refine (trans_any n v xs _ (HI.out.below hb02)).mono ?_
      rw [Hf.out, Ht.out]
      rintro e w3 ⟨rfl, hb3⟩
      have hb03 := belowTrans hb02 hb3
      clear hz k0 k1
      obtain ⟨hz, k0, k1⟩ := box1 hb03
      go_wp2_with fail
      refine (interOf_any n v xs _ (HI.out.below hb03) HL.out).mono ?_
      rintro e w4 ⟨rfl, hb4⟩
      have hb04 := belowTrans hb03 hb4
      clear hz k0 k1
      obtain ⟨hz, k0, k1⟩ := box1 hb04
      go_wp2
      go_ret
      exact ⟨rfl, belowTrans HB.out hb04⟩

end Go.Proofs.Ytkmfhnjadpdkeaa
