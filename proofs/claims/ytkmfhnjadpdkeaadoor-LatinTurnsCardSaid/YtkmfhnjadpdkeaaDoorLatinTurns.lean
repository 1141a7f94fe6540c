/-
  The walk of LatinTurns: it returns true, and what there was is as it was, where the table of orders reads as it is laid. No condition but that.
-/
import Derived.Test.YtkmfhnjadpdkeaaDoorTurnLaw
import Derived.Test.YtkmfhnjadpdkeaaDoorConjOf
import Derived.Test.YtkmfhnjadpdkeaaDoorLatinFact
import Derived.Test.YtkmfhnjadpdkeaaDoorInter
namespace Go.Proofs.YtkmfhnjadpdkeaaDoor
open Go.RowKit

theorem interCount_lat {n : Nat} {xs : List Int} (h : IsLatin n xs) : interCount n xs = int0 n xs := by unfold interCount; rw [if_pos h.fault, Int.toNat_natCast]
theorem transFault_lat {n : Nat} {xs : List Int} (h : IsLatin n xs) : transFault n xs = if 7 < (n : Int) then 3 else 0 := by unfold transFault; rw [if_neg (by simpa using h.fault)]
theorem transCount_conj {n k : Nat} {xs : List Int} (h : IsLatin n xs) (hk : k < 6) : transCount n (conjL n xs k) = transCount n xs := by
  unfold transCount
  rw [transFault_lat h, transFault_lat (conj_latin h hk), Int.toNat_natCast, trC_all h, trC_all (conj_latin h hk), conj_trans h hk]

set_option maxRecDepth 100000 in
set_option maxHeartbeats 2000000 in
theorem latinTurns_walk (s : Int) (v : Value) (xs : List Int) (k : Int) (w : World)
    (_ : -9223372036854775808 ≤ s ∧ s ≤ 9223372036854775807) (h : IntsAt w v xs) (_ : Fits xs) (_ : -9223372036854775808 ≤ k ∧ k ≤ 9223372036854775807) (hO : OrdersAt w) :
    Calls Tryd.prog 4 #[.agg #[.int .i64 s, v], .int .i64 k] w fun e w' => e = .returned (.bool true) ∧ Below w.heap.size w w' := by
  have HB := Lib.hid (below_box w (.cells #[.int .i64 s, v] 24))
  have HI := Lib.hid (h.below HB.out)
  have HO := Lib.hid (hO.below HB.out)
  obtain ⟨a, c, rfl, _, _, _, _⟩ := id h
  clear h hO
  by_cases hf : latinFault s xs = 0
  · have HL := Lib.hid (latin_of hf)
    obtain ⟨n, rfl⟩ := Int.eq_ofNat_of_zero_le (show 0 ≤ s by have := HL.out.lo; omega)
    clear hf
    by_cases hk : k < 0 ∨ 5 < k
    · have HK := Lib.hid hk
      clear hk
      go_enter Tryd.func4, Tryd.ntmps4
      go_wp2_with fail
      refine (latinFact_any _).mono ?_
      rintro e w1 ⟨rfl, hb⟩
      have H1 := Lib.hid hb; clear hb
      obtain ⟨hz, k0, k1⟩ := box1 H1.out
      go_wp2_with fail
      refine (conj_range n k _ xs _ (HI.out.below H1.out) HL.out HK.out).mono ?_
      intro e w2 hp
      obtain ⟨rfl, hb⟩ := hp
      have H2 := Lib.hid (belowTrans (belowTrans H1.out hb) (below_box _ (.cells #[.int .i64 0, .slice none 0 0] 24))); clear hb hz k0 k1
      go_wp2_with fail
      go_ret
      exact ⟨rfl, belowTrans HB.out H2.out⟩
    · obtain ⟨k, rfl⟩ := Int.eq_ofNat_of_zero_le (show 0 ≤ k by omega)
      have hk6 : k < 6 := by omega
      have HLc := Lib.hid (conj_latin HL.out hk6)
      have hf0 : (latinFault n (conjL n xs k)) = 0 := HLc.out.fault
      have HF := Lib.hid HL.out.fault
      have HFc := Lib.hid hf0
      have HIC : Hid (interCount n (conjL n xs k) = interCount n xs) := by show _ = _; rw [interCount_lat HL.out, interCount_lat HLc.out, conj_int HL.out hk6]
      have HTF : Hid (transFault n (conjL n xs k) = transFault n xs) := by show _ = _; rw [transFault_lat HL.out, transFault_lat HLc.out]
      have HTC := Lib.hid (transCount_conj HL.out hk6)
      clear hk hf0
      go_enter Tryd.func4, Tryd.ntmps4
      go_wp2_with fail
      refine (latinFact_any _).mono ?_
      rintro e w1 ⟨rfl, hb⟩
      have H1 := Lib.hid hb; clear hb
      obtain ⟨hz, k0, k1⟩ := box1 H1.out
      go_wp2_with fail
      refine (conj_yes n k _ xs _ (HI.out.below H1.out) HL.out hk6 (HO.out.below H1.out)).mono ?_
      rintro e w2 ⟨u, rfl, hu, hb⟩
      have H2 := Lib.hid (belowTrans H1.out hb)
      obtain ⟨ua, uc, rfl, _⟩ := id hu
      have HB3 := Lib.hid (below_box w2 (.cells #[.int .i64 n, .slice ua (conjL n xs k).length uc] 24))
      have HU := Lib.hid (hu.below HB3.out)
      have H3 := Lib.hid (belowTrans H2.out HB3.out)
      clear hb hz k0 k1 hu
      generalize conjL n xs k = cs at *
      go_wp2_with fail
      refine (check_any n _ cs _ HU.out).mono ?_
      rw [HFc.out]
      rintro e w4 ⟨rfl, hb⟩
      have H4 := Lib.hid hb; clear hb
      obtain ⟨hz, k0, k1⟩ := box1 (belowTrans H3.out H4.out)
      obtain ⟨gz, g0, g1⟩ := box1 H4.out
      go_wp2_with fail
      refine (inter_any n _ xs _ (HI.out.below (belowTrans H3.out H4.out))).mono ?_
      rw [HF.out]
      rintro e w5 ⟨rfl, hb⟩
      have H5 := Lib.hid (belowTrans H4.out hb)
      clear hb hz k0 k1 gz g0 g1
      obtain ⟨hz, k0, k1⟩ := box1 (belowTrans H3.out H5.out)
      obtain ⟨gz, g0, g1⟩ := box1 H5.out
      go_wp2_with fail
      refine (inter_any n _ cs _ (HU.out.below H5.out)).mono ?_
      rw [HFc.out, HIC.out]
      rintro e w6 ⟨rfl, hb⟩
      have H6 := Lib.hid (belowTrans H5.out hb)
      clear hb hz k0 k1 gz g0 g1
      obtain ⟨hz, k0, k1⟩ := box1 (belowTrans H3.out H6.out)
      obtain ⟨gz, g0, g1⟩ := box1 H6.out
      generalize interCount n xs = I at *
      go_wp2_with fail
      refine (trans_any n _ xs _ (HI.out.below (belowTrans H3.out H6.out))).mono ?_
      rintro e w7 ⟨rfl, hb⟩
      have H7 := Lib.hid (belowTrans H6.out hb)
      clear hb hz k0 k1 gz g0 g1
      obtain ⟨hz, k0, k1⟩ := box1 (belowTrans H3.out H7.out)
      obtain ⟨gz, g0, g1⟩ := box1 H7.out
      go_wp2_with fail
      refine (trans_any n _ cs _ (HU.out.below H7.out)).mono ?_
      rw [HTC.out, HTF.out]
      rintro e w8 ⟨rfl, hb⟩
      have H8 := Lib.hid (belowTrans HB.out (belowTrans H3.out (belowTrans H7.out hb)))
      clear hb hz k0 k1 gz g0 g1
      go_wp2_with fail
      go_ret
      exact ⟨ret_bool (by simp), H8.out⟩
  · have HF := Lib.hid hf
    have hne : (latinFault s xs != 0) = true := by simpa using hf
    clear hf
    go_enter Tryd.func4, Tryd.ntmps4
    go_wp2_with fail
    refine (latinFact_any _).mono ?_
    rintro e w1 ⟨rfl, hb⟩
    have H1 := Lib.hid hb; clear hb
    obtain ⟨hz, k0, k1⟩ := box1 H1.out
    go_wp2_with fail
    refine (conj_fault s k _ xs _ (HI.out.below H1.out) HF.out).mono ?_
    intro e w2 hp
    obtain ⟨rfl, hb⟩ := hp
    have H2 := Lib.hid (belowTrans (belowTrans H1.out hb) (below_box _ (.cells #[.int .i64 0, .slice none 0 0] 24))); clear hb hz k0 k1
    go_wp2_with fail
    go_ret
    exact ⟨rfl, belowTrans HB.out H2.out⟩
end Go.Proofs.YtkmfhnjadpdkeaaDoor
