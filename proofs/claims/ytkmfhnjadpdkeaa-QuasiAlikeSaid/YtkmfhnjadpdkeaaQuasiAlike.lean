/-
  The walk of QuasiAlike: it returns true, and what there was is as it was. No condition.
-/
import Derived.Test.YtkmfhnjadpdkeaaAlikeOf
import Derived.Test.YtkmfhnjadpdkeaaLatinPairs
import Derived.Test.YtkmfhnjadpdkeaaInts
namespace Go.Proofs.Ytkmfhnjadpdkeaa
open Go.RowKit

theorem ints_same {v u : Value} {xs : List Int} {w : World} (h : IntsAt w v xs) (g : IntsAt w u xs) :
    Calls Try.prog 41 #[v, u] w fun e w' => e = .returned (.bool true) ∧ Below w.heap.size w w' := by
  have := ints_bel v u xs xs w h g
  rw [eqI_refl] at this
  exact this

set_option maxRecDepth 100000 in
set_option maxHeartbeats 4000000 in
theorem quasiAlike_walk (s : Int) (v : Value) (xs : List Int) (t : Int) (u : Value) (ys : List Int) (w : World)
    (hs : -9223372036854775808 ≤ s ∧ s ≤ 9223372036854775807) (h : IntsAt w v xs) (_ : Fits xs) (ht : -9223372036854775808 ≤ t ∧ t ≤ 9223372036854775807) (g : IntsAt w u ys) (_ : Fits ys) :
    Calls Try.prog 9 #[.agg #[.int .i64 s, v], .agg #[.int .i64 t, u]] w fun e w' => e = .returned (.bool true) ∧ Below w.heap.size w w' := by
  have HBW := Lib.hid (belowTrans (below_box w (.cells #[.int .i64 s, v] 24)) (below_box _ (.cells #[.int .i64 t, u] 24)))
  have hI := Lib.hid (h.below HBW.out)
  have gI := Lib.hid (g.below HBW.out)
  clear h g
  by_cases l1 : latinFault s xs = 0
  · have e1 : (latinFault s xs != 0) = false := by simpa using l1
    have e1' : (latinFault s xs == 0) = true := by simpa using l1
    have L1 := Lib.hid l1
    by_cases l2 : latinFault t ys = 0
    · have e2 : (latinFault t ys != 0) = false := by simpa using l2
      have e2' : (latinFault t ys == 0) = true := by simpa using l2
      have L2 := Lib.hid l2
      by_cases hst : s = t
      · subst hst
        have e3 : (s != s) = false := by simp
        by_cases h6 : 6 < s
        · have hF : alikeF s s xs ys = 3 := by unfold alikeF; rw [if_neg (by simpa using l1), if_neg (by simpa using l2), if_neg (by simp), if_pos h6]
          have HAl : Hid (∀ W, IntsAt W v xs → IntsAt W u ys → Calls Try.prog 39 #[.agg #[.int .i64 s, v], .agg #[.int .i64 s, u]] W fun e w' => e = .returned (.tuple #[.slice none 0 0, .int .i64 (3)]) ∧ Below W.heap.size W w') := fun W h g => by
            have := alike_fb s s v u xs ys W h g L1.out (by rw [hF]; decide)
            rw [hF] at this; exact this
          have e4 : decide (6 < s) = true := by simpa using h6
          clear l1 l2 h6 hF
          go_enter Try.func9, Try.ntmps9
          go_wp2_with fail
          refine (latinFault_any _ _ xs _ hI.out hs).mono ?_
          rintro e w1 ⟨rfl, hb1⟩
          obtain ⟨hc1, hf1⟩ := bcell hb1
          go_wp2_with fail
          refine (latinFault_any _ _ ys _ (gI.out.below hb1) ht).mono ?_
          rintro e w2 ⟨rfl, hb2⟩
          have hb02 := belowTrans hb1 hb2
          have Hb02 := Lib.hid hb02
          clear hc1 hf1 hb1 hb2
          obtain ⟨hz1, hz2, k1, k2, k3, k4⟩ := box2 hb02
          clear hb02
          go_wp2_with fail
          refine (HAl.out _ (hI.out.below Hb02.out) (gI.out.below Hb02.out)).mono ?_
          rintro e w3 ⟨rfl, hb3⟩
          have Hb3 := Lib.hid (belowTrans HBW.out (belowTrans Hb02.out hb3))
          clear hb3
          go_wp2_with fail
          go_ret
          exact ⟨ret_bool (by simp), Hb3.out⟩
        · have e4 : decide (6 < s) = false := by simpa using h6
          have LX := Lib.hid (latin_of l1)
          have LY := Lib.hid (latin_of l2)
          obtain ⟨n, rfl⟩ := Int.eq_ofNat_of_zero_le (show 0 ≤ s by have := LX.out.lo; omega)
          have hn6 : n ≤ 6 := by omega
          have HAl : Hid (∀ W, IntsAt W v xs → IntsAt W u ys → Calls Try.prog 39 #[.agg #[.int .i64 (n : Int), v], .agg #[.int .i64 (n : Int), u]] W (AlikePost n xs ys W)) := fun W h g => alike_ok n v u xs ys W h g LX.out LY.out hn6
          have HAo : Hid (∀ W, IntsAt W v xs → IntsAt W u ys → Calls Try.prog 40 #[.agg #[.int .i64 (n : Int), v], .agg #[.int .i64 (n : Int), u]] W (AlikePost n xs ys W)) := fun W h g => alikeOf_any n xs ys v u W h g LX.out LY.out
          have e4' : decide (6 < n) = false := by simp; omega
          unfold AlikePost at HAl HAo
          clear l1 l2 h6
          cases eg : firR n (namB n xs ys) n []
          · rw [eg] at HAl HAo
            clear eg
            go_enter Try.func9, Try.ntmps9
            go_wp2_with fail
            refine (latinFault_any _ _ xs _ hI.out hs).mono ?_
            rintro e w1 ⟨rfl, hb1⟩
            obtain ⟨hc1, hf1⟩ := bcell hb1
            go_wp2_with fail
            refine (latinFault_any _ _ ys _ (gI.out.below hb1) ht).mono ?_
            rintro e w2 ⟨rfl, hb2⟩
            have hb02 := belowTrans hb1 hb2
            have Hb02 := Lib.hid hb02
            clear hc1 hf1 hb1 hb2
            obtain ⟨hz1, hz2, k1, k2, k3, k4⟩ := box2 hb02
            clear hb02
            go_wp2_with fail
            refine (HAl.out _ (hI.out.below Hb02.out) (gI.out.below Hb02.out)).mono ?_
            intro e w3 hp
            obtain ⟨rfl, hb3⟩ := hp
            have H3 := Lib.hid (belowTrans Hb02.out hb3)
            clear hb3 hz1 hz2 k1 k2 k3 k4
            obtain ⟨hz1, hz2, k1, k2, k3, k4⟩ := box2 H3.out
            go_wp2_with fail
            refine (HAo.out _ (hI.out.below H3.out) (gI.out.below H3.out)).mono ?_
            intro e w4 hp
            obtain ⟨rfl, hb4⟩ := hp
            have H4 := Lib.hid (belowTrans H3.out hb4)
            clear hb4
            go_wp2_with fail
            refine (ints_same (intsAt_nil _) (intsAt_nil _)).mono ?_
            rintro e w5 ⟨rfl, hb5⟩
            have H5 := Lib.hid (belowTrans HBW.out (belowTrans H4.out hb5))
            clear hb5
            go_wp2_with fail
            go_ret
            exact ⟨ret_bool (by simp), H5.out⟩
          · rw [eg] at HAl HAo
            clear eg
            go_enter Try.func9, Try.ntmps9
            go_wp2_with fail
            refine (latinFault_any _ _ xs _ hI.out hs).mono ?_
            rintro e w1 ⟨rfl, hb1⟩
            obtain ⟨hc1, hf1⟩ := bcell hb1
            go_wp2_with fail
            refine (latinFault_any _ _ ys _ (gI.out.below hb1) ht).mono ?_
            rintro e w2 ⟨rfl, hb2⟩
            have hb02 := belowTrans hb1 hb2
            have Hb02 := Lib.hid hb02
            clear hc1 hf1 hb1 hb2
            obtain ⟨hz1, hz2, k1, k2, k3, k4⟩ := box2 hb02
            clear hb02
            go_wp2_with fail
            refine (HAl.out _ (hI.out.below Hb02.out) (gI.out.below Hb02.out)).mono ?_
            intro e w3 hp
            obtain ⟨pa, pl, pc, rfl, hr, hb3⟩ := hp
            have H3 := Lib.hid (belowTrans Hb02.out hb3)
            have HR := Lib.hid hr
            clear hr
            clear hb3 hz1 hz2 k1 k2 k3 k4
            obtain ⟨hz1, hz2, k1, k2, k3, k4⟩ := box2 H3.out
            go_wp2_with fail
            refine (HAo.out _ (hI.out.below H3.out) (gI.out.below H3.out)).mono ?_
            intro e w4 hp
            obtain ⟨qa, ql, qc, rfl, hr2, hb4⟩ := hp
            have H4 := Lib.hid (belowTrans H3.out hb4)
            have HR1 := Lib.hid (HR.out.below hb4)
            have HR2 := Lib.hid hr2
            clear hr2 hb4
            go_wp2_with fail
            refine (ints_same HR1.out HR2.out).mono ?_
            rintro e w5 ⟨rfl, hb5⟩
            have H5 := Lib.hid (belowTrans HBW.out (belowTrans H4.out hb5))
            clear hb5
            go_wp2_with fail
            go_ret
            exact ⟨ret_bool (by simp), H5.out⟩
      · have e3 : (s != t) = true := by simpa using hst
        have hF : alikeF s t xs ys = 2 := by unfold alikeF; rw [if_neg (by simpa using l1), if_neg (by simpa using l2), if_pos hst]
        have HAl : Hid (∀ W, IntsAt W v xs → IntsAt W u ys → Calls Try.prog 39 #[.agg #[.int .i64 s, v], .agg #[.int .i64 t, u]] W fun e w' => e = .returned (.tuple #[.slice none 0 0, .int .i64 (2)]) ∧ Below W.heap.size W w') := fun W h g => by
          have := alike_fb s t v u xs ys W h g L1.out (by rw [hF]; decide)
          rw [hF] at this; exact this
        clear l1 l2 hst hF
        go_enter Try.func9, Try.ntmps9
        go_wp2_with fail
        refine (latinFault_any _ _ xs _ hI.out hs).mono ?_
        rintro e w1 ⟨rfl, hb1⟩
        obtain ⟨hc1, hf1⟩ := bcell hb1
        go_wp2_with fail
        refine (latinFault_any _ _ ys _ (gI.out.below hb1) ht).mono ?_
        rintro e w2 ⟨rfl, hb2⟩
        have hb02 := belowTrans hb1 hb2
        have Hb02 := Lib.hid hb02
        clear hc1 hf1 hb1 hb2
        obtain ⟨hz1, hz2, k1, k2, k3, k4⟩ := box2 hb02
        clear hb02
        go_wp2_with fail
        refine (HAl.out _ (hI.out.below Hb02.out) (gI.out.below Hb02.out)).mono ?_
        rintro e w3 ⟨rfl, hb3⟩
        have Hb3 := Lib.hid (belowTrans HBW.out (belowTrans Hb02.out hb3))
        clear hb3
        go_wp2_with fail
        go_ret
        exact ⟨ret_bool (by simp), Hb3.out⟩
    · have e2 : (latinFault t ys != 0) = true := by simpa using l2
      have e2' : (latinFault t ys == 0) = false := by simpa using l2
      have hF : alikeF s t xs ys = latinFault t ys := by unfold alikeF; rw [if_neg (by simpa using l1), if_pos l2]
      have HAl : Hid (∀ W, IntsAt W v xs → IntsAt W u ys → Calls Try.prog 39 #[.agg #[.int .i64 s, v], .agg #[.int .i64 t, u]] W fun e w' => e = .returned (.tuple #[.slice none 0 0, .int .i64 (latinFault t ys)]) ∧ Below W.heap.size W w') := fun W h g => by
        have := alike_fb s t v u xs ys W h g L1.out (by rw [hF]; exact l2)
        rw [hF] at this; exact this
      clear l1 l2 hF
      go_enter Try.func9, Try.ntmps9
      go_wp2_with fail
      refine (latinFault_any _ _ xs _ hI.out hs).mono ?_
      rintro e w1 ⟨rfl, hb1⟩
      obtain ⟨hc1, hf1⟩ := bcell hb1
      go_wp2_with fail
      refine (latinFault_any _ _ ys _ (gI.out.below hb1) ht).mono ?_
      rintro e w2 ⟨rfl, hb2⟩
      have hb02 := belowTrans hb1 hb2
      have Hb02 := Lib.hid hb02
      clear hc1 hf1 hb1 hb2
      obtain ⟨hz1, hz2, k1, k2, k3, k4⟩ := box2 hb02
      clear hb02
      go_wp2_with fail
      refine (HAl.out _ (hI.out.below Hb02.out) (gI.out.below Hb02.out)).mono ?_
      rintro e w3 ⟨rfl, hb3⟩
      have Hb3 := Lib.hid (belowTrans HBW.out (belowTrans Hb02.out hb3))
      clear hb3
      go_wp2_with fail
      go_ret
      exact ⟨ret_bool (by simp), Hb3.out⟩
  · have e1 : (latinFault s xs != 0) = true := by simpa using l1
    have e1' : (latinFault s xs == 0) = false := by simpa using l1
    have HAl : Hid (∀ W, IntsAt W v xs → IntsAt W u ys → Calls Try.prog 39 #[.agg #[.int .i64 s, v], .agg #[.int .i64 t, u]] W fun e w' => e = .returned (.tuple #[.slice none 0 0, .int .i64 (latinFault s xs)]) ∧ Below W.heap.size W w') := fun W h g => by
      exact alike_fa s t v u xs W h l1
    clear l1
    go_enter Try.func9, Try.ntmps9
    go_wp2_with fail
    refine (latinFault_any _ _ xs _ hI.out hs).mono ?_
    rintro e w1 ⟨rfl, hb1⟩
    have Hb02 := Lib.hid hb1
    obtain ⟨hz1, hz2, k1, k2, k3, k4⟩ := box2 hb1
    clear hb1
    go_wp2_with fail
    refine (HAl.out _ (hI.out.below Hb02.out) (gI.out.below Hb02.out)).mono ?_
    rintro e w3 ⟨rfl, hb3⟩
    have Hb3 := Lib.hid (belowTrans HBW.out (belowTrans Hb02.out hb3))
    clear hb3
    go_wp2_with fail
    go_ret
    exact ⟨ret_bool (by simp), Hb3.out⟩
end Go.Proofs.Ytkmfhnjadpdkeaa
