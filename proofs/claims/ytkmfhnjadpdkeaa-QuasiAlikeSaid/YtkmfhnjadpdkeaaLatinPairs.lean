/-
  The walk of LatinPairs: it returns true, and what there was is as it was. No condition.
-/
import Derived.Test.YtkmfhnjadpdkeaaLatin5
namespace Go.Proofs.Ytkmfhnjadpdkeaa
open Go.RowKit

theorem orth_with {s t : Int} {v u : Value} {xs ys : List Int} (w : World) (h : IntsAt w v xs) (g : IntsAt w u ys) {b : Bool} {f : Int}
    (hf : orthFault s xs t ys = f) (hb : (orthFault s xs t ys == 0 && orthB xs ys) = b) :
    Calls Try.prog 14 #[.agg #[.int .i64 s, v], .agg #[.int .i64 t, u]] w fun e w' => e = .returned (.tuple #[.bool b, .int .i64 f]) ∧ Below w.heap.size w w' := by
  subst hf; subst hb; exact orth_any s t v u xs ys w h g

set_option maxHeartbeats 1000000 in
theorem latinPairs_walk (s : Int) (v : Value) (xs : List Int) (t : Int) (u : Value) (ys : List Int) (w : World)
    (hs : -9223372036854775808 ≤ s ∧ s ≤ 9223372036854775807) (h : IntsAt w v xs) (_ : Fits xs) (ht : -9223372036854775808 ≤ t ∧ t ≤ 9223372036854775807) (g : IntsAt w u ys) (_ : Fits ys) :
    Calls Try.prog 3 #[.agg #[.int .i64 s, v], .agg #[.int .i64 t, u]] w fun e w' => e = .returned (.bool true) ∧ Below w.heap.size w w' := by
  have HBW := Lib.hid (belowTrans (below_box w (.cells #[.int .i64 s, v] 24)) (below_box _ (.cells #[.int .i64 t, u] 24)))
  have hI := Lib.hid (h.below HBW.out)
  have gI := Lib.hid (g.below HBW.out)
  clear h g
  cases e1 : (latinFault s xs != 0)
  · have e1' : (latinFault s xs == 0) = true := by simpa using e1
    have l1 : latinFault s xs = 0 := by simpa using e1
    have L1 := Lib.hid l1; clear l1
    cases e2 : (latinFault t ys != 0)
    · have e2' : (latinFault t ys == 0) = true := by simpa using e2
      have l2 : latinFault t ys = 0 := by simpa using e2
      have L2 := Lib.hid l2; clear l2
      have hlen : s = t → xs.length ≤ ys.length := fun hst => by
        have := (latin_of L1.out).len; have := (latin_of L2.out).len
        subst hst; omega
      cases e3 : (s != t)
      · have hs' : s = t := by simpa using e3
        have Hlen := Lib.hid (hlen hs'); clear hlen
        have Hf : Hid (orthFault s xs t ys = 0) := by show _ = _; rw [orthFault, if_neg (by simpa using e1), if_neg (by simpa using e2), if_neg (by simpa using e3)]
        have Hf2 : Hid ((orthFault s xs t ys == 0 && orthB xs ys) = orthB xs ys) := by show _ = _; rw [Hf.out]; rfl
        have Hof := fun w h g => (orthOf_any s t v u xs ys w h g Hlen.out)
        have Hof := Lib.hid Hof
        subst hs'
        clear e3
        cases e4 : orthB xs ys
        all_goals
          have He4 := Lib.hid (Hf2.out.trans e4)
          have Hof := Hof.out
          rw [e4] at Hof
          have Hof := Lib.hid Hof
          clear e4
          go_enter Try.func3, Try.ntmps3
          go_wp2_with fail
          refine (latinFault_any _ _ xs _ hI.out hs).mono ?_
          rintro e w1 ⟨rfl, hb1⟩
          obtain ⟨hc1, hf1⟩ := bcell hb1
          go_wp2_with fail
          refine (latinFault_any _ _ ys _ (gI.out.below hb1) ht).mono ?_
          rintro e w2 ⟨rfl, hb2⟩
          have hb02 := belowTrans hb1 hb2
          have Hb02 := Lib.hid (belowTrans HBW.out hb02)
          clear hc1 hf1 hb1 hb2
          obtain ⟨hz1, hz2, k1, k2, k3, k4⟩ := box2 hb02
          go_wp2_with fail
          refine (orth_with _ (hI.out.below hb02) (gI.out.below hb02) Hf.out He4.out).mono ?_
          rintro e w3 ⟨rfl, hb3⟩
          have hb03 := belowTrans hb02 hb3
          clear hz1 hz2 k1 k2 k3 k4
          obtain ⟨hz1, hz2, k1, k2, k3, k4⟩ := box2 hb03
          go_wp2_with fail
          refine (Hof.out _ ((hI.out.below hb02).below hb3) ((gI.out.below hb02).below hb3)).mono ?_
          rintro e w4 ⟨rfl, hb4⟩
          go_wp2
          go_ret
          exact ⟨rfl, belowTrans Hb02.out (belowTrans hb3 hb4)⟩
      · clear hlen
        have Hf : Hid (orthFault s xs t ys = 2) := by show _ = _; rw [orthFault, if_neg (by simpa using e1), if_neg (by simpa using e2), if_pos (by simpa using e3)]
        have Hf2 : Hid ((orthFault s xs t ys == 0 && orthB xs ys) = false) := by show _ = _; rw [Hf.out]; rfl
        go_enter Try.func3, Try.ntmps3
        go_wp2_with fail
        refine (latinFault_any _ _ xs _ hI.out hs).mono ?_
        rintro e w1 ⟨rfl, hb1⟩
        obtain ⟨hc1, hf1⟩ := bcell hb1
        go_wp2_with fail
        refine (latinFault_any _ _ ys _ (gI.out.below hb1) ht).mono ?_
        rintro e w2 ⟨rfl, hb2⟩
        have hb02 := belowTrans hb1 hb2
        have Hb02 := Lib.hid (belowTrans HBW.out hb02)
        clear hc1 hf1 hb1 hb2
        obtain ⟨hz1, hz2, k1, k2, k3, k4⟩ := box2 hb02
        go_wp2_with fail
        refine (orth_with _ (hI.out.below hb02) (gI.out.below hb02) Hf.out Hf2.out).mono ?_
        rintro e w3 ⟨rfl, hb3⟩
        go_wp2
        go_ret
        exact ⟨rfl, belowTrans Hb02.out hb3⟩
    · have e2' : (latinFault t ys == 0) = false := by simpa using e2
      have Hf : Hid (orthFault s xs t ys = latinFault t ys) := by show _ = _; rw [orthFault, if_neg (by simpa using e1), if_pos (by simpa using e2)]
      have Hf2 : Hid ((orthFault s xs t ys == 0 && orthB xs ys) = false) := by show _ = _; rw [Hf.out]; simp at e2; simp [e2]
      go_enter Try.func3, Try.ntmps3
      go_wp2_with fail
      refine (latinFault_any _ _ xs _ hI.out hs).mono ?_
      rintro e w1 ⟨rfl, hb1⟩
      obtain ⟨hc1, hf1⟩ := bcell hb1
      go_wp2_with fail
      refine (latinFault_any _ _ ys _ (gI.out.below hb1) ht).mono ?_
      rintro e w2 ⟨rfl, hb2⟩
      have hb02 := belowTrans hb1 hb2
      have Hb02 := Lib.hid (belowTrans HBW.out hb02)
      clear hc1 hf1 hb1 hb2
      obtain ⟨hz1, hz2, k1, k2, k3, k4⟩ := box2 hb02
      go_wp2_with fail
      refine (orth_with _ (hI.out.below hb02) (gI.out.below hb02) Hf.out Hf2.out).mono ?_
      rintro e w3 ⟨rfl, hb3⟩
      go_wp2
      go_ret
      exact ⟨rfl, belowTrans Hb02.out hb3⟩
  · have e1' : (latinFault s xs == 0) = false := by simpa using e1
    have Hf : Hid (orthFault s xs t ys = latinFault s xs) := by show _ = _; rw [orthFault, if_pos (by simpa using e1)]
    have Hf2 : Hid ((orthFault s xs t ys == 0 && orthB xs ys) = false) := by show _ = _; rw [Hf.out]; simp at e1; simp [e1]
    go_enter Try.func3, Try.ntmps3
    go_wp2_with fail
    refine (latinFault_any _ _ xs _ hI.out hs).mono ?_
    rintro e w1 ⟨rfl, hb1⟩
    obtain ⟨hc1, hf1⟩ := bcell hb1
    go_wp2_with fail
    refine (orth_with _ (hI.out.below hb1) (gI.out.below hb1) Hf.out Hf2.out).mono ?_
    rintro e w2 ⟨rfl, hb2⟩
    go_wp2
    go_ret
    exact ⟨rfl, belowTrans HBW.out (belowTrans hb1 hb2)⟩

end Go.Proofs.Ytkmfhnjadpdkeaa
