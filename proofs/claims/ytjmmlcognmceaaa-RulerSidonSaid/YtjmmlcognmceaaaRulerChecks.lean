/-
  The walk of RulerChecks: it returns true, and what there was is as it was. No condition.
-/
import Derived.Test.YtjmmlcognmceaaaSidon2
import Derived.Test.YtjmmlcognmceaaaMarksF
namespace Go.Proofs.Ytjmmlcognmceaaa
open Go.RowKit

theorem rcheck_ok {v : Value} {xs : List Int} {w : World} (h : IntsAt w v xs) (hM : IsMarks xs) :
    Calls Try.prog 21 #[v] w fun e w' => e = .returned (.tuple #[.bool (golB xs), .int .i64 0]) ∧ Below w.heap.size w w' := by
  have := rcheck_any v xs w h
  rw [hM.fault] at this
  exact this
theorem rcheck_no {v : Value} {xs : List Int} {w : World} (h : IntsAt w v xs) (hM : marksFault xs ≠ 0) :
    Calls Try.prog 21 #[v] w fun e w' => e = .returned (.tuple #[.bool false, .int .i64 (marksFault xs)]) ∧ Below w.heap.size w w' := by
  have := rcheck_any v xs w h
  have e : (marksFault xs == 0) = false := by simpa using hM
  rw [e] at this
  exact this
theorem sidon_ok {n : Int} {v : Value} {xs : List Int} {w : World} (h : IntsAt w v xs) (hS : IsSet n xs) :
    Calls Try.prog 24 #[v, .int .i64 n] w fun e w' => e = .returned (.tuple #[.bool (sidB xs n), .int .i64 0]) ∧ Below w.heap.size w w' := by
  have := sidon_any n v xs w h
  unfold sidonR at this
  rw [hS.fault] at this
  exact this
theorem sidon_no {n : Int} {v : Value} {xs : List Int} {w : World} (h : IntsAt w v xs) (hS : setFault n xs ≠ 0) :
    Calls Try.prog 24 #[v, .int .i64 n] w fun e w' => e = .returned (.tuple #[.bool false, .int .i64 (setFault n xs)]) ∧ Below w.heap.size w w' := by
  have := sidon_any n v xs w h
  unfold sidonR at this
  have e : (setFault n xs == 0) = false := by simpa using hS
  rw [e] at this
  exact this

set_option maxRecDepth 100000 in
set_option maxHeartbeats 2000000 in
theorem rulerChecks_walk (v : Value) (xs : List Int) (u : Value) (ys : List Int) (n : Int) (w : World)
    (h : IntsAt w v xs) (_ : Fits xs) (g : IntsAt w u ys) (_ : Fits ys) (_ : -9223372036854775808 ≤ n ∧ n ≤ 9223372036854775807) :
    Calls Try.prog 5 #[v, u, .int .i64 n] w fun e w' => e = .returned (.bool true) ∧ Below w.heap.size w w' := by
  have HI := Lib.hid h; have GI := Lib.hid g
  obtain ⟨a, c, hv, _⟩ := h
  obtain ⟨b, d, hu, _⟩ := g
  subst hv; subst hu
  by_cases hm : marksFault xs = 0
  · have HM := Lib.hid (marks_of hm)
    by_cases hs : setFault n ys = 0
    · have HS := Lib.hid (set_of hs)
      clear hm hs
      go_enter Try.func5, Try.ntmps5
      go_wp2_with fail
      refine (marksFault_any _ xs _ HI.out).mono ?_
      rw [HM.out.fault]
      rintro e w1 ⟨rfl, hb⟩
      have H1 := Lib.hid hb; clear hb
      go_wp2_with fail
      refine (rcheck_ok (HI.out.below H1.out) HM.out).mono ?_
      rintro e w2 ⟨rfl, hb⟩
      have H2 := Lib.hid (belowTrans H1.out hb); clear hb
      go_wp2_with fail
      refine (golomb_any _ xs _ (HI.out.below H2.out) HM.out.upto (by have := HM.out.few; omega)).mono ?_
      rintro e w3 ⟨rfl, hb⟩
      have H3 := Lib.hid (belowTrans H2.out hb); clear hb
      generalize golB xs = G
      go_wp2_with fail
      refine (setFault_any n _ ys _ (GI.out.below H3.out)).mono ?_
      rw [HS.out.fault]
      rintro e w4 ⟨rfl, hb⟩
      have H4 := Lib.hid (belowTrans H3.out hb); clear hb
      go_wp2_with fail
      refine (sidon_ok (GI.out.below H4.out) HS.out).mono ?_
      rintro e w5 ⟨rfl, hb⟩
      have H5 := Lib.hid (belowTrans H4.out hb); clear hb
      go_wp2_with fail
      refine (sidonOf_any n _ ys _ (GI.out.below H5.out) HS.out).mono ?_
      rintro e w6 ⟨rfl, hb⟩
      have H6 := Lib.hid (belowTrans H5.out hb); clear hb
      generalize sidB ys n = S
      go_wp2_with fail
      go_ret
      exact ⟨ret_bool (by simp), H6.out⟩
    · have HS := Lib.hid hs
      have es : (setFault n ys == 0) = false := by simpa using hs
      clear hm hs
      go_enter Try.func5, Try.ntmps5
      go_wp2_with fail
      refine (marksFault_any _ xs _ HI.out).mono ?_
      rw [HM.out.fault]
      rintro e w1 ⟨rfl, hb⟩
      have H1 := Lib.hid hb; clear hb
      go_wp2_with fail
      refine (rcheck_ok (HI.out.below H1.out) HM.out).mono ?_
      rintro e w2 ⟨rfl, hb⟩
      have H2 := Lib.hid (belowTrans H1.out hb); clear hb
      go_wp2_with fail
      refine (golomb_any _ xs _ (HI.out.below H2.out) HM.out.upto (by have := HM.out.few; omega)).mono ?_
      rintro e w3 ⟨rfl, hb⟩
      have H3 := Lib.hid (belowTrans H2.out hb); clear hb
      generalize golB xs = G
      go_wp2_with fail
      refine (setFault_any n _ ys _ (GI.out.below H3.out)).mono ?_
      rintro e w4 ⟨rfl, hb⟩
      have H4 := Lib.hid (belowTrans H3.out hb); clear hb
      go_wp2_with fail
      refine (sidon_no (GI.out.below H4.out) HS.out).mono ?_
      rintro e w5 ⟨rfl, hb⟩
      have H5 := Lib.hid (belowTrans H4.out hb); clear hb
      go_wp2_with fail
      go_ret
      exact ⟨ret_bool (by simp), H5.out⟩
  · have HM := Lib.hid hm
    have em : (marksFault xs == 0) = false := by simpa using hm
    by_cases hs : setFault n ys = 0
    · have HS := Lib.hid (set_of hs)
      clear hm hs
      go_enter Try.func5, Try.ntmps5
      go_wp2_with fail
      refine (marksFault_any _ xs _ HI.out).mono ?_
      rintro e w1 ⟨rfl, hb⟩
      have H1 := Lib.hid hb; clear hb
      go_wp2_with fail
      refine (rcheck_no (HI.out.below H1.out) HM.out).mono ?_
      rintro e w2 ⟨rfl, hb⟩
      have H3 := Lib.hid (belowTrans H1.out hb); clear hb
      go_wp2_with fail
      refine (setFault_any n _ ys _ (GI.out.below H3.out)).mono ?_
      rw [HS.out.fault]
      rintro e w4 ⟨rfl, hb⟩
      have H4 := Lib.hid (belowTrans H3.out hb); clear hb
      go_wp2_with fail
      refine (sidon_ok (GI.out.below H4.out) HS.out).mono ?_
      rintro e w5 ⟨rfl, hb⟩
      have H5 := Lib.hid (belowTrans H4.out hb); clear hb
      go_wp2_with fail
      refine (sidonOf_any n _ ys _ (GI.out.below H5.out) HS.out).mono ?_
      rintro e w6 ⟨rfl, hb⟩
      have H6 := Lib.hid (belowTrans H5.out hb); clear hb
      generalize sidB ys n = S
      go_wp2_with fail
      go_ret
      exact ⟨ret_bool (by simp), H6.out⟩
    · have HS := Lib.hid hs
      have es : (setFault n ys == 0) = false := by simpa using hs
      clear hm hs
      go_enter Try.func5, Try.ntmps5
      go_wp2_with fail
      refine (marksFault_any _ xs _ HI.out).mono ?_
      rintro e w1 ⟨rfl, hb⟩
      have H1 := Lib.hid hb; clear hb
      go_wp2_with fail
      refine (rcheck_no (HI.out.below H1.out) HM.out).mono ?_
      rintro e w2 ⟨rfl, hb⟩
      have H3 := Lib.hid (belowTrans H1.out hb); clear hb
      go_wp2_with fail
      refine (setFault_any n _ ys _ (GI.out.below H3.out)).mono ?_
      rintro e w4 ⟨rfl, hb⟩
      have H4 := Lib.hid (belowTrans H3.out hb); clear hb
      go_wp2_with fail
      refine (sidon_no (GI.out.below H4.out) HS.out).mono ?_
      rintro e w5 ⟨rfl, hb⟩
      have H5 := Lib.hid (belowTrans H4.out hb); clear hb
      go_wp2_with fail
      go_ret
      exact ⟨ret_bool (by simp), H5.out⟩
end Go.Proofs.Ytjmmlcognmceaaa
