/-
  The walk of RulerCostas: it returns true, and what there was is as it was. No condition.
-/
import Derived.Test.YtnmgambilpoeiaaPermF
import Derived.Test.YtnmgambilpoeiaaCostasesOf
import Derived.Test.YtnmgambilpoeiaaWelchOf
import Derived.Test.YtnmgambilpoeiaaInts
namespace Go.Proofs.Ytnmgambilpoeiaa
open Go.RowKit

/-- What Welch's way gives: numbers, and what is wrong. -/
def welY (p r : Int) : List Int := if wOk p r ∧ nodB (wl p r (p - 1).toNat) = true then wl p r (p - 1).toNat else []
def welZ (p r : Int) : Int := if wOk p r then (if nodB (wl p r (p - 1).toNat) = true then 0 else 4) else 1
def WelUni (p r : Int) (w : World) : Ending → World → Prop := fun e w' => ∃ v, e = .returned (.tuple #[v, .int .i64 (welZ p r)]) ∧ IntsAt w' v (welY p r) ∧ Below w.heap.size w w'
theorem WelchPost.uni {p r : Int} {w w' : World} {e : Ending} (h : WelchPost p r w e w') : WelUni p r w e w' := by
  obtain ⟨hb, h⟩ := h
  unfold WelUni welY welZ
  by_cases h1 : wOk p r
  · rw [if_pos h1] at h ⊢
    by_cases h2 : nodB (wl p r (p - 1).toNat) = true
    · rw [if_pos h2] at h ⊢
      rw [if_pos ⟨h1, h2⟩]
      obtain ⟨v, e, hI⟩ := h
      exact ⟨v, e, hI, hb⟩
    · rw [if_neg h2] at h ⊢
      rw [if_neg (fun hc => h2 hc.2)]
      exact ⟨_, h, intsAt_nil _, hb⟩
  · rw [if_neg h1] at h ⊢
    rw [if_neg (fun hc => h1 hc.1)]
    exact ⟨_, h, intsAt_nil _, hb⟩
theorem cost_yes {xs : List Int} (h : permF xs = 0) : costB xs = cosB xs := by unfold costB; simp [h]
theorem cost_none {xs : List Int} (h : permF xs ≠ 0) : costB xs = false := by unfold costB; simp [h]

set_option maxRecDepth 100000 in
set_option maxHeartbeats 2000000 in
theorem rulerCostas_walk (v : Value) (xs : List Int) (p r n : Int) (w : World) (h : IntsAt w v xs) (_ : Fits xs) (_ : -9223372036854775808 ≤ p ∧ p ≤ 9223372036854775807) (_ : -9223372036854775808 ≤ r ∧ r ≤ 9223372036854775807) (_ : -9223372036854775808 ≤ n ∧ n ≤ 9223372036854775807) :
    Calls Try.prog 4 #[v, .int .i64 p, .int .i64 r, .int .i64 n] w fun e w' => e = .returned (.bool true) ∧ Below w.heap.size w w' := by
  have HI := Lib.hid h
  obtain ⟨a, c, hv, _⟩ := h
  subst hv
  have HF := Lib.hid (permFault_any _ xs w HI.out)
  have HC : Hid (∀ w1, IntsAt w1 (.slice a xs.length c) xs → Calls Try.prog 14 #[.slice a xs.length c] w1 (CosPost xs w1)) := fun w1 h1 => costasC_any _ xs w1 h1
  have HW1 : Hid (∀ w1, Calls Try.prog 16 #[.int .i64 p, .int .i64 r] w1 (WelUni p r w1)) := fun w1 => (welch_any p r w1).mono fun _ _ h => h.uni
  have HW2 : Hid (∀ w1, Calls Try.prog 17 #[.int .i64 p, .int .i64 r] w1 (WelUni p r w1)) := fun w1 => (welchOf_any p r w1).mono fun _ _ h => h.uni
  have HN1 : Hid (∀ w1, Calls Try.prog 19 #[.int .i64 n] w1 (CosNPost n w1)) := fun w1 => costases_any n w1
  have HN2 : Hid (∀ w1, Calls Try.prog 20 #[.int .i64 n] w1 (CosNPost n w1)) := fun w1 => costasesOf_any n w1
  unfold CosPost at HC
  unfold WelUni at HW1 HW2
  unfold CosNPost at HN1 HN2
  generalize welY p r = Y at *
  generalize welZ p r = Z at *
  generalize costN n = X at *
  generalize costE n = E at *
  by_cases h0 : permF xs = 0
  have HCO : Hid (∀ w1, IntsAt w1 (.slice a xs.length c) xs → Calls Try.prog 15 #[.slice a xs.length c] w1 fun e w' => e = .returned (.bool (cosB xs)) ∧ ∃ nd, w' = w1.drewN nd) := fun w1 h1 => by
    have hr := permF_rng h0
    exact costasOf_any _ xs w1 h1 (fun k hk => by have := hr.2 k hk; omega) (by omega)
  rw [cost_yes h0, h0] at HC
  rw [h0] at HF
  clear h0
  generalize cosB xs = B at *
  go_enter Try.func4, Try.ntmps4
  go_wp2_with fail
  refine (HF.out).mono ?_
  rintro e w1 ⟨rfl, nd, hw1⟩
  have H1 : Hid (Below w.heap.size w w1) := by rw [hw1]; exact below_D _ _
  clear hw1
  go_wp2_with fail
  refine (HC.out _ (HI.out.below H1.out)).mono ?_
  rintro e w2 ⟨rfl, hb⟩
  have H2 := Lib.hid (belowTrans H1.out hb); clear hb
  go_wp2_with fail
  refine (HCO.out _ (HI.out.below H2.out)).mono ?_
  rintro e w3 ⟨rfl, nd, hw3⟩
  have H3 : Hid (Below w.heap.size w w3) := by rw [hw3]; exact below_drewN H2.out _
  clear hw3 H1 H2
  go_wp2_with fail
  rotate_left
  have hne : (permF xs == 0) = false := by simpa using h0
  have hne' : (permF xs != 0) = true := by simpa using h0
  rw [cost_none h0] at HC
  clear h0
  generalize permF xs = F at *
  go_enter Try.func4, Try.ntmps4
  go_wp2_with fail
  refine (HF.out).mono ?_
  rintro e w1 ⟨rfl, nd, hw1⟩
  have H1 : Hid (Below w.heap.size w w1) := by rw [hw1]; exact below_D _ _
  clear hw1
  go_wp2_with fail
  refine (HC.out _ (HI.out.below H1.out)).mono ?_
  rintro e w3 ⟨rfl, hb⟩
  have H3 := Lib.hid (belowTrans H1.out hb); clear hb H1
  go_wp2_with fail
  rotate_left
  all_goals
    refine (HW1.out _).mono ?_
    rintro e w4 ⟨u, rfl, hI, hb⟩
    have H4 := Lib.hid (belowTrans H3.out hb)
    have HU := Lib.hid hI
    obtain ⟨ua, uc, rfl, _⟩ := hI
    clear hb
    go_wp2_with fail
    refine (HW2.out _).mono ?_
    rintro e w5 ⟨u2, rfl, hI, hb⟩
    have H5 := Lib.hid (belowTrans H4.out hb)
    have HU1 := Lib.hid (HU.out.below hb)
    have HU2 := Lib.hid hI
    obtain ⟨ua2, uc2, rfl, _⟩ := hI
    clear hb
    have HE := Lib.hid (ints_bel _ _ Y Y w5 HU1.out HU2.out)
    rw [eqI_refl] at HE
    go_wp2_with fail
    refine (HE.out).mono ?_
    rintro e w6 ⟨rfl, hb⟩
    have H6 := Lib.hid (belowTrans H5.out hb)
    clear hb
    go_wp2_with fail
    refine (HN1.out _).mono ?_
    rintro e w7 ⟨rfl, hb⟩
    have H7 := Lib.hid (belowTrans H6.out hb)
    clear hb
    go_wp2_with fail
    refine (HN2.out _).mono ?_
    rintro e w8 ⟨rfl, hb⟩
    have H8 := Lib.hid (belowTrans H7.out hb)
    clear hb
    go_wp2_with fail
    go_ret
    exact ⟨ret_bool (by simp), H8.out⟩
end Go.Proofs.Ytnmgambilpoeiaa
