/-
  Contract: ruler.Costas. No condition.
-/
import Derived.Test.YtnmgambilpoeiaaPermC
import Derived.Test.YtnmgambilpoeiaaCostas
namespace Go.Proofs.Ytnmgambilpoeiaa
open Go.RowKit

theorem permF_rng {xs : List Int} (h : permF xs = 0) : xs.length ≤ 12 ∧ ∀ k, k < xs.length → 0 ≤ ix xs k ∧ ix xs k < xs.length := by
  unfold permF at h
  by_cases h1 : 12 < xs.length
  · rw [if_pos h1] at h; cases h
  · rw [if_neg h1] at h
    cases h2 : anyB (outV xs.length) xs
    · exact ⟨by omega, anyV h2⟩
    · rw [h2] at h; cases h
/-- What ruler.Costas tells. -/
def costB (xs : List Int) : Bool := decide (permF xs = 0) && cosB xs
def CosPost (xs : List Int) (w : World) : Ending → World → Prop := fun d w' => d = .returned (.tuple #[.bool (costB xs), .int .i64 (permF xs)]) ∧ Below w.heap.size w w'

set_option maxRecDepth 100000 in
set_option maxHeartbeats 1000000 in
theorem costasC_any (v : Value) (xs : List Int) (w : World) (h : IntsAt w v xs) : Calls Try.prog 14 #[v] w (CosPost xs w) := by
  have HV := Lib.hid h
  have HC := Lib.hid (permCheck_any v xs w h)
  obtain ⟨a, c, rfl, _⟩ := h
  by_cases h0 : permF xs = 0
  · have hr := permF_rng h0
    have HK : Hid (∀ w1, IntsAt w1 (.slice a xs.length c) xs → Calls Try.prog 33 #[.slice a xs.length c] w1 fun e w' => e = .returned (.bool (cosB xs)) ∧ Below w1.heap.size w1 w') := fun w1 hw => costas_any _ xs w1 hw (fun k hk => by have := hr.2 k hk; omega) (by omega)
    have HE : Hid (costB xs = cosB xs ∧ permF xs = 0) := ⟨by unfold costB; simp [h0], h0⟩
    rw [h0] at HC
    clear h0 hr
    go_enter Try.func14, Try.ntmps14
    go_wp2_with fail
    refine (HC.out).mono ?_
    rintro e w1 ⟨rfl, hb⟩
    have HB1 := Lib.hid hb; clear hb
    go_wp2_with fail
    refine (HK.out _ (HV.out.below HB1.out)).mono ?_
    rintro e w2 ⟨rfl, hb⟩
    have HB2 := Lib.hid (belowTrans HB1.out hb); clear hb
    go_wp2_with fail
    go_ret2
    exact ⟨by rw [HE.out.1, HE.out.2]; rfl, HB2.out⟩
  · have HE : Hid (costB xs = false) := by show _ = _; unfold costB; simp [h0]
    have hne : (permF xs != 0) = true := by simpa using h0
    clear h0
    go_enter Try.func14, Try.ntmps14
    go_wp2_with fail
    refine (HC.out).mono ?_
    rintro e w1 ⟨rfl, hb⟩
    have HB1 := Lib.hid hb; clear hb
    go_wp2_with fail
    go_ret2
    exact ⟨by rw [HE.out]; rfl, HB1.out⟩
end Go.Proofs.Ytnmgambilpoeiaa
