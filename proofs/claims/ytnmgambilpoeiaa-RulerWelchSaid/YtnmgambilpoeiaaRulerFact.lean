/-
  Contract: the closed fact on rulers. No condition.
-/
import Derived.Test.YtnmgambilpoeiaaRCheck
import Derived.Test.YtnmgambilpoeiaaWelch
namespace Go.Proofs.Ytnmgambilpoeiaa
open Go.RowKit

theorem rcheck_fine {v : Value} {xs : List Int} {w : World} (h : IntsAt w v xs) (hM : IsMarks xs) :
    Calls Try.prog 39 #[v] w fun e w' => e = .returned (.tuple #[.bool (golB xs), .int .i64 0]) ∧ Below w.heap.size w w' := by
  have := rcheck_any v xs w h
  rw [hM.fault] at this
  exact this
theorem marks_0146 : IsMarks [0, 1, 4, 6] := marks_of (by decide +kernel)
theorem gol_0146 : golB [0, 1, 4, 6] = true := by decide +kernel
theorem wl_52 : nodB (wl 5 2 4) = true := by decide +kernel
theorem intsAt_four (w : World) (a b c d : Int) : IntsAt (w.alloc (.cells #[.int .i64 a, .int .i64 b, .int .i64 c, .int .i64 d] 3)) (.slice (some ⟨w.heap.size, 0, none⟩) 4 4) [a, b, c, d] := by
  refine ⟨some ⟨w.heap.size, 0, none⟩, 4, rfl, Nat.le_refl _, by omega, (fun h => by cases h), fun i hi => ⟨w.heap.size, 0, rfl, by simp, fun j hj => ?_⟩⟩
  rw [World.cell?_alloc_new, Nat.zero_add]
  simp only [List.length_cons, List.length_nil] at hj
  rcases j with _ | _ | _ | _ | j
  · rfl
  · rfl
  · rfl
  · rfl
  · omega

set_option maxHeartbeats 1000000 in
theorem rulerFact_any (w : World) : Calls Try.prog 21 #[] w fun e w' => e = .returned (.bool true) ∧ Below w.heap.size w w' := by
  have H1 := Lib.hid (rcheck_fine (intsAt_four w 0 1 4 6) marks_0146)
  rw [gol_0146] at H1
  go_enter Try.func21, Try.ntmps21
  go_wp2_with fail
  refine (H1.out).mono ?_
  rintro e w1 ⟨rfl, hb⟩
  have HB1 := Lib.hid ((below_box w _).trans (hb.mono (by simp))); clear hb H1
  go_wp2_with fail
  refine (welch_any 5 2 _).mono ?_
  intro e w2 hp
  obtain ⟨hb, hp⟩ := hp
  rw [if_pos (show wOk 5 2 by decide)] at hp
  have e4 : ((5 : Int) - 1).toNat = 4 := rfl
  rw [e4, wl_52] at hp
  obtain ⟨v, rfl, hI⟩ := hp
  obtain ⟨va, vc, rfl, _⟩ := hI
  have hlen : (wl 5 2 4).length = 4 := wl_len 5 2 4
  rw [hlen]
  have HB2 := Lib.hid (belowTrans HB1.out hb)
  clear hb hlen e4
  go_wp2_with fail
  go_ret
  exact ⟨rfl, HB2.out⟩
end Go.Proofs.Ytnmgambilpoeiaa
