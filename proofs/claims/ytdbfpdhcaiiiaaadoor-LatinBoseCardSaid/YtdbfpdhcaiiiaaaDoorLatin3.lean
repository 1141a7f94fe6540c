/-
  Contract: latin.Check tells what is wrong with a square. No condition.
-/
import Derived.Test.YtdbfpdhcaiiiaaaDoorLatin2
namespace Go.Proofs.YtdbfpdhcaiiiaaaDoor
open Go.RowKit

theorem any_out {side : Int} {xs : List Int} (h : anyB (outB side) xs = false) : ∀ k, k < xs.length → 0 ≤ ix xs k ∧ ix xs k < side := by
  intro k hk
  unfold anyB at h
  rw [List.any_eq_false] at h
  have := h _ (ix_mem hk)
  simp [outB] at this
  omega

set_option maxHeartbeats 1000000 in
theorem check_any (side : Int) (v : Value) (xs : List Int) (w : World) (h : IntsAt w v xs) :
    Calls Tryd.prog 36 #[.agg #[.int .i64 side, v]] w fun e w' => e = .returned (.int .i64 (latinFault side xs)) ∧ Below w.heap.size w w' := by
  have hI := h
  obtain ⟨a, c, rfl, h1, h2, _, h3⟩ := h
  have hI1 : IntsAt ((w.alloc (.cells #[.int .i64 side, .slice a xs.length c] 26)).alloc (.cells #[.int .i64 side] 3)) (.slice a xs.length c) xs :=
    (hI.below (below_box _ _)).below (below_box _ _)
  have hB1 : Below w.heap.size w ((w.alloc (.cells #[.int .i64 side, .slice a xs.length c] 26)).alloc (.cells #[.int .i64 side] 3)) :=
    belowTrans (below_box _ _) (below_box _ _)
  have HI1 := Lib.hid hI1; clear hI1
  have HB1 := Lib.hid hB1; clear hB1
  have hside : sideB side = decide (1 ≤ side ∧ side ≤ 8) := rfl
  by_cases s1 : 1 ≤ side ∧ side ≤ 8
  · obtain ⟨s1, s2⟩ := s1
    have hs : sideB side = true := by rw [hside]; simp [s1, s2]
    clear hside
    have Hs := Lib.hid (side_any side); rw [hs] at Hs; clear hs
    have hsq := wrap_sq (s := side) (by omega) (by omega)
    have H0 : Hid (latinFault side xs = if (xs.length : Int) ≠ side * side then 2 else if anyB (outB side) xs then 1 else if onceB side.toNat xs then 0 else 6) := by
      show latinFault side xs = _
      rw [latinFault, if_neg (by omega)]; rfl
    cases t1 : ((xs.length : Int) != wrap64 (side * side))
    · have ht1 : (xs.length : Int) = side * side := by rw [hsq] at t1; simpa using t1
      have H1 := Lib.hid ht1; clear ht1 hsq
      have hcf := containsFunc_any 58 enters_latinCheck (.pointer (some ⟨w.heap.size + 1, 0, none⟩)) (outB side) _ xs _ HI1.out
        (fun x => check1_any x side _ _ (by
          have := World.cell?_alloc_new (w.alloc (.cells #[.int .i64 side, .slice a xs.length c] 26)) #[.int .i64 side] 3 0
          rw [World.size_alloc] at this
          exact this))
      cases e1 : anyB (outB side) xs
      · rw [e1] at hcf
        have Hcf := Lib.hid hcf; clear hcf
        have hr := any_out e1
        have He1 := Lib.hid e1; clear e1
        have Htw := Lib.hid (twice_int _ xs side _ HI1.out s1 s2 (fun k hk => by have := hr k hk; omega)
          (by rw [H1.out]; exact Int.mul_le_mul_of_nonneg_left s2 (by omega)))
        clear hr
        cases e2 : onceB side.toNat xs
        all_goals
          rw [e2] at Htw
          have He2 := Lib.hid e2; clear e2
          go_enter Tryd.func36, Tryd.ntmps36
          go_wp2_with (first | (go_at_call 25; refine (Hs.out _).mono ?_; rintro e w' ⟨rfl, rfl⟩) | (go_at_call 57; refine (Hcf.out).mono ?_; rintro e w' ⟨rfl, rfl⟩) | (go_at_call 59; refine (Htw.out).mono ?_; rintro e w' ⟨rfl, hb⟩; have Hb := Lib.hid hb; clear hb))
          go_ret
          exact ⟨ret_int (by rw [H0.out, if_neg (by simpa using H1.out), He1.out, He2.out]; rfl), belowTrans HB1.out Hb.out⟩
      · rw [e1] at hcf
        have Hcf := Lib.hid hcf; clear hcf
        have He1 := Lib.hid e1; clear e1
        go_enter Tryd.func36, Tryd.ntmps36
        go_wp2_with (first | (go_at_call 25; refine (Hs.out _).mono ?_; rintro e w' ⟨rfl, rfl⟩) | (go_at_call 57; refine (Hcf.out).mono ?_; rintro e w' ⟨rfl, rfl⟩))
        go_ret
        exact ⟨ret_int (by rw [H0.out, if_neg (by simpa using H1.out), He1.out]; rfl), HB1.out⟩
    · have ht1 : ¬ (xs.length : Int) = side * side := by rw [hsq] at t1; simpa using t1
      have H1 := Lib.hid ht1; clear ht1 hsq
      go_enter Tryd.func36, Tryd.ntmps36
      go_wp2_with (go_at_call 25; refine (Hs.out _).mono ?_; rintro e w' ⟨rfl, rfl⟩)
      go_ret
      exact ⟨ret_int (by rw [H0.out, if_pos H1.out]), HB1.out⟩
  · have hs : sideB side = false := by rw [hside]; simp [s1]
    clear hside
    have Hs := Lib.hid (side_any side); rw [hs] at Hs; clear hs
    have H0 : Hid (latinFault side xs = 1) := by show _ = _; rw [latinFault, if_pos (by omega)]
    have H1 := Lib.hid s1; clear s1
    go_enter Tryd.func36, Tryd.ntmps36
    go_wp2_with (go_at_call 25; refine (Hs.out _).mono ?_; rintro e w' ⟨rfl, rfl⟩)
    go_ret
    exact ⟨ret_int H0.out.symm, HB1.out⟩

end Go.Proofs.YtdbfpdhcaiiiaaaDoor
