/-
  Contracts: the reference's look at a square. No condition.
-/
import Derived.Test.YtkmfhnjadpdkeaaDoorRows
import Derived.Test.YtkmfhnjadpdkeaaDoorPure
namespace Go.Proofs.YtkmfhnjadpdkeaaDoor
open Go.RowKit

set_option maxHeartbeats 1000000 in
theorem once_any (v : Value) (xs : List Int) (n : Nat) (w : World) (h : IntsAt w v xs) (hn : 1 ≤ n) (hn' : n ≤ 64) :
    Calls Tryd.prog 25 #[.int .i64 n, v] w fun e w' => e = .returned (.bool (onceB n xs)) ∧ ∃ nd, w' = w.drewN nd := by
  obtain ⟨a, c, rfl, h1, h2, _, h3⟩ := h
  go_enter Tryd.func25, Tryd.ntmps25
  go_wp2
  go_loopw [5] (fun i wr => ∃ k nd: Nat, k ≤ xs.length ∧ i = .int .i64 k ∧ clashTo n xs k = false ∧ wr = w.drewN nd) (fun i _ => xs.length - (intOf i).toNat)
  case atStart => exact ⟨0, 0, by omega, rfl, by rfl, rfl⟩
  case round =>
    obtain ⟨i, nd, hi, rfl, hcl, rfl⟩ := hrel
    have Hcl := Lib.hid hcl; clear hcl
    by_cases hlt : i < xs.length
    · obtain ⟨b, o, rfl, hb, hc⟩ := h3 i hlt
      have hci := hc i hlt
      go_wp2
      go_loopw [6] (fun j wr => ∃ k nd: Nat, k ≤ i ∧ j = .int .i64 k ∧ clashRow n xs i k = false ∧ wr = w.drewN nd) (fun j _ => i - (intOf j).toNat)
      case atStart => exact ⟨0, nd, by omega, rfl, by rfl, rfl⟩
      case round =>
        obtain ⟨k, nd, hk, rfl, hcl, rfl⟩ := hrel
        have Hck := Lib.hid hcl; clear hcl
        by_cases hltk : k < i
        · have hck := hc k (by omega)
          have hk2 : k < xs.length := by omega
          have hq1 := wrap_dv (i := i) (n := n) (by omega)
          have hq2 := wrap_dv (i := k) (n := n) (by omega)
          clear hc h3
          rcases clash_way n xs i k with ⟨e1, ec⟩ | ⟨e1, e2, ec⟩ | ⟨e1, e2, e3, ec⟩ | ⟨e1, e2, e3, ec⟩
          all_goals
            have Hec := Lib.hid ec; clear ec
            go_wp2
            go_quiet (fail)
            clear hq1 hq2
            go_wp2
          · go_roundw
            case rel => exact ⟨k + 1, _, by omega, by go_num, by rw [clashRow, Hck.out, Hec.out]; rfl, rfl⟩
            case measure => simp [intOf]; omega
          · go_ret
            exact ⟨ret_bool (once_hit hltk hlt Hec.out).symm, _, World.drewN_drewN _ _ _⟩
          · go_ret
            exact ⟨ret_bool (once_hit hltk hlt Hec.out).symm, _, World.drewN_drewN _ _ _⟩
          · go_roundw
            case rel => exact ⟨k + 1, _, by omega, by go_num, by rw [clashRow, Hck.out, Hec.out]; rfl, rfl⟩
            case measure => simp [intOf]; omega
        · obtain rfl : k = i := by omega
          go_wp2
          go_roundw
          case rel => exact ⟨k + 1, _, by omega, by go_num, by rw [clashTo, Hcl.out, Hck.out]; rfl, rfl⟩
          case measure => simp [intOf]; omega
    · obtain rfl : i = xs.length := by omega
      go_wp2
      go_ret
      exact ⟨ret_bool (by rw [onceB, Hcl.out]; rfl), _, rfl⟩

theorem once_int (v : Value) (xs : List Int) (n : Int) (w : World) (h : IntsAt w v xs) (hn : 1 ≤ n) (hn' : n ≤ 64) :
    Calls Tryd.prog 25 #[.int .i64 n, v] w fun e w' => e = .returned (.bool (onceB n.toNat xs)) ∧ ∃ nd, w' = w.drewN nd := by
  obtain ⟨m, rfl⟩ := Int.eq_ofNat_of_zero_le (show 0 ≤ n by omega)
  exact once_any v xs m w h (by omega) (by omega)

set_option maxHeartbeats 1000000 in
theorem latinFault_any (side : Int) (v : Value) (xs : List Int) (w : World) (h : IntsAt w v xs) (hs : -9223372036854775808 ≤ side ∧ side ≤ 9223372036854775807) :
    Calls Tryd.prog 8 #[.agg #[.int .i64 side, v]] w fun e w' => e = .returned (.int .i64 (latinFault side xs)) ∧ Below w.heap.size w w' := by
  have hI := h
  obtain ⟨a, c, rfl, h1, h2, _, h3⟩ := h
  by_cases s1 : side < 1
  · go_enter Tryd.func8, Tryd.ntmps8
    go_wp2
    go_ret
    exact ⟨ret_int (by rw [latinFault, if_pos (.inl s1)]), below_box _ _⟩
  · by_cases s2 : 8 < side
    · go_enter Tryd.func8, Tryd.ntmps8
      go_wp2
      go_ret
      exact ⟨ret_int (by rw [latinFault, if_pos (.inr s2)]), below_box _ _⟩
    · have hsq := wrap_sq (s := side) (by omega) (by omega)
      have H0 : Hid (latinFault side xs = if (xs.length : Int) ≠ side * side then 2 else if badTo side xs xs.length then 1 else if onceB side.toNat xs then 0 else 6) := by
        show latinFault side xs = _
        rw [latinFault, if_neg (by omega), bad_any]
      cases t1 : ((xs.length : Int) != wrap64 (side * side))
      · have ht1 : (xs.length : Int) = side * side := by rw [hsq] at t1; simpa using t1
        have H1 := Lib.hid ht1; clear ht1 hsq
        go_enter Tryd.func8, Tryd.ntmps8
        go_wp2
        go_loopw [3] (fun i wr => ∃ k nd: Nat, k ≤ xs.length ∧ i = .int .i64 k ∧ badTo side xs k = false ∧ wr = (w.alloc (.cells #[.int .i64 side, .slice a xs.length c] 24)).drewN nd) (fun i _ => xs.length - (intOf i).toNat)
        case atStart => exact ⟨0, 0, by omega, rfl, by rfl, rfl⟩
        case round =>
          obtain ⟨i, nd, hi, rfl, hcl, rfl⟩ := hrel
          have Hcl := Lib.hid hcl; clear hcl
          by_cases hlt : i < xs.length
          · obtain ⟨b, o, rfl, hb, hc⟩ := h3 i hlt
            have hci := hc i hlt
            clear hc h3
            by_cases e1 : ix xs i < 0
            · go_wp2
              have ed : decide (ix xs i < 0) = true := by simpa using e1
              go_quiet (fail)
              go_wp2
              go_ret
              exact ⟨ret_int (by rw [H0.out, if_neg (by simpa using H1.out), if_pos (bad_hit hlt (.inl e1))]), below_boxDD _ _ _ _⟩
            · have ed : decide (ix xs i < 0) = false := by simpa using e1
              by_cases e2 : side ≤ ix xs i
              · go_wp2
                go_quiet (fail)
                go_wp2
                go_ret
                exact ⟨ret_int (by rw [H0.out, if_neg (by simpa using H1.out), if_pos (bad_hit hlt (.inr e2))]), below_boxDD _ _ _ _⟩
              · go_wp2
                go_quiet (fail)
                go_wp2
                go_roundw
                case rel => exact ⟨i + 1, _, by omega, by go_num, by rw [badTo, Hcl.out]; simp [e2]; omega, rfl⟩
                case measure => simp [intOf]; omega
          · obtain rfl : i = xs.length := by omega
            have Ho := Lib.hid (once_int _ xs side ((w.alloc (.cells #[.int .i64 side, .slice a xs.length c] 24)).drewN nd) (hI.below (below_boxD _ _ _)) (by omega) (by omega))
            cases eo : onceB side.toNat xs
            all_goals
              rw [eo] at Ho
              have Heo := Lib.hid eo; clear eo
              go_wp2_with (go_at_call 25; refine (Ho.out).mono ?_; rintro e w' ⟨rfl, nd', rfl⟩)
              go_ret
              exact ⟨ret_int (by rw [H0.out, if_neg (by simpa using H1.out), if_neg (by simpa using Hcl.out), Heo.out]; rfl), below_boxD _ _ _⟩
      · have ht1 : ¬ (xs.length : Int) = side * side := by rw [hsq] at t1; simpa using t1
        have H1 := Lib.hid ht1; clear ht1 hsq
        go_enter Tryd.func8, Tryd.ntmps8
        go_wp2
        go_ret
        exact ⟨ret_int (by rw [H0.out, if_pos H1.out]), below_box _ _⟩

end Go.Proofs.YtkmfhnjadpdkeaaDoor
