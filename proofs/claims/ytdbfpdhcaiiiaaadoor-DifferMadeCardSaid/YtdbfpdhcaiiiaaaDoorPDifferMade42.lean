/-
  Contracts: differ.Check, the reference's SetFault: what is wrong with a set. No condition.
-/
import Derived.Test.YtdbfpdhcaiiiaaaDoorPDifferMade4
import Derived.Test.YtdbfpdhcaiiiaaaDoorPDifferMade6
namespace Go.Proofs.YtdbfpdhcaiiiaaaDoor
open Go.RowKit

theorem dcheck1_any (x n : Int) (b : Nat) (w : World) (hc : w.cell? ⟨b, 0, none⟩ = some (.int .i64 n)) :
    Calls Tryd.prog 62 #[.int .i64 x, .pointer (some ⟨b, 0, none⟩)] w fun e w' => e = .returned (.bool (outV n x)) ∧ w = w' := by
  by_cases h1 : x < 0
  · have ed : decide (x < 0) = true := by simpa using h1
    go_enter Tryd.func62, Tryd.ntmps62
    go_wp2
    go_ret
    exact ⟨ret_bool (outV_neg h1).symm, rfl⟩
  · have Ho := Lib.hid (outV_pos (n := n) h1)
    have ed : decide (x < 0) = false := by simpa using h1
    cases e2 : decide (n ≤ x)
    all_goals
      rw [e2] at Ho
      go_enter Tryd.func62, Tryd.ntmps62
      go_wp2
      go_ret
      exact ⟨ret_bool Ho.out.symm, rfl⟩
theorem enters_dcheck (args : Array Value) (w : World) : (callFunc 62 args).run Tryd.prog w = .ok (.enter 62 args) w := by kernel_rfl

set_option maxHeartbeats 1000000 in
theorem dcheck_any (n : Int) (v : Value) (xs : List Int) (w : World) (h : IntsAt w v xs) :
    Calls Tryd.prog 39 #[.int .i64 n, v] w fun e w' => e = .returned (.int .i64 (setFault n xs)) ∧ Below w.heap.size w w' := by
  have HB := Lib.hid (below_box w (.cells #[.int .i64 n] 3))
  have HI := Lib.hid (h.below HB.out)
  have HK : Hid ((w.alloc (.cells #[.int .i64 n] 3)).cell? ⟨w.heap.size, 0, none⟩ = some (.int .i64 n)) := World.cell?_alloc_new w #[.int .i64 n] 3 0
  by_cases s1 : n < 1 ∨ 60 < n
  · have H : Hid (setFault n xs = 1) := by show _ = _; unfold setFault; rw [if_pos s1]
    by_cases s2 : n < 1
    · have ed : decide (n < 1) = true := by simpa using s2
      go_enter Tryd.func39, Tryd.ntmps39
      go_wp2
      go_ret
      exact ⟨ret_int H.out.symm, HB.out⟩
    · have ed : decide (n < 1) = false := by simpa using s2
      have ed2 : decide (60 < n) = true := by simp; omega
      go_enter Tryd.func39, Tryd.ntmps39
      go_wp2
      go_ret
      exact ⟨ret_int H.out.symm, HB.out⟩
  · have ed : decide (n < 1) = false := by simp; omega
    have ed2 : decide (60 < n) = false := by simp; omega
    have H0 : Hid (setFault n xs = if anyB (outV n) xs then 1 else if incB xs then 0 else 2) := by show _ = _; unfold setFault; rw [if_neg s1]
    have hcf := containsFunc_any 62 enters_dcheck (.pointer (some ⟨w.heap.size, 0, none⟩)) (outV n) _ xs _ HI.out (fun x => dcheck1_any x n _ _ HK.out)
    obtain ⟨a, c, rfl, h1, h2, _, h3⟩ := h
    cases ea : anyB (outV n) xs
    · have HA := Lib.hid ea
      rw [ea] at hcf
      have Hcf := Lib.hid hcf; clear hcf ea
      go_enter Tryd.func39, Tryd.ntmps39
      go_wp2_with (go_at_call 57; refine (Hcf.out).mono ?_; rintro e w' ⟨rfl, rfl⟩)
      go_loopw [5] (fun s wr => ∃ k nd : Nat, (k + 1 ≤ xs.length ∨ k = 0) ∧ s = .int .i64 ((k : Int) + 1) ∧ notInc xs k = false ∧ wr = (w.alloc (.cells #[.int .i64 n] 3)).drewN nd) (fun s _ => xs.length + 1 - (intOf s).toNat)
      case atStart => exact ⟨0, 0, .inr rfl, rfl, rfl, rfl⟩
      case round =>
        obtain ⟨k, nd, hk, rfl, hn, rfl⟩ := hrel
        have HN := Lib.hid hn; clear hn
        by_cases hlt : k + 1 < xs.length
        · obtain ⟨b, o, rfl, hb, hc⟩ := h3 k (by omega)
          have c1 := hc k (by omega)
          have c2 := hc (k + 1) hlt
          have i1 : (0 : Int) ≤ (k : Int) + 1 := by omega
          have i2 : (k : Int) + 1 < (xs.length : Int) := by omega
          have i3 : ((k : Int) + 1).toNat = k + 1 := by omega
          have i4 : IntKind.i64.wrap ((k : Int) + 1 - 1) = (k : Int) := by rw [show (k : Int) + 1 - 1 = (k : Int) by omega]; exact IntWalk.i64_in _ (by omega)
          have i5 : (k : Int) < (xs.length : Int) := by omega
          have HS : Hid (notInc xs (k + 1) = (notInc xs k || decide (ix xs (k + 1) ≤ ix xs k))) := rfl
          clear hc h3
          cases ed3 : decide (ix xs (k + 1) ≤ ix xs k)
          · have Hd := Lib.hid ed3
            go_wp2_with fail
            go_quiet (fail)
            go_wp2_with fail
            go_roundw
            case rel => exact ⟨k + 1, _, .inl (by omega), by go_num, by rw [HS.out, HN.out, Hd.out]; rfl, rfl⟩
            case measure => simp [intOf]; omega
          · have Hbad : Hid (incB xs = false) := by show _ = _; unfold incB; rw [notInc_hit (show k < xs.length - 1 by omega) (by simpa using ed3)]; rfl
            go_wp2_with fail
            go_quiet (fail)
            go_wp2_with fail
            go_ret
            exact ⟨ret_int (by rw [H0.out, HA.out, Hbad.out]; rfl), below_boxDD _ _ _ _⟩
        · have Hok : Hid (incB xs = true) := by
            show _ = _; unfold incB
            have : k = xs.length - 1 := by omega
            rw [← this, HN.out]; rfl
          have i2 : ¬ ((k : Int) + 1 < (xs.length : Int)) := by omega
          go_wp2_with fail
          go_ret
          exact ⟨ret_int (by rw [H0.out, HA.out, Hok.out]; rfl), below_drewN HB.out _⟩
    · have HA := Lib.hid ea
      rw [ea] at hcf
      have Hcf := Lib.hid hcf; clear hcf ea
      go_enter Tryd.func39, Tryd.ntmps39
      go_wp2_with (go_at_call 57; refine (Hcf.out).mono ?_; rintro e w' ⟨rfl, rfl⟩)
      go_ret
      exact ⟨ret_int (by rw [H0.out, HA.out]; rfl), HB.out⟩

theorem notInc_done {xs : List Int} {k : Nat} (h : notInc xs k = false) (hk : ¬ k + 1 < xs.length) (hk2 : k + 1 ≤ xs.length ∨ k = 0) : incB xs = true := by
  unfold incB
  have : k = xs.length - 1 := by omega
  rw [← this, h]; rfl
theorem anyV_hit {n : Int} {xs : List Int} {j : Nat} (hj : j < xs.length) (e : outV n (ix xs j) = true) : anyB (outV n) xs = true := any_of_hit hj e

set_option maxHeartbeats 1000000 in
theorem setFault_any (n : Int) (v : Value) (xs : List Int) (w : World) (h : IntsAt w v xs) :
    Calls Tryd.prog 18 #[.int .i64 n, v] w fun e w' => e = .returned (.int .i64 (setFault n xs)) ∧ Below w.heap.size w w' := by
  obtain ⟨a, c, rfl, h1, h2, _, h3⟩ := h
  have HX := Lib.hid h3; clear h3
  by_cases s1 : n < 1 ∨ 60 < n
  · have H : Hid (setFault n xs = 1) := by show _ = _; unfold setFault; rw [if_pos s1]
    by_cases s2 : n < 1
    · have ed : decide (n < 1) = true := by simpa using s2
      go_enter Tryd.func18, Tryd.ntmps18
      go_wp2
      go_ret
      exact ⟨ret_int H.out.symm, Below.refl _ _⟩
    · have ed : decide (n < 1) = false := by simpa using s2
      have ed2 : decide (60 < n) = true := by simp; omega
      go_enter Tryd.func18, Tryd.ntmps18
      go_wp2
      go_ret
      exact ⟨ret_int H.out.symm, Below.refl _ _⟩
  · have ed : decide (n < 1) = false := by simp; omega
    have ed2 : decide (60 < n) = false := by simp; omega
    have H0 : Hid (setFault n xs = if anyB (outV n) xs then 1 else if incB xs then 0 else 2) := by show _ = _; unfold setFault; rw [if_neg s1]
    go_enter Tryd.func18, Tryd.ntmps18
    go_wp2_with fail
    go_loop [5] (fun s => ∃ k : Nat, k ≤ xs.length ∧ s = .int .i64 k ∧ anyB (outV n) (xs.take k) = false) (fun s => xs.length - (intOf s).toNat)
    case atStart => exact ⟨0, by omega, rfl, by simp [anyB]⟩
    case round =>
      obtain ⟨k, hk, rfl, hn⟩ := hrel
      have HN := Lib.hid hn; clear hn
      by_cases hlt : k < xs.length
      · obtain ⟨b, o, rfl, hb, hc⟩ := HX.out k hlt
        have hcell := hc k hlt
        clear hc
        by_cases x1 : ix xs k < 0
        · have ed3 : decide (ix xs k < 0) = true := by simpa using x1
          have Hbad := Lib.hid (anyV_hit (n := n) hlt (outV_neg x1))
          go_wp2_with fail
          go_ret
          exact ⟨ret_int (by rw [H0.out, Hbad.out]; rfl), Below.refl _ _⟩
        · have ed3 : decide (ix xs k < 0) = false := by simpa using x1
          cases ed4 : decide (n ≤ ix xs k)
          · have Hok : Hid (outV n (ix xs k) = false) := by show _ = _; rw [outV_pos x1, ed4]
            go_wp2_with fail
            go_round
            case rel => exact ⟨k + 1, by omega, by go_num, by rw [any_take hlt, HN.out, Hok.out]; rfl⟩
            case measure => simp [intOf]; omega
          · have Hbad := Lib.hid (anyV_hit (n := n) hlt (by rw [outV_pos x1, ed4]))
            go_wp2_with fail
            go_ret
            exact ⟨ret_int (by rw [H0.out, Hbad.out]; rfl), Below.refl _ _⟩
      · obtain rfl : k = xs.length := by omega
        have HA : Hid (anyB (outV n) xs = false) := by show _ = _; have := HN.out; rw [List.take_length] at this; exact this
        go_wp2_with fail
        go_loopw [6] (fun s wr => ∃ k nd : Nat, (k + 1 ≤ xs.length ∨ k = 0) ∧ s = .int .i64 ((k : Int) + 1) ∧ notInc xs k = false ∧ wr = w.drewN nd) (fun s _ => xs.length + 1 - (intOf s).toNat)
        case atStart => exact ⟨0, 0, .inr rfl, rfl, rfl, rfl⟩
        case round =>
          obtain ⟨k, nd, hk, rfl, hn, rfl⟩ := hrel
          have HN := Lib.hid hn; clear hn
          by_cases hlt : k + 1 < xs.length
          · obtain ⟨b, o, rfl, hb, hc⟩ := HX.out k (by omega)
            have c1 := hc k (by omega)
            have c2 := hc (k + 1) hlt
            have i1 : (0 : Int) ≤ (k : Int) + 1 := by omega
            have i2 : (k : Int) + 1 < (xs.length : Int) := by omega
            have i3 : ((k : Int) + 1).toNat = k + 1 := by omega
            have i4 : IntKind.i64.wrap ((k : Int) + 1 - 1) = (k : Int) := by rw [show (k : Int) + 1 - 1 = (k : Int) by omega]; exact IntWalk.i64_in _ (by omega)
            have i5 : (k : Int) < (xs.length : Int) := by omega
            have HS : Hid (notInc xs (k + 1) = (notInc xs k || decide (ix xs (k + 1) ≤ ix xs k))) := rfl
            clear hc
            cases ed3 : decide (ix xs (k + 1) ≤ ix xs k)
            · have Hd := Lib.hid ed3
              go_wp2_with fail
              go_quiet (fail)
              go_wp2_with fail
              go_roundw
              case rel => exact ⟨k + 1, _, .inl (by omega), by go_num, by rw [HS.out, HN.out, Hd.out]; rfl, rfl⟩
              case measure => simp [intOf]; omega
            · have Hbad : Hid (incB xs = false) := by show _ = _; unfold incB; rw [notInc_hit (show k < xs.length - 1 by omega) (by simpa using ed3)]; rfl
              go_wp2_with fail
              go_quiet (fail)
              go_wp2_with fail
              go_ret
              exact ⟨ret_int (by rw [H0.out, HA.out, Hbad.out]; rfl), below_drewN (below_D _ _) _⟩
          · have Hok := Lib.hid (notInc_done HN.out hlt hk)
            have i2 : ¬ ((k : Int) + 1 < (xs.length : Int)) := by omega
            go_wp2_with fail
            go_ret
            exact ⟨ret_int (by rw [H0.out, HA.out, Hok.out]; rfl), below_D _ _⟩
end Go.Proofs.YtdbfpdhcaiiiaaaDoor
