/-
  Contract: the reference's MarksFault. No condition.
-/
import Derived.Test.YtjmmlcognmceaaaRCheck
namespace Go.Proofs.Ytjmmlcognmceaaa
open Go.RowKit

set_option maxRecDepth 100000 in
set_option maxHeartbeats 1000000 in
theorem marksFault_any (v : Value) (xs : List Int) (w : World) (h : IntsAt w v xs) :
    Calls Try.prog 20 #[v] w fun e w' => e = .returned (.int .i64 (marksFault xs)) ∧ Below w.heap.size w w' := by
  obtain ⟨a, c, rfl, h1, h2, _, h3⟩ := h
  have HX := Lib.hid h3; clear h3
  by_cases s1 : 60 < xs.length
  · have H : Hid (marksFault xs = 3) := by show _ = _; unfold marksFault; rw [if_pos s1]
    have ed : (60 : Int) < (xs.length : Int) := by omega
    go_enter Try.func20, Try.ntmps20
    go_wp2_with fail
    go_ret
    exact ⟨ret_int H.out.symm, Below.refl _ _⟩
  · have ed : ¬ ((60 : Int) < (xs.length : Int)) := by omega
    have ed0 : decide (60 < xs.length) = false := by simp; omega
    have H0 : Hid (marksFault xs = if anyB outM xs then 1 else if headB xs then 2 else if incB xs then 0 else 2) := by show _ = _; unfold marksFault; rw [if_neg s1]
    go_enter Try.func20, Try.ntmps20
    go_wp2_with fail
    go_loop [3] (fun s => ∃ k : Nat, k ≤ xs.length ∧ s = .int .i64 k ∧ anyB outM (xs.take k) = false) (fun s => xs.length - (intOf s).toNat)
    case atStart => exact ⟨0, by omega, rfl, by simp [anyB]⟩
    case round =>
      obtain ⟨k, hk, rfl, hn⟩ := hrel
      have HN := Lib.hid hn; clear hn
      by_cases hlt : k < xs.length
      · obtain ⟨b, o, rfl, hb, hc⟩ := HX.out k hlt
        have hcell := hc k hlt
        clear hc
        by_cases x1 : ix xs k < 0
        · have ed3 : decide (ix xs k < 0) = true := by simpa using x1
          have Hbad : Hid (anyB outM xs = true) := any_of_hit hlt (outM_neg x1)
          go_wp2_with fail
          go_ret
          exact ⟨ret_int (by rw [H0.out, Hbad.out]; rfl), Below.refl _ _⟩
        · have ed3 : decide (ix xs k < 0) = false := by simpa using x1
          cases ed4 : decide (1000000000 < ix xs k)
          · have Hok : Hid (outM (ix xs k) = false) := by show _ = _; rw [outM_pos x1, ed4]
            go_wp2_with fail
            go_round
            case rel => exact ⟨k + 1, by omega, by go_num, by rw [any_take hlt, HN.out, Hok.out]; rfl⟩
            case measure => simp [intOf]; omega
          · have Hbad : Hid (anyB outM xs = true) := any_of_hit hlt (by rw [outM_pos x1, ed4])
            go_wp2_with fail
            go_ret
            exact ⟨ret_int (by rw [H0.out, Hbad.out]; rfl), Below.refl _ _⟩
      · obtain rfl : k = xs.length := by omega
        have HA : Hid (anyB outM xs = false) := by show _ = _; have := HN.out; rw [List.take_length] at this; exact this
        go_wp2_with fail
        go_loopw [4] (fun s wr => ∃ i nd : Nat, i ≤ xs.length ∧ s = .int .i64 i ∧ (0 < i → headB xs = false ∧ notInc xs (i - 1) = false) ∧ wr = w.drewN nd) (fun s _ => xs.length - (intOf s).toNat)
        case atStart => exact ⟨0, 0, by omega, rfl, fun h => by omega, rfl⟩
        case round =>
          obtain ⟨i, nd, hi, rfl, hn, rfl⟩ := hrel
          have HN := Lib.hid hn; clear hn
          by_cases hlt : i < xs.length
          · obtain ⟨b, o, rfl, hb, hc⟩ := HX.out i hlt
            have c1 := hc i hlt
            have i1 : (i : Int) < (xs.length : Int) := by omega
            by_cases hi0 : i = 0
            · have g0 : ((i : Int) == 0) = true := by simp; omega
              have g1 : decide (0 < i) = false := by simp; omega
              have Hi0 := Lib.hid hi0
              have hh : headB xs = (ix xs i != 0) := by unfold headB; rw [hi0, show decide (0 < xs.length) = true by simp; omega]; rfl
              have HH := Lib.hid hh
              clear hh hi0 hc
              cases e0 : (ix xs i != 0)
              · have He := Lib.hid e0
                go_wp2_with fail
                go_quiet (fail)
                go_wp2_with fail
                go_roundw
                case rel => exact ⟨i + 1, _, by omega, by go_num, fun _ => ⟨by rw [HH.out, He.out], by rw [Hi0.out]; rfl⟩, rfl⟩
                case measure => simp [intOf]; omega
              · have He := Lib.hid e0
                go_wp2_with fail
                go_quiet (fail)
                go_wp2_with fail
                go_ret
                exact ⟨ret_int (by rw [H0.out, HA.out, HH.out, He.out]; rfl), below_drewN (below_D _ _) _⟩
            · obtain ⟨hh, hnn⟩ := HN.out (by omega)
              have HH := Lib.hid hh; have HNN := Lib.hid hnn
              have c2 := hc (i - 1) (by omega)
              have g0 : ((i : Int) == 0) = false := by simp; omega
              have g1 : decide (0 < i) = true := by simp; omega
              have g2 : (0 : Int) < (i : Int) := by omega
              have i2 : (0 : Int) ≤ (i : Int) - 1 := by omega
              have i3 : ((i : Int) - 1).toNat = i - 1 := by omega
              have i4 : IntKind.i64.wrap ((i : Int) - 1) = (i : Int) - 1 := IntWalk.i64_in _ (by omega)
              have i5 : (i : Int) - 1 < (xs.length : Int) := by omega
              have HS : Hid (notInc xs i = (notInc xs (i - 1) || decide (ix xs i ≤ ix xs (i - 1)))) := by
                show _ = _
                obtain ⟨j, rfl⟩ : ∃ j, i = j + 1 := ⟨i - 1, by omega⟩
                rfl
              clear hc hh hnn
              cases ed3 : decide (ix xs i ≤ ix xs (i - 1))
              · have Hd := Lib.hid ed3
                go_wp2_with fail
                go_quiet (fail)
                go_wp2_with fail
                go_roundw
                case rel => exact ⟨i + 1, _, by omega, by go_num, fun _ => ⟨HH.out, by show notInc xs i = false; rw [HS.out, HNN.out, Hd.out]; rfl⟩, rfl⟩
                case measure => simp [intOf]; omega
              · have Hbad : Hid (incB xs = false) := by
                  show _ = _; unfold incB
                  rw [notInc_hit (show i - 1 < xs.length - 1 by omega) (by rw [show i - 1 + 1 = i by omega]; simpa using ed3)]; rfl
                go_wp2_with fail
                go_quiet (fail)
                go_wp2_with fail
                go_ret
                exact ⟨ret_int (by rw [H0.out, HA.out, HH.out, Hbad.out]; rfl), below_drewN (below_D _ _) _⟩
          · obtain rfl : i = xs.length := by omega
            have Hok : Hid (headB xs = false ∧ incB xs = true) := by
              show _ ∧ _
              by_cases hp : 0 < xs.length
              · obtain ⟨a, b⟩ := HN.out hp
                exact ⟨a, by unfold incB; rw [b]; rfl⟩
              · have hl0 : xs.length = 0 := by omega
                exact ⟨by unfold headB; rw [hl0]; rfl, by unfold incB; rw [hl0]; rfl⟩
            go_wp2_with fail
            go_ret
            exact ⟨ret_int (by rw [H0.out, HA.out, Hok.out.1, Hok.out.2]; rfl), below_D _ _⟩
end Go.Proofs.Ytjmmlcognmceaaa
