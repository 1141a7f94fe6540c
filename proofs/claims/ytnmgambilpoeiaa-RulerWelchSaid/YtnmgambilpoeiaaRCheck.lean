/-
  Contracts: ruler.Check, the reference's MarksFault: what is wrong with marks. No condition.
-/
import Derived.Test.YtnmgambilpoeiaaDCheck
import Derived.Test.YtnmgambilpoeiaaApart
namespace Go.Proofs.Ytnmgambilpoeiaa
open Go.RowKit

def outM (x : Int) : Bool := decide (x < 0 ∨ 1000000000 < x)
theorem outM_neg {x : Int} (h : x < 0) : outM x = true := by simp [outM, h]
theorem outM_pos {x : Int} (h : ¬ x < 0) : outM x = decide (1000000000 < x) := by simp [outM, h]
def headB (xs : List Int) : Bool := decide (0 < xs.length) && ix xs 0 != 0
def marksFault (xs : List Int) : Int := if 60 < xs.length then 3 else if anyB outM xs then 1 else if headB xs then 2 else if incB xs then 0 else 2
structure IsMarks (xs : List Int) : Prop where
  few : xs.length ≤ 60
  upto : Upto 1000000000 xs
  head : 0 < xs.length → ix xs 0 = 0
  inc : incB xs = true
theorem anyM {xs : List Int} (h : anyB outM xs = false) : Upto 1000000000 xs := by
  intro k hk
  unfold anyB at h
  rw [List.any_eq_false] at h
  have := h _ (ix_mem hk)
  simp [outM] at this
  omega
theorem anyM_of {xs : List Int} (h : Upto 1000000000 xs) : anyB outM xs = false := by
  unfold anyB
  rw [List.any_eq_false]
  intro x hx
  obtain ⟨i, hi, rfl⟩ := List.getElem_of_mem hx
  have := h i hi
  rw [ix_lt hi] at this
  simp [outM]; omega
theorem marks_of {xs : List Int} (h : marksFault xs = 0) : IsMarks xs := by
  unfold marksFault at h
  by_cases h1 : 60 < xs.length
  · rw [if_pos h1] at h; cases h
  · rw [if_neg h1] at h
    cases h2 : anyB outM xs
    · rw [h2] at h
      cases h3 : headB xs
      · rw [h3] at h
        cases h4 : incB xs
        · rw [h4] at h; cases h
        · refine ⟨by omega, anyM h2, fun hp => ?_, h4⟩
          unfold headB at h3
          simpa [hp] using h3
      · rw [h3] at h; cases h
    · rw [h2] at h; cases h
theorem IsMarks.fault {xs : List Int} (h : IsMarks xs) : marksFault xs = 0 := by
  have := h.few
  unfold marksFault
  have h3 : headB xs = false := by
    unfold headB
    by_cases hp : 0 < xs.length
    · rw [h.head hp]; simp
    · simp [hp]
  rw [if_neg (by omega), anyM_of h.upto, h3, h.inc]; rfl

theorem rcheck1_any (x : Int) (w : World) :
    Calls Try.prog 53 #[.int .i64 x] w fun e w' => e = .returned (.bool (outM x)) ∧ w = w' := by
  by_cases h1 : x < 0
  · have ed : decide (x < 0) = true := by simpa using h1
    go_enter Try.func53, Try.ntmps53
    go_wp2
    go_ret
    exact ⟨ret_bool (outM_neg h1).symm, rfl⟩
  · have Ho := Lib.hid (outM_pos h1)
    have ed : decide (x < 0) = false := by simpa using h1
    cases e2 : decide (1000000000 < x)
    all_goals
      rw [e2] at Ho
      go_enter Try.func53, Try.ntmps53
      go_wp2
      go_ret
      exact ⟨ret_bool Ho.out.symm, rfl⟩
theorem enters_rcheck (args : Array Value) (w : World) : (callFunc 53 args).run Try.prog w = .ok (.enter 53 args) w := by kernel_rfl

set_option maxHeartbeats 1000000 in
theorem rcheck_any (v : Value) (xs : List Int) (w : World) (h : IntsAt w v xs) :
    Calls Try.prog 39 #[v] w fun e w' => e = .returned (.tuple #[.bool (marksFault xs == 0 && golB xs), .int .i64 (marksFault xs)]) ∧ Below w.heap.size w w' := by
  have HI := Lib.hid h
  obtain ⟨a, c, rfl, h1, h2, _, h3⟩ := h
  have HX := Lib.hid h3; clear h3
  by_cases s1 : 60 < xs.length
  · have H : Hid (marksFault xs = 3) := by show _ = _; unfold marksFault; rw [if_pos s1]
    have ed : (60 : Int) < (xs.length : Int) := by omega
    go_enter Try.func39, Try.ntmps39
    go_wp2_with fail
    go_ret2
    exact ⟨by rw [H.out]; rfl, Below.refl _ _⟩
  · have ed : ¬ ((60 : Int) < (xs.length : Int)) := by omega
    have ed0 : decide (60 < xs.length) = false := by simp; omega
    have hcf := containsFunc0_any 53 enters_rcheck outM _ xs _ HI.out (fun x => rcheck1_any x _)
    have H0 : Hid (marksFault xs = if anyB outM xs then 1 else if headB xs then 2 else if incB xs then 0 else 2) := by show _ = _; unfold marksFault; rw [if_neg s1]
    cases ea : anyB outM xs
    · have HA := Lib.hid ea
      have HU := Lib.hid (anyM ea)
      rw [ea] at hcf
      have Hcf := Lib.hid hcf; clear hcf ea
      cases eh : headB xs
      · have HH := Lib.hid eh
        have hp0 : 0 < xs.length → (ix xs 0 != 0) = false := by
          intro hp; unfold headB at eh; simpa [hp] using eh
        clear eh
        have HP := Lib.hid hp0; clear hp0
        have main : Hid (∀ nd, Calls Try.prog 54 #[.slice a xs.length c] (w.drewN nd) fun e w' => e = .returned (.bool (golB xs)) ∧ Below (w.drewN nd).heap.size (w.drewN nd) w') := fun nd => apart_any _ xs (w.drewN nd) HI.out HU.out (by omega)
        by_cases hp : 0 < xs.length
        · obtain ⟨b, o, rfl, hb, hc⟩ := HX.out 0 hp
          have c0 := hc 0 hp
          rw [Nat.add_zero] at c0
          have e0 := HP.out hp
          have hpi : (0 : Int) < (xs.length : Int) := by omega
          have HC := Lib.hid hc
          clear hc
          go_enter Try.func39, Try.ntmps39
          go_wp2_with (go_at_call 41; refine (Hcf.out).mono ?_; rintro e w' ⟨rfl, rfl⟩)
          clear c0 e0
          go_loopw [4] (fun s wr => ∃ k nd : Nat, k + 1 ≤ xs.length ∧ s = .int .i64 ((k : Int) + 1) ∧ notInc xs k = false ∧ wr = w.drewN nd) (fun s _ => xs.length + 1 - (intOf s).toNat)
          case atStart => exact ⟨0, 0, hp, rfl, rfl, rfl⟩
          case round =>
            obtain ⟨k, nd, hk, rfl, hn, rfl⟩ := hrel
            have HN := Lib.hid hn; clear hn
            by_cases hlt : k + 1 < xs.length
            · have c1 := HC.out k (by omega)
              have c2 := HC.out (k + 1) hlt
              have i1 : (0 : Int) ≤ (k : Int) + 1 := by omega
              have i2 : (k : Int) + 1 < (xs.length : Int) := by omega
              have i3 : ((k : Int) + 1).toNat = k + 1 := by omega
              have i4 : IntKind.i64.wrap ((k : Int) + 1 - 1) = (k : Int) := by rw [show (k : Int) + 1 - 1 = (k : Int) by omega]; exact IntWalk.i64_in _ (by omega)
              have i5 : (k : Int) < (xs.length : Int) := by omega
              have HS : Hid (notInc xs (k + 1) = (notInc xs k || decide (ix xs (k + 1) ≤ ix xs k))) := rfl
              cases ed3 : decide (ix xs (k + 1) ≤ ix xs k)
              · have Hd := Lib.hid ed3
                go_wp2_with fail
                go_quiet (fail)
                go_wp2_with fail
                go_roundw
                case rel => exact ⟨k + 1, _, by omega, by go_num, by rw [HS.out, HN.out, Hd.out]; rfl, rfl⟩
                case measure => simp [intOf]; omega
              · have Hbad : Hid (incB xs = false) := by show _ = _; unfold incB; rw [notInc_hit (show k < xs.length - 1 by omega) (by simpa using ed3)]; rfl
                go_wp2_with fail
                go_quiet (fail)
                go_wp2_with fail
                go_ret2
                exact ⟨by rw [H0.out, HA.out, HH.out, Hbad.out]; rfl, below_drewN (below_D _ _) _⟩
            · have Hok := Lib.hid (notInc_done HN.out hlt (.inl hk))
              have i2 : ¬ ((k : Int) + 1 < (xs.length : Int)) := by omega
              go_wp2_with fail
              refine (main.out nd).mono ?_
              rintro e w1 ⟨rfl, hb1⟩
              have HB1 : Hid (Below w.heap.size w w1) := (below_D w nd).trans hb1
              clear hb1
              go_wp2_with fail
              go_ret2
              exact ⟨by rw [H0.out, HA.out, HH.out, Hok.out]; rfl, HB1.out⟩
        · have hl0 : xs.length = 0 := by omega
          have Hok : Hid (incB xs = true) := by show _ = _; unfold incB; rw [hl0]; rfl
          have hpi : ¬ ((0 : Int) < (xs.length : Int)) := by omega
          have hpd : decide (0 < xs.length) = false := by rw [hl0]; rfl
          have hpi2 : ¬ ((1 : Int) < (xs.length : Int)) := by omega
          clear hl0 hp
          go_enter Try.func39, Try.ntmps39
          go_wp2_with (go_at_call 41; refine (Hcf.out).mono ?_; rintro e w' ⟨rfl, rfl⟩)
          refine wp_loop_rounds 1 ?_
          rw [rounds_succ]
          go_wp2_with fail
          refine (main.out 0).mono ?_
          rintro e w1 ⟨rfl, hb1⟩
          have HB1 : Hid (Below w.heap.size w w1) := hb1
          clear hb1
          go_wp2_with fail
          go_ret2
          exact ⟨by rw [H0.out, HA.out, HH.out, Hok.out]; rfl, HB1.out⟩
      · have HH := Lib.hid eh
        have hp : 0 < xs.length ∧ (ix xs 0 != 0) = true := by
          unfold headB at eh; simpa using eh
        obtain ⟨hp, e0⟩ := hp
        obtain ⟨b, o, rfl, hb, hc⟩ := HX.out 0 hp
        have c0 := hc 0 hp
        rw [Nat.add_zero] at c0
        have hpi : (0 : Int) < (xs.length : Int) := by omega
        clear hc eh
        go_enter Try.func39, Try.ntmps39
        go_wp2_with (go_at_call 41; refine (Hcf.out).mono ?_; rintro e w' ⟨rfl, rfl⟩)
        go_ret2
        exact ⟨by rw [H0.out, HA.out, HH.out]; rfl, Below.refl _ _⟩
    · have HA := Lib.hid ea
      rw [ea] at hcf
      have Hcf := Lib.hid hcf; clear hcf ea
      go_enter Try.func39, Try.ntmps39
      go_wp2_with (go_at_call 41; refine (Hcf.out).mono ?_; rintro e w' ⟨rfl, rfl⟩)
      go_ret2
      exact ⟨by rw [H0.out, HA.out]; rfl, Below.refl _ _⟩
end Go.Proofs.Ytnmgambilpoeiaa
