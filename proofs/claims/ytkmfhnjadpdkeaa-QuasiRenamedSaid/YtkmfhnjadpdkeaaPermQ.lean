/-
  Contract: the reference's PermFault: what it passes is a permutation. No condition.
-/
import Derived.Test.YtkmfhnjadpdkeaaSlice
import Derived.Deep.QuietTactic
namespace Go.Proofs.Ytkmfhnjadpdkeaa
open Go.RowKit

structure PermQ (xs : List Int) : Prop where
  few : xs.length ≤ 12
  rng : ∀ k, k < xs.length → 0 ≤ ix xs k ∧ ix xs k < xs.length
  inj : ∀ i j, i < xs.length → j < xs.length → ix xs i = ix xs j → i = j
theorem permQ_fine {xs : List Int} (hl : ¬ 12 < xs.length) (hr : ∀ k, k < xs.length → 0 ≤ ix xs k ∧ ix xs k < xs.length) (h : ∀ i j, i < xs.length → j < i → ix xs i ≠ ix xs j) : PermQ xs := by
  refine ⟨by omega, hr, fun i j hi hj e => ?_⟩
  rcases Nat.lt_trichotomy i j with h1 | h1 | h1
  · exact absurd e.symm (h j i hj h1)
  · exact h1
  · exact absurd e (h i j hi h1)
/-- What PermFault hands back. -/
def PFPost (xs : List Int) (w : World) : Ending → World → Prop := fun e w' => ∃ z : Int, e = .returned (.int .i64 z) ∧ (z = 0 → PermQ xs) ∧ ∃ nd, w' = w.drewN nd

set_option maxRecDepth 100000 in
set_option maxHeartbeats 2000000 in
theorem permFaultQ_any (v : Value) (xs : List Int) (w : World) (h : IntsAt w v xs) :
    Calls Try.prog 45 #[v] w (PFPost xs w) := by
  obtain ⟨a, c, rfl, h1, h2, _, h3⟩ := h
  have HX := Lib.hid h3; clear h3
  by_cases hl : 12 < xs.length
  · have ed : decide (12 < xs.length) = true := by simpa using hl
    have ed' : decide ((12 : Int) < ((xs.length : Nat) : Int)) = true := by simp; omega
    clear hl
    go_enter Try.func45, Try.ntmps45
    go_wp2_with fail
    go_ret
    exact ⟨3, rfl, fun h => absurd h (by decide), 0, rfl⟩
  · have HL := Lib.hid hl
    have ed : decide (12 < xs.length) = false := by simpa using hl
    have ed' : decide ((12 : Int) < ((xs.length : Nat) : Int)) = false := by simp; omega
    have hl12 : xs.length ≤ 12 := by omega
    clear hl
    go_enter Try.func45, Try.ntmps45
    go_wp2_with fail
    go_loop [3] (fun s => ∃ i : Nat, i ≤ xs.length ∧ s = .int .i64 i ∧ ∀ k, k < i → 0 ≤ ix xs k ∧ ix xs k < xs.length) (fun s => xs.length - (intOf s).toNat)
    case atStart => exact ⟨0, by omega, rfl, fun k hk => by omega⟩
    case round =>
      obtain ⟨i, hi, rfl, hr⟩ := hrel
      have HR := Lib.hid hr
      clear hr
      by_cases hlt : i < xs.length
      · obtain ⟨b, o, rfl, hbb, hcc⟩ := HX.out i hlt
        have hci := hcc i hlt
        clear hcc
        by_cases hb : 0 ≤ ix xs i ∧ ix xs i < xs.length
        · have HRn : Hid (∀ k, k < i + 1 → 0 ≤ ix xs k ∧ ix xs k < xs.length) := fun k hk => by
            by_cases e : k = i
            · subst e; exact hb
            · exact HR.out k (by omega)
          obtain ⟨q, hq⟩ := Int.eq_ofNat_of_zero_le hb.1
          rw [hq] at hci hb
          have s1 : decide ((q : Int) < 0) = false := decide_eq_false (by omega)
          have s2 : decide (((xs.length : Nat) : Int) ≤ (q : Int)) = false := by simp; omega
          have s3 : decide (xs.length ≤ q) = false := by simp; omega
          clear hq hb
          go_wp2_with fail
          go_round
          case rel => exact ⟨i + 1, by omega, by go_num, HRn.out⟩
          case measure => simp [intOf]; omega
        · generalize ix xs i = A at *
          by_cases h0 : A < 0
          · have s1 : decide (A < 0) = true := by simpa using h0
            clear hb h0
            go_wp2_with fail
            go_ret
            exact ⟨1, rfl, fun h => absurd h (by decide), 0, rfl⟩
          · have s1 : decide (A < 0) = false := by simpa using h0
            have s2 : decide (((xs.length : Nat) : Int) ≤ A) = true := by simp; omega
            clear hb h0
            go_wp2_with fail
            go_ret
            exact ⟨1, rfl, fun h => absurd h (by decide), 0, rfl⟩
      · obtain rfl : i = xs.length := by omega
        go_wp2_with fail
        go_loopw [4] (fun s wr => ∃ i nd : Nat, i ≤ xs.length ∧ s = .int .i64 i ∧ (∀ p q, p < i → q < p → ix xs p ≠ ix xs q) ∧ wr = w.drewN nd) (fun s _ => xs.length - (intOf s).toNat)
        case atStart => exact ⟨0, 0, by omega, rfl, fun p q hp => by omega, rfl⟩
        case round =>
          obtain ⟨i, nd, hi, rfl, hN, rfl⟩ := hrel
          have HN := Lib.hid hN; clear hN
          by_cases hlt : i < xs.length
          · obtain ⟨b, o, rfl, hbb, hcc⟩ := HX.out i hlt
            have HC := Lib.hid hcc
            clear hcc
            go_wp2_with fail
            go_loopw [5] (fun s wr => ∃ j nd : Nat, j ≤ i ∧ s = .int .i64 j ∧ (∀ q, q < j → ix xs i ≠ ix xs q) ∧ wr = w.drewN nd) (fun s _ => i - (intOf s).toNat)
            case atStart => exact ⟨0, nd, by omega, rfl, fun q hq => by omega, rfl⟩
            case round =>
              obtain ⟨j, nd, hj, rfl, hM, rfl⟩ := hrel
              have HM := Lib.hid hM; clear hM
              by_cases hji : j < i
              · have c1 := HC.out i hlt
                have c2 := HC.out j (by omega)
                have i1 : ((i : Nat) : Int) < ((xs.length : Nat) : Int) := by omega
                have i2 : ((j : Nat) : Int) < ((xs.length : Nat) : Int) := by omega
                cases e : (ix xs i == ix xs j)
                · have He : Hid (ix xs i ≠ ix xs j) := by show _ ≠ _; simpa using e
                  go_wp2_with fail
                  go_quiet (fail)
                  go_wp2_with fail
                  go_roundw
                  case rel => exact ⟨j + 1, _, by omega, by go_num, fun q hq => by
                    by_cases ej : q = j
                    · subst ej; exact He.out
                    · exact HM.out q (by omega), rfl⟩
                  case measure => simp [intOf]; omega
                · go_wp2_with fail
                  go_quiet (fail)
                  go_wp2_with fail
                  go_ret
                  exact ⟨6, rfl, fun h => absurd h (by decide), _, World.drewN_drewN _ _ _⟩
              · obtain rfl : j = i := by omega
                go_wp2_with fail
                go_roundw
                case rel => exact ⟨j + 1, nd, by omega, by go_num, fun p q hp hq => by
                  by_cases e : p = j
                  · subst e; exact HM.out q hq
                  · exact HN.out p q (by omega) hq, rfl⟩
                case measure => simp [intOf]; omega
          · obtain rfl : i = xs.length := by omega
            have He : Hid (PermQ xs) := permQ_fine HL.out HR.out HN.out
            go_wp2_with fail
            go_ret
            exact ⟨0, rfl, fun _ => He.out, nd, rfl⟩
end Go.Proofs.Ytkmfhnjadpdkeaa
