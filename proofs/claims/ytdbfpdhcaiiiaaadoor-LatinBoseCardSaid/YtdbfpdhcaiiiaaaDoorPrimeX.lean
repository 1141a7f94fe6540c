/-
  Contract: the reference's IsPrime, of any number. No condition.
-/
import Derived.Test.YtdbfpdhcaiiiaaaDoorSlice
namespace Go.Proofs.YtdbfpdhcaiiiaaaDoor
open Go.RowKit

/-- Is a number one that IsPrime passes? -/
def prB (n : Nat) : Bool := decide (2 ≤ n ∧ n ≤ 100000) && decide (∀ d, d < n → 2 ≤ d → d * d ≤ n → n % d ≠ 0)
def prI (n : Int) : Bool := prB n.toNat
theorem prB_far {n : Nat} (h : ¬ (2 ≤ n ∧ n ≤ 100000)) : prB n = false := by unfold prB; rw [decide_eq_false h]; rfl
theorem prB_hit {n q : Nat} (h2 : 2 ≤ q) (hq : q * q ≤ n) (h : n % q = 0) : prB n = false := by
  unfold prB
  have h4 : q * 2 ≤ q * q := Nat.mul_le_mul (Nat.le_refl q) h2
  rw [decide_eq_false (p := ∀ d, d < n → 2 ≤ d → d * d ≤ n → n % d ≠ 0) (fun hc => hc q (by omega) h2 hq h), Bool.and_false]
theorem prB_yes {n q : Nat} (h1 : 2 ≤ n ∧ n ≤ 100000) (hq : n < q * q) (h : ∀ d, 2 ≤ d → d < q → n % d ≠ 0) : prB n = true := by
  unfold prB
  rw [decide_eq_true h1, decide_eq_true (p := ∀ d, d < n → 2 ≤ d → d * d ≤ n → n % d ≠ 0)]
  · rfl
  · intro d _ hd hdd
    refine h d hd ?_
    refine Classical.byContradiction fun hc => ?_
    have := Nat.mul_le_mul (show q ≤ d by omega) (show q ≤ d by omega)
    omega
theorem sq_up {q n : Nat} (h : q * q ≤ n) (hn : n ≤ 100000) : q ≤ 316 := by
  refine Classical.byContradiction fun hc => ?_
  have := Nat.mul_le_mul (show 317 ≤ q by omega) (show 317 ≤ q by omega)
  omega
theorem sqr_val {q : Nat} (h : q ≤ 317) : Value.int .i64 (wrap64 ((q : Int) * (q : Int))) = Value.int .i64 ((q * q : Nat) : Int) ∧ q * q ≤ 100489 := by
  have h : q * q ≤ 317 * 317 := Nat.mul_le_mul h h
  refine ⟨?_, by omega⟩
  rw [← Int.natCast_mul, IntWalk.wrap64_in _ (by omega)]

set_option maxHeartbeats 1000000 in
theorem primeX_any (n : Int) (w : World) :
    Calls Tryd.prog 45 #[.int .i64 n] w fun e w' => e = .returned (.bool (prI n)) ∧ w = w' := by
  by_cases h2 : n < 2
  · have e1 : decide (n < 2) = true := by simpa using h2
    have HP : Hid (prI n = false) := prB_far (by omega)
    clear h2
    go_enter Tryd.func45, Tryd.ntmps45
    go_wp2
    go_ret
    exact ⟨ret_bool HP.out.symm, rfl⟩
  · by_cases h3 : 100000 < n
    · have e1 : decide (n < 2) = false := by simpa using h2
      have e2 : decide (100000 < n) = true := by simpa using h3
      have HP : Hid (prI n = false) := prB_far (by omega)
      clear h2 h3
      go_enter Tryd.func45, Tryd.ntmps45
      go_wp2
      go_ret
      exact ⟨ret_bool HP.out.symm, rfl⟩
    · obtain ⟨n, rfl⟩ := Int.eq_ofNat_of_zero_le (show 0 ≤ n by omega)
      have HN : Hid (2 ≤ n ∧ n ≤ 100000) := ⟨by omega, by omega⟩
      have e1 : decide ((n : Int) < 2) = false := by simpa using h2
      have e2 : decide (100000 < (n : Int)) = false := by simpa using h3
      have hn2 : (n : Int) ≤ 100000 := by omega
      show Calls Tryd.prog 45 #[.int .i64 (n : Int)] w fun e w' => e = .returned (.bool (prB n)) ∧ w = w'
      clear h3
      go_enter Tryd.func45, Tryd.ntmps45
      go_wp2
      clear e1 e2
      go_loop [3] (fun s => ∃ q : Nat, 2 ≤ q ∧ q ≤ 317 ∧ s = .int .i64 q ∧ ∀ d, 2 ≤ d → d < q → n % d ≠ 0) (fun s => 320 - (intOf s).toNat)
      case atStart => exact ⟨2, by omega, by omega, rfl, fun d h1 h2 => by omega⟩
      case round =>
        obtain ⟨q, hq1, hq2, rfl, hno⟩ := hrel
        have HNo := Lib.hid hno
        clear hno
        obtain ⟨hv, hqb⟩ := sqr_val (q := q) (by omega)
        have hq0 : ¬ q = 0 := by omega
        have H1 : Hid (n < q * q → prB n = true) := fun h => prB_yes HN.out h HNo.out
        have H2 : Hid (q * q ≤ n → n % q = 0 → prB n = false) := fun h h' => prB_hit hq1 h h'
        have H3 : Hid (q * q ≤ n → q ≤ 316) := fun h => sq_up h HN.out.2
        obtain ⟨P, hP⟩ : ∃ P, P = q * q := ⟨_, rfl⟩
        rw [← hP] at hv hqb H1 H2 H3
        clear hP
        by_cases hle : P ≤ n
        · have h316 := H3.out hle
          by_cases hd : n % q = 0
          · have HF := Lib.hid (H2.out hle hd)
            have e1 : (((n : Nat) : Int) % ((q : Nat) : Int) == 0) = true := by simp; omega
            clear hd
            go_wp2
            go_ret
            exact ⟨ret_bool HF.out.symm, rfl⟩
          · have e1 : (((n : Nat) : Int) % ((q : Nat) : Int) == 0) = false := by simp; omega
            have HD := Lib.hid hd
            clear hd
            go_wp2
            go_round
            case rel => exact ⟨q + 1, by omega, by omega, by go_num, fun d h1 h2 => by
              by_cases e : d = q
              · subst e; exact HD.out
              · exact HNo.out d h1 (by omega)⟩
            case measure => simp [intOf]; omega
        · have HR := Lib.hid (H1.out (by omega))
          go_wp2
          go_ret
          exact ⟨ret_bool HR.out.symm, rfl⟩
end Go.Proofs.YtdbfpdhcaiiiaaaDoor
