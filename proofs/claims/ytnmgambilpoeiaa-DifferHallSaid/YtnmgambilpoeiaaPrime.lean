/-
  Contract: the reference's IsPrime: what it calls prime, is. No condition.
-/
import Derived.Test.YtnmgambilpoeiaaFrob
import Derived.Test.YtnmgambilpoeiaaSlice
namespace Go.Proofs.Ytnmgambilpoeiaa
open Go.RowKit

theorem prm_of {n q : Nat} (h2 : 2 ≤ n) (hq : n < q * q) (h : ∀ d, 2 ≤ d → d < q → ¬ n % d = 0) : Prm n := by
  refine ⟨h2, fun d hd hdn hdv => ?_⟩
  obtain ⟨e, rfl⟩ := hdv
  by_cases h1 : d < q
  · exact h d hd h1 (by simp)
  · have he2 : 2 ≤ e := by
      refine Classical.byContradiction fun hc => ?_
      rcases Nat.lt_or_ge e 1 with h3 | h3
      · obtain rfl : e = 0 := by omega
        simp at h2
      · obtain rfl : e = 1 := by omega
        omega
    by_cases h3 : e < q
    · exact h e he2 h3 (by simp)
    · have := Nat.mul_le_mul (show q ≤ d by omega) (show q ≤ e by omega)
      omega
theorem sq_ge (q : Nat) : q ≤ q * q := by
  rcases Nat.eq_zero_or_pos q with h | h
  · rw [h]; exact Nat.zero_le _
  · exact Nat.le_mul_of_pos_left q h
theorem sq_val {q : Nat} (h : q ≤ 1000) : Value.int .i64 (wrap64 ((q : Int) * (q : Int))) = Value.int .i64 ((q * q : Nat) : Int) ∧ q * q ≤ 1000000 := by
  have h : q * q ≤ 1000 * 1000 := Nat.mul_le_mul h h
  refine ⟨?_, by omega⟩
  rw [← Int.natCast_mul, IntWalk.wrap64_in _ (by omega)]

/-- What IsPrime hands back. -/
def PrPost (n : Nat) (w : World) : Ending → World → Prop := fun e w' => ∃ b, e = .returned (.bool b) ∧ (b = true → Prm n) ∧ w' = w

set_option maxHeartbeats 1000000 in
theorem isPrime_any (n : Nat) (hn : n ≤ 900) (w : World) :
    Calls Try.prog 28 #[.int .i64 (n : Nat)] w (PrPost n w) := by
  by_cases h2 : n < 2
  · have e1 : decide ((n : Int) < 2) = true := by simp; omega
    have e1' : decide (n < 2) = true := by simpa using h2
    clear h2
    go_enter Try.func28, Try.ntmps28
    go_wp2
    go_ret
    exact ⟨false, rfl, fun h => (by cases h), rfl⟩
  · have H2 : Hid (2 ≤ n) := by show _ ≤ _; omega
    go_enter Try.func28, Try.ntmps28
    go_wp2
    go_loop [3] (fun s => ∃ q : Nat, 2 ≤ q ∧ q ≤ n + 1 ∧ s = .int .i64 q ∧ ∀ d, 2 ≤ d → d < q → ¬ n % d = 0) (fun s => n + 2 - (intOf s).toNat)
    case atStart => exact ⟨2, by omega, by omega, rfl, fun d h1 h2 => by omega⟩
    case round =>
      obtain ⟨q, hq1, hq2, rfl, hno⟩ := hrel
      have HNo := Lib.hid hno
      clear hno
      obtain ⟨hv, hqb⟩ := sq_val (q := q) (by omega)
      have hge := sq_ge q
      have hq0 : ¬ q = 0 := by omega
      have HPq : Hid (∀ P, P = q * q → n < P → Prm n) := fun P hP hlt => prm_of H2.out (by rw [← hP]; exact hlt) HNo.out
      obtain ⟨P, hP⟩ : ∃ P, P = q * q := ⟨_, rfl⟩
      have HPq2 := Lib.hid (HPq.out P hP)
      rw [← hP] at hv hqb hge
      clear hP HPq
      by_cases hle : P ≤ n
      · by_cases hd : n % q = 0
        · have e1 : (((n : Nat) : Int) % ((q : Nat) : Int) == 0) = true := by simp; omega
          clear hd
          go_wp2
          go_ret
          exact ⟨false, rfl, fun h => (by cases h), rfl⟩
        · have e1 : (((n : Nat) : Int) % ((q : Nat) : Int) == 0) = false := by simp; omega
          have HD := Lib.hid hd
          clear hd
          go_wp2
          go_round
          case rel => exact ⟨q + 1, by omega, by omega, by go_num, fun d h1 h2 => by
            by_cases e : d = q
            · subst e; exact HD.out
            · exact HNo.out d h1 (by omega)⟩
          case measure => simp [intOf]; omega
      · have HR : Hid (Prm n) := HPq2.out (by omega)
        go_wp2
        go_ret
        exact ⟨true, rfl, fun _ => HR.out, rfl⟩
end Go.Proofs.Ytnmgambilpoeiaa
