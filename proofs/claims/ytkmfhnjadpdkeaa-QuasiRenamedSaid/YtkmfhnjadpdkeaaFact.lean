/-
  Contract: the reference's Factorial. No condition.
-/
import Derived.Test.YtkmfhnjadpdkeaaRows
import Derived.Test.YtkmfhnjadpdkeaaPerm
namespace Go.Proofs.Ytkmfhnjadpdkeaa
open Go.RowKit

theorem fct_val {m : Nat} (h : m + 1 ≤ 12) : Value.int .i64 (wrap64 (((fct m : Nat) : Int) * ((m : Int) + 1))) = Value.int .i64 ((fct (m + 1) : Nat) : Int) := by
  have h1 := fct_le h
  have h2 : ((fct m : Nat) : Int) * ((m : Int) + 1) = ((fct (m + 1) : Nat) : Int) := by
    rw [fct, Int.natCast_mul, Int.mul_comm]; rfl
  rw [h2, IntWalk.wrap64_in _ ⟨by omega, by omega⟩]

set_option maxHeartbeats 400000 in
theorem fact_any (n : Nat) (w : World) (hn : n ≤ 12) :
    Calls Try.prog 54 #[.int .i64 n] w fun e w' => e = .returned (.int .i64 (fct n)) ∧ w = w' := by
  go_enter Try.func54, Try.ntmps54
  go_wp2_with fail
  go_loop [3, 4] (fun f s => ∃ m : Nat, 1 ≤ m ∧ (m ≤ n ∨ m = 1) ∧ s = .int .i64 ((m : Int) + 1) ∧ f = .int .i64 (fct m)) (fun _ s => n + 1 - (intOf s).toNat)
  case atStart => exact ⟨1, by omega, by omega, rfl, rfl⟩
  case round =>
    obtain ⟨m, hm1, hm2, rfl, rfl⟩ := hrel
    by_cases hlt : m + 1 ≤ n
    · have hb := Lib.hid (fct_val (m := m) (by omega))
      go_wp2_with fail
      go_round
      case rel => exact ⟨m + 1, by omega, by omega, by go_num, hb.out⟩
      case measure => simp [intOf]; omega
    · have he : Hid (fct m = fct n) := by
        show _ = _
        by_cases h : n = m
        · rw [h]
        · obtain rfl : m = 1 := by omega
          obtain rfl : n = 0 := by omega
          rfl
      go_wp2_with fail
      go_ret
      exact ⟨ret_int (by rw [he.out]), rfl⟩
theorem fact_int (n : Int) (w : World) (h0 : 0 ≤ n) (hn : n ≤ 12) :
    Calls Try.prog 54 #[.int .i64 n] w fun e w' => e = .returned (.int .i64 (fct n.toNat)) ∧ w = w' := by
  obtain ⟨m, rfl⟩ := Int.eq_ofNat_of_zero_le h0
  exact fact_any m w (by omega)

end Go.Proofs.Ytkmfhnjadpdkeaa
