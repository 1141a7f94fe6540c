/-
  Contracts: the greatest divisor of two, by the program and by the reference; slices.Equal. No condition.
-/
import Derived.Test.YtnmgambilpoeiaaSlice
import Derived.Test.YtnmgambilpoeiaaInts
namespace Go.Proofs.Ytnmgambilpoeiaa
open Go.RowKit

set_option maxHeartbeats 1000000 in
theorem divisor_any (a b : Nat) (ha : a ≤ 1000) (hb : b ≤ 1000) (w : World) :
    Calls Try.prog 43 #[.int .i64 (a : Nat), .int .i64 (b : Nat)] w fun e w' => e = .returned (.int .i64 (Nat.gcd a b : Nat)) ∧ ∃ nd, w' = w.drewN nd := by
  go_enter Try.func43, Try.ntmps43
  go_wp2
  go_loopw [0, 1] (fun p q wr => ∃ x y nd : Nat, x ≤ 1000 ∧ y ≤ 1000 ∧ p = .int .i64 x ∧ q = .int .i64 y ∧ Nat.gcd x y = Nat.gcd a b ∧ wr = w.drewN nd) (fun _ q _ => (intOf q).toNat)
  case atStart => exact ⟨a, b, 0, ha, hb, rfl, rfl, rfl, rfl⟩
  case round =>
    obtain ⟨x, y, nd, hx, hy, rfl, rfl, hg, rfl⟩ := hrel
    have HG := Lib.hid hg
    clear hg
    by_cases h0 : y = 0
    · subst h0
      go_wp2
      go_ret
      exact ⟨by rw [← HG.out, Nat.gcd_zero_right]; rfl, _, rfl⟩
    · have e1 : (((y : Nat) : Int) != 0) = true := by simpa using h0
      have hlt : x % y < y := Nat.mod_lt _ (by omega)
      have HG2 : Hid (Nat.gcd y (x % y) = Nat.gcd a b) := by show _ = _; rw [← HG.out, Nat.gcd_comm x y, Nat.gcd_rec y x, Nat.gcd_comm]
      have hw : IntKind.i64.wrap ((x : Int) % (y : Int)) = ((x % y : Nat) : Int) := by rw [Int.natCast_emod]; rw [← Int.natCast_emod]; exact IntWalk.i64_in _ (by omega)
      have hc : ((x : Int) % (y : Int)) = ((x % y : Nat) : Int) := (Int.natCast_emod _ _).symm
      go_wp2
      go_quiet (fail)
      go_wp2
      go_roundw
      case rel => exact ⟨y, x % y, _, hy, by omega, rfl, by first | rfl | go_num | simp [hc], HG2.out, World.drewN_drewN _ _ _⟩
      case measure => first | (simp [intOf]; omega) | (simp [intOf, hc]; omega)
set_option maxHeartbeats 1000000 in
theorem common_any (a b : Nat) (ha : a ≤ 1000) (hb : b ≤ 1000) (w : World) :
    Calls Try.prog 46 #[.int .i64 (a : Nat), .int .i64 (b : Nat)] w fun e w' => e = .returned (.int .i64 (Nat.gcd a b : Nat)) ∧ ∃ nd, w' = w.drewN nd := by
  go_enter Try.func46, Try.ntmps46
  go_wp2
  go_loopw [0, 1] (fun p q wr => ∃ x y nd : Nat, x ≤ 1000 ∧ y ≤ 1000 ∧ p = .int .i64 x ∧ q = .int .i64 y ∧ Nat.gcd x y = Nat.gcd a b ∧ wr = w.drewN nd) (fun _ q _ => (intOf q).toNat)
  case atStart => exact ⟨a, b, 0, ha, hb, rfl, rfl, rfl, rfl⟩
  case round =>
    obtain ⟨x, y, nd, hx, hy, rfl, rfl, hg, rfl⟩ := hrel
    have HG := Lib.hid hg
    clear hg
    by_cases h0 : y = 0
    · subst h0
      go_wp2
      go_ret
      exact ⟨by rw [← HG.out, Nat.gcd_zero_right]; rfl, _, rfl⟩
    · have e1 : 0 < y := by omega
      have hlt : x % y < y := Nat.mod_lt _ (by omega)
      have HG2 : Hid (Nat.gcd y (x % y) = Nat.gcd a b) := by show _ = _; rw [← HG.out, Nat.gcd_comm x y, Nat.gcd_rec y x, Nat.gcd_comm]
      have hc : ((x : Int) % (y : Int)) = ((x % y : Nat) : Int) := (Int.natCast_emod _ _).symm
      go_wp2
      go_quiet (fail)
      go_wp2
      go_roundw
      case rel => exact ⟨y, x % y, _, hy, by omega, rfl, by first | rfl | go_num | simp [hc], HG2.out, World.drewN_drewN _ _ _⟩
      case measure => first | (simp [intOf]; omega) | (simp [intOf, hc]; omega)
end Go.Proofs.Ytnmgambilpoeiaa
