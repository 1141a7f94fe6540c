/-
  Contract: math/bits.OnesCount64, of a small word. No condition.
-/
import Derived.Test.YtkmcmahpfhlkhaaOnes
import Derived.Test.YtkmcmahpfhlkhaaDSets
namespace Go.Proofs.Ytkmcmahpfhlkhaa
open Go.RowKit

theorem andM (a m : Nat) (ha : a < 18446744073709551616) (hm : m < 18446744073709551616) : bits .and .u64 (a : Int) (m : Int) = ((a &&& m : Nat) : Int) := u64_and_nat _ _ ha hm
theorem e_s1 {x : Nat} (hx : x < 1099511627776) : IntKind.u64.wrap (bits .and .u64 ((x : Int) / 2) 6148914691236517205 + bits .and .u64 (x : Int) 6148914691236517205) = ((s1 32 x : Nat) : Int) := by
  have h := (ones_bounds hx).1
  have e1 := andM (x / 2) (M1 32) (by omega) (by rw [M1_32]; omega)
  have e2 := andM x (M1 32) (by omega) (by rw [M1_32]; omega)
  rw [M1_32] at e1 e2
  rw [show ((x : Int) / 2) = ((x / 2 : Nat) : Int) by omega]
  rw [show (6148914691236517205 : Int) = ((6148914691236517205 : Nat) : Int) from rfl, e1, e2, ← M1_32]
  have : s1 32 x = (x / 2 &&& M1 32) + (x &&& M1 32) := rfl
  rw [this] at h ⊢
  rw [IntKind.wrap_u64]; omega
theorem e_s2 {y : Nat} (hy : y < 2199023255552) (h : s2 16 y < 4398046511104) : IntKind.u64.wrap (bits .and .u64 ((y : Int) / 4) 3689348814741910323 + bits .and .u64 (y : Int) 3689348814741910323) = ((s2 16 y : Nat) : Int) := by
  have e1 := andM (y / 4) (M2 16) (by omega) (by rw [M2_16]; omega)
  have e2 := andM y (M2 16) (by omega) (by rw [M2_16]; omega)
  rw [M2_16] at e1 e2
  rw [show ((y : Int) / 4) = ((y / 4 : Nat) : Int) by omega]
  rw [show (3689348814741910323 : Int) = ((3689348814741910323 : Nat) : Int) from rfl, e1, e2, ← M2_16]
  have : s2 16 y = (y / 4 &&& M2 16) + (y &&& M2 16) := rfl
  rw [this] at h ⊢
  rw [IntKind.wrap_u64]; omega
theorem e_s3 {y : Nat} (hy : y < 4398046511104) : bits .and .u64 (IntKind.u64.wrap ((y : Int) / 16 + (y : Int))) 1085102592571150095 = ((s3 8 y : Nat) : Int) := by
  have e0 : IntKind.u64.wrap ((y : Int) / 16 + (y : Int)) = ((y / 16 + y : Nat) : Int) := by rw [IntKind.wrap_u64]; omega
  have e1 := andM (y / 16 + y) (M3 8) (by omega) (by rw [M3_8]; omega)
  rw [M3_8] at e1
  rw [e0, show (1085102592571150095 : Int) = ((1085102592571150095 : Nat) : Int) from rfl, e1, ← M3_8]; rfl
theorem e_s4 {y : Nat} (hy : y < 8796093022208) : IntKind.u64.wrap ((y : Int) + (y : Int) / 256) = ((s4 y : Nat) : Int) := by
  unfold s4; rw [IntKind.wrap_u64]; omega
theorem e_s5 {y : Nat} (hy : y < 17592186044416) : IntKind.u64.wrap ((y : Int) + (y : Int) / 65536) = ((s5 y : Nat) : Int) := by
  unfold s5; rw [IntKind.wrap_u64]; omega
theorem e_s6 {y : Nat} (hy : y < 35184372088832) : IntKind.u64.wrap ((y : Int) + (y : Int) / 4294967296) = ((s6 y : Nat) : Int) := by
  unfold s6; rw [IntKind.wrap_u64]; omega

set_option maxRecDepth 100000 in
theorem ones_any (x : Nat) (hx : x < 1099511627776) (w : World) :
    Calls Try.prog 46 #[.int .u64 (x : Nat)] w fun e w' => e = .returned (.int .i64 (cnt (fun j => tb x j) 64 : Nat)) ∧ w = w' := by
  rw [← ones_law hx]
  go_enter Try.func46, Try.ntmps46
  go_wp2
  go_ret
  refine ⟨?_, rfl⟩
  obtain ⟨b1, b2, b3⟩ := ones_bounds hx
  have b4 : s4 (s3 8 (s2 16 (s1 32 x))) < 17592186044416 := by unfold s4; omega
  have b5 : s5 (s4 (s3 8 (s2 16 (s1 32 x)))) < 35184372088832 := by unfold s5; omega
  have b6 : s6 (s5 (s4 (s3 8 (s2 16 (s1 32 x))))) < 70368744177664 := by unfold s6; omega
  simp only [e_s1 hx, e_s2 b1 b2, e_s3 b2, e_s4 b3, e_s5 b4, e_s6 b5]
  have hw : bits .and .i64 (wrap64 ((s6 (s5 (s4 (s3 8 (s2 16 (s1 32 x))))) : Nat) : Int)) 127 = ((onesF x : Nat) : Int) := by
    have e : wrap64 ((s6 (s5 (s4 (s3 8 (s2 16 (s1 32 x))))) : Nat) : Int) = ((s6 (s5 (s4 (s3 8 (s2 16 (s1 32 x))))) : Nat) : Int) := IntWalk.wrap64_in _ (by omega)
    unfold onesF
    rw [e, show (127 : Int) = ((127 : Nat) : Int) from rfl, i64_and_nat _ _ (by omega) (by omega), show (127 : Nat) = 2 ^ 7 - 1 by decide, Nat.and_two_pow_sub_one_eq_mod]
  show Ending.returned (Value.int .i64 (bits .and .i64 (wrap64 ((s6 (s5 (s4 (s3 8 (s2 16 (s1 32 x))))) : Nat) : Int)) 127)) = _
  rw [hw]
end Go.Proofs.Ytkmcmahpfhlkhaa
