/-
  Contract: the reference's CostasesOf. No condition.
-/
import Derived.Test.YtnmgambilpoeiaaCostases
import Derived.Test.YtnmgambilpoeiaaCosOf
import Derived.Test.YtnmgambilpoeiaaRank
namespace Go.Proofs.Ytnmgambilpoeiaa
open Go.RowKit

set_option maxRecDepth 100000 in
set_option maxHeartbeats 2000000 in
theorem costasesOf_any (n : Int) (w : World) : Calls Try.prog 20 #[.int .i64 n] w (CosNPost n w) := by
  by_cases h : 1 ≤ n ∧ n ≤ 7
  · have HP : Hid (∀ e w', (e = .returned (.tuple #[.int .i64 (cntR n.toNat cosB n.toNat [] : Nat), .int .i64 0]) ∧ Below w.heap.size w w') → CosNPost n w e w') := by
      intro e w' h2
      unfold CosNPost costN costE
      rw [if_pos h, if_pos h]; exact h2
    obtain ⟨m, rfl⟩ := Int.eq_ofNat_of_zero_le (show 0 ≤ n by omega)
    rw [Int.toNat_natCast, ← cntR_all m cosB cosB_pre] at HP
    have hm1 : 1 ≤ m := by omega
    have hm7 : m ≤ 7 := by omega
    have d1 : decide ((m : Int) < 1) = false := by simp; omega
    have d2 : decide ((7 : Int) < (m : Int)) = false := by simp; omega
    have d3 : decide (7 < m) = false := by simp; omega
    have hf := fct_le (show m ≤ 12 by omega)
    clear h
    go_enter Try.func20, Try.ntmps20
    go_wp2_with fail
    refine (fact_any m _ (by omega)).mono ?_
    rintro e w' ⟨rfl, rfl⟩
    go_wp2_with fail
    clear d1 d2 d3
    go_loopw [5, 6] (fun ss sk wr => ∃ k : Nat, k ≤ fct m ∧ sk = .int .i64 k ∧ ss = .int .i64 (sumR (fun k => oneB (cosB (permOf m k))) k : Nat) ∧ Below w.heap.size w wr) (fun _ sk _ => fct m - (intOf sk).toNat)
    case atStart => exact ⟨0, by omega, rfl, rfl, Below.refl _ _⟩
    case round =>
      obtain ⟨k, hk, rfl, rfl, hb⟩ := hrel
      have HB := Lib.hid hb; clear hb
      have hS : sumR (fun k => oneB (cosB (permOf m k))) k ≤ k * 1 := sumR_le k (fun i _ => by unfold oneB; split <;> omega)
      have HF : Hid (sumR (fun k => oneB (cosB (permOf m k))) (k + 1) = sumR (fun k => oneB (cosB (permOf m k))) k + oneB (cosB (permOf m k))) := rfl
      by_cases hlt : k < fct m
      · have HM := Lib.hid (permOf_mem hlt)
        have HLn := Lib.hid (permOf_len m k)
        go_wp2_with fail
        refine (rank_any m k _ hm1 (by omega) hlt).mono ?_
        rintro e w1 ⟨v, rfl, hown, hb⟩
        have HB1 := Lib.hid (belowTrans HB.out hb)
        have HV := Lib.hid (hown.intsAt (by rw [HLn.out]; omega))
        obtain ⟨va, vl, vc, rfl⟩ := hown.shape
        clear hown hb
        have HC := Lib.hid (costasOf_any _ _ _ HV.out (fun q hq => by have := HM.out _ (ix_mem hq); omega) (by rw [HLn.out]; omega))
        generalize sumR (fun k => oneB (cosB (permOf m k))) k = s0 at *
        cases e : cosB (permOf m k)
        all_goals
          rw [e] at HC HF
          clear e
          go_wp2_with fail
          refine (HC.out).mono ?_
          rintro e w2 ⟨rfl, nd, rfl⟩
          have HB2 := Lib.hid (below_drewN HB1.out nd)
          go_wp2_with fail
          go_roundw
          case rel => exact ⟨k + 1, by omega, by go_num, by rw [HF.out]; first | rfl | go_num, HB2.out⟩
          case measure => simp [intOf]; omega
      · obtain rfl : k = fct m := by omega
        generalize sumR (fun k => oneB (cosB (permOf m k))) (fct m) = z at *
        go_wp2_with fail
        go_ret2
        exact HP.out _ _ ⟨rfl, HB.out⟩
  · have HP : Hid (∀ e w', (e = .returned (.tuple #[.int .i64 0, .int .i64 1]) ∧ Below w.heap.size w w') → CosNPost n w e w') := by
      intro e w' h2
      unfold CosNPost costN costE
      rw [if_neg h, if_neg h]; exact h2
    by_cases h1 : n < 1
    · have d1 : decide (n < 1) = true := by simpa using h1
      clear h h1
      go_enter Try.func20, Try.ntmps20
      go_wp2_with fail
      go_ret2
      exact HP.out _ _ ⟨rfl, Below.refl _ _⟩
    · have d1 : decide (n < 1) = false := by simpa using h1
      have d2 : decide (7 < n) = true := by simp; omega
      clear h h1
      go_enter Try.func20, Try.ntmps20
      go_wp2_with fail
      go_ret2
      exact HP.out _ _ ⟨rfl, Below.refl _ _⟩
end Go.Proofs.Ytnmgambilpoeiaa
