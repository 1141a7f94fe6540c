/-
  The law DifferDesigns, walked: it returns true whatever the numbers. No condition.
-/
import Derived.Test.YtnmgambilpoeiaaDifFact
import Derived.Test.YtnmgambilpoeiaaDevelop
import Derived.Test.YtnmgambilpoeiaaLevel2
namespace Go.Proofs.Ytnmgambilpoeiaa
open Go.RowKit

set_option maxRecDepth 100000 in
set_option maxHeartbeats 1000000 in
theorem ddes_bad (n : Int) (v : Value) (xs : List Int) (w : World) (h : IntsAt w v xs) (hf : difE n xs ≠ 0) :
    Calls Try.prog 8 #[.int .i64 n, v] w fun e w' => e = .returned (.bool true) ∧ Below w.heap.size w w' := by
  have HV := Lib.hid h
  have HL : Hid (∀ w1, IntsAt w1 v xs → Calls Try.prog 10 #[.int .i64 n, v] w1 (DifPost (difL n xs) (difE n xs) w1)) := fun w1 hw => dlevel_any n v xs w1 hw
  have hne : (difE n xs != 0) = true := by simpa using hf
  obtain ⟨a, c, rfl, _⟩ := h
  clear hf
  generalize difE n xs = e0 at *
  generalize difL n xs = l0 at *
  go_enter Try.func8, Try.ntmps8
  go_wp2_with fail
  refine (differFact_any _).mono ?_
  rintro e w1 ⟨rfl, hb⟩
  have HB1 := Lib.hid hb; clear hb
  go_wp2_with fail
  refine (HL.out _ (HV.out.below HB1.out)).mono ?_
  rintro e w2 ⟨rfl, hb⟩
  have HB2 := Lib.hid (belowTrans HB1.out hb); clear hb
  go_wp2_with fail
  go_ret
  exact ⟨rfl, HB2.out⟩

theorem des_vals {n l : Nat} {xs : List Int} (h : DLev n xs l) (hl : l ≤ 60) : ∃ P : Nat, Value.int .i64 (wrap64 (((xs.length : Nat) : Int) * (((xs.length : Nat) : Int) - 1))) = Value.int .i64 (P : Nat) ∧ Value.int .i64 (wrap64 ((l : Int) * ((n : Int) - 1))) = Value.int .i64 (P : Nat) := by
  have hc := h.count
  have hn1 := h.set.lo; have hn2 := h.set.hi
  have hP : l * (n - 1) ≤ 60 * 60 := Nat.mul_le_mul hl (by omega)
  have e2 : (l : Int) * ((n : Int) - 1) = ((l * (n - 1) : Nat) : Int) := by rw [Int.natCast_mul, Int.natCast_sub (by omega)]; rfl
  refine ⟨l * (n - 1), ?_, ?_⟩
  · rw [Int.mul_sub, hc, e2, Int.mul_one, show ((xs.length : Nat) : Int) + ((l * (n - 1) : Nat) : Int) - ((xs.length : Nat) : Int) = ((l * (n - 1) : Nat) : Int) by omega, IntWalk.wrap64_in _ (by omega)]
  · rw [e2, IntWalk.wrap64_in _ (by omega)]

set_option maxRecDepth 100000 in
set_option maxHeartbeats 2000000 in
theorem ddes_ok (n l : Nat) (v : Value) (xs : List Int) (w : World) (h : IntsAt w v xs) (hD : DLev n xs l) (hlk : l ≤ xs.length) :
    Calls Try.prog 8 #[.int .i64 (n : Nat), v] w fun e w' => e = .returned (.bool true) ∧ Below w.heap.size w w' := by
  have HV := Lib.hid h
  have HD := Lib.hid hD
  have hn1 := hD.set.lo; have hn2 := hD.set.hi
  have hl : (xs.length : Int) ≤ n := inc_len hD.set.rng hD.set.inc (by omega)
  have HL : Hid (∀ w1, IntsAt w1 v xs → Calls Try.prog 10 #[.int .i64 (n : Nat), v] w1 (DifPost l 0 w1)) := fun w1 hw => by
    have := dlevel_any n v xs w1 hw
    rw [hD.ok.1, hD.ok.2] at this; exact this
  by_cases hs : xs.length < 2 ∨ 40 < n
  · by_cases h2 : xs.length < 2
    · have e1 : decide (xs.length < 2) = true := by simpa using h2
      have e1' : decide (((xs.length : Nat) : Int) < 2) = true := by simp; omega
      obtain ⟨a, c, rfl, _⟩ := h
      clear hD hs h2
      go_enter Try.func8, Try.ntmps8
      go_wp2_with fail
      refine (differFact_any _).mono ?_
      rintro e w1 ⟨rfl, hb⟩
      have HB1 := Lib.hid hb; clear hb
      go_wp2_with fail
      refine (HL.out _ (HV.out.below HB1.out)).mono ?_
      rintro e w2 ⟨rfl, hb⟩
      have HB2 := Lib.hid (belowTrans HB1.out hb); clear hb
      go_wp2_with fail
      go_ret
      exact ⟨rfl, HB2.out⟩
    · have e1 : decide (xs.length < 2) = false := by simpa using h2
      have e1' : decide (((xs.length : Nat) : Int) < 2) = false := by simp; omega
      have e2 : decide (40 < n) = true := by simp; omega
      have e2' : decide ((40 : Int) < (n : Int)) = true := by simp; omega
      obtain ⟨a, c, rfl, _⟩ := h
      clear hD hs h2
      go_enter Try.func8, Try.ntmps8
      go_wp2_with fail
      refine (differFact_any _).mono ?_
      rintro e w1 ⟨rfl, hb⟩
      have HB1 := Lib.hid hb; clear hb
      go_wp2_with fail
      refine (HL.out _ (HV.out.below HB1.out)).mono ?_
      rintro e w2 ⟨rfl, hb⟩
      have HB2 := Lib.hid (belowTrans HB1.out hb); clear hb
      go_wp2_with fail
      go_ret
      exact ⟨rfl, HB2.out⟩
  · have e1 : decide (xs.length < 2) = false := by simp; omega
    have e1' : decide (((xs.length : Nat) : Int) < 2) = false := by simp; omega
    have e2 : decide (40 < n) = false := by simp; omega
    have e2' : decide ((40 : Int) < (n : Int)) = false := by simp; omega
    obtain ⟨P, V1, V2⟩ := des_vals hD (by omega)
    have hP : (((P : Nat) : Int) != ((P : Nat) : Int)) = false := by simp
    have HLv := dev_lev hD (by omega) (by omega)
    have HDv : Hid (∀ w1 u, RowsAt w1 u (devL n xs) → Calls Try.prog 30 #[.agg #[.int .i64 (n : Nat), u], .int .i64 2] w1 (LevPost (xs.length : Nat) l 0 w1)) := fun w1 u hw => by
      have := level_any n 2 u _ w1 hw
      have hok := HLv.ok
      rw [show ((2 : Nat) : Int) = 2 from rfl] at hok
      rw [hok.1, hok.2.1, hok.2.2] at this; exact this
    have HDe : Hid (∀ w1, IntsAt w1 v xs → Calls Try.prog 29 #[.int .i64 (n : Nat), v] w1 (DevPost n (devL n xs) w1)) := fun w1 hw => develop_any n v xs w1 hw hD.set (by omega)
    have q1 : (((n : Nat) : Int) != ((n : Nat) : Int)) = false := by simp
    have q2 : (((xs.length : Nat) : Int) == ((xs.length : Nat) : Int)) = true := by simp
    have q3 : (((l : Nat) : Int) == ((l : Nat) : Int)) = true := by simp
    obtain ⟨a, c, rfl, _⟩ := h
    clear hD hs HLv
    go_enter Try.func8, Try.ntmps8
    go_wp2_with fail
    refine (differFact_any _).mono ?_
    rintro e w1 ⟨rfl, hb⟩
    have HB1 := Lib.hid hb; clear hb
    go_wp2_with fail
    refine (HL.out _ (HV.out.below HB1.out)).mono ?_
    rintro e w2 ⟨rfl, hb⟩
    have HB2 := Lib.hid (belowTrans HB1.out hb); clear hb
    go_wp2_with fail
    refine (HDe.out _ (HV.out.below HB2.out)).mono ?_
    rintro e w3 ⟨u, rfl, hrow, hb⟩
    have HB3 := Lib.hid (belowTrans HB2.out hb)
    have HR3 := Lib.hid hrow
    obtain ⟨da, dc, dV, rfl, _⟩ := hrow
    rw [devL_len] at HR3
    rw [devL_len]
    clear hb V1 V2 hP
    go_wp2_with fail
    refine (HDv.out _ _ (HR3.out.below (below_box _ _))).mono ?_
    rintro e w4 ⟨rfl, hb⟩
    have HB4 := Lib.hid (belowTrans (belowTrans HB3.out (below_box _ _)) hb)
    clear hb
    go_wp2_with fail
    go_ret
    exact ⟨rfl, HB4.out⟩

/-- The law, walked. -/
theorem differDesigns_walk (n : Int) (v : Value) (xs : List Int) (w : World) (_hn : -9223372036854775808 ≤ n ∧ n ≤ 9223372036854775807) (h : IntsAt w v xs) (_hx : Fits xs) :
    Calls Try.prog 8 #[.int .i64 n, v] w fun e w' => e = .returned (.bool true) ∧ Below w.heap.size w w' := by
  by_cases hf : difE n xs = 0
  · obtain ⟨N, l, rfl, hl, hD⟩ := dlev_ok hf
    refine ddes_ok N l v xs w h hD ?_
    by_cases h1 : N = 1
    · rw [hD.one h1]; omega
    · have hlo := hD.set.lo
      have e := hD.all 1 (by omega) (by omega)
      have h2 : dif N xs 1 ≤ sumL (List.range N) (fun x => ch xs x) := sumL_le fun x _ => by
        have h3 := Int.mul_le_mul_of_nonneg_left (ind_le (mem xs (((x + 1) % N : Nat) : Int))) (ind_nonneg (mem xs (x : Int)))
        unfold ch; omega
      rw [ch_sum hD.set, e] at h2
      omega
  · exact ddes_bad n v xs w h hf
end Go.Proofs.Ytnmgambilpoeiaa
