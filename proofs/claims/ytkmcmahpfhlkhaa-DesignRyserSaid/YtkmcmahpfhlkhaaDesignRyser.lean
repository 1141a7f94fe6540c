/-
  The law DesignRyser, walked: it returns true whatever the design. No condition.
-/
import Derived.Test.YtkmcmahpfhlkhaaDesFact
import Derived.Test.YtkmcmahpfhlkhaaRyserLaw
import Derived.Test.YtkmcmahpfhlkhaaMeets
import Derived.Test.YtkmcmahpfhlkhaaDual2
namespace Go.Proofs.Ytkmcmahpfhlkhaa
open Go.RowKit

set_option maxRecDepth 100000 in
set_option maxHeartbeats 2000000 in
/-- Where the law has nothing to say. -/
theorem ryser_short (n : Int) (v : Value) (xss : List (List Int)) (w : World) (h : RowsAt w v xss)
    (hx : levE n xss 2 ≠ 0 ∨ (levE n xss 2 = 0 ∧ levK n xss 2 < 2) ∨ (levE n xss 2 = 0 ∧ ¬ levK n xss 2 < 2 ∧ n ≤ levK n xss 2) ∨ (levE n xss 2 = 0 ∧ ¬ levK n xss 2 < 2 ∧ ¬ n ≤ levK n xss 2 ∧ (xss.length : Int) ≠ n)) :
    Calls Try.prog 11 #[.agg #[.int .i64 n, v]] w fun e w' => e = .returned (.bool true) ∧ Below w.heap.size w w' := by
  have HV := Lib.hid h
  have HA0 := Lib.hid (pair_new w (.int .i64 n) v 24 _ rfl)
  have HB0 := Lib.hid (below_box w (.cells #[.int .i64 n, v] 24))
  obtain ⟨a, c, V, rfl, h1, h2, _, h3⟩ := h
  clear h3
  have HL : Hid (∀ w1, RowsAt w1 (.slice a xss.length c) xss → Calls Try.prog 17 #[.agg #[.int .i64 n, .slice a xss.length c], .int .i64 2] w1 (LevPost (levK n xss 2) (levL n xss 2) (levE n xss 2) w1)) := fun w1 hw => level_any n 2 _ xss w1 hw
  generalize levE n xss 2 = e0 at *
  generalize levK n xss 2 = k0 at *
  generalize levL n xss 2 = l0 at *
  rcases hx with hx | ⟨rfl, hx⟩ | ⟨rfl, hx, hy⟩ | ⟨rfl, hx, hy, hz⟩
  all_goals
    first
    | (have d1 : decide (k0 < 2) = false := by simpa using hx
       have d2 : decide (n ≤ k0) = false := by simpa using hy
       have d3 : (((xss.length : Nat) : Int) != n) = true := by simpa using hz
       clear hx hy hz)
    | (have d1 : decide (k0 < 2) = false := by simpa using hx
       have d2 : decide (n ≤ k0) = true := by simpa using hy
       clear hx hy)
    | (have d1 : decide (k0 < 2) = true := by simpa using hx
       clear hx)
    | (have d1 : (e0 != 0) = true := by simpa using hx
       clear hx)
    go_enter Try.func11, Try.ntmps11
    go_wp2_with fail
    refine (designFact_any _).mono ?_
    rintro e w1 ⟨rfl, hb⟩
    have HA1 := Lib.hid (HA0.out.below hb)
    have HB1 := Lib.hid (belowTrans HB0.out hb)
    have b0 := HA1.out.cell (show 0 < 2 by omega); have b1 := HA1.out.cell (show 1 < 2 by omega)
    clear hb
    go_wp2_with fail
    refine (HL.out _ (HV.out.below HB1.out)).mono ?_
    rintro e w2 ⟨rfl, hb⟩
    have HB2 := Lib.hid (belowTrans HB1.out hb)
    have HA2 := Lib.hid (HA1.out.below hb)
    clear hb b0 b1
    have b0 := HA2.out.cell (show 0 < 2 by omega); have b1 := HA2.out.cell (show 1 < 2 by omega)
    go_wp2_with fail
    go_ret
    exact ⟨rfl, HB2.out⟩

set_option maxRecDepth 100000 in
set_option maxHeartbeats 2000000 in
theorem ryser_main (n k l : Nat) (v : Value) (xss : List (List Int)) (w : World) (h : RowsAt w v xss) (hL : Lev n xss 2 k l) (hk : 2 ≤ k) (hkn : k < n) (hb : xss.length = n) :
    Calls Try.prog 11 #[.agg #[.int .i64 (n : Nat), v]] w fun e w' => e = .returned (.bool true) ∧ Below w.heap.size w w' := by
  have HV := Lib.hid h
  have HA0 := Lib.hid (pair_new w (.int .i64 (n : Int)) v 24 _ rfl)
  have HB0 := Lib.hid (below_box w (.cells #[.int .i64 (n : Int), v] 24))
  obtain ⟨a, c, V, rfl, h1, h2, _, h3⟩ := h
  clear h3
  have hn40 := hL.des.hi
  have HLv : Hid (∀ w1, RowsAt w1 (.slice a xss.length c) xss → Calls Try.prog 17 #[.agg #[.int .i64 (n : Int), .slice a xss.length c], .int .i64 2] w1 (LevPost k l 0 w1)) := fun w1 hw => by
    have := level_any (n : Int) 2 _ xss w1 hw
    have hok := hL.ok
    rw [show (((2 : Nat)) : Int) = 2 from rfl] at hok
    rw [hok.1, hok.2.1, hok.2.2] at this
    exact this
  have HM : Hid (∀ w1, RowsAt w1 (.slice a xss.length c) xss → Calls Try.prog 29 #[.agg #[.int .i64 (n : Int), .slice a xss.length c]] w1 (NumsPost [(l : Int)] 0 w1)) := fun w1 hw => by
    have := meets_any n _ xss w1 hw hL.des
    rw [ryser_meets hL hk hkn hb] at this; exact this
  have HDu : Hid (∀ w1, RowsAt w1 (.slice a xss.length c) xss → Calls Try.prog 22 #[.agg #[.int .i64 (n : Int), .slice a xss.length c]] w1 (DesPostT n (dualL n xss) 0 w1)) := fun w1 hw => by
    have := dual_any n _ xss w1 hw hL.des (by omega) (by omega)
    rw [hb] at this
    rw [hb]; exact this
  have HLd := Lib.hid (dual_lev hL hk hkn hb)
  have dk1 : decide (k < 2) = false := by simp; omega
  have dk2 : decide (n ≤ k) = false := by simp; omega
  have dk3 : decide ((k : Int) < 2) = false := by simp; omega
  have db : (((xss.length : Nat) : Int) != ((n : Nat) : Int)) = false := by simp [hb]
  clear hL hb
  go_enter Try.func11, Try.ntmps11
  go_wp2_with fail
  refine (designFact_any _).mono ?_
  rintro e w1 ⟨rfl, hb⟩
  have HA1 := Lib.hid (HA0.out.below hb)
  have HB1 := Lib.hid (belowTrans HB0.out hb)
  have b0 := HA1.out.cell (show 0 < 2 by omega); have b1 := HA1.out.cell (show 1 < 2 by omega)
  clear hb
  go_wp2_with fail
  refine (HLv.out _ (HV.out.below HB1.out)).mono ?_
  rintro e w2 ⟨rfl, hb⟩
  have HB2 := Lib.hid (belowTrans HB1.out hb)
  have HA2 := Lib.hid (HA1.out.below hb)
  clear hb b0 b1
  have b0 := HA2.out.cell (show 0 < 2 by omega); have b1 := HA2.out.cell (show 1 < 2 by omega)
  go_wp2_with fail
  refine (HM.out _ (HV.out.below HB2.out)).mono ?_
  rintro e w3 ⟨u, rfl, hi, hb⟩
  have HB3 := Lib.hid (belowTrans HB2.out hb)
  have HA3 := Lib.hid (HA2.out.below hb)
  obtain ⟨ua, uc, rfl, u1, u2, _, u3⟩ := hi
  obtain ⟨ub, uo, rfl, hub, huc⟩ := u3 0 (by simp)
  have hm0 := huc 0 (by simp)
  have eix : ix [(l : Int)] 0 = (l : Int) := rfl
  rw [eix, Nat.add_zero] at hm0
  simp only [List.length_singleton] at u1 ⊢
  clear hb b0 b1 huc u3 eix
  have b0 := HA3.out.cell (show 0 < 2 by omega); have b1 := HA3.out.cell (show 1 < 2 by omega)
  go_wp2_with fail
  refine (HDu.out _ (HV.out.below HB3.out)).mono ?_
  rintro e w4 ⟨u4, rfl, hr, hb, _⟩
  have HB4 := Lib.hid (belowTrans HB3.out hb)
  have HU := Lib.hid hr
  obtain ⟨va, vc, UV, rfl, _⟩ := hr
  rw [dualL_len] at HU
  rw [dualL_len]
  have HBx := Lib.hid (belowTrans HB4.out (below_box w4 (.cells #[.int .i64 (n : Int), .slice va n vc] 24)))
  have HLl := Lib.hid (level_any (n : Int) 2 _ (dualL n xss) _ (HU.out.below (below_box w4 (.cells #[.int .i64 (n : Int), .slice va n vc] 24))))
  have hok := HLd.out.ok
  rw [show (((2 : Nat)) : Int) = 2 from rfl] at hok
  rw [hok.1, hok.2.1, hok.2.2] at HLl
  clear hb b0 b1 hok hm0
  go_wp2_with fail
  refine (HLl.out).mono ?_
  rintro e w5 ⟨rfl, hb⟩
  have HB5 := Lib.hid (belowTrans HBx.out hb)
  clear hb
  go_wp2_with fail
  go_ret
  exact ⟨rfl, HB5.out⟩

theorem designRyser_walk (n : Int) (v : Value) (xss : List (List Int)) (w : World) (_hn : -9223372036854775808 ≤ n ∧ n ≤ 9223372036854775807) (h : RowsAt w v xss) (_hx : ∀ xs ∈ xss, Fits xs) :
    Calls Try.prog 11 #[.agg #[.int .i64 n, v]] w fun e w' => e = .returned (.bool true) ∧ Below w.heap.size w w' := by
  by_cases h0 : levE n xss 2 = 0
  · obtain ⟨N, T, k, l, rfl, hT, hk, hl, hL⟩ := lev_ok h0
    obtain rfl : T = 2 := by omega
    by_cases h1 : k < 2
    · exact ryser_short N v xss w h (.inr (.inl ⟨h0, by rw [hk]; omega⟩))
    · by_cases h2 : N ≤ k
      · exact ryser_short N v xss w h (.inr (.inr (.inl ⟨h0, by rw [hk]; omega, by rw [hk]; omega⟩)))
      · by_cases h3 : xss.length = N
        · exact ryser_main N k l v xss w h hL (by omega) (by omega) h3
        · exact ryser_short N v xss w h (.inr (.inr (.inr ⟨h0, by rw [hk]; omega, by rw [hk]; omega, by omega⟩)))
  · exact ryser_short n v xss w h (.inl h0)
end Go.Proofs.Ytkmcmahpfhlkhaa
