/-
  The law DesignOther, walked: it returns true whatever the design. No condition.
-/
import Derived.Test.YtkmcmahpfhlkhaaDesFact
import Derived.Test.YtkmcmahpfhlkhaaCompLaw
import Derived.Test.YtkmcmahpfhlkhaaComp
import Derived.Test.YtkmcmahpfhlkhaaLists
namespace Go.Proofs.Ytkmcmahpfhlkhaa
open Go.RowKit

set_option maxRecDepth 100000 in
set_option maxHeartbeats 1000000 in
theorem other_bad (n : Int) (v : Value) (xss : List (List Int)) (t : Int) (w : World) (h : RowsAt w v xss) (hf : desFault n xss ≠ 0) :
    Calls Try.prog 7 #[.agg #[.int .i64 n, v], .int .i64 t] w fun e w' => e = .returned (.bool true) ∧ Below w.heap.size w w' := by
  have HV := Lib.hid h
  have HA0 := Lib.hid (pair_new w (.int .i64 n) v 24 _ rfl)
  have HB0 := Lib.hid (below_box w (.cells #[.int .i64 n, v] 24))
  obtain ⟨a, c, V, rfl, h1, h2, _, h3⟩ := h
  clear h3
  have hne : (desFault n xss != 0) = true := by simpa using hf
  have HC : Hid (∀ w1, RowsAt w1 (.slice a xss.length c) xss → Calls Try.prog 20 #[.agg #[.int .i64 n, .slice a xss.length c]] w1 (DesPostT 0 [] (desFault n xss) w1)) := fun w1 hw => comp_bad n _ xss w1 hw hf
  clear hf
  generalize desFault n xss = e0 at *
  go_enter Try.func7, Try.ntmps7
  go_wp2_with fail
  refine (designFact_any _).mono ?_
  rintro e w1 ⟨rfl, hb⟩
  have HA1 := Lib.hid (HA0.out.below hb)
  have HB1 := Lib.hid (belowTrans HB0.out hb)
  have b0 := HA1.out.cell (show 0 < 2 by omega); have b1 := HA1.out.cell (show 1 < 2 by omega)
  clear hb
  go_wp2_with fail
  refine (HC.out _ (HV.out.below HB1.out)).mono ?_
  rintro e w2 ⟨u, rfl, hr, hb, _⟩
  obtain ⟨ua, uc, UV, rfl, _⟩ := hr
  have HB2 := Lib.hid (belowTrans HB1.out hb)
  have HB3 := Lib.hid (belowTrans HB2.out (below_box w2 (.cells #[.int .i64 0, .slice ua 0 uc] 24)))
  clear hb b0 b1
  simp only [List.length_nil]
  go_wp2_with fail
  go_ret
  exact ⟨rfl, HB3.out⟩

set_option maxRecDepth 100000 in
set_option maxHeartbeats 2000000 in
theorem other_ok (n : Nat) (v : Value) (xss : List (List Int)) (t : Int) (w : World) (h : RowsAt w v xss) (hD : IsDes n xss) (_ht : -9223372036854775808 ≤ t ∧ t ≤ 9223372036854775807) :
    Calls Try.prog 7 #[.agg #[.int .i64 (n : Nat), v], .int .i64 t] w fun e w' => e = .returned (.bool true) ∧ Below w.heap.size w w' := by
  have HV := Lib.hid h
  have HD := Lib.hid hD
  have hn := hD.hi
  have HA0 := Lib.hid (pair_new w (.int .i64 (n : Int)) v 24 _ rfl)
  have HB0 := Lib.hid (below_box w (.cells #[.int .i64 (n : Int), v] 24))
  obtain ⟨a, c, V, rfl, h1, h2, _, h3⟩ := h
  clear h3 hD
  have HL : Hid (∀ w1, RowsAt w1 (.slice a xss.length c) xss → Calls Try.prog 17 #[.agg #[.int .i64 (n : Int), .slice a xss.length c], .int .i64 t] w1 (LevPost (levK n xss t) (levL n xss t) (levE n xss t) w1)) := fun w1 hw => level_any n t _ xss w1 hw
  go_enter Try.func7, Try.ntmps7
  go_wp2_with fail
  refine (designFact_any _).mono ?_
  rintro e w1 ⟨rfl, hb⟩
  have HA1 := Lib.hid (HA0.out.below hb)
  have HB1 := Lib.hid (belowTrans HB0.out hb)
  have b0 := HA1.out.cell (show 0 < 2 by omega); have b1 := HA1.out.cell (show 1 < 2 by omega)
  clear hb
  go_wp2_with fail
  refine (comp_any n _ xss _ (HV.out.below HB1.out) HD.out).mono ?_
  rintro e w2 ⟨u, rfl, hr, hb, _⟩
  have HU2 := Lib.hid hr
  obtain ⟨ua, uc, UV, rfl, _⟩ := hr
  rw [compL_len] at HU2
  rw [compL_len]
  obtain ⟨w3, hw3⟩ : ∃ w3, w2.alloc (.cells #[.int .i64 (n : Int), .slice ua xss.length uc] 24) = w3 := ⟨_, rfl⟩
  have hb3 : Below w2.heap.size w2 w3 := by rw [← hw3]; exact below_box _ _
  have HC3 : Hid (Arr w3 w2.heap.size 2 (fun j => if j = 0 then Value.int .i64 (n : Int) else .slice ua xss.length uc)) := by show Arr _ _ _ _; rw [← hw3]; exact pair_new _ _ _ _ _ rfl
  have HU3 := Lib.hid (HU2.out.below hb3)
  have HB3 := Lib.hid (belowTrans (belowTrans HB1.out hb) hb3)
  have HA3 := Lib.hid ((HA1.out.below hb).below hb3)
  have HW3 := Lib.hid hw3
  have x0 := HC3.out.cell (show 0 < 2 by omega); have x1 := HC3.out.cell (show 1 < 2 by omega)
  rw [← hw3] at x0 x1
  have HZ3 : Hid (w2.heap.size < w3.heap.size) := HC3.out.lt
  clear hb hb3 hw3 b0 b1 HA1 HB1 HU2
  go_wp2_with fail
  rw [HW3.out]
  clear x0 x1
  have HCC := Lib.hid (comp_any n _ (compL n xss) w3 HU3.out (compL_des HD.out))
  rw [compL_twice HD.out] at HCC
  refine (HCC.out).mono ?_
  rintro e w4 ⟨u4, rfl, hr, hb, _⟩
  have HU4 := Lib.hid hr
  obtain ⟨va, vc, UV4, rfl, _⟩ := hr
  obtain ⟨w5, hw5⟩ : ∃ w5, w4.alloc (.cells #[.int .i64 (n : Int), .slice va xss.length vc] 24) = w5 := ⟨_, rfl⟩
  have hb5 : Below w4.heap.size w4 w5 := by rw [← hw5]; exact below_box _ _
  have HC5 : Hid (Arr w5 w4.heap.size 2 (fun j => if j = 0 then Value.int .i64 (n : Int) else .slice va xss.length vc)) := by show Arr _ _ _ _; rw [← hw5]; exact pair_new _ _ _ _ _ rfl
  have HU5 := Lib.hid (HU4.out.below hb5)
  have HK5 := Lib.hid (HU3.out.below (belowTrans hb hb5))
  have HX5 := Lib.hid (HC3.out.below (belowTrans hb hb5))
  have HB5 := Lib.hid (belowTrans (belowTrans HB3.out hb) hb5)
  have HA5 := Lib.hid ((HA3.out.below hb).below hb5)
  have HW5 := Lib.hid hw5
  have y0 := HC5.out.cell (show 0 < 2 by omega); have y1 := HC5.out.cell (show 1 < 2 by omega)
  have b0 := HA5.out.cell (show 0 < 2 by omega); have b1 := HA5.out.cell (show 1 < 2 by omega)
  rw [← hw5] at y0 y1 b0 b1
  clear hb hb5 hw5 HCC HU3 HC3 HB3 HA3 HU4
  go_wp2_with fail
  rw [HW5.out]
  clear y0 y1 b0 b1
  have HDs := Lib.hid (designs_any n n _ _ xss xss w5 HU5.out (HV.out.below HB5.out))
  rw [eqL_refl, show (((n : Int)) == (n : Int)) = true by simp] at HDs
  refine (HDs.out).mono ?_
  rintro e w6 ⟨rfl, hb⟩
  have HB6 := Lib.hid (belowTrans HB5.out hb)
  have HA6 := Lib.hid (HA5.out.below hb)
  have HX6 := Lib.hid (HX5.out.below hb)
  have HK6 := Lib.hid (HK5.out.below hb)
  have b0 := HA6.out.cell (show 0 < 2 by omega); have b1 := HA6.out.cell (show 1 < 2 by omega)
  clear hb HDs HB5 HA5 HX5 HK5 HU5 HC5
  go_wp2_with fail
  refine (HL.out _ (HV.out.below HB6.out)).mono ?_
  rintro e w7 ⟨rfl, hb⟩
  have HB7 := Lib.hid (belowTrans HB6.out hb)
  have HA7 := Lib.hid (HA6.out.below hb)
  have HX7 := Lib.hid (HX6.out.below hb)
  have HK7 := Lib.hid (HK6.out.below hb)
  clear hb b0 b1 HB6 HA6 HX6 HK6 HL
  have b0 := HA7.out.cell (show 0 < 2 by omega); have b1 := HA7.out.cell (show 1 < 2 by omega)
  have x0 := HX7.out.cell (show 0 < 2 by omega); have x1 := HX7.out.cell (show 1 < 2 by omega)
  by_cases c1 : levE n xss t = 0
  · obtain ⟨N, T, k, l, hN, rfl, hk, hl, hLv⟩ := lev_ok c1
    obtain rfl : n = N := by omega
    have hkn := hLv.kn
    rw [c1, hk]
    by_cases c2 : k < T
    · have d2 : decide (k < T) = true := by simpa using c2
      clear c1 hk hl
      generalize levL n xss T = l0 at *
      go_wp2_with fail
      go_ret
      exact ⟨rfl, HB7.out⟩
    · have d2 : decide (k < T) = false := by simpa using c2
      by_cases c3 : n - k < T
      · have d3 : decide ((n : Int) - (k : Int) < (T : Int)) = true := by simp; omega
        clear c1 hk hl
        generalize levL n xss T = l0 at *
        go_wp2_with fail
        go_ret
        exact ⟨rfl, HB7.out⟩
      · have d3 : decide ((n : Int) - (k : Int) < (T : Int)) = false := by simp; omega
        obtain ⟨m, hm⟩ := hLv.comp (by omega)
        have HLc := Lib.hid (level_any n T _ (compL n xss) w7 HK7.out)
        rw [hm.ok.1, hm.ok.2.1, hm.ok.2.2] at HLc
        have ek : ((n - k : Nat) : Int) = (n : Int) - (k : Int) := by omega
        rw [ek] at HLc
        clear c1 hk hl ek hm
        generalize levL n xss T = l0 at *
        go_wp2_with fail
        refine (HLc.out).mono ?_
        rintro e w8 ⟨rfl, hb⟩
        have HB8 := Lib.hid (belowTrans HB7.out hb)
        have HA8 := Lib.hid (HA7.out.below hb)
        clear hb b0 b1 x0 x1
        have b0 := HA8.out.cell (show 0 < 2 by omega)
        go_wp2_with fail
        go_ret
        exact ⟨rfl, HB8.out⟩
  · have d1 : (levE n xss t != 0) = true := by simpa using c1
    clear c1
    generalize levE n xss t = e0 at *
    generalize levK n xss t = k0 at *
    generalize levL n xss t = l0 at *
    go_wp2_with fail
    go_ret
    exact ⟨rfl, HB7.out⟩

theorem designOther_walk (n : Int) (v : Value) (xss : List (List Int)) (t : Int) (w : World) (_hn : -9223372036854775808 ≤ n ∧ n ≤ 9223372036854775807) (h : RowsAt w v xss) (_hx : ∀ xs ∈ xss, Fits xs) (ht : -9223372036854775808 ≤ t ∧ t ≤ 9223372036854775807) :
    Calls Try.prog 7 #[.agg #[.int .i64 n, v], .int .i64 t] w fun e w' => e = .returned (.bool true) ∧ Below w.heap.size w w' := by
  by_cases hf : desFault n xss = 0
  · have hD := des_of hf
    have := hD.lo
    obtain ⟨m, rfl⟩ := Int.eq_ofNat_of_zero_le (show 0 ≤ n by omega)
    exact other_ok m v xss t w h hD ht
  · exact other_bad n v xss t w h hf
end Go.Proofs.Ytkmcmahpfhlkhaa
