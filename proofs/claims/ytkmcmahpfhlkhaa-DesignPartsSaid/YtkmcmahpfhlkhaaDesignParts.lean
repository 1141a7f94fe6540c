/-
  The law DesignParts, walked: it returns true whatever the design. No condition.
-/
import Derived.Deep.CutRange
import Derived.Test.YtkmcmahpfhlkhaaDesFact
import Derived.Test.YtkmcmahpfhlkhaaPartsLaw
import Derived.Test.YtkmcmahpfhlkhaaDer2
import Derived.Test.YtkmcmahpfhlkhaaRes2
namespace Go.Proofs.Ytkmcmahpfhlkhaa
open Go.RowKit

set_option maxRecDepth 100000 in
set_option maxHeartbeats 2000000 in
theorem parts_short (n : Int) (v : Value) (xss : List (List Int)) (point block : Int) (w : World) (h : RowsAt w v xss) (hx : levE n xss 2 ≠ 0 ∨ (levE n xss 2 = 0 ∧ levK n xss 2 < 2) ∨ (levE n xss 2 = 0 ∧ ¬ levK n xss 2 < 2 ∧ n ≤ levK n xss 2)) :
    Calls Try.prog 9 #[.agg #[.int .i64 n, v], .int .i64 point, .int .i64 block] w fun e w' => e = .returned (.bool true) ∧ Below w.heap.size w w' := by
  have HV := Lib.hid h
  have HA0 := Lib.hid (pair_new w (.int .i64 n) v 24 _ rfl)
  have HB0 := Lib.hid (below_box w (.cells #[.int .i64 n, v] 24))
  obtain ⟨a, c, V, rfl, h1, h2, _, h3⟩ := h
  clear h3
  have HL : Hid (∀ w1, RowsAt w1 (.slice a xss.length c) xss → Calls Try.prog 17 #[.agg #[.int .i64 n, .slice a xss.length c], .int .i64 2] w1 (LevPost (levK n xss 2) (levL n xss 2) (levE n xss 2) w1)) := fun w1 hw => level_any n 2 _ xss w1 hw
  generalize levE n xss 2 = e0 at *
  generalize levK n xss 2 = k0 at *
  generalize levL n xss 2 = l0 at *
  rcases hx with hx | ⟨rfl, hx⟩ | ⟨rfl, hx, hy⟩
  · have d1 : (e0 != 0) = true := by simpa using hx
    clear hx
    go_enter Try.func9, Try.ntmps9
    go_wp2_with fail
    refine (designFact_any _).mono ?_
    rintro e w1 ⟨rfl, hb⟩
    have HA1 := Lib.hid (HA0.out.below hb)
    have HB1 := Lib.hid (belowTrans HB0.out hb)
    have b0 := HA1.out.cell (show 0 < 2 by omega); have b1 := HA1.out.cell (show 1 < 2 by omega)
    clear hb
    go_wp2_with fail
    refine (HL.out _ (HV.out.below HB1.out)).mono ?_
    rintro e w2 ⟨rfl, hb⟩
    have HB2 := Lib.hid (belowTrans HB1.out hb)
    have HA2 := Lib.hid (HA1.out.below hb)
    clear hb b0 b1
    have b0 := HA2.out.cell (show 0 < 2 by omega); have b1 := HA2.out.cell (show 1 < 2 by omega)
    go_wp2_with fail
    go_ret
    exact ⟨rfl, HB2.out⟩
  · have d1 : decide (k0 < 2) = true := by simpa using hx
    clear hx
    go_enter Try.func9, Try.ntmps9
    go_wp2_with fail
    refine (designFact_any _).mono ?_
    rintro e w1 ⟨rfl, hb⟩
    have HA1 := Lib.hid (HA0.out.below hb)
    have HB1 := Lib.hid (belowTrans HB0.out hb)
    have b0 := HA1.out.cell (show 0 < 2 by omega); have b1 := HA1.out.cell (show 1 < 2 by omega)
    clear hb
    go_wp2_with fail
    refine (HL.out _ (HV.out.below HB1.out)).mono ?_
    rintro e w2 ⟨rfl, hb⟩
    have HB2 := Lib.hid (belowTrans HB1.out hb)
    have HA2 := Lib.hid (HA1.out.below hb)
    clear hb b0 b1
    have b0 := HA2.out.cell (show 0 < 2 by omega); have b1 := HA2.out.cell (show 1 < 2 by omega)
    go_wp2_with fail
    go_ret
    exact ⟨rfl, HB2.out⟩
  · have d1 : decide (k0 < 2) = false := by simpa using hx
    have d2 : decide (n ≤ k0) = true := by simpa using hy
    clear hx hy
    go_enter Try.func9, Try.ntmps9
    go_wp2_with fail
    refine (designFact_any _).mono ?_
    rintro e w1 ⟨rfl, hb⟩
    have HA1 := Lib.hid (HA0.out.below hb)
    have HB1 := Lib.hid (belowTrans HB0.out hb)
    have b0 := HA1.out.cell (show 0 < 2 by omega); have b1 := HA1.out.cell (show 1 < 2 by omega)
    clear hb
    go_wp2_with fail
    refine (HL.out _ (HV.out.below HB1.out)).mono ?_
    rintro e w2 ⟨rfl, hb⟩
    have HB2 := Lib.hid (belowTrans HB1.out hb)
    have HA2 := Lib.hid (HA1.out.below hb)
    clear hb b0 b1
    have b0 := HA2.out.cell (show 0 < 2 by omega); have b1 := HA2.out.cell (show 1 < 2 by omega)
    go_wp2_with fail
    go_ret
    exact ⟨rfl, HB2.out⟩

set_option maxRecDepth 100000 in
set_option maxHeartbeats 2000000 in
theorem parts_main (m k l : Nat) (v : Value) (xss : List (List Int)) (point block : Int) (w : World) (h : RowsAt w v xss) (hL : Lev (m + 1) xss 2 k l) (hk : 2 ≤ k) (hkm : k < m + 1) 
    (_hp : -9223372036854775808 ≤ point ∧ point ≤ 9223372036854775807) (_hb : -9223372036854775808 ≤ block ∧ block ≤ 9223372036854775807) :
    Calls Try.prog 9 #[.agg #[.int .i64 ((m : Int) + 1), v], .int .i64 point, .int .i64 block] w fun e w' => e = .returned (.bool true) ∧ Below w.heap.size w w' := by
  have HV := Lib.hid h
  have HA0 := Lib.hid (pair_new w (.int .i64 ((m : Int) + 1)) v 24 _ rfl)
  have HB0 := Lib.hid (below_box w (.cells #[.int .i64 ((m : Int) + 1), v] 24))
  obtain ⟨a, c, V, rfl, h1, h2, _, h3⟩ := h
  clear h3
  have hm40 : (m : Int) + 1 ≤ 40 := by have := hL.des.hi; omega
  have hl200 := hL.des.few
  have HLv : Hid (∀ w1, RowsAt w1 (.slice a xss.length c) xss → Calls Try.prog 17 #[.agg #[.int .i64 ((m : Int) + 1), .slice a xss.length c], .int .i64 2] w1 (LevPost k l 0 w1)) := fun w1 hw => by
    have := level_any ((m + 1 : Nat) : Int) 2 _ xss w1 hw
    have hok := hL.ok
    rw [show (((2 : Nat)) : Int) = 2 from rfl] at hok
    rw [hok.1, hok.2.1, hok.2.2, show ((m + 1 : Nat) : Int) = (m : Int) + 1 from Int.natCast_succ m] at this
    exact this
  have HL := Lib.hid hL
  clear hL
  have dk1 : decide (k < 2) = false := by simp; omega
  have dk2 : decide ((m : Int) + 1 ≤ (k : Int)) = false := by simp; omega
  have dk3 : decide ((k : Int) < 2) = false := by simp; omega
  go_enter Try.func9, Try.ntmps9
  go_wp2_with fail
  refine (designFact_any _).mono ?_
  rintro e w1 ⟨rfl, hb⟩
  have HA1 := Lib.hid (HA0.out.below hb)
  have HB1 := Lib.hid (belowTrans HB0.out hb)
  have b0 := HA1.out.cell (show 0 < 2 by omega); have b1 := HA1.out.cell (show 1 < 2 by omega)
  clear hb
  go_wp2_with fail
  refine (HLv.out _ (HV.out.below HB1.out)).mono ?_
  rintro e w2 ⟨rfl, hb⟩
  have HB2 := Lib.hid (belowTrans HB1.out hb)
  have HA2 := Lib.hid (HA1.out.below hb)
  clear hb b0 b1
  have b0 := HA2.out.cell (show 0 < 2 by omega); have b1 := HA2.out.cell (show 1 < 2 by omega)
  clear HLv
  by_cases p1 : point < 0 ∨ ((m + 1 : Nat) : Int) ≤ point
  · have HDer := Lib.hid (der_range (m + 1) point (.slice a xss.length c) xss w2 (HV.out.below HB2.out) HL.out.des p1)
    rw [show ((m + 1 : Nat) : Int) = (m : Int) + 1 from Int.natCast_succ m] at HDer
    clear p1
    go_wp2_with fail
    refine (HDer.out).mono ?_
    rintro e w3 ⟨u, rfl, hr, hb, _⟩
    have HB3 := Lib.hid (belowTrans HB2.out hb)
    have HA3 := Lib.hid (HA2.out.below hb)
    obtain ⟨ua, uc, UV, rfl, _⟩ := hr
    simp only [List.length_nil]
    obtain ⟨w4, hw4⟩ : ∃ w4, w3.alloc (.cells #[.int .i64 0, .slice ua 0 uc] 24) = w4 := ⟨_, rfl⟩
    have HB4 : Hid (Below w.heap.size w w4) := by show Below _ _ _; rw [← hw4]; exact belowTrans HB3.out (below_box _ _)
    have HA4 : Hid (Arr w4 w.heap.size 2 (fun j => if j = 0 then Value.int .i64 ((m : Int) + 1) else .slice a xss.length c)) := by show Arr _ _ _ _; rw [← hw4]; exact HA3.out.alloc _
    have HW4 := Lib.hid hw4
    clear hb b0 b1 HDer
    have b0 := HA4.out.cell (show 0 < 2 by omega); have b1 := HA4.out.cell (show 1 < 2 by omega)
    rw [← hw4] at b0 b1
    clear hw4
    go_upto_region 12 with (fail)
    rw [HW4.out] at b0 b1 ⊢
    by_cases s1 : xss.length = m + 1
    · have HS1 := Lib.hid s1
      have e1 : (((xss.length : Nat) : Int) != (m : Int) + 1) = false := by simp; omega
      by_cases s2 : (m : Int) + 1 - (k : Int) < 2
      · have e2 : decide ((m : Int) + 1 - (k : Int) < 2) = true := by simpa using s2
        clear s1 s2
        go_wp2_with fail
        go_ret
        exact ⟨rfl, HB4.out⟩
      · have e2 : decide ((m : Int) + 1 - (k : Int) < 2) = false := by simpa using s2
        by_cases s3 : block < 0 ∨ (xss.length : Int) ≤ block
        · have HRes := Lib.hid (res_range (m + 1) block (.slice a xss.length c) xss w4 (HV.out.below HB4.out) HL.out.des s3)
          rw [show ((m + 1 : Nat) : Int) = (m : Int) + 1 from Int.natCast_succ m] at HRes
          by_cases s4 : block < 0
          all_goals
            first
            | have e3 : decide (block < 0) = true := by simpa using s4
            | (have e3 : decide (block < 0) = false := by simpa using s4
               have e4 : decide (((xss.length : Nat) : Int) ≤ block) = true := by simp; omega)
            clear s1 s2 s3 s4
            go_wp2_with fail
            refine (HRes.out).mono ?_
            rintro e w5 ⟨u, rfl, hr, hb, _⟩
            have HB5 := Lib.hid (belowTrans HB4.out hb)
            have HA5 := Lib.hid (HA4.out.below hb)
            obtain ⟨ua, uc, UV, rfl, _⟩ := hr
            simp only [List.length_nil]
            have HBx := Lib.hid (belowTrans HB5.out (below_box w5 (.cells #[.int .i64 0, .slice ua 0 uc] 24)))
            have HAx := Lib.hid (HA5.out.alloc (.cells #[.int .i64 0, .slice ua 0 uc] 24))
            clear hb b0 b1 HRes
            have b0 := HAx.out.cell (show 0 < 2 by omega); have b1 := HAx.out.cell (show 1 < 2 by omega)
            go_wp2_with fail
            go_ret
            exact ⟨rfl, HBx.out⟩
        · obtain ⟨q, rfl⟩ := Int.eq_ofNat_of_zero_le (show 0 ≤ block by omega)
          have hRL := resL_lev HL.out (by omega) HS1.out (by omega) (show q < xss.length by omega)
          have HRL := Lib.hid hRL.2.1
          have hlk := hRL.2.2
          have hRes := res_any (m + 1) q (.slice a xss.length c) xss w4 (HV.out.below HB4.out) HL.out.des (by omega)
          have hRP : ResPost (m + 1) q xss w4 = DesPostT ((leftOf (m + 1) (rx xss q)).length : Int) (resL (m + 1) q xss) 0 w4 := by
            funext e w'; unfold ResPost; rw [if_neg (by omega)]
          rw [hRP, hRL.1, show ((m + 1 : Nat) : Int) = (m : Int) + 1 from Int.natCast_succ m] at hRes
          have HRes := Lib.hid hRes
          clear hRL hRes hRP s1 s2 s3
          go_wp2_with fail
          refine (HRes.out).mono ?_
          rintro e w5 ⟨u, rfl, hr, hb, _⟩
          have HB5 := Lib.hid (belowTrans HB4.out hb)
          have HU := Lib.hid hr
          obtain ⟨ua, uc, UV, rfl, _⟩ := hr
          obtain ⟨ln, hln⟩ : ∃ ln, ln = (resL (m + 1) q xss).length := ⟨_, rfl⟩
          rw [← hln] at HU ⊢
          have HBx := Lib.hid (belowTrans HB5.out (below_box w5 (.cells #[.int .i64 ((m + 1 - k : Nat) : Int), .slice ua ln uc] 24)))
          have HLb := Lib.hid (level_any ((m + 1 - k : Nat) : Int) 2 _ (resL (m + 1) q xss) _ (HU.out.below (below_box w5 (.cells #[.int .i64 ((m + 1 - k : Nat) : Int), .slice ua ln uc] 24))))
          have hok := HRL.out.ok
          rw [show (((2 : Nat)) : Int) = 2 from rfl] at hok
          rw [hok.1, hok.2.1, hok.2.2, show ((k - l : Nat) : Int) = (k : Int) - (l : Int) by omega] at HLb
          clear hb b0 b1 hln hok HRes e1 e2
          go_wp2_with fail
          refine (HLb.out).mono ?_
          rintro e w6 ⟨rfl, hb⟩
          have HB6 := Lib.hid (belowTrans HBx.out hb)
          clear hb HLb
          go_wp2_with fail
          go_ret
          exact ⟨rfl, HB6.out⟩
    · have e1 : (((xss.length : Nat) : Int) != (m : Int) + 1) = true := by simp; omega
      clear s1
      go_wp2_with fail
      go_ret
      exact ⟨rfl, HB4.out⟩
  · obtain ⟨p, rfl⟩ := Int.eq_ofNat_of_zero_le (show 0 ≤ point by omega)
    have HDer := Lib.hid (der_any m p (.slice a xss.length c) xss w2 (HV.out.below HB2.out) (by have := HL.out.des; rwa [show ((m + 1 : Nat) : Int) = (m : Int) + 1 from Int.natCast_succ m] at this) (by omega) (by omega))
    have HDL := Lib.hid (derL_lev HL.out hk hkm (show p < m + 1 by omega))
    clear p1
    go_wp2_with fail
    refine (HDer.out).mono ?_
    rintro e w3 ⟨u, rfl, hr, hb, _⟩
    have HB3 := Lib.hid (belowTrans HB2.out hb)
    have HA3 := Lib.hid (HA2.out.below hb)
    have HU := Lib.hid hr
    obtain ⟨ua, uc, UV, rfl, _⟩ := hr
    obtain ⟨dn, hdn⟩ : ∃ dn, dn = (derL m p xss).length := ⟨_, rfl⟩
    rw [← hdn] at HU ⊢
    have HLa := Lib.hid (level_any (m : Int) 1 _ (derL m p xss) _ (HU.out.below (below_box w3 (.cells #[.int .i64 (m : Int), .slice ua dn uc] 24))))
    have hok := HDL.out.ok
    rw [show (((1 : Nat)) : Int) = 1 from rfl] at hok
    rw [hok.1, hok.2.1, hok.2.2, show ((k - 1 : Nat) : Int) = (k : Int) - 1 by omega] at HLa
    have HBx := Lib.hid (belowTrans HB3.out (below_box w3 (.cells #[.int .i64 (m : Int), .slice ua dn uc] 24)))
    have HAx := Lib.hid (HA3.out.alloc (.cells #[.int .i64 (m : Int), .slice ua dn uc] 24))
    clear hb b0 b1 HDer hdn hok
    go_wp2_with fail
    refine (HLa.out).mono ?_
    rintro e w4 ⟨rfl, hb⟩
    have HB4 := Lib.hid (belowTrans HBx.out hb)
    have HA4 := Lib.hid (HAx.out.below hb)
    clear hb HLa
    have b0 := HA4.out.cell (show 0 < 2 by omega); have b1 := HA4.out.cell (show 1 < 2 by omega)
    go_upto_region 12 with (fail)
    by_cases s1 : xss.length = m + 1
    · have HS1 := Lib.hid s1
      have e1 : (((xss.length : Nat) : Int) != (m : Int) + 1) = false := by simp; omega
      by_cases s2 : (m : Int) + 1 - (k : Int) < 2
      · have e2 : decide ((m : Int) + 1 - (k : Int) < 2) = true := by simpa using s2
        clear s1 s2
        go_wp2_with fail
        go_ret
        exact ⟨rfl, HB4.out⟩
      · have e2 : decide ((m : Int) + 1 - (k : Int) < 2) = false := by simpa using s2
        by_cases s3 : block < 0 ∨ (xss.length : Int) ≤ block
        · have HRes := Lib.hid (res_range (m + 1) block (.slice a xss.length c) xss w4 (HV.out.below HB4.out) HL.out.des s3)
          rw [show ((m + 1 : Nat) : Int) = (m : Int) + 1 from Int.natCast_succ m] at HRes
          by_cases s4 : block < 0
          all_goals
            first
            | have e3 : decide (block < 0) = true := by simpa using s4
            | (have e3 : decide (block < 0) = false := by simpa using s4
               have e4 : decide (((xss.length : Nat) : Int) ≤ block) = true := by simp; omega)
            clear s1 s2 s3 s4
            go_wp2_with fail
            refine (HRes.out).mono ?_
            rintro e w5 ⟨u, rfl, hr, hb, _⟩
            have HB5 := Lib.hid (belowTrans HB4.out hb)
            have HA5 := Lib.hid (HA4.out.below hb)
            obtain ⟨ua, uc, UV, rfl, _⟩ := hr
            simp only [List.length_nil]
            have HBx := Lib.hid (belowTrans HB5.out (below_box w5 (.cells #[.int .i64 0, .slice ua 0 uc] 24)))
            have HAx := Lib.hid (HA5.out.alloc (.cells #[.int .i64 0, .slice ua 0 uc] 24))
            clear hb b0 b1 HRes
            have b0 := HAx.out.cell (show 0 < 2 by omega); have b1 := HAx.out.cell (show 1 < 2 by omega)
            go_wp2_with fail
            go_ret
            exact ⟨rfl, HBx.out⟩
        · obtain ⟨q, rfl⟩ := Int.eq_ofNat_of_zero_le (show 0 ≤ block by omega)
          have hRL := resL_lev HL.out (by omega) HS1.out (by omega) (show q < xss.length by omega)
          have HRL := Lib.hid hRL.2.1
          have hlk := hRL.2.2
          have hRes := res_any (m + 1) q (.slice a xss.length c) xss w4 (HV.out.below HB4.out) HL.out.des (by omega)
          have hRP : ResPost (m + 1) q xss w4 = DesPostT ((leftOf (m + 1) (rx xss q)).length : Int) (resL (m + 1) q xss) 0 w4 := by
            funext e w'; unfold ResPost; rw [if_neg (by omega)]
          rw [hRP, hRL.1, show ((m + 1 : Nat) : Int) = (m : Int) + 1 from Int.natCast_succ m] at hRes
          have HRes := Lib.hid hRes
          clear hRL hRes hRP s1 s2 s3
          go_wp2_with fail
          refine (HRes.out).mono ?_
          rintro e w5 ⟨u, rfl, hr, hb, _⟩
          have HB5 := Lib.hid (belowTrans HB4.out hb)
          have HU := Lib.hid hr
          obtain ⟨ua, uc, UV, rfl, _⟩ := hr
          obtain ⟨ln, hln⟩ : ∃ ln, ln = (resL (m + 1) q xss).length := ⟨_, rfl⟩
          rw [← hln] at HU ⊢
          have HBx := Lib.hid (belowTrans HB5.out (below_box w5 (.cells #[.int .i64 ((m + 1 - k : Nat) : Int), .slice ua ln uc] 24)))
          have HLb := Lib.hid (level_any ((m + 1 - k : Nat) : Int) 2 _ (resL (m + 1) q xss) _ (HU.out.below (below_box w5 (.cells #[.int .i64 ((m + 1 - k : Nat) : Int), .slice ua ln uc] 24))))
          have hok := HRL.out.ok
          rw [show (((2 : Nat)) : Int) = 2 from rfl] at hok
          rw [hok.1, hok.2.1, hok.2.2, show ((k - l : Nat) : Int) = (k : Int) - (l : Int) by omega] at HLb
          clear hb b0 b1 hln hok HRes e1 e2
          go_wp2_with fail
          refine (HLb.out).mono ?_
          rintro e w6 ⟨rfl, hb⟩
          have HB6 := Lib.hid (belowTrans HBx.out hb)
          clear hb HLb
          go_wp2_with fail
          go_ret
          exact ⟨rfl, HB6.out⟩
    · have e1 : (((xss.length : Nat) : Int) != (m : Int) + 1) = true := by simp; omega
      clear s1
      go_wp2_with fail
      go_ret
      exact ⟨rfl, HB4.out⟩
theorem designParts_walk (n : Int) (v : Value) (xss : List (List Int)) (point block : Int) (w : World) (_hn : -9223372036854775808 ≤ n ∧ n ≤ 9223372036854775807) (h : RowsAt w v xss) (_hx : ∀ xs ∈ xss, Fits xs) (hp : -9223372036854775808 ≤ point ∧ point ≤ 9223372036854775807) (hb : -9223372036854775808 ≤ block ∧ block ≤ 9223372036854775807) :
    Calls Try.prog 9 #[.agg #[.int .i64 n, v], .int .i64 point, .int .i64 block] w fun e w' => e = .returned (.bool true) ∧ Below w.heap.size w w' := by
  by_cases h0 : levE n xss 2 = 0
  · obtain ⟨N, T, k, l, rfl, hT, hk, hl, hL⟩ := lev_ok h0
    obtain rfl : T = 2 := by omega
    by_cases h1 : k < 2
    · exact parts_short N v xss point block w h (.inr (.inl ⟨h0, by rw [hk]; omega⟩))
    · by_cases h2 : N ≤ k
      · exact parts_short N v xss point block w h (.inr (.inr ⟨h0, by rw [hk]; omega, by rw [hk]; omega⟩))
      · obtain ⟨m, rfl⟩ : ∃ m, N = m + 1 := ⟨N - 1, by omega⟩
        have := parts_main m k l v xss point block w h hL (by omega) (by omega) hp hb
        rwa [← show ((m + 1 : Nat) : Int) = (m : Int) + 1 from Int.natCast_succ m] at this
  · exact parts_short n v xss point block w h (.inl h0)
end Go.Proofs.Ytkmcmahpfhlkhaa
