/-
  The law DesignDown, walked: it returns true whatever the design. No condition.
-/
import Derived.Test.YtkmcmahpfhlkhaaDesFact
import Derived.Test.YtkmcmahpfhlkhaaLevLaw
namespace Go.Proofs.Ytkmcmahpfhlkhaa
open Go.RowKit

theorem lamP_nil (xss : List (List Int)) : lamP xss [] = xss.length := by
  unfold lamP
  have : ∀ m, cnt (hasP xss []) m = m := by
    intro m
    induction m with
    | zero => rfl
    | succ m ih => rw [cnt, ih]; rfl
  exact this _
theorem Lev.none {n k l : Nat} {xss : List (List Int)} (h : Lev n xss 0 k l) : l = xss.length := by
  rw [← lamP_nil xss]; exact (h.lev [] List.nodup_nil (fun x hx => by cases hx) rfl).symm
theorem Lev.kn {n t k l : Nat} {xss : List (List Int)} (h : Lev n xss t k l) : k ≤ n := by
  rw [← h.uni 0 h.ne]; exact (h.des.all 0 h.ne).len
theorem Lev.lb {n t k l : Nat} {xss : List (List Int)} (h : Lev n xss t k l) : l ≤ xss.length := by
  have hP := mem_subsL.1 (show List.range' 0 t ∈ subsL n t 0 from by
    rw [mem_subsL]
    refine ⟨by simp, ?_⟩
    have : ∀ (s a : Nat), a + s ≤ n → RiseL n a (List.range' a s) := by
      intro s
      induction s with
      | zero => intro a _; trivial
      | succ s ih => intro a ha; rw [List.range'_succ]; exact ⟨Nat.le_refl _, by omega, ih (a + 1) (by omega)⟩
    exact this t 0 (by have := h.tn; omega))
  rw [← h.lev _ (riseL_nodup hP.2) (fun x hx => (riseL_ge hP.2 x hx).2) hP.1]
  exact cnt_le _ _

set_option maxRecDepth 100000 in
set_option maxHeartbeats 1000000 in
theorem designDown_walk (n : Int) (v : Value) (xss : List (List Int)) (t : Int) (w : World) (_hn : -9223372036854775808 ≤ n ∧ n ≤ 9223372036854775807) (h : RowsAt w v xss) (_hx : ∀ xs ∈ xss, Fits xs) (_ht : -9223372036854775808 ≤ t ∧ t ≤ 9223372036854775807) :
    Calls Try.prog 6 #[.agg #[.int .i64 n, v], .int .i64 t] w fun e w' => e = .returned (.bool true) ∧ Below w.heap.size w w' := by
  have HV := Lib.hid h
  have HA0 := Lib.hid (pair_new w (.int .i64 n) v 24 _ rfl)
  have HB0 := Lib.hid (below_box w (.cells #[.int .i64 n, v] 24))
  obtain ⟨a, c, V, rfl, h1, h2, _, h3⟩ := h
  clear h3
  by_cases h0 : levE n xss t = 0
  · obtain ⟨N, T, k, l, rfl, rfl, hk, hl, hL⟩ := lev_ok h0
    have HL := Lib.hid hL
    have hkn := hL.kn; have hn40 := hL.des.hi; have hlb := hL.lb; have h200 := hL.des.few; have ht4 := hL.t4; have htn := hL.tn
    have HLev : ∀ w1, RowsAt w1 (.slice a xss.length c) xss → Calls Try.prog 17 #[.agg #[.int .i64 (N : Nat), .slice a xss.length c], .int .i64 (T : Nat)] w1 (LevPost k l 0 w1) := fun w1 hw => by
      have := level_any N T _ xss w1 hw
      rw [h0, hk, hl] at this; exact this
    have HLv := Lib.hid HLev
    clear h0 hk hl hL HLev
    by_cases hkt : k < T
    · have d1 : decide (k < T) = true := by simpa using hkt
      go_enter Try.func6, Try.ntmps6
      go_wp2_with fail
      refine (designFact_any _).mono ?_
      rintro e w1 ⟨rfl, hb⟩
      have HA1 := Lib.hid (HA0.out.below hb)
      have HB1 := Lib.hid (belowTrans HB0.out hb)
      have b0 := HA1.out.cell (show 0 < 2 by omega); have b1 := HA1.out.cell (show 1 < 2 by omega)
      clear hb
      go_wp2_with fail
      refine (HLv.out _ (HV.out.below HB1.out)).mono ?_
      rintro e w2 ⟨rfl, hb⟩
      have HB2 := Lib.hid (belowTrans HB1.out hb)
      clear hb b0 b1
      go_wp2_with fail
      go_ret
      exact ⟨rfl, HB2.out⟩
    · have d1 : decide (k < T) = false := by simpa using hkt
      go_enter Try.func6, Try.ntmps6
      go_wp2_with fail
      refine (designFact_any _).mono ?_
      rintro e w1 ⟨rfl, hb⟩
      have HA1 := Lib.hid (HA0.out.below hb)
      have HB1 := Lib.hid (belowTrans HB0.out hb)
      have b0 := HA1.out.cell (show 0 < 2 by omega); have b1 := HA1.out.cell (show 1 < 2 by omega)
      clear hb
      go_wp2_with fail
      refine (HLv.out _ (HV.out.below HB1.out)).mono ?_
      rintro e w2 ⟨rfl, hb⟩
      have HA2 := Lib.hid (HA1.out.below hb)
      have HB2 := Lib.hid (belowTrans HB1.out hb)
      clear hb b0 b1 d1
      go_wp2_with fail
      go_loopw [7, 9] (fun x s wr => ∃ (i m : Nat), i ≤ T ∧ s = .int .i64 ((i : Int) - 1) ∧ x = .int .i64 (m : Nat) ∧ Lev N xss i k m ∧ Below w.heap.size w wr ∧ Arr wr w.heap.size 2 (fun j => if j = 0 then Value.int .i64 (N : Nat) else .slice a xss.length c)) (fun _ s _ => (intOf s + 1).toNat)
      case atStart => exact ⟨T, l, Nat.le_refl _, rfl, rfl, HL.out, HB2.out, HA2.out⟩
      case round =>
        clear HB2 HA2 HB1 HA1 HLv HL
        obtain ⟨i, m, hi, rfl, rfl, hL, hB, hA⟩ := hrel
        have HL := Lib.hid hL; have HB := Lib.hid hB; have HA := Lib.hid hA
        have b0 := hA.cell (show 0 < 2 by omega); have b1 := hA.cell (show 1 < 2 by omega)
        have hmb := hL.lb
        clear hL hB hA
        cases i with
        | zero =>
          have hlen := Lib.hid HL.out.none
          have e1 : (((xss.length : Nat) : Int) == ((m : Nat) : Int)) = true := by simp [hlen.out]
          go_wp2_with fail
          go_ret
          exact ⟨rfl, HB.out⟩
        | succ i =>
          obtain ⟨m', hL', he⟩ := HL.out.down (by omega)
          have HL' := Lib.hid hL'
          have hmb' := hL'.lb
          have HC := Lib.hid (level_any N i _ xss _ (HV.out.below HB.out))
          rw [hL'.ok.1, hL'.ok.2.1, hL'.ok.2.2] at HC
          have HE := Lib.hid he
          clear hL' he
          have hi1 : ((i + 1 : Nat) : Int) - 1 = (i : Int) := by omega
          rw [hi1]
          clear hi1
          go_wp2_with fail
          refine (HC.out).mono ?_
          rintro e w3 ⟨rfl, hb⟩
          have HB3 := Lib.hid (belowTrans HB.out hb)
          have HA3 := Lib.hid (HA.out.below hb)
          clear hb HC b0 b1
          have b0 := HA3.out.cell (show 0 < 2 by omega)
          have p1 : (m' : Int) * ((k : Int) - (i : Int)) ≤ 200 * 40 := by
            have h1 : (m' : Int) * ((k : Int) - (i : Int)) ≤ (m' : Int) * 40 := Int.mul_le_mul_of_nonneg_left (by omega) (by omega)
            omega
          have p2 : 0 ≤ (m' : Int) * ((k : Int) - (i : Int)) := Int.mul_nonneg (by omega) (by omega)
          obtain ⟨p, hp⟩ : ∃ p, p = (m' : Int) * ((k : Int) - (i : Int)) := ⟨_, rfl⟩
          have hp2 : p = (m : Int) * ((N : Int) - (i : Int)) := by rw [hp, HE.out]
          have V1 : Value.int .i64 (wrap64 ((m' : Int) * ((k : Int) - (i : Int)))) = Value.int .i64 p := by rw [← hp, IntWalk.wrap64_in _ (by omega)]
          have V2 : Value.int .i64 (wrap64 ((m : Int) * ((N : Int) - (i : Int)))) = Value.int .i64 p := by rw [← hp2, IntWalk.wrap64_in _ (by omega)]
          clear p1 p2 hp hp2
          go_wp2_with fail
          go_roundw
          case rel => exact ⟨i, m', by omega, by go_num, rfl, HL'.out, HB3.out, HA3.out⟩
          case measure => simp [intOf]
  · have hne : (levE n xss t != 0) = true := by simpa using h0
    have HLv : Hid (∀ w1, RowsAt w1 (.slice a xss.length c) xss → Calls Try.prog 17 #[.agg #[.int .i64 n, .slice a xss.length c], .int .i64 t] w1 (LevPost (levK n xss t) (levL n xss t) (levE n xss t) w1)) := fun w1 hw => level_any n t _ xss w1 hw
    clear h0
    generalize levE n xss t = e0 at *
    generalize levK n xss t = k0 at *
    generalize levL n xss t = l0 at *
    go_enter Try.func6, Try.ntmps6
    go_wp2_with fail
    refine (designFact_any _).mono ?_
    rintro e w1 ⟨rfl, hb⟩
    have HA1 := Lib.hid (HA0.out.below hb)
    have HB1 := Lib.hid (belowTrans HB0.out hb)
    have b0 := HA1.out.cell (show 0 < 2 by omega); have b1 := HA1.out.cell (show 1 < 2 by omega)
    clear hb
    go_wp2_with fail
    refine (HLv.out _ (HV.out.below HB1.out)).mono ?_
    rintro e w2 ⟨rfl, hb⟩
    have HB2 := Lib.hid (belowTrans HB1.out hb)
    clear hb b0 b1
    go_wp2_with fail
    go_ret
    exact ⟨rfl, HB2.out⟩
end Go.Proofs.Ytkmcmahpfhlkhaa
