/-
  Contracts: cmp.Compare, slices.Compare, the closure of a system's design; the reference's Ahead: of rows of one length. No condition.
-/
import Derived.Test.YtimfggbfapbihaaTLex
import Derived.Test.YtimfggbfapbihaaInts
namespace Go.Proofs.Ytimfggbfapbihaa
open Go.RowKit

theorem isNaN_any (x : Int) (w : World) : Calls Try.prog 34 #[.int .i64 x] w fun e w' => e = .returned (.bool false) ∧ w' = w := by
  have e1 : (x != x) = false := by simp
  go_enter Try.func34, Try.ntmps34
  go_wp2_with fail
  go_ret
  exact ⟨rfl, rfl⟩
def cmpI (x y : Int) : Int := if x < y then -1 else if y < x then 1 else 0
set_option maxHeartbeats 1000000 in
theorem cmpI_any (x y : Int) (w : World) : Calls Try.prog 22 #[.int .i64 x, .int .i64 y] w fun e w' => e = .returned (.int .i64 (cmpI x y)) ∧ w' = w := by
  have HN := Lib.hid (fun z w => isNaN_any z w)
  by_cases h1 : x < y
  · have hR : Hid (cmpI x y = -1) := by show _ = _; unfold cmpI; rw [if_pos h1]
    have e1 : decide (x < y) = true := by simpa using h1
    clear h1
    go_enter Try.func22, Try.ntmps22
    go_wp2_with (refine (HN.out _ _).mono ?_; rintro e w' ⟨rfl, rfl⟩)
    go_ret
    exact ⟨ret_int hR.out.symm, rfl⟩
  · have e1 : decide (x < y) = false := by simpa using h1
    by_cases h2 : y < x
    · have hR : Hid (cmpI x y = 1) := by show _ = _; unfold cmpI; rw [if_neg h1, if_pos h2]
      have e2 : decide (y < x) = true := by simpa using h2
      clear h1 h2
      go_enter Try.func22, Try.ntmps22
      go_wp2_with (refine (HN.out _ _).mono ?_; rintro e w' ⟨rfl, rfl⟩)
      go_ret
      exact ⟨ret_int hR.out.symm, rfl⟩
    · have hR : Hid (cmpI x y = 0) := by show _ = _; unfold cmpI; rw [if_neg h1, if_neg h2]
      have e2 : decide (y < x) = false := by simpa using h2
      clear h1 h2
      go_enter Try.func22, Try.ntmps22
      go_wp2_with (refine (HN.out _ _).mono ?_; rintro e w' ⟨rfl, rfl⟩)
      go_ret
      exact ⟨ret_int hR.out.symm, rfl⟩

set_option maxHeartbeats 2000000 in
theorem compare_any (v u : Value) (xs ys : List Int) (w : World) (h : IntsAt w v xs) (g : IntsAt w u ys) (hl : xs.length = ys.length) :
    Calls Try.prog 15 #[v, u] w fun e w' => e = .returned (.int .i64 (cmpL xs ys)) ∧ w' = w := by
  obtain ⟨a, c, rfl, h1, h2, _, h3⟩ := h
  obtain ⟨b, d, rfl, g1, g2, _, g3⟩ := g
  have HL := Lib.hid hl
  have HX := Lib.hid h3; have HY := Lib.hid g3
  have HC := Lib.hid (fun x y => cmpI_any x y w)
  have hll : decide (xs.length < ys.length) = false := by simp; omega
  clear h3 g3 hl
  go_enter Try.func15, Try.ntmps15
  go_wp2_with fail
  go_loopw [11] (fun i wr => ∃ k : Nat, k ≤ xs.length ∧ i = .int .i64 k ∧ cmpL xs ys = cmpL (xs.drop k) (ys.drop k) ∧ wr = w) (fun i _ => xs.length - (intOf i).toNat)
  case atStart => exact ⟨0, by omega, rfl, by simp, rfl⟩
  case round =>
    obtain ⟨k, hk, rfl, ha, rfl⟩ := hrel
    have HA := Lib.hid ha; clear ha
    by_cases hlt : k < xs.length
    · have hlt2 : k < ys.length := by have := HL.out; omega
      obtain ⟨b1, o1, rfl, hb1, hc1⟩ := HX.out k hlt
      obtain ⟨b2, o2, rfl, hb2, hc2⟩ := HY.out k hlt2
      have c1 := hc1 k hlt
      have c2 := hc2 k hlt2
      have i1 : ((k : Nat) : Int) < ((xs.length : Nat) : Int) := by omega
      have i2 : ((k : Nat) : Int) < ((ys.length : Nat) : Int) := by omega
      have i3 : decide (((ys.length : Nat) : Int) ≤ ((k : Nat) : Int)) = false := by simp; omega
      have HLo := Lib.hid (fun q => cmpL_lo hlt hlt2 q); have HHi := Lib.hid (fun q => cmpL_hi hlt hlt2 q); have HEq := Lib.hid (fun q => cmpL_eq hlt hlt2 q)
      have HK := Lib.hid (HC.out (ix xs k) (ix ys k))
      clear hc1 hc2 hll
      generalize ix xs k = x at *
      generalize ix ys k = y at *
      by_cases e1 : x < y
      · have er : cmpI x y = -1 := by unfold cmpI; rw [if_pos e1]
        have HR : Hid (cmpL xs ys = -1) := HA.out.trans (HLo.out e1)
        rw [er] at HK
        clear er e1
        go_wp2_with (refine HK.out.mono ?_; rintro e w' ⟨rfl, rfl⟩)
        go_ret
        exact ⟨ret_int HR.out.symm, rfl⟩
      · by_cases e2 : y < x
        · have er : cmpI x y = 1 := by unfold cmpI; rw [if_neg e1, if_pos e2]
          have HR : Hid (cmpL xs ys = 1) := HA.out.trans (HHi.out e2)
          rw [er] at HK
          clear er e1 e2
          go_wp2_with (refine HK.out.mono ?_; rintro e w' ⟨rfl, rfl⟩)
          go_ret
          exact ⟨ret_int HR.out.symm, rfl⟩
        · have er : cmpI x y = 0 := by unfold cmpI; rw [if_neg e1, if_neg e2]
          have HR := Lib.hid (HA.out.trans (HEq.out (by omega)))
          rw [er] at HK
          clear er e1 e2
          go_wp2_with (refine HK.out.mono ?_; rintro e w' ⟨rfl, rfl⟩)
          go_roundw
          case rel => exact ⟨k + 1, by omega, by go_num, HR.out, trivial⟩
          case measure => simp [intOf]; omega
    · obtain rfl : k = xs.length := by omega
      have HR : Hid (cmpL xs ys = 0) := HA.out.trans (cmpL_end HL.out)
      go_wp2_with fail
      go_ret
      exact ⟨ret_int HR.out.symm, rfl⟩
set_option maxHeartbeats 1000000 in
theorem closure_any (v u : Value) (xs ys : List Int) (w : World) (h : IntsAt w v xs) (g : IntsAt w u ys) (hl : xs.length = ys.length) :
    Calls Try.prog 14 #[v, u] w fun e w' => e = .returned (.int .i64 (cmpL xs ys)) ∧ w' = w := by
  have HC := Lib.hid (compare_any v u xs ys w h g hl)
  clear hl
  generalize cmpL xs ys = r at *
  obtain ⟨a, c, rfl, _⟩ := h
  obtain ⟨b, d, rfl, _⟩ := g
  go_enter Try.func14, Try.ntmps14
  go_wp2_with (refine HC.out.mono ?_; rintro e w' ⟨rfl, rfl⟩)
  go_ret
  exact ⟨rfl, rfl⟩

set_option maxHeartbeats 2000000 in
theorem ahead_any (v u : Value) (xs ys : List Int) (w : World) (h : IntsAt w v xs) (g : IntsAt w u ys) (hl : xs.length = ys.length) :
    Calls Try.prog 17 #[v, u] w fun e w' => e = .returned (.bool (lexB xs ys)) ∧ ∃ nd, w' = w.drewN nd := by
  obtain ⟨a, c, rfl, h1, h2, _, h3⟩ := h
  obtain ⟨b, d, rfl, g1, g2, _, g3⟩ := g
  have HL := Lib.hid hl
  have HX := Lib.hid h3; have HY := Lib.hid g3
  have hll : decide (xs.length < ys.length) = false := by simp; omega
  clear h3 g3 hl
  go_enter Try.func17, Try.ntmps17
  go_wp2_with fail
  go_loopw [5] (fun i wr => ∃ k nd : Nat, k ≤ xs.length ∧ i = .int .i64 k ∧ lexB xs ys = lexB (xs.drop k) (ys.drop k) ∧ wr = w.drewN nd) (fun i _ => xs.length - (intOf i).toNat)
  case atStart => exact ⟨0, 0, by omega, rfl, by simp, rfl⟩
  case round =>
    obtain ⟨k, nd, hk, rfl, ha, rfl⟩ := hrel
    have HA := Lib.hid ha; clear ha
    by_cases hlt : k < xs.length
    · have hlt2 : k < ys.length := by have := HL.out; omega
      obtain ⟨b1, o1, rfl, hb1, hc1⟩ := HX.out k hlt
      obtain ⟨b2, o2, rfl, hb2, hc2⟩ := HY.out k hlt2
      have c1 := hc1 k hlt
      have c2 := hc2 k hlt2
      have i1 : ((k : Nat) : Int) < ((xs.length : Nat) : Int) := by omega
      have i2 : ((k : Nat) : Int) < ((ys.length : Nat) : Int) := by omega
      have HLo := Lib.hid (fun q => lexB_lo hlt hlt2 q); have HHi := Lib.hid (fun q => lexB_hi hlt hlt2 q); have HEq := Lib.hid (fun q => lexB_eq hlt hlt2 q)
      clear hc1 hc2 hll
      generalize ix xs k = x at *
      generalize ix ys k = y at *
      by_cases e1 : x < y
      · have en : (x != y) = true := by simp; omega
        have ed : decide (x < y) = true := by simpa using e1
        have HR : Hid (lexB xs ys = true) := HA.out.trans (HLo.out e1)
        clear e1
        go_wp2_with fail
        go_quiet (fail)
        go_wp2_with fail
        go_quiet (fail)
        go_wp2_with fail
        go_ret
        exact ⟨ret_bool HR.out.symm, _, by rw [World.drewN_drewN, World.drewN_drewN]⟩
      · by_cases e2 : y < x
        · have en : (x != y) = true := by simp; omega
          have ed : decide (x < y) = false := by simpa using e1
          have HR : Hid (lexB xs ys = false) := HA.out.trans (HHi.out e2)
          clear e1 e2
          go_wp2_with fail
          go_quiet (fail)
          go_wp2_with fail
          go_quiet (fail)
          go_wp2_with fail
          go_ret
          exact ⟨ret_bool HR.out.symm, _, by rw [World.drewN_drewN, World.drewN_drewN]⟩
        · have en : (x != y) = false := by simp; omega
          have HR := Lib.hid (HA.out.trans (HEq.out (by omega)))
          clear e1 e2
          go_wp2_with fail
          go_quiet (fail)
          go_wp2_with fail
          go_roundw
          case rel => exact ⟨k + 1, _, by omega, by go_num, HR.out, rfl⟩
          case measure => simp [intOf]; omega
    · obtain rfl : k = xs.length := by omega
      have HR : Hid (lexB xs ys = false) := HA.out.trans (lexB_end HL.out)
      go_wp2_with fail
      go_ret
      exact ⟨ret_bool HR.out.symm, _, rfl⟩
end Go.Proofs.Ytimfggbfapbihaa
