/-
  The law DifferHall, walked: it returns true whatever the numbers. No condition.
-/
import Derived.Test.YtnmgambilpoeiaaDifFact
import Derived.Test.YtnmgambilpoeiaaMults
import Derived.Test.YtnmgambilpoeiaaMann
import Derived.Test.YtnmgambilpoeiaaPrime
import Derived.Test.YtnmgambilpoeiaaLies
namespace Go.Proofs.Ytnmgambilpoeiaa
open Go.RowKit

set_option maxRecDepth 100000 in
set_option maxHeartbeats 1000000 in
theorem dhall_bad (n : Int) (v : Value) (xs : List Int) (w : World) (h : IntsAt w v xs) (hf : difE n xs ≠ 0) :
    Calls Try.prog 7 #[.int .i64 n, v] w fun e w' => e = .returned (.bool true) ∧ Below w.heap.size w w' := by
  have HV := Lib.hid h
  have HL : Hid (∀ w1, IntsAt w1 v xs → Calls Try.prog 10 #[.int .i64 n, v] w1 (DifPost (difL n xs) (difE n xs) w1)) := fun w1 hw => dlevel_any n v xs w1 hw
  have hne : (difE n xs != 0) = true := by simpa using hf
  obtain ⟨a, c, rfl, _⟩ := h
  clear hf
  generalize difE n xs = e0 at *
  generalize difL n xs = l0 at *
  go_enter Try.func7, Try.ntmps7
  go_wp2_with fail
  refine (differFact_any _).mono ?_
  rintro e w1 ⟨rfl, hb⟩
  have HB1 := Lib.hid hb; clear hb
  go_wp2_with fail
  refine (HL.out _ (HV.out.below HB1.out)).mono ?_
  rintro e w2 ⟨rfl, hb⟩
  have HB2 := Lib.hid (belowTrans HB1.out hb); clear hb
  go_wp2_with fail
  go_ret
  exact ⟨rfl, HB2.out⟩

theorem lev_le {v l : Nat} {xs : List Int} (h : DLev v xs l) : l ≤ xs.length := by
  by_cases h1 : v = 1
  · rw [h.one h1]; omega
  · have hlo := h.set.lo
    have e := h.all 1 (by omega) (by omega)
    have h2 : dif v xs 1 ≤ sumL (List.range v) (fun x => ch xs x) := sumL_le fun x _ => by
      have h3 := Int.mul_le_mul_of_nonneg_left (ind_le (mem xs (((x + 1) % v : Nat) : Int))) (ind_nonneg (mem xs (x : Int)))
      unfold ch; omega
    rw [ch_sum h.set, e] at h2
    omega

set_option maxRecDepth 100000 in
set_option maxHeartbeats 2000000 in
theorem dhall_ok (n l : Nat) (v : Value) (xs : List Int) (w : World) (h : IntsAt w v xs) (hD : DLev n xs l) :
    Calls Try.prog 7 #[.int .i64 (n : Nat), v] w fun e w' => e = .returned (.bool true) ∧ Below w.heap.size w w' := by
  have HV := Lib.hid h
  have HD := Lib.hid hD
  have hn1 := hD.set.lo; have hn2 := hD.set.hi
  have hl : (xs.length : Int) ≤ n := inc_len hD.set.rng hD.set.inc (by omega)
  have hkl := lev_le hD
  have HL : Hid (∀ w1, IntsAt w1 v xs → Calls Try.prog 10 #[.int .i64 (n : Nat), v] w1 (DifPost l 0 w1)) := fun w1 hw => by
    have := dlevel_any n v xs w1 hw
    rw [hD.ok.1, hD.ok.2] at this; exact this
  have hlen : (multL n xs).length ≤ 1000 := by have := pickL_len (mulT n xs) n; unfold multL; omega
  have HM := Lib.hid (fun w1 hw => mults_ok n v xs w1 hw hD.set)
  obtain ⟨M, hM⟩ : ∃ M : Nat, M = xs.length - l := ⟨_, rfl⟩
  have HMu : Hid (∀ p : Nat, Prm p → l < p → p ≤ M → ((M : Int) % (p : Int) = 0) → ¬ ((n : Int) % (p : Int) = 0) → 2 ≤ n → mem (multL n xs) ((p : Int) % (n : Int)) = true) := fun p hp h1 h2 h3 h4 h5 => by
    rw [← Int.natCast_emod]
    unfold multL
    rw [pickL_mem (Nat.mod_lt _ (by omega))]
    refine hall_mult HD.out h5 hp h1 ?_ (by omega) fun hc => h4 ?_
    · have : (xs.length : Int) - l = (M : Int) := by omega
      rw [this]; exact Int.dvd_of_emod_eq_zero h3
    · rw [← Int.natCast_emod, Nat.mod_eq_zero_of_dvd hc]; rfl
  have hMl : ((xs.length : Nat) : Int) - (l : Int) = (M : Int) := by omega
  have hMb : M ≤ 60 := by omega
  have hlb : l ≤ 60 := by omega
  obtain ⟨a, c, rfl, _⟩ := h
  clear hD
  by_cases hv2 : n < 2
  · have e1 : decide ((n : Int) < 2) = true := by simp; omega
    have e1' : decide (n < 2) = true := by simpa using hv2
    clear hv2 hM hMl
    go_enter Try.func7, Try.ntmps7
    go_wp2_with fail
    refine (differFact_any _).mono ?_
    rintro e w1 ⟨rfl, hb⟩
    have HB1 := Lib.hid hb; clear hb
    go_wp2_with fail
    refine (HL.out _ (HV.out.below HB1.out)).mono ?_
    rintro e w2 ⟨rfl, hb⟩
    have HB2 := Lib.hid (belowTrans HB1.out hb); clear hb
    go_wp2_with fail
    go_ret
    exact ⟨rfl, HB2.out⟩
  · have e1 : decide ((n : Int) < 2) = false := by simp; omega
    have H2 : Hid (2 ≤ n) := by show _ ≤ _; omega
    clear hM
    go_enter Try.func7, Try.ntmps7
    go_wp2_with fail
    refine (differFact_any _).mono ?_
    rintro e w1 ⟨rfl, hb⟩
    have HB1 := Lib.hid hb; clear hb
    go_wp2_with fail
    refine (HL.out _ (HV.out.below HB1.out)).mono ?_
    rintro e w2 ⟨rfl, hb⟩
    have HB2 := Lib.hid (belowTrans HB1.out hb); clear hb
    go_wp2_with fail
    refine (HM.out _ (HV.out.below HB2.out)).mono ?_
    rintro e w3 ⟨u3, rfl, hown, hb⟩
    have HB3 := Lib.hid (belowTrans HB2.out hb)
    have HI3 := Lib.hid (hown.intsAt (by omega))
    obtain ⟨a3, l3, c3, rfl⟩ := hown.shape
    clear hb hown
    have hn0 : ¬ n = 0 := by omega
    go_wp2_with fail
    clear hMl hkl
    go_loopw [10] (fun s wr => ∃ p : Nat, l + 1 ≤ p ∧ p ≤ l + M + 1 ∧ s = .int .i64 p ∧ wr = w3) (fun s _ => l + M + 2 - (intOf s).toNat)
    case atStart => exact ⟨l + 1, by omega, by omega, by first | rfl | go_num, rfl⟩
    case round =>
      obtain ⟨p, hp1, hp2, rfl, rfl⟩ := hrel
      by_cases hpM : p ≤ M
      · have hp0 : ¬ p = 0 := by omega
        have HP := Lib.hid (isPrime_any p (by omega) wr)
        have HLi := Lib.hid (lies_any ((p : Int) % (n : Int)) _ _ wr HI3.out)
        go_wp2_with fail
        refine (HP.out).mono ?_
        rintro e w4 ⟨b, rfl, hpr, rfl⟩
        have HPr := Lib.hid hpr
        clear hpr HP
        cases b
        · go_wp2_with fail
          go_roundw
          case rel => exact ⟨p + 1, by omega, by omega, by go_num, trivial⟩
          case measure => simp [intOf]; omega
        · cases d1 : (((M : Nat) : Int) % ((p : Nat) : Int) != 0)
          · cases d2 : (((n : Nat) : Int) % ((p : Nat) : Int) == 0)
            · have HT := Lib.hid (HMu.out p (HPr.out rfl) (by omega) hpM (by simpa using d1) (by simpa using d2) H2.out)
              rw [HT.out] at HLi
              go_wp2_with fail
              refine (HLi.out).mono ?_
              rintro e w5 ⟨rfl, rfl⟩
              go_wp2_with fail
              go_roundw
              case rel => exact ⟨p + 1, by omega, by omega, by go_num, trivial⟩
              case measure => simp [intOf]; omega
            · go_wp2_with fail
              go_roundw
              case rel => exact ⟨p + 1, by omega, by omega, by go_num, trivial⟩
              case measure => simp [intOf]; omega
          · go_wp2_with fail
            go_roundw
            case rel => exact ⟨p + 1, by omega, by omega, by go_num, trivial⟩
            case measure => simp [intOf]; omega
      · go_wp2_with fail
        go_ret
        exact ⟨rfl, HB3.out⟩

/-- The law, walked. -/
theorem differHall_walk (n : Int) (v : Value) (xs : List Int) (w : World) (_hn : -9223372036854775808 ≤ n ∧ n ≤ 9223372036854775807) (h : IntsAt w v xs) (_hx : Fits xs) :
    Calls Try.prog 7 #[.int .i64 n, v] w fun e w' => e = .returned (.bool true) ∧ Below w.heap.size w w' := by
  by_cases hf : difE n xs = 0
  · obtain ⟨N, l, rfl, hl, hD⟩ := dlev_ok hf
    exact dhall_ok N l v xs w h hD
  · exact dhall_bad n v xs w h hf
end Go.Proofs.Ytnmgambilpoeiaa
