/-
  Contract: a system's skolem: its blocks of 6 t + 1 points. No condition.
-/
import Derived.Test.YtimfggbfapbihaaTBose
namespace Go.Proofs.Ytimfggbfapbihaa
open Go.RowKit

def rowS (t m x i : Nat) : List Int := [((6 * t : Nat) : Int), ((x + t + m * i : Nat) : Int), ((x + m * ((i + 1) % 3) : Nat) : Int)]
def skoT (t m x i : Nat) : List (List Int) := catF (fun i => [sortI (rowS t m x i)]) 0 i
def skoX (t m x : Nat) : List (List Int) := [sortI (rowD m x)] ++ skoT t m x 3
def hS (t m x y : Nat) : Nat := if (x + y) % m % 2 = 0 then (x + y) % m / 2 else ((x + y) % m - 1) / 2 + t
def skoY (t m x y : Nat) : List (List Int) := tri3 m (hS t m x y) x y 3
def skoZ (t m x : Nat) : List (List Int) := catF (skoY t m x) (x + 1) m
def skoL (t : Nat) : List (List Int) := catF (skoX t (2 * t)) 0 t ++ catF (skoZ t (2 * t)) 0 (2 * t)
theorem skoT_step (t m x i : Nat) : skoT t m x (i + 1) = skoT t m x i ++ [sortI (rowS t m x i)] := catF_step (Nat.zero_le _)

set_option maxRecDepth 100000 in
set_option maxHeartbeats 8000000 in
theorem skolem_any (b t : Nat) (p : Int) (w : World) (h : Sys w b p (.slice none 0 0) []) (ht : t ≤ 5) :
    Calls Try.prog 8 #[.pointer (some ⟨b, 0, none⟩), .int .i64 (t : Nat)] w fun e w' => e = .returned (.tuple #[]) ∧ ∃ v', Sys w' b p v' (skoL t) ∧ Below b w w' := by
  have HS := Lib.hid h
  clear h
  obtain ⟨m, hm⟩ : ∃ m, m = 2 * t := ⟨_, rfl⟩
  have HE : Hid (skoL t = catF (skoX t m) 0 t ++ catF (skoZ t m) 0 m) := by show _ = _; rw [hm]; rfl
  have hmv : 2 * (t : Int) = (m : Int) := by omega
  have hm10 : m ≤ 10 := by omega
  have HM := Lib.hid hm
  clear hm
  go_enter Try.func8, Try.ntmps8
  go_wp2_with fail
  go_loopw [14] (fun s wr => ∃ (k : Nat) (v : Value), k ≤ t ∧ s = .int .i64 k ∧ Sys wr b p v (catF (skoX t m) 0 k) ∧ (catF (skoX t m) 0 k).length ≤ 4 * k ∧ Below b w wr) (fun s _ => t - (intOf s).toNat)
  case atStart => exact ⟨0, _, by omega, rfl, HS.out, by simp [catF], Below.refl _ _⟩
  case round =>
    clear HS
    obtain ⟨k, v, hk, rfl, hS, hL, hB⟩ := hrel
    rename World => W0
    have HS := Lib.hid hS; have HB := Lib.hid hB
    clear hS hB
    by_cases hlt : k < t
    · have HX : Hid (catF (skoX t m) 0 (k + 1) = catF (skoX t m) 0 k ++ ([sortI (rowD m k)] ++ skoT t m k 3)) := catF_step (Nat.zero_le _)
      generalize catF (skoX t m) 0 k = L0 at *
      have hrow : tri (k : Int) ((k : Int) + (m : Int)) ((k : Int) + 2 * (m : Int)) = sortI (rowD m k) := tri_eq rfl (by omega) (by omega)
      have HRow := Lib.hid hrow
      clear hrow
      go_wp2_with fail
      refine (add_any b p _ _ _ v L0 W0 HS.out (by omega)).mono ?_
      rintro e w2 ⟨rfl, v2, hs2, hb2⟩
      rw [HRow.out] at hs2
      obtain ⟨L1, hL1⟩ : ∃ L, L = L0 ++ [sortI (rowD m k)] := ⟨_, rfl⟩
      have HL1 := Lib.hid hL1
      have hlen1 : L1.length ≤ 4 * k + 1 := by rw [hL1, List.length_append]; simp; omega
      rw [← hL1] at hs2
      have HS2 := Lib.hid hs2
      have HB2 := Lib.hid (HB.out.trans hb2)
      clear hs2 hb2 hL1 HRow HS HB
      go_wp2_with fail
      go_loopw [29] (fun s wr => ∃ (i : Nat) (v : Value), i ≤ 3 ∧ s = .int .i64 i ∧ Sys wr b p v (L1 ++ skoT t m k i) ∧ (L1 ++ skoT t m k i).length ≤ 4 * k + 1 + i ∧ Below b w wr) (fun s _ => 3 - (intOf s).toNat)
      case atStart => exact ⟨0, v2, by omega, rfl, by simpa [skoT, catF] using HS2.out, by simpa [skoT, catF] using hlen1, HB2.out⟩
      case round =>
        clear HS2 HB2
        obtain ⟨i, v, hi, rfl, hS, hlen, hB⟩ := hrel
        rename World => W2
        have HS := Lib.hid hS; have HB := Lib.hid hB
        have HT := Lib.hid (skoT_step t m k i)
        clear hS hB
        by_cases hi3 : i < 3
        · have hi012 : i = 0 ∨ i = 1 ∨ i = 2 := by omega
          rcases hi012 with rfl | rfl | rfl
          · go_wp2_with fail
            refine (add_any b p _ _ _ v _ W2 HS.out (by omega)).mono ?_
            rintro e w3 ⟨rfl, v3, hs3, hb3⟩
            have HB3 := Lib.hid (HB.out.trans hb3)
            have HS3 := Lib.hid (sys_row hs3 (r' := sortI (rowS t m k 0)) (tri_eq (by omega) (by omega) (by omega)))
            rw [List.append_assoc, ← HT.out] at HS3
            have hl3 := congrArg List.length HT.out
            rw [List.length_append, List.length_singleton] at hl3
            rw [List.length_append] at hlen
            clear hs3 hb3 HS HB
            go_wp2_with fail
            go_roundw
            case rel => exact ⟨_, v3, by omega, by go_num, HS3.out, by rw [List.length_append]; omega, HB3.out⟩
            case measure => simp [intOf]
          · go_wp2_with fail
            refine (add_any b p _ _ _ v _ W2 HS.out (by omega)).mono ?_
            rintro e w3 ⟨rfl, v3, hs3, hb3⟩
            have HB3 := Lib.hid (HB.out.trans hb3)
            have HS3 := Lib.hid (sys_row hs3 (r' := sortI (rowS t m k 1)) (tri_eq (by omega) (by omega) (by omega)))
            rw [List.append_assoc, ← HT.out] at HS3
            have hl3 := congrArg List.length HT.out
            rw [List.length_append, List.length_singleton] at hl3
            rw [List.length_append] at hlen
            clear hs3 hb3 HS HB
            go_wp2_with fail
            go_roundw
            case rel => exact ⟨_, v3, by omega, by go_num, HS3.out, by rw [List.length_append]; omega, HB3.out⟩
            case measure => simp [intOf]
          · go_wp2_with fail
            refine (add_any b p _ _ _ v _ W2 HS.out (by omega)).mono ?_
            rintro e w3 ⟨rfl, v3, hs3, hb3⟩
            have HB3 := Lib.hid (HB.out.trans hb3)
            have HS3 := Lib.hid (sys_row hs3 (r' := sortI (rowS t m k 2)) (tri_eq (by omega) (by omega) (by omega)))
            rw [List.append_assoc, ← HT.out] at HS3
            have hl3 := congrArg List.length HT.out
            rw [List.length_append, List.length_singleton] at hl3
            rw [List.length_append] at hlen
            clear hs3 hb3 HS HB
            go_wp2_with fail
            go_roundw
            case rel => exact ⟨_, v3, by omega, by go_num, HS3.out, by rw [List.length_append]; omega, HB3.out⟩
            case measure => simp [intOf]
        · obtain rfl : i = 3 := by omega
          rw [HL1.out, List.append_assoc, ← HX.out] at hlen HS
          go_wp2_with fail
          go_roundw
          case rel => exact ⟨k + 1, v, by omega, by go_num, HS.out, by omega, HB.out⟩
          case measure => simp [intOf]; omega
    · obtain rfl : k = t := by omega
      obtain ⟨K0, hK0⟩ : ∃ L, L = catF (skoX k m) 0 k := ⟨_, rfl⟩
      rw [← hK0] at HS hL HE
      clear hK0
      go_wp2_with fail
      go_loopw [55] (fun s wr => ∃ (x : Nat) (v : Value), x ≤ m ∧ s = .int .i64 x ∧ Sys wr b p v (K0 ++ catF (skoZ k m) 0 x) ∧ (K0 ++ catF (skoZ k m) 0 x).length ≤ 100 + 40 * x ∧ Below b w wr) (fun s _ => m - (intOf s).toNat)
      case atStart => exact ⟨0, v, by omega, rfl, by simpa [catF] using HS.out, by simp [catF]; omega, HB.out⟩
      case round =>
        clear HS HB
        obtain ⟨x, v, hx, rfl, hS, hL, hB⟩ := hrel
        rename World => W0
        have HS := Lib.hid hS; have HB := Lib.hid hB
        clear hS hB
        by_cases hlx : x < m
        · have HX : Hid (catF (skoZ k m) 0 (x + 1) = catF (skoZ k m) 0 x ++ catF (skoY k m x) (x + 1) m) := catF_step (Nat.zero_le _)
          obtain ⟨L1, hL1⟩ : ∃ L, L = K0 ++ catF (skoZ k m) 0 x := ⟨_, rfl⟩
          rw [← hL1] at hL HS
          have HL1 := Lib.hid hL1
          clear hL1
          go_wp2_with fail
          go_loopw [8] (fun s wr => ∃ (y : Nat) (v : Value), x + 1 ≤ y ∧ y ≤ m ∧ s = .int .i64 y ∧ Sys wr b p v (L1 ++ catF (skoY k m x) (x + 1) y) ∧ (L1 ++ catF (skoY k m x) (x + 1) y).length ≤ 100 + 40 * x + 3 * (y - (x + 1)) ∧ Below b w wr) (fun s _ => m - (intOf s).toNat)
          case atStart => exact ⟨x + 1, v, by omega, by omega, by go_num, by rw [catF_start, List.append_nil]; exact HS.out, by rw [catF_start, List.append_nil]; omega, HB.out⟩
          case round =>
            clear HS HB
            obtain ⟨y, v, hxy, hy, rfl, hS, hlen, hB⟩ := hrel
            rename World => W1
            have HS := Lib.hid hS; have HB := Lib.hid hB
            clear hS hB
            by_cases hly : y < m
            · have HX2 : Hid (catF (skoY k m x) (x + 1) (y + 1) = catF (skoY k m x) (x + 1) y ++ skoY k m x y) := catF_step hxy
              have HH : Hid (skoY k m x y = tri3 m (hS k m x y) x y 3) := rfl
              have hsm : (x + y) % m < m := Nat.mod_lt _ (by omega)
              have hw : ((x : Int) + (y : Int)) % (m : Int) = (((x + y) % m : Nat) : Int) := by rw [← Int.natCast_add, ← Int.natCast_emod]
              have HHS : Hid (hS k m x y = if (x + y) % m % 2 = 0 then (x + y) % m / 2 else ((x + y) % m - 1) / 2 + k) := rfl
              generalize hS k m x y = hh at *
              generalize (x + y) % m = S at *
              obtain ⟨L2, hL2⟩ : ∃ L, L = L1 ++ catF (skoY k m x) (x + 1) y := ⟨_, rfl⟩
              rw [← hL2] at hlen HS
              have HL2 := Lib.hid hL2
              have hm0 : ¬ m = 0 := by omega
              clear hL2
              by_cases hev : S % 2 = 0
              · have hhv := HHS.out
                rw [if_pos hev] at hhv
                have ev : (((S : Nat) : Int) % 2 == 0) = true := by simp; omega
                have hq : ((S : Nat) : Int) / 2 = (hh : Int) := by omega
                have hhl : hh < m := by omega
                clear hhv HHS hev
                go_wp2_with fail
                simp only [hw]
                clear hq hw ev
                go_loopw [80] (fun s wr => ∃ (i : Nat) (v : Value), i ≤ 3 ∧ s = .int .i64 i ∧ Sys wr b p v (L2 ++ tri3 m hh x y i) ∧ (L2 ++ tri3 m hh x y i).length ≤ 100 + 40 * x + 3 * (y - (x + 1)) + i ∧ Below b w wr) (fun s _ => 3 - (intOf s).toNat)
                case atStart => exact ⟨0, v, by omega, rfl, by simpa [tri3, catF] using HS.out, by simpa [tri3, catF] using hlen, HB.out⟩
                case round =>
                  clear HS HB hlen
                  obtain ⟨i, v, hi, rfl, hS, hlen, hB⟩ := hrel
                  rename World => W2
                  have HS := Lib.hid hS; have HB := Lib.hid hB
                  have HT := Lib.hid (tri3_step m hh x y i)
                  clear hS hB
                  by_cases hi3 : i < 3
                  · have hi012 : i = 0 ∨ i = 1 ∨ i = 2 := by omega
                    rcases hi012 with rfl | rfl | rfl
                    · go_wp2_with fail
                      refine (add_any b p _ _ _ v _ W2 HS.out (by omega)).mono ?_
                      rintro e w3 ⟨rfl, v3, hs3, hb3⟩
                      have HB3 := Lib.hid (HB.out.trans hb3)
                      have HS3 := Lib.hid (sys_row hs3 (r' := sortI (rowT m hh x y 0)) (tri_eq (by omega) (by omega) (by omega)))
                      rw [List.append_assoc, ← HT.out] at HS3
                      have hl3 := congrArg List.length HT.out
                      rw [List.length_append, List.length_singleton] at hl3
                      rw [List.length_append] at hlen
                      clear hs3 hb3 HS HB
                      go_wp2_with fail
                      go_roundw
                      case rel => exact ⟨_, v3, by omega, by go_num, HS3.out, by rw [List.length_append]; omega, HB3.out⟩
                      case measure => simp [intOf]
                    · go_wp2_with fail
                      refine (add_any b p _ _ _ v _ W2 HS.out (by omega)).mono ?_
                      rintro e w3 ⟨rfl, v3, hs3, hb3⟩
                      have HB3 := Lib.hid (HB.out.trans hb3)
                      have HS3 := Lib.hid (sys_row hs3 (r' := sortI (rowT m hh x y 1)) (tri_eq (by omega) (by omega) (by omega)))
                      rw [List.append_assoc, ← HT.out] at HS3
                      have hl3 := congrArg List.length HT.out
                      rw [List.length_append, List.length_singleton] at hl3
                      rw [List.length_append] at hlen
                      clear hs3 hb3 HS HB
                      go_wp2_with fail
                      go_roundw
                      case rel => exact ⟨_, v3, by omega, by go_num, HS3.out, by rw [List.length_append]; omega, HB3.out⟩
                      case measure => simp [intOf]
                    · go_wp2_with fail
                      refine (add_any b p _ _ _ v _ W2 HS.out (by omega)).mono ?_
                      rintro e w3 ⟨rfl, v3, hs3, hb3⟩
                      have HB3 := Lib.hid (HB.out.trans hb3)
                      have HS3 := Lib.hid (sys_row hs3 (r' := sortI (rowT m hh x y 2)) (tri_eq (by omega) (by omega) (by omega)))
                      rw [List.append_assoc, ← HT.out] at HS3
                      have hl3 := congrArg List.length HT.out
                      rw [List.length_append, List.length_singleton] at hl3
                      rw [List.length_append] at hlen
                      clear hs3 hb3 HS HB
                      go_wp2_with fail
                      go_roundw
                      case rel => exact ⟨_, v3, by omega, by go_num, HS3.out, by rw [List.length_append]; omega, HB3.out⟩
                      case measure => simp [intOf]
                  · obtain rfl : i = 3 := by omega
                    rw [← HH.out] at hlen HS
                    rw [HL2.out, List.append_assoc, ← HX2.out] at hlen HS
                    go_wp2_with fail
                    go_roundw
                    case rel => exact ⟨y + 1, v, by omega, by omega, by go_num, HS.out, by omega, HB.out⟩
                    case measure => simp [intOf]; omega
              · have hhv := HHS.out
                rw [if_neg hev] at hhv
                have ev : (((S : Nat) : Int) % 2 == 0) = false := by simp; omega
                obtain ⟨q, hq0⟩ : ∃ q, q = (S - 1) / 2 := ⟨_, rfl⟩
                have hq : (((S : Nat) : Int) - 1) / 2 = (q : Int) := by omega
                have hq2 : (q : Int) + (k : Int) = (hh : Int) := by omega
                have hhl : hh ≤ 10 := by omega
                have hqs : q ≤ 10 := by omega
                have hs1 : 1 ≤ S := by omega
                clear hhv HHS hev hq0
                go_wp2_with fail
                simp only [hq, hw]
                clear hq hq2 hw ev
                go_loopw [80] (fun s wr => ∃ (i : Nat) (v : Value), i ≤ 3 ∧ s = .int .i64 i ∧ Sys wr b p v (L2 ++ tri3 m hh x y i) ∧ (L2 ++ tri3 m hh x y i).length ≤ 100 + 40 * x + 3 * (y - (x + 1)) + i ∧ Below b w wr) (fun s _ => 3 - (intOf s).toNat)
                case atStart => exact ⟨0, v, by omega, rfl, by simpa [tri3, catF] using HS.out, by simpa [tri3, catF] using hlen, HB.out⟩
                case round =>
                  clear HS HB hlen
                  obtain ⟨i, v, hi, rfl, hS, hlen, hB⟩ := hrel
                  rename World => W2
                  have HS := Lib.hid hS; have HB := Lib.hid hB
                  have HT := Lib.hid (tri3_step m hh x y i)
                  clear hS hB
                  by_cases hi3 : i < 3
                  · have hi012 : i = 0 ∨ i = 1 ∨ i = 2 := by omega
                    rcases hi012 with rfl | rfl | rfl
                    · go_wp2_with fail
                      refine (add_any b p _ _ _ v _ W2 HS.out (by omega)).mono ?_
                      rintro e w3 ⟨rfl, v3, hs3, hb3⟩
                      have HB3 := Lib.hid (HB.out.trans hb3)
                      have HS3 := Lib.hid (sys_row hs3 (r' := sortI (rowT m hh x y 0)) (tri_eq (by omega) (by omega) (by omega)))
                      rw [List.append_assoc, ← HT.out] at HS3
                      have hl3 := congrArg List.length HT.out
                      rw [List.length_append, List.length_singleton] at hl3
                      rw [List.length_append] at hlen
                      clear hs3 hb3 HS HB
                      go_wp2_with fail
                      go_roundw
                      case rel => exact ⟨_, v3, by omega, by go_num, HS3.out, by rw [List.length_append]; omega, HB3.out⟩
                      case measure => simp [intOf]
                    · go_wp2_with fail
                      refine (add_any b p _ _ _ v _ W2 HS.out (by omega)).mono ?_
                      rintro e w3 ⟨rfl, v3, hs3, hb3⟩
                      have HB3 := Lib.hid (HB.out.trans hb3)
                      have HS3 := Lib.hid (sys_row hs3 (r' := sortI (rowT m hh x y 1)) (tri_eq (by omega) (by omega) (by omega)))
                      rw [List.append_assoc, ← HT.out] at HS3
                      have hl3 := congrArg List.length HT.out
                      rw [List.length_append, List.length_singleton] at hl3
                      rw [List.length_append] at hlen
                      clear hs3 hb3 HS HB
                      go_wp2_with fail
                      go_roundw
                      case rel => exact ⟨_, v3, by omega, by go_num, HS3.out, by rw [List.length_append]; omega, HB3.out⟩
                      case measure => simp [intOf]
                    · go_wp2_with fail
                      refine (add_any b p _ _ _ v _ W2 HS.out (by omega)).mono ?_
                      rintro e w3 ⟨rfl, v3, hs3, hb3⟩
                      have HB3 := Lib.hid (HB.out.trans hb3)
                      have HS3 := Lib.hid (sys_row hs3 (r' := sortI (rowT m hh x y 2)) (tri_eq (by omega) (by omega) (by omega)))
                      rw [List.append_assoc, ← HT.out] at HS3
                      have hl3 := congrArg List.length HT.out
                      rw [List.length_append, List.length_singleton] at hl3
                      rw [List.length_append] at hlen
                      clear hs3 hb3 HS HB
                      go_wp2_with fail
                      go_roundw
                      case rel => exact ⟨_, v3, by omega, by go_num, HS3.out, by rw [List.length_append]; omega, HB3.out⟩
                      case measure => simp [intOf]
                  · obtain rfl : i = 3 := by omega
                    rw [← HH.out] at hlen HS
                    rw [HL2.out, List.append_assoc, ← HX2.out] at hlen HS
                    go_wp2_with fail
                    go_roundw
                    case rel => exact ⟨y + 1, v, by omega, by omega, by go_num, HS.out, by omega, HB.out⟩
                    case measure => simp [intOf]; omega
            · obtain rfl : y = m := by omega
              rw [HL1.out, List.append_assoc, ← HX.out] at hlen HS
              go_wp2_with fail
              go_roundw
              case rel => exact ⟨x + 1, v, by omega, by go_num, HS.out, by omega, HB.out⟩
              case measure => simp [intOf]; omega
        · obtain rfl : x = m := by omega
          rw [← HE.out] at HS
          go_wp2_with fail
          go_end0
          exact ⟨rfl, v, HS.out, HB.out⟩
end Go.Proofs.Ytimfggbfapbihaa
