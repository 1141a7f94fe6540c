/-
  Contract: a system's bose: its blocks of 6 t + 3 points. No condition.
-/
import Derived.Test.YtimfggbfapbihaaTAdd
namespace Go.Proofs.Ytimfggbfapbihaa
open Go.RowKit

/-- What the numbers from a on give, one behind another. -/
def catF (F : Nat → List (List Int)) (a : Nat) : Nat → List (List Int)
  | 0 => []
  | k + 1 => if a ≤ k then catF F a k ++ F k else []
theorem catF_start (F : Nat → List (List Int)) : ∀ a, catF F a a = []
  | 0 => rfl
  | a + 1 => by rw [catF, if_neg (by omega)]
theorem catF_step {F : Nat → List (List Int)} {a k : Nat} (h : a ≤ k) : catF F a (k + 1) = catF F a k ++ F k := by rw [catF, if_pos h]
theorem tri_eq {x y z x' y' z' : Int} (h1 : x = x') (h2 : y = y') (h3 : z = z') : tri x y z = tri x' y' z' := by rw [h1, h2, h3]
theorem sys_row {w : World} {b : Nat} {p : Int} {v : Value} {xss : List (List Int)} {r r' : List Int} (h : Sys w b p v (xss ++ [r])) (e : r = r') : Sys w b p v (xss ++ [r']) := e ▸ h
def rowD (m x : Nat) : List Int := [(x : Int), ((x + m : Nat) : Int), ((x + 2 * m : Nat) : Int)]
def rowT (m h x y i : Nat) : List Int := [((x + m * i : Nat) : Int), ((y + m * i : Nat) : Int), ((h + m * ((i + 1) % 3) : Nat) : Int)]
def tri3 (m h x y i : Nat) : List (List Int) := catF (fun i => [sortI (rowT m h x y i)]) 0 i
def hB (t m x y : Nat) : Nat := (x + y) * (t + 1) % m
def boseY (t m x y : Nat) : List (List Int) := tri3 m (hB t m x y) x y 3
def boseX (t m x : Nat) : List (List Int) := [sortI (rowD m x)] ++ catF (boseY t m x) (x + 1) m
def boseL (t : Nat) : List (List Int) := catF (boseX t (2 * t + 1)) 0 (2 * t + 1)
theorem tri3_step (m h x y i : Nat) : tri3 m h x y (i + 1) = tri3 m h x y i ++ [sortI (rowT m h x y i)] := catF_step (Nat.zero_le _)
theorem hB_val {t x y : Nat} (ht : t ≤ 5) (hx : x ≤ 11) (hy : y ≤ 11) :
    Value.int .i64 (wrap64 (((x : Int) + (y : Int)) * ((t : Int) + 1))) = Value.int .i64 (((x + y) * (t + 1) : Nat) : Int) ∧ (x + y) * (t + 1) ≤ 132 := by
  have h : (x + y) * (t + 1) ≤ 22 * 6 := Nat.mul_le_mul (by omega) (by omega)
  refine ⟨?_, h⟩
  rw [show ((x : Int) + (y : Int)) * ((t : Int) + 1) = (((x + y) * (t + 1) : Nat) : Int) by rw [Int.natCast_mul]; rfl, IntWalk.wrap64_in _ (by omega)]

set_option maxRecDepth 100000 in
set_option maxHeartbeats 4000000 in
theorem bose_any (b t : Nat) (p : Int) (w : World) (h : Sys w b p (.slice none 0 0) []) (ht : t ≤ 5) :
    Calls Try.prog 7 #[.pointer (some ⟨b, 0, none⟩), .int .i64 (t : Nat)] w fun e w' => e = .returned (.tuple #[]) ∧ ∃ v', Sys w' b p v' (boseL t) ∧ Below b w w' := by
  have HS := Lib.hid h
  clear h
  obtain ⟨m, hm⟩ : ∃ m, m = 2 * t + 1 := ⟨_, rfl⟩
  have HE : Hid (boseL t = catF (boseX t m) 0 m) := by show _ = _; rw [hm]; rfl
  have hmv : 2 * (t : Int) + 1 = (m : Int) := by omega
  have hm11 : m ≤ 11 := by omega
  have HM := Lib.hid hm
  clear hm
  go_enter Try.func7, Try.ntmps7
  go_wp2_with fail
  go_loopw [13] (fun s wr => ∃ (k : Nat) (v : Value), k ≤ m ∧ s = .int .i64 k ∧ Sys wr b p v (catF (boseX t m) 0 k) ∧ (catF (boseX t m) 0 k).length ≤ 40 * k ∧ Below b w wr) (fun s _ => m - (intOf s).toNat)
  case atStart => exact ⟨0, _, by omega, rfl, HS.out, by simp [catF], Below.refl _ _⟩
  case round =>
    clear HS
    obtain ⟨k, v, hk, rfl, hS, hL, hB⟩ := hrel
    rename World => W0
    have HS := Lib.hid hS; have HB := Lib.hid hB
    clear hS hB
    by_cases hlt : k < m
    · have ed : decide ((k : Int) < (m : Int)) = true := by simp; omega
      have HX : Hid (catF (boseX t m) 0 (k + 1) = catF (boseX t m) 0 k ++ ([sortI (rowD m k)] ++ catF (boseY t m k) (k + 1) m)) := catF_step (Nat.zero_le _)
      generalize catF (boseX t m) 0 k = L0 at *
      have hrow : tri (k : Int) ((k : Int) + (m : Int)) ((k : Int) + 2 * (m : Int)) = sortI (rowD m k) := tri_eq rfl (by omega) (by omega)
      have HRow := Lib.hid hrow
      clear hrow ed
      go_wp2_with fail
      refine (add_any b p _ _ _ v L0 W0 HS.out (by omega)).mono ?_
      rintro e w2 ⟨rfl, v2, hs2, hb2⟩
      rw [HRow.out] at hs2
      obtain ⟨L1, hL1⟩ : ∃ L, L = L0 ++ [sortI (rowD m k)] := ⟨_, rfl⟩
      have HL1 := Lib.hid hL1
      have hlen1 : L1.length ≤ 40 * k + 1 := by rw [hL1, List.length_append]; simp; omega
      rw [← hL1] at hs2
      have HS2 := Lib.hid hs2
      have HB2 := Lib.hid (HB.out.trans hb2)
      clear hs2 hb2 hL1 HRow HS HB
      go_wp2_with fail
      go_loopw [6] (fun s wr => ∃ (y : Nat) (v : Value), k + 1 ≤ y ∧ y ≤ m ∧ s = .int .i64 y ∧ Sys wr b p v (L1 ++ catF (boseY t m k) (k + 1) y) ∧ (L1 ++ catF (boseY t m k) (k + 1) y).length ≤ 40 * k + 1 + 3 * (y - (k + 1)) ∧ Below b w wr) (fun s _ => m - (intOf s).toNat)
      case atStart => exact ⟨k + 1, v2, by omega, by omega, by go_num, by rw [catF_start, List.append_nil]; exact HS2.out, by rw [catF_start, List.append_nil]; omega, HB2.out⟩
      case round =>
        clear HS2 HB2
        obtain ⟨y, v, hky, hy, rfl, hS, hlen, hB⟩ := hrel
        rename World => W1
        have HS := Lib.hid hS; have HB := Lib.hid hB
        clear hS hB
        by_cases hly : y < m
        · have ed : decide ((y : Int) < (m : Int)) = true := by simp; omega
          have HX2 : Hid (catF (boseY t m k) (k + 1) (y + 1) = catF (boseY t m k) (k + 1) y ++ boseY t m k y) := catF_step hky
          obtain ⟨hv, hP⟩ := hB_val (t := t) (x := k) (y := y) ht (by omega) (by omega)
          have HH : Hid (boseY t m k y = tri3 m (hB t m k y) k y 3) := rfl
          have hhl : hB t m k y < m := Nat.mod_lt _ (by omega)
          have hw : (((k + y) * (t + 1) : Nat) : Int) % (m : Int) = ((hB t m k y : Nat) : Int) := by unfold hB; rw [← Int.natCast_emod]
          generalize hB t m k y = hh at *
          generalize (k + y) * (t + 1) = P at *
          obtain ⟨L2, hL2⟩ : ∃ L, L = L1 ++ catF (boseY t m k) (k + 1) y := ⟨_, rfl⟩
          rw [← hL2] at hlen HS
          have HL2 := Lib.hid hL2
          have hm0 : ¬ m = 0 := by omega
          clear hL2
          go_wp2_with fail
          simp only [hv, hw]
          clear hv hw
          go_loopw [43] (fun s wr => ∃ (i : Nat) (v : Value), i ≤ 3 ∧ s = .int .i64 i ∧ Sys wr b p v (L2 ++ tri3 m hh k y i) ∧ (L2 ++ tri3 m hh k y i).length ≤ 40 * k + 1 + 3 * (y - (k + 1)) + i ∧ Below b w wr) (fun s _ => 3 - (intOf s).toNat)
          case atStart => exact ⟨0, v, by omega, rfl, by simpa [tri3, catF] using HS.out, by simpa [tri3, catF] using hlen, HB.out⟩
          case round =>
            clear HS HB hlen
            obtain ⟨i, v, hi, rfl, hS, hlen, hB⟩ := hrel
            rename World => W2
            have HS := Lib.hid hS; have HB := Lib.hid hB
            have HT := Lib.hid (tri3_step m hh k y i)
            clear hS hB
            by_cases hi3 : i < 3
            · have hi012 : i = 0 ∨ i = 1 ∨ i = 2 := by omega
              rcases hi012 with rfl | rfl | rfl
              · go_wp2_with fail
                refine (add_any b p _ _ _ v _ W2 HS.out (by omega)).mono ?_
                rintro e w3 ⟨rfl, v3, hs3, hb3⟩
                have HB3 := Lib.hid (HB.out.trans hb3)
                have HS3 := Lib.hid (sys_row hs3 (r' := sortI (rowT m hh k y 0)) (tri_eq (by omega) (by omega) (by omega)))
                rw [List.append_assoc, ← HT.out] at HS3
                have hl3 := congrArg List.length HT.out
                rw [List.length_append, List.length_singleton] at hl3
                rw [List.length_append] at hlen
                clear hs3 hb3 HS HB
                go_wp2_with fail
                go_roundw
                case rel => exact ⟨_, v3, by omega, by go_num, HS3.out, by rw [List.length_append]; omega, HB3.out⟩
                case measure => simp [intOf]
              · go_wp2_with fail
                refine (add_any b p _ _ _ v _ W2 HS.out (by omega)).mono ?_
                rintro e w3 ⟨rfl, v3, hs3, hb3⟩
                have HB3 := Lib.hid (HB.out.trans hb3)
                have HS3 := Lib.hid (sys_row hs3 (r' := sortI (rowT m hh k y 1)) (tri_eq (by omega) (by omega) (by omega)))
                rw [List.append_assoc, ← HT.out] at HS3
                have hl3 := congrArg List.length HT.out
                rw [List.length_append, List.length_singleton] at hl3
                rw [List.length_append] at hlen
                clear hs3 hb3 HS HB
                go_wp2_with fail
                go_roundw
                case rel => exact ⟨_, v3, by omega, by go_num, HS3.out, by rw [List.length_append]; omega, HB3.out⟩
                case measure => simp [intOf]
              · go_wp2_with fail
                refine (add_any b p _ _ _ v _ W2 HS.out (by omega)).mono ?_
                rintro e w3 ⟨rfl, v3, hs3, hb3⟩
                have HB3 := Lib.hid (HB.out.trans hb3)
                have HS3 := Lib.hid (sys_row hs3 (r' := sortI (rowT m hh k y 2)) (tri_eq (by omega) (by omega) (by omega)))
                rw [List.append_assoc, ← HT.out] at HS3
                have hl3 := congrArg List.length HT.out
                rw [List.length_append, List.length_singleton] at hl3
                rw [List.length_append] at hlen
                clear hs3 hb3 HS HB
                go_wp2_with fail
                go_roundw
                case rel => exact ⟨_, v3, by omega, by go_num, HS3.out, by rw [List.length_append]; omega, HB3.out⟩
                case measure => simp [intOf]
            · obtain rfl : i = 3 := by omega
              rw [← HH.out] at hlen HS
              rw [HL2.out, List.append_assoc, ← HX2.out] at hlen HS
              go_wp2_with fail
              go_roundw
              case rel => exact ⟨y + 1, v, by omega, by omega, by go_num, HS.out, by omega, HB.out⟩
              case measure => simp [intOf]; omega
        · obtain rfl : y = m := by omega
          rw [HL1.out, List.append_assoc, ← HX.out] at hlen HS
          go_wp2_with fail
          go_roundw
          case rel => exact ⟨k + 1, v, by omega, by go_num, HS.out, by omega, HB.out⟩
          case measure => simp [intOf]; omega
    · obtain rfl : k = m := by omega
      go_wp2_with fail
      go_end0
      exact ⟨rfl, v, by rw [HE.out]; exact HS.out, HB.out⟩
end Go.Proofs.Ytimfggbfapbihaa
