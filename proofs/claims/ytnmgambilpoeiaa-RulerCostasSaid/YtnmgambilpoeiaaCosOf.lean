/-
  Contract: the reference's CostasOf. No condition.
-/
import Derived.Test.YtnmgambilpoeiaaCosLaw
import Derived.Test.YtnmgambilpoeiaaInts
namespace Go.Proofs.Ytnmgambilpoeiaa
open Go.RowKit

/-- Are the steps from i to j and from k on as far alike? -/
def sameS (xs : List Int) (i j k : Nat) : Prop := ix xs j - ix xs i = ix xs (k + j - i) - ix xs k
theorem same_hit {xs : List Int} {i j k : Nat} (h1 : i < j) (h2 : i < k) (h3 : k + j - i < xs.length) (h : sameS xs i j k) : cosB xs = false := by
  cases e : cosB xs
  · rfl
  · exact (cosB_iff.1 e j i (k + j - i) k h1 (by omega) (by omega) h3 (by omega) h).elim
theorem same_none {xs : List Int} (h : ∀ i j k, i < j → i < k → k + j - i < xs.length → ¬ sameS xs i j k) : cosB xs = true := by
  refine cosB_iff.2 fun j m k q h1 h2 h3 h4 h5 h6 => ?_
  have e : q + j - m = k := by omega
  rcases Nat.lt_or_ge m q with hl | hl
  · exact h m j q h1 hl (by omega) (by unfold sameS; rw [e]; exact h6)
  · omega
def NoI (xs : List Int) (i : Nat) : Prop := ∀ i' j k, i' < i → i' < j → i' < k → k + j - i' < xs.length → ¬ sameS xs i' j k
def NoJ (xs : List Int) (i j : Nat) : Prop := ∀ j' k, i < j' → j' < j → i < k → k + j' - i < xs.length → ¬ sameS xs i j' k
def NoK (xs : List Int) (i j k : Nat) : Prop := ∀ k', i < k' → k' < k → k' + j - i < xs.length → ¬ sameS xs i j k'

set_option maxRecDepth 100000 in
set_option maxHeartbeats 2000000 in
theorem costasOf_any (v : Value) (xs : List Int) (w : World) (h : IntsAt w v xs) (hu : ∀ k, k < xs.length → 0 ≤ ix xs k ∧ ix xs k ≤ 1000000000) (hl : xs.length ≤ 1000) :
    Calls Try.prog 15 #[v] w fun e w' => e = .returned (.bool (cosB xs)) ∧ ∃ nd, w' = w.drewN nd := by
  obtain ⟨a, c, rfl, h1, h2, _, h3⟩ := h
  have HX := Lib.hid h3; have HU := Lib.hid hu
  clear h3 hu
  go_enter Try.func15, Try.ntmps15
  go_wp2_with fail
  go_loopw [3] (fun s wr => ∃ i nd : Nat, i ≤ xs.length ∧ s = .int .i64 i ∧ NoI xs i ∧ wr = w.drewN nd) (fun s _ => xs.length - (intOf s).toNat)
  case atStart => exact ⟨0, 0, by omega, rfl, (fun i' j k h => by omega), rfl⟩
  case round =>
    obtain ⟨i, nd, hi, rfl, hN, rfl⟩ := hrel
    have HI := Lib.hid hN; clear hN
    by_cases hlt : i < xs.length
    · obtain ⟨b, o, rfl, hbb, hcc⟩ := HX.out i hlt
      have HC := Lib.hid hcc
      clear hcc
      go_wp2_with fail
      go_loopw [4] (fun s wr => ∃ j nd : Nat, i < j ∧ j ≤ xs.length ∧ s = .int .i64 j ∧ NoJ xs i j ∧ wr = w.drewN nd) (fun s _ => xs.length - (intOf s).toNat)
      case atStart => exact ⟨i + 1, nd, by omega, by omega, by go_num, (fun j' k h h' => by omega), rfl⟩
      case round =>
        obtain ⟨j, nd, hj, hj2, rfl, hN, rfl⟩ := hrel
        have HJ := Lib.hid hN; clear hN
        by_cases hjl : j < xs.length
        · go_wp2_with fail
          go_loopw [5] (fun s wr => ∃ k nd : Nat, i < k ∧ k ≤ xs.length ∧ s = .int .i64 k ∧ NoK xs i j k ∧ wr = w.drewN nd) (fun s _ => xs.length + 1 - (intOf s).toNat)
          case atStart => exact ⟨i + 1, nd, by omega, by omega, by go_num, (fun k h h' => by omega), rfl⟩
          case round =>
            obtain ⟨k, nd, hk, hk2, rfl, hN, rfl⟩ := hrel
            have HK := Lib.hid hN; clear hN
            by_cases hkl : k + j - i < xs.length
            · have hkl2 : k < xs.length := by omega
              have c1 := HC.out i hlt
              have c2 := HC.out j hjl
              have c3 := HC.out k hkl2
              have c4 := HC.out (k + j - i) hkl
              have u1 := HU.out i hlt
              have u2 := HU.out j hjl
              have u3 := HU.out k hkl2
              have u4 := HU.out (k + j - i) hkl
              have HS : Hid ((ix xs j - ix xs i == ix xs (k + j - i) - ix xs k) = true → cosB xs = false) := fun h => same_hit hj hk hkl (eq_of_beq h)
              have HS2 : Hid ((ix xs j - ix xs i == ix xs (k + j - i) - ix xs k) = false → ¬ sameS xs i j k) := fun h => ne_of_beq_false h
              obtain ⟨m, hm⟩ : ∃ m, m = k + j - i := ⟨_, rfl⟩
              rw [← hm] at c4 u4 HS HS2 hkl
              have HM := Lib.hid hm
              have hmi : (k : Int) + (j : Int) - (i : Int) = (m : Int) := by omega
              have i1 : ((i : Nat) : Int) < ((xs.length : Nat) : Int) := by omega
              have i2 : ((j : Nat) : Int) < ((xs.length : Nat) : Int) := by omega
              have i3 : ((k : Nat) : Int) < ((xs.length : Nat) : Int) := by omega
              have i4 : ((m : Nat) : Int) < ((xs.length : Nat) : Int) := by omega
              clear hm
              have w0 : IntKind.i64.wrap ((k : Int) + (j : Int)) = (k : Int) + (j : Int) := IntWalk.i64_in _ (by omega)
              have w1 : IntKind.i64.wrap ((k : Int) + (j : Int) - (i : Int)) = (m : Int) := by rw [hmi]; exact IntWalk.i64_in _ (by omega)
              have w2 : IntKind.i64.wrap (ix xs j - ix xs i) = ix xs j - ix xs i := IntWalk.i64_in _ (by omega)
              have w3 : IntKind.i64.wrap (ix xs m - ix xs k) = ix xs m - ix xs k := IntWalk.i64_in _ (by omega)
              cases e : (ix xs j - ix xs i == ix xs m - ix xs k)
              · have He := Lib.hid (HS2.out e)
                clear HS HS2
                go_wp2_with fail
                go_quiet (fail)
                clear w0 w1 w2 w3 hmi
                go_wp2_with fail
                go_roundw
                case rel => exact ⟨k + 1, _, by omega, by omega, by go_num, (fun k' h1 h2 h3 => by
                  by_cases ek : k' = k
                  · subst ek; exact He.out
                  · exact HK.out k' h1 (by omega) h3), rfl⟩
                case measure => simp [intOf]; omega
              · have He := Lib.hid (HS.out e)
                clear HS HS2
                go_wp2_with fail
                go_quiet (fail)
                clear w0 w1 w2 w3 hmi
                go_wp2_with fail
                go_ret
                exact ⟨ret_bool He.out.symm, _, World.drewN_drewN _ _ _⟩
            · have hge : ¬ ((k : Int) + (j : Int) - (i : Int) < ((xs.length : Nat) : Int)) := by omega
              have hkb : k + j - i = xs.length ∨ True := .inr trivial
              clear hkb
              go_wp2_with fail
              go_roundw
              case rel => exact ⟨j + 1, nd, by omega, by omega, by go_num, (fun j' k' h1 h2 h3 h4 => by
                by_cases ej : j' = j
                · subst ej; exact HK.out k' h3 (by omega) h4
                · exact HJ.out j' k' h1 (by omega) h3 h4), rfl⟩
              case measure => simp [intOf]; omega
        · obtain rfl : j = xs.length := by omega
          go_wp2_with fail
          go_roundw
          case rel => exact ⟨i + 1, nd, by omega, by go_num, (fun i' j' k' h1 h2 h3 h4 => by
            by_cases ei : i' = i
            · subst ei; exact HJ.out j' k' h2 (by omega) h3 h4
            · exact HI.out i' j' k' (by omega) h2 h3 h4), rfl⟩
          case measure => simp [intOf]; omega
    · obtain rfl : i = xs.length := by omega
      have He : Hid (cosB xs = true) := same_none fun i j k h1 h2 h3 => HI.out i j k (by omega) h1 h2 h3
      go_wp2_with fail
      go_ret
      exact ⟨ret_bool He.out.symm, nd, rfl⟩
end Go.Proofs.Ytnmgambilpoeiaa
