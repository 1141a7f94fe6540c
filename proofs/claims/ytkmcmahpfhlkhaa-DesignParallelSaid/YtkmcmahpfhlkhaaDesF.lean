/-
  Contract: the reference's DesignFault. No condition.
-/
import Derived.Test.YtkmcmahpfhlkhaaDes
namespace Go.Proofs.Ytkmcmahpfhlkhaa
open Go.RowKit

theorem blockF_out {n : Int} {b : List Int} {j : Nat} (hj : j < b.length) (e : outV n (ix b j) = true) : blockF n b = 1 := by
  unfold blockF; rw [any_of_hit hj e]; rfl

set_option maxRecDepth 100000 in
set_option maxHeartbeats 1000000 in
theorem desFault_any (n : Int) (v : Value) (xss : List (List Int)) (w : World) (h : RowsAt w v xss) :
    Calls Try.prog 12 #[.agg #[.int .i64 n, v]] w fun e w' => e = .returned (.int .i64 (desFault n xss)) ∧ Below w.heap.size w w' := by
  have HB := Lib.hid (below_box w (.cells #[.int .i64 n, v] 24))
  by_cases s1 : n < 1 ∨ 40 < n
  · have H : Hid (desFault n xss = 1) := by show _ = _; unfold desFault; rw [if_pos s1]
    clear h
    by_cases s2 : n < 1
    · have ed : decide (n < 1) = true := by simpa using s2
      go_enter Try.func12, Try.ntmps12
      go_wp2_with fail
      go_ret
      exact ⟨ret_int H.out.symm, HB.out⟩
    · have ed : decide (n < 1) = false := by simpa using s2
      have ed2 : decide (40 < n) = true := by simp; omega
      go_enter Try.func12, Try.ntmps12
      go_wp2_with fail
      go_ret
      exact ⟨ret_int H.out.symm, HB.out⟩
  · have ed : decide (n < 1) = false := by simp; omega
    have ed2 : decide (40 < n) = false := by simp; omega
    by_cases s3 : 200 < xss.length
    · have H : Hid (desFault n xss = 3) := by show _ = _; unfold desFault; rw [if_neg s1, if_pos s3]
      have ed3 : decide ((200 : Int) < (xss.length : Int)) = true := by simp; omega
      obtain ⟨a, c, V, rfl, h1, h2, _, h3⟩ := h
      clear h3
      go_enter Try.func12, Try.ntmps12
      go_wp2_with fail
      go_ret
      exact ⟨ret_int H.out.symm, HB.out⟩
    · have H0 : Hid (desFault n xss = desTo n xss xss.length) := by show _ = _; unfold desFault; rw [if_neg s1, if_neg s3]
      have ed3 : decide ((200 : Int) < (xss.length : Int)) = false := by simp; omega
      obtain ⟨a, c, V, rfl, h1, h2, _, h3⟩ := h
      have HX := Lib.hid h3; clear h3
      go_enter Try.func12, Try.ntmps12
      go_wp2_with fail
      go_loopw [3] (fun s wr => ∃ k nd : Nat, k ≤ xss.length ∧ s = .int .i64 k ∧ desTo n xss k = 0 ∧ wr = (w.alloc (.cells #[.int .i64 n, .slice a xss.length c] 24)).drewN nd) (fun s _ => xss.length - (intOf s).toNat)
      case atStart => exact ⟨0, 0, by omega, rfl, rfl, rfl⟩
      case round =>
        obtain ⟨k, nd, hk, rfl, hf, rfl⟩ := hrel
        have HF := Lib.hid hf; clear hf
        by_cases hlt : k < xss.length
        · obtain ⟨hrow, b, o, rfl, hb, hc⟩ := HX.out k hlt
          have hcell := hc k hlt
          clear hc
          obtain ⟨ra, rc, hV, e1, e2, _, hq⟩ := hrow
          rw [hV] at hcell
          clear hV
          have HQ := Lib.hid hq; clear hq
          generalize hxs : rx xss k = xs at *
          have Hxs := Lib.hid hxs; clear hxs
          go_wp2_with fail
          go_loopw [5] (fun s wr => ∃ j nd : Nat, j ≤ xs.length ∧ s = .int .i64 j ∧ anyB (outV n) (xs.take j) = false ∧ wr = (w.alloc (.cells #[.int .i64 n, .slice (some ⟨b, o, none⟩) xss.length c] 24)).drewN nd) (fun s _ => xs.length - (intOf s).toNat)
          case atStart => exact ⟨0, _, by omega, rfl, by simp [anyB], rfl⟩
          case round =>
            obtain ⟨j, nd, hj, rfl, hn, rfl⟩ := hrel
            have HN := Lib.hid hn; clear hn
            by_cases hltj : j < xs.length
            · obtain ⟨b2, o2, rfl, hb2, hc2⟩ := HQ.out j (by omega)
              have c1 := hc2 j (by omega)
              have i5 : (j : Int) < (xs.length : Int) := by omega
              clear hc2
              by_cases x1 : ix xs j < 0
              · have ed4 : decide (ix xs j < 0) = true := by simpa using x1
                have Hbad : Hid (blockF n (rx xss k) = 1) := by show _ = _; rw [Hxs.out]; exact blockF_out hltj (outV_neg x1)
                go_wp2_with fail
                go_quiet (fail)
                go_wp2_with fail
                go_ret
                exact ⟨ret_int (by rw [H0.out, desTo_hit HF.out Hbad.out (by decide) hlt]), below_boxDD _ _ _ _⟩
              · have ed4 : decide (ix xs j < 0) = false := by simpa using x1
                cases ed5 : decide (n ≤ ix xs j)
                · have Hok : Hid (outV n (ix xs j) = false) := by show _ = _; rw [outV_pos x1, ed5]
                  go_wp2_with fail
                  go_quiet (fail)
                  go_wp2_with fail
                  go_roundw
                  case rel => exact ⟨j + 1, _, by omega, by go_num, by rw [any_take hltj, HN.out, Hok.out]; rfl, rfl⟩
                  case measure => simp [intOf]; omega
                · have Hbad : Hid (blockF n (rx xss k) = 1) := by show _ = _; rw [Hxs.out]; exact blockF_out hltj (by rw [outV_pos x1, ed5])
                  go_wp2_with fail
                  go_quiet (fail)
                  go_wp2_with fail
                  go_ret
                  exact ⟨ret_int (by rw [H0.out, desTo_hit HF.out Hbad.out (by decide) hlt]), below_boxDD _ _ _ _⟩
            · obtain rfl : j = xs.length := by omega
              have HA : Hid (anyB (outV n) xs = false) := by show _ = _; have := HN.out; rw [List.take_length] at this; exact this
              clear HN
              go_wp2_with fail
              go_loopw [6] (fun s wr => ∃ j nd : Nat, (j + 1 ≤ xs.length ∨ j = 0) ∧ s = .int .i64 ((j : Int) + 1) ∧ notInc xs j = false ∧ wr = (w.alloc (.cells #[.int .i64 n, .slice (some ⟨b, o, none⟩) xss.length c] 24)).drewN nd) (fun s _ => xs.length + 1 - (intOf s).toNat)
              case atStart => exact ⟨0, _, .inr rfl, rfl, rfl, rfl⟩
              case round =>
                obtain ⟨j, nd, hj, rfl, hn, rfl⟩ := hrel
                have HN := Lib.hid hn; clear hn
                by_cases hltj : j + 1 < xs.length
                · obtain ⟨b2, o2, rfl, hb2, hc2⟩ := HQ.out j (by omega)
                  have c1 := hc2 j (by omega)
                  have c2 := hc2 (j + 1) hltj
                  have i1 : (0 : Int) ≤ (j : Int) + 1 := by omega
                  have i2 : (j : Int) + 1 < (xs.length : Int) := by omega
                  have i3 : ((j : Int) + 1).toNat = j + 1 := by omega
                  have i4 : IntKind.i64.wrap ((j : Int) + 1 - 1) = (j : Int) := by rw [show (j : Int) + 1 - 1 = (j : Int) by omega]; exact IntWalk.i64_in _ (by omega)
                  have i5 : (j : Int) < (xs.length : Int) := by omega
                  have HS : Hid (notInc xs (j + 1) = (notInc xs j || decide (ix xs (j + 1) ≤ ix xs j))) := rfl
                  clear hc2
                  cases ed4 : decide (ix xs (j + 1) ≤ ix xs j)
                  · have Hd := Lib.hid ed4
                    go_wp2_with fail
                    go_quiet (fail)
                    go_wp2_with fail
                    go_roundw
                    case rel => exact ⟨j + 1, _, .inl (by omega), by go_num, by rw [HS.out, HN.out, Hd.out]; rfl, rfl⟩
                    case measure => simp [intOf]; omega
                  · have Hbad : Hid (blockF n (rx xss k) = 2) := by show _ = _; rw [Hxs.out]; unfold blockF; rw [HA.out]; unfold incB; rw [notInc_hit (show j < xs.length - 1 by omega) (by simpa using ed4)]; rfl
                    go_wp2_with fail
                    go_quiet (fail)
                    go_wp2_with fail
                    go_ret
                    exact ⟨ret_int (by rw [H0.out, desTo_hit HF.out Hbad.out (by decide) hlt]), below_boxDD _ _ _ _⟩
                · have Hok : Hid (blockF n (rx xss k) = 0) := by show _ = _; rw [Hxs.out]; unfold blockF; rw [HA.out, notInc_full HN.out hltj hj]; rfl
                  have i2 : ¬ ((j : Int) + 1 < (xs.length : Int)) := by omega
                  go_wp2_with fail
                  go_roundw
                  case rel => exact ⟨k + 1, _, by omega, by go_num, by rw [desTo_next HF.out, Hok.out], rfl⟩
                  case measure => simp [intOf]; omega
        · obtain rfl : k = xss.length := by omega
          go_wp2_with fail
          go_ret
          exact ⟨ret_int (by rw [H0.out, HF.out]), below_boxD _ _ _⟩
end Go.Proofs.Ytkmcmahpfhlkhaa
