/-
  Contracts: design.Check, the reference's DesignFault: what is wrong with a design. No condition.
-/
import Derived.Test.YtkmcmahpfhlkhaaSets
import Derived.Test.YtkmcmahpfhlkhaaFunc
namespace Go.Proofs.Ytkmcmahpfhlkhaa
open Go.RowKit

/-- What is wrong with one block, with the first of some blocks. -/
def blockF (n : Int) (b : List Int) : Int := if anyB (outV n) b then 1 else if incB b then 0 else 2
def desTo (n : Int) (xss : List (List Int)) : Nat → Int
  | 0 => 0
  | k + 1 => if desTo n xss k = 0 then blockF n (rx xss k) else desTo n xss k
def desFault (n : Int) (xss : List (List Int)) : Int := if n < 1 ∨ 40 < n then 1 else if 200 < xss.length then 3 else desTo n xss xss.length
theorem desTo_next {n : Int} {xss : List (List Int)} {k : Nat} (h : desTo n xss k = 0) : desTo n xss (k + 1) = blockF n (rx xss k) := by rw [desTo, if_pos h]
theorem desTo_hit {n : Int} {xss : List (List Int)} {k : Nat} {e : Int} (h : desTo n xss k = 0) (he : blockF n (rx xss k) = e) (h0 : e ≠ 0) : ∀ {m : Nat}, k < m → desTo n xss m = e
  | 0, hk => by omega
  | m + 1, hk => by
    by_cases e2 : k = m
    · subst e2; rw [desTo_next h, he]
    · rw [desTo, desTo_hit h he h0 (m := m) (by omega), if_neg h0]
structure IsBlock (n : Int) (b : List Int) : Prop where
  rng : ∀ k, k < b.length → 0 ≤ ix b k ∧ ix b k < n
  inc : incB b = true
structure IsDes (n : Int) (xss : List (List Int)) : Prop where
  lo : 1 ≤ n
  hi : n ≤ 40
  few : xss.length ≤ 200
  all : ∀ i, i < xss.length → IsBlock n (rx xss i)
theorem block_of {n : Int} {b : List Int} (h : blockF n b = 0) : IsBlock n b := by
  unfold blockF at h
  cases h2 : anyB (outV n) b
  · rw [h2] at h
    cases h3 : incB b
    · rw [h3] at h; cases h
    · exact ⟨anyV h2, h3⟩
  · rw [h2] at h; cases h
theorem IsBlock.fault {n : Int} {b : List Int} (h : IsBlock n b) : blockF n b = 0 := by
  unfold blockF
  rw [anyV_of h.rng, h.inc]; rfl
theorem desTo_all {n : Int} {xss : List (List Int)} : ∀ {m : Nat}, desTo n xss m = 0 → ∀ i, i < m → IsBlock n (rx xss i)
  | 0, _, i, hi => by omega
  | m + 1, h, i, hi => by
    by_cases h0 : desTo n xss m = 0
    · rw [desTo_next h0] at h
      by_cases e : i = m
      · subst e; exact block_of h
      · exact desTo_all h0 i (by omega)
    · rw [desTo, if_neg h0] at h; exact absurd h h0
theorem desTo_of {n : Int} {xss : List (List Int)} : ∀ {m : Nat}, (∀ i, i < m → IsBlock n (rx xss i)) → desTo n xss m = 0
  | 0, _ => rfl
  | m + 1, h => by rw [desTo_next (desTo_of fun i hi => h i (by omega))]; exact (h m (by omega)).fault
theorem des_of {n : Int} {xss : List (List Int)} (h : desFault n xss = 0) : IsDes n xss := by
  unfold desFault at h
  by_cases h1 : n < 1 ∨ 40 < n
  · rw [if_pos h1] at h; cases h
  · rw [if_neg h1] at h
    by_cases h2 : 200 < xss.length
    · rw [if_pos h2] at h; cases h
    · rw [if_neg h2] at h
      exact ⟨by omega, by omega, by omega, desTo_all h⟩
theorem IsDes.fault {n : Int} {xss : List (List Int)} (h : IsDes n xss) : desFault n xss = 0 := by
  have := h.lo; have := h.hi; have := h.few
  unfold desFault
  rw [if_neg (by omega), if_neg (by omega), desTo_of h.all]
theorem notInc_full {xs : List Int} {k : Nat} (h : notInc xs k = false) (hk : ¬ k + 1 < xs.length) (hk2 : k + 1 ≤ xs.length ∨ k = 0) : incB xs = true := by
  unfold incB
  have : k = xs.length - 1 := by omega
  rw [← this, h]; rfl

theorem check1_any (x n : Int) (b : Nat) (w : World) (hc : w.cell? ⟨b, 0, none⟩ = some (.int .i64 n)) :
    Calls Try.prog 35 #[.int .i64 x, .pointer (some ⟨b, 0, none⟩)] w fun e w' => e = .returned (.bool (outV n x)) ∧ w = w' := by
  by_cases h1 : x < 0
  · have ed : decide (x < 0) = true := by simpa using h1
    go_enter Try.func35, Try.ntmps35
    go_wp2
    go_ret
    exact ⟨ret_bool (outV_neg h1).symm, rfl⟩
  · have Ho := Lib.hid (outV_pos (n := n) h1)
    have ed : decide (x < 0) = false := by simpa using h1
    cases e2 : decide (n ≤ x)
    all_goals
      rw [e2] at Ho
      go_enter Try.func35, Try.ntmps35
      go_wp2
      go_ret
      exact ⟨ret_bool Ho.out.symm, rfl⟩
theorem enters_check (args : Array Value) (w : World) : (callFunc 35 args).run Try.prog w = .ok (.enter 35 args) w := by kernel_rfl

set_option maxRecDepth 100000 in
set_option maxHeartbeats 1000000 in
theorem check_any (n : Int) (v : Value) (xss : List (List Int)) (w : World) (h : RowsAt w v xss) :
    Calls Try.prog 16 #[.agg #[.int .i64 n, v]] w fun e w' => e = .returned (.int .i64 (desFault n xss)) ∧ Below w.heap.size w w' := by
  have HB := Lib.hid (below_box w (.cells #[.int .i64 n, v] 24))
  by_cases s1 : n < 1 ∨ 40 < n
  · have H : Hid (desFault n xss = 1) := by show _ = _; unfold desFault; rw [if_pos s1]
    clear h
    by_cases s2 : n < 1
    · have ed : decide (n < 1) = true := by simpa using s2
      go_enter Try.func16, Try.ntmps16
      go_wp2_with fail
      go_ret
      exact ⟨ret_int H.out.symm, HB.out⟩
    · have ed : decide (n < 1) = false := by simpa using s2
      have ed2 : decide (40 < n) = true := by simp; omega
      go_enter Try.func16, Try.ntmps16
      go_wp2_with fail
      go_ret
      exact ⟨ret_int H.out.symm, HB.out⟩
  · have ed : decide (n < 1) = false := by simp; omega
    have ed2 : decide (40 < n) = false := by simp; omega
    by_cases s3 : 200 < xss.length
    · have H : Hid (desFault n xss = 3) := by show _ = _; unfold desFault; rw [if_neg s1, if_pos s3]
      have ed3 : decide ((200 : Int) < (xss.length : Int)) = true := by simp; omega
      obtain ⟨a, c, V, rfl, h1, h2, _, h3⟩ := h
      clear h3
      go_enter Try.func16, Try.ntmps16
      go_wp2_with fail
      go_ret
      exact ⟨ret_int H.out.symm, HB.out⟩
    · have H0 : Hid (desFault n xss = desTo n xss xss.length) := by show _ = _; unfold desFault; rw [if_neg s1, if_neg s3]
      have ed3 : decide ((200 : Int) < (xss.length : Int)) = false := by simp; omega
      obtain ⟨a, c, V, rfl, h1, h2, _, h3⟩ := h
      have HX := Lib.hid h3; clear h3
      have HK : Hid ((w.alloc (.cells #[.int .i64 n, .slice a xss.length c] 24)).cell? ⟨w.heap.size, 0, none⟩ = some (.int .i64 n)) := World.cell?_alloc_new w #[.int .i64 n, .slice a xss.length c] 24 0
      go_enter Try.func16, Try.ntmps16
      go_wp2_with fail
      go_loopw [23] (fun s wr => ∃ k nd : Nat, k ≤ xss.length ∧ s = .int .i64 k ∧ desTo n xss k = 0 ∧ wr = (w.alloc (.cells #[.int .i64 n, .slice a xss.length c] 24)).drewN nd) (fun s _ => xss.length - (intOf s).toNat)
      case atStart => exact ⟨0, 0, by omega, rfl, rfl, rfl⟩
      case round =>
        obtain ⟨k, nd, hk, rfl, hf, rfl⟩ := hrel
        have HF := Lib.hid hf; clear hf
        by_cases hlt : k < xss.length
        · obtain ⟨hrow, b, o, rfl, hb, hc⟩ := HX.out k hlt
          have hcell := hc k hlt
          clear hc
          have hcf := containsFunc_any 35 enters_check (.pointer (some ⟨w.heap.size, 0, none⟩)) (outV n) _ _ ((w.alloc (.cells #[.int .i64 n, .slice (some ⟨b, o, none⟩) xss.length c] 24)).drewN nd) (hrow.below (below_boxD _ _ _)) (fun x => check1_any x n _ _ HK.out)
          obtain ⟨ra, rc, hV, e1, e2, _, hq⟩ := hrow
          rw [hV] at hcell hcf
          clear hV
          have HQ := Lib.hid hq; clear hq
          generalize hxs : rx xss k = xs at *
          have Hxs := Lib.hid hxs; clear hxs
          cases ea : anyB (outV n) xs
          · have HA := Lib.hid ea
            rw [ea] at hcf
            have Hcf := Lib.hid hcf; clear hcf ea
            go_wp2_with fail
            refine (Hcf.out).mono ?_
            rintro e w' ⟨rfl, rfl⟩
            go_wp2_with fail
            go_loopw [5] (fun s wr => ∃ j nd : Nat, (j + 1 ≤ xs.length ∨ j = 0) ∧ s = .int .i64 ((j : Int) + 1) ∧ notInc xs j = false ∧ wr = (w.alloc (.cells #[.int .i64 n, .slice (some ⟨b, o, none⟩) xss.length c] 24)).drewN nd) (fun s _ => xs.length + 1 - (intOf s).toNat)
            case atStart => exact ⟨0, _, .inr rfl, rfl, rfl, rfl⟩
            case round =>
              obtain ⟨j, nd, hj, rfl, hn, rfl⟩ := hrel
              have HN := Lib.hid hn; clear hn
              by_cases hltj : j + 1 < xs.length
              · obtain ⟨b2, o2, rfl, hb2, hc2⟩ := HQ.out j (by omega)
                have c1 := hc2 j (by omega)
                have c2 := hc2 (j + 1) hltj
                have i1 : (0 : Int) ≤ (j : Int) + 1 := by omega
                have i2 : (j : Int) + 1 < (xs.length : Int) := by omega
                have i3 : ((j : Int) + 1).toNat = j + 1 := by omega
                have i4 : IntKind.i64.wrap ((j : Int) + 1 - 1) = (j : Int) := by rw [show (j : Int) + 1 - 1 = (j : Int) by omega]; exact IntWalk.i64_in _ (by omega)
                have i5 : (j : Int) < (xs.length : Int) := by omega
                have HS : Hid (notInc xs (j + 1) = (notInc xs j || decide (ix xs (j + 1) ≤ ix xs j))) := rfl
                clear hc2 Hcf
                cases ed4 : decide (ix xs (j + 1) ≤ ix xs j)
                · have Hd := Lib.hid ed4
                  go_wp2_with fail
                  go_quiet (fail)
                  go_wp2_with fail
                  go_roundw
                  case rel => exact ⟨j + 1, _, .inl (by omega), by go_num, by rw [HS.out, HN.out, Hd.out]; rfl, rfl⟩
                  case measure => simp [intOf]; omega
                · have Hbad : Hid (blockF n (rx xss k) = 2) := by show _ = _; rw [Hxs.out]; unfold blockF; rw [HA.out]; unfold incB; rw [notInc_hit (show j < xs.length - 1 by omega) (by simpa using ed4)]; rfl
                  go_wp2_with fail
                  go_quiet (fail)
                  go_wp2_with fail
                  go_ret
                  exact ⟨ret_int (by rw [H0.out, desTo_hit HF.out Hbad.out (by decide) hlt]), below_boxDD _ _ _ _⟩
              · have Hok : Hid (blockF n (rx xss k) = 0) := by show _ = _; rw [Hxs.out]; unfold blockF; rw [HA.out, notInc_full HN.out hltj hj]; rfl
                have i2 : ¬ ((j : Int) + 1 < (xs.length : Int)) := by omega
                clear Hcf
                go_wp2_with fail
                go_roundw
                case rel => exact ⟨k + 1, _, by omega, by go_num, by rw [desTo_next HF.out, Hok.out], rfl⟩
                case measure => simp [intOf]; omega
          · have Hbad : Hid (blockF n (rx xss k) = 1) := by show _ = _; rw [Hxs.out]; unfold blockF; rw [ea]; rfl
            rw [ea] at hcf
            have Hcf := Lib.hid hcf; clear hcf ea
            go_wp2_with fail
            refine (Hcf.out).mono ?_
            rintro e w' ⟨rfl, rfl⟩
            go_wp2_with fail
            go_ret
            exact ⟨ret_int (by rw [H0.out, desTo_hit HF.out Hbad.out (by decide) hlt]), below_boxD _ _ _⟩
        · obtain rfl : k = xss.length := by omega
          go_wp2_with fail
          go_ret
          exact ⟨ret_int (by rw [H0.out, HF.out]), below_boxD _ _ _⟩
end Go.Proofs.Ytkmcmahpfhlkhaa
