/-
  Contracts: the reference's Fault, Size. No condition.
-/
import Derived.Test.YtdbfpdhcaiiiaaaDoorPDifferMade15
import Derived.Test.YtdbfpdhcaiiiaaaDoorPDifferMade19
namespace Go.Proofs.YtdbfpdhcaiiiaaaDoor
open Go.RowKit

theorem low_nl {low : List Int} {d : Nat} (hl : low.length = d) (h : ∀ j, j < d → 0 ≤ ix low j) : low = nl (lF low) d := by
  apply List.ext_getElem
  · rw [nl_len]; exact hl
  · intro i h1 h2
    have := h i (by omega)
    rw [ix_lt h1] at this
    simp only [nl, List.getElem_map, List.getElem_range]
    unfold lF
    rw [ix_lt h1]; omega
/-- What a function of a field holds. -/
structure FbRel (w wr : World) (p d : Int) (v : Value) : Prop where
  bel : Below w.heap.size w wr
  fb : Arr wr w.heap.size 3 (three (.int .i64 p) (.int .i64 d) v)
theorem FbRel.begin (w : World) (p d : Int) (v : Value) : FbRel w (w.alloc (.cells #[.int .i64 p, .int .i64 d, v] 24)) p d v := ⟨below_box _ _, three_new w _ _ _ _⟩
theorem FbRel.step {w wr W : World} {p d : Int} {v : Value} (h : FbRel w wr p d v) (hb : Below wr.heap.size wr W) : FbRel w W p d v := ⟨belowTrans h.bel hb, Arr.below h.fb hb⟩
theorem FbRel.cells {w wr : World} {p d : Int} {v : Value} (h : FbRel w wr p d v) :
    wr.cell? ⟨w.heap.size, 0, none⟩ = some (.int .i64 p) ∧ wr.cell? ⟨w.heap.size, 1, none⟩ = some (.int .i64 d) ∧ wr.cell? ⟨w.heap.size, 2, none⟩ = some v :=
  ⟨h.fb.cell (show 0 < 3 by omega), h.fb.cell (show 1 < 3 by omega), h.fb.cell (show 2 < 3 by omega)⟩

set_option maxRecDepth 100000 in
set_option maxHeartbeats 1000000 in
theorem size_any (p d : Int) (v : Value) (w : World) (hv : ∃ a l c, v = .slice a l c) :
    Calls Tryd.prog 32 #[.agg #[.int .i64 p, .int .i64 d, v]] w fun e w' => e = .returned (.int .i64 (ordQ p d : Nat)) ∧ Below w.heap.size w w' := by
  obtain ⟨a, l, c, rfl⟩ := hv
  go_enter Tryd.func32, Tryd.ntmps32
  go_wp2_with fail
  refine (orderOf_any p d _).mono ?_
  rintro e w1 ⟨rfl, rfl⟩
  go_wp2_with fail
  go_ret
  exact ⟨rfl, below_box _ _⟩

set_option maxRecDepth 100000 in
set_option maxHeartbeats 4000000 in
theorem rfault_any (p d : Int) (v : Value) (low : List Int) (w : World) (h : IntsAt w v low) :
    Calls Tryd.prog 31 #[.agg #[.int .i64 p, .int .i64 d, v]] w fun e w' => e = .returned (.int .i64 (fieldFault p d low)) ∧ Below w.heap.size w w' := by
  obtain ⟨a, c, rfl, h1, h2, _, h3⟩ := id h
  have HX := Lib.hid h3
  have HI := Lib.hid h
  have HS := Lib.hid (FbRel.begin w p d (.slice a low.length c))
  have HO := Lib.hid (orderOf_any p d (w.alloc (.cells #[.int .i64 p, .int .i64 d, .slice a low.length c] 24)))
  clear h3 h
  by_cases hq : ordQ p d = 0
  · have HF : Hid (fieldFault p d low = 1) := by show _ = _; unfold fieldFault; rw [if_pos hq]
    rw [hq] at HO
    clear hq
    go_enter Tryd.func31, Tryd.ntmps31
    go_wp2_with (go_at_call 51; refine (HO.out).mono ?_; rintro e w' ⟨rfl, rfl⟩)
    go_ret
    exact ⟨ret_int HF.out.symm, HS.out.bel⟩
  · obtain ⟨a1, a2, a3, a4, a5⟩ := ordQ_of hq
    have hpr := isPB_range a1
    have eq0 : (((ordQ p d : Nat) : Int) == 0) = false := by simp; omega
    obtain ⟨p, rfl⟩ := Int.eq_ofNat_of_zero_le (show 0 ≤ p by omega)
    obtain ⟨d, rfl⟩ := Int.eq_ofNat_of_zero_le (show 0 ≤ d by omega)
    rw [Int.toNat_natCast, Int.toNat_natCast] at a4
    have hp2 : 2 ≤ p := by omega
    have hp61 : p ≤ 61 := by omega
    have hd1 : 1 ≤ d := by omega
    have hd6 : d ≤ 6 := by omega
    have HQ := Lib.hid hq
    have HA4 := Lib.hid a4
    clear hq a1 a2 a3 a4 a5 hpr
    by_cases hl : low.length = d
    · have hne : (((low.length : Nat) : Int) != ((d : Nat) : Int)) = false := by simp [hl]
      have HL := Lib.hid hl
      have HF0 : Hid (fieldFault p d low = if low.any (outP p) then 1 else if irrB p d (lF low) then 0 else 4) := by
        show _ = _; unfold fieldFault; rw [if_neg HQ.out, if_neg (by simp [hl])]; simp
      clear hl
      go_enter Tryd.func31, Tryd.ntmps31
      go_wp2_with (go_at_call 51; refine (HO.out).mono ?_; rintro e w' ⟨rfl, rfl⟩)
      go_loopw [4] (fun u wr => ∃ k : Nat, k ≤ low.length ∧ u = .int .i64 k ∧ (low.take k).any (outP p) = false ∧ FbRel w wr p d (.slice a low.length c)) (fun u _ => low.length - (intOf u).toNat)
      case atStart => exact ⟨0, by omega, rfl, by simp, HS.out⟩
      case round =>
        clear HS HO
        obtain ⟨k, hk, rfl, hno, hR⟩ := hrel
        have HR := Lib.hid hR; have HN := Lib.hid hno
        clear hR hno
        obtain ⟨f0, f1, f2⟩ := HR.out.cells
        by_cases hlt : k < low.length
        · obtain ⟨b, o, rfl, hb, hc⟩ := HX.out k hlt
          have hcell := hc k hlt
          rw [← HR.out.bel.cell (p := ⟨b, o + k, none⟩) hb] at hcell
          clear hc
          have hki : ((k : Nat) : Int) < ((low.length : Nat) : Int) := by omega
          cases d1 : decide (ix low k < 0)
          · cases d2 : decide ((p : Int) ≤ ix low k)
            · obtain ⟨o1, o2, o3⟩ := outP_no d1 d2
              have HN2 : Hid ((low.take (k + 1)).any (outP p) = false) := by
                show _ = _; rw [take_succ_ix hlt, List.any_append, HN.out]; simp [o1]
              have HRD : Hid (∀ n, FbRel w (wr.drewN n) p d (.slice (some ⟨b, o, none⟩) low.length c)) := fun n => HR.out.step (below_D _ _)
              clear o1
              go_wp2_with fail
              go_quiet (fail)
              go_wp2_with fail
              go_roundw
              case rel => exact ⟨k + 1, by omega, by go_num, HN2.out, HRD.out _⟩
              case measure => simp [intOf]; omega
            · have HF : Hid (fieldFault p d low = 1) := by show _ = _; rw [HF0.out, any_take_hit (q := outP p) hlt (by unfold outP; simp at d2 ⊢; omega)]; rfl
              go_wp2_with fail
              go_quiet (fail)
              go_wp2_with fail
              go_ret
              exact ⟨ret_int HF.out.symm, below_drewN HR.out.bel _⟩
          · have HF : Hid (fieldFault p d low = 1) := by show _ = _; rw [HF0.out, any_take_hit (q := outP p) hlt (by unfold outP; simp at d1 ⊢; omega)]; rfl
            go_wp2_with fail
            go_quiet (fail)
            go_wp2_with fail
            go_ret
            exact ⟨ret_int HF.out.symm, below_drewN HR.out.bel _⟩
        · obtain rfl : k = low.length := by omega
          have HA : Hid (low.any (outP p) = false) := by show _ = _; have := HN.out; rw [List.take_length] at this; exact this
          have hin : ∀ j, j < d → 0 ≤ ix low j ∧ ix low j < p := fun j hj => by
            have := List.any_eq_false.1 HA.out _ (ix_mem (i := j) (by have := HL.out; omega))
            unfold outP at this; simp at this; omega
          have HNl := Lib.hid (low_nl HL.out (fun j hj => (hin j hj).1))
          have HLp : Hid (∀ j, j < d → lF low j < p) := fun j hj => by have := hin j hj; unfold lF; omega
          have HF1 : Hid (fieldFault p d low = if noDivs p d (topF d (lF low)) (d / 2) then 0 else 4) := by show _ = _; rw [HF0.out, HA.out]; rfl
          clear hin
          go_wp2_with fail
          clear f0 f1 f2 hne
          go_loopw [5, 6, 7, 8, 9] (fun s u _ _ _ wr => ∃ n m : Nat, n ≤ d / 2 ∧ u = .int .i64 ((n : Int) + 1) ∧ s = .int .i64 m ∧ m = p ^ n ∧ noDivs p d (topF d (lF low)) n = true ∧ FbRel w wr p d (.slice a low.length c)) (fun _ u _ _ _ _ => d - (intOf u).toNat)
          case atStart => exact ⟨0, 1, by omega, rfl, rfl, by simp, by simp [noDivs], HR.out⟩
          case round =>
            clear HR
            obtain ⟨n, m, hn, rfl, rfl, hm, hno, hR⟩ := hrel
            have HR := Lib.hid hR; have HN := Lib.hid hno; have HM := Lib.hid hm
            clear hR hno hm
            obtain ⟨f0, f1, f2⟩ := HR.out.cells
            by_cases hlt : n < d / 2
            · have hP8 := pow_small hp2 (show 2 * (n + 1) ≤ d by omega) HA4.out
              have hm8 : m ≤ 8 := by
                have h1 : p ^ n ≤ p ^ (n + 1) := Nat.pow_le_pow_right (by omega) (by omega)
                have := HM.out; omega
              have hmp : m * p ≤ 64 * 64 := Nat.mul_le_mul (by omega) (by omega)
              have hv := mul_val (q := m) (p := p) (by omega)
              have HN2 : Hid (m * p = p ^ (n + 1)) := by show _ = _; rw [Nat.pow_succ, HM.out]
              obtain ⟨r, hr⟩ : ∃ r, r = m * p := ⟨_, rfl⟩
              rw [← hr] at hv hmp HN2
              have hr8 : r ≤ 8 := by have := HN2.out; omega
              have HW : Hid (wrap64 ((m : Int) * (p : Int)) = (r : Int)) := by injection hv
              clear hr hP8
              have ed : decide (2 * ((n : Int) + 1) ≤ (d : Int)) = true := decide_eq_true (by omega)
              go_wp2_with fail
              try rw [hv]
              clear hv
              go_loopw [7, 8, 9] (fun u _ _ wr => ∃ c0 : Nat, c0 ≤ r ∧ u = .int .i64 c0 ∧ noDiv p (n + 1) d (topF d (lF low)) c0 = true ∧ FbRel w wr p d (.slice a low.length c)) (fun u _ _ _ => r - (intOf u).toNat)
              case atStart => exact ⟨0, by omega, rfl, by simp [noDiv], HR.out⟩
              case round =>
                clear HR f0 f1 f2
                obtain ⟨c0, hc0, rfl, hno, hR⟩ := hrel
                have HR := Lib.hid hR; have HC := Lib.hid hno
                clear hR hno
                obtain ⟨f0, f1, f2⟩ := HR.out.cells
                by_cases hcm : c0 < r
                · have HDg : Hid (∀ W, Calls Tryd.prog 52 #[.int .i64 (c0 : Int), .int .i64 (p : Int), .int .i64 ((n : Int) + 1)] W fun e w' => ∃ v, e = .returned v ∧ Own w' W.heap.size 3 v (nl (dF p c0) (n + 1)) ∧ Below W.heap.size W w') := fun W => rdigits_any c0 p (n + 1) W (by omega) hp2 (by omega) (by omega)
                  cases eb : divB p (n + 1) d (dF p c0) (topF d (lF low))
                  all_goals
                    have HEB := Lib.hid eb
                    clear eb
                    go_wp2_with fail
                    refine (HDg.out wr).mono ?_
                    rintro e w1 ⟨v1, rfl, hown, hb1⟩
                    obtain ⟨xa, xl, xc, rfl⟩ := hown.shape
                    have HR1 := Lib.hid (HR.out.step hb1)
                    have hI1 : IntsAt w1 (.slice a low.length c) (nl (lF low) d) := by rw [← HNl.out]; exact HI.out.below HR1.out.bel
                    have HDv := Lib.hid (rdivides_any p (n + 1) d (.slice xa xl xc) (.slice a low.length c) (dF p c0) (lF low) w1 (hown.intsAt (by rw [nl_len]; omega)) hI1 hp2 (by omega) (by omega) (by omega) hd6 (fun j _ => dF_lt (by omega)) HLp.out)
                    rw [HEB.out] at HDv
                    clear hown hb1 hI1 f0 f1 f2
                    obtain ⟨f0, f1, f2⟩ := HR1.out.cells
                    go_wp2_with fail
                    refine HDv.out.mono ?_
                    rintro e w2 ⟨rfl, hb2⟩
                    have HR2 := Lib.hid (HR1.out.step hb2)
                    clear hb2
                    go_wp2_with fail
                  · go_roundw
                    case rel => exact ⟨c0 + 1, by omega, by go_num, by rw [noDiv_succ, HC.out, HEB.out]; rfl, HR2.out⟩
                    case measure => simp [intOf]; omega
                  · have HF : Hid (fieldFault p d low = 4) := by
                      show _ = _
                      rw [HF1.out, noDivs_hit hlt (noDiv_hit (c := c0) (by rw [← HN2.out]; exact hcm) HEB.out)]; rfl
                    go_ret
                    exact ⟨ret_int HF.out.symm, HR2.out.bel⟩
                · obtain rfl : c0 = r := by omega
                  have HN3 : Hid (noDivs p d (topF d (lF low)) (n + 1) = true) := by
                    show _ = _
                    have h := HC.out
                    rw [HN2.out] at h
                    rw [noDivs_succ, HN.out, h]; rfl
                  go_wp2_with fail
                  go_roundw
                  case rel => exact ⟨n + 1, c0, by omega, by first | rfl | go_num, rfl, HN2.out, HN3.out, HR.out⟩
                  case measure => simp [intOf]; omega
            · obtain rfl : n = d / 2 := by omega
              have HF : Hid (fieldFault p d low = 0) := by show _ = _; rw [HF1.out, HN.out]; rfl
              go_wp2_with fail
              go_ret
              exact ⟨ret_int HF.out.symm, HR.out.bel⟩
    · have hne : (((low.length : Nat) : Int) != ((d : Nat) : Int)) = true := by simp; omega
      have HF : Hid (fieldFault p d low = 2) := by show _ = _; unfold fieldFault; rw [if_neg HQ.out, if_pos (by omega)]
      clear hl
      go_enter Tryd.func31, Tryd.ntmps31
      go_wp2_with (go_at_call 51; refine (HO.out).mono ?_; rintro e w' ⟨rfl, rfl⟩)
      go_ret
      exact ⟨ret_int HF.out.symm, HS.out.bel⟩
end Go.Proofs.YtdbfpdhcaiiiaaaDoor
