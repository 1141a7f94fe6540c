/-
  Contract: the reference's CyclicOf. No condition.
-/
import Derived.Test.YtdbfpdhcaiiiaaaDoorFMadeOf
namespace Go.Proofs.YtdbfpdhcaiiiaaaDoor
open Go.RowKit

theorem cycTo_one (n m : Nat) : cycTo n (m + 1) = cycTo n m ++ [(((m / n + m % n) % n : Nat) : Int)] := by
  unfold cycTo; rw [List.range_succ, List.map_append]; rfl
set_option maxRecDepth 100000 in
set_option maxHeartbeats 1000000 in
theorem cycOf_no (n : Int) (w : World) (hn : n < 1 ∨ 8 < n) :
    Calls Tryd.prog 8 #[.int .i64 n] w (NoSq 1 w) := by
  have hA := arr_sq w (.int .i64 0) (.slice none 0 0) 26
  have HB := Lib.hid (below_box w (.cells #[.int .i64 0, .slice none 0 0] 26))
  by_cases h1 : n < 1
  · have e1 : decide (n < 1) = true := by simpa using h1
    clear h1 hn
    go_enter Tryd.func8, Tryd.ntmps8
    go_wp2_with fail
    exact bodyPost_ret (results_arrT (p := 2) (u := 3) rfl hA Tryd.underlying26 rfl (by kernel_rfl) rfl) rfl ⟨rfl, HB.out⟩
  · have e1 : decide (n < 1) = false := by simpa using h1
    have e2 : decide (8 < n) = true := by simp; omega
    clear h1 hn
    go_enter Tryd.func8, Tryd.ntmps8
    go_wp2_with fail
    exact bodyPost_ret (results_arrT (p := 2) (u := 3) rfl hA Tryd.underlying26 rfl (by kernel_rfl) rfl) rfl ⟨rfl, HB.out⟩

set_option maxRecDepth 100000 in
set_option maxHeartbeats 4000000 in
theorem cycOf_yes (n : Nat) (w : World) (hn : 1 ≤ n) (hn8 : n ≤ 8) :
    Calls Tryd.prog 8 #[.int .i64 n] w (SqPost n (cycTo n (n * n)) w) := by
  have HS := Lib.hid (mad_start w n)
  have e1 : decide ((n : Int) < 1) = false := by simp; omega
  have e2 : decide (8 < (n : Int)) = false := by simp; omega
  have hn0 : ¬ n = 0 := by omega
  have hnn : n * n ≤ 64 := Nat.mul_le_mul hn8 hn8
  have hv := mul_val (q := n) (p := n) (by omega)
  obtain ⟨N, hN⟩ : ∃ N, N = n * n := ⟨_, rfl⟩
  rw [← hN] at hv hnn
  rw [← hN]
  have HNN := Lib.hid hN
  clear hN
  go_enter Tryd.func8, Tryd.ntmps8
  go_wp2_with fail
  go_loopw [5] (fun s wr => ∃ (i : Nat) (u : Value), i ≤ N ∧ s = .int .i64 i ∧ MadRel w wr n u (cycTo n i)) (fun s _ => N - (intOf s).toNat)
  case atStart => exact ⟨0, _, by omega, rfl, HS.out⟩
  case round =>
    clear HS
    obtain ⟨i, u, hi, rfl, hR⟩ := hrel
    have HR := Lib.hid hR; clear hR
    obtain ⟨ua, ul, uc, rfl⟩ := HR.out.own.shape
    have o1 := HR.out.out.cell (show 1 < 2 by omega)
    by_cases hlt : i < N
    · have HL9 : Hid ((cycTo n i).length < 1000000000) := by show _ < _; rw [cycTo_len]; omega
      have HRD : Hid (∀ m, MadRel w (wr.drewN m) n (.slice ua ul uc) (cycTo n i)) := fun m => HR.out.next (below_D _ _)
      have hsz := HR.out.hz
      have hq : i / n < n := Nat.div_lt_of_lt_mul (by rw [← HNN.out]; exact hlt)
      have hr : i % n < n := Nat.mod_lt _ (by omega)
      obtain ⟨t, ht⟩ : ∃ t, t = (i / n + i % n) % n := ⟨_, rfl⟩
      have htn : t < n := by rw [ht]; exact Nat.mod_lt _ (by omega)
      have HT : Hid (cycTo n (i + 1) = cycTo n i ++ [((t : Nat) : Int)]) := by show _ = _; rw [cycTo_one, ht]
      obtain ⟨q, hqe⟩ : ∃ q, q = i / n := ⟨_, rfl⟩
      obtain ⟨r, hre⟩ : ∃ r, r = i % n := ⟨_, rfl⟩
      have p1 : IntKind.i64.wrap ((i : Int) / (n : Int)) = (q : Int) := by rw [← Int.natCast_ediv, ← hqe]; exact IntWalk.i64_in _ (by omega)
      have p2 : (i : Int).tmod (n : Int) = (r : Int) := by rw [← Int.ofNat_tmod, ← hre]
      obtain ⟨s, hs⟩ : ∃ s, s = q + r := ⟨_, rfl⟩
      have p3 : IntKind.i64.wrap ((q : Int) + (r : Int)) = (s : Int) := by rw [← Int.natCast_add, ← hs]; exact IntWalk.i64_in _ (by omega)
      have p4 : (s : Int).tmod (n : Int) = (t : Int) := by rw [← Int.ofNat_tmod, ht, hs, hqe, hre]
      have hlw : w.heap.size + 1 < wr.heap.size := by omega
      have hlw2 : ¬ w.heap.size + 1 = wr.heap.size := by omega
      clear ht hqe hre hs hq hr
      go_wp2_with fail
      go_region_law (first
        | (refine step_ints (by rfl) _ _ (by rfl) (by rfl) ((HR.out.own.alloc _).drew) wr.heap.size (by rfl) (World.cell?_alloc_new wr _ _ 0) HL9.out (by simp; omega) ?_; intro v' w3 hown1 hgrow; obtain ⟨va, vl, vc, rfl⟩ := hown1.shape; have HR3 := Lib.hid (((HR.out.next (below_box _ _)).next (below_D _ 1)).push hown1 hgrow); obtain ⟨y1, y2⟩ := ((HR.out.next (below_box _ _)).next (below_D _ 1)).spot hgrow; clear hown1 hgrow)
        | fail)
      all_goals
        rw [← HT.out] at HR3
        clear p1 p2 p3 p4
        go_wp2_with fail
        go_roundw
        case rel => exact ⟨i + 1, _, by omega, by go_num, HR3.out⟩
        case measure => simp [intOf]; omega
    · obtain rfl : i = N := by omega
      have o0 := HR.out.out.cell (show 0 < 2 by omega)
      have a0 := HR.out.res.cell (show 0 < 2 by omega); have a1 := HR.out.res.cell (show 1 < 2 by omega)
      have b0 := HR.out.res.free (show 0 < 2 by omega); have b1 := HR.out.res.free (show 1 < 2 by omega)
      go_wp2_with fail
      refine bodyPost_ret (results_arrT (p := 2) (u := 3) rfl ((HR.out.res.set (show 0 < 2 by omega) (.int .i64 n)).set (show 1 < 2 by omega) (.slice ua ul uc)) Tryd.underlying26 rfl (by kernel_rfl) rfl) rfl ⟨.slice ua ul uc, rfl, ?_, HR.out.own.far (by omega), (HR.out.bel.setCell (Nat.le_refl _) _).setCell (Nat.le_refl _) _⟩
      refine Own.intsAt ((HR.out.own.setFar (by simp) _).setFar (by simp) _) ?_
      rw [cycTo_len]; omega
end Go.Proofs.YtdbfpdhcaiiiaaaDoor
