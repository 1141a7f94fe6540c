/-
  Contract: latin.Cyclic. No condition.
-/
import Derived.Test.YtdbfpdhcaiiiaaaDoorCyclic
namespace Go.Proofs.YtdbfpdhcaiiiaaaDoor
open Go.RowKit

theorem arr_sq (w : World) (p q : Value) (t : TypeId) : Arr (w.alloc (.cells #[p, q] t)) w.heap.size 2 (fun j => if j = 0 then p else q) := by
  refine ⟨by simp, fun j hj => ⟨?_, World.frozen?_alloc_new _ _ _ _⟩⟩
  rw [World.cell?_alloc_new]
  rcases j with _ | _ | j
  · rfl
  · rfl
  · omega

set_option maxHeartbeats 1000000 in
theorem cyclic_yes (n : Nat) (w : World) (hn : 1 ≤ n) (hn8 : n ≤ 8) :
    Calls Tryd.prog 7 #[.int .i64 n] w fun e w' => ∃ v, e = .returned (.tuple #[.agg #[.int .i64 n, v], .int .i64 0]) ∧ Own w' w.heap.size 3 v (cycTo n (n * n)) ∧ Below w.heap.size w w' := by
  have hs : sideB n = true := by simp [sideB]; omega
  have Hs := Lib.hid (side_any n); rw [hs] at Hs; clear hs
  go_enter Tryd.func7, Tryd.ntmps7
  go_wp2_with fail
  refine (Hs.out _).mono ?_
  rintro e w1 ⟨rfl, rfl⟩
  have hw1 : ((w.alloc (.cells #[.int .i64 n] 3)).alloc (.cells #[.int .i64 0, .slice none 0 0] 26)).cell? ⟨w.heap.size, 0, none⟩ = some (.int .i64 n) := by
    rw [World.cell?_alloc_old _ _ _ (by simp), World.cell?_alloc_new]; rfl
  have hA := arr_sq (w.alloc (.cells #[.int .i64 n] 3)) (.int .i64 0) (.slice none 0 0) 26
  rw [World.size_alloc] at hA
  have HA := Lib.hid hA
  have HC := Lib.hid (filled_cyc n w.heap.size _ hn hn8 (by simp; omega) hw1)
  clear hA hw1
  go_wp2_with fail
  refine HC.out.mono ?_
  rintro e w1 ⟨v, rfl, hI, hb1⟩
  obtain ⟨va, vl, vc, rfl⟩ := hI.shape
  have hA1 := HA.out.below hb1
  have HA1 := Lib.hid hA1
  have HI := Lib.hid hI
  have HB := Lib.hid (belowTrans (belowTrans (below_box w _) (below_box _ _)) hb1)
  have HZ := hb1.size
  simp only [World.size_alloc] at HZ
  have a0 := hA1.cell (show 0 < 2 by omega); have a1 := hA1.cell (show 1 < 2 by omega)
  have b0 := hA1.free (show 0 < 2 by omega); have b1 := hA1.free (show 1 < 2 by omega)
  clear hA1 hI hb1
  go_wp2
  refine bodyPost_ret (results_arrT (p := 2) (u := 3) rfl ((HA1.out.set (show 0 < 2 by omega) (.int .i64 n)).set (show 1 < 2 by omega) (.slice va vl vc)) Tryd.underlying26 rfl (by kernel_rfl) rfl) rfl ⟨.slice va vl vc, rfl, ?_, (HB.out.setCell (Nat.le_succ _) _).setCell (Nat.le_succ _) _⟩
  simp only [World.size_alloc] at HI
  exact ((HI.out.setFar (by simp) _).setFar (by simp) _).base (by omega)

set_option maxHeartbeats 1000000 in
theorem cyclic_no (n : Int) (w : World) (hn : n < 1 ∨ 8 < n) :
    Calls Tryd.prog 7 #[.int .i64 n] w fun e w' => e = .returned (.tuple #[.agg #[.int .i64 0, .slice none 0 0], .int .i64 1]) ∧ Below w.heap.size w w' := by
  have hs : sideB n = false := by simp [sideB]; omega
  have Hs := Lib.hid (side_any n); rw [hs] at Hs; clear hs
  go_enter Tryd.func7, Tryd.ntmps7
  go_wp2_with fail
  refine (Hs.out _).mono ?_
  rintro e w1 ⟨rfl, rfl⟩
  go_wp2_with fail
  have hA := arr_sq (w.alloc (.cells #[.int .i64 n] 3)) (.int .i64 0) (.slice none 0 0) 26
  rw [World.size_alloc] at hA
  refine bodyPost_ret (results_arrT (p := 2) (u := 3) rfl hA Tryd.underlying26 rfl (by kernel_rfl) rfl) rfl ⟨rfl, belowTrans (below_box _ _) (below_box _ _)⟩

end Go.Proofs.YtdbfpdhcaiiiaaaDoor
