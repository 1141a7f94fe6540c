/-
  Contracts: latin.Conjugate where there is a fault, the reference's ConjugateOf. No condition.
-/
import Derived.Test.YtkmfhnjadpdkeaaDoorConj
namespace Go.Proofs.YtkmfhnjadpdkeaaDoor
open Go.RowKit

def ConjNo (e0 : Int) (w : World) (e : Ending) (w' : World) : Prop := e = .returned (.tuple #[.agg #[.int .i64 0, .slice none 0 0], .int .i64 e0]) ∧ Below w.heap.size w w'

set_option maxRecDepth 100000 in
set_option maxHeartbeats 1000000 in
theorem conj_fault (s k : Int) (v : Value) (xs : List Int) (w : World) (h : IntsAt w v xs) (hf : latinFault s xs ≠ 0) :
    Calls Tryd.prog 10 #[.agg #[.int .i64 s, v], .int .i64 k] w (ConjNo (latinFault s xs) w) := by
  have HB0 := Lib.hid (belowTrans (below_box w (.cells #[.int .i64 s, v] 24)) (below_box _ (.cells #[.int .i64 0, .slice none 0 0] 24)))
  have HI := Lib.hid (h.below HB0.out)
  obtain ⟨a, c, rfl, _, _, _, _⟩ := id h
  have e2 : (latinFault s xs != 0) = true := by simpa using hf
  clear h hf
  go_enter Tryd.func10, Tryd.ntmps10
  go_wp2_with fail
  refine (check_any s _ xs _ HI.out).mono ?_
  rintro e w1 ⟨rfl, hb1⟩
  have H1 := Lib.hid (belowTrans HB0.out hb1)
  have HR0 : Hid (Arr w1 (w.heap.size + 1) 2 (fun j => if j = 0 then .int .i64 0 else .slice none 0 0)) := by
    have := arr_sq (w.alloc (.cells #[.int .i64 s, .slice a xs.length c] 24)) (.int .i64 0) (.slice none 0 0) 24
    rw [World.size_alloc] at this
    exact this.below hb1
  have hz := hb1.size
  simp only [World.size_alloc] at hz
  have r0 := HR0.out.cell (show 0 < 2 by omega); have r1 := HR0.out.cell (show 1 < 2 by omega)
  have f0 := HR0.out.free (show 0 < 2 by omega); have f1 := HR0.out.free (show 1 < 2 by omega)
  clear hb1
  go_wp2_with fail
  refine bodyPost_ret (results_arrT (p := 4) (u := 5) rfl ((HR0.out.set (show 0 < 2 by omega) (.int .i64 0)).set (show 1 < 2 by omega) (.slice none 0 0)) Tryd.underlying24 rfl (by kernel_rfl) rfl) rfl ⟨rfl, (H1.out.setCell (Nat.le_succ _) _).setCell (Nat.le_succ _) _⟩

set_option maxRecDepth 100000 in
set_option maxHeartbeats 1000000 in
theorem conj_range (n : Nat) (k : Int) (v : Value) (xs : List Int) (w : World) (h : IntsAt w v xs) (hL : IsLatin n xs) (hk : k < 0 ∨ 5 < k) :
    Calls Tryd.prog 10 #[.agg #[.int .i64 n, v], .int .i64 k] w (ConjNo 1 w) := by
  have HB0 := Lib.hid (belowTrans (below_box w (.cells #[.int .i64 n, v] 24)) (below_box _ (.cells #[.int .i64 0, .slice none 0 0] 24)))
  have HI := Lib.hid (h.below HB0.out)
  obtain ⟨a, c, rfl, _, _, _, _⟩ := id h
  have HF := Lib.hid hL.fault
  have hkk : decide (k < 0) = true ∨ (decide (k < 0) = false ∧ decide (6 ≤ k) = true) := by
    rcases hk with h | h
    · exact .inl (by simpa using h)
    · exact .inr ⟨by simp; omega, by simp; omega⟩
  clear h hL hk
  rcases hkk with e1 | ⟨e1, e2⟩
  all_goals
    go_enter Tryd.func10, Tryd.ntmps10
    go_wp2_with fail
    refine (check_any n _ xs _ HI.out).mono ?_
    rw [HF.out]
    rintro e w1 ⟨rfl, hb1⟩
    have H1 := Lib.hid (belowTrans HB0.out hb1)
    have HR0 : Hid (Arr w1 (w.heap.size + 1) 2 (fun j => if j = 0 then .int .i64 0 else .slice none 0 0)) := by
      have := arr_sq (w.alloc (.cells #[.int .i64 n, .slice a xs.length c] 24)) (.int .i64 0) (.slice none 0 0) 24
      rw [World.size_alloc] at this
      exact this.below hb1
    have hz := hb1.size
    simp only [World.size_alloc] at hz
    have r0 := HR0.out.cell (show 0 < 2 by omega); have r1 := HR0.out.cell (show 1 < 2 by omega)
    have f0 := HR0.out.free (show 0 < 2 by omega); have f1 := HR0.out.free (show 1 < 2 by omega)
    clear hb1
    go_wp2_with fail
    refine bodyPost_ret (results_arrT (p := 4) (u := 5) rfl ((HR0.out.set (show 0 < 2 by omega) (.int .i64 0)).set (show 1 < 2 by omega) (.slice none 0 0)) Tryd.underlying24 rfl (by kernel_rfl) rfl) rfl ⟨rfl, (H1.out.setCell (Nat.le_succ _) _).setCell (Nat.le_succ _) _⟩
end Go.Proofs.YtkmfhnjadpdkeaaDoor
