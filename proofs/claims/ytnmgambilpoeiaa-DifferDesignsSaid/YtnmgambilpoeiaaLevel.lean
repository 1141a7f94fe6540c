/-
  Contract: design.Level: what is wrong, or not of one level. No condition.
-/
import Derived.Test.YtnmgambilpoeiaaRowsF
import Derived.Test.YtnmgambilpoeiaaChoose
namespace Go.Proofs.Ytnmgambilpoeiaa
open Go.RowKit Go.Shelf

/-- What Level hands back. -/
def LevPost (k l e : Int) (w : World) : Ending → World → Prop := fun d w' => d = .returned (.tuple #[.int .i64 k, .int .i64 l, .int .i64 e]) ∧ Below w.heap.size w w'
/-- The world behind Level's first statement. -/
def levW (n : Int) (v : Value) (w : World) : World := (((w.alloc (.cells #[.int .i64 n, v] 48)).alloc (.cells #[.int .i64 0] 3)).alloc (.cells #[.int .i64 0] 3)).alloc (.cells #[.int .i64 0] 24)
theorem levW_size (n : Int) (v : Value) (w : World) : (levW n v w).heap.size = w.heap.size + 4 := by simp [levW]
theorem levW_below (n : Int) (v : Value) (w : World) : Below w.heap.size w (levW n v w) :=
  ((((Below.refl _ w).alloc (Nat.le_refl _) _).alloc (by simp) _).alloc (by simp; omega) _).alloc (by simp; omega) _
/-- What Level has laid. -/
structure LevRel (n : Int) (v : Value) (w w1 : World) : Prop where
  bel : Below w.heap.size w w1
  z : w.heap.size + 4 ≤ w1.heap.size
  box : Arr w1 w.heap.size 2 (fun j => if j = 0 then Value.int .i64 n else v)
  k : Boxed w1 (w.heap.size + 1) 3 (.int .i64 0)
  l : Boxed w1 (w.heap.size + 1 + 1) 3 (.int .i64 0)
  e : Boxed w1 (w.heap.size + 1 + 1 + 1) 24 (.int .i64 0)
theorem levRel_new (n : Int) (v : Value) (w : World) : LevRel n v w (levW n v w) := by
  refine ⟨levW_below n v w, by rw [levW_size]; exact Nat.le_refl _, ?_, ?_, ?_, ?_⟩
  · exact (((pair_new w (.int .i64 n) v _ _ rfl).alloc _).alloc _).alloc _
  · have := (((Boxed.new (w.alloc (.cells #[.int .i64 n, v] 48)) 3 (.int .i64 0)).alloc (.cells #[.int .i64 0] 3)).alloc (.cells #[.int .i64 0] 24))
    rw [World.size_alloc] at this; exact this
  · have := ((Boxed.new ((w.alloc (.cells #[.int .i64 n, v] 48)).alloc (.cells #[.int .i64 0] 3)) 3 (.int .i64 0)).alloc (.cells #[.int .i64 0] 24))
    rw [World.size_alloc, World.size_alloc] at this; exact this
  · have := (Boxed.new (((w.alloc (.cells #[.int .i64 n, v] 48)).alloc (.cells #[.int .i64 0] 3)).alloc (.cells #[.int .i64 0] 3)) 24 (.int .i64 0))
    rw [World.size_alloc, World.size_alloc, World.size_alloc] at this; exact this
theorem LevRel.next {n : Int} {v : Value} {w w1 w2 : World} (h : LevRel n v w w1) (hb : Below w1.heap.size w1 w2) : LevRel n v w w2 :=
  ⟨belowTrans h.bel hb, Nat.le_trans h.z hb.size, h.box.below hb, boxed_below h.k hb, boxed_below h.l hb, boxed_below h.e hb⟩
/-- The stores of a result. -/
theorem LevRel.stores {n : Int} {v : Value} {w w1 : World} (h : LevRel n v w w1) (a b c : Int) :
    Below w.heap.size w (((w1.setCell ⟨w.heap.size + 1, 0, none⟩ (.int .i64 a)).setCell ⟨w.heap.size + 1 + 1, 0, none⟩ (.int .i64 b)).setCell ⟨w.heap.size + 1 + 1 + 1, 0, none⟩ (.int .i64 c)) :=
  ((h.bel.setCell (by show _ ≤ w.heap.size + 1; omega) _).setCell (by show _ ≤ w.heap.size + 1 + 1; omega) _).setCell (by show _ ≤ w.heap.size + 1 + 1 + 1; omega) _
theorem LevRel.cells {n : Int} {v : Value} {w w1 : World} (h : LevRel n v w w1) :
    (w1.cell? ⟨w.heap.size + 1, 0, none⟩ = some (.int .i64 0) ∧ w1.frozen? ⟨w.heap.size + 1, 0, none⟩ = false) ∧
    (w1.cell? ⟨w.heap.size + 1 + 1, 0, none⟩ = some (.int .i64 0) ∧ w1.frozen? ⟨w.heap.size + 1 + 1, 0, none⟩ = false) ∧
    (w1.cell? ⟨w.heap.size + 1 + 1 + 1, 0, none⟩ = some (.int .i64 0) ∧ w1.frozen? ⟨w.heap.size + 1 + 1 + 1, 0, none⟩ = false) :=
  ⟨⟨h.k.cell, h.k.frozen⟩, ⟨h.l.cell, h.l.frozen⟩, ⟨h.e.cell, h.e.frozen⟩⟩

set_option maxRecDepth 100000 in
set_option maxHeartbeats 1000000 in
theorem level_fault (n t : Int) (v : Value) (xss : List (List Int)) (w : World) (h : RowsAt w v xss) (hf : desFault n xss ≠ 0) :
    Calls Try.prog 30 #[.agg #[.int .i64 n, v], .int .i64 t] w (LevPost 0 0 (desFault n xss) w) := by
  have hne : (desFault n xss != 0) = true := by simpa using hf
  have HC := Lib.hid (check_any n v xss _ (h.below (levW_below n v w)))
  have HR := Lib.hid (levRel_new n v w)
  clear h hf
  generalize desFault n xss = e0 at *
  unfold levW at HC HR
  go_enter Try.func30, Try.ntmps30
  go_wp2_with fail
  refine (HC.out).mono ?_
  rintro e w1 ⟨rfl, hb⟩
  have HR1 := Lib.hid (HR.out.next hb)
  clear hb HC HR
  obtain ⟨⟨k1, k2⟩, ⟨l1, l2⟩, e1, e2⟩ := HR1.out.cells
  go_wp2_with fail
  refine bodyPost_ret (v := .tuple #[.int .i64 0, .int .i64 0, .int .i64 e0]) ?_ rfl ⟨rfl, HR1.out.stores 0 0 e0⟩
  simp [results, Try.results30, go_sem, k1, l1, e1]

set_option maxRecDepth 100000 in
set_option maxHeartbeats 1000000 in
theorem level_range (n t : Int) (v : Value) (xss : List (List Int)) (w : World) (h : RowsAt w v xss) (hf : desFault n xss = 0) (ht : t < 0 ∨ 4 < t ∨ n < t) :
    Calls Try.prog 30 #[.agg #[.int .i64 n, v], .int .i64 t] w (LevPost 0 0 1 w) := by
  have HC := Lib.hid (check_any n v xss _ (h.below (levW_below n v w)))
  rw [hf] at HC
  have HR := Lib.hid (levRel_new n v w)
  clear h hf
  unfold levW at HC HR
  by_cases h1 : t < 0
  · have d1 : decide (t < 0) = true := by simpa using h1
    go_enter Try.func30, Try.ntmps30
    go_wp2_with fail
    refine (HC.out).mono ?_
    rintro e w1 ⟨rfl, hb⟩
    have HR1 := Lib.hid (HR.out.next hb)
    clear hb HC HR
    obtain ⟨⟨k1, k2⟩, ⟨l1, l2⟩, e1, e2⟩ := HR1.out.cells
    go_wp2_with fail
    refine bodyPost_ret (v := .tuple #[.int .i64 0, .int .i64 0, .int .i64 1]) ?_ rfl ⟨rfl, HR1.out.stores 0 0 1⟩
    simp [results, Try.results30, go_sem, k1, l1, e1]
  · by_cases h2 : 4 < t
    · have d1 : decide (t < 0) = false := by simpa using h1
      have d2 : decide (4 < t) = true := by simpa using h2
      go_enter Try.func30, Try.ntmps30
      go_wp2_with fail
      refine (HC.out).mono ?_
      rintro e w1 ⟨rfl, hb⟩
      have HR1 := Lib.hid (HR.out.next hb)
      clear hb HC HR
      obtain ⟨⟨k1, k2⟩, ⟨l1, l2⟩, e1, e2⟩ := HR1.out.cells
      go_wp2_with fail
      refine bodyPost_ret (v := .tuple #[.int .i64 0, .int .i64 0, .int .i64 1]) ?_ rfl ⟨rfl, HR1.out.stores 0 0 1⟩
      simp [results, Try.results30, go_sem, k1, l1, e1]
    · have d1 : decide (t < 0) = false := by simpa using h1
      have d2 : decide (4 < t) = false := by simpa using h2
      have d3 : decide (n < t) = true := by simp; omega
      clear ht h1 h2
      go_enter Try.func30, Try.ntmps30
      go_wp2_with fail
      refine (HC.out).mono ?_
      rintro e w1 ⟨rfl, hb⟩
      have HR1 := Lib.hid (HR.out.next hb)
      clear hb HC HR
      obtain ⟨⟨k1, k2⟩, ⟨l1, l2⟩, e1, e2⟩ := HR1.out.cells
      have b0 := HR1.out.box.cell (show 0 < 2 by omega); have b1 := HR1.out.box.cell (show 1 < 2 by omega)
      go_wp2_with fail
      refine bodyPost_ret (v := .tuple #[.int .i64 0, .int .i64 0, .int .i64 1]) ?_ rfl ⟨rfl, HR1.out.stores 0 0 1⟩
      simp [results, Try.results30, go_sem, k1, l1, e1]

set_option maxRecDepth 100000 in
set_option maxHeartbeats 1000000 in
theorem level_none (n t : Int) (v : Value) (w : World) (h : RowsAt w v []) (hf : desFault n [] = 0) (ht : 0 ≤ t ∧ t ≤ 4 ∧ t ≤ n) :
    Calls Try.prog 30 #[.agg #[.int .i64 n, v], .int .i64 t] w (LevPost 0 0 4 w) := by
  have HC := Lib.hid (check_any n v [] _ (h.below (levW_below n v w)))
  rw [hf] at HC
  obtain ⟨a, c, V, rfl, h1, h2, _, h3⟩ := h
  have HR := Lib.hid (levRel_new n (.slice a 0 c) w)
  clear hf h3
  unfold levW at HC HR
  have d1 : decide (t < 0) = false := by simp; omega
  have d2 : decide (4 < t) = false := by simp; omega
  have d3 : decide (n < t) = false := by simp; omega
  clear ht
  simp only [List.length_nil] at HC
  go_enter Try.func30, Try.ntmps30
  go_wp2_with fail
  refine (HC.out).mono ?_
  rintro e w1 ⟨rfl, hb⟩
  have HR1 := Lib.hid (HR.out.next hb)
  clear hb HC HR
  obtain ⟨⟨k1, k2⟩, ⟨l1, l2⟩, e1, e2⟩ := HR1.out.cells
  have b0 := HR1.out.box.cell (show 0 < 2 by omega); have b1 := HR1.out.box.cell (show 1 < 2 by omega)
  go_wp2_with fail
  refine bodyPost_ret (v := .tuple #[.int .i64 0, .int .i64 0, .int .i64 4]) ?_ rfl ⟨rfl, HR1.out.stores 0 0 4⟩
  simp [results, Try.results30, go_sem, k1, l1, e1]
end Go.Proofs.Ytnmgambilpoeiaa
