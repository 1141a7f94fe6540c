/-
  Contracts: quasi.Left, quasi.Right, the reference's At. No condition.
-/
import Derived.Test.YtkmfhnjadpdkeaaDoorTable
import Derived.Test.YtkmfhnjadpdkeaaDoorLaw1
namespace Go.Proofs.YtkmfhnjadpdkeaaDoor
open Go.RowKit

set_option maxHeartbeats 400000 in
theorem at_any (side x y : Int) (v : Value) (xs : List Int) (w : World) (h : IntsAt w v xs) (hs : 1 ≤ side ∧ side ≤ 8) (hl : (xs.length : Int) = side * side) (hx : 0 ≤ x ∧ x < side) (hy : 0 ≤ y ∧ y < side) :
    Calls Tryd.prog 19 #[.agg #[.int .i64 side, v], .int .i64 x, .int .i64 y] w fun e w' => e = .returned (.int .i64 (ix xs (x.toNat * side.toNat + y.toNat))) ∧ Below w.heap.size w w' := by
  obtain ⟨n, rfl⟩ := Int.eq_ofNat_of_zero_le (show 0 ≤ side by omega)
  obtain ⟨i, rfl⟩ := Int.eq_ofNat_of_zero_le hx.1
  obtain ⟨j, rfl⟩ := Int.eq_ofNat_of_zero_le hy.1
  obtain ⟨a, c, rfl, h1, h2, _, h3⟩ := h
  have hlen : xs.length = n * n := by rw [← Int.natCast_mul] at hl; omega
  have hi : i * n + j < n * n := by
    have : (i + 1) * n ≤ n * n := Nat.mul_le_mul (by omega) (Nat.le_refl n)
    rw [Nat.add_mul] at this; omega
  obtain ⟨b, o, rfl, hb, hc⟩ := h3 (i * n + j) (by omega)
  have hcell := hc (i * n + j) (by omega)
  have hw : wrap64 ((i : Int) * (n : Int)) = ((i * n : Nat) : Int) := by
    have : i * n ≤ 8 * 8 := Nat.mul_le_mul (by omega) (by omega)
    rw [← Int.natCast_mul]
    generalize i * n = q at *
    exact IntWalk.wrap64_in _ ⟨by omega, by omega⟩
  have hlt : i * n + j < xs.length := by omega
  have hin : i * n ≤ 64 := Nat.mul_le_mul (show i ≤ 8 by omega) (show n ≤ 8 by omega)
  clear hc h3 hl hlen hi
  simp only [Int.toNat_natCast]
  generalize i * n = q at *
  go_enter Tryd.func19, Tryd.ntmps19
  go_wp2
  go_ret
  exact ⟨rfl, below_box _ _⟩

theorem tfill_at {n : Nat} {xs : List Int} (hn : n ≤ 8) {i j : Nat} (hi : i < n) (hj : j < n) : ∀ k, tfill n xs k (1 + i * 8 + j) = if i * n + j < k then ix xs (i * n + j) else 0
  | 0 => by rw [tfill, if_neg (by omega), if_neg (by omega)]
  | k + 1 => by
    rw [tfill, tfill_at hn hi hj k, Int.toNat_natCast]
    have hm : md k n < n := by unfold md; exact Nat.mod_lt _ (by omega)
    have hk : dv k n * n + md k n = k := by unfold dv md; rw [Nat.mul_comm]; exact Nat.div_add_mod k n
    by_cases e : 1 + i * 8 + j = 1 + dv k n * 8 + md k n
    · have e1 : i = dv k n := by omega
      have e2 : j = md k n := by omega
      rw [if_pos e, if_pos (by rw [e1, e2]; omega), e1, e2, hk]
    · have e2 : i * n + j ≠ k := by
        intro e3
        have h1 : dv k n = i := by rw [← e3]; exact place_div hj
        have h2 : md k n = j := by rw [← e3]; exact place_mod hj
        exact e (by rw [h1, h2])
      rw [if_neg e]
      by_cases e3 : i * n + j < k
      · rw [if_pos e3, if_pos (by omega)]
      · rw [if_neg e3, if_neg (by omega)]
theorem tab_cell {n : Nat} {xs : List Int} (h : IsLatin n xs) {i j : Nat} (hi : i < n) (hj : j < n) : tfill n xs xs.length (1 + i * 8 + j) = qat n xs i j := by
  rw [tfill_at (by have := h.hi; omega) hi hj, if_pos (by rw [h.lenN]; exact place_lt hi hj)]; rfl

/-- What two asked elements are, as the slice that is handed on. -/
theorem intsAt_two (w : World) (a b : Int) (t : TypeId) : IntsAt (w.alloc (.cells #[.int .i64 a, .int .i64 b] t)) (.slice (some ⟨w.heap.size, 0, none⟩) 2 2) [a, b] := by
  refine ⟨some ⟨w.heap.size, 0, none⟩, 2, rfl, Nat.le_refl _, by omega, (fun h => by cases h), fun i hi => ⟨w.heap.size, 0, rfl, by simp, fun j hj => ?_⟩⟩
  rw [World.cell?_alloc_new, Nat.zero_add]
  simp only [List.length_cons, List.length_nil] at hj
  rcases j with _ | _ | j
  · rfl
  · rfl
  · omega

theorem tabOf_ok {side : Int} {xs es : List Int} (h : elemFault side xs es = 0) : tabOf side xs es = .agg (rowOf 65 (tfill side xs xs.length)).toArray := by
  unfold tabOf tabVal; rw [if_pos h]
theorem run_store_tab {P : Program} (w : World) (t : TypeId) (c : Array Value) (f : Nat → Int) (n : Nat) (hc : c = Array.replicate n (.int .i64 0)) :
    ∃ W, (storeCells ⟨w.heap.size, 0, none⟩ (rowOf n f) 0).run P (w.alloc (.cells c t)) = .ok () W ∧ Nums W w.heap.size n f ∧ Below w.heap.size w W ∧ W.heap.size = w.heap.size + 1 := by
  obtain ⟨W, q1, q2, q3, q4, q5, q6⟩ := Nums.stores (P := P) (Arr.newOf w n c (.int .i64 0) t hc) f
  exact ⟨W, q1, q2, (below_box w _).trans (q6 _ (Nat.le_refl _)), by rw [q5]; simp⟩

/-- What is wrong with a square and two elements. -/
def solveFault (side : Int) (xs : List Int) (a b : Int) : Int := elemFault side xs [a, b]
theorem solve_ok {side : Int} {xs : List Int} {a b : Int} (h : solveFault side xs a b = 0) : IsLatin side xs ∧ 0 ≤ a ∧ a < side ∧ 0 ≤ b ∧ b < side := by
  unfold solveFault elemFault at h
  by_cases h1 : latinFault side xs ≠ 0
  · rw [if_pos h1] at h; exact absurd h h1
  · rw [if_neg h1] at h
    cases h2 : anyB (outB side) [a, b]
    · have := any_out h2
      have h3 := this 0 (by simp)
      have h4 := this 1 (by simp)
      simp [ix] at h3 h4
      exact ⟨latin_of (by simpa using h1), h3.1, h3.2, h4.1, h4.2⟩
    · rw [h2] at h; cases h

set_option maxHeartbeats 1000000 in
theorem left_no (side a b : Int) (v : Value) (xs : List Int) (w : World) (h : IntsAt w v xs) (hf : solveFault side xs a b ≠ 0) :
    Calls Tryd.prog 17 #[.agg #[.int .i64 side, v], .int .i64 a, .int .i64 b] w fun e w' => e = .returned (.tuple #[.int .i64 0, .int .i64 (solveFault side xs a b)]) ∧ Below w.heap.size w w' := by
  have HB1 := Lib.hid (below_box w (.cells #[.int .i64 side, v] 24))
  have HI := Lib.hid ((h.below HB1.out).below (below_box _ (.cells #[.int .i64 a, .int .i64 b] 3)))
  have hf1 : (elemFault side xs [a, b] != 0) = true := by simpa [solveFault] using hf
  have Hf : Hid (solveFault side xs a b = elemFault side xs [a, b]) := rfl
  clear h hf
  go_enter Tryd.func17, Tryd.ntmps17
  go_wp2_with fail
  refine (open_any side v _ xs [a, b] _ HI.out (by simpa using intsAt_two (w.alloc (.cells #[.int .i64 side, v] 24)) a b 3)).mono ?_
  rintro e w1 ⟨rfl, hb1⟩
  obtain ⟨W, q1, q2, q3, q4⟩ := run_store_tab (P := Tryd.prog) w1 58 Tryd.zeroCells58 (tabVal side xs [a, b]) 65 rfl
  unfold tabOf
  go_wp2_with fail
  go_ret2
  exact ⟨ret_tup2 rfl (by rw [Hf.out]; rfl), (belowTrans HB1.out (belowTrans (below_box _ _) hb1)).trans (q3.mono (by have := (belowTrans HB1.out (belowTrans (below_box _ _) hb1)).size; exact this))⟩

end Go.Proofs.YtkmfhnjadpdkeaaDoor
