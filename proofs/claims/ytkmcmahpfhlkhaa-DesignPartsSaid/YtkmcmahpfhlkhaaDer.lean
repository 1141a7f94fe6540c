/-
  Contract: design.Derived. No condition.
-/
import Derived.Test.YtkmcmahpfhlkhaaRise
import Derived.Test.YtkmcmahpfhlkhaaDerOf
import Derived.Test.YtkmcmahpfhlkhaaResOf
namespace Go.Proofs.Ytkmcmahpfhlkhaa
open Go.RowKit

/-- A block without a point, the first numbers of it. -/
def derG (p : Nat) (b : List Int) : Nat → List Int
  | 0 => []
  | j + 1 => if ix b j < p then derG p b j ++ [ix b j] else if (p : Int) < ix b j then derG p b j ++ [ix b j - 1] else derG p b j
theorem derG_lo {p : Nat} {b : List Int} {j : Nat} (h : ix b j < p) : derG p b (j + 1) = derG p b j ++ [ix b j] := by rw [derG, if_pos h]
theorem derG_hi {p : Nat} {b : List Int} {j : Nat} (h : (p : Int) < ix b j) : derG p b (j + 1) = derG p b j ++ [ix b j - 1] := by rw [derG, if_neg (by omega), if_pos h]
theorem derG_eq {p : Nat} {b : List Int} {j : Nat} (h1 : ¬ ix b j < p) (h2 : ¬ (p : Int) < ix b j) : derG p b (j + 1) = derG p b j := by rw [derG, if_neg h1, if_neg h2]
theorem derG_len (p : Nat) (b : List Int) : ∀ j, (derG p b j).length ≤ j
  | 0 => Nat.le_refl _
  | j + 1 => by
    have := derG_len p b j
    rw [derG]
    split
    · rw [List.length_append, List.length_singleton]; omega
    · split
      · rw [List.length_append, List.length_singleton]; omega
      · omega
theorem derG_mem {p : Nat} {b : List Int} {y : Int} : ∀ {j : Nat}, y ∈ derG p b j ↔ ∃ i, i < j ∧ ((ix b i < p ∧ y = ix b i) ∨ ((p : Int) < ix b i ∧ y = ix b i - 1))
  | 0 => by simp [derG]
  | j + 1 => by
    have ih := derG_mem (p := p) (b := b) (y := y) (j := j)
    by_cases h1 : ix b j < p
    · rw [derG_lo h1, List.mem_append, ih, List.mem_singleton]
      constructor
      · rintro (⟨i, h, q⟩ | h)
        · exact ⟨i, by omega, q⟩
        · exact ⟨j, by omega, .inl ⟨h1, h⟩⟩
      · rintro ⟨i, h, q⟩
        by_cases e : i = j
        · subst e
          rcases q with ⟨_, q⟩ | ⟨q, _⟩
          · exact .inr q
          · omega
        · exact .inl ⟨i, by omega, q⟩
    · by_cases h2 : (p : Int) < ix b j
      · rw [derG_hi h2, List.mem_append, ih, List.mem_singleton]
        constructor
        · rintro (⟨i, h, q⟩ | h)
          · exact ⟨i, by omega, q⟩
          · exact ⟨j, by omega, .inr ⟨h2, h⟩⟩
        · rintro ⟨i, h, q⟩
          by_cases e : i = j
          · subst e
            rcases q with ⟨q, _⟩ | ⟨_, q⟩
            · omega
            · exact .inr q
          · exact .inl ⟨i, by omega, q⟩
      · rw [derG_eq h1 h2, ih]
        constructor
        · rintro ⟨i, h, q⟩; exact ⟨i, by omega, q⟩
        · rintro ⟨i, h, q⟩
          by_cases e : i = j
          · subst e
            rcases q with ⟨q, _⟩ | ⟨q, _⟩ <;> omega
          · exact ⟨i, by omega, q⟩
theorem derG_pair {p : Nat} {b : List Int} (hb : ∀ i j, i < j → j < b.length → ix b i < ix b j) : ∀ {j : Nat}, j ≤ b.length → (derG p b j).Pairwise (· < ·)
  | 0, _ => List.Pairwise.nil
  | j + 1, hj => by
    have ih := derG_pair (p := p) hb (j := j) (by omega)
    by_cases h1 : ix b j < p
    · rw [derG_lo h1]
      refine pair_snoc ih fun y hy => ?_
      obtain ⟨i, hi, q⟩ := derG_mem.1 hy
      have := hb i j hi (by omega)
      rcases q with ⟨_, q⟩ | ⟨_, q⟩ <;> omega
    · by_cases h2 : (p : Int) < ix b j
      · rw [derG_hi h2]
        refine pair_snoc ih fun y hy => ?_
        obtain ⟨i, hi, q⟩ := derG_mem.1 hy
        have := hb i j hi (by omega)
        rcases q with ⟨_, q⟩ | ⟨_, q⟩ <;> omega
      · rw [derG_eq h1 h2]; exact ih
theorem derG_pick {m p : Nat} {b : List Int} (h : IsBlock ((m : Int) + 1) b) (hp : p < m + 1) : derG p b b.length = pickL (shB b p) m := by
  refine rise_pick (derG_pair (fun i j hij hj => inc_lt h.inc hij hj) (Nat.le_refl _)) (fun x hx => ?_) (fun j hj => ?_)
  · obtain ⟨i, hi, q⟩ := derG_mem.1 hx
    have := h.rng i hi
    rcases q with ⟨_, q⟩ | ⟨_, q⟩ <;> omega
  · rw [derG_mem]
    by_cases hjp : j < p
    · rw [shB_lo hjp, mem_iff]
      constructor
      · intro hx
        obtain ⟨i, hi, e⟩ := ix_of_mem hx
        exact ⟨i, hi, .inl ⟨by omega, e.symm⟩⟩
      · rintro ⟨i, hi, q⟩
        rcases q with ⟨_, q⟩ | ⟨_, q⟩
        · rw [q]; exact ix_mem hi
        · omega
    · rw [shB_hi hjp, mem_iff]
      constructor
      · intro hx
        obtain ⟨i, hi, e⟩ := ix_of_mem hx
        exact ⟨i, hi, .inr ⟨by omega, by omega⟩⟩
      · rintro ⟨i, hi, q⟩
        rcases q with ⟨_, q⟩ | ⟨_, q⟩
        · omega
        · rw [q, Int.sub_add_cancel]; exact ix_mem hi
theorem der_law {m p : Nat} {xss : List (List Int)} (h : IsDes ((m : Int) + 1) xss) (hp : p < m + 1) : filtTo (hasP xss p) (fun i => derG p (rx xss i) (rx xss i).length) xss.length = derL m p xss :=
  filtTo_congr (fun _ _ => rfl) fun i hi _ => derG_pick (h.all i hi) hp

theorem des_ne {n : Int} {xss : List (List Int)} (h : desFault n xss ≠ 0) : (desFault n xss == 0) = false := by simpa using h

set_option maxRecDepth 100000 in
set_option maxHeartbeats 1000000 in
theorem der_bad (n p : Int) (v : Value) (xss : List (List Int)) (w : World) (h : RowsAt w v xss) (hf : desFault n xss ≠ 0) :
    Calls Try.prog 23 #[.agg #[.int .i64 n, v], .int .i64 p] w (DesPostT 0 [] (desFault n xss) w) := by
  have hne := des_ne hf
  have HC := Lib.hid (check_any n v xss _ (h.below (belowTrans (below_box w (.cells #[.int .i64 n, v] 24)) (below_box _ (.cells #[.int .i64 0, .slice none 0 0] 24)))))
  have HR := Lib.hid (arr_new w n v 24)
  clear h hf
  generalize desFault n xss = e0 at *
  go_enter Try.func23, Try.ntmps23
  go_wp2_with fail
  refine (HC.out).mono ?_
  rintro e w1 ⟨rfl, hb⟩
  have HR1 := Lib.hid (HR.out.below hb)
  have r0 := HR1.out.cell (show 0 < 2 by omega); have r1 := HR1.out.cell (show 1 < 2 by omega)
  have f0 := HR1.out.free (show 0 < 2 by omega); have f1 := HR1.out.free (show 1 < 2 by omega)
  have HD := Lib.hid (desT_late hb e0)
  have HA := Lib.hid ((HR1.out.set (show 0 < 2 by omega) (.int .i64 0)).set (show 1 < 2 by omega) (.slice none 0 0))
  clear hb
  go_wp2_with fail
  exact bodyPost_ret (results_pairT (p := 4) (u := 5) rfl HA.out Try.underlying24 rfl (by kernel_rfl) rfl) rfl HD.out

set_option maxRecDepth 100000 in
set_option maxHeartbeats 1000000 in
theorem der_range (n : Nat) (p : Int) (v : Value) (xss : List (List Int)) (w : World) (h : RowsAt w v xss) (hD : IsDes n xss) (hp : p < 0 ∨ (n : Int) ≤ p) :
    Calls Try.prog 23 #[.agg #[.int .i64 n, v], .int .i64 p] w (DesPostT 0 [] 1 w) := by
  have HC := Lib.hid (check_any n v xss _ (h.below (belowTrans (below_box w (.cells #[.int .i64 n, v] 24)) (below_box _ (.cells #[.int .i64 0, .slice none 0 0] 24)))))
  rw [hD.fault] at HC
  have HR := Lib.hid (arr_new w n v 24)
  have HB : Hid (Arr ((w.alloc (.cells #[.int .i64 (n : Int), v] 24)).alloc (.cells #[.int .i64 0, .slice none 0 0] 24)) w.heap.size 2 (fun j => if j = 0 then Value.int .i64 n else v)) := (pair_new _ _ _ _ _ rfl).alloc _
  clear h hD
  by_cases h0 : p < 0
  · have e1 : decide (p < 0) = true := by simpa using h0
    clear hp h0
    go_enter Try.func23, Try.ntmps23
    go_wp2_with fail
    refine (HC.out).mono ?_
    rintro e w1 ⟨rfl, hb⟩
    have HR1 := Lib.hid (HR.out.below hb)
    have r0 := HR1.out.cell (show 0 < 2 by omega); have r1 := HR1.out.cell (show 1 < 2 by omega)
    have f0 := HR1.out.free (show 0 < 2 by omega); have f1 := HR1.out.free (show 1 < 2 by omega)
    have HD := Lib.hid (desT_late hb 1)
    have HA := Lib.hid ((HR1.out.set (show 0 < 2 by omega) (.int .i64 0)).set (show 1 < 2 by omega) (.slice none 0 0))
    clear hb
    go_wp2_with fail
    exact bodyPost_ret (results_pairT (p := 4) (u := 5) rfl HA.out Try.underlying24 rfl (by kernel_rfl) rfl) rfl HD.out
  · have e1 : decide (p < 0) = false := by simpa using h0
    have e2 : decide ((n : Int) ≤ p) = true := by simp; omega
    clear hp h0
    go_enter Try.func23, Try.ntmps23
    go_wp2_with fail
    refine (HC.out).mono ?_
    rintro e w1 ⟨rfl, hb⟩
    have HR1 := Lib.hid (HR.out.below hb)
    have r0 := HR1.out.cell (show 0 < 2 by omega); have r1 := HR1.out.cell (show 1 < 2 by omega)
    have f0 := HR1.out.free (show 0 < 2 by omega); have f1 := HR1.out.free (show 1 < 2 by omega)
    have b0 := (HB.out.below hb).cell (show 0 < 2 by omega)
    have HD := Lib.hid (desT_late hb 1)
    have HA := Lib.hid ((HR1.out.set (show 0 < 2 by omega) (.int .i64 0)).set (show 1 < 2 by omega) (.slice none 0 0))
    clear hb
    go_wp2_with fail
    exact bodyPost_ret (results_pairT (p := 4) (u := 5) rfl HA.out Try.underlying24 rfl (by kernel_rfl) rfl) rfl HD.out
set_option maxRecDepth 100000 in
set_option maxHeartbeats 1000000 in
theorem der_one (v : Value) (xss : List (List Int)) (w : World) (h : RowsAt w v xss) (hD : IsDes 1 xss) :
    Calls Try.prog 23 #[.agg #[.int .i64 1, v], .int .i64 0] w (DesPostT 0 [] 2 w) := by
  have HC := Lib.hid (check_any 1 v xss _ (h.below (belowTrans (below_box w (.cells #[.int .i64 1, v] 24)) (below_box _ (.cells #[.int .i64 0, .slice none 0 0] 24)))))
  rw [hD.fault] at HC
  have HR := Lib.hid (arr_new w 1 v 24)
  have HB : Hid (Arr ((w.alloc (.cells #[.int .i64 1, v] 24)).alloc (.cells #[.int .i64 0, .slice none 0 0] 24)) w.heap.size 2 (fun j => if j = 0 then Value.int .i64 1 else v)) := (pair_new _ _ _ _ _ rfl).alloc _
  clear h hD
  go_enter Try.func23, Try.ntmps23
  go_wp2_with fail
  refine (HC.out).mono ?_
  rintro e w1 ⟨rfl, hb⟩
  have HR1 := Lib.hid (HR.out.below hb)
  have r0 := HR1.out.cell (show 0 < 2 by omega); have r1 := HR1.out.cell (show 1 < 2 by omega)
  have f0 := HR1.out.free (show 0 < 2 by omega); have f1 := HR1.out.free (show 1 < 2 by omega)
  have b0 := (HB.out.below hb).cell (show 0 < 2 by omega)
  have HD := Lib.hid (desT_late hb 2)
  have HA := Lib.hid ((HR1.out.set (show 0 < 2 by omega) (.int .i64 0)).set (show 1 < 2 by omega) (.slice none 0 0))
  clear hb
  go_wp2_with fail
  exact bodyPost_ret (results_pairT (p := 4) (u := 5) rfl HA.out Try.underlying24 rfl (by kernel_rfl) rfl) rfl HD.out
end Go.Proofs.Ytkmcmahpfhlkhaa
