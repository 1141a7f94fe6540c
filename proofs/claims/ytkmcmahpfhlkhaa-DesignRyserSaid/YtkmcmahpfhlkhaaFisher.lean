/-
  Plain law: there are as many blocks as points (Fisher). No program in sight. No condition.
-/
import Derived.Test.YtkmcmahpfhlkhaaLevLaw
namespace Go.Proofs.Ytkmcmahpfhlkhaa
open Go.RowKit

/-- FEWER EQUATIONS THAN UNKNOWNS have a solution that is not nought. -/
theorem solve : ∀ (m : Nat) (cols : List Nat) (A : Nat → Nat → Int), cols.Nodup → m < cols.length → ∃ x : Nat → Int, (∃ j, j ∈ cols ∧ x j ≠ 0) ∧ ∀ i, i < m → sumL cols (fun j => A i j * x j) = 0
  | 0, cols, A, _, h => by
    match cols, h with
    | c :: cols, _ => exact ⟨fun _ => 1, ⟨c, by simp, by show (1 : Int) ≠ 0; decide⟩, fun i hi => by omega⟩
  | m + 1, cols, A, hn, h => by
    by_cases hz : ∀ j, j ∈ cols → A m j = 0
    · obtain ⟨x, h1, h2⟩ := solve m cols A hn (by omega)
      refine ⟨x, h1, fun i hi => ?_⟩
      by_cases e : i = m
      · subst e
        rw [← sumL_zero cols]
        exact sumL_congr fun j hj => by rw [hz j hj, Int.zero_mul]
      · exact h2 i (by omega)
    · obtain ⟨p, hp, hA⟩ : ∃ p, p ∈ cols ∧ A m p ≠ 0 := Classical.byContradiction fun hno => hz fun j hj => Classical.byContradiction fun hj2 => hno ⟨j, hj, hj2⟩
      obtain ⟨l1, l2, rfl⟩ := List.append_of_mem hp
      have hn2 : (l1 ++ l2).Nodup ∧ p ∉ l1 ++ l2 := by
        rw [List.nodup_append] at hn ⊢
        obtain ⟨g1, g2, g3⟩ := hn
        rw [List.nodup_cons] at g2
        refine ⟨⟨g1, g2.2, fun a ha b hb => g3 a ha b (by simp [hb])⟩, fun hm => ?_⟩
        rcases List.mem_append.1 hm with hm | hm
        · exact g3 p hm p (by simp) rfl
        · exact g2.1 hm
      simp only [List.length_append, List.length_cons] at h
      obtain ⟨y, ⟨j0, hj0, hy0⟩, h2⟩ := solve m (l1 ++ l2) (fun i j => A m p * A i j - A i p * A m j) hn2.1 (by simp only [List.length_append]; omega)
      have hS : ∀ i, sumL (l1 ++ p :: l2) (fun j => A i j * (if j = p then -(sumL (l1 ++ l2) (fun j => A m j * y j)) else A m p * y j)) =
          A m p * sumL (l1 ++ l2) (fun j => A i j * y j) - A i p * sumL (l1 ++ l2) (fun j => A m j * y j) := by
        intro i
        have e1 : ∀ l : List Nat, (∀ j, j ∈ l → j ∈ l1 ++ l2) → sumL l (fun j => A i j * (if j = p then -(sumL (l1 ++ l2) (fun j => A m j * y j)) else A m p * y j)) = A m p * sumL l (fun j => A i j * y j) := by
          intro l hl
          rw [← sumL_mul]
          refine sumL_congr fun j hj => ?_
          rw [if_neg (fun e => hn2.2 (by rw [← e]; exact hl j hj)), ← Int.mul_assoc, Int.mul_comm (A i j), Int.mul_assoc]
        rw [sumL_append]
        show _ + (A i p * (if p = p then _ else _) + sumL l2 _) = _
        rw [e1 l1 (fun j hj => by simp [hj]), e1 l2 (fun j hj => by simp [hj]), if_pos rfl, sumL_append (fun j => A i j * y j), Int.mul_add, Int.mul_neg]
        omega
      refine ⟨fun j => if j = p then -(sumL (l1 ++ l2) (fun j => A m j * y j)) else A m p * y j, ⟨j0, ?_, ?_⟩, fun i hi => ?_⟩
      · rcases List.mem_append.1 hj0 with hj | hj
        · simp [hj]
        · simp [hj]
      · show (if j0 = p then _ else _) ≠ (0 : Int)
        rw [if_neg (fun e => hn2.2 (by rw [← e]; exact hj0))]
        exact Int.mul_ne_zero hA hy0
      · rw [hS i]
        by_cases e : i = m
        · subst e; omega
        · have := h2 i (by omega)
          have e2 : sumL (l1 ++ l2) (fun j => (A m p * A i j - A i p * A m j) * y j) = A m p * sumL (l1 ++ l2) (fun j => A i j * y j) - A i p * sumL (l1 ++ l2) (fun j => A m j * y j) := by
            rw [← sumL_mul, ← sumL_mul, ← sumL_sub]
            exact sumL_congr fun j _ => by rw [Int.sub_mul, Int.mul_assoc, Int.mul_assoc]
          rw [e2] at this; exact this

theorem mul_self_pos (a : Int) : 0 ≤ a * a := by
  rcases Int.le_total 0 a with h | h
  · exact Int.mul_nonneg h h
  · have := Int.mul_nonneg (a := -a) (b := -a) (by omega) (by omega)
    rwa [Int.neg_mul_neg] at this
theorem lamP_pair (xss : List (List Int)) (j q : Nat) : ((lamP xss [j, q] : Nat) : Int) = sumL (List.range xss.length) (fun i => ind (ptB xss i j) * ind (ptB xss i q)) := by
  rw [lamP_sum]
  refine sumL_congr fun i _ => ?_
  rw [← ind_and]
  show ind (ptB xss i j && (ptB xss i q && true)) = _
  rw [Bool.and_true]
theorem lamP_same (xss : List (List Int)) (j : Nat) : lamP xss [j, j] = lamP xss [j] := lamP_mem fun x => by simp
/-- A point lies in more blocks than two points. -/
theorem Lev.more {n k l : Nat} {xss : List (List Int)} (h : Lev n xss 2 k l) (hk : 2 ≤ k) (hkn : k < n) (hl : 1 ≤ l) {j : Nat} (hj : j < n) : l < lamP xss [j] := by
  have e := lev_down (t := 1) h.des h.uni h.lev (P := [j]) (by simp) (fun x hx => by simp at hx; omega) rfl
  refine Classical.byContradiction fun hno => ?_
  have h1 : (lamP xss [j] : Int) * ((k : Int) - 1) ≤ (l : Int) * ((k : Int) - 1) := Int.mul_le_mul_of_nonneg_right (by omega) (by omega)
  have h2 : (l : Int) * ((k : Int) - 1) < (l : Int) * ((n : Int) - 1) := Int.mul_lt_mul_of_pos_left (by omega) (by omega)
  have e' : (lamP xss [j] : Int) * ((k : Int) - 1) = (l : Int) * ((n : Int) - 1) := e
  omega
/-- FISHER. -/
theorem fisher {n k l : Nat} {xss : List (List Int)} (h : Lev n xss 2 k l) (hk : 2 ≤ k) (hkn : k < n) (hl : 1 ≤ l) : n ≤ xss.length := by
  refine Classical.byContradiction fun hno => ?_
  obtain ⟨x, ⟨j0, hj0, hx0⟩, hs⟩ := solve xss.length (List.range n) (fun i j => ind (ptB xss i j)) List.nodup_range (by rw [List.length_range]; omega)
  have e0 : sumL (List.range xss.length) (fun i => sumL (List.range n) (fun j => ind (ptB xss i j) * x j) * sumL (List.range n) (fun j => ind (ptB xss i j) * x j)) = 0 := by
    rw [← sumL_zero (List.range xss.length)]
    exact sumL_congr fun i hi => by rw [hs i (List.mem_range.1 hi)]; rfl
  have e1 : sumL (List.range xss.length) (fun i => sumL (List.range n) (fun j => ind (ptB xss i j) * x j) * sumL (List.range n) (fun j => ind (ptB xss i j) * x j)) =
      sumL (List.range n) (fun j => sumL (List.range n) (fun q => (lamP xss [j, q] : Int) * (x j * x q))) := by
    rw [sumL_congr fun i _ => sumL_sq _ _, sumL_swap]
    refine sumL_congr fun j _ => ?_
    rw [sumL_swap]
    refine sumL_congr fun q _ => ?_
    rw [lamP_pair, ← sumL_mulr]
    refine sumL_congr fun i _ => ?_
    rw [Int.mul_assoc, Int.mul_assoc, ← Int.mul_assoc (x j), Int.mul_comm (x j) (ind _), Int.mul_assoc]
  have e2 : sumL (List.range n) (fun j => sumL (List.range n) (fun q => (lamP xss [j, q] : Int) * (x j * x q))) =
      (l : Int) * (sumL (List.range n) x * sumL (List.range n) x) + sumL (List.range n) (fun j => ((lamP xss [j] : Int) - l) * (x j * x j)) := by
    rw [sumL_sq, ← sumL_mul, ← sumL_add]
    refine sumL_congr fun j hj => ?_
    rw [List.mem_range] at hj
    rw [← sumL_mul]
    have e3 : ∀ q, q ∈ List.range n → (lamP xss [j, q] : Int) * (x j * x q) = (l : Int) * (x j * x q) + ind (q == j) * (((lamP xss [j] : Int) - l) * (x j * x q)) := by
      intro q hq
      rw [List.mem_range] at hq
      by_cases e : q = j
      · subst e
        rw [lamP_same, show (q == q) = true by simp, ind_true, Int.one_mul, Int.sub_mul]; omega
      · rw [h.lev [j, q] (by simp; omega) (fun x hx => by simp at hx; omega) rfl, show (q == j) = false by simpa using e, ind_false, Int.zero_mul]; omega
    rw [sumL_congr e3, sumL_add, sum_one (fun q => ((lamP xss [j] : Int) - l) * (x j * x q)) hj]
  have p1 : 0 ≤ (l : Int) * (sumL (List.range n) x * sumL (List.range n) x) := Int.mul_nonneg (by omega) (mul_self_pos _)
  have p2 : ∀ j, j ∈ List.range n → 0 ≤ ((lamP xss [j] : Int) - l) * (x j * x j) := fun j hj => Int.mul_nonneg (by have := h.more hk hkn hl (List.mem_range.1 hj); omega) (mul_self_pos _)
  have p3 := sumL_nonneg p2
  have p4 := sumL_null p2 (by omega) j0 hj0
  have := h.more hk hkn hl (List.mem_range.1 hj0)
  rcases Int.mul_eq_zero.1 p4 with e | e
  · omega
  · rcases Int.mul_eq_zero.1 e with e | e
    · exact hx0 e
    · exact hx0 e
end Go.Proofs.Ytkmcmahpfhlkhaa
