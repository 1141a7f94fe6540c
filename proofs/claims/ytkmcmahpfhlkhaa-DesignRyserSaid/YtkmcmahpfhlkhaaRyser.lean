/-
  Plain law: where there are as many blocks as points, each two blocks meet alike (Ryser). No program in sight. No condition.
-/
import Derived.Test.YtkmcmahpfhlkhaaLevLaw
import Derived.Test.YtkmcmahpfhlkhaaFisher
namespace Go.Proofs.Ytkmcmahpfhlkhaa
open Go.RowKit

/-- In how many points two blocks meet. -/
def meetN (n : Nat) (xss : List (List Int)) (i q : Nat) : Int := sumL (List.range n) (fun y => ind (ptB xss i y) * ind (ptB xss q y))
theorem pt_sum {n k : Nat} {xss : List (List Int)} (hD : IsDes n xss) (hu : ∀ i, i < xss.length → (rx xss i).length = k) {i : Nat} (hi : i < xss.length) : sumL (List.range n) (fun y => ind (ptB xss i y)) = k := by
  have := block_count (hD.all i hi)
  rw [hu i hi] at this
  exact this
/-- What a design of level two has. -/
structure TwoD (n : Nat) (xss : List (List Int)) (k l r : Nat) : Prop where
  lev : Lev n xss 2 k l
  one : ∀ y, y < n → lamP xss [y] = r
  rk : (r : Int) * ((k : Int) - 1) = (l : Int) * ((n : Int) - 1)
  bk : (xss.length : Int) * k = (r : Int) * n
  lpos : 1 ≤ l
theorem Lev.two {n k l : Nat} {xss : List (List Int)} (h : Lev n xss 2 k l) (hk : 2 ≤ k) : ∃ r, TwoD n xss k l r := by
  obtain ⟨r, h1, e1⟩ := h.down (by omega)
  obtain ⟨b, h0, e0⟩ := h1.down (by omega)
  have hb := h0.none
  subst hb
  have e0' : (xss.length : Int) * k = (r : Int) * n := by
    have : (xss.length : Int) * ((k : Int) - (0 : Nat)) = (r : Int) * ((n : Int) - (0 : Nat)) := e0
    simpa using this
  have e1' : (r : Int) * ((k : Int) - 1) = (l : Int) * ((n : Int) - 1) := e1
  have hne := h.ne
  have hkn := h.kn
  refine ⟨r, h, fun y hy => h1.lev [y] (by simp) (fun x hx => by simp at hx; omega) rfl, e1', e0', ?_⟩
  refine Classical.byContradiction fun hl => ?_
  obtain rfl : l = 0 := by omega
  have hr : r ≠ 0 := by
    rintro rfl
    have : 0 < (xss.length : Int) * k := Int.mul_pos (by omega) (by omega)
    rw [e0'] at this; simp at this
  have : 0 < (r : Int) * ((k : Int) - 1) := Int.mul_pos (by omega) (by omega)
  rw [e1'] at this; simp at this
theorem meet_self {n k : Nat} {xss : List (List Int)} (hD : IsDes n xss) (hu : ∀ i, i < xss.length → (rx xss i).length = k) {q : Nat} (hq : q < xss.length) : meetN n xss q q = k := by
  unfold meetN
  rw [← pt_sum hD hu hq]
  exact sumL_congr fun y _ => ind_sq _
theorem lamP_one (xss : List (List Int)) (y : Nat) : ((lamP xss [y] : Nat) : Int) = sumL (List.range xss.length) (fun i => ind (ptB xss i y)) := by
  rw [lamP_sum]
  exact sumL_congr fun i _ => by show ind (ptB xss i y && true) = _; rw [Bool.and_true]
theorem meet_sum {n k l r : Nat} {xss : List (List Int)} (h : TwoD n xss k l r) {q : Nat} (hq : q < xss.length) : sumL (List.range xss.length) (fun i => meetN n xss i q) = (k : Int) * r := by
  unfold meetN
  rw [sumL_swap, ← pt_sum h.lev.des h.lev.uni hq, ← sumL_mulr]
  refine sumL_congr fun y hy => ?_
  rw [sumL_mulr, ← lamP_one, h.one y (List.mem_range.1 hy), Int.mul_comm]
theorem meet_sq {n k l r : Nat} {xss : List (List Int)} (h : TwoD n xss k l r) {q : Nat} (hq : q < xss.length) : sumL (List.range xss.length) (fun i => meetN n xss i q * meetN n xss i q) = (l : Int) * (k * k) + ((r : Int) - l) * k := by
  unfold meetN
  rw [sumL_congr fun i _ => sumL_sq _ _, sumL_swap]
  have hs := pt_sum h.lev.des h.lev.uni hq
  have e : ∀ y, y ∈ List.range n → sumL (List.range xss.length) (fun i => sumL (List.range n) (fun z => ind (ptB xss i y) * ind (ptB xss q y) * (ind (ptB xss i z) * ind (ptB xss q z)))) =
      (l : Int) * k * ind (ptB xss q y) + ((r : Int) - l) * ind (ptB xss q y) := by
    intro y hy
    rw [List.mem_range] at hy
    rw [sumL_swap]
    have e2 : ∀ z, z ∈ List.range n → sumL (List.range xss.length) (fun i => ind (ptB xss i y) * ind (ptB xss q y) * (ind (ptB xss i z) * ind (ptB xss q z))) =
        (l : Int) * ind (ptB xss q y) * ind (ptB xss q z) + ind (z == y) * (((r : Int) - l) * (ind (ptB xss q y) * ind (ptB xss q z))) := by
      intro z hz
      rw [List.mem_range] at hz
      have e3 : sumL (List.range xss.length) (fun i => ind (ptB xss i y) * ind (ptB xss q y) * (ind (ptB xss i z) * ind (ptB xss q z))) = (lamP xss [y, z] : Int) * (ind (ptB xss q y) * ind (ptB xss q z)) := by
        rw [lamP_pair, ← sumL_mulr]
        refine sumL_congr fun i _ => ?_
        generalize ind (ptB xss i y) = a; generalize ind (ptB xss q y) = b; generalize ind (ptB xss i z) = c; generalize ind (ptB xss q z) = d
        rw [Int.mul_assoc, Int.mul_assoc, ← Int.mul_assoc b, Int.mul_comm b c, Int.mul_assoc]
      rw [e3]
      by_cases ez : z = y
      · subst ez
        rw [lamP_same, h.one z hz, show (z == z) = true by simp, ind_true, Int.one_mul, Int.mul_assoc, Int.sub_mul]; omega
      · rw [h.lev.lev [y, z] (by simp; omega) (fun x hx => by simp at hx; omega) rfl, show (z == y) = false by simpa using ez, ind_false, Int.zero_mul, Int.mul_assoc]; omega
    rw [sumL_congr e2, sumL_add, sum_one (fun z => ((r : Int) - l) * (ind (ptB xss q y) * ind (ptB xss q z))) hy, sumL_mul, hs, ind_sq, Int.mul_assoc, Int.mul_comm (ind _) (k : Int), Int.mul_assoc]
  rw [sumL_congr e, sumL_add, sumL_mul, sumL_mul, hs, Int.mul_assoc]
/-- RYSER: each two blocks meet in l points. -/
theorem ryser {n k l r : Nat} {xss : List (List Int)} (h : TwoD n xss k l r) (hb : xss.length = n) {i q : Nat} (hi : i < xss.length) (hq : q < xss.length) (hiq : i ≠ q) : meetN n xss i q = l := by
  have hn : 0 < n := by omega
  have hrk : (r : Int) = k := by
    have e := h.bk
    rw [hb, Int.mul_comm] at e
    exact (Int.eq_of_mul_eq_mul_right (by omega) e).symm
  have hl : (l : Int) * ((n : Int) - 1) = (k : Int) * ((k : Int) - 1) := by rw [← h.rk, hrk]
  have e1 := meet_sum h hq
  have e2 := meet_sq h hq
  rw [hrk] at e1 e2
  have tot : sumL (List.range xss.length) (fun j => (meetN n xss j q - l) * (meetN n xss j q - l)) = ((k : Int) - l) * ((k : Int) - l) := by
    have : ∀ j, j ∈ List.range xss.length → (meetN n xss j q - l) * (meetN n xss j q - l) = meetN n xss j q * meetN n xss j q - (2 * l) * meetN n xss j q + (l : Int) * l := by
      intro j _
      generalize meetN n xss j q = a
      rw [Int.sub_mul, Int.mul_sub, Int.mul_sub, Int.mul_comm (l : Int) a, Int.mul_assoc 2, Int.mul_comm (l : Int) a]; omega
    rw [sumL_congr this, sumL_add, sumL_sub, sumL_mul, e1, e2, sumL_const, List.length_range, hb]
    have e3 : (l : Int) * l * n = (l : Int) * (k * ((k : Int) - 1)) + l * l := by
      rw [← hl, Int.mul_sub, Int.mul_sub, Int.mul_one, ← Int.mul_assoc]; omega
    rw [e3, Int.mul_sub (k : Int), Int.mul_one, Int.mul_sub (l : Int), Int.sub_mul, Int.sub_mul, Int.mul_sub, Int.mul_sub, Int.mul_assoc 2, Int.mul_comm (k : Int) (l : Int)]
    omega
  have htq : (meetN n xss q q - l) * (meetN n xss q q - l) = ((k : Int) - l) * ((k : Int) - l) := by rw [meet_self h.lev.des h.lev.uni hq]
  have rest : sumL (List.range xss.length) (fun j => (1 - ind (j == q)) * ((meetN n xss j q - l) * (meetN n xss j q - l))) = 0 := by
    have : ∀ j, j ∈ List.range xss.length → (1 - ind (j == q)) * ((meetN n xss j q - l) * (meetN n xss j q - l)) = (meetN n xss j q - l) * (meetN n xss j q - l) - ind (j == q) * ((meetN n xss j q - l) * (meetN n xss j q - l)) := by
      intro j _; rw [Int.sub_mul, Int.one_mul]
    rw [sumL_congr this, sumL_sub, sum_one (fun j => (meetN n xss j q - l) * (meetN n xss j q - l)) hq, tot, htq]; omega
  have hz := sumL_null (fun j _ => Int.mul_nonneg (by have := ind_le (j == q); omega) (mul_self_pos _)) rest i (List.mem_range.2 hi)
  rw [show (i == q) = false by simpa using hiq, ind_false] at hz
  have hz' : (meetN n xss i q - l) * (meetN n xss i q - l) = 0 := by
    have : (1 - 0) * ((meetN n xss i q - l) * (meetN n xss i q - l)) = 0 := hz
    rwa [Int.sub_zero, Int.one_mul] at this
  rcases Int.mul_eq_zero.1 hz' with e | e <;> omega
end Go.Proofs.Ytkmcmahpfhlkhaa
