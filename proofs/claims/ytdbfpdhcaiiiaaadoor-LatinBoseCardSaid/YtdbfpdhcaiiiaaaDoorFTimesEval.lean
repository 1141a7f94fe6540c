/-
  The product of the program and that of the reference are one, in all fields of few elements: reckoned. No program in sight. No condition.
-/
import Derived.Test.YtdbfpdhcaiiiaaaDoorFieldEval
import Derived.Test.YtdbfpdhcaiiiaaaDoorFRef6
namespace Go.Proofs.YtdbfpdhcaiiiaaaDoor
open Go.RowKit

/-- The product of two polynomials over lists. -/
def prL (p d : Nat) (xs ys : List Nat) : Nat → List Nat
  | 0 => List.replicate (2 * d) 0
  | i + 1 => (List.range (2 * d)).map fun j => if i ≤ j ∧ j < i + d then (gl (prL p d xs ys i) j + gl xs i * gl ys (j - i)) % p else gl (prL p d xs ys i) j
def timC (p : Nat) (low : List Nat) (a b : Nat) : Nat :=
  numL p ((divGo p low.length (2 * low.length - 1) low (prL p low.length (dg p a low.length) (dg p b low.length) low.length) low.length).take low.length)
theorem prL_len (p d : Nat) (xs ys : List Nat) : ∀ i, (prL p d xs ys i).length = 2 * d
  | 0 => by simp [prL]
  | i + 1 => by simp [prL]
theorem prL_get (p d : Nat) (xs ys : List Nat) (X Y : Nat → Nat) (hx : ∀ j, j < d → gl xs j = X j) (hy : ∀ j, j < d → gl ys j = Y j) : ∀ i, i ≤ d → ∀ j, j < 2 * d → gl (prL p d xs ys i) j = prF p d X Y i j
  | 0, _, j, hj => by
    show gl (List.replicate (2 * d) 0) j = 0
    unfold gl; rw [List.getD_eq_getElem?_getD]; simp [hj]
  | i + 1, hi, j, hj => by
    have ih := prL_get p d xs ys X Y hx hy i (by omega) j hj
    have e : gl (prL p d xs ys (i + 1)) j = if i ≤ j ∧ j < i + d then (gl (prL p d xs ys i) j + gl xs i * gl ys (j - i)) % p else gl (prL p d xs ys i) j := by
      rw [prL]
      show ((List.range (2 * d)).map _).getD j 0 = _
      rw [List.getD_eq_getElem?_getD]; simp [hj]
    rw [e, prF, ih]
    by_cases h : i ≤ j ∧ j < i + d
    · rw [if_pos h, if_pos h, hx i (by omega), hy (j - i) (by omega)]
    · rw [if_neg h, if_neg h]
theorem timesV_of (p : Nat) (low : List Nat) (a b : Nat) (hd : 1 ≤ low.length) : timesV p low.length (gl low) a b = timC p low a b := by
  unfold timC timesV
  have hlen := prL_len p low.length (dg p a low.length) (dg p b low.length) low.length
  have hdl := divGo_len p low.length (2 * low.length - 1) low (prL p low.length (dg p a low.length) (dg p b low.length) low.length) low.length
  rw [numL_eq, List.length_take, hdl, hlen, Nat.min_eq_left (by omega)]
  refine numF_congr fun j hj => ?_
  have h := divGo_get p low.length (2 * low.length - 1) low (prL p low.length (dg p a low.length) (dg p b low.length) low.length) (gl low) (prF p low.length (dF p a) (dF p b) low.length) (by omega) (by rw [hlen]; omega) (fun j _ => rfl)
    (fun j hj => prL_get p low.length _ _ _ _ (fun j hj => dg_get p _ _ _ hj) (fun j hj => dg_get p _ _ _ hj) _ (Nat.le_refl _) j (by rw [hlen] at hj; exact hj)) low.length (by omega) j (by rw [hlen]; omega)
  unfold timF
  rw [← h]
  unfold gl
  rw [List.getD_eq_getElem?_getD, List.getD_eq_getElem?_getD, List.getElem?_take_of_lt hj]
def mulTimes (p d : Nat) : Bool := (lows p d).all fun l => !irrC p d l || (List.range (p ^ d)).all fun a => (List.range (p ^ d)).all fun b => mulC p l a b == timC p l a b
theorem mt21 : mulTimes 2 1 = true := by decide +kernel
theorem mt31 : mulTimes 3 1 = true := by decide +kernel
theorem mt51 : mulTimes 5 1 = true := by decide +kernel
theorem mt71 : mulTimes 7 1 = true := by decide +kernel
theorem mt22 : mulTimes 2 2 = true := by decide +kernel
theorem mt23 : mulTimes 2 3 = true := by decide +kernel
theorem timesM_of {p d : Nat} {low : List Int} (hF : IsField p d low) (a b : Nat) : timesV p d (lF low) a b = timC p (lowN low) a b := by
  have := timesV_of p (lowN low) a b (by rw [lowN_len, hF.len]; exact hF.d1)
  rw [lowN_len, hF.len, ← lowN_get] at this
  exact this
theorem mt_of {p d : Nat} {low : List Int} (hF : IsField p d low) (h : mulTimes p d = true) {a b : Nat} (ha : a < p ^ d) (hb : b < p ^ d) : mulM p d low a b = timesV p d (lF low) a b := by
  have h1 := List.all_eq_true.1 h _ hF.mem
  rw [hF.irrC, Bool.not_true, Bool.false_or] at h1
  have h2 := List.all_eq_true.1 h1 a (List.mem_range.2 ha)
  have h3 := List.all_eq_true.1 h2 b (List.mem_range.2 hb)
  rw [mulM_of hF, timesM_of hF]
  simpa using h3
/-- Of at most eight elements. -/
theorem mul_times8 {p d : Nat} {low : List Int} (hF : IsField p d low) (h8 : p ^ d ≤ 8) {a b : Nat} (ha : a < p ^ d) (hb : b < p ^ d) : mulM p d low a b = timesV p d (lF low) a b := by
  rcases hF.cases with h | h
  · subst h
    have hp := hF.pr
    rw [Nat.pow_one] at h8
    unfold isPB at hp
    rw [List.contains_eq_mem, decide_eq_true_eq] at hp
    simp only [primesL, List.mem_cons, List.not_mem_nil, or_false] at hp
    have : p = 2 ∨ p = 3 ∨ p = 5 ∨ p = 7 := by omega
    rcases this with rfl | rfl | rfl | rfl
    · exact mt_of hF mt21 ha hb
    · exact mt_of hF mt31 ha hb
    · exact mt_of hF mt51 ha hb
    · exact mt_of hF mt71 ha hb
  · simp only [ordersL, List.mem_cons, Prod.mk.injEq, List.not_mem_nil, or_false] at h
    rcases h with h | h | h | h | h | h | h | h | h
    all_goals obtain ⟨rfl, rfl⟩ := h
    · exact mt_of hF mt22 ha hb
    · exact mt_of hF mt23 ha hb
    all_goals exact absurd h8 (by decide)
end Go.Proofs.YtdbfpdhcaiiiaaaDoor
