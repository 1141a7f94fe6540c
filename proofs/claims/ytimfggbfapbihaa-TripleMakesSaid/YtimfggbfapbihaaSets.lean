/-
  Rising lists: the plain words; slices.ContainsFunc at a plain function. No condition.
-/
import Derived.Test.YtimfggbfapbihaaSlice
namespace Go.Proofs.Ytimfggbfapbihaa
open Go.RowKit

/-- Is one of the first k steps none upwards? -/
def notInc (l : List Int) : Nat → Bool
  | 0 => false
  | k + 1 => notInc l k || decide (ix l (k + 1) ≤ ix l k)
def incB (l : List Int) : Bool := !notInc l (l.length - 1)
theorem notInc_hit {l : List Int} {k m : Nat} (h : k < m) (e : ix l (k + 1) ≤ ix l k) : notInc l m = true := by
  induction m with
  | zero => omega
  | succ m ih =>
    rw [notInc]
    by_cases hk : k = m
    · subst hk; simp [e]
    · simp [ih (by omega)]
theorem notInc_step {l : List Int} : ∀ {m : Nat}, notInc l m = false → ∀ {k : Nat}, k < m → ix l k < ix l (k + 1)
  | 0, _, k, hk => by omega
  | m + 1, h, k, hk => by
    rw [notInc, Bool.or_eq_false_iff] at h
    by_cases e : k = m
    · subst e; have := h.2; simp at this; exact this
    · exact notInc_step h.1 (by omega)
theorem inc_lt {l : List Int} (h : incB l = true) {i j : Nat} (hij : i < j) (hj : j < l.length) : ix l i < ix l j := by
  unfold incB at h
  rw [Bool.not_eq_true'] at h
  induction j with
  | zero => omega
  | succ j ih =>
    have h1 := notInc_step h (k := j) (by omega)
    by_cases e : i = j
    · subst e; exact h1
    · have := ih (by omega) (by omega); omega
theorem inc_of {l : List Int} (h : ∀ i j, i < j → j < l.length → ix l i < ix l j) : incB l = true := by
  unfold incB
  rw [Bool.not_eq_true']
  have : ∀ m, m ≤ l.length - 1 → notInc l m = false := by
    intro m
    induction m with
    | zero => intro _; rfl
    | succ m ih =>
      intro hm
      rw [notInc, ih (by omega), Bool.false_or, decide_eq_false_iff_not]
      have := h m (m + 1) (by omega) (by omega)
      omega
  exact this _ (Nat.le_refl _)
def outV (v x : Int) : Bool := decide (x < 0 ∨ v ≤ x)
theorem outV_neg {n x : Int} (h : x < 0) : outV n x = true := by simp [outV, h]
theorem outV_pos {n x : Int} (h : ¬ x < 0) : outV n x = decide (n ≤ x) := by simp [outV, h]
theorem anyV {v : Int} {xs : List Int} (h : anyB (outV v) xs = false) : ∀ k, k < xs.length → 0 ≤ ix xs k ∧ ix xs k < v := by
  intro k hk
  unfold anyB at h
  rw [List.any_eq_false] at h
  have := h _ (ix_mem hk)
  simp [outV] at this
  omega
theorem anyV_of {v : Int} {xs : List Int} (h : ∀ k, k < xs.length → 0 ≤ ix xs k ∧ ix xs k < v) : anyB (outV v) xs = false := by
  unfold anyB
  rw [List.any_eq_false]
  intro x hx
  obtain ⟨i, hi, rfl⟩ := List.getElem_of_mem hx
  have := h i hi
  rw [ix_lt hi] at this
  simp [outV]; omega
/-- What is wrong with a set of numbers below v. -/
def setFault (v : Int) (xs : List Int) : Int := if v < 1 ∨ 60 < v then 1 else if anyB (outV v) xs then 1 else if incB xs then 0 else 2
structure IsSet (v : Int) (xs : List Int) : Prop where
  lo : 1 ≤ v
  hi : v ≤ 60
  rng : ∀ k, k < xs.length → 0 ≤ ix xs k ∧ ix xs k < v
  inc : incB xs = true
theorem set_of {v : Int} {xs : List Int} (h : setFault v xs = 0) : IsSet v xs := by
  unfold setFault at h
  by_cases h1 : v < 1 ∨ 60 < v
  · rw [if_pos h1] at h; cases h
  · rw [if_neg h1] at h
    cases h2 : anyB (outV v) xs
    · rw [h2] at h
      cases h3 : incB xs
      · rw [h3] at h; cases h
      · exact ⟨by omega, by omega, anyV h2, h3⟩
    · rw [h2] at h; cases h
theorem IsSet.fault {v : Int} {xs : List Int} (h : IsSet v xs) : setFault v xs = 0 := by
  have := h.lo; have := h.hi
  unfold setFault
  rw [if_neg (by omega), anyV_of h.rng, h.inc]; rfl
/-- A rising list of numbers below v is no longer than v. -/
theorem inc_len {v : Int} {xs : List Int} (hr : ∀ k, k < xs.length → 0 ≤ ix xs k ∧ ix xs k < v) (hi : incB xs = true) (hv : 0 ≤ v) : (xs.length : Int) ≤ v := by
  have key : ∀ k, k < xs.length → (k : Int) ≤ ix xs k := by
    intro k
    induction k with
    | zero => intro hk; exact (hr 0 hk).1
    | succ k ih =>
      intro hk
      have h1 := ih (by omega)
      have h2 := inc_lt hi (show k < k + 1 by omega) hk
      omega
  by_cases e : xs.length = 0
  · omega
  · have h1 := key (xs.length - 1) (by omega)
    have h2 := hr (xs.length - 1) (by omega)
    omega

end Go.Proofs.Ytimfggbfapbihaa
