/-
  Plain words on fields: digits, numbers, division of polynomials, sums and products. No program in sight. No condition.
-/
import Derived.Test.YtdbfpdhcaiiiaaaDoorPDifferMade7
namespace Go.Proofs.YtdbfpdhcaiiiaaaDoor
open Go.RowKit

/-- The primes up to the greatest order. -/
def primesL : List Int := [2, 3, 5, 7, 11, 13, 17, 19, 23, 29, 31, 37, 41, 43, 47, 53, 59, 61]
def isPB (p : Int) : Bool := primesL.contains p
theorem isPB_range {p : Int} (h : isPB p = true) : 2 ≤ p ∧ p ≤ 61 := by
  unfold isPB at h
  rw [List.contains_eq_mem, decide_eq_true_eq] at h
  simp only [primesL, List.mem_cons, List.not_mem_nil, or_false] at h
  omega
/-- The order of a field; 0: it may not be. -/
def ordQ (p d : Int) : Nat := if isPB p ∧ 1 ≤ d ∧ d ≤ 6 ∧ p.toNat ^ d.toNat ≤ 64 then p.toNat ^ d.toNat else 0
theorem pow_one_le {p : Nat} (h : 1 ≤ p) (k : Nat) : 1 ≤ p ^ k := Nat.one_le_pow _ _ (by omega)
theorem pow_up {p : Nat} (h : 2 ≤ p) {k : Nat} (hk : p ^ k ≤ 64) : k ≤ 6 := by
  refine Classical.byContradiction fun hc => ?_
  have h1 : 2 ^ 7 ≤ 2 ^ k := Nat.pow_le_pow_right (by omega) (by omega)
  have h2 : 2 ^ k ≤ p ^ k := Nat.pow_le_pow_left h k
  omega

theorem mul_val {q p : Nat} (h : q * p ≤ 1000000) : Value.int .i64 (wrap64 ((q : Int) * (p : Int))) = Value.int .i64 ((q * p : Nat) : Int) := by
  rw [← Int.natCast_mul, IntWalk.wrap64_in _ (by omega)]
/-- Digit j of a number. -/
def dF (p n j : Nat) : Nat := n / p ^ j % p
theorem dF_lt {p n j : Nat} (h : 1 ≤ p) : dF p n j < p := Nat.mod_lt _ (by omega)
theorem dF_zero {p n j i : Nat} (h : n / p ^ i = 0) (hj : i ≤ j) : dF p n j = 0 := by
  unfold dF
  obtain ⟨k, rfl⟩ := Nat.exists_eq_add_of_le hj
  rw [Nat.pow_add, ← Nat.div_div_eq_div_mul, h, Nat.zero_div, Nat.zero_mod]
/-- A polynomial of seven numbers. -/
def fV (f : Nat → Nat) : Value := .agg (rowOf 7 fun j => ((f j : Nat) : Int)).toArray
abbrev PolyAt (w : World) (b : Nat) (f : Nat → Nat) : Prop := Nums w b 7 fun j => ((f j : Nat) : Int)
theorem fV_congr {f g : Nat → Nat} (h : ∀ j, j < 7 → f j = g j) : fV f = fV g := by
  unfold fV; rw [rowOf_congr fun j hj => by rw [h j hj]]

/-- A number whose digits are told: what is there behind s of d digits, from the highest. -/
def numS (p d : Nat) (f : Nat → Nat) : Nat → Nat
  | 0 => 0
  | s + 1 => numS p d f s * p + f (d - 1 - s)
def numF (p d : Nat) (f : Nat → Nat) : Nat := numS p d f d
theorem numS_lt {p d : Nat} {f : Nat → Nat} (h : ∀ j, j < d → f j < p) : ∀ s, s ≤ d → numS p d f s + 1 ≤ p ^ s
  | 0, _ => by simp [numS]
  | s + 1, hs => by
    have h1 := numS_lt h s (by omega)
    have h2 := h (d - 1 - s) (by omega)
    rw [numS, Nat.pow_succ]
    have h3 : (numS p d f s + 1) * p ≤ p ^ s * p := Nat.mul_le_mul h1 (Nat.le_refl _)
    rw [Nat.add_mul, Nat.one_mul] at h3
    omega
theorem numF_lt {p d : Nat} {f : Nat → Nat} (h : ∀ j, j < d → f j < p) : numF p d f < p ^ d := by
  have := numS_lt h d (Nat.le_refl _); unfold numF; omega
theorem numS_congr {p d : Nat} {f g : Nat → Nat} (h : ∀ j, j < d → f j = g j) : ∀ s, s ≤ d → numS p d f s = numS p d g s
  | 0, _ => rfl
  | s + 1, hs => by rw [numS, numS, numS_congr h s (by omega), h _ (by omega)]
theorem numF_congr {p d : Nat} {f g : Nat → Nat} (h : ∀ j, j < d → f j = g j) : numF p d f = numF p d g := numS_congr h d (Nat.le_refl _)

/-- The sum of two elements. -/
def addV (p d a b : Nat) : Nat := numF p d fun j => (dF p a j + dF p b j) % p
theorem addV_lt {p d a b : Nat} (hp : 1 ≤ p) : addV p d a b < p ^ d := numF_lt fun _ _ => Nat.mod_lt _ (by omega)

/-- A polynomial times x. -/
def shF (p d : Nat) (low x : Nat → Nat) (j : Nat) : Nat := if j < d then ((if j = 0 then 0 else x (j - 1)) + (p - x (d - 1)) * low j) % p else 0
def shN (p d : Nat) (low x : Nat → Nat) : Nat → Nat → Nat
  | 0 => x
  | i + 1 => shF p d low (shN p d low x i)
/-- The product's digits behind i digits of the second. -/
def outF (p d : Nat) (low x y : Nat → Nat) : Nat → Nat → Nat
  | 0 => fun _ => 0
  | i + 1 => fun j => if j < d then (outF p d low x y i j + shN p d low x i j * y i) % p else 0
def mulV (p d : Nat) (low : Nat → Nat) (a b : Nat) : Nat := numF p d (outF p d low (dF p a) (dF p b) d)
theorem shN_lt {p d : Nat} {low x : Nat → Nat} (hp : 1 ≤ p) (hx : ∀ j, x j < p) : ∀ i j, shN p d low x i j < p
  | 0, j => hx j
  | i + 1, j => by
    rw [shN]; unfold shF
    split
    · exact Nat.mod_lt _ (by omega)
    · omega
theorem outF_lt {p d : Nat} {low x y : Nat → Nat} (hp : 1 ≤ p) : ∀ i j, outF p d low x y i j < p
  | 0, j => by show 0 < p; omega
  | i + 1, j => by
    rw [outF]
    dsimp only
    split
    · exact Nat.mod_lt _ (by omega)
    · omega
theorem mulV_lt {p d : Nat} {low : Nat → Nat} {a b : Nat} (hp : 1 ≤ p) : mulV p d low a b < p ^ d := numF_lt fun j _ => outF_lt hp d j

/-- One step of a division: the place t + n is taken out. -/
def redF (p n t : Nat) (d a : Nat → Nat) (j : Nat) : Nat :=
  if t ≤ j ∧ j < t + n then (a j + (p - a (t + n)) * d (j - t)) % p else if j = t + n then 0 else a j
/-- What is left behind s steps from the top. -/
def divF (p n k : Nat) (d a : Nat → Nat) : Nat → Nat → Nat
  | 0 => a
  | s + 1 => redF p n (k - s - n) d (divF p n k d a s)
theorem redF_lt {p n t : Nat} {d a : Nat → Nat} (hp : 1 ≤ p) (ha : ∀ j, a j < p) (j : Nat) : redF p n t d a j < p := by
  unfold redF
  split
  · exact Nat.mod_lt _ (by omega)
  · split
    · omega
    · exact ha j
theorem divF_lt {p n k : Nat} {d a : Nat → Nat} (hp : 1 ≤ p) (ha : ∀ j, a j < p) : ∀ s j, divF p n k d a s j < p
  | 0, j => ha j
  | s + 1, j => redF_lt hp (divF_lt hp ha s) j
/-- Does a polynomial of degree n (its digits below the highest) divide another of degree k? -/
def divB (p n k : Nat) (d a : Nat → Nat) : Bool := (List.range (k + 1)).all fun j => divF p n k d a (k + 1 - n) j == 0
/-- x to the power of k, and low. -/
def topF (k : Nat) (low : Nat → Nat) (j : Nat) : Nat := if j < k then low j else if j = k then 1 else 0
theorem topF_lt {p k : Nat} {low : Nat → Nat} (hp : 2 ≤ p) (h : ∀ j, j < k → low j < p) (j : Nat) : topF k low j < p := by
  unfold topF
  split
  · exact h j (by assumption)
  · split <;> omega
/-- Is there no divisor among the first m of degree n? -/
def noDiv (p n k : Nat) (a : Nat → Nat) (m : Nat) : Bool := (List.range m).all fun c => !divB p n k (dF p c) a
/-- Is there none of the degrees up to n? -/
def noDivs (p k : Nat) (a : Nat → Nat) (n : Nat) : Bool := (List.range n).all fun i => noDiv p (i + 1) k a (p ^ (i + 1))
/-- Is x to the power of k, and low, no product? -/
def irrB (p k : Nat) (low : Nat → Nat) : Bool := noDivs p k (topF k low) (k / 2)
theorem noDiv_succ (p n k : Nat) (a : Nat → Nat) (m : Nat) : noDiv p n k a (m + 1) = (noDiv p n k a m && !divB p n k (dF p m) a) := by
  unfold noDiv; rw [List.range_succ, List.all_append]; simp
theorem noDivs_succ (p k : Nat) (a : Nat → Nat) (n : Nat) : noDivs p k a (n + 1) = (noDivs p k a n && noDiv p (n + 1) k a (p ^ (n + 1))) := by
  unfold noDivs; rw [List.range_succ, List.all_append]; simp
theorem noDiv_hit {p n k : Nat} {a : Nat → Nat} {c m : Nat} (hc : c < m) (h : divB p n k (dF p c) a = true) : noDiv p n k a m = false := by
  unfold noDiv; rw [List.all_eq_false]; exact ⟨c, List.mem_range.2 hc, by simp [h]⟩
theorem noDivs_hit {p k : Nat} {a : Nat → Nat} {i n : Nat} (hi : i < n) (h : noDiv p (i + 1) k a (p ^ (i + 1)) = false) : noDivs p k a n = false := by
  unfold noDivs; rw [List.all_eq_false]; exact ⟨i, List.mem_range.2 hi, by simp [h]⟩

/-- The number's digits as they stand in a list. -/
def lF (low : List Int) (j : Nat) : Nat := (ix low j).toNat
/-- Is a number none of this prime's? -/
def outP (p : Int) (x : Int) : Bool := decide (x < 0 ∨ p ≤ x)
/-- What is wrong with a field. -/
def fieldFault (p d : Int) (low : List Int) : Int :=
  if ordQ p d = 0 then 1 else if (low.length : Int) ≠ d then 2 else if low.any (outP p) then 1 else if irrB p.toNat d.toNat (lF low) then 0 else 4

/-- What a field without fault is. -/
structure IsField (p d : Nat) (low : List Int) : Prop where
  pr : isPB p = true
  d1 : 1 ≤ d
  d6 : d ≤ 6
  q64 : p ^ d ≤ 64
  len : low.length = d
  rng : ∀ k, k < d → 0 ≤ ix low k ∧ ix low k < p
  irr : irrB p d (lF low) = true
theorem IsField.p2 {p d : Nat} {low : List Int} (h : IsField p d low) : 2 ≤ p := by have := (isPB_range h.pr).1; omega
theorem IsField.p61 {p d : Nat} {low : List Int} (h : IsField p d low) : p ≤ 61 := by have := (isPB_range h.pr).2; omega
theorem IsField.q {p d : Nat} {low : List Int} (h : IsField p d low) : ordQ p d = p ^ d := by
  unfold ordQ
  rw [if_pos ⟨h.pr, by have := h.d1; omega, by have := h.d6; omega, by simpa using h.q64⟩]; simp
theorem IsField.lowLt {p d : Nat} {low : List Int} (h : IsField p d low) (j : Nat) : lF low j < p := by
  unfold lF
  by_cases hj : j < d
  · have := h.rng j hj; omega
  · have : ix low j = 0 := by unfold ix; rw [List.getD_eq_getElem?_getD, List.getElem?_eq_none (by rw [h.len]; omega)]; rfl
    have := h.p2
    rw [‹ix low j = 0›]; simp; omega
theorem IsField.lowCast {p d : Nat} {low : List Int} (h : IsField p d low) {j : Nat} (hj : j < d) : ix low j = ((lF low j : Nat) : Int) := by
  have := h.rng j hj; unfold lF; omega
theorem ordQ_of {p d : Int} (h : ordQ p d ≠ 0) : isPB p = true ∧ 1 ≤ d ∧ d ≤ 6 ∧ p.toNat ^ d.toNat ≤ 64 ∧ ordQ p d = p.toNat ^ d.toNat := by
  unfold ordQ at h ⊢
  split at h
  · rename_i h1; exact ⟨h1.1, h1.2.1, h1.2.2.1, h1.2.2.2, by rw [if_pos h1]⟩
  · exact absurd rfl h
theorem field_of {p d : Int} {low : List Int} (h : fieldFault p d low = 0) : IsField p.toNat d.toNat low ∧ 0 ≤ p ∧ 0 ≤ d := by
  unfold fieldFault at h
  split at h
  · exact absurd h (by decide)
  · rename_i h1
    obtain ⟨a1, a2, a3, a4, a5⟩ := ordQ_of h1
    have hp := isPB_range a1
    split at h
    · exact absurd h (by decide)
    · rename_i h2
      split at h
      · exact absurd h (by decide)
      · rename_i h3
        split at h
        · rename_i h4
          refine ⟨⟨by rw [Int.toNat_of_nonneg (by omega)]; exact a1, by omega, by omega, a4, by omega, fun k hk => ?_, h4⟩, by omega, by omega⟩
          have := List.any_eq_false.1 (Bool.eq_false_iff.2 h3) _ (ix_mem (i := k) (show k < low.length by omega))
          unfold outP at this
          simp at this
          omega
        · exact absurd h (by decide)
theorem fault_of {p d : Nat} {low : List Int} (h : IsField p d low) : fieldFault p d low = 0 := by
  unfold fieldFault
  have hq := h.q
  have : 1 ≤ p ^ d := pow_one_le (by have := h.p2; omega) d
  rw [if_neg (by omega), if_neg (by have := h.len; omega), if_neg, if_pos (by simpa using h.irr)]
  simp only [List.any_eq_true, not_exists, not_and]
  intro x hx
  obtain ⟨k, hk, rfl⟩ := List.getElem_of_mem hx
  have := h.rng k (by rw [← h.len]; exact hk)
  rw [ix_lt hk] at this
  unfold outP; simp; omega
end Go.Proofs.YtdbfpdhcaiiiaaaDoor
