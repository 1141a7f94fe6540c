/-
  Plain definitions that the walks speak of: lists of ints, Latin squares. No program in sight. No condition.
-/
import Derived.Test.YtimfggbfapbihaaLib
namespace Go.Proofs.Ytimfggbfapbihaa
open Go.RowKit

def mem (xs : List Int) (x : Int) : Bool := xs.contains x
theorem take_succ_ix {xs : List Int} {k : Nat} (h : k < xs.length) : xs.take (k + 1) = xs.take k ++ [ix xs k] := by
  rw [ix_lt h, List.take_succ_eq_append_getElem h]
theorem mem_snoc (xs : List Int) (y x : Int) : mem (xs ++ [y]) x = (mem xs x || y == x) := by
  unfold mem; rw [List.contains_eq_mem, List.contains_eq_mem]; simp only [List.mem_append, List.mem_singleton, Bool.decide_or, Bool.beq_eq_decide_eq]; congr 1; simp [eq_comm]
theorem mem_take {xs : List Int} {k : Nat} (x : Int) (h : k < xs.length) : mem (xs.take (k + 1)) x = (mem (xs.take k) x || ix xs k == x) := by
  rw [take_succ_ix h, mem_snoc]
theorem mem_of_hit {xs : List Int} {k : Nat} {x : Int} (h : k < xs.length) (e : (ix xs k == x) = true) : mem xs x = true := by
  unfold mem; rw [List.contains_eq_mem]; simp at e ⊢; rw [← e]; exact ix_mem h
theorem mem_iff (xs : List Int) (x : Int) : mem xs x = true ↔ x ∈ xs := by unfold mem; simp

/-- Does one of some numbers meet p? -/
def anyB (p : Int → Bool) (xs : List Int) : Bool := xs.any p
/-- The first place at which p is met; -1: none. -/
def findI (p : Int → Bool) (xs : List Int) : Int := if anyB p xs then (xs.findIdx p : Int) else -1
theorem any_take {p : Int → Bool} {xs : List Int} {k : Nat} (h : k < xs.length) : anyB p (xs.take (k + 1)) = (anyB p (xs.take k) || p (ix xs k)) := by
  unfold anyB; rw [take_succ_ix h, List.any_append]; simp
theorem any_of_hit {p : Int → Bool} {xs : List Int} {k : Nat} (h : k < xs.length) (e : p (ix xs k) = true) : anyB p xs = true := by
  unfold anyB; rw [List.any_eq_true]; exact ⟨_, ix_mem h, e⟩
theorem findI_hit {p : Int → Bool} {xs : List Int} {k : Nat} (h : k < xs.length) (hn : anyB p (xs.take k) = false) (e : p (ix xs k) = true) : findI p xs = k := by
  unfold findI
  rw [if_pos (any_of_hit h e)]
  congr 1
  refine (List.findIdx_eq h).2 ⟨by rw [← ix_lt h]; exact e, fun j hj => ?_⟩
  unfold anyB at hn
  rw [List.any_eq_false] at hn
  have := hn xs[j] (by rw [List.mem_take_iff_getElem]; exact ⟨j, by omega, rfl⟩)
  simpa using this
theorem findI_none {p : Int → Bool} {xs : List Int} (h : anyB p xs = false) : findI p xs = -1 := by unfold findI; rw [h]; rfl
theorem findI_pos (p : Int → Bool) (xs : List Int) : decide (0 ≤ findI p xs) = anyB p xs := by
  unfold findI
  cases anyB p xs <;> simp

def dv (i n : Nat) : Nat := i / n
def md (i n : Nat) : Nat := i % n
theorem wrap_dv {i n : Nat} (h : i ≤ 9223372036854775807) : wrap64 ((i : Int) / (n : Int)) = ((dv i n : Nat) : Int) := by
  rw [← Int.natCast_ediv]; unfold dv
  have : i / n ≤ i := Nat.div_le_self _ _
  generalize i / n = q at *
  exact IntWalk.wrap64_in _ ⟨by omega, by omega⟩

/-- Do places i and k of rows of n clash? -/
def clash (n : Nat) (xs : List Int) (i k : Nat) : Bool := ix xs i == ix xs k && (dv i n == dv k n || (i : Int) % n == (k : Int) % n)
def clashRow (n : Nat) (xs : List Int) (i : Nat) : Nat → Bool
  | 0 => false
  | m + 1 => clashRow n xs i m || clash n xs i m
def clashTo (n : Nat) (xs : List Int) : Nat → Bool
  | 0 => false
  | m + 1 => clashTo n xs m || clashRow n xs m m
def onceB (n : Nat) (xs : List Int) : Bool := !clashTo n xs xs.length

theorem clashRow_hit {n : Nat} {xs : List Int} {i k m : Nat} (h : k < m) (e : clash n xs i k = true) : clashRow n xs i m = true := by
  induction m with
  | zero => omega
  | succ m ih =>
    rw [clashRow]
    by_cases hk : k = m
    · subst hk; simp [e]
    · simp [ih (by omega)]
theorem clashTo_hit {n : Nat} {xs : List Int} {i m : Nat} (h : i < m) (e : clashRow n xs i i = true) : clashTo n xs m = true := by
  induction m with
  | zero => omega
  | succ m ih =>
    rw [clashTo]
    by_cases hk : i = m
    · subst hk; simp [e]
    · simp [ih (by omega)]
theorem once_hit2 {n : Nat} {xs : List Int} {i : Nat} (hi : i < xs.length) (e : clashRow n xs i i = true) : (!onceB n xs) = true := by
  rw [onceB, clashTo_hit hi e]; rfl
theorem once_hit {n : Nat} {xs : List Int} {i k : Nat} (h : k < i) (hi : i < xs.length) (e : clash n xs i k = true) : onceB n xs = false := by
  rw [onceB, clashTo_hit hi (clashRow_hit h e)]; rfl

theorem clash_way (n : Nat) (xs : List Int) (i k : Nat) :
    ((ix xs i == ix xs k) = false ∧ clash n xs i k = false) ∨
    ((ix xs i == ix xs k) = true ∧ ((dv i n : Int) == (dv k n : Int)) = true ∧ clash n xs i k = true) ∨
    ((ix xs i == ix xs k) = true ∧ ((dv i n : Int) == (dv k n : Int)) = false ∧ ((i : Int) % n == (k : Int) % n) = true ∧ clash n xs i k = true) ∨
    ((ix xs i == ix xs k) = true ∧ ((dv i n : Int) == (dv k n : Int)) = false ∧ ((i : Int) % n == (k : Int) % n) = false ∧ clash n xs i k = false) := by
  have e : ((dv i n : Int) == (dv k n : Int)) = (dv i n == dv k n) := by
    rw [Bool.eq_iff_iff]; simp only [beq_iff_eq]; omega
  unfold clash
  rw [e]
  cases (ix xs i == ix xs k) <;> cases (dv i n == dv k n) <;> cases ((i : Int) % n == (k : Int) % n) <;> simp

theorem wrap_sq {s : Int} (h1 : 1 ≤ s) (h2 : s ≤ 64) : wrap64 (s * s) = s * s := by
  obtain ⟨n, rfl⟩ := Int.eq_ofNat_of_zero_le (show 0 ≤ s by omega)
  have h3 : n * n ≤ 64 * 64 := Nat.mul_le_mul (by omega) (by omega)
  have : (n : Int) * (n : Int) = ((n * n : Nat) : Int) := by simp
  rw [this]
  generalize n * n = q at *
  exact IntWalk.wrap64_in _ ⟨by omega, by omega⟩

/-- Is one of the first m cells no number of this side? -/
def badTo (side : Int) (xs : List Int) : Nat → Bool
  | 0 => false
  | m + 1 => badTo side xs m || decide (ix xs m < 0 ∨ side ≤ ix xs m)
theorem bad_any (side : Int) (xs : List Int) : badTo side xs xs.length = xs.any (fun c => decide (c < 0 ∨ side ≤ c)) := by
  have : ∀ m, m ≤ xs.length → badTo side xs m = (xs.take m).any (fun c => decide (c < 0 ∨ side ≤ c)) := by
    intro m
    induction m with
    | zero => intro _; simp [badTo]
    | succ m ih => intro h; rw [badTo, ih (by omega), take_succ_ix (by omega), List.any_append]; simp
  rw [this _ (Nat.le_refl _), List.take_length]
theorem bad_hit {side : Int} {xs : List Int} {k m : Nat} (h : k < m) (e : ix xs k < 0 ∨ side ≤ ix xs k) : badTo side xs m = true := by
  induction m with
  | zero => omega
  | succ m ih =>
    rw [badTo]
    by_cases hk : k = m
    · subst hk; simp [e]
    · simp [ih (by omega)]

/-- Which places of a table of eight by eight are marked behind k cells: by rows, by columns. -/
def rowSeen (n : Nat) (xs : List Int) : Nat → Nat → Bool
  | 0, _ => false
  | k + 1, j => rowSeen n xs k j || dv k n * 8 + (ix xs k).toNat == j
def colSeen (n : Nat) (xs : List Int) : Nat → Nat → Bool
  | 0, _ => false
  | k + 1, j => colSeen n xs k j || md k n * 8 + (ix xs k).toNat == j

theorem seen_clash {n : Nat} {xs : List Int} (m : Nat) (hx : ∀ k, k < xs.length → 0 ≤ ix xs k ∧ ix xs k < 8) (hm : m < xs.length) :
    ∀ k, k ≤ m → (rowSeen n xs k (dv m n * 8 + (ix xs m).toNat) || colSeen n xs k (md m n * 8 + (ix xs m).toNat)) = clashRow n xs m k := by
  intro k
  induction k with
  | zero => intro _; rfl
  | succ k ih =>
    intro hk
    rw [clashRow, ← ih (by omega), rowSeen, colSeen]
    have e : (clash n xs m k) = ((dv k n * 8 + (ix xs k).toNat == dv m n * 8 + (ix xs m).toNat) || (md k n * 8 + (ix xs k).toNat == md m n * 8 + (ix xs m).toNat)) := by
      have h1 := hx k (by omega)
      have h2 := hx m hm
      have e3 : ((m : Int) % n == (k : Int) % n) = (md m n == md k n) := by
        rw [Bool.eq_iff_iff]; unfold md; simp only [beq_iff_eq]; omega
      unfold clash
      rw [e3]
      generalize dv k n = d1; generalize dv m n = d2; generalize md k n = q1; generalize md m n = q2
      generalize ix xs k = x1 at *; generalize ix xs m = x2 at *
      rw [Bool.eq_iff_iff]
      simp only [Bool.and_eq_true, Bool.or_eq_true, beq_iff_eq]
      omega
    rw [e]
    generalize rowSeen n xs k _ = r1; generalize colSeen n xs k _ = r2
    cases r1 <;> cases r2 <;> simp

/-- What is wrong with a square of this side and these cells. -/
def latinFault (side : Int) (xs : List Int) : Int :=
  if side < 1 ∨ 8 < side then 1 else if (xs.length : Int) ≠ side * side then 2
  else if xs.any (fun c => decide (c < 0 ∨ side ≤ c)) then 1 else if onceB side.toNat xs then 0 else 6

/-- What a square without fault is. -/
structure IsLatin (side : Int) (xs : List Int) : Prop where
  lo : 1 ≤ side
  hi : side ≤ 8
  len : (xs.length : Int) = side * side
  rng : ∀ k, k < xs.length → 0 ≤ ix xs k ∧ ix xs k < side
  one : onceB side.toNat xs = true
theorem latin_of {side : Int} {xs : List Int} (h : latinFault side xs = 0) : IsLatin side xs := by
  unfold latinFault at h
  split at h
  · exact absurd h (by decide)
  · split at h
    · exact absurd h (by decide)
    · split at h
      · exact absurd h (by decide)
      · split at h
        · rename_i h1 h2 h3 h4
          refine ⟨by omega, by omega, by simpa using h2, fun k hk => ?_, h4⟩
          have := List.any_eq_false.1 (Bool.eq_false_iff.2 h3) _ (ix_mem hk)
          simp at this
          omega
        · exact absurd h (by decide)
theorem IsLatin.fault {side : Int} {xs : List Int} (h : IsLatin side xs) : latinFault side xs = 0 := by
  unfold latinFault
  rw [if_neg (by have := h.lo; have := h.hi; omega), if_neg (by simpa using h.len), if_neg, if_pos h.one]
  simp only [List.any_eq_true, decide_eq_true_eq, not_exists, not_and]
  intro x hx
  obtain ⟨k, hk, rfl⟩ := List.getElem_of_mem hx
  have := h.rng k hk
  rw [ix_lt hk] at this
  omega

/-- Do two squares have one pair at two places? -/
def pair2 (xs ys : List Int) (i k : Nat) : Bool := ix xs i == ix xs k && ix ys i == ix ys k
def pairRow (xs ys : List Int) (i : Nat) : Nat → Bool
  | 0 => false
  | m + 1 => pairRow xs ys i m || pair2 xs ys i m
def pairTo (xs ys : List Int) : Nat → Bool
  | 0 => false
  | m + 1 => pairTo xs ys m || pairRow xs ys m m
def orthB (xs ys : List Int) : Bool := !pairTo xs ys xs.length
theorem pairRow_hit {xs ys : List Int} {i k m : Nat} (h : k < m) (e : pair2 xs ys i k = true) : pairRow xs ys i m = true := by
  induction m with
  | zero => omega
  | succ m ih =>
    rw [pairRow]
    by_cases hk : k = m
    · subst hk; simp [e]
    · simp [ih (by omega)]
theorem pairTo_hit {xs ys : List Int} {i m : Nat} (h : i < m) (e : pairRow xs ys i i = true) : pairTo xs ys m = true := by
  induction m with
  | zero => omega
  | succ m ih =>
    rw [pairTo]
    by_cases hk : i = m
    · subst hk; simp [e]
    · simp [ih (by omega)]
theorem orth_hit {xs ys : List Int} {i k : Nat} (h : k < i) (hi : i < xs.length) (e : pair2 xs ys i k = true) : orthB xs ys = false := by
  rw [orthB, pairTo_hit hi (pairRow_hit h e)]; rfl
theorem orth_hit2 {xs ys : List Int} {i : Nat} (hi : i < xs.length) (e : pairRow xs ys i i = true) : orthB xs ys = false := by
  rw [orthB, pairTo_hit hi e]; rfl
/-- The marks of pairs in a table of eight by eight. -/
def pairSeen (xs ys : List Int) : Nat → Nat → Bool
  | 0, _ => false
  | k + 1, j => pairSeen xs ys k j || (ix xs k).toNat * 8 + (ix ys k).toNat == j
theorem pairSeen_row {xs ys : List Int} (m : Nat) (hx : ∀ k, k ≤ m → 0 ≤ ix xs k ∧ ix xs k < 8) (hy : ∀ k, k ≤ m → 0 ≤ ix ys k ∧ ix ys k < 8) :
    ∀ k, k ≤ m → pairSeen xs ys k ((ix xs m).toNat * 8 + (ix ys m).toNat) = pairRow xs ys m k := by
  intro k
  induction k with
  | zero => intro _; rfl
  | succ k ih =>
    intro hk
    rw [pairRow, ← ih (by omega), pairSeen]
    have h1 := hx k (by omega)
    have h2 := hx m (by omega)
    have h3 := hy k (by omega)
    have h4 := hy m (by omega)
    congr 1
    unfold pair2
    generalize ix xs k = x1 at *; generalize ix xs m = x2 at *; generalize ix ys k = y1 at *; generalize ix ys m = y2 at *
    rw [Bool.eq_iff_iff]
    simp only [Bool.and_eq_true, beq_iff_eq]
    omega
theorem pair_way (xs ys : List Int) (i k : Nat) :
    ((ix xs i == ix xs k) = false ∧ pair2 xs ys i k = false) ∨
    ((ix xs i == ix xs k) = true ∧ (ix ys i == ix ys k) = true ∧ pair2 xs ys i k = true) ∨
    ((ix xs i == ix xs k) = true ∧ (ix ys i == ix ys k) = false ∧ pair2 xs ys i k = false) := by
  unfold pair2
  cases (ix xs i == ix xs k) <;> cases (ix ys i == ix ys k) <;> simp

/-- What is wrong with two squares together. -/
def orthFault (s : Int) (xs : List Int) (t : Int) (ys : List Int) : Int :=
  if latinFault s xs ≠ 0 then latinFault s xs else if latinFault t ys ≠ 0 then latinFault t ys else if s ≠ t then 2 else 0

end Go.Proofs.Ytimfggbfapbihaa
