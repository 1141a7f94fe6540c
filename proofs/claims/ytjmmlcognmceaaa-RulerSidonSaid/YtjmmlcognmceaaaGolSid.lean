/-
  Plain law: a ruler's sums are unlike just if its differences are. No program in sight. No condition.
-/
import Derived.Test.YtjmmlcognmceaaaSidon
namespace Go.Proofs.Ytjmmlcognmceaaa
open Go.RowKit

theorem in_dRow {l : List Int} {i : Nat} {acc : List Int} {x : Int} : ∀ {j : Nat}, mem (dRow l i acc j) x = true ↔ mem acc x = true ∨ ∃ j', j' < j ∧ x = ix l i - ix l j'
  | 0 => by simp [dRow]
  | j + 1 => by
    rw [dRow, mem_snoc, Bool.or_eq_true, in_dRow (j := j), beq_iff_eq]
    constructor
    · rintro ((h | ⟨j', hj, e⟩) | h)
      · exact .inl h
      · exact .inr ⟨j', by omega, e⟩
      · exact .inr ⟨j, by omega, h.symm⟩
    · rintro (h | ⟨j', hj, e⟩)
      · exact .inl (.inl h)
      · by_cases e2 : j' = j
        · subst e2; exact .inr e.symm
        · exact .inl (.inr ⟨j', by omega, e⟩)
theorem in_dAll {l : List Int} {x : Int} : ∀ {m : Nat}, mem (dAll l m) x = true ↔ ∃ i j, i < m ∧ j < i ∧ x = ix l i - ix l j
  | 0 => by simp [dAll, mem]
  | m + 1 => by
    rw [dAll, in_dRow, in_dAll (m := m)]
    constructor
    · rintro (⟨i, j, hi, hj, e⟩ | ⟨j, hj, e⟩)
      · exact ⟨i, j, by omega, hj, e⟩
      · exact ⟨m, j, by omega, hj, e⟩
    · rintro ⟨i, j, hi, hj, e⟩
      by_cases e2 : i = m
      · subst e2; exact .inr ⟨j, hj, e⟩
      · exact .inl ⟨i, j, by omega, hj, e⟩
theorem gol_iff {l : List Int} : golB l = true ↔ ∀ i j i' j', j < i → i < l.length → j' < i' → i' < l.length → ix l i - ix l j = ix l i' - ix l j' → i = i' ∧ j = j' := by
  constructor
  · intro h
    have key : ∀ i j i' j', j < i → i < l.length → j' < i' → (i' < i ∨ (i' = i ∧ j' < j)) → ix l i - ix l j = ix l i' - ix l j' → False := by
      intro i j i' j' hj hi hj' ho e
      have : mem (dRow l i (dAll l i) j) (ix l i - ix l j) = true := by
        rw [in_dRow, in_dAll]
        rcases ho with ho | ⟨rfl, ho⟩
        · exact .inl ⟨i', j', ho, hj', e⟩
        · exact .inr ⟨j', ho, e⟩
      rw [gol_hit hj hi this] at h; cases h
    intro i j i' j' hj hi hj' hi' e
    by_cases h1 : i' < i ∨ (i' = i ∧ j' < j)
    · exact (key i j i' j' hj hi hj' h1 e).elim
    · by_cases h2 : i < i' ∨ (i = i' ∧ j < j')
      · exact (key i' j' i j hj' hi' hj h2 e.symm).elim
      · omega
  · intro h
    have row : ∀ i, i ≤ l.length → nodB (dAll l i) = true := by
      intro i
      induction i with
      | zero => intro _; rfl
      | succ i ih =>
        intro hi
        have : ∀ j, j ≤ i → nodB (dRow l i (dAll l i) j) = true := by
          intro j
          induction j with
          | zero => intro _; exact ih (by omega)
          | succ j ihj =>
            intro hj
            rw [dRow, nodB_snoc, ihj (by omega)]
            cases em : mem (dRow l i (dAll l i) j) (ix l i - ix l j)
            · rfl
            · rw [in_dRow, in_dAll] at em
              rcases em with ⟨i', j', a, b, e⟩ | ⟨j', a, e⟩
              · have := h i j i' j' (by omega) (by omega) b (by omega) e; omega
              · have := h i j i j' (by omega) (by omega) (by omega) (by omega) e; omega
        exact this i (Nat.le_refl _)
    exact row _ (Nat.le_refl _)

theorem in_sRow {l : List Int} {v : Int} {i : Nat} {acc : List Int} {x : Int} : ∀ {j : Nat}, mem (sRow l v i acc j) x = true ↔ mem acc x = true ∨ ∃ j', j' < j ∧ x = (ix l i + ix l j') % v
  | 0 => by simp [sRow]
  | j + 1 => by
    rw [sRow, mem_snoc, Bool.or_eq_true, in_sRow (j := j), beq_iff_eq]
    constructor
    · rintro ((h | ⟨j', hj, e⟩) | h)
      · exact .inl h
      · exact .inr ⟨j', by omega, e⟩
      · exact .inr ⟨j, by omega, h.symm⟩
    · rintro (h | ⟨j', hj, e⟩)
      · exact .inl (.inl h)
      · by_cases e2 : j' = j
        · subst e2; exact .inr e.symm
        · exact .inl (.inr ⟨j', by omega, e⟩)
theorem in_sAll {l : List Int} {v : Int} {x : Int} : ∀ {m : Nat}, mem (sAll l v m) x = true ↔ ∃ i j, i < m ∧ j ≤ i ∧ x = (ix l i + ix l j) % v
  | 0 => by simp [sAll, mem]
  | m + 1 => by
    rw [sAll, in_sRow, in_sAll (m := m)]
    constructor
    · rintro (⟨i, j, hi, hj, e⟩ | ⟨j, hj, e⟩)
      · exact ⟨i, j, by omega, hj, e⟩
      · exact ⟨m, j, by omega, by omega, e⟩
    · rintro ⟨i, j, hi, hj, e⟩
      by_cases e2 : i = m
      · subst e2; exact .inr ⟨j, by omega, e⟩
      · exact .inl ⟨i, j, by omega, hj, e⟩
theorem sid_iff {l : List Int} {v : Int} : sidB l v = true ↔ ∀ i j i' j', j ≤ i → i < l.length → j' ≤ i' → i' < l.length → (ix l i + ix l j) % v = (ix l i' + ix l j') % v → i = i' ∧ j = j' := by
  constructor
  · intro h
    have key : ∀ i j i' j', j ≤ i → i < l.length → j' ≤ i' → (i' < i ∨ (i' = i ∧ j' < j)) → (ix l i + ix l j) % v = (ix l i' + ix l j') % v → False := by
      intro i j i' j' hj hi hj' ho e
      have : mem (sRow l v i (sAll l v i) j) ((ix l i + ix l j) % v) = true := by
        rw [in_sRow, in_sAll]
        rcases ho with ho | ⟨rfl, ho⟩
        · exact .inl ⟨i', j', ho, hj', e⟩
        · exact .inr ⟨j', ho, e⟩
      rw [sid_hit hj hi this] at h; cases h
    intro i j i' j' hj hi hj' hi' e
    by_cases h1 : i' < i ∨ (i' = i ∧ j' < j)
    · exact (key i j i' j' hj hi hj' h1 e).elim
    · by_cases h2 : i < i' ∨ (i = i' ∧ j < j')
      · exact (key i' j' i j hj' hi' hj h2 e.symm).elim
      · omega
  · intro h
    have row : ∀ i, i ≤ l.length → nodB (sAll l v i) = true := by
      intro i
      induction i with
      | zero => intro _; rfl
      | succ i ih =>
        intro hi
        have : ∀ j, j ≤ i + 1 → nodB (sRow l v i (sAll l v i) j) = true := by
          intro j
          induction j with
          | zero => intro _; exact ih (by omega)
          | succ j ihj =>
            intro hj
            rw [sRow, nodB_snoc, ihj (by omega)]
            cases em : mem (sRow l v i (sAll l v i) j) ((ix l i + ix l j) % v)
            · rfl
            · rw [in_sRow, in_sAll] at em
              rcases em with ⟨i', j', a, b, e⟩ | ⟨j', a, e⟩
              · have := h i j i' j' (by omega) (by omega) b (by omega) e; omega
              · have := h i j i j' (by omega) (by omega) (by omega) (by omega) e; omega
        exact this (i + 1) (Nat.le_refl _)
    exact row _ (Nat.le_refl _)
theorem inc_inj {l : List Int} (h : incB l = true) {i j : Nat} (hi : i < l.length) (hj : j < l.length) (e : ix l i = ix l j) : i = j := by
  rcases Nat.lt_trichotomy i j with h1 | h1 | h1
  · have := inc_lt h h1 hj; omega
  · exact h1
  · have := inc_lt h h1 hi; omega
theorem inc_le {l : List Int} (h : incB l = true) {i j : Nat} (hij : i ≤ j) (hj : j < l.length) : ix l i ≤ ix l j := by
  by_cases e : i = j
  · subst e; omega
  · have := inc_lt h (show i < j by omega) hj; omega
theorem gol_sid {l : List Int} (hM : IsMarks l) {v : Int} (hv : 0 < l.length → 2 * ix l (l.length - 1) < v) : sidB l v = golB l := by
  have small : ∀ i j, i < l.length → j < l.length → (ix l i + ix l j) % v = ix l i + ix l j := by
    intro i j hi hj
    have a := (hM.upto i hi).1; have b := (hM.upto j hj).1
    have c := inc_le hM.inc (show i ≤ l.length - 1 by omega) (by omega)
    have d := inc_le hM.inc (show j ≤ l.length - 1 by omega) (by omega)
    have e := hv (by omega)
    exact Int.emod_eq_of_lt (by omega) (by omega)
  rw [Bool.eq_iff_iff, sid_iff, gol_iff]
  constructor
  · intro h i j i' j' hj hi hj' hi' e
    have e2 : ix l i + ix l j' = ix l i' + ix l j := by omega
    by_cases a : j' ≤ i
    · by_cases b : j ≤ i'
      · have := h i j' i' j a hi b hi' (by rw [small _ _ hi (by omega), small _ _ hi' (by omega), e2]); omega
      · have := h i j' j i' a hi (by omega) (by omega) (by rw [small _ _ hi (by omega), small _ _ (by omega) hi']; omega); omega
    · by_cases b : j ≤ i'
      · have := h j' i i' j (by omega) (by omega) b hi' (by rw [small _ _ (by omega) hi, small _ _ hi' (by omega)]; omega); omega
      · omega
  · intro h i j i' j' hj hi hj' hi' e
    rw [small _ _ hi (by omega), small _ _ hi' (by omega)] at e
    rcases Nat.lt_trichotomy i i' with a | a | a
    · exfalso
      have h1 := inc_lt hM.inc a hi'
      have h2 : j' < j := by
        rcases Nat.lt_or_ge j' j with q | q
        · exact q
        · have := inc_le hM.inc q (by omega); omega
      have := h i' i j j' a hi' h2 (by omega) (by omega)
      omega
    · subst a
      exact ⟨rfl, inc_inj hM.inc (by omega) (by omega) (by omega)⟩
    · exfalso
      have h1 := inc_lt hM.inc a hi
      have h2 : j < j' := by
        rcases Nat.lt_or_ge j j' with q | q
        · exact q
        · have := inc_le hM.inc q (by omega); omega
      have := h i i' j' j a hi h2 (by omega) (by omega)
      omega
end Go.Proofs.Ytjmmlcognmceaaa
