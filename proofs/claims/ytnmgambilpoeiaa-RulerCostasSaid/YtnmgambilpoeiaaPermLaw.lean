/-
  Plain laws: what perm.Check passes is a permutation. No program in sight. No condition.
-/
import Derived.Test.YtnmgambilpoeiaaCostasC
namespace Go.Proofs.Ytnmgambilpoeiaa
open Go.RowKit

structure PermP (xs : List Int) : Prop where
  few : xs.length ≤ 12
  rng : ∀ k, k < xs.length → 0 ≤ ix xs k ∧ ix xs k < xs.length
  inj : ∀ i j, i < xs.length → j < xs.length → ix xs i = ix xs j → i = j
theorem pcnt_one {xs : List Int} {q : Nat} : ∀ {n i : Nat}, i < n → ix xs i = (q : Int) → 1 ≤ pcnt xs n q
  | 0, i, h, _ => by omega
  | n + 1, i, h, e => by
    rw [pcnt]
    by_cases e2 : i = n
    · subst e2; rw [if_pos e]; omega
    · have := pcnt_one (n := n) (by omega) e; omega
theorem pcnt_two {xs : List Int} {q : Nat} : ∀ {n i j : Nat}, i < j → j < n → ix xs i = (q : Int) → ix xs j = (q : Int) → 2 ≤ pcnt xs n q
  | 0, i, j, _, h, _, _ => by omega
  | n + 1, i, j, hij, h, e1, e2 => by
    rw [pcnt]
    by_cases e : j = n
    · subst e; have := pcnt_one hij e1; rw [if_pos e2]; omega
    · have := pcnt_two (n := n) hij (by omega) e1 e2; omega
theorem pcnt_up {xs : List Int} {q : Nat} (h : ∀ i j, i < xs.length → j < xs.length → ix xs i = ix xs j → i = j) : ∀ {n : Nat}, n ≤ xs.length → pcnt xs n q ≤ 1 ∧ (pcnt xs n q = 1 → ∃ i, i < n ∧ ix xs i = (q : Int))
  | 0, _ => ⟨by simp [pcnt], by simp [pcnt]⟩
  | n + 1, hn => by
    obtain ⟨h1, h2⟩ := pcnt_up h (n := n) (by omega)
    rw [pcnt]
    by_cases e : ix xs n = (q : Int)
    · rw [if_pos e]
      have h3 : pcnt xs n q ≠ 1 := fun h3 => by
        obtain ⟨i, hi, ei⟩ := h2 h3
        have := h i n (by omega) (by omega) (by rw [ei, e])
        omega
      exact ⟨by omega, fun _ => ⟨n, by omega, e⟩⟩
    · rw [if_neg e]
      exact ⟨by omega, fun h3 => by obtain ⟨i, hi, ei⟩ := h2 (by omega); exact ⟨i, by omega, ei⟩⟩
theorem twB_no {xs : List Int} : ∀ {m : Nat}, (∀ q, q < m → pcnt xs xs.length q ≤ 1) → twB xs m = false
  | 0, _ => rfl
  | m + 1, h => by
    rw [twB, twB_no fun q hq => h q (by omega)]
    have := h m (by omega)
    simp; omega
theorem permF_iff {xs : List Int} : permF xs = 0 ↔ PermP xs := by
  constructor
  · intro h
    have hr := permF_rng h
    refine ⟨hr.1, hr.2, fun i j hi hj e => ?_⟩
    have ht : twB xs xs.length = false := by
      unfold permF at h
      rw [if_neg (by omega)] at h
      cases h2 : anyB (outV xs.length) xs
      · rw [h2] at h
        cases h3 : twB xs xs.length
        · rfl
        · rw [h3] at h; cases h
      · rw [h2] at h; cases h
    obtain ⟨q, hq⟩ := Int.eq_ofNat_of_zero_le (hr.2 i hi).1
    have hql := (hr.2 i hi).2
    have key : ∀ i j, i < j → j < xs.length → ix xs i = (q : Int) → ix xs j = (q : Int) → False := fun i j h1 h2 h3 h4 => by
      have h5 := pcnt_two h1 h2 h3 h4
      have : twB xs xs.length = true := twB_up (k := q + 1) (by rw [twB]; simp; right; omega) (by omega)
      rw [ht] at this; cases this
    rcases Nat.lt_trichotomy i j with h1 | h1 | h1
    · exact (key i j h1 hj hq (by rw [← e]; exact hq)).elim
    · exact h1
    · exact (key j i h1 hi (by rw [← e]; exact hq) hq).elim
  · intro h
    unfold permF
    have ha : anyB (outV xs.length) xs = false := by
      cases e : anyB (outV xs.length) xs
      · rfl
      · rw [anyB, List.any_eq_true] at e
        obtain ⟨x, hx, hc⟩ := e
        obtain ⟨k, hk, rfl⟩ := ix_of_mem hx
        have := h.rng k hk
        rw [outV_pos (by omega)] at hc
        simp at hc; omega
    have hf := h.few
    rw [if_neg (by omega), ha, twB_no fun q _ => (pcnt_up h.inj (Nat.le_refl _)).1]
    rfl
end Go.Proofs.Ytnmgambilpoeiaa
