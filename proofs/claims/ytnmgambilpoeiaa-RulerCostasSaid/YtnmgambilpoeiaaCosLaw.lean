/-
  Plain laws: what a Costas list is. No program in sight. No condition.
-/
import Derived.Test.YtnmgambilpoeiaaCostas
namespace Go.Proofs.Ytnmgambilpoeiaa
open Go.RowKit

theorem mem_sRow {xs : List Int} {j : Nat} {acc : List (Int × Int)} {p : Int × Int} : ∀ {i : Nat}, p ∈ sRow xs j acc i ↔ p ∈ acc ∨ ∃ m : Nat, m < i ∧ p = ((j : Int) - (m : Int), ix xs j - ix xs m)
  | 0 => by rw [sRow]; exact ⟨.inl, fun h => h.elim id (fun ⟨m, h, _⟩ => absurd h (Nat.not_lt_zero _))⟩
  | i + 1 => by
    rw [sRow, List.mem_append, mem_sRow, List.mem_singleton]
    constructor
    · rintro ((h | ⟨m, h1, h2⟩) | h)
      · exact .inl h
      · exact .inr ⟨m, by omega, h2⟩
      · exact .inr ⟨i, by omega, h⟩
    · rintro (h | ⟨m, h1, h2⟩)
      · exact .inl (.inl h)
      · by_cases e : m = i
        · subst e; exact .inr h2
        · exact .inl (.inr ⟨m, by omega, h2⟩)
theorem mem_sAll {xs : List Int} {p : Int × Int} : ∀ {J : Nat}, p ∈ sAll xs J ↔ ∃ j m : Nat, m < j ∧ j < J ∧ p = ((j : Int) - (m : Int), ix xs j - ix xs m)
  | 0 => by rw [sAll]; exact ⟨fun h => absurd h (by simp), fun ⟨j, m, _, h, _⟩ => absurd h (Nat.not_lt_zero _)⟩
  | J + 1 => by
    rw [sAll, mem_sRow, mem_sAll]
    constructor
    · rintro (⟨j, m, h1, h2, h3⟩ | ⟨m, h1, h2⟩)
      · exact ⟨j, m, h1, by omega, h3⟩
      · exact ⟨J, m, h1, by omega, h2⟩
    · rintro ⟨j, m, h1, h2, h3⟩
      by_cases e : j = J
      · subst e; exact .inr ⟨m, h1, h3⟩
      · exact .inl ⟨j, m, h1, by omega, h3⟩
/-- No two pairs of places are of one step. -/
def CosP (xs : List Int) : Prop := ∀ j m k q : Nat, m < j → j < k → q < k → k < xs.length → (j : Int) - m = (k : Int) - q → ix xs j - ix xs m = ix xs k - ix xs q → False
theorem sRow_nodup {xs : List Int} {j : Nat} {acc : List (Int × Int)} (hn : acc.Nodup) (hd : ∀ p ∈ acc, ∀ m : Nat, m < j → p ≠ ((j : Int) - (m : Int), ix xs j - ix xs m)) : ∀ {i : Nat}, i ≤ j → (sRow xs j acc i).Nodup
  | 0, _ => hn
  | i + 1, h => by
    rw [sRow]
    refine List.nodup_append.2 ⟨sRow_nodup hn hd (by omega), by simp, fun p hp q hq e => ?_⟩
    rw [List.mem_singleton] at hq
    subst hq
    subst e
    rcases mem_sRow.1 hp with h1 | ⟨m, h1, h2⟩
    · exact hd _ h1 i (by omega) rfl
    · injection h2 with h2 _; omega
theorem sAll_nodup {xs : List Int} (h : CosP xs) : ∀ {J : Nat}, J ≤ xs.length → (sAll xs J).Nodup
  | 0, _ => List.nodup_nil
  | J + 1, hJ => by
    rw [sAll]
    refine sRow_nodup (sAll_nodup h (by omega)) (fun p hp m hm e => ?_) (Nat.le_refl _)
    obtain ⟨j, q, h1, h2, h3⟩ := mem_sAll.1 hp
    rw [e] at h3
    injection h3 with h3 h4
    exact h j q J m h1 h2 hm (by omega) (by omega) (by omega)
theorem cosB_iff {xs : List Int} : cosB xs = true ↔ CosP xs := by
  constructor
  · intro h j m k q h1 h2 h3 h4 h5 h6
    have := cos_hit h3 h4 (mem_sRow.2 (.inl (mem_sAll.2 ⟨j, m, h1, h2, by rw [h5, h6]⟩)))
    rw [h] at this; cases this
  · intro h
    unfold cosB
    exact decide_eq_true (sAll_nodup h (Nat.le_refl _))
end Go.Proofs.Ytnmgambilpoeiaa
