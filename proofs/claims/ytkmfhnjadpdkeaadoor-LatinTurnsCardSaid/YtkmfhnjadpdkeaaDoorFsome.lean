/-
  Plain words: the first that is there, of as many. No program in sight. No condition.
-/
import Derived.Test.YtkmfhnjadpdkeaaDoorPure
namespace Go.Proofs.YtkmfhnjadpdkeaaDoor
open Go.RowKit

/-- The first that is there. -/
def fsome {α : Type} (f : Nat → Option α) : Nat → Option α
  | 0 => none
  | k + 1 => match fsome f k with
    | some a => some a
    | none => f k
theorem fsome_next {α : Type} {f : Nat → Option α} {k : Nat} (h : fsome f k = none) : fsome f (k + 1) = f k := by rw [fsome, h]
theorem fsome_hit {α : Type} {f : Nat → Option α} {k : Nat} {a : α} (h : fsome f k = none) (e : f k = some a) : ∀ {n : Nat}, k < n → fsome f n = some a
  | 0, hk => by omega
  | n + 1, hk => by
    by_cases hn : k = n
    · subst hn; rw [fsome_next h, e]
    · rw [fsome, fsome_hit h e (n := n) (by omega)]
theorem fsome_congr {α : Type} {f g : Nat → Option α} : ∀ n, (∀ k, k < n → f k = g k) → fsome f n = fsome g n
  | 0, _ => rfl
  | n + 1, h => by rw [fsome, fsome, fsome_congr n (fun k hk => h k (by omega)), h n (by omega)]
theorem fsome_some {α : Type} {f : Nat → Option α} {a : α} : ∀ {n : Nat}, fsome f n = some a → ∃ k, k < n ∧ f k = some a
  | 0, h => by cases h
  | n + 1, h => by
    rw [fsome] at h
    cases e : fsome f n with
    | none => rw [e] at h; exact ⟨n, by omega, h⟩
    | some b =>
      rw [e] at h
      obtain ⟨k, hk, hf⟩ := fsome_some (n := n) e
      exact ⟨k, by omega, by rw [hf]; exact h⟩
theorem fsome_isSome {α : Type} {f : Nat → Option α} {k : Nat} : ∀ {n : Nat}, k < n → (f k).isSome = true → (fsome f n).isSome = true
  | 0, h, _ => by omega
  | n + 1, h, e => by
    rw [fsome]
    cases e2 : fsome f n with
    | some a => rfl
    | none =>
      by_cases hk : k = n
      · subst hk; exact e
      · have := fsome_isSome (n := n) (k := k) (by omega) e
        rw [e2] at this; cases this
theorem fsome_bind {α β : Type} {f : Nat → Option α} {g : α → Option β} : ∀ n, (∀ k a, k < n → f k = some a → (g a).isSome = true) → fsome (fun k => (f k).bind g) n = (fsome f n).bind g
  | 0, _ => rfl
  | n + 1, h => by
    rw [fsome, fsome, fsome_bind n (fun k a hk => h k a (by omega))]
    cases e : fsome f n with
    | none => rfl
    | some a =>
      obtain ⟨k, hk, hf⟩ := fsome_some e
      have := h k a (by omega) hf
      show (match g a with | some b => some b | none => (f n).bind g) = g a
      cases e2 : g a with
      | none => rw [e2] at this; cases this
      | some b => rfl

end Go.Proofs.YtkmfhnjadpdkeaaDoor
