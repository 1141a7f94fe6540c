/-
  Rising lists are told by their members; the plain laws of what is derived from a design. No condition.
-/
import Derived.Test.YtkmcmahpfhlkhaaDesRel
namespace Go.Proofs.Ytkmcmahpfhlkhaa
open Go.RowKit

theorem rise_ext : ∀ {a b : List Int}, a.Pairwise (· < ·) → b.Pairwise (· < ·) → (∀ x, x ∈ a ↔ x ∈ b) → a = b
  | [], [], _, _, _ => rfl
  | [], y :: b, _, _, h => by have := (h y).2 (by simp); simp at this
  | x :: a, [], _, _, h => by have := (h x).1 (by simp); simp at this
  | x :: a, y :: b, ha, hb, h => by
    rw [List.pairwise_cons] at ha hb
    have hxy : x = y := by
      have h1 := (h x).1 (by simp)
      have h2 := (h y).2 (by simp)
      rcases List.mem_cons.1 h1 with e | h1
      · exact e
      · rcases List.mem_cons.1 h2 with e | h2
        · exact e.symm
        · have := hb.1 x h1; have := ha.1 y h2; omega
    subst hxy
    rw [rise_ext ha.2 hb.2 fun z => ?_]
    constructor
    · intro hz
      rcases List.mem_cons.1 ((h z).1 (by simp [hz])) with e | h1
      · subst e; have := ha.1 z hz; omega
      · exact h1
    · intro hz
      rcases List.mem_cons.1 ((h z).2 (by simp [hz])) with e | h1
      · subst e; have := hb.1 z hz; omega
      · exact h1
theorem inc_pair {l : List Int} (h : incB l = true) : l.Pairwise (· < ·) := by
  rw [List.pairwise_iff_getElem]
  intro i j hi hj hij
  have := inc_lt h hij hj
  rw [ix_lt hi, ix_lt hj] at this; exact this
theorem pair_snoc {l : List Int} {x : Int} (h : l.Pairwise (· < ·)) (hx : ∀ y ∈ l, y < x) : (l ++ [x]).Pairwise (· < ·) := by
  rw [List.pairwise_append]
  exact ⟨h, by simp, fun a ha b hb => by rw [List.mem_singleton] at hb; subst hb; exact hx a ha⟩
theorem pickL_pair (p : Nat → Bool) : ∀ m, (pickL p m).Pairwise (· < ·)
  | 0 => List.Pairwise.nil
  | m + 1 => by
    have ih := pickL_pair p m
    cases e : p m
    · rw [pickL_no e]; exact ih
    · rw [pickL_yes e]
      exact pair_snoc ih fun y hy => by
        obtain ⟨j, h1, _, h3⟩ := mem_pickL.1 hy
        omega
/-- A rising list of small numbers is the list of the numbers in it. -/
theorem rise_pick {n : Nat} {l : List Int} (hp : l.Pairwise (· < ·)) (hr : ∀ x ∈ l, 0 ≤ x ∧ x < (n : Int)) {q : Nat → Bool} (hq : ∀ j : Nat, j < n → (q j = true ↔ (j : Int) ∈ l)) : l = pickL q n := by
  refine rise_ext hp (pickL_pair _ _) fun x => ?_
  rw [mem_pickL]
  constructor
  · intro hx
    have := hr x hx
    obtain ⟨j, rfl⟩ := Int.eq_ofNat_of_zero_le this.1
    exact ⟨j, by omega, (hq j (by omega)).2 hx, rfl⟩
  · rintro ⟨j, h1, h2, rfl⟩
    exact (hq j h1).1 h2
theorem ix_of_mem {xs : List Int} {x : Int} (h : x ∈ xs) : ∃ i, i < xs.length ∧ ix xs i = x := by
  obtain ⟨i, hi, e⟩ := List.getElem_of_mem h
  exact ⟨i, hi, by rw [ix_lt hi]; exact e⟩
theorem IsBlock.pair {n : Int} {b : List Int} (h : IsBlock n b) : b.Pairwise (· < ·) := inc_pair h.inc
theorem IsBlock.mem_rng {n : Int} {b : List Int} (h : IsBlock n b) {x : Int} (hx : x ∈ b) : 0 ≤ x ∧ x < n := by
  obtain ⟨i, hi, rfl⟩ := ix_of_mem hx
  exact h.rng i hi
theorem IsBlock.len {n : Nat} {b : List Int} (h : IsBlock n b) : b.length ≤ n := by
  have := inc_len h.rng h.inc (by omega)
  omega
/-- A rising list of small numbers is a block. -/
theorem block_pair {n : Int} {b : List Int} (hp : b.Pairwise (· < ·)) (hr : ∀ x ∈ b, 0 ≤ x ∧ x < n) : IsBlock n b := by
  refine ⟨fun k hk => hr _ (ix_mem hk), inc_of fun i j hij hj => ?_⟩
  rw [List.pairwise_iff_getElem] at hp
  have := hp i j (by omega) hj hij
  rw [ix_lt (show i < b.length by omega), ix_lt hj]; exact this
end Go.Proofs.Ytkmcmahpfhlkhaa
