/-
  Contracts: design.Check, the reference's DesignFault: what is wrong with a design. No condition.
-/
import Derived.Test.YtimfggbfapbihaaSets
import Derived.Test.YtimfggbfapbihaaFunc
namespace Go.Proofs.Ytimfggbfapbihaa
open Go.RowKit

/-- What is wrong with one block, with the first of some blocks. -/
def blockF (n : Int) (b : List Int) : Int := if anyB (outV n) b then 1 else if incB b then 0 else 2
def desTo (n : Int) (xss : List (List Int)) : Nat → Int
  | 0 => 0
  | k + 1 => if desTo n xss k = 0 then blockF n (rx xss k) else desTo n xss k
def desFault (n : Int) (xss : List (List Int)) : Int := if n < 1 ∨ 40 < n then 1 else if 200 < xss.length then 3 else desTo n xss xss.length
theorem desTo_next {n : Int} {xss : List (List Int)} {k : Nat} (h : desTo n xss k = 0) : desTo n xss (k + 1) = blockF n (rx xss k) := by rw [desTo, if_pos h]
theorem desTo_hit {n : Int} {xss : List (List Int)} {k : Nat} {e : Int} (h : desTo n xss k = 0) (he : blockF n (rx xss k) = e) (h0 : e ≠ 0) : ∀ {m : Nat}, k < m → desTo n xss m = e
  | 0, hk => by omega
  | m + 1, hk => by
    by_cases e2 : k = m
    · subst e2; rw [desTo_next h, he]
    · rw [desTo, desTo_hit h he h0 (m := m) (by omega), if_neg h0]
structure IsBlock (n : Int) (b : List Int) : Prop where
  rng : ∀ k, k < b.length → 0 ≤ ix b k ∧ ix b k < n
  inc : incB b = true
structure IsDes (n : Int) (xss : List (List Int)) : Prop where
  lo : 1 ≤ n
  hi : n ≤ 40
  few : xss.length ≤ 200
  all : ∀ i, i < xss.length → IsBlock n (rx xss i)
theorem block_of {n : Int} {b : List Int} (h : blockF n b = 0) : IsBlock n b := by
  unfold blockF at h
  cases h2 : anyB (outV n) b
  · rw [h2] at h
    cases h3 : incB b
    · rw [h3] at h; cases h
    · exact ⟨anyV h2, h3⟩
  · rw [h2] at h; cases h
theorem IsBlock.fault {n : Int} {b : List Int} (h : IsBlock n b) : blockF n b = 0 := by
  unfold blockF
  rw [anyV_of h.rng, h.inc]; rfl
theorem desTo_all {n : Int} {xss : List (List Int)} : ∀ {m : Nat}, desTo n xss m = 0 → ∀ i, i < m → IsBlock n (rx xss i)
  | 0, _, i, hi => by omega
  | m + 1, h, i, hi => by
    by_cases h0 : desTo n xss m = 0
    · rw [desTo_next h0] at h
      by_cases e : i = m
      · subst e; exact block_of h
      · exact desTo_all h0 i (by omega)
    · rw [desTo, if_neg h0] at h; exact absurd h h0
theorem desTo_of {n : Int} {xss : List (List Int)} : ∀ {m : Nat}, (∀ i, i < m → IsBlock n (rx xss i)) → desTo n xss m = 0
  | 0, _ => rfl
  | m + 1, h => by rw [desTo_next (desTo_of fun i hi => h i (by omega))]; exact (h m (by omega)).fault
theorem des_of {n : Int} {xss : List (List Int)} (h : desFault n xss = 0) : IsDes n xss := by
  unfold desFault at h
  by_cases h1 : n < 1 ∨ 40 < n
  · rw [if_pos h1] at h; cases h
  · rw [if_neg h1] at h
    by_cases h2 : 200 < xss.length
    · rw [if_pos h2] at h; cases h
    · rw [if_neg h2] at h
      exact ⟨by omega, by omega, by omega, desTo_all h⟩
theorem IsDes.fault {n : Int} {xss : List (List Int)} (h : IsDes n xss) : desFault n xss = 0 := by
  have := h.lo; have := h.hi; have := h.few
  unfold desFault
  rw [if_neg (by omega), if_neg (by omega), desTo_of h.all]
theorem notInc_full {xs : List Int} {k : Nat} (h : notInc xs k = false) (hk : ¬ k + 1 < xs.length) (hk2 : k + 1 ≤ xs.length ∨ k = 0) : incB xs = true := by
  unfold incB
  have : k = xs.length - 1 := by omega
  rw [← this, h]; rfl

end Go.Proofs.Ytimfggbfapbihaa
