/-
  Contract: the library's slices.Sort, on ints of the call's own. No condition.
-/
import Derived.Sort.OwnSortedInts
import Derived.Test.YtimfggbfapbihaaOwn
import Derived.Test.YtimfggbfapbihaaSortLay
namespace Go.Proofs.Ytimfggbfapbihaa
open Go.RowKit Go.Sort

/-- Sorted. -/
def sortI (xs : List Int) : List Int := xs.mergeSort fun x y => decide (x ≤ y)
theorem sortI_perm (xs : List Int) : (sortI xs).Perm xs := List.mergeSort_perm _ _
theorem sortI_len (xs : List Int) : (sortI xs).length = xs.length := (sortI_perm xs).length_eq
theorem sortI_mem {xs : List Int} {x : Int} : x ∈ sortI xs ↔ x ∈ xs := (sortI_perm xs).mem_iff
theorem sortI_le (xs : List Int) : (sortI xs).Pairwise (· ≤ ·) := by
  have h := List.pairwise_mergeSort (le := fun x y : Int => decide (x ≤ y)) (fun a b c h1 h2 => by simp at h1 h2 ⊢; omega) (fun a b => by simp; omega) xs
  exact h.imp (fun h => by simpa using h)
theorem sortI_lt {xs : List Int} (h : xs.Nodup) : (sortI xs).Pairwise (· < ·) := by
  have h1 := sortI_le xs
  have h2 : (sortI xs).Nodup := (sortI_perm xs).nodup_iff.2 h
  exact (List.Pairwise.and h1 h2).imp (fun h => by omega)
theorem sort_own {base : Nat} {v : Value} {xs : List Int} {w : World} (h : Own w base 3 v xs) (hl : xs.length < 1000000000) :
    Calls Try.prog 19 #[v] w fun e w' => e = .returned (.tuple #[]) ∧ Own w' base 3 v (sortI xs) ∧ w.grownBy w' v.ownBlock := by
  have h0 := h
  rcases h.2 with ⟨rfl, hn⟩ | ⟨g, cap, cur, rfl, hg, hh, hc, hm, hs, ht⟩
  · obtain rfl : xs = [] := List.eq_nil_of_length_eq_zero hn
    refine (Try.slices_Sort_int_none none 0 w).mono ?_
    rintro e w' ⟨rfl, rfl⟩
    refine ⟨rfl, ?_, ⟨rfl, rfl, rfl, Nat.le_refl _, fun _ _ _ => rfl⟩⟩
    have : sortI [] = [] := List.eq_nil_of_length_eq_zero (sortI_len [])
    rw [this]; exact h0
  · rw [Nat.mul_one] at ht
    have hH := holds_of_blockI hh ht
    refine (Try.slices_Sort_int g 0 cap xs w hH (Array.getElem?_eq_some_iff.1 hh).1 (by omega)).mono ?_
    rintro e w' ⟨rfl, n, os, rfl⟩
    refine ⟨rfl, ?_, grownBy_sortedI _⟩
    unfold Own
    rw [sortI_len]
    exact ownsRow_sortedI (sortI_len xs) hg hh hc hm hs
end Go.Proofs.Ytimfggbfapbihaa
