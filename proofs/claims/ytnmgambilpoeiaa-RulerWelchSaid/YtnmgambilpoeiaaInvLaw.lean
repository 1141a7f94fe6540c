/-
  Plain law: where a number stands. No program in sight. No condition.
-/
import Derived.Test.YtnmgambilpoeiaaInverse
import Derived.Test.YtnmgambilpoeiaaPermLaw
import Derived.Test.YtnmgambilpoeiaaSumL
namespace Go.Proofs.Ytnmgambilpoeiaa
open Go.RowKit

theorem icell_at {xs : List Int} (h : PermP xs) {i q : Nat} (hi : i < xs.length) (e : ix xs i = (q : Int)) : ∀ {n : Nat}, i < n → n ≤ xs.length → icell xs n q = i
  | 0, h1, _ => by omega
  | n + 1, h1, h2 => by
    rw [icell]
    by_cases e2 : ix xs n = (q : Int)
    · rw [if_pos e2, h.inj n i (by omega) hi (by rw [e, e2])]
    · rw [if_neg e2]
      have : i ≠ n := fun e3 => e2 (by rw [← e3]; exact e)
      exact icell_at h hi e (by omega) (by omega)
theorem PermP.onto {xs : List Int} (h : PermP xs) {q : Nat} (hq : q < xs.length) : ∃ i, i < xs.length ∧ ix xs i = (q : Int) := by
  have hnd : ((List.range xs.length).map fun i => (ix xs i).toNat).Nodup := by
    rw [List.Nodup, List.pairwise_map]
    refine List.Pairwise.imp_of_mem ?_ List.nodup_range
    intro a b ha hb hne e
    rw [List.mem_range] at ha hb
    have h1 := h.rng a ha; have h2 := h.rng b hb
    exact hne (h.inj a b ha hb (by omega))
  have hc := nodup_count (n := xs.length) hnd (fun x hx => by
    obtain ⟨i, hi, rfl⟩ := List.mem_map.1 hx
    rw [List.mem_range] at hi
    have := h.rng i hi; omega)
  rw [List.length_map, List.length_range] at hc
  have h0 : sumL (List.range xs.length) (fun y => 1 - ind (((List.range xs.length).map fun i => (ix xs i).toNat).contains y)) = 0 := by
    rw [sumL_sub, hc, sumL_const, List.length_range]; omega
  have h1 := sumL_null (fun y _ => by have := ind_le (((List.range xs.length).map fun i => (ix xs i).toNat).contains y); omega) h0 q (List.mem_range.2 hq)
  cases e : ((List.range xs.length).map fun i => (ix xs i).toNat).contains q
  · rw [e] at h1; cases h1
  · rw [List.contains_iff_mem, List.mem_map] at e
    obtain ⟨i, hi, e⟩ := e
    rw [List.mem_range] at hi
    have := h.rng i hi
    exact ⟨i, hi, by omega⟩
end Go.Proofs.Ytnmgambilpoeiaa
