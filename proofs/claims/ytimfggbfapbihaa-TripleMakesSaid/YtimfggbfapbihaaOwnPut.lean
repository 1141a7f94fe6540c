/-
  A store into a slice of the call's own. No condition.
-/
import Derived.Test.YtimfggbfapbihaaOwn
namespace Go.Proofs.Ytimfggbfapbihaa
open Go.RowKit

theorem Own.cellAt {w : World} {base : Nat} {t : TypeId} {g n c : Nat} {xs : List Int} (h : Own w base t (.slice (some ⟨g, 0, none⟩) n c) xs) {j : Nat} (hj : j < xs.length) :
    w.cell? ⟨g, j, none⟩ = some (.int .i64 (ix xs j)) ∧ w.frozen? ⟨g, j, none⟩ = false ∧ base ≤ g := by
  rcases h.2 with ⟨e, _⟩ | ⟨g', cap, cur, e, hg, hh, hc, hm, hs, ht⟩
  · cases e
  · injection e with e1 e2 e3
    injection e1 with e1; injection e1 with e1 _ _; subst e1
    refine ⟨?_, by simp [World.frozen?, hh], hg⟩
    rw [cell_of_row w g j cur t (0, 0) hh]
    have e : (cur.toList.take (xs.length * 1))[j]? = (cellsOf xs)[j]? := by rw [ht]
    rw [List.getElem?_take_of_lt (by omega)] at e
    rw [← Array.getElem?_toList, e]
    simp [cellsOf, ix, hj]
theorem Own.put {w : World} {base : Nat} {t : TypeId} {g n c : Nat} {xs : List Int} (h : Own w base t (.slice (some ⟨g, 0, none⟩) n c) xs) {j : Nat} (_hj : j < xs.length) (x : Int) :
    Own (w.setCell ⟨g, j, none⟩ (.int .i64 x)) base t (.slice (some ⟨g, 0, none⟩) n c) (xs.set j x) := by
  unfold Own at h ⊢
  rw [List.length_set]
  refine ⟨by simp [cellsOf], ?_⟩
  rcases h.2 with ⟨e, _⟩ | ⟨g', cap, cur, e, hg, hh, hc, hm, hs, ht⟩
  · cases e
  · injection e with e1 e2 e3
    injection e1 with e1; injection e1 with e1 _ _; subst e1; subst e3
    refine .inr ⟨g, c, cur.setIfInBounds j (.int .i64 x), by rw [e2], hg, ?_, hc, hm, by simp [hs], ?_⟩
    · obtain ⟨hlt, hk⟩ := Array.getElem?_eq_some_iff.1 hh
      show (w.heap.modify g _)[g]? = _
      rw [Array.getElem?_eq_getElem (by rw [Array.size_modify]; exact hlt), Array.getElem_modify_self, hk]
      rfl
    · rw [Nat.mul_one] at ht ⊢
      rw [Array.toList_setIfInBounds, List.take_set, ht]
      simp [cellsOf]
theorem Own.below {w w' : World} {base : Nat} {t : TypeId} {v : Value} {xs : List Int} (h : Own w base t v xs) (hb : Below w.heap.size w w') : Own w' base t v xs :=
  World.ownsRow.kept h (row := none) ⟨hb.os, hb.tape, hb.output, hb.size, fun j hj _ => hb.block j hj⟩ (by cases hv : v.ownBlock <;> simp)
end Go.Proofs.Ytimfggbfapbihaa
