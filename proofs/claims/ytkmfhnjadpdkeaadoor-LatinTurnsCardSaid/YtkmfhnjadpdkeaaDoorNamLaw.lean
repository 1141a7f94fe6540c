/-
  Plain words: do names take the products of one square to those of another? No program in sight. No condition.
-/
import Derived.Test.YtkmfhnjadpdkeaaDoorRankFirst
import Derived.Test.YtkmfhnjadpdkeaaDoorAsk1
namespace Go.Proofs.YtkmfhnjadpdkeaaDoor
open Go.RowKit

/-- The name of i, as a number. -/
def pn (p : List Int) (i : Nat) : Nat := (ix p i).toNat
def namP (n : Nat) (xs ys p : List Int) (x y : Nat) : Bool := !decide (qn n xs x y < p.length) || qn n ys (pn p x) (pn p y) == pn p (qn n xs x y)
def namX (n : Nat) (xs ys p : List Int) (x : Nat) : Bool := allTo (namP n xs ys p x) p.length
def namB (n : Nat) (xs ys p : List Int) : Bool := allTo (namX n xs ys p) p.length
theorem pn_app {a t : List Int} {i : Nat} (h : i < a.length) : pn (a ++ t) i = pn a i := by
  unfold pn ix; rw [List.getD_eq_getElem?_getD, List.getD_eq_getElem?_getD, List.getElem?_append_left h]
theorem namB_iff {n : Nat} {xs ys p : List Int} : namB n xs ys p = true ↔ ∀ x y, x < p.length → y < p.length → qn n xs x y < p.length → qn n ys (pn p x) (pn p y) = pn p (qn n xs x y) := by
  unfold namB
  rw [allTo_iff]
  constructor
  · intro h x y hx hy hz
    have := allTo_iff.1 (h x hx) y hy
    unfold namP at this
    rw [decide_eq_true hz] at this
    simpa using this
  · intro h x hx
    refine allTo_iff.2 fun y hy => ?_
    unfold namP
    by_cases hz : qn n xs x y < p.length
    · rw [h x y hx hy hz]; simp
    · rw [decide_eq_false hz]; rfl
theorem namB_pre (n : Nat) (xs ys a t : List Int) (h : namB n xs ys (a ++ t) = true) : namB n xs ys a = true := by
  rw [namB_iff] at h ⊢
  intro x y hx hy hz
  have := h x y (by rw [List.length_append]; omega) (by rw [List.length_append]; omega) (by rw [List.length_append]; omega)
  rwa [pn_app hx, pn_app hy, pn_app hz] at this
end Go.Proofs.YtkmfhnjadpdkeaaDoor
