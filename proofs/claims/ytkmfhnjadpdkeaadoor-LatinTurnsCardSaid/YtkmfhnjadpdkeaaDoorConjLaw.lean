/-
  Plain words: the conjugates of a Latin square. No program in sight. No condition.
-/
import Derived.Test.YtkmfhnjadpdkeaaDoorLaw1
import Derived.Test.YtkmfhnjadpdkeaaDoorInts
namespace Go.Proofs.YtkmfhnjadpdkeaaDoor
open Go.RowKit

/-- The order in which row, column and number are taken. -/
def o3 (k i : Nat) : Nat := (([[0, 1, 2], [0, 2, 1], [1, 0, 2], [1, 2, 0], [2, 0, 1], [2, 1, 0]] : List (List Nat)).getD k []).getD i 0
theorem o3_lt {k i : Nat} (hk : k < 6) (hi : i < 3) : o3 k i < 3 := by
  have h1 : k = 0 ∨ k = 1 ∨ k = 2 ∨ k = 3 ∨ k = 4 ∨ k = 5 := by omega
  have h2 : i = 0 ∨ i = 1 ∨ i = 2 := by omega
  rcases h1 with rfl | rfl | rfl | rfl | rfl | rfl <;> rcases h2 with rfl | rfl | rfl <;> decide
def p3 (r c x j : Nat) : Nat := if j = 0 then r else if j = 1 then c else x
theorem p3_lt {r c x j n : Nat} (hr : r < n) (hc : c < n) (hx : x < n) : p3 r c x j < n := by unfold p3; split; exact hr; split; exact hc; exact hx
section
variable (n : Nat) (xs : List Int) (k : Nat)
def cAt (i p : Nat) : Nat := p3 (dv p n) (md p n) (ix xs p).toNat (o3 k i)
def cPlace (p : Nat) : Nat := cAt n xs k 0 p * n + cAt n xs k 1 p
def cfill : Nat → Nat → Int
  | 0, _ => 0
  | p + 1, j => if j = cPlace n xs k p then (cAt n xs k 2 p : Int) else cfill p j
/-- The conjugate's cells. -/
def conjL : List Int := (List.range (n * n)).map (cfill n xs k (n * n))
end
theorem conjL_len (n : Nat) (xs : List Int) (k : Nat) : (conjL n xs k).length = n * n := by simp [conjL]
theorem conjL_ix {n : Nat} {xs : List Int} {k j : Nat} (h : j < n * n) : ix (conjL n xs k) j = cfill n xs k (n * n) j := by simp [conjL, ix, h]
section
variable {n : Nat} {xs : List Int} {k : Nat}
theorem pos_of {p : Nat} (h : p < n * n) : 0 < n := by
  rcases Nat.eq_zero_or_pos n with e | e
  · subst e; simp at h
  · exact e
theorem dv_lt {p : Nat} (h : p < n * n) : dv p n < n := by unfold dv; exact (Nat.div_lt_iff_lt_mul (pos_of h)).2 h
theorem md_lt {p : Nat} (h : p < n * n) : md p n < n := by unfold md; exact Nat.mod_lt _ (pos_of h)
theorem cAt_lt (h : IsLatin n xs) {i p : Nat} (hp : p < n * n) : cAt n xs k i p < n :=
  p3_lt (dv_lt hp) (md_lt hp) (by have := h.rng p (by rw [h.lenN]; exact hp); omega)
theorem cPlace_lt (h : IsLatin n xs) {p : Nat} (hp : p < n * n) : cPlace n xs k p < n * n := place_lt (cAt_lt h hp) (cAt_lt h hp)
end
end Go.Proofs.YtkmfhnjadpdkeaaDoor
