/-
  All of some, the first of some: the plain words; the reference's At of a Latin square. No condition.
-/
import Derived.Test.YtkmfhnjadpdkeaaDoorQuasi2
namespace Go.Proofs.YtkmfhnjadpdkeaaDoor
open Go.RowKit

def allTo (f : Nat → Bool) : Nat → Bool
  | 0 => true
  | k + 1 => allTo f k && f k
theorem allTo_hit {f : Nat → Bool} {k : Nat} : ∀ {n : Nat}, k < n → f k = false → allTo f n = false
  | 0, h, _ => by omega
  | n + 1, h, e => by
    rw [allTo]
    by_cases hk : k = n
    · subst hk; rw [e, Bool.and_false]
    · rw [allTo_hit (n := n) (by omega) e]; rfl
theorem allTo_iff {f : Nat → Bool} : ∀ {n : Nat}, allTo f n = true ↔ ∀ k, k < n → f k = true
  | 0 => by simp [allTo]
  | n + 1 => by
    rw [allTo, Bool.and_eq_true, allTo_iff (n := n)]
    constructor
    · intro h k hk
      by_cases e : k = n
      · subst e; exact h.2
      · exact h.1 k (by omega)
    · intro h; exact ⟨fun k hk => h k (by omega), h n (by omega)⟩
/-- The first below n; -1: there is none. -/
def first (f : Nat → Bool) : Nat → Int
  | 0 => -1
  | k + 1 => if first f k = -1 then (if f k then (k : Int) else -1) else first f k
theorem first_no {f : Nat → Bool} {k : Nat} (h : first f k = -1) (e : f k = false) : first f (k + 1) = -1 := by rw [first, if_pos h, e]; rfl
theorem first_yes {f : Nat → Bool} {k : Nat} (h : first f k = -1) (e : f k = true) : ∀ {n : Nat}, k < n → first f n = k
  | 0, h => by omega
  | n + 1, hk => by
    rw [first]
    by_cases hn : k = n
    · subst hn; rw [if_pos h, e]; rfl
    · have := first_yes h e (n := n) (by omega)
      rw [if_neg (by omega), this]
theorem first_congr {f g : Nat → Bool} : ∀ {n : Nat}, (∀ k, k < n → f k = g k) → first f n = first g n
  | 0, _ => rfl
  | n + 1, h => by rw [first, first, first_congr (n := n) (fun k hk => h k (by omega)), h n (by omega)]
theorem allTo_congr {f g : Nat → Bool} : ∀ {n : Nat}, (∀ k, k < n → f k = g k) → allTo f n = allTo g n
  | 0, _ => rfl
  | n + 1, h => by rw [allTo, allTo, allTo_congr (n := n) (fun k hk => h k (by omega)), h n (by omega)]

/-- What two elements multiply to. -/
def qn (n : Nat) (xs : List Int) (i j : Nat) : Nat := (qat n xs i j).toNat
theorem qn_lt {n : Nat} {xs : List Int} (h : IsLatin n xs) {i j : Nat} (hi : i < n) (hj : j < n) : qn n xs i j < n := by
  have := h.cell hi hj; unfold qn; omega
theorem qn_qat {n : Nat} {xs : List Int} (h : IsLatin n xs) {i j : Nat} (hi : i < n) (hj : j < n) : qat n xs i j = (qn n xs i j : Nat) := by
  have := h.cell hi hj; unfold qn; omega
theorem at_lat {n : Nat} {xs : List Int} (h : IsLatin n xs) {x y : Nat} (hx : x < n) (hy : y < n) (v : Value) (w : World) (hI : IntsAt w v xs) :
    Calls Tryd.prog 19 #[.agg #[.int .i64 n, v], .int .i64 x, .int .i64 y] w fun e w' => e = .returned (.int .i64 (qn n xs x y : Nat)) ∧ Below w.heap.size w w' := by
  refine (at_any n x y v xs w hI ⟨h.lo, h.hi⟩ h.len (by omega) (by omega)).mono ?_
  rintro e w' ⟨rfl, hb⟩
  refine ⟨?_, hb⟩
  rw [Int.toNat_natCast, Int.toNat_natCast, Int.toNat_natCast, ← qn_qat h hx hy]; rfl
def idemP (n : Nat) (xs : List Int) (x : Nat) : Bool := qn n xs x x == x
def commP (n : Nat) (xs : List Int) (x y : Nat) : Bool := qn n xs x y == qn n xs y x
def commY (n : Nat) (xs : List Int) (x : Nat) : Bool := allTo (commP n xs x) x
def assocP (n : Nat) (xs : List Int) (x y z : Nat) : Bool := qn n xs (qn n xs x y) z == qn n xs x (qn n xs y z)
def assocZ (n : Nat) (xs : List Int) (x y : Nat) : Bool := allTo (assocP n xs x y) n
def assocY (n : Nat) (xs : List Int) (x : Nat) : Bool := allTo (assocZ n xs x) n
def unitP (n : Nat) (xs : List Int) (u y : Nat) : Bool := qn n xs u y == y && qn n xs y u == y
def unitU (n : Nat) (xs : List Int) (u : Nat) : Bool := allTo (unitP n xs u) n

end Go.Proofs.YtkmfhnjadpdkeaaDoor
