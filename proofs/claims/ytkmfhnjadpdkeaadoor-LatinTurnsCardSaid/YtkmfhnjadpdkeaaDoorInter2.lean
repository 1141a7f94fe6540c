/-
  Contract: intercalates, the reference's count; the two counts are one. No condition.
-/
import Derived.Test.YtkmfhnjadpdkeaaDoorInter
namespace Go.Proofs.YtkmfhnjadpdkeaaDoor
open Go.RowKit

def ref3 (n : Nat) (xs : List Int) (i k j : Nat) : Nat := sumTo (fun u => int4 n xs i k j (j + 1 + u)) (n - (j + 1))
def ref2 (n : Nat) (xs : List Int) (i k : Nat) : Nat := sumTo (ref3 n xs i k) n
def ref1 (n : Nat) (xs : List Int) (i : Nat) : Nat := sumTo (fun u => ref2 n xs i (i + 1 + u)) (n - (i + 1))
def ref0 (n : Nat) (xs : List Int) : Nat := sumTo (ref1 n xs) n
def refC (n : Nat) (xs : List Int) (i tk j tl : Nat) : Nat :=
  sumTo (ref1 n xs) i + sumTo (fun u => ref2 n xs i (i + 1 + u)) tk + sumTo (ref3 n xs i (i + 1 + tk)) j + sumTo (fun u => int4 n xs i (i + 1 + tk) j (j + 1 + u)) tl
theorem refC_le {n : Nat} (hn : n ≤ 8) (xs : List Int) {i k j l : Nat} (hi : i ≤ 8) (hk : k ≤ 8) (hj : j ≤ 8) (hl : l ≤ 8) : refC n xs i k j l ≤ 5000 := by
  have h4 : ∀ i k j l, l ≤ 8 → sumTo (fun u => int4 n xs i k j (j + 1 + u)) l ≤ 8 := fun i k j l hl => by
    have := sumTo_le (f := fun u => int4 n xs i k j (j + 1 + u)) (M := 1) l (fun t _ => int4_le n xs i k j _); omega
  have h3 : ∀ i k j, j ≤ 8 → sumTo (ref3 n xs i k) j ≤ 64 := fun i k j hj => by
    have := sumTo_le (f := ref3 n xs i k) (M := 8) j (fun t ht => h4 i k t _ (by omega)); omega
  have h2 : ∀ i k, k ≤ 8 → sumTo (fun u => ref2 n xs i (i + 1 + u)) k ≤ 512 := fun i k hk => by
    have := sumTo_le (f := fun u => ref2 n xs i (i + 1 + u)) (M := 64) k (fun t _ => h3 i _ n hn); omega
  have h1 : ∀ i, i ≤ 8 → sumTo (ref1 n xs) i ≤ 4096 := fun i hi => by
    have := sumTo_le (f := ref1 n xs) (M := 512) i (fun t ht => h2 t _ (by omega)); omega
  have a1 := h1 i hi; have a2 := h2 i k hk; have a3 := h3 i (i + 1 + k) j hj; have a4 := h4 i (i + 1 + k) j l hl
  unfold refC; omega
theorem refC_l (n : Nat) (xs : List Int) (i k j l : Nat) : refC n xs i k j (l + 1) = refC n xs i k j l + int4 n xs i (i + 1 + k) j (j + 1 + l) := by unfold refC; rw [sumTo]; omega
theorem refC_j (n : Nat) (xs : List Int) (i k j : Nat) : refC n xs i k (j + 1) 0 = refC n xs i k j (n - (j + 1)) := by
  unfold refC; rw [sumTo]; show _ + (_ + sumTo (fun u => int4 n xs i (i + 1 + k) j (j + 1 + u)) (n - (j + 1))) + 0 = _; omega
theorem refC_k (n : Nat) (xs : List Int) (i k : Nat) : refC n xs i (k + 1) 0 0 = refC n xs i k n 0 := by
  unfold refC; rw [sumTo]; show _ + (_ + sumTo (ref3 n xs i (i + 1 + k)) n) + 0 + 0 = _ + 0; omega
theorem refC_i (n : Nat) (xs : List Int) (i : Nat) : refC n xs (i + 1) 0 0 0 = refC n xs i (n - (i + 1)) 0 0 := by
  unfold refC; rw [sumTo]; show (_ + sumTo (fun u => ref2 n xs i (i + 1 + u)) (n - (i + 1))) + 0 + 0 + 0 = _ + 0 + 0; omega
theorem ref0_eq (n : Nat) (xs : List Int) : ref0 n xs = refC n xs n 0 0 0 := rfl

/-- What the reference's test says of a Latin square's four cells. -/
theorem ref_way {n : Nat} {xs : List Int} (h : IsLatin n xs) {i k j l : Nat} (hik : i < k) (hk : k < n) (hjl : j < l) (hl : l < n) :
    (qat n xs k j == qat n xs i j) = false ∧ (qat n xs k l == qat n xs i l) = false ∧
    (((qat n xs k j == qat n xs i l) = false ∧ int4 n xs i k j l = 0) ∨
     ((qat n xs k j == qat n xs i l) = true ∧ (qat n xs k l == qat n xs i j) = true ∧ int4 n xs i k j l = 1) ∨
     ((qat n xs k j == qat n xs i l) = true ∧ (qat n xs k l == qat n xs i j) = false ∧ int4 n xs i k j l = 0)) := by
  have h1 : qat n xs k j ≠ qat n xs i j := fun e => by have := h.col_inj (i := j) (by omega) hk (by omega) e; omega
  have h2 : qat n xs k l ≠ qat n xs i l := fun e => by have := h.col_inj (i := l) (by omega) hk (by omega) e; omega
  refine ⟨by simpa using h1, by simpa using h2, ?_⟩
  have e : int4 n xs i k j l = if (qat n xs k l == qat n xs i j) && (qat n xs k j == qat n xs i l) then 1 else 0 := by
    unfold int4 interB
    rw [show (qat n xs i j == qat n xs k l) = (qat n xs k l == qat n xs i j) from Bool.beq_comm, show (qat n xs i l == qat n xs k j) = (qat n xs k j == qat n xs i l) from Bool.beq_comm]
  rw [e]
  cases (qat n xs k j == qat n xs i l) <;> cases (qat n xs k l == qat n xs i j) <;> simp

theorem sumTo_congr {f g : Nat → Nat} : ∀ k, (∀ i, i < k → f i = g i) → sumTo f k = sumTo g k
  | 0, _ => rfl
  | k + 1, h => by rw [sumTo, sumTo, sumTo_congr k (fun i hi => h i (by omega)), h k (by omega)]
theorem sumTo_add (f g : Nat → Nat) : ∀ k, sumTo (fun i => f i + g i) k = sumTo f k + sumTo g k
  | 0 => rfl
  | k + 1 => by simp only [sumTo]; rw [sumTo_add f g k]; omega
/-- A triangle summed by columns is the triangle summed by rows. -/
theorem tri_swap (g : Nat → Nat → Nat) : ∀ n, sumTo (fun i => sumTo (fun u => g i (i + 1 + u)) (n - (i + 1))) n = sumTo (fun k => sumTo (fun i => g i k) k) n
  | 0 => rfl
  | n + 1 => by
    rw [sumTo, sumTo, ← tri_swap g n]
    have e : sumTo (fun i => sumTo (fun u => g i (i + 1 + u)) (n + 1 - (i + 1))) n = sumTo (fun i => sumTo (fun u => g i (i + 1 + u)) (n - (i + 1)) + g i n) n := by
      refine sumTo_congr n fun i hi => ?_
      obtain ⟨d, rfl⟩ : ∃ d, n = i + 1 + d := ⟨n - (i + 1), by omega⟩
      have e1 : i + 1 + d + 1 - (i + 1) = d + 1 := by omega
      have e2 : i + 1 + d - (i + 1) = d := by omega
      rw [e1, e2, sumTo]
    rw [e, sumTo_add]
    have e3 : n + 1 - (n + 1) = 0 := by omega
    rw [e3, sumTo]; omega
theorem int4_symm (n : Nat) (xs : List Int) (i k j l : Nat) : int4 n xs i k j l = int4 n xs k i l j := by
  unfold int4 interB
  rw [show (qat n xs k l == qat n xs i j) = (qat n xs i j == qat n xs k l) from Bool.beq_comm, show (qat n xs k j == qat n xs i l) = (qat n xs i l == qat n xs k j) from Bool.beq_comm]
theorem inter_same (n : Nat) (xs : List Int) : ref0 n xs = int0 n xs := by
  unfold ref0 int0
  have h1 : sumTo (ref1 n xs) n = sumTo (fun k => sumTo (fun i => ref2 n xs i k) k) n := tri_swap (ref2 n xs) n
  rw [h1]
  refine sumTo_congr n fun i _ => ?_
  unfold int1
  refine sumTo_congr i fun k _ => ?_
  unfold ref2 int2
  have h2 : sumTo (ref3 n xs k i) n = sumTo (fun l => sumTo (fun j => int4 n xs k i j l) l) n := tri_swap (int4 n xs k i) n
  rw [h2]
  refine sumTo_congr n fun j _ => ?_
  unfold int3
  exact sumTo_congr j fun l _ => int4_symm n xs k i l j

end Go.Proofs.YtkmfhnjadpdkeaaDoor
