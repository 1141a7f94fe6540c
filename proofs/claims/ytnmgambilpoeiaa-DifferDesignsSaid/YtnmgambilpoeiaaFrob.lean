/-
  Plain laws: sums over a set, made a prime number of times, are the sum over the set times the prime, modulo the prime. No program in sight. No condition.
-/
import Derived.Test.YtnmgambilpoeiaaSumL
namespace Go.Proofs.Ytnmgambilpoeiaa
open Go.RowKit

def pw (S : List Nat) : Nat → (Nat → Int) → Nat → Int
  | 0, F, x => F x
  | m + 1, F, x => sumL S (fun a => pw S m F (x + a))
theorem pw_inner (S : List Nat) (F : Nat → Int) : ∀ m x, pw S m (fun y => sumL S (fun a => F (y + a))) x = pw S (m + 1) F x
  | 0, x => rfl
  | m + 1, x => by
    rw [pw]
    show _ = sumL S (fun a => pw S (m + 1) F (x + a))
    exact sumL_congr fun a _ => pw_inner S F m (x + a)
def bs : Nat → (Nat → Nat → Int) → Int
  | 0, G => G 0 0
  | m + 1, G => bs m (fun i j => G i (j + 1)) + bs m (fun i j => G (i + 1) j)
theorem bs_congr : ∀ (m : Nat) {G H : Nat → Nat → Int}, (∀ i j, G i j = H i j) → bs m G = bs m H
  | 0, _, _, h => h 0 0
  | m + 1, G, H, h => by rw [bs, bs, bs_congr m (fun i j => h i (j + 1)), bs_congr m (fun i j => h (i + 1) j)]
theorem bs_zero : ∀ m, bs m (fun _ _ => 0) = 0
  | 0 => rfl
  | m + 1 => by rw [bs, bs_zero m]; rfl
theorem bs_add : ∀ (m : Nat) (G H : Nat → Nat → Int), bs m (fun i j => G i j + H i j) = bs m G + bs m H
  | 0, _, _ => rfl
  | m + 1, G, H => by
    have h1 := bs_add m (fun i j => G i (j + 1)) (fun i j => H i (j + 1))
    have h2 := bs_add m (fun i j => G (i + 1) j) (fun i j => H (i + 1) j)
    show bs m (fun i j => G i (j + 1) + H i (j + 1)) + bs m (fun i j => G (i + 1) j + H (i + 1) j) = (bs m (fun i j => G i (j + 1)) + bs m (fun i j => G (i + 1) j)) + (bs m (fun i j => H i (j + 1)) + bs m (fun i j => H (i + 1) j))
    rw [h1, h2]; omega
theorem bs_sum (m : Nat) (G : Nat → Nat → Nat → Int) : ∀ l : List Nat, sumL l (fun b => bs m (G b)) = bs m (fun i j => sumL l (fun b => G b i j))
  | [] => (bs_zero m).symm
  | a :: l => by
    show bs m (G a) + sumL l (fun b => bs m (G b)) = bs m (fun i j => G a i j + sumL l (fun b => G b i j))
    rw [bs_add, bs_sum m G l]
theorem pw_cons (a : Nat) (S : List Nat) (F : Nat → Int) : ∀ m x, pw (a :: S) m F x = bs m (fun i j => pw S i F (x + j * a))
  | 0, x => by simp [bs, pw]
  | m + 1, x => by
    show pw (a :: S) m F (x + a) + sumL S (fun b => pw (a :: S) m F (x + b)) = _
    rw [bs, pw_cons a S F m (x + a), sumL_congr (fun b _ => pw_cons a S F m (x + b)), bs_sum]
    congr 1
    · refine bs_congr m fun i j => ?_
      rw [show x + a + j * a = x + (j + 1) * a by rw [Nat.add_mul]; omega]
    · refine bs_congr m fun i j => ?_
      show _ = sumL S (fun b => pw S i F (x + j * a + b))
      exact sumL_congr fun b _ => by rw [show x + b + j * a = x + j * a + b by omega]
/-- Pascal's numbers. -/
def bc : Nat → Nat → Nat
  | _, 0 => 1
  | 0, _ + 1 => 0
  | m + 1, j + 1 => bc m j + bc m (j + 1)
theorem bc_zero (m : Nat) : bc m 0 = 1 := by cases m <;> rfl
theorem bc_over : ∀ m j, m < j → bc m j = 0
  | 0, 0, h => by omega
  | 0, j + 1, _ => rfl
  | m + 1, 0, h => by omega
  | m + 1, j + 1, h => by rw [bc, bc_over m j (by omega), bc_over m (j + 1) (by omega)]
theorem bc_self : ∀ m, bc m m = 1
  | 0 => rfl
  | m + 1 => by rw [bc, bc_self m, bc_over m (m + 1) (by omega)]
theorem bc_absorb : ∀ m j, (j + 1) * bc (m + 1) (j + 1) = (m + 1) * bc m j
  | 0, 0 => rfl
  | 0, j + 1 => by simp [bc]
  | m + 1, 0 => by
    have h := bc_absorb m 0
    rw [bc_zero] at h
    rw [show bc (m + 1 + 1) (0 + 1) = bc (m + 1) 0 + bc (m + 1) (0 + 1) from rfl, bc_zero]; omega
  | m + 1, j + 1 => by
    have h1 := bc_absorb m j
    have h2 := bc_absorb m (j + 1)
    have e : bc (m + 1) (j + 1) = bc m j + bc m (j + 1) := rfl
    rw [show bc (m + 1 + 1) (j + 1 + 1) = bc (m + 1) (j + 1) + bc (m + 1) (j + 1 + 1) from rfl, Nat.mul_add, h2, show (j + 1 + 1) * bc (m + 1) (j + 1) = (j + 1) * bc (m + 1) (j + 1) + bc (m + 1) (j + 1) by rw [Nat.add_mul (j + 1) 1]; omega, h1,
      show (m + 1 + 1) * bc (m + 1) (j + 1) = (m + 1) * bc (m + 1) (j + 1) + bc (m + 1) (j + 1) by rw [Nat.add_mul (m + 1) 1]; omega, e, Nat.mul_add]
    omega
theorem range_first (f : Nat → Int) (k : Nat) : sumL (List.range (k + 1)) f = f 0 + sumL (List.range k) (fun j => f (j + 1)) := by
  rw [List.range_succ_eq_map]
  show f 0 + sumL ((List.range k).map Nat.succ) f = _
  rw [sumL_map]
theorem bs_all : ∀ (m : Nat) (G : Nat → Nat → Int), bs m G = sumL (List.range (m + 1)) (fun j => (bc m j : Int) * G (m - j) j)
  | 0, G => by simp [bs, sumL, bc, List.range_succ]
  | m + 1, G => by
    rw [bs, bs_all m, bs_all m, range_first _ (m + 1)]
    have e1 : sumL (List.range (m + 1)) (fun j => ((bc (m + 1) (j + 1) : Nat) : Int) * G (m + 1 - (j + 1)) (j + 1)) = sumL (List.range (m + 1)) (fun j => (bc m j : Int) * G (m - j) (j + 1)) + sumL (List.range (m + 1)) (fun j => (bc m (j + 1) : Int) * G (m - j) (j + 1)) := by
      rw [← sumL_add]
      refine sumL_congr fun j _ => ?_
      rw [show m + 1 - (j + 1) = m - j by omega, show bc (m + 1) (j + 1) = bc m j + bc m (j + 1) from rfl, Int.natCast_add, Int.add_mul]
    have e2 : sumL (List.range (m + 1)) (fun j => (bc m j : Int) * G (m - j + 1) j) = (bc m 0 : Int) * G (m + 1) 0 + sumL (List.range (m + 1)) (fun j => (bc m (j + 1) : Int) * G (m - j) (j + 1)) := by
      have h := range_first (fun j => (bc m j : Int) * G (m + 1 - j) j) (m + 1)
      rw [range_succ_sum _ (m + 1), bc_over m (m + 1) (by omega)] at h
      have h2 : sumL (List.range (m + 1)) (fun j => (bc m j : Int) * G (m - j + 1) j) = sumL (List.range (m + 1)) (fun j => (bc m j : Int) * G (m + 1 - j) j) := sumL_congr fun j hj => by
        rw [List.mem_range] at hj
        rw [show m - j + 1 = m + 1 - j by omega]
      have h3 : sumL (List.range (m + 1)) (fun j => (bc m (j + 1) : Int) * G (m + 1 - (j + 1)) (j + 1)) = sumL (List.range (m + 1)) (fun j => (bc m (j + 1) : Int) * G (m - j) (j + 1)) := sumL_congr fun j _ => by
        rw [show m + 1 - (j + 1) = m - j by omega]
      rw [h2, ← h3]
      simp at h
      omega
    rw [e1, e2, bc_zero, bc_zero]
    show _ = _ * G (m + 1) 0 + _
    omega
theorem dvd_sumL {α : Type} {p : Int} {f : α → Int} : ∀ {l : List α}, (∀ x ∈ l, p ∣ f x) → p ∣ sumL l f
  | [], _ => Int.dvd_zero p
  | a :: l, h => Int.dvd_add (h a (by simp)) (dvd_sumL fun x hx => h x (by simp [hx]))
/-- A prime. -/
def Prm (p : Nat) : Prop := 2 ≤ p ∧ ∀ d, 2 ≤ d → d < p → ¬ d ∣ p
theorem Prm.coprime {p : Nat} (h : Prm p) {a : Nat} (ha : ¬ p ∣ a) : Nat.gcd p a = 1 := by
  have h1 := Nat.gcd_dvd_left p a
  have h2 := Nat.gcd_dvd_right p a
  have hp := h.1
  have h3 : Nat.gcd p a ≤ p := Nat.le_of_dvd (by omega) h1
  have h4 : 0 < Nat.gcd p a := Nat.pos_of_dvd_of_pos h1 (by omega)
  refine Classical.byContradiction fun hne => ?_
  by_cases e : Nat.gcd p a = p
  · rw [e] at h2; exact ha h2
  · exact h.2 _ (by omega) (by omega) h1
theorem bc_dvd {p j : Nat} (h : Prm p) (h1 : 1 ≤ j) (h2 : j < p) : p ∣ bc p j := by
  obtain ⟨q, rfl⟩ : ∃ q, p = q + 1 := ⟨p - 1, by omega⟩
  obtain ⟨i, rfl⟩ : ∃ i, j = i + 1 := ⟨j - 1, by omega⟩
  have e := bc_absorb q i
  have hd : q + 1 ∣ (i + 1) * bc (q + 1) (i + 1) := by rw [e]; exact Nat.dvd_mul_right _ _
  refine Nat.Coprime.dvd_of_dvd_mul_left ?_ hd
  exact h.coprime fun hc => by have := Nat.le_of_dvd (by omega) hc; omega
theorem bs_prime {p : Nat} (h : Prm p) (G : Nat → Nat → Int) : (p : Int) ∣ bs p G - (G p 0 + G 0 p) := by
  have hp := h.1
  obtain ⟨q, rfl⟩ : ∃ q, p = q + 1 := ⟨p - 1, by omega⟩
  rw [bs_all, range_first, range_succ_sum, bc_zero, bc_self]
  have : ((q + 1 : Nat) : Int) ∣ sumL (List.range q) (fun j => ((bc (q + 1) (j + 1) : Nat) : Int) * G (q + 1 - (j + 1)) (j + 1)) := dvd_sumL fun j hj => by
    rw [List.mem_range] at hj
    exact Int.dvd_trans (Int.natCast_dvd_natCast.2 (bc_dvd h (by omega) (by omega))) (Int.dvd_mul_right _ _)
  simp only [Nat.sub_zero, Nat.sub_self]
  have e : ∀ X a b : Int, ((1 : Nat) : Int) * a + (X + ((1 : Nat) : Int) * b) - (a + b) = X := fun X a b => by simp; omega
  rw [e]; exact this
/-- The sums, a prime number of times. -/
theorem frob {p : Nat} (h : Prm p) (F : Nat → Int) : ∀ (S : List Nat) (x : Nat), (p : Int) ∣ pw S p F x - sumL S (fun a => F (x + p * a))
  | [], x => by
    have hp := h.1
    obtain ⟨q, rfl⟩ : ∃ q, p = q + 1 := ⟨p - 1, by omega⟩
    exact Int.dvd_zero _
  | a :: S, x => by
    rw [pw_cons]
    have h1 := bs_prime h (fun i j => pw S i F (x + j * a))
    have h2 := frob h F S x
    have e : bs p (fun i j => pw S i F (x + j * a)) - sumL (a :: S) (fun b => F (x + p * b)) = (bs p (fun i j => pw S i F (x + j * a)) - (pw S p F (x + 0 * a) + pw S 0 F (x + p * a))) + (pw S p F x - sumL S (fun b => F (x + p * b))) := by
      show _ - (F (x + p * a) + sumL S (fun b => F (x + p * b))) = _ - (_ + F (x + p * a)) + _
      rw [Nat.zero_mul, Nat.add_zero]; omega
    rw [e]; exact Int.dvd_add h1 h2
theorem pw_const {p c : Int} {S : List Nat} {F : Nat → Int} (h : ∀ y, p ∣ F y - c) : ∀ m x, p ∣ pw S m F x - c * (S.length : Int) ^ m
  | 0, x => by rw [Int.pow_zero, Int.mul_one]; exact h x
  | m + 1, x => by
    have e : pw S (m + 1) F x - c * (S.length : Int) ^ (m + 1) = sumL S (fun a => pw S m F (x + a) - c * (S.length : Int) ^ m) := by
      rw [sumL_sub, sumL_const, Int.pow_succ, Int.mul_assoc]; rfl
    rw [e]; exact dvd_sumL fun a _ => pw_const h m (x + a)
theorem fermat {p : Nat} (h : Prm p) (k : Nat) : (p : Int) ∣ (k : Int) ^ p - k := by
  have h1 := frob h (fun _ => 1) (List.replicate k 0) 0
  have h2 := pw_const (p := (p : Int)) (c := 1) (S := List.replicate k 0) (F := fun _ => 1) (fun _ => by simp) p 0
  rw [sumL_const, List.length_replicate] at h1
  rw [List.length_replicate, Int.one_mul] at h2
  have := Int.dvd_sub h1 h2
  have e : pw (List.replicate k 0) p (fun _ => 1) 0 - 1 * (k : Int) - (pw (List.replicate k 0) p (fun _ => 1) 0 - (k : Int) ^ p) = (k : Int) ^ p - k := by omega
  rw [e] at this; exact this
end Go.Proofs.Ytnmgambilpoeiaa
