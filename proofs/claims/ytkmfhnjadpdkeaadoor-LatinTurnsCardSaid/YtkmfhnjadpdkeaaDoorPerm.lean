/-
  Orders of numbers by rank: the plain words. No program in sight. No condition.
-/
import Derived.Test.YtkmfhnjadpdkeaaDoorPure
namespace Go.Proofs.YtkmfhnjadpdkeaaDoor
open Go.RowKit

def fct : Nat → Nat
  | 0 => 1
  | n + 1 => (n + 1) * fct n
theorem fct_pos : ∀ n, 0 < fct n
  | 0 => by decide
  | n + 1 => Nat.mul_pos (by omega) (fct_pos n)
theorem fct_le : ∀ {n : Nat}, n ≤ 12 → fct n ≤ 479001600 := by
  intro n h
  have : n = 0 ∨ n = 1 ∨ n = 2 ∨ n = 3 ∨ n = 4 ∨ n = 5 ∨ n = 6 ∨ n = 7 ∨ n = 8 ∨ n = 9 ∨ n = 10 ∨ n = 11 ∨ n = 12 := by omega
  rcases this with rfl | rfl | rfl | rfl | rfl | rfl | rfl | rfl | rfl | rfl | rfl | rfl | rfl <;> decide

/-- How many numbers below x do not stand in a list. -/
def cntU (out : List Int) : Nat → Nat
  | 0 => 0
  | x + 1 => cntU out x + if mem out (x : Int) then 0 else 1
/-- The number below n that does not stand in a list and has q such below it. -/
def pickU (out : List Int) (q : Nat) : Nat → Nat
  | 0 => 0
  | x + 1 => if mem out (x : Int) = false ∧ cntU out x = q then x else pickU out q x

theorem cntU_mono (out : List Int) {x y : Nat} (h : x ≤ y) : cntU out x ≤ cntU out y := by
  induction y with
  | zero => have : x = 0 := by omega
            subst this; exact Nat.le_refl _
  | succ y ih =>
    by_cases e : x = y + 1
    · subst e; exact Nat.le_refl _
    · have := ih (by omega); rw [cntU]; omega
theorem cntU_lt (out : List Int) {x y : Nat} (h : x < y) (hx : mem out (x : Int) = false) : cntU out x < cntU out y := by
  have h1 : cntU out (x + 1) = cntU out x + 1 := by rw [cntU, hx]; rfl
  have h2 := cntU_mono out (show x + 1 ≤ y by omega)
  omega
theorem pickU_spec (out : List Int) (q : Nat) : ∀ n, q < cntU out n → pickU out q n < n ∧ mem out (pickU out q n : Int) = false ∧ cntU out (pickU out q n) = q
  | 0, h => by simp [cntU] at h
  | n + 1, h => by
    rw [pickU]
    by_cases e : mem out (n : Int) = false ∧ cntU out n = q
    · rw [if_pos e]; exact ⟨by omega, e.1, e.2⟩
    · rw [if_neg e]
      have h2 : q < cntU out n := by
        rw [cntU] at h
        cases hm : mem out (n : Int)
        · rw [hm] at h
          by_cases hq : cntU out n = q
          · exact absurd ⟨hm, hq⟩ e
          · simp at h; omega
        · rw [hm] at h; simpa using h
      obtain ⟨a, b, c⟩ := pickU_spec out q n h2
      exact ⟨by omega, b, c⟩
theorem mem_snocN (out : List Int) (x y : Nat) : mem (out ++ [(x : Int)]) (y : Int) = (mem out (y : Int) || x == y) := by
  rw [mem_snoc]; congr 1; rw [Bool.eq_iff_iff]; simp only [beq_iff_eq]; omega
theorem cntU_snoc (out : List Int) (x : Nat) (hx : mem out (x : Int) = false) : ∀ n, cntU (out ++ [(x : Int)]) n + (if x < n then 1 else 0) = cntU out n
  | 0 => rfl
  | n + 1 => by
    have ih := cntU_snoc out x hx n
    rw [cntU, cntU, mem_snocN]
    by_cases e : x = n
    · subst e
      have i1 : (if x < x then 1 else 0) = 0 := if_neg (Nat.lt_irrefl x)
      have i2 : (if x < x + 1 then 1 else 0) = 1 := if_pos (Nat.lt_succ_self x)
      rw [i1] at ih; rw [i2, hx]
      simp; omega
    · have h1 : (x == n) = false := by simp [e]
      have i2 : (if x < n + 1 then 1 else 0) = (if x < n then 1 else 0) := by
        by_cases e2 : x < n
        · rw [if_pos e2, if_pos (Nat.lt_succ_of_lt e2)]
        · rw [if_neg e2, if_neg (by omega)]
      rw [h1, Bool.or_false, i2]
      omega
theorem cntU_nil : ∀ n, cntU [] n = n
  | 0 => rfl
  | n + 1 => by rw [cntU, cntU_nil n]; rfl

/-- A list gone on with by l numbers more, by rank. -/
def unrank (n : Nat) : Nat → List Int → Nat → List Int
  | 0, out, _ => out
  | l + 1, out, k => unrank n l (out ++ [((pickU out (k / fct l) n : Nat) : Int)]) (k % fct l)
def permOf (n k : Nat) : List Int := unrank n n [] k
theorem unrank_len (n : Nat) : ∀ l out k, (unrank n l out k).length = out.length + l
  | 0, _, _ => rfl
  | l + 1, out, k => by rw [unrank, unrank_len n l]; simp; omega
theorem permOf_len (n k : Nat) : (permOf n k).length = n := by unfold permOf; rw [unrank_len]; simp
theorem unrank_mem (n : Nat) : ∀ l out k, cntU out n = l → k < fct l → (∀ y ∈ out, 0 ≤ y ∧ y < n) → ∀ y ∈ unrank n l out k, 0 ≤ y ∧ y < (n : Int)
  | 0, out, _, _, _, h, y, hy => h y hy
  | l + 1, out, k, hc, hk, h, y, hy => by
    rw [unrank] at hy
    have hq : k / fct l < l + 1 := (Nat.div_lt_iff_lt_mul (fct_pos l)).2 hk
    obtain ⟨a, b, c⟩ := pickU_spec out (k / fct l) n (by omega)
    refine unrank_mem n l _ _ ?_ (Nat.mod_lt _ (fct_pos l)) ?_ y hy
    · have := cntU_snoc out _ b n
      rw [if_pos a] at this; omega
    · intro z hz
      rcases List.mem_append.1 hz with hz | hz
      · exact h z hz
      · simp at hz; omega
theorem permOf_mem {n k : Nat} (hk : k < fct n) : ∀ y ∈ permOf n k, 0 ≤ y ∧ y < (n : Int) :=
  unrank_mem n n [] k (cntU_nil n) hk (fun y hy => by simp at hy)

end Go.Proofs.YtkmfhnjadpdkeaaDoor
